/- Least trees are small: at most four nonterminals, right sides of at most four symbols. Plain lists. -/
import Derived.Test.YtbpgolmbielpgaaLeastLaw4
namespace Go.Proofs.Ytbpgolmbielpgaa
namespace Sm
def Mn (ps : List (Int × List Int)) (word : List Int) (a : Nat) (i j m : Nat) : Prop := (∃ f, Fo.Of ps word f [(a : Int)] i j ∧ f.nodes = m) ∧ ∀ g, Fo.Of ps word g [(a : Int)] i j → m ≤ g.nodes
theorem min_of {ps : List (Int × List Int)} {word : List Int} {a i j : Nat} {f : Fo} (h : Fo.Of ps word f [(a : Int)] i j) : ∃ m, Mn ps word a i j m ∧ m ≤ f.nodes := by
  obtain ⟨m, ⟨g, h1, h2⟩, h3⟩ := Le.least_nat (P := fun m => ∃ g, Fo.Of ps word g [(a : Int)] i j ∧ g.nodes = m) f.nodes ⟨f, h, rfl⟩
  have h4 : ∀ g, Fo.Of ps word g [(a : Int)] i j → m ≤ g.nodes := fun g hg => by
    rcases Nat.lt_or_ge g.nodes m with h5 | h5
    · exact absurd ⟨g, hg, rfl⟩ (h3 g.nodes h5)
    · exact h5
  exact ⟨m, ⟨⟨g, h1, h2⟩, h4⟩, h4 f h⟩
theorem nodup_le : ∀ (K : Nat) (U : List Nat), U.Nodup → (∀ x ∈ U, x < K) → U.length ≤ K
  | 0, U, _, h => by
    cases U with
    | nil => exact Nat.le_refl _
    | cons x r => exact absurd (h x (List.mem_cons_self ..)) (by omega)
  | K + 1, U, hn, h => by
    by_cases hk : K ∈ U
    · have h1 := nodup_le K (U.erase K) (hn.erase K) (fun x hx => by
        have h2 := (List.Nodup.mem_erase_iff hn).1 hx
        have h3 := h x h2.2
        omega)
      rw [List.length_erase_of_mem hk] at h1
      omega
    · have := nodup_le K U hn (fun x hx => by
        have h3 := h x hx
        have : x ≠ K := fun e => hk (e ▸ hx)
        omega)
      omega
structure Sys (ps : List (Int × List Int)) (K : Nat) : Prop where
  l0 : ∀ x ∈ ps, 0 ≤ x.1
  l1 : ∀ x ∈ ps, x.1 < (K : Int)
  r4 : ∀ x ∈ ps, x.2.length ≤ 4
/-- A tree's root. -/
theorem root {ps : List (Int × List Int)} {word : List Int} {K : Nat} (hs : Sys ps K) {f : Fo} {a i j : Nat} (h : Fo.Of ps word f [(a : Int)] i j) : a < K ∧ ∃ (q : Nat) (R : List Int) (k : Fo), f = .cons (q : Int) k .nil ∧ ps[q]? = some ((a : Int), R) ∧ R.length ≤ 4 ∧ Fo.Of ps word k R i j := by
  obtain ⟨q, R, k, rfl, hq, hk⟩ := Le.of_one h (by omega)
  have hm := List.mem_of_getElem? hq
  have := hs.l1 _ hm
  exact ⟨by simp only at this; omega, q, R, k, rfl, hq, hs.r4 _ hm, hk⟩
theorem mk {ps : List (Int × List Int)} {word : List Int} {a i j q : Nat} {R : List Int} {k : Fo} (hq : ps[q]? = some ((a : Int), R)) (hk : Fo.Of ps word k R i j) : Fo.Of ps word (.cons (q : Int) k .nil) [(a : Int)] i j :=
  ⟨(a : Int), [], j, rfl, .inr ⟨by omega, q, R, rfl, hq, hk⟩, rfl, rfl⟩
/-- One tree out of a forest's head. -/
theorem head {ps : List (Int × List Int)} {word : List Int} {p : Int} {k : Fo} {s : Int} {i m : Nat} (h0 : 0 ≤ s) (h1 : ∃ (q : Nat) (R : List Int), p = (q : Int) ∧ ps[q]? = some (s, R) ∧ Fo.Of ps word k R i m) : Fo.Of ps word (.cons p k .nil) [((s.toNat : Nat) : Int)] i m := by
  obtain ⟨q, R, rfl, hq, hk⟩ := h1
  refine ⟨_, [], m, rfl, .inr ⟨by omega, q, R, rfl, ?_, hk⟩, rfl, rfl⟩
  rw [show ((s.toNat : Nat) : Int) = s by omega]
  exact hq
/-- The empty part: each symbol by a small tree. -/
theorem eps {ps : List (Int × List Int)} {word : List Int} {i c M : Nat} (hc : ∀ (b : Nat) (f : Fo), Fo.Of ps word f [(b : Int)] i i → f.nodes ≤ M → ∃ f', Fo.Of ps word f' [(b : Int)] i i ∧ f'.nodes ≤ c) :
    ∀ {f : Fo} {xs : List Int}, Fo.Of ps word f xs i i → f.nodes ≤ M → ∃ f', Fo.Of ps word f' xs i i ∧ f'.nodes ≤ xs.length * c
  | .nil, xs, h, _ => by
    have h' := h
    unfold Fo.Of at h'
    obtain ⟨rfl, _⟩ := h'
    exact ⟨.nil, h, by simp [Fo.nodes]⟩
  | .cons p k r, xs, h, hM => by
    unfold Fo.Of at h
    obtain ⟨s, ys, m, rfl, h1, h2⟩ := h
    have hmi := h2.le
    rcases h1 with ⟨_, _, _, rfl, _⟩ | ⟨h0, hq⟩
    · omega
    · have h3 : i ≤ m := by obtain ⟨_, _, _, _, hk⟩ := hq; exact hk.le
      obtain rfl : m = i := by omega
      simp only [Fo.nodes] at hM
      obtain ⟨g, hg1, hg2⟩ := hc s.toNat _ (head h0 hq) (by simp only [Fo.nodes]; omega)
      obtain ⟨g', hg3, hg4⟩ := eps hc h2 (by omega)
      rw [show ((s.toNat : Nat) : Int) = s by omega] at hg1
      refine ⟨g.app g', hg1.app hg3, ?_⟩
      rw [Fo.nodes_app, List.length_cons, Nat.add_mul]
      omega
def eB : Nat → Nat
  | 0 => 0
  | k + 1 => 1 + 4 * eB k
theorem eps_chain {ps : List (Int × List Int)} {word : List Int} {K : Nat} (hs : Sys ps K) (i : Nat) : ∀ (k : Nat) (U : List Nat) (a m : Nat), U.length + k = K → U.Nodup → (∀ x ∈ U, x < K) → (∀ b ∈ U, ∀ mb, Mn ps word b i i mb → m < mb) → Mn ps word a i i m → m ≤ eB k
  | 0, U, a, m, hl, hn, hK, hU, ha => by
    have ha2 := ha
    obtain ⟨⟨f, hf, _⟩, _⟩ := ha2
    have haK := (root hs hf).1
    have hna : a ∉ U := fun h => by have := hU a h m ha; omega
    have := nodup_le K (a :: U) (List.nodup_cons.2 ⟨hna, hn⟩) (fun x hx => by rcases List.mem_cons.1 hx with rfl | hx; exact haK; exact hK x hx)
    rw [List.length_cons] at this
    omega
  | k + 1, U, a, m, hl, hn, hK, hU, ha => by
    obtain ⟨⟨f, hf, hfm⟩, hmin⟩ := ha
    obtain ⟨haK, q, R, kids, rfl, hq, hR, hk⟩ := root hs hf
    have hna : a ∉ U := fun h => by have := hU a h m ⟨⟨_, hf, hfm⟩, hmin⟩; omega
    simp only [Fo.nodes] at hfm
    obtain ⟨kids', hk1, hk2⟩ := eps (c := eB k) (M := kids.nodes) (fun b g hg hgM => by
      obtain ⟨mb, hmb, hmb2⟩ := min_of hg
      have h5 := eps_chain hs i k (a :: U) b mb (by rw [List.length_cons]; omega) (List.nodup_cons.2 ⟨hna, hn⟩) (fun x hx => by rcases List.mem_cons.1 hx with rfl | hx; exact haK; exact hK x hx)
        (fun c hc mc hmc => by
          rcases List.mem_cons.1 hc with rfl | hc
          · have h7 : m ≤ mc := by
              obtain ⟨⟨g2, hg2, e2⟩, _⟩ := hmc
              have := hmin g2 hg2
              omega
            omega
          · have := hU c hc mc hmc
            omega) hmb
      obtain ⟨⟨g2, hg2, e2⟩, _⟩ := hmb
      exact ⟨g2, hg2, by omega⟩) hk (Nat.le_refl _)
    have h8 := hmin _ (mk hq hk1)
    simp only [Fo.nodes] at h8
    have h9 : R.length * eB k ≤ 4 * eB k := Nat.mul_le_mul_right _ hR
    rw [eB]
    omega
theorem eB_mono : ∀ {k l : Nat}, k ≤ l → eB k ≤ eB l
  | 0, l, _ => Nat.zero_le _
  | k + 1, 0, h => by omega
  | k + 1, l + 1, h => by
    have := eB_mono (show k ≤ l by omega)
    rw [eB, eB]; omega
theorem eps_small {ps : List (Int × List Int)} {word : List Int} {K : Nat} (hs : Sys ps K) (hK : K ≤ 4) {a i : Nat} {f : Fo} (h : Fo.Of ps word f [(a : Int)] i i) : ∃ f', Fo.Of ps word f' [(a : Int)] i i ∧ f'.nodes ≤ 85 := by
  obtain ⟨m, hm, _⟩ := min_of h
  have h1 := eps_chain hs i K [] a m (by simp) List.nodup_nil (fun x hx => by simp at hx) (fun b hb => by simp at hb) hm
  have h2 := eB_mono hK
  have h3 : eB 4 = 85 := rfl
  obtain ⟨⟨g, hg, e⟩, _⟩ := hm
  exact ⟨g, hg, by omega⟩
/-- A part that is not empty: pieces. -/
theorem pieces {ps : List (Int × List Int)} {word : List Int} {i j C M : Nat} (hC1 : 1 ≤ C)
    (he : ∀ (b i' : Nat) (f : Fo), Fo.Of ps word f [(b : Int)] i' i' → ∃ f', Fo.Of ps word f' [(b : Int)] i' i' ∧ f'.nodes ≤ 85)
    (hp : ∀ (b i' j' : Nat) (f : Fo), i ≤ i' → j' ≤ j → i' < j' → j' - i' < j - i → Fo.Of ps word f [(b : Int)] i' j' → ∃ f', Fo.Of ps word f' [(b : Int)] i' j' ∧ f'.nodes + 1364 ≤ 2730 * (j' - i'))
    (hw : ∀ (b : Nat) (f : Fo), Fo.Of ps word f [(b : Int)] i j → f.nodes ≤ M → ∃ f', Fo.Of ps word f' [(b : Int)] i j ∧ f'.nodes ≤ C) :
    ∀ {f : Fo} {xs : List Int} {i' : Nat}, Fo.Of ps word f xs i' j → i ≤ i' → f.nodes ≤ M → ∃ f', Fo.Of ps word f' xs i' j ∧ ((i' = j → f'.nodes ≤ xs.length * 85) ∧ (i' < j → i < i' → f'.nodes + 1364 ≤ xs.length * 85 + 2730 * (j - i')) ∧ (i' < j → i' = i → f'.nodes ≤ xs.length * 85 + C ∨ f'.nodes + 2728 ≤ xs.length * 85 + 2730 * (j - i)))
  | .nil, xs, i', h, hi, hM => by
    have h' := h
    unfold Fo.Of at h'
    obtain ⟨rfl, rfl⟩ := h'
    exact ⟨.nil, h, by simp [Fo.nodes], fun h1 => by omega, fun h1 => by omega⟩
  | .cons p k r, xs, i', h, hi, hM => by
    unfold Fo.Of at h
    obtain ⟨s, ys, m, rfl, h1, h2⟩ := h
    have hmj := h2.le
    have him : i' ≤ m := by
      rcases h1 with ⟨_, _, _, rfl, _⟩ | ⟨_, _, _, _, _, hk⟩
      · omega
      · exact hk.le
    simp only [Fo.nodes] at hM
    obtain ⟨g', hg', b1, b2, b3⟩ := pieces hC1 he hp hw h2 (Nat.le_trans hi him) (by omega)
    have hone : ∃ g, Fo.Of ps word g [s] i' m ∧ (i' = m → g.nodes ≤ 85) ∧ (i' < m → m - i' < j - i → g.nodes + 1364 ≤ 2730 * (m - i')) ∧ (i' < m → i' = i → m = j → g.nodes ≤ C) := by
      rcases h1 with ⟨h0, rfl, rfl, rfl, hword⟩ | ⟨h0, hq⟩
      · refine ⟨.cons p .nil .nil, ⟨p, [], i' + 1, rfl, .inl ⟨h0, rfl, rfl, rfl, hword⟩, rfl, rfl⟩, fun e => by omega, fun _ _ => ?_, fun _ _ _ => ?_⟩
        · simp only [Fo.nodes]; omega
        · simp only [Fo.nodes]; omega
      · have hh := head h0 hq
        have hsn : ((s.toNat : Nat) : Int) = s := by omega
        have hnd : (Fo.cons p k .nil).nodes ≤ M := by simp only [Fo.nodes]; omega
        by_cases e : i' = m
        · subst e
          obtain ⟨g, hg1, hg2⟩ := he _ _ _ hh
          exact ⟨g, by rw [← hsn]; exact hg1, fun _ => hg2, fun h => by omega, fun h => by omega⟩
        · by_cases hwh : i' = i ∧ m = j
          · obtain ⟨rfl, rfl⟩ := hwh
            obtain ⟨g, hg1, hg2⟩ := hw _ _ hh hnd
            exact ⟨g, by rw [← hsn]; exact hg1, fun h => absurd h e, fun _ h => by omega, fun _ _ _ => hg2⟩
          · obtain ⟨g, hg1, hg2⟩ := hp _ i' m _ hi hmj (by omega) (by omega) hh
            exact ⟨g, by rw [← hsn]; exact hg1, fun h => absurd h e, fun _ _ => hg2, fun _ h3 h4 => absurd ⟨h3, h4⟩ hwh⟩
    obtain ⟨g, hg, c1, c2, c3⟩ := hone
    refine ⟨g.app g', hg.app hg', fun e => ?_, fun h3 h4 => ?_, fun h3 h4 => ?_⟩
    · have e1 : i' = m := by omega
      have := c1 e1
      have := b1 (by omega)
      rw [Fo.nodes_app, List.length_cons]
      omega
    · rw [Fo.nodes_app, List.length_cons]
      by_cases e1 : i' = m
      · have := c1 e1
        subst e1
        have := b2 h3 h4
        omega
      · have := c2 (by omega) (by omega)
        by_cases e2 : m = j
        · have := b1 e2
          subst e2
          omega
        · have := b2 (by omega) (by omega)
          omega
    · rw [Fo.nodes_app, List.length_cons]
      by_cases e1 : i' = m
      · have := c1 e1
        subst e1
        rcases b3 h3 h4 with h5 | h5
        · exact .inl (by omega)
        · exact .inr (by omega)
      · by_cases e2 : m = j
        · have := b1 e2
          have := c3 (by omega) h4 e2
          exact .inl (by omega)
        · have := c2 (by omega) (by omega)
          have := b2 (by omega) (by omega)
          exact .inr (by omega)
set_option maxHeartbeats 1000000 in
theorem chain {ps : List (Int × List Int)} {word : List Int} {K : Nat} (hs : Sys ps K) (hK4 : K ≤ 4) {i j : Nat} (hij : i < j)
    (hp : ∀ (b i' j' : Nat) (f : Fo), i ≤ i' → j' ≤ j → i' < j' → j' - i' < j - i → Fo.Of ps word f [(b : Int)] i' j' → ∃ f', Fo.Of ps word f' [(b : Int)] i' j' ∧ f'.nodes + 1364 ≤ 2730 * (j' - i')) :
    ∀ (k : Nat) (U : List Nat) (a m : Nat), U.length + k = K → U.Nodup → (∀ x ∈ U, x < K) → (∀ b ∈ U, ∀ mb, Mn ps word b i j mb → m < mb) → Mn ps word a i j m → m + 2728 ≤ k * 341 + 2730 * (j - i)
  | 0, U, a, m, hl, hn, hK, hU, ha => by
    have ha2 := ha
    obtain ⟨⟨f, hf, _⟩, _⟩ := ha2
    have haK := (root hs hf).1
    have hna : a ∉ U := fun h => by have := hU a h m ha; omega
    have := nodup_le K (a :: U) (List.nodup_cons.2 ⟨hna, hn⟩) (fun x hx => by rcases List.mem_cons.1 hx with rfl | hx; exact haK; exact hK x hx)
    rw [List.length_cons] at this
    omega
  | k + 1, U, a, m, hl, hn, hK, hU, ha => by
    obtain ⟨⟨f, hf, hfm⟩, hmin⟩ := ha
    obtain ⟨haK, q, R, kids, rfl, hq, hR, hk⟩ := root hs hf
    have hna : a ∉ U := fun h => by have := hU a h m ⟨⟨_, hf, hfm⟩, hmin⟩; omega
    simp only [Fo.nodes] at hfm
    obtain ⟨C, hC⟩ : ∃ C, C + 2728 = k * 341 + 2730 * (j - i) := ⟨k * 341 + 2730 * (j - i) - 2728, by omega⟩
    obtain ⟨kids', hk1, -, -, hk2⟩ := pieces (i := i) (j := j) (C := C) (M := kids.nodes) (by omega) (fun b i' f hf' => eps_small hs hK4 hf') hp (fun b g hg hgM => by
      obtain ⟨mb, hmb, hmb2⟩ := min_of hg
      have h5 := chain hs hK4 hij hp k (a :: U) b mb (by rw [List.length_cons]; omega) (List.nodup_cons.2 ⟨hna, hn⟩) (fun x hx => by rcases List.mem_cons.1 hx with rfl | hx; exact haK; exact hK x hx)
        (fun c hc mc hmc => by
          rcases List.mem_cons.1 hc with rfl | hc
          · have h7 : m ≤ mc := by
              obtain ⟨⟨g2, hg2, e2⟩, _⟩ := hmc
              have := hmin g2 hg2
              omega
            omega
          · have := hU c hc mc hmc
            omega) hmb
      obtain ⟨⟨g2, hg2, e2⟩, _⟩ := hmb
      exact ⟨g2, hg2, by omega⟩) hk (Nat.le_refl _) (Nat.le_refl _)
    have h8 := hmin _ (mk hq hk1)
    simp only [Fo.nodes] at h8
    rcases hk2 hij rfl with h9 | h9 <;> omega
theorem small {ps : List (Int × List Int)} {word : List Int} {K : Nat} (hs : Sys ps K) (hK4 : K ≤ 4) : ∀ (n : Nat) (a i j : Nat) (f : Fo), i < j → j - i = n → Fo.Of ps word f [(a : Int)] i j → ∃ f', Fo.Of ps word f' [(a : Int)] i j ∧ f'.nodes + 1364 ≤ 2730 * (j - i) := by
  intro n
  induction n using Nat.strongRecOn with
  | ind n ih =>
    intro a i j f hij hn hf
    obtain ⟨m, hm, _⟩ := min_of hf
    have h1 := chain hs hK4 hij (fun b i' j' f' h2 h3 h4 h5 h6 => ih (j' - i') (by omega) b i' j' f' h4 rfl h6) K [] a m (by simp) List.nodup_nil (fun x hx => by simp at hx) (fun b hb => by simp at hb) hm
    obtain ⟨⟨g, hg, e⟩, _⟩ := hm
    exact ⟨g, hg, by omega⟩
/-- The whole word. -/
theorem whole {ps : List (Int × List Int)} {word : List Int} {K : Nat} (hs : Sys ps K) (hK4 : K ≤ 4) (hw : word.length ≤ 20) {a : Nat} {f : Fo} (h : Fo.Of ps word f [(a : Int)] 0 word.length) : ∃ f', Fo.Of ps word f' [(a : Int)] 0 word.length ∧ f'.nodes ≤ 65536 := by
  by_cases h0 : word.length = 0
  · rw [h0] at h ⊢
    obtain ⟨f', h1, h2⟩ := eps_small hs hK4 h
    exact ⟨f', h1, by omega⟩
  · obtain ⟨f', h1, h2⟩ := small hs hK4 word.length a 0 word.length f (by omega) rfl h
    exact ⟨f', h1, by omega⟩
end Sm
end Go.Proofs.Ytbpgolmbielpgaa
