/- Chapter 15 (least): the plain law: a table that came step by step and at which nothing is less tells the least trees. No program. -/
import Derived.Test.YtbpgolmbielpgaaLeastLaw2
import Derived.Test.YtbpgolmbielpgaaTree0
namespace Go.Proofs.Ytbpgolmbielpgaa
namespace Le
theorem better_le {b n : Int} : (n ≠ -1 → better b n ≠ -1 ∧ better b n ≤ n) ∧ (b ≠ -1 → better b n ≠ -1 ∧ better b n ≤ b) := by
  unfold better
  constructor
  · intro h
    rw [if_neg h]
    split <;> omega
  · intro h
    split
    · exact ⟨h, Int.le_refl _⟩
    · split <;> omega
theorem better_at {b n : Int} (h : better b n ≠ -1) : better b n = b ∧ b ≠ -1 ∨ better b n = n ∧ n ≠ -1 := by
  unfold better at *
  split at h
  · rename_i e
    rw [if_pos e]
    exact .inl ⟨rfl, h⟩
  · rename_i e
    rw [if_neg e]
    split at h
    · rename_i e2
      rw [if_pos e2]
      exact .inr ⟨rfl, h⟩
    · rename_i e2
      rw [if_neg e2]
      exact .inl ⟨rfl, h⟩
theorem bestF_le {f : Nat → Int} {i : Nat} : ∀ {c q : Nat}, q < c → f (i + q) ≠ -1 → bestF f i c ≠ -1 ∧ bestF f i c ≤ f (i + q)
  | 0, q, h, _ => by omega
  | c + 1, q, h, hf => by
    rw [bestF]
    by_cases e : q = c
    · subst e
      exact better_le.1 hf
    · have h1 := bestF_le (c := c) (q := q) (by omega) hf
      have h2 := (better_le (b := bestF f i c) (n := f (i + c))).2 h1.1
      exact ⟨h2.1, by omega⟩
theorem bestF_at {f : Nat → Int} {i : Nat} : ∀ {c : Nat}, bestF f i c ≠ -1 → ∃ q, q < c ∧ f (i + q) = bestF f i c
  | 0, h => absurd rfl h
  | c + 1, h => by
    rw [bestF] at h ⊢
    rcases better_at h with ⟨h1, h2⟩ | ⟨h1, _⟩
    · obtain ⟨q, hq, e⟩ := bestF_at (c := c) h2
      exact ⟨q, by omega, by rw [e, h1]⟩
    · exact ⟨c, by omega, h1.symm⟩
theorem of_range {N : Nat → Nat → Nat → Int} {word : List Int} (hN : ∀ a i j, -1 ≤ N a i j ∧ N a i j ≤ cap) : ∀ s i j, -1 ≤ ofT N word s i j ∧ ofT N word s i j ≤ cap := fun s i j => by
  unfold ofT
  split
  · exact hN _ _ _
  · unfold cap; split <;> omega
/-- No forest has fewer nodes than the table tells. -/
theorem fix_le {word : List Int} {ps : List (Int × List Int)} {N : Nat → Nat → Nat → Int} (hN : ∀ a i j, -1 ≤ N a i j ∧ N a i j ≤ cap)
    (hF : ∀ fr en, fr ≤ en → en ≤ word.length → ∀ x ∈ ps, FixR word N fr en x) :
    ∀ {f : Fo} {xs : List Int} {i j : Nat}, Fo.Of ps word f xs i j → j ≤ word.length → tl (ofT N word) j xs i ≠ -1 ∧ tl (ofT N word) j xs i ≤ min (f.nodes : Int) cap
  | .nil, xs, i, j, h, hj => by
    unfold Fo.Of at h
    obtain ⟨rfl, rfl⟩ := h
    rw [tl, if_pos rfl, Fo.nodes]
    unfold cap; omega
  | .cons p k r, xs, i, j, h, hj => by
    unfold Fo.Of at h
    obtain ⟨s, ys, m, rfl, h1, h2⟩ := h
    have hmj := h2.le
    have hr := fix_le hN hF h2 hj
    have hr0 := tl_range (of_range (word := word) hN) j ys m
    have ho : ofT N word s i m ≠ -1 ∧ ofT N word s i m ≤ 1 + k.nodes ∧ i ≤ m := by
      rcases h1 with ⟨hs, _, rfl, rfl, hw⟩ | ⟨hs, q, R, _, hq, hk⟩
      · unfold ofT
        rw [if_neg (by omega), if_pos ⟨rfl, by rw [List.getD, hw]; rfl⟩, Fo.nodes]
        omega
      · have hk1 := fix_le hN hF hk (by omega)
        have hkm := hk.le
        have hk0 := tl_range (of_range (word := word) hN) m R i
        unfold ofT
        rw [if_pos hs]
        rcases hF i m hkm (by omega) (s, R) (List.mem_of_getElem? hq) with e | ⟨e1, e2⟩
        · exact absurd e hk1.1
        · exact ⟨e1, by simp only at e2; omega, hkm⟩
    have ho0 := of_range (word := word) hN s i m
    have hb := bestF_le (f := fun e => comb (ofT N word s i e) (tl (ofT N word) j ys e)) (i := i) (c := j + 1 - i) (q := m - i) (by omega)
    rw [show i + (m - i) = m by omega] at hb
    have hc : comb (ofT N word s i m) (tl (ofT N word) j ys m) = min (ofT N word s i m + tl (ofT N word) j ys m) cap := by
      unfold comb
      rw [if_neg (by omega)]
    rw [hc] at hb
    rw [tl, Fo.nodes]
    have hb' := hb (by unfold cap at *; omega)
    refine ⟨hb'.1, ?_⟩
    have := hb'.2
    unfold cap at *
    omega
/-- What a right side's table tells is the count of a forest. -/
theorem tl_forest {word : List Int} {ps : List (Int × List Int)} {N : Nat → Nat → Nat → Int} (h : ∀ (a i j : Nat), N a i j ≠ -1 → ∃ f, Fo.Of ps word f [(a : Int)] i j ∧ min (f.nodes : Int) cap = N a i j) {en : Nat} (hen : en ≤ word.length) :
    ∀ (xs : List Int) (i : Nat), tl (ofT N word) en xs i ≠ -1 → ∃ f, Fo.Of ps word f xs i en ∧ min (f.nodes : Int) cap = tl (ofT N word) en xs i
  | [], i, h1 => by
    rw [tl] at h1 ⊢
    by_cases e : i = en
    · rw [if_pos e]
      refine ⟨.nil, ⟨rfl, e⟩, ?_⟩
      rw [Fo.nodes]; unfold cap; omega
    · exact absurd (if_neg e) h1
  | s :: r, i, h1 => by
    rw [tl] at h1 ⊢
    obtain ⟨q, hq, e⟩ := bestF_at h1
    rw [← e] at h1 ⊢
    have hne : ¬ (tl (ofT N word) en r (i + q) = -1 ∨ ofT N word s i (i + q) = -1) := fun e2 => h1 (by unfold comb; rw [if_pos e2])
    unfold comb
    rw [if_neg hne]
    obtain ⟨g, hg1, hg2⟩ := tl_forest h hen r (i + q) (fun e2 => hne (.inl e2))
    have hown : ∃ f, Fo.Of ps word f [s] i (i + q) ∧ min (f.nodes : Int) cap = ofT N word s i (i + q) := by
      have h2 : ofT N word s i (i + q) ≠ -1 := fun e2 => hne (.inr e2)
      unfold ofT at h2 ⊢
      by_cases hs : 0 ≤ s
      · rw [if_pos hs] at h2 ⊢
        obtain ⟨f, hf1, hf2⟩ := h _ _ _ h2
        rw [show ((s.toNat : Nat) : Int) = s by omega] at hf1
        exact ⟨f, hf1, hf2⟩
      · rw [if_neg hs] at h2 ⊢
        by_cases e3 : i + q = i + 1 ∧ word.getD i 0 = -1 - s
        · rw [if_pos e3]
          refine ⟨.cons s .nil .nil, ⟨s, [], i + 1, rfl, .inl ⟨by omega, rfl, rfl, rfl, ?_⟩, ⟨rfl, e3.1.symm⟩⟩, ?_⟩
          · rw [← e3.2, List.getD]
            rw [List.getElem?_eq_getElem (by omega)]
            rfl
          · simp only [Fo.nodes]; unfold cap; omega
        · exact absurd (if_neg e3) h2
    obtain ⟨f, hf1, hf2⟩ := hown
    refine ⟨f.app g, hf1.app hg1, ?_⟩
    rw [Fo.nodes_app, ← hf2, ← hg2]
    unfold cap
    omega
theorem Steps.forest {word : List Int} {ps : List (Int × List Int)} (hps : ∀ x ∈ ps, 0 ≤ x.1) {N : Nat → Nat → Nat → Int} (h : Steps word ps N) :
    ∀ (a i j : Nat), N a i j ≠ -1 → ∃ f, Fo.Of ps word f [(a : Int)] i j ∧ min (f.nodes : Int) cap = N a i j := by
  induction h with
  | init => exact fun a i j h => absurd rfl h
  | step N b fr en x h hx hfe hen ih =>
    intro a i j hn
    unfold stepR at hn ⊢
    simp only at hn ⊢
    by_cases h1 : tl (ofT N word) en x.2 fr = -1
    · rw [if_pos h1] at hn ⊢
      exact ih a i j hn
    · rw [if_neg h1] at hn ⊢
      by_cases h2 : N x.1.toNat fr en = -1 ∨ min (tl (ofT N word) en x.2 fr + 1) cap < N x.1.toNat fr en
      · rw [if_pos h2] at hn ⊢
        simp only at hn ⊢
        unfold updN at hn ⊢
        by_cases e : a = x.1.toNat ∧ i = fr ∧ j = en
        · rw [if_pos e] at hn ⊢
          obtain ⟨rfl, rfl, rfl⟩ := e
          obtain ⟨f, hf1, hf2⟩ := tl_forest ih hen x.2 i h1
          obtain ⟨q, hq⟩ := List.getElem?_of_mem hx
          refine ⟨.cons q f .nil, ⟨x.1, [], j, by rw [show ((x.1.toNat : Nat) : Int) = x.1 from by have := hps x hx; omega], .inr ⟨hps x hx, q, x.2, rfl, hq, hf1⟩, ⟨rfl, rfl⟩⟩, ?_⟩
          simp only [Fo.nodes]
          rw [← hf2]
          unfold cap
          omega
        · rw [if_neg e] at hn ⊢
          exact ih a i j hn
      · rw [if_neg h2] at hn ⊢
        exact ih a i j hn
/-- What a table tells of the trees of a symbol and a part. -/
structure LeastN (ps : List (Int × List Int)) (word : List Int) (N : Nat → Nat → Nat → Int) : Prop where
  range : ∀ a i j, -1 ≤ N a i j ∧ N a i j ≤ cap
  least : ∀ {f : Fo} {xs : List Int} {i j : Nat}, Fo.Of ps word f xs i j → j ≤ word.length → tl (ofT N word) j xs i ≠ -1 ∧ tl (ofT N word) j xs i ≤ min (f.nodes : Int) cap
  forest : ∀ {xs : List Int} {i j : Nat}, j ≤ word.length → tl (ofT N word) j xs i ≠ -1 → ∃ f, Fo.Of ps word f xs i j ∧ min (f.nodes : Int) cap = tl (ofT N word) j xs i
  one : ∀ {a i j : Nat}, N a i j ≠ -1 → ∃ f, Fo.Of ps word f [(a : Int)] i j ∧ min (f.nodes : Int) cap = N a i j
  fix : ∀ fr en, fr ≤ en → en ≤ word.length → ∀ x ∈ ps, FixR word N fr en x
theorem LeastN.mk' {word : List Int} {ps : List (Int × List Int)} {N : Nat → Nat → Nat → Int} (hps : ∀ x ∈ ps, 0 ≤ x.1) (hN : ∀ a i j, -1 ≤ N a i j ∧ N a i j ≤ cap) (hs : Steps word ps N)
    (hF : ∀ fr en, fr ≤ en → en ≤ word.length → ∀ x ∈ ps, FixR word N fr en x) : LeastN ps word N where
  range := hN
  least := fun h hj => fix_le hN hF h hj
  forest := fun hj h => tl_forest (hs.forest hps) hj _ _ h
  one := fun h => hs.forest hps _ _ _ h
  fix := hF
/-- Of one symbol: the table's own number. -/
theorem tl_one {N : Nat → Nat → Nat → Int} {word : List Int} (hN : ∀ a i j, -1 ≤ N a i j ∧ N a i j ≤ cap) {a i j : Nat} (hij : i ≤ j) : tl (ofT N word) j [(a : Int)] i = N a i j := by
  have hz : ∀ c, c ≤ j - i → bestF (fun e => comb (ofT N word (a : Int) i e) (tl (ofT N word) j [] e)) i c = -1 := fun c => by
    induction c with
    | zero => intro _; rfl
    | succ c ih =>
      intro hc
      rw [bestF, ih (by omega)]
      simp only [tl]
      rw [if_neg (by omega)]
      rfl
  rw [tl, show j + 1 - i = (j - i) + 1 by omega, bestF, hz _ (Nat.le_refl _), show i + (j - i) = j by omega]
  simp only [tl, if_true]
  unfold ofT
  rw [if_pos (by omega), Int.toNat_natCast]
  have := hN a i j
  have hc : comb (N a i j) 0 = N a i j := by
    unfold comb cap at *
    split <;> omega
  rw [hc]
  unfold better
  split
  · rename_i e; exact e.symm
  · rw [if_pos (.inl rfl)]
theorem least_nat {P : Nat → Prop} : ∀ (n : Nat), P n → ∃ m, P m ∧ ∀ q, q < m → ¬ P q := by
  intro n
  induction n using Nat.strongRecOn with
  | ind n ih =>
    intro h
    by_cases e : ∃ q, q < n ∧ P q
    · obtain ⟨q, h1, h2⟩ := e
      exact ih q h1 h2
    · exact ⟨n, h, fun q h1 h2 => e ⟨q, h1, h2⟩⟩
/-- What end looks for. -/
def EndIs (own rest : Nat → Int) (m : Int) (j : Nat) : Prop := own j ≠ -1 ∧ rest j ≠ -1 ∧ own j + rest j = m
theorem tl_end {of : Int → Nat → Nat → Int} {en : Nat} {s : Int} {r : List Int} {i : Nat} {t : Int} (h : tl of en (s :: r) i = t) (h0 : t ≠ -1) (h1 : t < cap) :
    ∃ j, i ≤ j ∧ j ≤ en ∧ EndIs (of s i) (tl of en r) t j ∧ ∀ q, i ≤ q → q < j → ¬ EndIs (of s i) (tl of en r) t q := by
  rw [tl] at h
  obtain ⟨q, hq, e⟩ := bestF_at (f := fun j => comb (of s i j) (tl of en r j)) (by rw [h]; exact h0)
  rw [h] at e
  have hne : ¬ (tl of en r (i + q) = -1 ∨ of s i (i + q) = -1) := fun e2 => h0 (by rw [← e]; unfold comb; rw [if_pos e2])
  unfold comb at e
  rw [if_neg hne] at e
  have he : EndIs (of s i) (tl of en r) t (i + q) := ⟨fun e2 => hne (.inr e2), fun e2 => hne (.inl e2), by unfold cap at *; omega⟩
  obtain ⟨j, ⟨j1, j2, j3⟩, j4⟩ := least_nat (P := fun j => i ≤ j ∧ j ≤ en ∧ EndIs (of s i) (tl of en r) t j) (i + q) ⟨by omega, by omega, he⟩
  exact ⟨j, j1, j2, j3, fun q' h2 h3 h4 => j4 q' h3 ⟨h2, by omega, h4⟩⟩
theorem of_one {ps : List (Int × List Int)} {word : List Int} : ∀ {f : Fo} {a : Int} {i j : Nat}, Fo.Of ps word f [a] i j → 0 ≤ a → ∃ (q : Nat) (R : List Int) (k : Fo), f = .cons (q : Int) k .nil ∧ ps[q]? = some (a, R) ∧ Fo.Of ps word k R i j
  | .nil, a, i, j, h, _ => by
    unfold Fo.Of at h
    exact absurd h.1 (by simp)
  | .cons p k r, a, i, j, h, ha => by
    unfold Fo.Of at h
    obtain ⟨s, ys, m, e, h1, h2⟩ := h
    injection e with e1 e2
    subst e1 e2
    cases r with
    | nil =>
      unfold Fo.Of at h2
      obtain ⟨-, rfl⟩ := h2
      rcases h1 with ⟨h3, _⟩ | ⟨_, q, R, rfl, h4, h5⟩
      · omega
      · exact ⟨q, R, k, rfl, h4, h5⟩
    | cons p2 k2 r2 =>
      unfold Fo.Of at h2
      obtain ⟨_, _, _, e, _⟩ := h2
      cases e
/-- The production of a least tree. -/
theorem LeastN.prod {ps : List (Int × List Int)} {word : List Int} {N : Nat → Nat → Nat → Int} (h : LeastN ps word N) {a fr en : Nat} {v : Int} (he : en ≤ word.length) (hv : N a fr en = v) (h0 : v ≠ -1) (h1 : v < cap) :
    1 ≤ v ∧ ∃ (q : Nat) (R : List Int), ps[q]? = some ((a : Int), R) ∧ tl (ofT N word) en R fr ≠ -1 ∧ tl (ofT N word) en R fr + 1 = v := by
  obtain ⟨f, hf1, hf2⟩ := h.one (a := a) (i := fr) (j := en) (by rw [hv]; exact h0)
  have hle := hf1.le
  obtain ⟨q, R, k, rfl, hq, hk⟩ := of_one hf1 (by omega)
  rw [hv] at hf2
  simp only [Fo.nodes] at hf2
  have hl := h.least hk he
  have hx := h.fix fr en hle he _ (List.mem_of_getElem? hq)
  unfold FixR at hx
  simp only [Int.toNat_natCast, hv] at hx
  refine ⟨by unfold cap at *; omega, q, R, hq, hl.1, ?_⟩
  rcases hx with hx | ⟨_, hx⟩
  · exact absurd hx hl.1
  · have := hl.2
    unfold cap at *
    omega
end Le
end Go.Proofs.Ytbpgolmbielpgaa
