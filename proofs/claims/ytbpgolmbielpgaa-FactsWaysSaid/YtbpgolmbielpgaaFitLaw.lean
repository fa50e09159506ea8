/- Chapter 9 (facts): the plain law of what fits: empty words, lengths, first terminals. No program. -/
import Derived.Test.YtbpgolmbielpgaaFirst2
import Derived.Test.YtbpgolmbielpgaaLaw09c
namespace Go.Proofs.Ytbpgolmbielpgaa
namespace Facts

/-- Lens with its sum read. -/
theorem sumS_zero (f : Int → Int) : ∀ (r : List Int) (n : Int), 0 ≤ n → (∀ s ∈ r, 0 ≤ s → 0 ≤ f s) → sumS f r n = 0 → n = 0 ∧ (∀ s ∈ r, 0 ≤ s ∧ f s = 0)
  | [], n, _, _, h => ⟨h, by simp⟩
  | s :: r, n, hn, hf, h => by
    unfold sumS at h
    have hs := hf s (by simp)
    have h0 : 0 ≤ min (n + (if 0 ≤ s then f s else 1)) bound := by
      unfold bound
      split
      · have := hs (by assumption)
        omega
      · omega
    obtain ⟨h1, h2⟩ := sumS_zero f r _ h0 (fun t ht => hf t (by simp [ht])) h
    unfold bound at h1
    by_cases hp : 0 ≤ s
    · rw [if_pos hp] at h1
      have := hs hp
      refine ⟨by omega, fun t ht => ?_⟩
      rcases List.mem_cons.1 ht with rfl | ht
      · exact ⟨hp, by omega⟩
      · exact h2 t ht
    · rw [if_neg hp] at h1
      omega
theorem lens_nonneg {ps : List (Int × List Int)} {a m : Int} (h : Lens ps a m) : 0 ≤ m := by
  induction h with
  | mk x hx f h ih =>
    have gen : ∀ (r : List Int) (n : Int), 0 ≤ n → (∀ s ∈ r, 0 ≤ s → 0 ≤ f s) → 0 ≤ sumS f r n := by
      intro r
      induction r with
      | nil => intro n hn _; exact hn
      | cons s r ihr =>
        intro n hn hf
        unfold sumS
        refine ihr _ ?_ (fun t ht => hf t (by simp [ht]))
        unfold bound
        split
        · have := hf s (by simp) (by assumption)
          omega
        · omega
    exact gen x.2 0 (by omega) (fun s hs h0 => ih s hs h0)
theorem lens_zero {ps : List (Int × List Int)} {a m : Int} (h : Lens ps a m) (hm : m = 0) : Gen ps false a := by
  induction h with
  | mk x hx f h ih =>
    obtain ⟨_, h2⟩ := sumS_zero f x.2 0 (by omega) (fun s hs h0 => lens_nonneg (h s hs h0)) hm
    refine Gen.mk x hx (fun s hs h0 => ?_) (fun s hs h0 => ih s hs h0 (h2 s hs).2)
    have := (h2 s hs).1
    omega
/-- Who derives the empty word has the shortest length 0. -/
theorem null_sho {ps : List (Int × List Int)} {n : Nat} {ks : List Int} (hs : Sho ps n ks) (hf : fixS ps ks) {a : Int} (h0 : 0 ≤ a) (h1 : a < n) : Gen ps false a ↔ atK ks a = 0 := by
  constructor
  · intro hg
    have hle : 0 ≤ atK ks a ∧ atK ks a ≤ 0 := by
      clear h0 h1
      induction hg with
      | mk x hx g0 _ ih =>
        obtain ⟨m, e, hm⟩ := lengthS_some ks x.2 0 (fun _ => 0) (by omega) (fun s hs' h0' => ih s hs' h0')
        have hz : sumS (fun _ => 0) x.2 0 = 0 := by
          have gen : ∀ (r : List Int), (∀ s ∈ r, 0 ≤ s) → sumS (fun _ => 0) r 0 = 0 := by
            intro r
            induction r with
            | nil => intro _; rfl
            | cons s r ihr =>
              intro hr
              unfold sumS
              rw [if_pos (hr s (by simp))]
              have : min ((0 : Int) + 0) bound = 0 := by unfold bound; omega
              rw [this]
              exact ihr (fun t ht => hr t (by simp [ht]))
          refine gen x.2 (fun s hs' => ?_)
          rcases Int.lt_or_le s 0 with h | h
          · exact absurd (g0 s hs' h) (by decide)
          · exact h
        have := hf x hx m e
        omega
    omega
  · intro hk
    have hl := hs.fnd a h0 h1 (by omega)
    exact lens_zero hl hk

theorem lens_gen {ps : List (Int × List Int)} {a m : Int} (h : Lens ps a m) : Gen ps true a := by
  induction h with
  | mk x hx f _ ih => exact Gen.mk x hx (fun _ _ _ => rfl) (fun s hs h0 => ih s hs h0)

theorem come_trans {S : List (List Int)} {zs : List Int} {a b : Int} (h : Come S zs a) (k : Come S [a] b) : Come S zs b := by
  induction k with
  | base c hc =>
    have : c = a := by simpa using hc
    rw [this]
    exact h
  | step s c _ hm ih => exact .step s c ih hm
theorem come_first {S : List (List Int)} {a b : Int} (k : Come S [a] b) : b = a ∨ S.getD a.toNat [] ≠ [] := by
  induction k with
  | base c hc => exact .inl (by simpa using hc)
  | step s c _ hm ih =>
    rcases ih with rfl | h
    · exact .inr (fun e => by rw [e] at hm; cases hm)
    · exact .inr h

theorem putT_mem (fs : List (List Int)) (a b : Nat) (t : Option Int) (z : Int) (ha : a < fs.length) : z ∈ (putT fs a t).getD b [] ↔ z ∈ fs.getD b [] ∨ (b = a ∧ t = some z) := by
  cases t with
  | none => simp [putT]
  | some t =>
    unfold putT
    by_cases hb : b = a
    · subst hb
      rw [List.getD, List.getElem?_set_self ha]
      simp only [Option.getD_some, List.mem_cons, true_and, Option.some.injEq]
      constructor
      · rintro (h | h)
        · exact .inr h.symm
        · exact .inl h
      · rintro (h | h)
        · exact .inr h
        · exact .inl h.symm
    · rw [List.getD, List.getElem?_set_ne (fun e => hb e.symm)]
      simp [List.getD, hb]
theorem firT_mem (f : List Int → Option Int) (b : Nat) (z : Int) : ∀ (ps : List (Int × List Int)) (fs : List (List Int)), (∀ x ∈ ps, 0 ≤ x.1 ∧ x.1 < fs.length) → (z ∈ (firT f fs ps).getD b [] ↔ z ∈ fs.getD b [] ∨ ∃ x ∈ ps, x.1 = b ∧ f x.2 = some z)
  | [], fs, _ => by simp [firT]
  | x :: r, fs, h => by
    obtain ⟨h0, h1⟩ := h x (by simp)
    rw [firT, firT_mem f b z r _ (fun y hy => by rw [putT_length]; exact h y (by simp [hy])), putT_mem fs x.1.toNat b (f x.2) z (by omega)]
    constructor
    · rintro ((h2 | ⟨h2, h3⟩) | ⟨y, hy, h2⟩)
      · exact .inl h2
      · exact .inr ⟨x, by simp, by omega, h3⟩
      · exact .inr ⟨y, by simp [hy], h2⟩
    · rintro (h2 | ⟨y, hy, h2, h3⟩)
      · exact .inl (.inl h2)
      · rcases List.mem_cons.1 hy with rfl | hy
        · exact .inl (.inr ⟨by omega, h3⟩)
        · exact .inr ⟨y, hy, h2, h3⟩

section
variable {ps : List (Int × List Int)} {n : Nat} {nul gen : Int → Bool}
theorem rep_getD (n b : Nat) : (List.replicate n ([] : List Int)).getD b [] = [] := by
  rw [List.getD, List.getElem?_replicate]
  split <;> rfl
theorem first_of (hps : ∀ x ∈ ps, 0 ≤ x.1 ∧ x.1 < (n : Int)) (hnul : ∀ a : Int, 0 ≤ a → (nul a = true ↔ Gen ps false a)) (hgen : ∀ a : Int, 0 ≤ a → (gen a = true ↔ Gen ps true a)) {a m : Int} (h : Lens ps a m) (hm : 0 < m) :
    ∃ z, FstOf (allT (stepF nul gen) (List.replicate n []) ps) (firT (terF nul gen) (List.replicate n []) ps) a z := by
  induction h with
  | mk x hx f h ih =>
    obtain ⟨hx0, hx1⟩ := hps x hx
    have hok : x.2.any (badS gen) = false := by
      rw [Bool.eq_false_iff]
      intro hb
      obtain ⟨s, hs, hbs⟩ := List.any_eq_true.1 hb
      simp only [badS, Bool.and_eq_true, decide_eq_true_eq, Bool.not_eq_true'] at hbs
      have := (hgen s hbs.1).2 (lens_gen (h s hs hbs.1))
      rw [hbs.2] at this
      cases this
    have key : ∀ (r : List Int), (∀ s ∈ r, s ∈ x.2) → 0 < sumS f r 0 → (∃ z, terS nul r = some z) ∨ ∃ s ∈ preS nul r, 0 ≤ s ∧ s ∈ x.2 ∧ 0 < f s := by
      intro r
      induction r with
      | nil => intro _ h0; simp [sumS] at h0
      | cons s r ihr =>
        intro hr h0
        by_cases hs : s < 0
        · exact .inl ⟨-1 - s, by unfold terS; rw [if_pos hs]⟩
        · have hs0 : 0 ≤ s := by omega
          have hl := h s (hr s (by simp)) hs0
          have hnn := lens_nonneg hl
          by_cases hz : f s = 0
          · have hn : nul s = true := (hnul s hs0).2 (lens_zero hl hz)
            unfold sumS at h0
            rw [if_pos hs0, hz, show min ((0 : Int) + 0) bound = 0 by unfold bound; omega] at h0
            unfold terS preS
            rw [if_neg hs, if_neg hs, if_pos hn, if_pos hn]
            rcases ihr (fun t ht => hr t (by simp [ht])) h0 with h1 | ⟨t, ht, h2⟩
            · exact .inl h1
            · exact .inr ⟨t, by simp [ht], h2⟩
          · refine .inr ⟨s, ?_, hs0, hr s (by simp), by omega⟩
            unfold preS
            rw [if_neg hs]
            split <;> simp
    obtain ⟨k, hk⟩ := Int.eq_ofNat_of_zero_le hx0
    rcases key x.2 (fun s hs => hs) hm with ⟨z, hz⟩ | ⟨s, hs, hs0, hsx, hfs⟩
    · refine ⟨z, k, .base _ (by simp [hk]), (firT_mem _ k z ps _ (fun y hy => by simpa using hps y hy)).2 (.inr ⟨x, hx, hk, ?_⟩)⟩
      unfold terF
      rw [hok]
      exact hz
    · obtain ⟨z, s', hc, hz⟩ := ih s hsx hs0 hfs
      refine ⟨z, s', come_trans (.step x.1 s (.base _ (by simp)) ?_) hc, hz⟩
      rw [hk, Int.toNat_natCast]
      refine (allT_mem _ k s ps _ (fun y hy => by simpa using hps y hy)).2 (.inr ⟨x, hx, hk, ?_⟩)
      unfold stepF
      rw [hok]
      exact hs

theorem gen_of_ok (hgen : ∀ a : Int, 0 ≤ a → (gen a = true ↔ Gen ps true a)) {x : Int × List Int} (hx : x ∈ ps) (h : x.2.any (badS gen) = false) : Gen ps true x.1 := by
  refine Gen.mk x hx (fun _ _ _ => rfl) (fun s hs h0 => ?_)
  have hb : badS gen s = false := by
    cases hb : badS gen s
    · rfl
    · exact absurd (List.any_eq_true.2 ⟨s, hs, hb⟩) (by rw [h]; decide)
  simp only [badS, Bool.and_eq_false_imp, decide_eq_true_eq, Bool.not_eq_false'] at hb
  exact (hgen s h0).1 (hb h0)
theorem first_gen (hps : ∀ x ∈ ps, 0 ≤ x.1 ∧ x.1 < (n : Int)) (hgen : ∀ a : Int, 0 ≤ a → (gen a = true ↔ Gen ps true a)) {a z : Int} (ha : 0 ≤ a) (h : FstOf (allT (stepF nul gen) (List.replicate n []) ps) (firT (terF nul gen) (List.replicate n []) ps) a z) : Gen ps true a := by
  obtain ⟨s, hc, hz⟩ := h
  obtain ⟨k, rfl⟩ := Int.eq_ofNat_of_zero_le ha
  rcases come_first hc with h1 | h1
  · have hsk : s = k := by omega
    subst hsk
    rcases (firT_mem _ s z ps _ (fun y hy => by simpa using hps y hy)).1 hz with h2 | ⟨x, hx, h2, h3⟩
    · rw [rep_getD] at h2
      cases h2
    · unfold terF at h3
      cases hb : x.2.any (badS gen) with
      | true => rw [hb] at h3; cases h3
      | false =>
        have := gen_of_ok hgen hx hb
        rwa [h2] at this
  · rw [Int.toNat_natCast] at h1
    obtain ⟨t, ht⟩ := List.exists_mem_of_ne_nil _ h1
    rcases (allT_mem _ k t ps _ (fun y hy => by simpa using hps y hy)).1 ht with h2 | ⟨x, hx, h2, h3⟩
    · rw [rep_getD] at h2
      cases h2
    · unfold stepF at h3
      cases hb : x.2.any (badS gen) with
      | true => rw [hb] at h3; cases h3
      | false =>
        have := gen_of_ok hgen hx hb
        rwa [h2] at this
end

/-- A right side's length and whether all derive something, from (m, ok) on. -/
def nokS (ks : List Int) (gb : List Bool) : List Int → Int → Bool → Int × Bool
  | [], m, ok => (m, ok)
  | s :: r, m, ok => if s < 0 then nokS ks gb r (m + 1) ok else nokS ks gb r (m + max (atK ks s) 0) (ok && inB gb s)
theorem nokS_false (ks : List Int) (gb : List Bool) : ∀ (r : List Int) (m m' : Int), nokS ks gb r m false ≠ (m', true)
  | [], m, m' => by simp [nokS]
  | s :: r, m, m' => by
    unfold nokS
    split
    · exact nokS_false ks gb r _ m'
    · exact nokS_false ks gb r _ m'
theorem nokS_len {ks : List Int} {gb : List Bool} : ∀ (r : List Int) (m c m' : Int), (∀ s ∈ r, 0 ≤ s → inB gb s = true → 0 ≤ atK ks s) → 0 ≤ c → c ≤ m → nokS ks gb r m true = (m', true) → ∃ c', lengthS ks r c = some c' ∧ c' ≤ m'
  | [], m, c, m', _, _, hcm, h => by
    unfold nokS at h
    cases h
    exact ⟨c, rfl, hcm⟩
  | s :: r, m, c, m', hg, hc, hcm, h => by
    unfold nokS at h
    unfold lengthS
    by_cases hs : s < 0
    · rw [if_pos hs] at h
      simp only [show ¬ (0 ≤ s) by omega, if_false]
      rw [if_neg (by omega)]
      exact nokS_len r _ _ m' (fun t ht => hg t (by simp [ht])) (by unfold bound; omega) (by unfold bound; omega) h
    · rw [if_neg hs] at h
      cases hb : inB gb s with
      | false =>
        rw [hb] at h
        exact absurd h (nokS_false ks gb r _ m')
      | true =>
        have h0 := hg s (by simp) (by omega) hb
        rw [hb] at h
        unfold atK at h0 h
        simp only [show 0 ≤ s by omega, if_true]
        rw [if_neg (by omega)]
        exact nokS_len r _ _ m' (fun t ht => hg t (by simp [ht])) (by unfold bound; omega) (by unfold bound; omega) h

/-- What the five tell fits. -/
structure FitG (G : Gr) (bs gb rb : List Bool) (ks : List Int) (sss : List (List Int)) : Prop where
  lb : bs.length = G.names.length
  lg : gb.length = G.names.length
  lr : rb.length = G.names.length
  lk : ks.length = G.names.length
  ls : sss.length = G.names.length
  rng : ∀ k ∈ ks, -1 ≤ k ∧ k ≤ 1099511627776
  nul : ∀ i : Nat, i < G.names.length → bs.getD i false = decide (ks.getD i 0 = 0)
  gen : ∀ i : Nat, i < G.names.length → gb.getD i false = decide (0 ≤ ks.getD i 0)
  fst : ∀ i : Nat, i < G.names.length → 0 < ks.getD i 0 → (sss.getD i []).length ≠ 0
  non : ∀ i : Nat, i < G.names.length → ks.getD i 0 < 0 → (sss.getD i []).length = 0
  len : ∀ x ∈ G.prods, ∀ m, nokS ks gb x.2 0 true = (m, true) → inB gb x.1 = true ∧ atK ks x.1 ≤ m
  rch : ∀ x ∈ G.prods, inB rb x.1 = true → ∀ s ∈ x.2, 0 ≤ s → inB rb s = true
  str : inB rb G.start = true
theorem bool_dec {b : Bool} {p : Prop} [Decidable p] (h : b = true ↔ p) : b = decide p := by
  cases b
  · symm; rw [decide_eq_false_iff_not]; exact fun hp => absurd (h.2 hp) (by decide)
  · symm; rw [decide_eq_true_iff]; exact h.1 rfl
theorem fitG {G : Gr} (hs : Pl.soundB G = true) {bs gb rb nb gb2 : List Bool} {ks : List Int} {sss : List (List Int)} (lb : bs.length = G.names.length) (lg : gb.length = G.names.length) (lr : rb.length = G.names.length)
    (hsh : Sho G.prods G.names.length ks) (hfx : fixS G.prods ks) (hn : ∀ a : Int, 0 ≤ a → (inB bs a = true ↔ Gen G.prods false a)) (hg : ∀ a : Int, 0 ≤ a → (inB gb a = true ↔ Gen G.prods true a))
    (hr : ∀ a : Int, 0 ≤ a → (inB rb a = true ↔ Come (allT ntS (List.replicate G.names.length []) G.prods) [G.start] a)) (ls : sss.length = G.names.length)
    (hn2 : ∀ a : Int, 0 ≤ a → (inB nb a = true ↔ Gen G.prods false a)) (hg2 : ∀ a : Int, 0 ≤ a → (inB gb2 a = true ↔ Gen G.prods true a))
    (hf : ∀ (a : Nat) ss, sss[a]? = some ss → RiseP (FstOf (allT (stepF (inB nb) (inB gb2)) (List.replicate G.names.length []) G.prods) (firT (terF (inB nb) (inB gb2)) (List.replicate G.names.length []) G.prods) a) ss) :
    FitG G bs gb rb ks sss := by
  have hsg := sndG hs
  have hps : ∀ x ∈ G.prods, 0 ≤ x.1 ∧ x.1 < (G.names.length : Int) := fun x hx => ⟨hsg.l0 x hx, hsg.l1 x hx⟩
  have hst := hsg.s0
  have hst1 := hsg.s1
  have row : ∀ i : Nat, i < G.names.length → sss[i]? = some (sss.getD i []) := fun i hi => by
    rw [List.getD, List.getElem?_eq_getElem (by omega)]; rfl
  refine ⟨lb, lg, lr, hsh.len, ls, hsh.rng, fun i hi => ?_, fun i hi => ?_, fun i hi h0 => ?_, fun i hi h0 => ?_, fun x hx m hm => ?_, fun x hx h0 s hs' hs0 => ?_, ?_⟩
  · refine bool_dec ?_
    have h1 := hn (i : Int) (by omega)
    have h2 := null_sho hsh hfx (a := (i : Int)) (by omega) (by omega)
    have h3 := h1.trans h2
    unfold inB atK at h3
    rwa [Int.toNat_natCast] at h3
  · refine bool_dec ?_
    have h1 := hg (i : Int) (by omega)
    have h2 := gen_sho hsh hfx (a := (i : Int)) (by omega) (by omega)
    have h3 := h1.trans h2
    unfold inB atK at h3
    rwa [Int.toNat_natCast] at h3
  · have hl := hsh.fnd (i : Int) (by omega) (by omega) (by unfold atK; rw [Int.toNat_natCast]; omega)
    obtain ⟨z, hz⟩ := first_of (nul := inB nb) (gen := inB gb2) hps hn2 hg2 hl (by unfold atK; rw [Int.toNat_natCast]; exact h0)
    have hm := ((hf i _ (row i hi)).2 z).2 hz
    intro e
    rw [List.eq_nil_of_length_eq_zero e] at hm
    cases hm
  · cases e : sss.getD i [] with
    | nil => rfl
    | cons z r =>
      have hz := ((hf i _ (row i hi)).2 z).1 (by rw [e]; simp)
      have hgen := first_gen hps hg2 (a := (i : Int)) (by omega) hz
      have h2 := (gen_sho hsh hfx (a := (i : Int)) (by omega) (by omega)).1 hgen
      unfold atK at h2
      rw [Int.toNat_natCast] at h2
      omega
  · have h0 := hsg.l0 x hx
    have h1 := hsg.l1 x hx
    obtain ⟨c, hc, hcm⟩ := nokS_len x.2 0 0 m (fun s hs' hs0 hb => by
      have hg' := (hg s hs0).1 hb
      exact (gen_sho hsh hfx hs0 (hsg.r1 x hx s hs')).1 hg') (by omega) (by omega) hm
    obtain ⟨h2, h3⟩ := hfx x hx c hc
    exact ⟨(hg x.1 h0).2 ((gen_sho hsh hfx h0 h1).2 h2), by omega⟩
  · have h1 := hsg.l0 x hx
    obtain ⟨k, hk⟩ := Int.eq_ofNat_of_zero_le h1
    refine (hr s hs0).2 (.step x.1 s ((hr x.1 h1).1 h0) ?_)
    rw [hk, Int.toNat_natCast]
    refine (allT_mem _ k s G.prods _ (fun y hy => by simpa using hps y hy)).2 (.inr ⟨x, hx, hk, ?_⟩)
    simp [ntS, hs', hs0]
  · exact (hr _ hst).2 (.base _ (by simp))
end Facts
end Go.Proofs.Ytbpgolmbielpgaa
