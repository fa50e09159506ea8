/- Chapter 9, the document's answer: First: law and rows. -/
import Derived.Test.YtbpgolmbielpgaaFitLaw
import Derived.Test.YtbpgolmbielpgaaRef9e
namespace Go.Proofs.Ytbpgolmbielpgaa
open Go.RowKit

namespace Facts
/-- A table of bools. -/
def tb (F : List (List Bool)) (a z : Nat) : Bool := (F.getD a []).getD z false
def cntT (F : List (List Bool)) : Nat := (F.map (List.count false)).sum
theorem tb_set {F : List (List Bool)} {a z : Nat} {l : List Bool} (hl : F[a]? = some l) (hz : z < l.length) (a' z' : Nat) : tb (F.set a (l.set z true)) a' z' = ((a' == a && z' == z) || tb F a' z') := by
  have ha : a < F.length := (List.getElem?_eq_some_iff.1 hl).1
  unfold tb
  by_cases e : a' = a
  · subst e
    have e1 : (F.set a' (l.set z true)).getD a' [] = l.set z true := by rw [List.getD, List.getElem?_set_self ha]; rfl
    have e2 : F.getD a' [] = l := by rw [List.getD, hl]; rfl
    rw [e1, e2]
    simp only [beq_self_eq_true, Bool.true_and]
    by_cases e3 : z' = z
    · subst e3
      rw [List.getD, List.getElem?_set_self hz]
      simp
    · rw [List.getD, List.getElem?_set_ne (fun h => e3 h.symm)]
      simp [List.getD, e3]
  · have e1 : (F.set a (l.set z true)).getD a' [] = F.getD a' [] := by rw [List.getD, List.getElem?_set_ne (fun h => e h.symm)]; rfl
    rw [e1]
    simp [e]
theorem cntT_set : ∀ {F : List (List Bool)} {a z : Nat} {l : List Bool}, F[a]? = some l → l[z]? = some false → cntT (F.set a (l.set z true)) + 1 = cntT F
  | [], a, z, l, h, _ => by simp at h
  | f :: r, 0, z, l, h, hz => by
    simp only [List.getElem?_cons_zero, Option.some.injEq] at h
    subst h
    have := count_set_true f z hz
    simp only [cntT, List.set_cons_zero, List.map_cons, List.sum_cons]
    omega
  | f :: r, a + 1, z, l, h, hz => by
    simp only [List.getElem?_cons_succ] at h
    have := cntT_set (F := r) h hz
    simp only [cntT, List.set_cons_succ, List.map_cons, List.sum_cons] at this ⊢
    omega

section
variable {ps : List (Int × List Int)} {n t : Nat} {nul gen : Int → Bool}
abbrev LS (ps : List (Int × List Int)) (n : Nat) (nul gen : Int → Bool) : List (List Int) := allT (stepF nul gen) (List.replicate n []) ps
abbrev FS (ps : List (Int × List Int)) (n : Nat) (nul gen : Int → Bool) : List (List Int) := firT (terF nul gen) (List.replicate n []) ps
theorem fst_ter (hps : ∀ x ∈ ps, 0 ≤ x.1 ∧ x.1 < (n : Int)) {x : Int × List Int} (hx : x ∈ ps) (hok : x.2.any (badS gen) = false) {z : Int} (hz : terS nul x.2 = some z) : FstOf (LS ps n nul gen) (FS ps n nul gen) x.1 z := by
  obtain ⟨k, hk⟩ := Int.eq_ofNat_of_zero_le (hps x hx).1
  refine ⟨k, .base _ (by simp [hk]), (firT_mem _ k z ps _ (fun y hy => by simpa using hps y hy)).2 (.inr ⟨x, hx, hk, ?_⟩)⟩
  unfold terF
  rw [hok]
  exact hz
theorem fst_pre (hps : ∀ x ∈ ps, 0 ≤ x.1 ∧ x.1 < (n : Int)) {x : Int × List Int} (hx : x ∈ ps) (hok : x.2.any (badS gen) = false) {s z : Int} (hs : s ∈ preS nul x.2) (h : FstOf (LS ps n nul gen) (FS ps n nul gen) s z) : FstOf (LS ps n nul gen) (FS ps n nul gen) x.1 z := by
  obtain ⟨s', hc, hz⟩ := h
  obtain ⟨k, hk⟩ := Int.eq_ofNat_of_zero_le (hps x hx).1
  refine ⟨s', come_trans (.step x.1 s (.base _ (by simp)) ?_) hc, hz⟩
  rw [hk, Int.toNat_natCast]
  refine (allT_mem _ k s ps _ (fun y hy => by simpa using hps y hy)).2 (.inr ⟨x, hx, hk, ?_⟩)
  unfold stepF
  rw [hok]
  exact hs

/-- What holds of the table all along. -/
structure TabR (ps : List (Int × List Int)) (n t : Nat) (nul gen : Int → Bool) (F : List (List Bool)) : Prop where
  len : F.length = n
  rl : ∀ l ∈ F, l.length = t
  snd : ∀ a z : Nat, tb F a z = true → FstOf (LS ps n nul gen) (FS ps n nul gen) a z
/-- What a right side asks for. -/
def Ob (nul : Int → Bool) (t : Nat) (F : List (List Bool)) (l : Nat) (r : List Int) : Prop := (∀ s : Nat, (s : Int) ∈ preS nul r → ∀ z, z < t → tb F s z = true → tb F l z = true) ∧ ∀ z : Nat, terS nul r = some (z : Int) → tb F l z = true
def fixT (ps : List (Int × List Int)) (t : Nat) (nul gen : Int → Bool) (F : List (List Bool)) (i : Nat) : Prop := ∀ (j : Nat) x, j < i → ps[j]? = some x → x.2.any (badS gen) = false → Ob nul t F x.1.toNat x.2

theorem tb_lt {F : List (List Bool)} (hl : ∀ l ∈ F, l.length = t) {a z : Nat} (h : tb F a z = true) : a < F.length ∧ z < t := by
  unfold tb at h
  rcases Nat.lt_or_ge a F.length with ha | ha
  · refine ⟨ha, ?_⟩
    have e : F.getD a [] = F[a] := by simp [List.getD, List.getElem?_eq_getElem ha]
    rw [e] at h
    rw [← hl F[a] (List.getElem_mem ha)]
    exact gB_lt h
  · rw [show F.getD a [] = [] by simp [List.getD, List.getElem?_eq_none ha]] at h
    simp at h
theorem preS_sub (nul : Int → Bool) : ∀ (r : List Int) (s : Int), s ∈ preS nul r → s ∈ r ∧ 0 ≤ s
  | [], s, h => by simp [preS] at h
  | x :: r, s, h => by
    unfold preS at h
    split at h
    · cases h
    · rename_i h0
      split at h
      · rcases List.mem_cons.1 h with rfl | h
        · exact ⟨by simp, by omega⟩
        · have := preS_sub nul r s h
          exact ⟨by simp [this.1], this.2⟩
      · have : s = x := by simpa using h
        subst this
        exact ⟨by simp, by omega⟩
theorem terS_sub (nul : Int → Bool) : ∀ (r : List Int) (z : Int), terS nul r = some z → ∃ s ∈ r, s < 0 ∧ z = -1 - s
  | [], z, h => by simp [terS] at h
  | x :: r, z, h => by
    unfold terS at h
    split at h
    · rename_i h0
      injection h with h
      exact ⟨x, by simp, h0, h.symm⟩
    · split at h
      · obtain ⟨s, hs, h1⟩ := terS_sub nul r z h
        exact ⟨s, by simp [hs], h1⟩
      · cases h
theorem TabR.least {F : List (List Bool)} (h : TabR ps n t nul gen F) (hps : ∀ x ∈ ps, 0 ≤ x.1 ∧ x.1 < (n : Int)) (_hr0 : ∀ x ∈ ps, ∀ s ∈ x.2, -(t : Int) ≤ s) (hf : fixT ps t nul gen F ps.length) (a : Nat) (z : Int) :
    FstOf (LS ps n nul gen) (FS ps n nul gen) a z ↔ 0 ≤ z ∧ tb F a z.toNat = true := by
  constructor
  · rintro ⟨s, hc, hz⟩
    rcases (firT_mem _ s z ps _ (fun y hy => by simpa using hps y hy)).1 hz with h2 | ⟨x, hx, h2, h3⟩
    · rw [rep_getD] at h2
      cases h2
    · obtain ⟨j, hj⟩ := List.getElem?_of_mem hx
      have hjl := (List.getElem?_eq_some_iff.1 hj).1
      unfold terF at h3
      have hb : x.2.any (badS gen) = false := by
        cases hb : x.2.any (badS gen) with
        | false => rfl
        | true => rw [hb] at h3; cases h3
      rw [hb] at h3
      have h3 : terS nul x.2 = some z := h3
      obtain ⟨q, hq, hq0, hqz⟩ := terS_sub nul x.2 z h3
      have hz0 : 0 ≤ z := by omega
      obtain ⟨zn, rfl⟩ := Int.eq_ofNat_of_zero_le hz0
      refine ⟨hz0, ?_⟩
      rw [Int.toNat_natCast]
      have hsz := (hf j x hjl hj hb).2 zn h3
      rw [h2, Int.toNat_natCast] at hsz
      have hzt := (tb_lt h.rl hsz).2
      -- backwards along the steps
      have key : ∀ b : Int, Come (LS ps n nul gen) [(a : Int)] b → 0 ≤ b ∧ (tb F b.toNat zn = true → tb F a zn = true) := by
        intro b hb
        induction hb with
        | base c hc =>
          have : c = a := by simpa using hc
          subst this
          exact ⟨by omega, fun h => by rwa [Int.toNat_natCast] at h⟩
        | step b c _ hm ih =>
          obtain ⟨h0, h1⟩ := ih
          obtain ⟨k, hk⟩ := Int.eq_ofNat_of_zero_le h0
          rw [hk, Int.toNat_natCast] at hm
          rcases (allT_mem _ k c ps _ (fun y hy => by simpa using hps y hy)).1 hm with h2 | ⟨y, hy, h2, h3⟩
          · rw [rep_getD] at h2
            cases h2
          · obtain ⟨j', hj'⟩ := List.getElem?_of_mem hy
            unfold stepF at h3
            have hb' : y.2.any (badS gen) = false := by
              cases hb : y.2.any (badS gen) with
              | false => rfl
              | true => rw [hb] at h3; cases h3
            rw [hb'] at h3
            have h3 : c ∈ preS nul y.2 := h3
            have hc0 := (preS_sub nul y.2 c h3).2
            obtain ⟨cn, rfl⟩ := Int.eq_ofNat_of_zero_le hc0
            refine ⟨hc0, fun h4 => h1 ?_⟩
            rw [Int.toNat_natCast] at h4
            have := (hf j' y (List.getElem?_eq_some_iff.1 hj').1 hj' hb').1 cn h3 zn hzt h4
            rwa [h2, ← hk] at this
      exact (key s hc).2 (by rw [Int.toNat_natCast]; exact hsz)
  · rintro ⟨h0, h1⟩
    have := h.snd a z.toNat h1
    rwa [Int.toNat_of_nonneg h0] at this

theorem preS_congr {nul nul' : Int → Bool} (h : ∀ a, 0 ≤ a → nul a = nul' a) : ∀ r, preS nul r = preS nul' r
  | [] => rfl
  | s :: r => by
    unfold preS
    split
    · rfl
    · rw [h s (by omega), preS_congr h r]
theorem terS_congr {nul nul' : Int → Bool} (h : ∀ a, 0 ≤ a → nul a = nul' a) : ∀ r, terS nul r = terS nul' r
  | [] => rfl
  | s :: r => by
    unfold terS
    split
    · rfl
    · rw [h s (by omega), terS_congr h r]
theorem bad_congr {gen gen' : Int → Bool} (h : ∀ a, 0 ≤ a → gen a = gen' a) (r : List Int) : r.any (badS gen) = r.any (badS gen') := by
  refine List.any_congr rfl (fun s => ?_) <;> try rfl
  unfold badS
  by_cases hs : 0 ≤ s
  · rw [h s hs]
  · simp [hs]
theorem bool_same {f g : Int → Bool} {p : Int → Prop} (hf : ∀ a, 0 ≤ a → (f a = true ↔ p a)) (hg : ∀ a, 0 ≤ a → (g a = true ↔ p a)) (a : Int) (ha : 0 ≤ a) : f a = g a := Bool.eq_iff_iff.2 ((hf a ha).trans (hg a ha).symm)
theorem LS_congr {nul' gen' : Int → Bool} (hn : ∀ a, 0 ≤ a → nul a = nul' a) (hg : ∀ a, 0 ≤ a → gen a = gen' a) : LS ps n nul gen = LS ps n nul' gen' := by
  have : stepF nul gen = stepF nul' gen' := by
    funext r
    unfold stepF
    rw [bad_congr hg, preS_congr hn]
  unfold LS
  rw [this]
theorem FS_congr {nul' gen' : Int → Bool} (hn : ∀ a, 0 ≤ a → nul a = nul' a) (hg : ∀ a, 0 ≤ a → gen a = gen' a) : FS ps n nul gen = FS ps n nul' gen' := by
  have : terF nul gen = terF nul' gen' := by
    funext r
    unfold terF
    rw [bad_congr hg, terS_congr hn]
  unfold FS
  rw [this]
end
end Facts
end Go.Proofs.Ytbpgolmbielpgaa
