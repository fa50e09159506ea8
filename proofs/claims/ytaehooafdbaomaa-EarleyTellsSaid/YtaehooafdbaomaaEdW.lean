/- Chapter 17 (earley): viable prefixes, how far they go, what comes next. Plain lists. -/
import Derived.Test.YtaehooafdbaomaaEarP
namespace Go.Proofs.Ytaehooafdbaomaa
open Go.RowKit
namespace Ed

section
variable {ps : List (Int × List Int)} {st : Int} {word : List Int} {Xs : List (List Itm)}
theorem Pre.front {xs z y : List Int} (h : Pre ps xs (z ++ y)) : Pre ps xs z := by
  obtain ⟨u, hu⟩ := h
  exact ⟨y ++ u, by rw [← List.append_assoc]; exact hu⟩
theorem Pre.of {xs z : List Int} (h : Dw ps xs z) : Pre ps xs z := ⟨[], by rwa [List.append_nil]⟩
/-- A set is there just where the word so far begins a word. -/
theorem SetsAre.at_ (h : SetsAre ps st word Xs) (h0 : ∀ x ∈ ps, 0 ≤ x.1) (hst : 0 ≤ st) {n : Nat} (hn : n ≤ word.length) : n < Xs.length ↔ Pre ps [st] (word.take n) := by
  rw [pre_iff h0 hst hn]
  constructor
  · intro hl
    obtain ⟨X, hX⟩ : ∃ X, Xs[n]? = some X := ⟨_, List.getElem?_eq_getElem hl⟩
    cases hx : X with
    | nil => exact absurd hx (h.some_ n X hX)
    | cons x r =>
      obtain ⟨p, d, f⟩ := x
      exact ⟨p, d, f, (h.mem n X hX p d f).1 (by rw [hx]; simp)⟩
  · rintro ⟨p, d, f, hi⟩
    by_cases e : n < Xs.length
    · exact e
    · exact absurd hi (h.none_ n (by omega) p d f)
theorem SetsAre.full (h : SetsAre ps st word Xs) (h0 : ∀ x ∈ ps, 0 ≤ x.1) (hst : 0 ≤ st) (hp : Pre ps [st] word) : Xs.length = word.length + 1 := by
  have h1 := h.len
  have h2 := (h.at_ h0 hst (Nat.le_refl _)).2 (by rwa [List.take_length])
  omega
theorem SetsAre.zero (h : SetsAre ps st word Xs) (h0 : ∀ x ∈ ps, 0 ≤ x.1) (hst : 0 ≤ st) : 0 < Xs.length ↔ Pre ps [st] [] := by
  have := h.at_ h0 hst (n := 0) (Nat.zero_le _)
  rwa [List.take_zero] at this
/-- The letters of words that a grammar's symbols derive. -/
theorem Dw.low {t : Nat} (hr : ∀ x ∈ ps, ∀ s ∈ x.2, -(t : Int) ≤ s) {xs z : List Int} (h : Dw ps xs z) : (∀ s ∈ xs, -(t : Int) ≤ s) → ∀ y ∈ z, 0 ≤ y ∧ y < t := by
  induction h with
  | nil => intro _ y hy; cases hy
  | term hs _ ih =>
    intro hx y hy
    rcases List.mem_cons.1 hy with rfl | hy
    · have := hx _ List.mem_cons_self
      omega
    · exact ih (fun s h => hx s (List.mem_cons_of_mem _ h)) y hy
  | prod _ hp _ _ ih1 ih2 =>
    intro hx y hy
    rcases List.mem_append.1 hy with hy | hy
    · exact ih1 (hr _ hp) y hy
    · exact ih2 (fun s h => hx s (List.mem_cons_of_mem _ h)) y hy
theorem Pre.low {t : Nat} (hr : ∀ x ∈ ps, ∀ s ∈ x.2, -(t : Int) ≤ s) (hst : 0 ≤ st) {z : List Int} (h : Pre ps [st] z) : ∀ y ∈ z, 0 ≤ y ∧ y < t := by
  obtain ⟨u, hu⟩ := h
  exact fun y hy => hu.low hr (fun s hs => by rw [List.mem_singleton.1 hs]; omega) y (List.mem_append_left _ hy)
theorem Pre.good {t : Nat} (hr : ∀ x ∈ ps, ∀ s ∈ x.2, -(t : Int) ≤ s) (hst : 0 ≤ st) {z : List Int} (h : Pre ps [st] z) : z.any (badT t) = false := by
  rw [List.any_eq_false]
  intro y hy
  have := h.low hr hst y hy
  simp [badT]
  omega
/-- Nothing may come next: the word is a word. -/
theorem Pre.stuck {t : Nat} (hr : ∀ x ∈ ps, ∀ s ∈ x.2, -(t : Int) ≤ s) (hst : 0 ≤ st) {z : List Int} (h : Pre ps [st] z) (hn : ∀ y, 0 ≤ y → ¬ Pre ps [st] (z ++ [y])) : Dw ps [st] z := by
  obtain ⟨u, hu⟩ := h
  cases u with
  | nil => rwa [List.append_nil] at hu
  | cons y u =>
    have hp : Pre ps [st] (z ++ [y]) := ⟨u, by simpa using hu⟩
    exact absurd hp (hn y (hp.low hr hst y (by simp)).1)
end
section
variable {ps : List (Int × List Int)}
theorem Dw.fo {xs z : List Int} (h : Dw ps xs z) : ∀ pre post : List Int, ∃ f, Fo.Of ps (pre ++ z ++ post) f xs pre.length (pre.length + z.length) := by
  induction h with
  | nil => intro pre post; exact ⟨.nil, by unfold Fo.Of; simp⟩
  | @term s xs z hs _ ih =>
    intro pre post
    obtain ⟨f, hf⟩ := ih (pre ++ [-1 - s]) post
    have e1 : pre ++ (-1 - s) :: z ++ post = pre ++ [-1 - s] ++ z ++ post := by simp
    rw [e1]
    have e2 : (pre ++ [-1 - s]).length = pre.length + 1 := by simp
    have e3 : pre.length + ((-1 - s) :: z).length = pre.length + 1 + z.length := by rw [List.length_cons]; omega
    rw [e2] at hf
    rw [e3]
    refine ⟨.cons s .nil f, ?_⟩
    unfold Fo.Of
    exact ⟨s, xs, pre.length + 1, rfl, .inl ⟨hs, rfl, rfl, rfl, by simp⟩, hf⟩
  | @prod s R xs z1 z2 h0 hp _ _ ih1 ih2 =>
    intro pre post
    obtain ⟨q, hq⟩ := List.mem_iff_getElem?.1 hp
    obtain ⟨f1, hf1⟩ := ih1 pre (z2 ++ post)
    obtain ⟨f2, hf2⟩ := ih2 (pre ++ z1) post
    have e1 : pre ++ (z1 ++ z2) ++ post = pre ++ z1 ++ z2 ++ post := by simp
    have e2 : (pre ++ z1).length = pre.length + z1.length := by simp
    have e3 : pre.length + (z1 ++ z2).length = pre.length + z1.length + z2.length := by rw [List.length_append]; omega
    rw [e2] at hf2
    rw [← List.append_assoc] at hf1
    rw [e1, e3]
    refine ⟨.cons (q : Int) f1 f2, ?_⟩
    unfold Fo.Of
    exact ⟨s, xs, pre.length + z1.length, rfl, .inr ⟨h0, q, R, rfl, hq, hf1⟩, hf2⟩
theorem dw_of_fo {word : List Int} : ∀ {f : Fo} {xs : List Int} {i j : Nat}, Fo.Of ps word f xs i j → Dw ps xs ((word.drop i).take (j - i))
  | .nil, xs, i, j, h => by
    unfold Fo.Of at h
    obtain ⟨rfl, rfl⟩ := h
    rw [Nat.sub_self]
    exact .nil
  | .cons p k r, xs, i, j, h => by
    unfold Fo.Of at h
    obtain ⟨s, ys, m, rfl, h1, h2⟩ := h
    have hr := dw_of_fo h2
    have hmj := h2.le
    rcases h1 with ⟨hs, _, _, rfl, hw⟩ | ⟨hs, q, R, _, hq, hk⟩
    · rw [cut (Nat.le_succ i) hmj]
      obtain ⟨hlt, e⟩ := List.getElem?_eq_some_iff.1 hw
      rw [show i + 1 - i = 1 by omega, List.drop_eq_getElem_cons hlt, e]
      exact .term hs hr
    · have hk' := dw_of_fo hk
      rw [cut hk.le hmj]
      exact .prod hs (List.mem_of_getElem? hq) hk' hr
/-- A word is derived just where a forest lies over it. -/
theorem dw_iff {xs word : List Int} : Dw ps xs word ↔ ∃ f, Fo.Of ps word f xs 0 word.length := by
  constructor
  · intro h
    obtain ⟨f, hf⟩ := h.fo [] []
    simp only [List.nil_append, List.append_nil, List.length_nil, Nat.zero_add] at hf
    exact ⟨f, hf⟩
  · rintro ⟨f, hf⟩
    have := dw_of_fo hf
    rwa [List.drop_zero, Nat.sub_zero, List.take_length] at this
end
end Ed
end Go.Proofs.Ytaehooafdbaomaa
