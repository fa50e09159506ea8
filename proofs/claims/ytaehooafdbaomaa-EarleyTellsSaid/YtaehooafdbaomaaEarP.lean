/- Chapter 17 (earley): the sets one by one; what Make's loop keeps. No walk. -/
import Derived.Test.YtaehooafdbaomaaEar6
namespace Go.Proofs.Ytaehooafdbaomaa
open Go.RowKit
namespace Ed

/-- What a chart's sets are. -/
structure SetsAre (ps : List (Int × List Int)) (st : Int) (word : List Int) (Xs : List (List Itm)) : Prop where
  mem : ∀ (j : Nat) (X : List Itm), Xs[j]? = some X → ∀ p d f, (p, d, f) ∈ X ↔ It ps st word j p d f
  none_ : ∀ j, Xs.length ≤ j → ∀ p d f, ¬ It ps st word j p d f
  some_ : ∀ (j : Nat) (X : List Itm), Xs[j]? = some X → X ≠ []
  nd : ∀ (j : Nat) (X : List Itm), Xs[j]? = some X → X.Nodup
  len : Xs.length ≤ word.length + 1
/-- The sets that are closed, and the one that comes. -/
structure SetsP (ps : List (Int × List Int)) (st : Int) (word : List Int) (Xs : List (List Itm)) (X : List Itm) : Prop where
  snd : ∀ (i : Nat) (Y : List Itm) x, Xs[i]? = some Y → x ∈ Y → It ps st word i x.1 x.2.1 x.2.2
  cls : ∀ (i : Nat) (Y : List Itm) x, Xs[i]? = some Y → x ∈ Y → Cl ps Xs Y i x
  frs : ∀ (Y : List Itm) q R, (Xs ++ [X])[0]? = some Y → ps[q]? = some (st, R) → Fine ps R → (q, 0, 0) ∈ Y
  scn : ∀ (i : Nat) (Y Z : List Itm) x s, (Xs ++ [X])[i]? = some Y → (Xs ++ [X])[i + 1]? = some Z → x ∈ Y → nxt ps x = some s → s < 0 → word[i]? = some (-1 - s) → stp x ∈ Z
  some_ : ∀ (j : Nat) (Y : List Itm), Xs[j]? = some Y → Y ≠ []
  nd : ∀ (j : Nat) (Y : List Itm), Xs[j]? = some Y → Y.Nodup
section
variable {ps : List (Int × List Int)} {st : Int} {word : List Int} {Xs : List (List Itm)} {X X' Z : List Itm} {n : Nat}
theorem get_snoc {α : Type} {l : List α} {a b : α} {i : Nat} (h : (l ++ [a])[i]? = some b) : (i < l.length ∧ l[i]? = some b) ∨ (i = l.length ∧ a = b) := by
  by_cases hi : i < l.length
  · rw [List.getElem?_append_left hi] at h
    exact .inl ⟨hi, h⟩
  · rw [List.getElem?_append_right (by omega)] at h
    have h0 : i - l.length = 0 := by
      by_cases e : i - l.length = 0
      · exact e
      · rw [List.getElem?_eq_none (by simp; omega)] at h
        cases h
    rw [h0] at h
    simp at h
    exact .inr ⟨by omega, h⟩
theorem Cl.snoc {Y : List Itm} {x : Itm} {i : Nat} (h : Cl ps Xs Y i x) (hi : i ≤ Xs.length) : Cl ps (Xs ++ [Z]) Y i x :=
  ⟨h.pred, h.null, fun h1 Y' y h2 h3 h4 h5 => h.comp h1 Y' y h2 (by rw [List.getElem?_append_left (by omega)] at h3; exact h3) h4 h5⟩
/-- A set is closed, the next is scanned. -/
theorem SetsP.push (h : SetsP ps st word Xs X) (hX : ∀ x ∈ X, x ∈ X') (hs : ∀ x ∈ X', It ps st word Xs.length x.1 x.2.1 x.2.2) (hc : ∀ x ∈ X', Cl ps Xs X' Xs.length x) (hne : X' ≠ []) (hnd : X'.Nodup)
    (hz : ∀ x s, x ∈ X' → nxt ps x = some s → s < 0 → word[Xs.length]? = some (-1 - s) → stp x ∈ Z) : SetsP ps st word (Xs ++ [X']) Z := by
  refine ⟨fun i Y x hY hx => ?_, fun i Y x hY hx => ?_, fun Y q R hY hq hf => ?_, fun i Y W x s hY hW hx hn h0 hw => ?_, fun j Y hY => ?_, fun j Y hY => ?_⟩
  · rcases get_snoc hY with ⟨_, h1⟩ | ⟨rfl, rfl⟩
    · exact h.snd i Y x h1 hx
    · exact hs x hx
  · rcases get_snoc hY with ⟨h0, h1⟩ | ⟨rfl, rfl⟩
    · exact (h.cls i Y x h1 hx).snoc (by omega)
    · exact (hc x hx).snoc (Nat.le_refl _)
  · have hl : 0 < (Xs ++ [X']).length := by simp
    rw [List.getElem?_append_left hl] at hY
    rcases get_snoc hY with ⟨h0, h1⟩ | ⟨h0, rfl⟩
    · exact h.frs Y q R (by rw [List.getElem?_append_left h0]; exact h1) hq hf
    · exact hX _ (h.frs X q R (by rw [h0]; simp) hq hf)
  · rcases get_snoc hW with ⟨h1, h2⟩ | ⟨h1, rfl⟩
    · rw [List.getElem?_append_left (by omega)] at hY
      rcases get_snoc h2 with ⟨h3, h4⟩ | ⟨h3, rfl⟩
      · rw [List.getElem?_append_left (by omega)] at hY
        exact h.scn i Y W x s (by rw [List.getElem?_append_left (by omega)]; exact hY) (by rw [List.getElem?_append_left h3]; exact h4) hx hn h0 hw
      · rw [List.getElem?_append_left (by omega)] at hY
        exact hX _ (h.scn i Y X x s (by rw [List.getElem?_append_left (by omega)]; exact hY) (by rw [h3]; simp) hx hn h0 hw)
    · rw [List.length_append] at h1
      have hi : i = Xs.length := by simp at h1; exact h1
      subst hi
      rw [List.getElem?_append_left (by simp)] at hY
      have : X' = Y := by simpa using hY
      subst this
      exact hz x s hx hn h0 hw
  · rcases get_snoc hY with ⟨_, h1⟩ | ⟨_, rfl⟩
    · exact h.some_ j Y h1
    · exact hne
  · rcases get_snoc hY with ⟨_, h1⟩ | ⟨_, rfl⟩
    · exact h.nd j Y h1
    · exact hnd
theorem SetsP.sets (h : SetsP ps st word Xs X) (hne : Xs ≠ []) : Sets ps st word Xs :=
  ⟨h.snd, h.cls, fun Y q R hY => h.frs Y q R (by rw [List.getElem?_append_left (List.length_pos_iff.2 hne)]; exact hY),
   fun i Y Z x s hY hZ => h.scn i Y Z x s (by rw [List.getElem?_append_left (List.getElem?_eq_some_iff.1 hY).1]; exact hY) (by rw [List.getElem?_append_left (List.getElem?_eq_some_iff.1 hZ).1]; exact hZ)⟩
theorem SetsP.start (h : ∀ q R, ps[q]? = some (st, R) → Fine ps R → (q, 0, 0) ∈ X) : SetsP ps st word [] X := by
  refine ⟨fun i Y x hY => ?_, fun i Y x hY => ?_, fun Z q R hZ hq hf => ?_, fun i A B x s hA hB => ?_, fun j A hA => ?_, fun j A hA => ?_⟩
  · simp at hY
  · simp at hY
  · have : X = Z := by simpa using hZ
    subst this
    exact h q R hq hf
  · rw [List.getElem?_eq_none (by simp)] at hB
    cases hB
  · simp at hA
  · simp at hA
/-- The last set: at the word's end, or nothing is scanned. -/
theorem SetsP.end_ (h : SetsP ps st word Xs Z) (h0 : ∀ x ∈ ps, 0 ≤ x.1) (hl : Xs.length = n + 1) (hn : n ≤ word.length) (hend : n = word.length ∨ Z = []) : SetsAre ps st word Xs := by
  have hne : Xs ≠ [] := fun e => by rw [e] at hl; cases hl
  have hS := h.sets hne
  refine ⟨fun j X hX p d f => ⟨fun hx => h.snd j X _ hX hx, fun hi => hS.all h0 hi X hX⟩, fun j hj p d f hi => ?_, h.some_, h.nd, by omega⟩
  rcases hend with e | e
  · obtain ⟨l, R, hs⟩ := hi.says h0
    have := hs.to_
    omega
  · have hstop : ∀ p d f, ¬ It ps st word (n + 1) p d f := fun p d f hi => by
      refine It.stop (n := n) (fun p d f l R s h1 hp hd hs hw => ?_) hi rfl
      have hX : Xs[n]? = some Xs[n] := List.getElem?_eq_getElem (by omega)
      have hm := hS.all h0 h1 _ hX
      have := h.scn n Xs[n] Z (p, d, f) s (by rw [List.getElem?_append_left (by omega)]; exact hX) (by rw [← hl]; simp) hm (nxt_some.2 ⟨l, R, hp, hd⟩) hs hw
      rw [e] at this
      cases this
    have := It.later (n := n) hstop hi
    omega
theorem SetsAre.none (hf : ∀ R, (st, R) ∈ ps → ¬ Fine ps R) : SetsAre ps st word [] :=
  ⟨fun j X h => by simp at h, fun _ _ _ _ _ => It.none hf, fun j X h => by simp at h, fun j X h => by simp at h, by simp⟩
end
theorem rowI_of {w : World} {D : Nat → Prop} {ga : Option Addr} {zs : List Int} {m : Nat} (h : RowID w D ga zs) (hD : ∀ k, D k → k < m) : RowI w m ga zs := fun i hi => by
  obtain ⟨g, off, u, h1, h2, h3, h4⟩ := h i hi
  exact ⟨g, off, u, h1, hD g h2, h3, h4⟩
theorem rowII_of {w : World} {D : Nat → Prop} {ga : Option Addr} {zss : List (List Int)} {m : Nat} (h : RowIID w D ga zss) (hD : ∀ k, D k → k < m) : RowII w m ga zss := fun i hi => by
  obtain ⟨g, off, u, h1, h2, h3, ga', cap, h4, h5, _⟩ := h i hi
  exact ⟨g, off, u, h1, hD g h2, h3, ga', cap, h4, rowI_of h5 hD⟩
theorem rowB_of {w : World} {D : Nat → Prop} {ga : Option Addr} {zs : List Bool} {m : Nat} (h : RowBD w D ga zs) (hD : ∀ k, D k → k < m) : RowB w m ga zs := fun i hi => by
  obtain ⟨g, off, u, h1, h2, h3, h4⟩ := h i hi
  exact ⟨g, off, u, h1, hD g h2, h3, h4⟩
/-- A row of bools is no row of slices. -/
theorem rowB_ne {w : World} {go K m : Nat} {T : TypeId} {ga : Option Addr} {zs : List Bool} (h : RowB w m ga zs) (hk : Bk w go T (List.replicate K (.slice none 0 0))) : RowBD w (fun k => k < m ∧ k ≠ go) ga zs := fun i hi => by
  obtain ⟨g, off, u, h1, h2, h3, h4⟩ := h i hi
  refine ⟨g, off, u, h1, ⟨h2, fun e => ?_⟩, h3, h4⟩
  subst e
  rw [hk.cell, List.getElem?_replicate] at h3
  split at h3
  · injection h3 with h3
    rw [h4] at h3
    cases h3
  · cases h3
/-- The sets that are closed, in blocks of D. -/
def StD (w : World) (D : Nat → Prop) (ss : List Nat) (Xs : List (List Itm)) : Prop := ∀ (j : Nat) (Y : List Itm), Xs[j]? = some Y → ∃ (sj ga cap : Nat), ss[j]? = some sj ∧ D sj ∧ w.cell? ⟨sj, 0, none⟩ = some (.slice (some ⟨ga, 0, none⟩) Y.length cap) ∧ RowE w (some ⟨ga, 0, none⟩) Y ∧ D ga ∧ Y ≠ [] ∧ Y.length ≤ 282880
section
variable {w w' : World} {D D' S : Nat → Prop} {ss : List Nat} {Xs : List (List Itm)} {m : Nat}
theorem StD.mono (h : StD w D ss Xs) (hD : ∀ k, D k → D' k) : StD w D' ss Xs := fun j Y hY => by
  obtain ⟨sj, ga, cap, h1, h2, h3, h4, h5, h6⟩ := h j Y hY
  exact ⟨sj, ga, cap, h1, hD _ h2, h3, h4, hD _ h5, h6⟩
theorem StD.kp (h : StD w D ss Xs) (hk : Kp S w w') (hS : ∀ k, D k → ¬ S k) : StD w' D ss Xs := fun j Y hY => by
  obtain ⟨sj, ga, cap, h1, h2, h3, h4, h5, h6⟩ := h j Y hY
  exact ⟨sj, ga, cap, h1, h2, hk.cell h3 (hS _ h2), h4.kp hk (hS _ h5), h5, h6⟩
theorem StD.stm (h : StD w D ss Xs) (hD : ∀ k, D k → k < m) : StM w m ss Xs := fun j Y hY => by
  obtain ⟨sj, ga, cap, h1, h2, h3, h4, h5, h6⟩ := h j Y hY
  exact ⟨sj, ga, cap, h1, hD _ h2, h3, h4, hD _ h5, h6⟩
theorem StD.nil : StD w D [] [] := fun j Y h => by simp at h
theorem StD.snoc {s : Nat} {X : List Itm} {vl : Value} (h : StD w D ss Xs) (hl : ss.length = Xs.length) (hs : SetM w s m vl X) (hX : X ≠ []) (hX2 : X.length ≤ 282880) (hDs : D s) (hDg : ∀ g, vl.ownBlock = some g → D g) : StD w D (ss ++ [s]) (Xs ++ [X]) := fun j Y hY => by
  rcases get_snoc hY with ⟨h0, h1⟩ | ⟨rfl, rfl⟩
  · obtain ⟨sj, ga, cap, k1, k2⟩ := h j Y h1
    exact ⟨sj, ga, cap, by rw [List.getElem?_append_left (by omega)]; exact k1, k2⟩
  · obtain ⟨ga, cap, rfl, hrow, _⟩ := own_rowE hs.o
    have c0 := hs.k.cell 0
    simp only [List.getElem?_cons_zero] at c0
    cases X with
    | nil => exact absurd rfl hX
    | cons x r =>
      obtain ⟨g, rfl, _⟩ := hrow 0 x rfl
      exact ⟨s, g, cap, by rw [← hl]; simp, hDs, c0, hrow, hDg g rfl, hX, hX2⟩
end
end Ed
end Go.Proofs.Ytaehooafdbaomaa
