/- Trees of a grammar's: by words, and without. Plain lists. -/
import Derived.Test.YtbpgolmbielpgaaLaw15d
namespace Go.Proofs.Ytbpgolmbielpgaa
theorem Fo.yieldT_neg {p : Int} {k : Fo} (h : p < 0) : Fo.yieldT p k = [-1 - p] := by unfold Fo.yieldT; rw [if_pos h]
theorem Fo.yieldT_pos {p : Int} {k : Fo} (h : 0 ≤ p) : Fo.yieldT p k = k.yield := by unfold Fo.yieldT; rw [if_neg (by omega)]
theorem Fo.yield_cons (p : Int) (k r : Fo) : (Fo.cons p k r).yield = Fo.yieldT p k ++ r.yield := rfl
theorem Fo.Dv.of {ps : List (Int × List Int)} : ∀ {f : Fo} {xs : List Int}, Fo.Dv ps f xs → ∀ pre post : List Int, Fo.Of ps (pre ++ f.yield ++ post) f xs pre.length (pre.length + f.yield.length)
  | .nil, xs, h, pre, post => by
    unfold Fo.Dv at h
    exact ⟨h, by simp [Fo.yield]⟩
  | .cons p k r, xs, h, pre, post => by
    unfold Fo.Dv at h
    obtain ⟨s, ys, rfl, h1, h2⟩ := h
    rw [Fo.yield_cons]
    have hr := Fo.Dv.of h2 (pre ++ Fo.yieldT p k) post
    rw [show pre ++ Fo.yieldT p k ++ r.yield ++ post = pre ++ (Fo.yieldT p k ++ r.yield) ++ post by simp, List.length_append] at hr
    refine ⟨s, ys, pre.length + (Fo.yieldT p k).length, rfl, ?_, by rw [List.length_append, ← Nat.add_assoc]; exact hr⟩
    rcases h1 with ⟨hs, rfl, rfl⟩ | ⟨hs, q, R, rfl, hq, hk⟩
    · refine .inl ⟨hs, rfl, rfl, by rw [Fo.yieldT_neg hs]; rfl, ?_⟩
      rw [Fo.yieldT_neg hs, List.append_assoc, List.getElem?_append_right (Nat.le_refl _), Nat.sub_self]
      rfl
    · refine .inr ⟨hs, q, R, rfl, hq, ?_⟩
      have h3 := Fo.Dv.of hk pre (r.yield ++ post)
      rw [Fo.yieldT_pos (by omega)]
      rw [show pre ++ (k.yield ++ r.yield) ++ post = pre ++ k.yield ++ (r.yield ++ post) by simp]
      exact h3
theorem Fo.Of.dv {ps : List (Int × List Int)} {word : List Int} : ∀ {f : Fo} {xs : List Int} {i j : Nat}, Fo.Of ps word f xs i j → Fo.Dv ps f xs
  | .nil, xs, i, j, h => by
    unfold Fo.Of at h
    exact h.1
  | .cons p k r, xs, i, j, h => by
    unfold Fo.Of at h
    obtain ⟨s, ys, m, rfl, h1, h2⟩ := h
    refine ⟨s, ys, rfl, ?_, Fo.Of.dv h2⟩
    rcases h1 with ⟨hs, rfl, rfl, _⟩ | ⟨hs, q, R, rfl, hq, hk⟩
    · exact .inl ⟨hs, rfl, rfl⟩
    · exact .inr ⟨hs, q, R, rfl, hq, Fo.Of.dv hk⟩
/-- A tree of a part yields it. -/
theorem Fo.Of.yield {ps : List (Int × List Int)} {word : List Int} : ∀ {f : Fo} {xs : List Int} {i j : Nat}, Fo.Of ps word f xs i j → j ≤ word.length → f.yield = (word.drop i).take (j - i)
  | .nil, xs, i, j, h, hj => by
    unfold Fo.Of at h
    obtain ⟨_, rfl⟩ := h
    simp [Fo.yield]
  | .cons p k r, xs, i, j, h, hj => by
    unfold Fo.Of at h
    obtain ⟨s, ys, m, rfl, h1, h2⟩ := h
    have hmj := h2.le
    have hr := Fo.Of.yield h2 hj
    have hp : i ≤ m ∧ Fo.yieldT p k = (word.drop i).take (m - i) := by
      rcases h1 with ⟨hs, rfl, rfl, rfl, hw⟩ | ⟨hs, q, R, rfl, hq, hk⟩
      · refine ⟨by omega, ?_⟩
        rw [Fo.yieldT_neg hs, show i + 1 - i = 1 by omega, List.take_one, List.head?_drop, hw]
        rfl
      · refine ⟨hk.le, ?_⟩
        rw [Fo.yieldT_pos (by omega)]
        exact Fo.Of.yield hk (by omega)
    rw [Fo.yield_cons, hp.2, hr]
    rw [show j - i = (m - i) + (j - m) by omega, List.take_add, List.drop_drop, show i + (m - i) = m by omega]
theorem Fo.Of.whole {ps : List (Int × List Int)} {word : List Int} {f : Fo} {xs : List Int} (h : Fo.Of ps word f xs 0 word.length) : f.yield = word := by
  have := h.yield (Nat.le_refl _)
  simpa using this
/-- What the symbols of the rows are, the tree's numbers are. -/
theorem Fo.Dv.fits {ps : List (Int × List Int)} {t : Int} (ht : t ≤ 65536) (hps : ∀ x ∈ ps, ∀ s ∈ x.2, -t ≤ s) : ∀ {f : Fo} {xs : List Int}, Fo.Dv ps f xs → (∀ s ∈ xs, -t ≤ s) → f.fits ∧ ∀ y ∈ f.yield, 0 ≤ y ∧ y < t
  | .nil, _, _, _ => ⟨trivial, fun y hy => by simp [Fo.yield] at hy⟩
  | .cons p k r, xs, h, hx => by
    unfold Fo.Dv at h
    obtain ⟨s, ys, rfl, h1, h2⟩ := h
    obtain ⟨hr1, hr2⟩ := Fo.Dv.fits ht hps h2 (fun s hs => hx s (List.mem_cons_of_mem _ hs))
    have hsx := hx s (List.mem_cons_self ..)
    rcases h1 with ⟨hs, rfl, rfl⟩ | ⟨hs, q, R, rfl, hq, hk⟩
    · refine ⟨⟨by omega, trivial, hr1⟩, fun y hy => ?_⟩
      rw [Fo.yield_cons, Fo.yieldT_neg hs] at hy
      rcases List.mem_append.1 hy with hy | hy
      · simp at hy; omega
      · exact hr2 y hy
    · obtain ⟨hk1, hk2⟩ := Fo.Dv.fits ht hps hk (fun s' hs' => hps _ (List.mem_of_getElem? hq) s' hs')
      refine ⟨⟨by omega, hk1, hr1⟩, fun y hy => ?_⟩
      rw [Fo.yield_cons, Fo.yieldT_pos (by omega)] at hy
      rcases List.mem_append.1 hy with hy | hy
      · exact hk2 y hy
      · exact hr2 y hy
end Go.Proofs.Ytbpgolmbielpgaa
