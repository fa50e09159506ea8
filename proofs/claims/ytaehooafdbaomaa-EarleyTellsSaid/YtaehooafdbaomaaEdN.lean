/- Chapter 17: what the nested grammar derives. Plain lists. -/
import Derived.Test.YtaehooafdbaomaaNest17
import Derived.Test.YtaehooafdbaomaaEarP
namespace Go.Proofs.Ytaehooafdbaomaa
open Go.RowKit
namespace Ed

theorem dw_term {ps : List (Int × List Int)} {s : Int} {xs z : List Int} (h : Dw ps (s :: xs) z) (hs : s < 0) : ∃ z', z = (-1 - s) :: z' ∧ Dw ps xs z' := by
  cases h with
  | term _ h => exact ⟨_, rfl, h⟩
  | prod h0 => omega
theorem dw_prod {ps : List (Int × List Int)} {s : Int} {xs z : List Int} (h : Dw ps (s :: xs) z) (hs : 0 ≤ s) : ∃ z1 z2, z = z1 ++ z2 ∧ Dw ps [s] z1 ∧ Dw ps xs z2 := by
  cases h with
  | term h0 => omega
  | prod h0 hp h1 h2 => exact ⟨_, _, rfl, Dw.one h0 hp h1, h2⟩
theorem dw_nil {ps : List (Int × List Int)} {z : List Int} (h : Dw ps [] z) : z = [] := by
  cases h
  rfl
abbrev NP : List (Int × List Int) := [(0, [-1, 0, -2]), (0, [-3])]
theorem nest_inv {z : List Int} (h : Dw NP [0] z) : z = [2] ∨ ∃ w, z = 0 :: (w ++ [1]) ∧ Dw NP [0] w := by
  obtain ⟨R, hR, hd⟩ := h.inv (Int.le_refl 0)
  simp only [NP, List.mem_cons, Prod.mk.injEq, true_and, List.not_mem_nil, or_false] at hR
  rcases hR with rfl | rfl
  · obtain ⟨z1, rfl, h1⟩ := dw_term hd (by omega)
    obtain ⟨w, z2, rfl, h2, h3⟩ := dw_prod h1 (Int.le_refl 0)
    obtain ⟨z3, rfl, h4⟩ := dw_term h3 (by omega)
    rw [dw_nil h4]
    exact .inr ⟨w, rfl, h2⟩
  · obtain ⟨z1, rfl, h1⟩ := dw_term hd (by omega)
    rw [dw_nil h1]
    exact .inl rfl
theorem nest_z : Dw NP [0] [2] := Dw.one (R := [-3]) (Int.le_refl 0) (by simp [NP]) (Dw.term (s := -3) (by omega) .nil)
theorem nest_w {w : List Int} (h : Dw NP [0] w) : Dw NP [0] (0 :: (w ++ [1])) :=
  Dw.one (R := [-1, 0, -2]) (Int.le_refl 0) (by simp [NP]) (Dw.term (s := -1) (by omega) (h.app (ys := [-2]) (Dw.term (s := -2) (by omega) .nil)))
theorem nest_021 : Dw NP [0] [0, 2, 1] := nest_w nest_z
theorem nest_pre {z : Int} : Pre NP [0] [0, 0, z] ↔ z = 0 ∨ z = 2 := by
  constructor
  · rintro ⟨y, h⟩
    rcases nest_inv h with h | ⟨w, h1, h2⟩
    · simp at h
    · have h1 : 0 :: z :: y = w ++ [1] := by simpa using h1
      rcases nest_inv h2 with rfl | ⟨w', rfl, h3⟩
      · simp at h1
      · have h1 : z :: y = w' ++ [1] ++ [1] := by simpa using h1
        rcases nest_inv h3 with rfl | ⟨w'', rfl, -⟩
        · simp at h1
          exact .inr h1.1
        · simp at h1
          exact .inl h1.1
  · rintro (rfl | rfl)
    · exact ⟨[2, 1, 1, 1], nest_w (nest_w (nest_w nest_z))⟩
    · exact ⟨[1, 1], nest_w (nest_w nest_z)⟩
theorem nest_two {ss : List Int} (hp : ss.Pairwise (· < ·)) (h : ∀ z, z ∈ ss ↔ z = 0 ∨ z = 2) : ss = [0, 2] := by
  match ss, hp, h with
  | [], _, h => have := (h 0).2 (.inl rfl); simp at this
  | [a], _, h =>
    have h1 := (h 0).2 (.inl rfl)
    have h2 := (h 2).2 (.inr rfl)
    simp at h1 h2
    omega
  | [a, b], hp, h =>
    have h1 := (h a).1 (by simp)
    have h2 := (h b).1 (by simp)
    have h3 : a < b := by simpa using hp
    have ha : a = 0 := by omega
    have hb : b = 2 := by omega
    rw [ha, hb]
  | a :: b :: c :: r, hp, h =>
    have h1 := (h a).1 (by simp)
    have h2 := (h b).1 (by simp)
    have h3 := (h c).1 (by simp)
    rw [List.pairwise_cons, List.pairwise_cons] at hp
    have h4 := hp.1 b (by simp)
    have h5 := hp.2.1 c (by simp)
    omega
/-- Three sets at x x y. -/
theorem nest_three {Xs : List (List Itm)} (h : SetsAre NP 0 [0, 0, 1] Xs) : Xs.length = 3 := by
  have h0 : ∀ x ∈ NP, 0 ≤ x.1 := by decide
  have hl := h.len
  have h2 : 2 < Xs.length := by
    by_cases e : 2 < Xs.length
    · exact e
    · obtain ⟨p, d, f, hi⟩ := (pre_iff (ps := NP) (st := 0) (word := [0, 0, 1]) (n := 2) h0 (Int.le_refl 0) (by simp)).1 ⟨[2, 1, 1], nest_w (nest_w nest_z)⟩
      exact absurd hi (h.none_ 2 (by omega) p d f)
  by_cases e : 3 < Xs.length
  · obtain ⟨X, hX⟩ : ∃ X, Xs[3]? = some X := ⟨_, List.getElem?_eq_getElem e⟩
    cases hx : X with
    | nil => exact absurd hx (h.some_ 3 X hX)
    | cons x r =>
      obtain ⟨p, d, f⟩ := x
      have hi := (h.mem 3 X hX p d f).1 (by rw [hx]; simp)
      have hp := (pre_iff (ps := NP) (st := 0) (word := [0, 0, 1]) (n := 3) h0 (Int.le_refl 0) (by simp)).2 ⟨p, d, f, hi⟩
      have := nest_pre.1 (show Pre NP [0] [0, 0, 1] from hp)
      omega
  · omega
end Ed
end Go.Proofs.Ytaehooafdbaomaa
