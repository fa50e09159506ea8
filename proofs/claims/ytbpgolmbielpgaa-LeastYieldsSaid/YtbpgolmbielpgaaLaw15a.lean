/- Chapter 15 (least): the doubling grammar; speaks. -/
import Derived.Test.YtbpgolmbielpgaaLeast7
namespace Go.Proofs.Ytbpgolmbielpgaa
open Go.RowKit
attribute [local go_sem ↓] Go.wp_at_zero Go.wp_at_succ
attribute [local go_sem] frozen_alloc_lt

/-- S -> S S; S -> x; S -> x x. -/
def dblG (st : Int) : Gr := ⟨st, 1, [⟨#[83]⟩], [⟨#[120]⟩], [(0, [0, 0]), (0, [-1]), (0, [-1, -1])]⟩
theorem dbl_in {w : World} {gn gt gp : Option Addr} {a b : Int} (h : GIn w (dblG a) gn gt gp) : GIn w (dblG b) gn gt gp := ⟨h.n, h.t, h.p, h.h1, h.h2, h.h3, h.h4⟩
set_option maxHeartbeats 2000000 in
theorem doubles15_calls (w : World) : Calls Try.prog 24 #[] w fun e w' => ∃ gn gt gp, e = .returned (.agg #[.int .i64 0, .int .i64 1, .slice gn 1 1, .slice gt 1 1, .slice gp 3 3]) ∧ GIn w' (dblG 0) gn gt gp ∧ Below w.heap.size w w' := by
  have k0 : Bk (((((((w.alloc (.cells #[.int .i64 0, .int .i64 1, .slice (some ⟨w.heap.size + 1, 0, none⟩) 1 1, .slice (some ⟨w.heap.size + 1 + 1, 0, none⟩) 1 1, .slice (some ⟨w.heap.size + 1 + 1 + 1 + 1 + 1 + 1, 0, none⟩) 3 3] 41)).alloc (.cells #[.string ⟨#[83]⟩] 9)).alloc (.cells #[.string ⟨#[120]⟩] 9)).alloc (.cells #[.int .i64 0, .int .i64 0] 3)).alloc (.cells #[.int .i64 (-1)] 3)).alloc (.cells #[.int .i64 (-1), .int .i64 (-1)] 3)).alloc (.cells #[.int .i64 0, .slice (some ⟨w.heap.size + 1 + 1 + 1, 0, none⟩) 2 2, .int .i64 0, .slice (some ⟨w.heap.size + 1 + 1 + 1 + 1, 0, none⟩) 1 1, .int .i64 0, .slice (some ⟨w.heap.size + 1 + 1 + 1 + 1 + 1, 0, none⟩) 2 2] 35)) (w.heap.size) 41 [.int .i64 0, .int .i64 1, .slice (some ⟨w.heap.size + 1, 0, none⟩) 1 1, .slice (some ⟨w.heap.size + 1 + 1, 0, none⟩) 1 1, .slice (some ⟨w.heap.size + 1 + 1 + 1 + 1 + 1 + 1, 0, none⟩) 3 3] := ((((((Bk.new w 41 [.int .i64 0, .int .i64 1, .slice (some ⟨w.heap.size + 1, 0, none⟩) 1 1, .slice (some ⟨w.heap.size + 1 + 1, 0, none⟩) 1 1, .slice (some ⟨w.heap.size + 1 + 1 + 1 + 1 + 1 + 1, 0, none⟩) 3 3]).alloc _).alloc _).alloc _).alloc _).alloc _).alloc _
  have k1 : Bk (((((((w.alloc (.cells #[.int .i64 0, .int .i64 1, .slice (some ⟨w.heap.size + 1, 0, none⟩) 1 1, .slice (some ⟨w.heap.size + 1 + 1, 0, none⟩) 1 1, .slice (some ⟨w.heap.size + 1 + 1 + 1 + 1 + 1 + 1, 0, none⟩) 3 3] 41)).alloc (.cells #[.string ⟨#[83]⟩] 9)).alloc (.cells #[.string ⟨#[120]⟩] 9)).alloc (.cells #[.int .i64 0, .int .i64 0] 3)).alloc (.cells #[.int .i64 (-1)] 3)).alloc (.cells #[.int .i64 (-1), .int .i64 (-1)] 3)).alloc (.cells #[.int .i64 0, .slice (some ⟨w.heap.size + 1 + 1 + 1, 0, none⟩) 2 2, .int .i64 0, .slice (some ⟨w.heap.size + 1 + 1 + 1 + 1, 0, none⟩) 1 1, .int .i64 0, .slice (some ⟨w.heap.size + 1 + 1 + 1 + 1 + 1, 0, none⟩) 2 2] 35)) (w.heap.size + 1) 9 [.string ⟨#[83]⟩] := bk_at ((((((Bk.new (w.alloc (.cells #[.int .i64 0, .int .i64 1, .slice (some ⟨w.heap.size + 1, 0, none⟩) 1 1, .slice (some ⟨w.heap.size + 1 + 1, 0, none⟩) 1 1, .slice (some ⟨w.heap.size + 1 + 1 + 1 + 1 + 1 + 1, 0, none⟩) 3 3] 41)) 9 [.string ⟨#[83]⟩]).alloc _).alloc _).alloc _).alloc _).alloc _) (by simp)
  have k2 : Bk (((((((w.alloc (.cells #[.int .i64 0, .int .i64 1, .slice (some ⟨w.heap.size + 1, 0, none⟩) 1 1, .slice (some ⟨w.heap.size + 1 + 1, 0, none⟩) 1 1, .slice (some ⟨w.heap.size + 1 + 1 + 1 + 1 + 1 + 1, 0, none⟩) 3 3] 41)).alloc (.cells #[.string ⟨#[83]⟩] 9)).alloc (.cells #[.string ⟨#[120]⟩] 9)).alloc (.cells #[.int .i64 0, .int .i64 0] 3)).alloc (.cells #[.int .i64 (-1)] 3)).alloc (.cells #[.int .i64 (-1), .int .i64 (-1)] 3)).alloc (.cells #[.int .i64 0, .slice (some ⟨w.heap.size + 1 + 1 + 1, 0, none⟩) 2 2, .int .i64 0, .slice (some ⟨w.heap.size + 1 + 1 + 1 + 1, 0, none⟩) 1 1, .int .i64 0, .slice (some ⟨w.heap.size + 1 + 1 + 1 + 1 + 1, 0, none⟩) 2 2] 35)) (w.heap.size + 1 + 1) 9 [.string ⟨#[120]⟩] := bk_at (((((Bk.new ((w.alloc (.cells #[.int .i64 0, .int .i64 1, .slice (some ⟨w.heap.size + 1, 0, none⟩) 1 1, .slice (some ⟨w.heap.size + 1 + 1, 0, none⟩) 1 1, .slice (some ⟨w.heap.size + 1 + 1 + 1 + 1 + 1 + 1, 0, none⟩) 3 3] 41)).alloc (.cells #[.string ⟨#[83]⟩] 9)) 9 [.string ⟨#[120]⟩]).alloc _).alloc _).alloc _).alloc _) (by simp)
  have k3 : Bk (((((((w.alloc (.cells #[.int .i64 0, .int .i64 1, .slice (some ⟨w.heap.size + 1, 0, none⟩) 1 1, .slice (some ⟨w.heap.size + 1 + 1, 0, none⟩) 1 1, .slice (some ⟨w.heap.size + 1 + 1 + 1 + 1 + 1 + 1, 0, none⟩) 3 3] 41)).alloc (.cells #[.string ⟨#[83]⟩] 9)).alloc (.cells #[.string ⟨#[120]⟩] 9)).alloc (.cells #[.int .i64 0, .int .i64 0] 3)).alloc (.cells #[.int .i64 (-1)] 3)).alloc (.cells #[.int .i64 (-1), .int .i64 (-1)] 3)).alloc (.cells #[.int .i64 0, .slice (some ⟨w.heap.size + 1 + 1 + 1, 0, none⟩) 2 2, .int .i64 0, .slice (some ⟨w.heap.size + 1 + 1 + 1 + 1, 0, none⟩) 1 1, .int .i64 0, .slice (some ⟨w.heap.size + 1 + 1 + 1 + 1 + 1, 0, none⟩) 2 2] 35)) (w.heap.size + 1 + 1 + 1) 3 [.int .i64 0, .int .i64 0] := bk_at ((((Bk.new (((w.alloc (.cells #[.int .i64 0, .int .i64 1, .slice (some ⟨w.heap.size + 1, 0, none⟩) 1 1, .slice (some ⟨w.heap.size + 1 + 1, 0, none⟩) 1 1, .slice (some ⟨w.heap.size + 1 + 1 + 1 + 1 + 1 + 1, 0, none⟩) 3 3] 41)).alloc (.cells #[.string ⟨#[83]⟩] 9)).alloc (.cells #[.string ⟨#[120]⟩] 9)) 3 [.int .i64 0, .int .i64 0]).alloc _).alloc _).alloc _) (by simp)
  have k4 : Bk (((((((w.alloc (.cells #[.int .i64 0, .int .i64 1, .slice (some ⟨w.heap.size + 1, 0, none⟩) 1 1, .slice (some ⟨w.heap.size + 1 + 1, 0, none⟩) 1 1, .slice (some ⟨w.heap.size + 1 + 1 + 1 + 1 + 1 + 1, 0, none⟩) 3 3] 41)).alloc (.cells #[.string ⟨#[83]⟩] 9)).alloc (.cells #[.string ⟨#[120]⟩] 9)).alloc (.cells #[.int .i64 0, .int .i64 0] 3)).alloc (.cells #[.int .i64 (-1)] 3)).alloc (.cells #[.int .i64 (-1), .int .i64 (-1)] 3)).alloc (.cells #[.int .i64 0, .slice (some ⟨w.heap.size + 1 + 1 + 1, 0, none⟩) 2 2, .int .i64 0, .slice (some ⟨w.heap.size + 1 + 1 + 1 + 1, 0, none⟩) 1 1, .int .i64 0, .slice (some ⟨w.heap.size + 1 + 1 + 1 + 1 + 1, 0, none⟩) 2 2] 35)) (w.heap.size + 1 + 1 + 1 + 1) 3 [.int .i64 (-1)] := bk_at (((Bk.new ((((w.alloc (.cells #[.int .i64 0, .int .i64 1, .slice (some ⟨w.heap.size + 1, 0, none⟩) 1 1, .slice (some ⟨w.heap.size + 1 + 1, 0, none⟩) 1 1, .slice (some ⟨w.heap.size + 1 + 1 + 1 + 1 + 1 + 1, 0, none⟩) 3 3] 41)).alloc (.cells #[.string ⟨#[83]⟩] 9)).alloc (.cells #[.string ⟨#[120]⟩] 9)).alloc (.cells #[.int .i64 0, .int .i64 0] 3)) 3 [.int .i64 (-1)]).alloc _).alloc _) (by simp)
  have k5 : Bk (((((((w.alloc (.cells #[.int .i64 0, .int .i64 1, .slice (some ⟨w.heap.size + 1, 0, none⟩) 1 1, .slice (some ⟨w.heap.size + 1 + 1, 0, none⟩) 1 1, .slice (some ⟨w.heap.size + 1 + 1 + 1 + 1 + 1 + 1, 0, none⟩) 3 3] 41)).alloc (.cells #[.string ⟨#[83]⟩] 9)).alloc (.cells #[.string ⟨#[120]⟩] 9)).alloc (.cells #[.int .i64 0, .int .i64 0] 3)).alloc (.cells #[.int .i64 (-1)] 3)).alloc (.cells #[.int .i64 (-1), .int .i64 (-1)] 3)).alloc (.cells #[.int .i64 0, .slice (some ⟨w.heap.size + 1 + 1 + 1, 0, none⟩) 2 2, .int .i64 0, .slice (some ⟨w.heap.size + 1 + 1 + 1 + 1, 0, none⟩) 1 1, .int .i64 0, .slice (some ⟨w.heap.size + 1 + 1 + 1 + 1 + 1, 0, none⟩) 2 2] 35)) (w.heap.size + 1 + 1 + 1 + 1 + 1) 3 [.int .i64 (-1), .int .i64 (-1)] := bk_at ((Bk.new (((((w.alloc (.cells #[.int .i64 0, .int .i64 1, .slice (some ⟨w.heap.size + 1, 0, none⟩) 1 1, .slice (some ⟨w.heap.size + 1 + 1, 0, none⟩) 1 1, .slice (some ⟨w.heap.size + 1 + 1 + 1 + 1 + 1 + 1, 0, none⟩) 3 3] 41)).alloc (.cells #[.string ⟨#[83]⟩] 9)).alloc (.cells #[.string ⟨#[120]⟩] 9)).alloc (.cells #[.int .i64 0, .int .i64 0] 3)).alloc (.cells #[.int .i64 (-1)] 3)) 3 [.int .i64 (-1), .int .i64 (-1)]).alloc _) (by simp)
  have k6 : Bk (((((((w.alloc (.cells #[.int .i64 0, .int .i64 1, .slice (some ⟨w.heap.size + 1, 0, none⟩) 1 1, .slice (some ⟨w.heap.size + 1 + 1, 0, none⟩) 1 1, .slice (some ⟨w.heap.size + 1 + 1 + 1 + 1 + 1 + 1, 0, none⟩) 3 3] 41)).alloc (.cells #[.string ⟨#[83]⟩] 9)).alloc (.cells #[.string ⟨#[120]⟩] 9)).alloc (.cells #[.int .i64 0, .int .i64 0] 3)).alloc (.cells #[.int .i64 (-1)] 3)).alloc (.cells #[.int .i64 (-1), .int .i64 (-1)] 3)).alloc (.cells #[.int .i64 0, .slice (some ⟨w.heap.size + 1 + 1 + 1, 0, none⟩) 2 2, .int .i64 0, .slice (some ⟨w.heap.size + 1 + 1 + 1 + 1, 0, none⟩) 1 1, .int .i64 0, .slice (some ⟨w.heap.size + 1 + 1 + 1 + 1 + 1, 0, none⟩) 2 2] 35)) (w.heap.size + 1 + 1 + 1 + 1 + 1 + 1) 35 [.int .i64 0, .slice (some ⟨w.heap.size + 1 + 1 + 1, 0, none⟩) 2 2, .int .i64 0, .slice (some ⟨w.heap.size + 1 + 1 + 1 + 1, 0, none⟩) 1 1, .int .i64 0, .slice (some ⟨w.heap.size + 1 + 1 + 1 + 1 + 1, 0, none⟩) 2 2] := bk_at (Bk.new ((((((w.alloc (.cells #[.int .i64 0, .int .i64 1, .slice (some ⟨w.heap.size + 1, 0, none⟩) 1 1, .slice (some ⟨w.heap.size + 1 + 1, 0, none⟩) 1 1, .slice (some ⟨w.heap.size + 1 + 1 + 1 + 1 + 1 + 1, 0, none⟩) 3 3] 41)).alloc (.cells #[.string ⟨#[83]⟩] 9)).alloc (.cells #[.string ⟨#[120]⟩] 9)).alloc (.cells #[.int .i64 0, .int .i64 0] 3)).alloc (.cells #[.int .i64 (-1)] 3)).alloc (.cells #[.int .i64 (-1), .int .i64 (-1)] 3)) 35 [.int .i64 0, .slice (some ⟨w.heap.size + 1 + 1 + 1, 0, none⟩) 2 2, .int .i64 0, .slice (some ⟨w.heap.size + 1 + 1 + 1 + 1, 0, none⟩) 1 1, .int .i64 0, .slice (some ⟨w.heap.size + 1 + 1 + 1 + 1 + 1, 0, none⟩) 2 2]) (by simp)
  have kb : Below w.heap.size w (((((((w.alloc (.cells #[.int .i64 0, .int .i64 1, .slice (some ⟨w.heap.size + 1, 0, none⟩) 1 1, .slice (some ⟨w.heap.size + 1 + 1, 0, none⟩) 1 1, .slice (some ⟨w.heap.size + 1 + 1 + 1 + 1 + 1 + 1, 0, none⟩) 3 3] 41)).alloc (.cells #[.string ⟨#[83]⟩] 9)).alloc (.cells #[.string ⟨#[120]⟩] 9)).alloc (.cells #[.int .i64 0, .int .i64 0] 3)).alloc (.cells #[.int .i64 (-1)] 3)).alloc (.cells #[.int .i64 (-1), .int .i64 (-1)] 3)).alloc (.cells #[.int .i64 0, .slice (some ⟨w.heap.size + 1 + 1 + 1, 0, none⟩) 2 2, .int .i64 0, .slice (some ⟨w.heap.size + 1 + 1 + 1 + 1, 0, none⟩) 1 1, .int .i64 0, .slice (some ⟨w.heap.size + 1 + 1 + 1 + 1 + 1, 0, none⟩) 2 2] 35)) := ((((((((Below.refl _ w).alloc (Nat.le_refl _) _).alloc (by simp) _).alloc (by simp; omega) _).alloc (by simp; omega) _).alloc (by simp; omega) _).alloc (by simp; omega) _).alloc (by simp; omega) _)
  go_enter Try.func24, Try.ntmps24
  go_wp2_with fail
  obtain ⟨W, hW⟩ : ∃ W, W = (((((((w.alloc (.cells #[.int .i64 0, .int .i64 1, .slice (some ⟨w.heap.size + 1, 0, none⟩) 1 1, .slice (some ⟨w.heap.size + 1 + 1, 0, none⟩) 1 1, .slice (some ⟨w.heap.size + 1 + 1 + 1 + 1 + 1 + 1, 0, none⟩) 3 3] 41)).alloc (.cells #[.string ⟨#[83]⟩] 9)).alloc (.cells #[.string ⟨#[120]⟩] 9)).alloc (.cells #[.int .i64 0, .int .i64 0] 3)).alloc (.cells #[.int .i64 (-1)] 3)).alloc (.cells #[.int .i64 (-1), .int .i64 (-1)] 3)).alloc (.cells #[.int .i64 0, .slice (some ⟨w.heap.size + 1 + 1 + 1, 0, none⟩) 2 2, .int .i64 0, .slice (some ⟨w.heap.size + 1 + 1 + 1 + 1, 0, none⟩) 1 1, .int .i64 0, .slice (some ⟨w.heap.size + 1 + 1 + 1 + 1 + 1, 0, none⟩) 2 2] 35)) := ⟨_, rfl⟩
  rw [← hW] at k0 k1 k2 k3 k4 k5 k6 kb ⊢
  clear hW
  have c0 := k0.cell 0
  have c1 := k0.cell 1
  have c2 := k0.cell 2
  have c3 := k0.cell 3
  have c4 := k0.cell 4
  simp only [List.getElem?_cons_zero, List.getElem?_cons_succ] at c0 c1 c2 c3 c4
  refine bodyPost_ret (v := .agg #[.int .i64 0, .int .i64 1, .slice (some ⟨w.heap.size + 1, 0, none⟩) 1 1, .slice (some ⟨w.heap.size + 1 + 1, 0, none⟩) 1 1, .slice (some ⟨w.heap.size + 1 + 1 + 1 + 1 + 1 + 1, 0, none⟩) 3 3]) (by simp [results, Try.results24, go_sem, c0, c1, c2, c3, c4]) rfl ⟨_, _, _, rfl, ?_, kb⟩
  refine ⟨bk_rowS k1, bk_rowS k2, fun i x hx => ?_, by decide, by decide, by decide, by decide⟩
  match i, hx with
  | 0, hx =>
    cases hx
    exact ⟨_, 0, _, _, rfl, k6.lt, k6.cell 0, k6.cell 1, bk_rowI k3⟩
  | 1, hx =>
    cases hx
    exact ⟨_, 0, _, _, rfl, k6.lt, k6.cell 2, k6.cell 3, bk_rowI k4⟩
  | 2, hx =>
    cases hx
    exact ⟨_, 0, _, _, rfl, k6.lt, k6.cell 4, k6.cell 5, bk_rowI k5⟩
  | i + 3, hx => simp [dblG] at hx

theorem Fo.Of.len_eq {ps : List (Int × List Int)} {word : List Int} : ∀ {f : Fo} {xs : List Int} {i j : Nat}, Fo.Of ps word f xs i j → f.len = xs.length
  | .nil, xs, i, j, h => by
    unfold Fo.Of at h
    rw [h.1]; rfl
  | .cons p k r, xs, i, j, h => by
    unfold Fo.Of at h
    obtain ⟨s, ys, m, rfl, _, h2⟩ := h
    rw [Fo.len, Fo.Of.len_eq h2, List.length_cons]
def wS : List Int → Nat
  | [] => 0
  | s :: r => (if s < 0 then 1 else 2) + wS r
theorem dbl_right {q : Nat} {R : List Int} {s st : Int} (h : (dblG st).prods[q]? = some (s, R)) : (q = 0 ∧ R = [0, 0]) ∨ (q = 1 ∧ R = [-1]) ∨ (q = 2 ∧ R = [-1, -1]) := by
  match q, h with
  | 0, h => cases h; exact .inl ⟨rfl, rfl⟩
  | 1, h => cases h; exact .inr (.inl ⟨rfl, rfl⟩)
  | 2, h => cases h; exact .inr (.inr ⟨rfl, rfl⟩)
  | q + 3, h => simp [dblG] at h
theorem dbl_nodes {st : Int} {word : List Int} : ∀ {f : Fo} {xs : List Int} {i j : Nat}, Fo.Of (dblG st).prods word f xs i j → wS xs ≤ f.nodes
  | .nil, xs, i, j, h => by
    unfold Fo.Of at h
    rw [h.1]; exact Nat.le_refl _
  | .cons p k r, xs, i, j, h => by
    unfold Fo.Of at h
    obtain ⟨s, ys, m, rfl, h1, h2⟩ := h
    have hr := dbl_nodes h2
    rw [wS, Fo.nodes]
    rcases h1 with ⟨hs, _⟩ | ⟨hs, q, R, _, hq, hk⟩
    · rw [if_pos hs]; omega
    · rw [if_neg (by omega)]
      have := dbl_nodes hk
      rcases dbl_right hq with ⟨_, rfl⟩ | ⟨_, rfl⟩ | ⟨_, rfl⟩ <;> simp [wS] at this <;> omega
def dblT2 : Fo := .cons 2 (.cons (-1) .nil (.cons (-1) .nil .nil)) .nil
theorem dblT2_of (st : Int) : Fo.Of (dblG st).prods [0, 0] dblT2 [0] 0 2 :=
  ⟨0, [], 2, rfl, .inr ⟨by omega, 2, [-1, -1], rfl, rfl, ⟨-1, [-1], 1, rfl, .inl ⟨by omega, rfl, rfl, rfl, rfl⟩, ⟨-1, [], 2, rfl, .inl ⟨by omega, rfl, rfl, rfl, rfl⟩, ⟨rfl, rfl⟩⟩⟩⟩, ⟨rfl, rfl⟩⟩
theorem dblT1_of (st : Int) : Fo.Of (dblG st).prods [0] (.cons 1 (.cons (-1) .nil .nil) .nil) [0] 0 1 :=
  ⟨0, [], 1, rfl, .inr ⟨by omega, 1, [-1], rfl, rfl, ⟨-1, [], 1, rfl, .inl ⟨by omega, rfl, rfl, rfl, rfl⟩, ⟨rfl, rfl⟩⟩⟩, ⟨rfl, rfl⟩⟩
theorem dbl_tree {st : Int} {p v : Int} {kids : Fo} (hof : Fo.Of (dblG st).prods [0, 0] (.cons p kids .nil) [0] 0 2) (hv : ((1 + kids.nodes : Nat) : Int) = v) (h3 : v ≤ 3) : p = 2 ∧ kids.len = 2 ∧ v = 3 := by
  obtain ⟨q, R, k, e, hq, hk⟩ := Le.of_one hof (by omega)
  injection e with e1 e2
  subst e1 e2
  have hn := dbl_nodes hk
  have hl := hk.len_eq
  rcases dbl_right hq with ⟨rfl, rfl⟩ | ⟨rfl, rfl⟩ | ⟨rfl, rfl⟩
  · simp [wS] at hn; omega
  · cases kids with
    | nil => unfold Fo.Of at hk; exact absurd hk.1 (by simp)
    | cons p k r =>
      unfold Fo.Of at hk
      obtain ⟨s, ys, m, e, h1, h2⟩ := hk
      injection e with e1 e2
      subst e1 e2
      have hr := h2.len_eq
      cases r with
      | nil =>
        unfold Fo.Of at h2
        rcases h1 with ⟨_, _, _, e3, _⟩ | ⟨h3, _⟩
        · omega
        · omega
      | cons p2 k2 r2 => simp [Fo.len] at hr
  · simp [wS] at hn
    simp at hl
    exact ⟨rfl, hl, by omega⟩
theorem dbl_least {v : Int} (h : Le.Least (dblG 0).prods [0, 0] 0 v) : v = 3 := by
  rcases h with ⟨_, h⟩ | ⟨h0, f, hf, e, hm⟩
  · exact absurd (dblT2_of 0) (h _)
  · have h1 := hm dblT2 (dblT2_of 0)
    obtain ⟨q, R, k, rfl, hq, hk⟩ := Le.of_one hf (by omega)
    have h2 : dblT2.nodes = 3 := rfl
    rw [h2] at h1
    simp only [Fo.nodes] at e
    unfold Le.cap at *
    exact (dbl_tree (st := 0) (v := v) hf (by omega) (by omega)).2.2
theorem dbl_right2 : Le.rightB (dblG 0) [0, 0] = true := by decide
theorem dbl_right1 (st t : Int) : Le.rightB (dblG st) [t] = (decide (st = 0) && decide (t = 0)) := by
  by_cases hs : st = 0
  · subst hs
    by_cases ht : t = 0
    · subst ht; decide
    · have h1 : Le.badT 1 t = true := by simp [Le.badT]; omega
      simp [Le.rightB, dblG, h1, ht]
  · have h1 : Pl.soundB (dblG st) = false := by
      unfold Pl.soundB dblG
      simp only [List.length_cons, List.length_nil]
      rw [if_neg (by decide), if_pos (by omega)]
    simp [Le.rightB, h1, hs]

/-- A word of two terminals. -/
theorem word2 (w : World) : RowI (w.alloc (.cells #[.int .i64 0, .int .i64 0] 3)) (w.alloc (.cells #[.int .i64 0, .int .i64 0] 3)).heap.size (some ⟨w.heap.size, 0, none⟩) [0, 0] := bk_rowI (Bk.new w 3 [.int .i64 0, .int .i64 0])
theorem tree_sp {w : World} {gn gt gp : Option Addr} (h : GIn w (dblG 0) gn gt gp) : Calls Try.prog 25 #[.agg #[.int .i64 0, .int .i64 1, .slice gn 1 1, .slice gt 1 1, .slice gp 3 3], .slice (some ⟨w.heap.size, 0, none⟩) 2 2] (w.alloc (.cells #[.int .i64 0, .int .i64 0] 3)) fun e w' =>
    ∃ gk ck, e = .returned (.tuple #[.agg #[.int .i64 2, .slice gk 2 ck], .int .i64 0]) ∧ Below w.heap.size w w' := by
  have hba : Below w.heap.size w (w.alloc (.cells #[.int .i64 0, .int .i64 0] 3)) := (Below.refl _ _).alloc (Nat.le_refl _) _
  refine (ltree_calls (w.alloc (.cells #[.int .i64 0, .int .i64 0] 3)) (dblG 0) gn gt gp 1 1 3 (h.later hba) (some ⟨w.heap.size, 0, none⟩) 2 [0, 0] (word2 w) (by simp)).mono ?_
  rintro e w' ⟨p, kids, gk, ck, er, rfl, -, -, hy, hb⟩
  obtain ⟨v, hv, hc⟩ := hy dbl_right2
  have hv3 := dbl_least hv
  rcases hc with ⟨h1, _⟩ | ⟨h1, _⟩ | ⟨_, _, rfl, h3⟩
  · omega
  · omega
  · obtain ⟨rfl, hl, _⟩ := dbl_tree (st := 0) h3.1 h3.2.1 (by omega)
    exact ⟨gk, ck, by rw [hl], bel0 hba hb⟩
theorem nodes_sp {w : World} {gn gt gp : Option Addr} (h : GIn w (dblG 0) gn gt gp) : Calls Try.prog 26 #[.agg #[.int .i64 0, .int .i64 1, .slice gn 1 1, .slice gt 1 1, .slice gp 3 3], .slice (some ⟨w.heap.size, 0, none⟩) 2 2] (w.alloc (.cells #[.int .i64 0, .int .i64 0] 3)) fun e w' =>
    e = .returned (.int .i64 3) ∧ Below w.heap.size w w' := by
  have hba : Below w.heap.size w (w.alloc (.cells #[.int .i64 0, .int .i64 0] 3)) := (Below.refl _ _).alloc (Nat.le_refl _) _
  refine (nodes_calls (w.alloc (.cells #[.int .i64 0, .int .i64 0] 3)) (dblG 0) gn gt gp 1 1 3 (h.later hba) (some ⟨w.heap.size, 0, none⟩) 2 [0, 0] (word2 w) (by simp)).mono ?_
  rintro e w' ⟨v, rfl, -, hy, hb⟩
  exact ⟨by rw [dbl_least (hy dbl_right2)], bel0 hba hb⟩
set_option maxHeartbeats 2000000 in
theorem speaks15_calls (w : World) : Calls Try.prog 23 #[] w fun e w' => e = .returned (.bool true) ∧ Below w.heap.size w w' := by
  go_enter Try.func23, Try.ntmps23
  go_upto_region 2 with (first
    | (go_at_call 25; refine (tree_sp Hg.out).mono ?_; rintro e w2 ⟨gk, ck, rfl, hb2⟩)
    | (go_at_call 24; refine (doubles15_calls _).mono ?_; rintro e w1 ⟨gn, gt, gp, rfl, hg, hb1⟩; have Hg := hid hg; clear hg))
  have hba : Below w2.heap.size w2 (w2.alloc (.cells #[.int .i64 2, .slice gk 2 ck] 45)) := (Below.refl _ _).alloc (Nat.le_refl _) _
  have Hb := hid (bel0 (bel0 hb1 hb2) hba)
  clear hb1 hb2 hba Hg
  go_wp2_with (first
    | (go_at_call 26; refine (nodes_sp Hg3.out).mono ?_; rintro e w4 ⟨rfl, hb4⟩)
    | (go_at_call 24; refine (doubles15_calls _).mono ?_; rintro e w3 ⟨gn3, gt3, gp3, rfl, hg3, hb3⟩; have Hg3 := hid hg3; clear hg3))
  go_ret
  exact ⟨rfl, bel0 Hb.out (bel0 hb3 hb4)⟩
end Go.Proofs.Ytbpgolmbielpgaa
