/- Chapter 10: the doubling grammar. Printed by mk_dbl10.py. -/
import Derived.Test.YtaehooafdbaomaaLang3
namespace Go.Proofs.Ytaehooafdbaomaa
open Go.RowKit
attribute [local go_sem ↓] Go.wp_at_zero Go.wp_at_succ
attribute [local go_sem] frozen_alloc_lt

/-- S -> S S; S -> x. -/
def dbl10 : Gr := ⟨0, 1, [⟨#[83]⟩], [⟨#[120]⟩], [(0, [0, 0]), (0, [-1])]⟩
set_option maxHeartbeats 2000000 in
theorem doubles10_calls (w : World) : Calls Try.prog 94 #[] w fun e w' => ∃ gn gt gp, e = .returned (.agg #[.int .i64 0, .int .i64 1, .slice gn 1 1, .slice gt 1 1, .slice gp 2 2]) ∧ GIn w' dbl10 gn gt gp ∧ CapP w' gp dbl10.prods ∧ Below w.heap.size w w' := by
  have k0 : Bk ((((((w.alloc (.cells #[.int .i64 0, .int .i64 1, Value.slice (some ⟨w.heap.size + 1, 0, none⟩) 1 1, Value.slice (some ⟨w.heap.size + 1 + 1, 0, none⟩) 1 1, Value.slice (some ⟨w.heap.size + 1 + 1 + 1 + 1 + 1, 0, none⟩) 2 2] 30)).alloc (.cells #[.string ⟨#[83]⟩] 9)).alloc (.cells #[.string ⟨#[120]⟩] 9)).alloc (.cells #[.int .i64 0, .int .i64 0] 3)).alloc (.cells #[.int .i64 (-1)] 3)).alloc (.cells #[.int .i64 0, Value.slice (some ⟨w.heap.size + 1 + 1 + 1, 0, none⟩) 2 2, .int .i64 0, Value.slice (some ⟨w.heap.size + 1 + 1 + 1 + 1, 0, none⟩) 1 1] 97)) (w.heap.size) 30 [.int .i64 0, .int .i64 1, Value.slice (some ⟨w.heap.size + 1, 0, none⟩) 1 1, Value.slice (some ⟨w.heap.size + 1 + 1, 0, none⟩) 1 1, Value.slice (some ⟨w.heap.size + 1 + 1 + 1 + 1 + 1, 0, none⟩) 2 2] := (((((Bk.new w 30 [.int .i64 0, .int .i64 1, Value.slice (some ⟨w.heap.size + 1, 0, none⟩) 1 1, Value.slice (some ⟨w.heap.size + 1 + 1, 0, none⟩) 1 1, Value.slice (some ⟨w.heap.size + 1 + 1 + 1 + 1 + 1, 0, none⟩) 2 2]).alloc _).alloc _).alloc _).alloc _).alloc _
  have k1 : Bk ((((((w.alloc (.cells #[.int .i64 0, .int .i64 1, Value.slice (some ⟨w.heap.size + 1, 0, none⟩) 1 1, Value.slice (some ⟨w.heap.size + 1 + 1, 0, none⟩) 1 1, Value.slice (some ⟨w.heap.size + 1 + 1 + 1 + 1 + 1, 0, none⟩) 2 2] 30)).alloc (.cells #[.string ⟨#[83]⟩] 9)).alloc (.cells #[.string ⟨#[120]⟩] 9)).alloc (.cells #[.int .i64 0, .int .i64 0] 3)).alloc (.cells #[.int .i64 (-1)] 3)).alloc (.cells #[.int .i64 0, Value.slice (some ⟨w.heap.size + 1 + 1 + 1, 0, none⟩) 2 2, .int .i64 0, Value.slice (some ⟨w.heap.size + 1 + 1 + 1 + 1, 0, none⟩) 1 1] 97)) (w.heap.size + 1) 9 [.string ⟨#[83]⟩] := bk_at (((((Bk.new (w.alloc (.cells #[.int .i64 0, .int .i64 1, Value.slice (some ⟨w.heap.size + 1, 0, none⟩) 1 1, Value.slice (some ⟨w.heap.size + 1 + 1, 0, none⟩) 1 1, Value.slice (some ⟨w.heap.size + 1 + 1 + 1 + 1 + 1, 0, none⟩) 2 2] 30)) 9 [.string ⟨#[83]⟩]).alloc _).alloc _).alloc _).alloc _) (by simp)
  have k2 : Bk ((((((w.alloc (.cells #[.int .i64 0, .int .i64 1, Value.slice (some ⟨w.heap.size + 1, 0, none⟩) 1 1, Value.slice (some ⟨w.heap.size + 1 + 1, 0, none⟩) 1 1, Value.slice (some ⟨w.heap.size + 1 + 1 + 1 + 1 + 1, 0, none⟩) 2 2] 30)).alloc (.cells #[.string ⟨#[83]⟩] 9)).alloc (.cells #[.string ⟨#[120]⟩] 9)).alloc (.cells #[.int .i64 0, .int .i64 0] 3)).alloc (.cells #[.int .i64 (-1)] 3)).alloc (.cells #[.int .i64 0, Value.slice (some ⟨w.heap.size + 1 + 1 + 1, 0, none⟩) 2 2, .int .i64 0, Value.slice (some ⟨w.heap.size + 1 + 1 + 1 + 1, 0, none⟩) 1 1] 97)) (w.heap.size + 1 + 1) 9 [.string ⟨#[120]⟩] := bk_at ((((Bk.new ((w.alloc (.cells #[.int .i64 0, .int .i64 1, Value.slice (some ⟨w.heap.size + 1, 0, none⟩) 1 1, Value.slice (some ⟨w.heap.size + 1 + 1, 0, none⟩) 1 1, Value.slice (some ⟨w.heap.size + 1 + 1 + 1 + 1 + 1, 0, none⟩) 2 2] 30)).alloc (.cells #[.string ⟨#[83]⟩] 9)) 9 [.string ⟨#[120]⟩]).alloc _).alloc _).alloc _) (by simp)
  have k3 : Bk ((((((w.alloc (.cells #[.int .i64 0, .int .i64 1, Value.slice (some ⟨w.heap.size + 1, 0, none⟩) 1 1, Value.slice (some ⟨w.heap.size + 1 + 1, 0, none⟩) 1 1, Value.slice (some ⟨w.heap.size + 1 + 1 + 1 + 1 + 1, 0, none⟩) 2 2] 30)).alloc (.cells #[.string ⟨#[83]⟩] 9)).alloc (.cells #[.string ⟨#[120]⟩] 9)).alloc (.cells #[.int .i64 0, .int .i64 0] 3)).alloc (.cells #[.int .i64 (-1)] 3)).alloc (.cells #[.int .i64 0, Value.slice (some ⟨w.heap.size + 1 + 1 + 1, 0, none⟩) 2 2, .int .i64 0, Value.slice (some ⟨w.heap.size + 1 + 1 + 1 + 1, 0, none⟩) 1 1] 97)) (w.heap.size + 1 + 1 + 1) 3 [.int .i64 0, .int .i64 0] := bk_at (((Bk.new (((w.alloc (.cells #[.int .i64 0, .int .i64 1, Value.slice (some ⟨w.heap.size + 1, 0, none⟩) 1 1, Value.slice (some ⟨w.heap.size + 1 + 1, 0, none⟩) 1 1, Value.slice (some ⟨w.heap.size + 1 + 1 + 1 + 1 + 1, 0, none⟩) 2 2] 30)).alloc (.cells #[.string ⟨#[83]⟩] 9)).alloc (.cells #[.string ⟨#[120]⟩] 9)) 3 [.int .i64 0, .int .i64 0]).alloc _).alloc _) (by simp)
  have k4 : Bk ((((((w.alloc (.cells #[.int .i64 0, .int .i64 1, Value.slice (some ⟨w.heap.size + 1, 0, none⟩) 1 1, Value.slice (some ⟨w.heap.size + 1 + 1, 0, none⟩) 1 1, Value.slice (some ⟨w.heap.size + 1 + 1 + 1 + 1 + 1, 0, none⟩) 2 2] 30)).alloc (.cells #[.string ⟨#[83]⟩] 9)).alloc (.cells #[.string ⟨#[120]⟩] 9)).alloc (.cells #[.int .i64 0, .int .i64 0] 3)).alloc (.cells #[.int .i64 (-1)] 3)).alloc (.cells #[.int .i64 0, Value.slice (some ⟨w.heap.size + 1 + 1 + 1, 0, none⟩) 2 2, .int .i64 0, Value.slice (some ⟨w.heap.size + 1 + 1 + 1 + 1, 0, none⟩) 1 1] 97)) (w.heap.size + 1 + 1 + 1 + 1) 3 [.int .i64 (-1)] := bk_at ((Bk.new ((((w.alloc (.cells #[.int .i64 0, .int .i64 1, Value.slice (some ⟨w.heap.size + 1, 0, none⟩) 1 1, Value.slice (some ⟨w.heap.size + 1 + 1, 0, none⟩) 1 1, Value.slice (some ⟨w.heap.size + 1 + 1 + 1 + 1 + 1, 0, none⟩) 2 2] 30)).alloc (.cells #[.string ⟨#[83]⟩] 9)).alloc (.cells #[.string ⟨#[120]⟩] 9)).alloc (.cells #[.int .i64 0, .int .i64 0] 3)) 3 [.int .i64 (-1)]).alloc _) (by simp)
  have k5 : Bk ((((((w.alloc (.cells #[.int .i64 0, .int .i64 1, Value.slice (some ⟨w.heap.size + 1, 0, none⟩) 1 1, Value.slice (some ⟨w.heap.size + 1 + 1, 0, none⟩) 1 1, Value.slice (some ⟨w.heap.size + 1 + 1 + 1 + 1 + 1, 0, none⟩) 2 2] 30)).alloc (.cells #[.string ⟨#[83]⟩] 9)).alloc (.cells #[.string ⟨#[120]⟩] 9)).alloc (.cells #[.int .i64 0, .int .i64 0] 3)).alloc (.cells #[.int .i64 (-1)] 3)).alloc (.cells #[.int .i64 0, Value.slice (some ⟨w.heap.size + 1 + 1 + 1, 0, none⟩) 2 2, .int .i64 0, Value.slice (some ⟨w.heap.size + 1 + 1 + 1 + 1, 0, none⟩) 1 1] 97)) (w.heap.size + 1 + 1 + 1 + 1 + 1) 97 [.int .i64 0, Value.slice (some ⟨w.heap.size + 1 + 1 + 1, 0, none⟩) 2 2, .int .i64 0, Value.slice (some ⟨w.heap.size + 1 + 1 + 1 + 1, 0, none⟩) 1 1] := bk_at (Bk.new (((((w.alloc (.cells #[.int .i64 0, .int .i64 1, Value.slice (some ⟨w.heap.size + 1, 0, none⟩) 1 1, Value.slice (some ⟨w.heap.size + 1 + 1, 0, none⟩) 1 1, Value.slice (some ⟨w.heap.size + 1 + 1 + 1 + 1 + 1, 0, none⟩) 2 2] 30)).alloc (.cells #[.string ⟨#[83]⟩] 9)).alloc (.cells #[.string ⟨#[120]⟩] 9)).alloc (.cells #[.int .i64 0, .int .i64 0] 3)).alloc (.cells #[.int .i64 (-1)] 3)) 97 [.int .i64 0, Value.slice (some ⟨w.heap.size + 1 + 1 + 1, 0, none⟩) 2 2, .int .i64 0, Value.slice (some ⟨w.heap.size + 1 + 1 + 1 + 1, 0, none⟩) 1 1]) (by simp)
  have kb : Below w.heap.size w ((((((w.alloc (.cells #[.int .i64 0, .int .i64 1, Value.slice (some ⟨w.heap.size + 1, 0, none⟩) 1 1, Value.slice (some ⟨w.heap.size + 1 + 1, 0, none⟩) 1 1, Value.slice (some ⟨w.heap.size + 1 + 1 + 1 + 1 + 1, 0, none⟩) 2 2] 30)).alloc (.cells #[.string ⟨#[83]⟩] 9)).alloc (.cells #[.string ⟨#[120]⟩] 9)).alloc (.cells #[.int .i64 0, .int .i64 0] 3)).alloc (.cells #[.int .i64 (-1)] 3)).alloc (.cells #[.int .i64 0, Value.slice (some ⟨w.heap.size + 1 + 1 + 1, 0, none⟩) 2 2, .int .i64 0, Value.slice (some ⟨w.heap.size + 1 + 1 + 1 + 1, 0, none⟩) 1 1] 97)) := (((((((Below.refl _ w).alloc (Nat.le_refl _) _).alloc (by simp) _).alloc (by simp; omega) _).alloc (by simp; omega) _).alloc (by simp; omega) _).alloc (by simp; omega) _)
  go_enter Try.func94, Try.ntmps94
  go_wp2_with fail
  obtain ⟨W, hW⟩ : ∃ W, W = ((((((w.alloc (.cells #[.int .i64 0, .int .i64 1, Value.slice (some ⟨w.heap.size + 1, 0, none⟩) 1 1, Value.slice (some ⟨w.heap.size + 1 + 1, 0, none⟩) 1 1, Value.slice (some ⟨w.heap.size + 1 + 1 + 1 + 1 + 1, 0, none⟩) 2 2] 30)).alloc (.cells #[.string ⟨#[83]⟩] 9)).alloc (.cells #[.string ⟨#[120]⟩] 9)).alloc (.cells #[.int .i64 0, .int .i64 0] 3)).alloc (.cells #[.int .i64 (-1)] 3)).alloc (.cells #[.int .i64 0, Value.slice (some ⟨w.heap.size + 1 + 1 + 1, 0, none⟩) 2 2, .int .i64 0, Value.slice (some ⟨w.heap.size + 1 + 1 + 1 + 1, 0, none⟩) 1 1] 97)) := ⟨_, rfl⟩
  rw [← hW] at k0 k1 k2 k3 k4 k5 kb ⊢
  clear hW
  have c0 := k0.cell 0
  have c1 := k0.cell 1
  have c2 := k0.cell 2
  have c3 := k0.cell 3
  have c4 := k0.cell 4
  simp only [List.getElem?_cons_zero, List.getElem?_cons_succ] at c0 c1 c2 c3 c4
  refine bodyPost_ret (v := .agg #[.int .i64 0, .int .i64 1, Value.slice (some ⟨w.heap.size + 1, 0, none⟩) 1 1, Value.slice (some ⟨w.heap.size + 1 + 1, 0, none⟩) 1 1, Value.slice (some ⟨w.heap.size + 1 + 1 + 1 + 1 + 1, 0, none⟩) 2 2]) (by simp [results, Try.results94, go_sem, c0, c1, c2, c3, c4]) rfl ⟨_, _, _, rfl, ?_, ?_, kb⟩
  · refine ⟨bk_rowS k1, bk_rowS k2, fun i x hx => ?_, by decide, by decide, by decide, by decide⟩
    match i, hx with
    | 0, hx =>
      cases hx
      exact ⟨_, 0, _, _, rfl, k5.lt, k5.cell 0, k5.cell 1, bk_rowI k3⟩
    | 1, hx =>
      cases hx
      exact ⟨_, 0, _, _, rfl, k5.lt, k5.cell 2, k5.cell 3, bk_rowI k4⟩
    | i + 2, hx => simp [dbl10] at hx
  · intro i x hx
    match i, hx with
    | 0, hx =>
      cases hx
      exact ⟨_, 0, _, 2, rfl, k5.lt, k5.cell 1, Nat.le_refl _⟩
    | 1, hx =>
      cases hx
      exact ⟨_, 0, _, 1, rfl, k5.lt, k5.cell 3, Nat.le_refl _⟩
    | i + 2, hx => simp [dbl10] at hx
end Go.Proofs.Ytaehooafdbaomaa
