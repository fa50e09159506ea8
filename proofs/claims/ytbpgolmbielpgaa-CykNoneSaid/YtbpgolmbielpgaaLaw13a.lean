/- Chapter 13 (cyk): speaks; CykCounts: walk. -/
import Derived.Test.YtbpgolmbielpgaaCyk6
namespace Go.Proofs.Ytbpgolmbielpgaa
open Go.RowKit
attribute [local go_sem ↓] Go.wp_at_zero Go.wp_at_succ
attribute [local go_sem] frozen_alloc_lt

theorem Chart.later {w w' : World} {b bc n : Nat} {st cnt te : Int} {em : Bool} {gp : Option Addr} {lp cp : Nat} {ms : List Value} {T : Nat → Int → Int} (h : Chart w b bc n st cnt te em gp lp cp ms T) (hb : Below w.heap.size w w') : Chart w' b bc n st cnt te em gp lp cp ms T :=
  ⟨h.k.below hb h.k.lt, h.c.below hb h.c.lt, h.l, fun i v hv => by
    rcases h.t i v hv with hl | ⟨m, k', e, hm⟩
    · exact .inl hl
    · exact .inr ⟨m, k', e, hm.at (hb.block m hm.lt)⟩, h.ne⟩

set_option maxHeartbeats 2000000 in
theorem speaks13_calls (w : World) : Calls Try.prog 14 #[] w fun e w' => e = .returned (.bool true) ∧ Below w.heap.size w w' := by
  go_enter Try.func14, Try.ntmps14
  go_upto_region 2 with (first
    | (go_at_call 16; refine (doubles_calls _).mono ?_; rintro e w1 ⟨gp, rfl, hp, hb1⟩; have hba : Below w1.heap.size w1 (w1.alloc (.cells #[.int .i64 0, .int .i64 0, .int .i64 0] 3)) := (Below.refl _ _).alloc (Nat.le_refl _) _; have hka : RowI (w1.alloc (.cells #[.int .i64 0, .int .i64 0, .int .i64 0] 3)) (w1.alloc (.cells #[.int .i64 0, .int .i64 0, .int .i64 0] 3)).heap.size (some ⟨w1.heap.size, 0, none⟩) (List.replicate 3 0) := bk_rowI (Bk.new w1 3 [.int .i64 0, .int .i64 0, .int .i64 0]); have Hmk := hid (make_dbl (w1.alloc (.cells #[.int .i64 0, .int .i64 0, .int .i64 0] 3)) gp 2 ((hp.below hba).mono hba.size) _ 3 3 hka (by omega)); have Hba := hid (below0 hb1 hba); clear hp hba hka hb1)
    | (go_at_call 15; refine (Hmk.out).mono ?_; rintro e w2 ⟨b, bc, gp', cp, ms, T, rfl, hch, hval, hok, hb2⟩))
  have hv3 : T (Ck.ix 3 0 3) 0 = 2 := (hval 0 3 (by omega) (by omega)).trans (by decide)
  have hv2 : T (Ck.ix 3 0 2) 0 = 1 := (hval 0 2 (by omega) (by omega)).trans (by decide)
  have hv13 : T (Ck.ix 3 1 3) 0 = 1 := (hval 1 3 (by omega) (by omega)).trans (by decide)
  have htr : treesT 3 0 false T = 2 := by unfold treesT; rw [if_pos (by omega)]; exact hv3
  have hhold : Ck.holds (T (Ck.ix 3 1 3)) 1 = [0] := by rw [Ck.holds_succ]; simp [hv13, Ck.holds]
  have hbw := below0 Hba.out hb2
  have Hch := hid hch
  have Htr := hid htr
  have Hhold := hid hhold
  have Hv2 := hid hv2
  have Hbw := hid hbw
  clear hval hok hv3 hv2 hv13 htr hhold hbw hb2 hch Hba Hmk
  go_wp2_with (first
    | (go_at_call 22; refine (yes_calls Hch.out (by omega) (by omega) (by omega)).mono ?_; rintro e w3 ⟨rfl, hb3⟩; rw [Htr.out]; have H3 := hid (Hch.out.later hb3))
    | (go_at_call 18; refine (trees_calls H3.out (by omega) (by omega) (by omega)).mono ?_; rintro e w4 ⟨rfl, hb4⟩; rw [Htr.out]; have H4 := hid (H3.out.later hb4))
    | (go_at_call 20; refine (has_yes H4.out (by omega) 0 2 0 (by omega) (by omega) (by omega) (by omega)).mono ?_; rintro e w4 ⟨rfl, rfl⟩; rw [Hv2.out])
    | (go_at_call 21; refine (cell_yes 1 (by omega) H4.out (by omega) 1 3 (by omega) (by omega)).mono ?_; rintro e w5 ⟨ga, cap, rfl, -, hb5⟩; rw [Hhold.out]))
  go_ret
  exact ⟨rfl, below0 Hbw.out (below0 hb3 (below0 hb4 hb5))⟩
end Go.Proofs.Ytbpgolmbielpgaa
