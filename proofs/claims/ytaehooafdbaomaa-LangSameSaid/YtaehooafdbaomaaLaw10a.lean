/- Chapter 10: speaks: walk. -/
import Derived.Test.YtaehooafdbaomaaLangDbl
import Derived.Test.YtaehooafdbaomaaLang12
namespace Go.Proofs.Ytaehooafdbaomaa
open Go.RowKit
attribute [local go_sem ↓] Go.wp_at_zero Go.wp_at_succ
attribute [local go_sem] frozen_alloc_lt

theorem words_sp {w : World} {gn gt gp : Option Addr} (h : GIn w dbl10 gn gt gp) (hc : CapP w gp dbl10.prods) : Calls Try.prog 53 #[.agg #[.int .i64 0, .int .i64 1, .slice gn 1 1, .slice gt 1 1, .slice gp 2 2], .int .i64 3] w fun e w' =>
    ∃ (g cap ca : Nat) (ga : Option Addr), e = .returned (.tuple #[.slice (some ⟨g, 0, none⟩) 3 cap, .int .i64 0]) ∧ w'.cell? ⟨g, 2, none⟩ = some (.slice ga 3 ca) ∧ Below w.heap.size w w' := by
  refine (words_calls w dbl10 gn gt gp 1 1 2 3 (by decide) dbl_sound h hc).mono ?_
  rintro e w' ⟨h1 | ⟨-, ks, live, -, -, h2⟩, hb⟩
  · obtain ⟨v, ss, rfl, hp, hz, -, ho⟩ := h1
    obtain rfl := dbl_words hp hz
    obtain ⟨g, cap, x, hv, -, -, ⟨ga, ca, hx, -⟩, hj⟩ := ho.at WdR.fit (i := 2) (a := zs0 3) rfl
    subst hv
    exact ⟨g, cap, ca, ga, rfl, by rw [hx] at hj; exact hj 0 _ rfl, hb⟩
  · exact (dbl_fit h2).elim
theorem der_two {w : World} {gn gt gp : Option Addr} (h : GIn w dbl10 gn gt gp) : Calls Try.prog 56 #[.agg #[.int .i64 0, .int .i64 1, .slice gn 1 1, .slice gt 1 1, .slice gp 2 2], .slice (some ⟨w.heap.size, 0, none⟩) 2 2] (w.alloc (.cells #[.int .i64 0, .int .i64 0] 3)) fun e w' =>
    e = .returned (.bool true) ∧ Below w.heap.size w w' := by
  have hba : Below w.heap.size w (w.alloc (.cells #[.int .i64 0, .int .i64 0] 3)) := (Below.refl _ _).alloc (Nat.le_refl _) _
  have hrow : RowI (w.alloc (.cells #[.int .i64 0, .int .i64 0] 3)) (w.alloc (.cells #[.int .i64 0, .int .i64 0] 3)).heap.size (some ⟨w.heap.size, 0, none⟩) [0, 0] := bk_rowI (Bk.new w 3 [.int .i64 0, .int .i64 0])
  refine (lderives_calls (w.alloc (.cells #[.int .i64 0, .int .i64 0] 3)) dbl10 gn gt gp 1 1 2 (h.later hba) dbl_sound (some ⟨w.heap.size, 0, none⟩) 2 [0, 0] hrow (by decide) (by decide)).mono ?_
  rintro e w' ⟨b, rfl, hb, hbw⟩
  rw [hb.2 dbl_two]
  exact ⟨rfl, bel0D hba hbw⟩
theorem der_none {w : World} {gn gt gp : Option Addr} (h : GIn w dbl10 gn gt gp) : Calls Try.prog 56 #[.agg #[.int .i64 0, .int .i64 1, .slice gn 1 1, .slice gt 1 1, .slice gp 2 2], .slice none 0 0] w fun e w' =>
    e = .returned (.bool false) ∧ Below w.heap.size w w' := by
  refine (lderives_calls w dbl10 gn gt gp 1 1 2 h dbl_sound none 0 [] (fun i hi => by simp at hi) (by decide) (by decide)).mono ?_
  rintro e w' ⟨b, rfl, hb, hbw⟩
  cases b with
  | true => exact absurd (hb.1 rfl) dbl_none
  | false => exact ⟨rfl, hbw⟩
set_option maxHeartbeats 2000000 in
theorem speaks10_calls (w : World) : Calls Try.prog 51 #[] w fun e w' => e = .returned (.bool true) ∧ Below w.heap.size w w' := by
  go_enter Try.func51, Try.ntmps51
  go_upto_region 2 with (first
    | (go_at_call 53; refine (words_sp Hg.out.1 Hg.out.2).mono ?_; rintro e w2 ⟨g, cap, ca, ga, rfl, hc2, hb2⟩)
    | (go_at_call 94; refine (doubles10_calls _).mono ?_; rintro e w1 ⟨gn, gt, gp, rfl, hg, hcp, hb1⟩; have Hg := hid (And.intro hg hcp); clear hg hcp))
  have Hb := hid (bel0D hb1 hb2)
  clear hb1 hb2 Hg
  go_wp2_with (first
    | (go_at_call 56; refine (der_none Hg5.out).mono ?_; rintro e w6 ⟨rfl, hb6⟩)
    | (go_at_call 94; refine (doubles10_calls w4).mono ?_; rintro e w5 ⟨gn5, gt5, gp5, rfl, hg5, -, hb5⟩; have Hg5 := hid hg5; clear hg5)
    | (go_at_call 56; refine (der_two Hg3.out).mono ?_; rintro e w4 ⟨rfl, hb4⟩)
    | (go_at_call 94; refine (doubles10_calls _).mono ?_; rintro e w3 ⟨gn3, gt3, gp3, rfl, hg3, -, hb3⟩; have Hg3 := hid hg3; clear hg3))
  go_ret
  exact ⟨rfl, bel0D Hb.out (bel0D hb3 (bel0D hb4 (bel0D hb5 hb6)))⟩
end Go.Proofs.Ytaehooafdbaomaa
