/- Chapter 17: speaks: a walk. -/
import Derived.Test.YtaehooafdbaomaaEdN
import Derived.Test.YtaehooafdbaomaaEar12
namespace Go.Proofs.Ytaehooafdbaomaa
open Go.RowKit
attribute [local go_sem ↓] Go.wp_at_zero Go.wp_at_succ
attribute [local go_sem] frozen_alloc_lt
namespace Ed

theorem nest_sound : Pl.soundB nest17 = true := by decide
theorem nest_env {word : List Int} (h : word.length ≤ 64) : Env nest17.prods word := ⟨by decide, by decide, by decide, h⟩
theorem nest_make (w : World) (gn gt gp : Option Addr) (hG : GIn w nest17 gn gt gp) (g cap : Nat) (word : List Int) (hw : RowI w w.heap.size (some ⟨g, 0, none⟩) word) (hl : word.length = 3) (hb : word.any (badT 3) = false) :
    Calls Try.prog 43 #[.agg #[.int .i64 0, .int .i64 1, .slice gn 1 1, .slice gt 3 3, .slice gp 2 2], .slice (some ⟨g, 0, none⟩) 3 cap] w (MkYes w nest17 word) := by
  have h := make_yes w nest17 gn gt gp 1 3 2 hG nest_sound (some ⟨g, 0, none⟩) cap word hw (by omega) hb (fun e => by cases e)
  rw [hl] at h
  exact h
set_option maxHeartbeats 8000000 in
theorem speaks17_calls (w : World) : Calls Try.prog 40 #[] w fun e w' => e = .returned (.bool true) ∧ Below w.heap.size w w' := by
  go_enter Try.func40, Try.ntmps40
  go_upto_region 2 with (first
    | (go_at_call 50; refine (nested17_calls _).mono ?_; rintro e w1 ⟨gn, gt, gp, rfl, hG, hb1⟩)
    | (go_at_call 43; refine (nest_make _ gn gt gp (hG.later (bel_al (bel_id w1) (.cells #[.int .i64 0, .int .i64 0, .int .i64 1] 3))) w1.heap.size 3 [0, 0, 1] (bk_rowI (Bk.new w1 3 [.int .i64 0, .int .i64 0, .int .i64 1])) rfl (by decide)).mono ?_; rintro e w2 ⟨c, Xs, rfl, hch, hsets, hb2⟩))
  have hb02 : Below w.heap.size w w2 := belw (belw hb1 (bel_al (bel_id w1) (.cells #[.int .i64 0, .int .i64 0, .int .i64 1] 3))) hb2
  have hX3 := nest_three hsets
  have hnext := nexts_some w2 c nest17 [0, 0, 1] Xs 2 hch hsets (nest_env (by simp)) (by decide) (by decide)
  have Hnext := hid hnext
  have Hsets := hid hsets
  have Hch := hid hch
  have Hb02 := hid hb02
  have HX3 := hid hX3
  clear hG hb1 hb2 hb02 hnext hsets hch hX3
  go_upto_region 3 with (go_at_call 49; refine Hnext.out.mono ?_; rintro e w3 ⟨v, ss, rfl, hown, hpw, hmem, hb3⟩)
  have hss : ss = [0, 2] := nest_two hpw (fun z => by
    rw [hmem z]
    constructor
    · rintro ⟨h0, m, h1, _, h2⟩
      have e : m = 2 := by omega
      subst e
      exact nest_pre.1 h2
    · intro h
      exact ⟨by omega, 2, rfl, by simp, nest_pre.2 h⟩)
  subst hss
  obtain ⟨ga, cap, rfl, hc⟩ := own_slice hown
  obtain ⟨k, rfl, _, _, hk1⟩ := hc 1 (.int .i64 2) rfl
  have hb03 := belw Hb02.out hb3
  have hgood := good_some w3 c nest17 [0, 0, 1] Xs (Hch.out.later hb3) (by rw [HX3.out]; decide)
  rw [HX3.out] at hgood
  have Hgood := hid hgood
  have Hb03 := hid hb03
  clear hown hpw hmem hb3 hc hb03 hgood
  go_wp2_with (first
    | (go_at_call 47; refine Hgood.out.mono ?_; rintro e w4 ⟨rfl, rfl⟩)
    | (go_at_call 50; refine (nested17_calls _).mono ?_; rintro e w5 ⟨gn5, gt5, gp5, rfl, hG5, hb5⟩)
    | (go_at_call 43; refine (nest_make _ gn5 gt5 gp5 (hG5.later (bel_al (bel_id w5) (.cells #[.int .i64 0, .int .i64 2, .int .i64 1] 3))) w5.heap.size 3 [0, 2, 1] (bk_rowI (Bk.new w5 3 [.int .i64 0, .int .i64 2, .int .i64 1])) rfl (by decide)).mono ?_; rintro e w6 ⟨c6, Xs6, rfl, hch6, hsets6, hb6⟩; have Hs6 := hid (And.intro hch6 (And.intro hsets6 hb6)); clear hch6 hsets6 hb6)
    | (go_at_call 48; refine (yes_some w6 c6 nest17 [0, 2, 1] Xs6 Hs6.out.1 Hs6.out.2.1 (nest_env (by simp)) (by decide)).mono ?_; rintro e w7 ⟨b, rfl, hb, hb7⟩; have hbt := hb.2 nest_021; subst hbt))
  go_ret
  exact ⟨rfl, belw (belw (belw (belw Hb03.out hb5) (bel_al (bel_id w5) (.cells #[.int .i64 0, .int .i64 2, .int .i64 1] 3))) Hs6.out.2.2) hb7⟩
end Ed
end Go.Proofs.Ytaehooafdbaomaa
