/- Chapter 10 (lang): all, Words: lengths that may not be: walk. -/
import Derived.Test.YtaehooafdbaomaaLang8
namespace Go.Proofs.Ytaehooafdbaomaa
open Go.RowKit
attribute [local go_sem ↓] Go.wp_at_zero Go.wp_at_succ
attribute [local go_sem] frozen_alloc_lt

set_option maxHeartbeats 4000000 in
theorem all_bad (w : World) (G : Gr) (gn gt gp : Option Addr) (cn ct cp : Nat) (a : Int) (ha : a < 0 ∨ 64 < a) (hs : Pl.soundB G = true) (hg : GIn w G gn gt gp) :
    Calls Try.prog 95 #[.agg #[.int .i64 G.start, .int .i64 G.rules, .slice gn G.names.length cn, .slice gt G.terms.length ct, .slice gp G.prods.length cp], .int .i64 a] w fun e w' => e = .returned (.tuple #[.slice none 0 0, .int .i64 1]) ∧ Below w.heap.size w w' := by
  have hk1 := Bk.new w 30 [.int .i64 G.start, .int .i64 G.rules, .slice gn G.names.length cn, .slice gt G.terms.length ct, .slice gp G.prods.length cp]
  have hb1 : Below w.heap.size w (w.alloc (.cells #[.int .i64 G.start, .int .i64 G.rules, .slice gn G.names.length cn, .slice gt G.terms.length ct, .slice gp G.prods.length cp] 30)) := bel_al (bel_id w) _
  obtain ⟨w1, hw1⟩ : ∃ w1, w1 = w.alloc (.cells #[.int .i64 G.start, .int .i64 G.rules, .slice gn G.names.length cn, .slice gt G.terms.length ct, .slice gp G.prods.length cp] 30) := ⟨_, rfl⟩
  obtain ⟨b2, hb2⟩ : ∃ b2, b2 = w.heap.size := ⟨_, rfl⟩
  rw [← hw1] at hk1 hb1
  rw [← hb2] at hk1
  have hg1 := hg.later hb1
  have x0 := hk1.cell 0
  have x1 := hk1.cell 1
  have x2 := hk1.cell 2
  have x3 := hk1.cell 3
  have x4 := hk1.cell 4
  simp only [List.getElem?_cons_zero, List.getElem?_cons_succ] at x0 x1 x2 x3 x4
  have hsound := sound_calls w1 G gn gt gp cn ct cp hg1.n hg1.t hg1.p hg1.h1 hg1.h2 hg1.h3 hg1.h4
  rw [hs] at hsound
  have Hsound := hid hsound
  have Hw1 := hid (And.intro hw1 hb2)
  have Hb1 := hid hb1
  clear hk1 hb1 hw1 hb2 hg1 hsound hg hs
  by_cases c1 : a < 0
  · clear ha
    go_enter Try.func95, Try.ntmps95
    go_upto_region 1 with fail
    rw [← Hw1.out.1, ← Hw1.out.2]
    go_wp2_with (go_at_call 61; refine Hsound.out.mono ?_; rintro e w2 ⟨rfl, hb2⟩)
    go_ret2
    exact ⟨rfl, belw Hb1.out hb2⟩
  · have c2 : (64 : Int) < a := by omega
    clear ha
    go_enter Try.func95, Try.ntmps95
    go_upto_region 1 with fail
    rw [← Hw1.out.1, ← Hw1.out.2]
    go_wp2_with (go_at_call 61; refine Hsound.out.mono ?_; rintro e w2 ⟨rfl, hb2⟩)
    go_ret2
    exact ⟨rfl, belw Hb1.out hb2⟩
set_option maxHeartbeats 4000000 in
theorem words_bad (w : World) (G : Gr) (gn gt gp : Option Addr) (cn ct cp : Nat) (a : Int) (ha : a < 0 ∨ 64 < a) (hs : Pl.soundB G = true) (hg : GIn w G gn gt gp) :
    Calls Try.prog 53 #[.agg #[.int .i64 G.start, .int .i64 G.rules, .slice gn G.names.length cn, .slice gt G.terms.length ct, .slice gp G.prods.length cp], .int .i64 a] w fun e w' => e = .returned (.tuple #[.slice none 0 0, .int .i64 1]) ∧ Below w.heap.size w w' := by
  have hk1 := Bk.new w 30 [.int .i64 G.start, .int .i64 G.rules, .slice gn G.names.length cn, .slice gt G.terms.length ct, .slice gp G.prods.length cp]
  have hb1 : Below w.heap.size w (w.alloc (.cells #[.int .i64 G.start, .int .i64 G.rules, .slice gn G.names.length cn, .slice gt G.terms.length ct, .slice gp G.prods.length cp] 30)) := bel_al (bel_id w) _
  obtain ⟨w1, hw1⟩ : ∃ w1, w1 = w.alloc (.cells #[.int .i64 G.start, .int .i64 G.rules, .slice gn G.names.length cn, .slice gt G.terms.length ct, .slice gp G.prods.length cp] 30) := ⟨_, rfl⟩
  obtain ⟨b2, hb2⟩ : ∃ b2, b2 = w.heap.size := ⟨_, rfl⟩
  rw [← hw1] at hk1 hb1
  rw [← hb2] at hk1
  have x0 := hk1.cell 0
  have x1 := hk1.cell 1
  have x2 := hk1.cell 2
  have x3 := hk1.cell 3
  have x4 := hk1.cell 4
  simp only [List.getElem?_cons_zero, List.getElem?_cons_succ] at x0 x1 x2 x3 x4
  have Hall := hid (all_bad w1 G gn gt gp cn ct cp a ha hs (hg.later hb1))
  have Hw1 := hid (And.intro hw1 hb2)
  have Hb1 := hid hb1
  clear hk1 hb1 hw1 hb2 hg hs ha
  go_enter Try.func53, Try.ntmps53
  go_upto_region 1 with fail
  rw [← Hw1.out.1, ← Hw1.out.2]
  go_wp2_with (go_at_call 95; refine Hall.out.mono ?_; rintro e w2 ⟨rfl, hb2⟩)
  go_ret2
  exact ⟨rfl, belw Hb1.out hb2⟩
end Go.Proofs.Ytaehooafdbaomaa
