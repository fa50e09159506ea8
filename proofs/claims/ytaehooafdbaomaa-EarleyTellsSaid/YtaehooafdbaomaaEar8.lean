/- Chapter 17 (earley): Make where there is no chart; Good: walks. -/
import Derived.Test.YtaehooafdbaomaaEar7
namespace Go.Proofs.Ytaehooafdbaomaa
open Go.RowKit
attribute [local go_sem ↓] Go.wp_at_zero Go.wp_at_succ
attribute [local go_sem] frozen_alloc_lt
namespace Ed

set_option maxHeartbeats 4000000 in
theorem make_unsound (w : World) (G : Gr) (gn gt gp : Option Addr) (cn ct cp : Nat) (h : GIn w G gn gt gp) (hs : Pl.soundB G = false) (gw : Option Addr) (cw n : Nat) :
    Calls Try.prog 43 #[gramV G gn gt gp cn ct cp, .slice gw n cw] w (MkNo w) := by
  have hb0 : Below w.heap.size w (w.alloc (.cells #[.int .i64 G.start, .int .i64 G.rules, .slice gn G.names.length cn, .slice gt G.terms.length ct, .slice gp G.prods.length cp] 30)) := (Below.refl _ _).alloc (Nat.le_refl _) _
  have h1 := h.later hb0
  have Hs := hid hs
  unfold gramV
  clear hs
  go_enter Try.func43, Try.ntmps43
  go_wp2_with (go_at_call 61; refine (sound_is _ _ G gn gt gp cn ct cp false Hs.out h1.n h1.t h1.p (Nat.le_refl _) h1.h1 h1.h2 h1.h3 h1.h4).mono ?_; rintro e w1 ⟨rfl, hb1⟩)
  go_ret
  exact ⟨rfl, hb0.trans (hb1.mono hb0.size)⟩
set_option maxHeartbeats 4000000 in
theorem make_long (w : World) (G : Gr) (gn gt gp : Option Addr) (cn ct cp : Nat) (h : GIn w G gn gt gp) (hs : Pl.soundB G = true) (gw : Option Addr) (cw n : Nat) (hn : 64 < n) :
    Calls Try.prog 43 #[gramV G gn gt gp cn ct cp, .slice gw n cw] w (MkNo w) := by
  have hb0 : Below w.heap.size w (w.alloc (.cells #[.int .i64 G.start, .int .i64 G.rules, .slice gn G.names.length cn, .slice gt G.terms.length ct, .slice gp G.prods.length cp] 30)) := (Below.refl _ _).alloc (Nat.le_refl _) _
  have h1 := h.later hb0
  have Hs := hid hs
  have hnI : (64 : Int) < (n : Int) := by omega
  unfold gramV
  clear hs
  go_enter Try.func43, Try.ntmps43
  go_wp2_with (go_at_call 61; refine (sound_is _ _ G gn gt gp cn ct cp true Hs.out h1.n h1.t h1.p (Nat.le_refl _) h1.h1 h1.h2 h1.h3 h1.h4).mono ?_; rintro e w1 ⟨rfl, hb1⟩)
  go_ret
  exact ⟨rfl, hb0.trans (hb1.mono hb0.size)⟩
set_option maxHeartbeats 4000000 in
theorem make_bad (w : World) (G : Gr) (gn gt gp : Option Addr) (cn ct cp : Nat) (h : GIn w G gn gt gp) (hs : Pl.soundB G = true) (gw : Option Addr) (cw : Nat) (word : List Int) (hw : RowI w w.heap.size gw word) (hwl : word.length ≤ 64) (hbad : word.any (badT G.terms.length) = true) :
    Calls Try.prog 43 #[gramV G gn gt gp cn ct cp, .slice gw word.length cw] w (MkNo w) := by
  have hk := Bk.new w 30 [.int .i64 G.start, .int .i64 G.rules, .slice gn G.names.length cn, .slice gt G.terms.length ct, .slice gp G.prods.length cp]
  have hb0 : Below w.heap.size w (w.alloc (.cells #[.int .i64 G.start, .int .i64 G.rules, .slice gn G.names.length cn, .slice gt G.terms.length ct, .slice gp G.prods.length cp] 30)) := (Below.refl _ _).alloc (Nat.le_refl _) _
  have h1 := h.later hb0
  have hw2 := (hw.below hb0).mono hb0.size
  have Hs := hid hs
  have Hany := hid hbad
  have hl' : ¬ (64 : Int) < (word.length : Int) := by omega
  have Heg := hid (fun (args : Array Value) (w : World) => show (callFunc 79 args).run Try.prog w = .ok (.enter 79 args) w by kernel_rfl)
  unfold gramV
  clear hs hbad
  go_enter Try.func43, Try.ntmps43
  go_wp2_with (first
    | (go_at_call 61; refine (sound_is _ _ G gn gt gp cn ct cp true Hs.out h1.n h1.t h1.p (Nat.le_refl _) h1.h1 h1.h2 h1.h3 h1.h4).mono ?_; rintro e w1 ⟨rfl, hb1⟩; have hw3 := (hw2.below hb1).mono hb1.size; have g3' := (hk.below hb1 hk.lt).cell 3; simp only [List.getElem?_cons_zero, List.getElem?_cons_succ] at g3')
    | (go_at_call 78; refine (containsFunc_calls w1 gw cw word 79 (.pointer (some ⟨w.heap.size, 0, none⟩)) (badT G.terms.length) hw3 (by omega) Heg.out (fun z _ => mk1_calls w1 w.heap.size G.terms.length gt ct z g3')).mono ?_; rintro e w3 ⟨rfl, rfl⟩; rw [Hany.out]))
  go_ret
  exact ⟨rfl, hb0.trans (hb1.mono hb0.size)⟩
set_option maxHeartbeats 1000000 in
theorem good_none (w : World) : Calls Try.prog 47 #[.pointer none] w fun e w' => e = .returned (.int .i64 (-1)) ∧ w = w' := by
  go_enter Try.func47, Try.ntmps47
  go_wp2_with fail
  go_ret
  exact ⟨rfl, rfl⟩
set_option maxHeartbeats 1000000 in
theorem good_some (w : World) (c : Nat) (G : Gr) (word : List Int) (Xs : List (List Itm)) (h : ChS w c G word Xs) (hX : Xs.length ≤ 1000) : Calls Try.prog 47 #[.pointer (some ⟨c, 0, none⟩)] w fun e w' => e = .returned (.int .i64 ((Xs.length : Int) - 1)) ∧ w = w' := by
  obtain ⟨gs, cs, h8, -⟩ := h.c8
  go_enter Try.func47, Try.ntmps47
  go_wp2_with fail
  go_ret
  exact ⟨rfl, rfl⟩
end Ed
end Go.Proofs.Ytaehooafdbaomaa
