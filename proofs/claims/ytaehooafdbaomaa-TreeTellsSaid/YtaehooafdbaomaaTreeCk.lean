/- Chapter 14 (tree): Check of any tree by any grammar. -/
import Derived.Test.YtaehooafdbaomaaTreeC
namespace Go.Proofs.Ytaehooafdbaomaa
open Go.RowKit
attribute [local go_sem ↓] Go.wp_at_zero Go.wp_at_succ
attribute [local go_sem] frozen_alloc_lt

set_option maxHeartbeats 1000000 in
theorem tcheck_yes (w : World) (G : Gr) (gn gt gp : Option Addr) (cn ct cp : Nat) (h : GIn w G gn gt gp) (hs : Pl.soundB G = true) (p : Int) (kids : Fo) (gk : Option Addr) (ck : Nat) (hn : kids.nodes ≤ 1000000000000) (hat : FoAt w (fun k => k < w.heap.size) gk kids 0) :
    Calls Try.prog 24 #[.agg #[.int .i64 G.start, .int .i64 G.rules, .slice gn G.names.length cn, .slice gt G.terms.length ct, .slice gp G.prods.length cp], .agg #[.int .i64 p, .slice gk kids.len ck]] w fun e w' => e = .returned (.bool (Pl.soundB G && Tr.chkT G p kids)) ∧ Below w.heap.size w w' := by
  rw [hs, Bool.true_and]
  have hsn := sndG hs
  have hch : ChIn w G gn gt gp := ⟨h, by have := hsn.t1; omega, by have := hsn.p1; omega, fun x hx => by have := hsn.r16 x hx; omega⟩
  have hk2 := (Bk.new w 30 [.int .i64 G.start, .int .i64 G.rules, .slice gn G.names.length cn, .slice gt G.terms.length ct, .slice gp G.prods.length cp]).alloc (.cells #[.int .i64 p, .slice gk kids.len ck] 45)
  have hk3 := bk_at (Bk.new (w.alloc (.cells #[.int .i64 G.start, .int .i64 G.rules, .slice gn G.names.length cn, .slice gt G.terms.length ct, .slice gp G.prods.length cp] 30)) 45 [.int .i64 p, .slice gk kids.len ck]) (show _ = w.heap.size + 1 by simp)
  have hb0 : Below w.heap.size w ((w.alloc (.cells #[.int .i64 G.start, .int .i64 G.rules, .slice gn G.names.length cn, .slice gt G.terms.length ct, .slice gp G.prods.length cp] 30)).alloc (.cells #[.int .i64 p, .slice gk kids.len ck] 45)) := bel_al (bel_al (bel_id w) _) _
  have hin := hch.later hb0
  have hat0 := (hat.below hb0 (fun _ h => h)).mono (D' := fun x => x < ((w.alloc (.cells #[.int .i64 G.start, .int .i64 G.rules, .slice gn G.names.length cn, .slice gt G.terms.length ct, .slice gp G.prods.length cp] 30)).alloc (.cells #[.int .i64 p, .slice gk kids.len ck] 45)).heap.size) (fun k hk => Nat.lt_of_lt_of_le hk hb0.size)
  have Hs := hid hs
  have Hn := hid hn
  clear hsn hch hat h hs hn
  go_enter Try.func24, Try.ntmps24
  go_upto_region 1 with fail
  obtain ⟨wa, hwa⟩ : ∃ wa, wa = ((w.alloc (.cells #[.int .i64 G.start, .int .i64 G.rules, .slice gn G.names.length cn, .slice gt G.terms.length ct, .slice gp G.prods.length cp] 30)).alloc (.cells #[.int .i64 p, .slice gk kids.len ck] 45)) := ⟨_, rfl⟩
  obtain ⟨b2, hb2⟩ : ∃ b2, b2 = w.heap.size := ⟨_, rfl⟩
  obtain ⟨b3, hb3⟩ : ∃ b3, b3 = b2 + 1 := ⟨_, rfl⟩
  rw [← hwa] at hk2 hk3 hb0 hin hat0 ⊢
  rw [← hb2] at hk2 hk3 ⊢
  rw [← hb3] at hk3 ⊢
  have g0 := hk2.cell 0
  have g1 := hk2.cell 1
  have g2 := hk2.cell 2
  have g3 := hk2.cell 3
  have g4 := hk2.cell 4
  simp only [List.getElem?_cons_zero, List.getElem?_cons_succ] at g0 g1 g2 g3 g4
  have Hin := hid hin
  have Hat0 := hid hat0
  have Hb0 := hid hb0
  have Hk2 := hid hk2
  have Hk3 := hid hk3
  clear hwa hb2 hb3 hin hat0 hb0 hk2 hk3
  go_wp2_with (first
    | (go_at_call 61; refine (sound_calls _ G gn gt gp cn ct cp Hin.out.g.n Hin.out.g.t Hin.out.g.p Hin.out.g.h1 Hin.out.g.h2 Hin.out.g.h3 Hin.out.g.h4).mono ?_; rintro e w1 ⟨rfl, hb1⟩; rw [Hs.out]; have d0 := (Hk2.out.below hb1 Hk2.out.lt).cell 0; have d1 := (Hk2.out.below hb1 Hk2.out.lt).cell 1; have d2 := (Hk2.out.below hb1 Hk2.out.lt).cell 2; have d3 := (Hk2.out.below hb1 Hk2.out.lt).cell 3; have d4 := (Hk2.out.below hb1 Hk2.out.lt).cell 4; have y0 := (Hk3.out.below hb1 Hk3.out.lt).cell 0; have y1 := (Hk3.out.below hb1 Hk3.out.lt).cell 1; simp only [List.getElem?_cons_zero, List.getElem?_cons_succ] at d0 d1 d2 d3 d4 y0 y1; have Hat1 := hid ((Hat0.out.below hb1 (fun _ h => h)).mono (D' := fun x => x < w1.heap.size) (fun k hk => Nat.lt_of_lt_of_le hk hb1.size)); have Hb1 := hid hb1; clear hb1)
    | (go_at_call 69; refine (check_calls _ _ p kids gk ck (Hin.out.later Hb1.out) rfl Hn.out Hat1.out).mono ?_; rintro e w2 ⟨rfl, hb2⟩))
  go_ret
  exact ⟨rfl, belw Hb0.out (belw Hb1.out hb2)⟩
set_option maxHeartbeats 2000000 in
theorem tcheck_no (w : World) (G : Gr) (gn gt gp : Option Addr) (cn ct cp : Nat) (h : GIn w G gn gt gp) (hs : Pl.soundB G = false) (p : Int) (kids : Fo) (gk : Option Addr) (ck : Nat) :
    Calls Try.prog 24 #[.agg #[.int .i64 G.start, .int .i64 G.rules, .slice gn G.names.length cn, .slice gt G.terms.length ct, .slice gp G.prods.length cp], .agg #[.int .i64 p, .slice gk kids.len ck]] w fun e w' => e = .returned (.bool (Pl.soundB G && Tr.chkT G p kids)) ∧ Below w.heap.size w w' := by
  rw [hs, Bool.false_and]
  have hk2 := (Bk.new w 30 [.int .i64 G.start, .int .i64 G.rules, .slice gn G.names.length cn, .slice gt G.terms.length ct, .slice gp G.prods.length cp]).alloc (.cells #[.int .i64 p, .slice gk kids.len ck] 45)
  have hb0 : Below w.heap.size w ((w.alloc (.cells #[.int .i64 G.start, .int .i64 G.rules, .slice gn G.names.length cn, .slice gt G.terms.length ct, .slice gp G.prods.length cp] 30)).alloc (.cells #[.int .i64 p, .slice gk kids.len ck] 45)) := bel_al (bel_al (bel_id w) _) _
  have hin := h.later hb0
  have Hs := hid hs
  clear h hs
  go_enter Try.func24, Try.ntmps24
  go_upto_region 1 with fail
  obtain ⟨wa, hwa⟩ : ∃ wa, wa = ((w.alloc (.cells #[.int .i64 G.start, .int .i64 G.rules, .slice gn G.names.length cn, .slice gt G.terms.length ct, .slice gp G.prods.length cp] 30)).alloc (.cells #[.int .i64 p, .slice gk kids.len ck] 45)) := ⟨_, rfl⟩
  obtain ⟨b2, hb2⟩ : ∃ b2, b2 = w.heap.size := ⟨_, rfl⟩
  rw [← hwa] at hk2 hb0 hin ⊢
  rw [← hb2] at hk2 ⊢
  have g0 := hk2.cell 0
  have g1 := hk2.cell 1
  have g2 := hk2.cell 2
  have g3 := hk2.cell 3
  have g4 := hk2.cell 4
  simp only [List.getElem?_cons_zero, List.getElem?_cons_succ] at g0 g1 g2 g3 g4
  have Hin := hid hin
  have Hb0 := hid hb0
  clear hwa hb2 hin hb0 hk2
  go_wp2_with (go_at_call 61; refine (sound_calls _ G gn gt gp cn ct cp Hin.out.n Hin.out.t Hin.out.p Hin.out.h1 Hin.out.h2 Hin.out.h3 Hin.out.h4).mono ?_; rintro e w1 ⟨rfl, hb1⟩; rw [Hs.out])
  go_ret
  exact ⟨rfl, belw Hb0.out hb1⟩
/-- tree.Check of any tree by any grammar. -/
theorem tcheck_all (w : World) (G : Gr) (gn gt gp : Option Addr) (cn ct cp : Nat) (h : GIn w G gn gt gp) (p : Int) (kids : Fo) (gk : Option Addr) (ck : Nat) (hn : kids.nodes ≤ 1000000000000) (hat : FoAt w (fun k => k < w.heap.size) gk kids 0) :
    Calls Try.prog 24 #[.agg #[.int .i64 G.start, .int .i64 G.rules, .slice gn G.names.length cn, .slice gt G.terms.length ct, .slice gp G.prods.length cp], .agg #[.int .i64 p, .slice gk kids.len ck]] w fun e w' => e = .returned (.bool (Pl.soundB G && Tr.chkT G p kids)) ∧ Below w.heap.size w w' := by
  cases hs : Pl.soundB G with
  | true => rw [← hs]; exact tcheck_yes w G gn gt gp cn ct cp h hs p kids gk ck hn hat
  | false => rw [← hs]; exact tcheck_no w G gn gt gp cn ct cp h hs p kids gk ck
end Go.Proofs.Ytaehooafdbaomaa
