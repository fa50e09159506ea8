/- Chapter 14 (tree): Get, which recovers. -/
import Derived.Test.YtaehooafdbaomaaTreeRead
import Derived.Defers
import Derived.Recover
namespace Go.Proofs.Ytaehooafdbaomaa
open Go.RowKit
attribute [local go_sem ↓] Go.wp_at_zero Go.wp_at_succ
attribute [local go_sem] frozen_alloc_lt

theorem run_stop (v : Value) (xT : TypeId) (w : World) : (Instr.typeAssert (.iface 109 v) xT 109 true).run Try.prog w = .ok (.tuple #[v, .bool true]) w := by
  simp [Instr.typeAssert, run_underlying Try.underlying109, go_sem]
attribute [local go_sem] run_stop
set_option maxHeartbeats 4000000 in
theorem tcatch_idle (p q : Addr) (w : World) :
    CallsD Try.prog 66 #[.pointer (some p), .pointer (some q)] .returning w fun e u' w' => e = .returned (.tuple #[]) ∧ u' = .returning ∧ w' = w := by
  refine callsD_of_wpS Try.func66 rfl fun c₀ cs hu => ?_
  have ht : (#[Value.pointer (some p), Value.pointer (some q)] ++ Array.replicate (Try.f66.ntmps - (#[Value.pointer (some p), Value.pointer (some q)]).size) undef) = #[Value.pointer (some p), Value.pointer (some q), undef, undef, undef, undef, undef, undef, undef, undef, undef, undef, undef, undef, undef, undef, undef, undef, undef] := by rw [Try.ntmps66]; rfl
  rw [ht]
  apply wpS_seq
  apply wpS_region
  generalize hK : Code.wpS Try.prog _ (bodyPostS Try.prog Try.f66 c₀ cs _) = K
  simp [wpOpsS, go_sem, recoverD, hu, Exit.thenS]
  rw [← hK]
  clear hK K
  refine wpS_of_wp ?_
  go_wp2
  cases c₀
  simp_all [bodyPostS, results, Try.results66]
set_option maxRecDepth 8000 in
set_option maxHeartbeats 4000000 in
theorem tcatch_panicking (b c e0 : Nat) (x y z : Value) (w : World) (hb : Bk w b 45 [x, y]) (hc : Bk w c 36 [z]) (hbc : ¬ c = b) :
    CallsD Try.prog 66 #[.pointer (some ⟨b, 0, none⟩), .pointer (some ⟨c, 0, none⟩)] (.panicking [{ v := stopV e0, recovered := false }]) w fun e u' w' =>
      e = .returned (.tuple #[]) ∧ u' = .panicking [{ v := stopV e0, recovered := true }] ∧ Bk w' b 45 [.int .i64 0, .slice none 0 0] ∧ Bk w' c 36 [.int .i64 e0] ∧ Kp (fun k => k = b ∨ k = c) w w' := by
  obtain ⟨cd, hcd⟩ : ∃ cd : Int, cd = e0 := ⟨_, rfl⟩
  simp only [stopV, ← hcd]
  clear hcd
  refine callsD_of_wpS Try.func66 rfl fun c₀ cs hu => ?_
  have ht : (#[Value.pointer (some ⟨b, 0, none⟩), Value.pointer (some ⟨c, 0, none⟩)] ++ Array.replicate (Try.f66.ntmps - (#[Value.pointer (some ⟨b, 0, none⟩), Value.pointer (some ⟨c, 0, none⟩)]).size) undef) = #[Value.pointer (some ⟨b, 0, none⟩), Value.pointer (some ⟨c, 0, none⟩), undef, undef, undef, undef, undef, undef, undef, undef, undef, undef, undef, undef, undef, undef, undef, undef, undef] := by rw [Try.ntmps66]; rfl
  rw [ht]
  apply wpS_seq
  apply wpS_region
  generalize hK : Code.wpS Try.prog _ (bodyPostS Try.prog Try.f66 c₀ cs _) = K
  simp [wpOpsS, go_sem, recoverD, hu, Exit.thenS]
  rw [← hK]
  clear hK K
  refine wpS_of_wp ?_
  have b0 := hb.cell 0
  have b1 := hb.cell 1
  have f0 := hb.free 0
  have f1 := hb.free 1
  have c0 := hc.cell 0
  have g0 := hc.free 0
  have hbl := hb.lt
  have hcl := hc.lt
  simp only [List.getElem?_cons_zero, List.getElem?_cons_succ] at b0 b1 c0
  go_wp2
  go_region
  show bodyPostS Try.prog Try.f66 c₀ cs _ Exit.normal _ _ _
  have hbc2 : b ≠ c := fun e => hbc e.symm
  refine ⟨rfl, _, rfl, .tuple #[], by simp [results, Try.results66], rfl, rfl, ?_, ?_, ?_⟩
  · exact ((((hb.set 0 (.int .i64 0)).set 1 (.slice none 0 0)).far (p := ⟨c, 0, none⟩) hbc2 (.int .i64 cd)).alloc _).drew
  · exact ((((hc.far (p := ⟨b, 0, none⟩) hbc (.int .i64 0)).far (p := ⟨b, 1, none⟩) hbc (.slice none 0 0)).set 0 (.int .i64 cd)).alloc _).drew
  · refine Kp.drew (Kp.alloc ?_ _)
    exact (((Kp.refl (fun k => k = b ∨ k = c) w).set (p := ⟨b, 0, none⟩) (.inl (.inl rfl)) _).set (p := ⟨b, 1, none⟩) (.inl (.inl rfl)) _).set (p := ⟨c, 0, none⟩) (.inl (.inr rfl)) _
theorem tget_results (W : World) (b c : Nat) (x y z : Value) (tmps : Array Value) (h4 : tmps[4]?.getD undef = .pointer (some ⟨b, 0, none⟩)) (h5 : tmps[5]?.getD undef = .pointer (some ⟨c, 0, none⟩)) (hb : Bk W b 45 [x, y]) (hc : Bk W c 36 [z]) :
    (results Try.f20 tmps).run Try.prog W = .ok (.tuple #[.agg #[x, y], z]) W := by
  have b0 := hb.cell 0
  have b1 := hb.cell 1
  have c0 := hc.cell 0
  simp only [List.getElem?_cons_zero, List.getElem?_cons_succ] at b0 b1 c0
  simp only [results, Try.results20]
  simp [h4, h5, go_sem, b0, b1, c0]
/-- What Get answers, by what the reader does. -/
def Tr.getR : RR (Int × Fo) → Nat × Int × Fo
  | .bad e => (e, 0, .nil)
  | .ok a [] _ => (0, a.1, a.2)
  | .ok _ (_ :: _) _ => (4, 0, .nil)
theorem Tr.getT_eq (G : Gr) (l : List UInt8) : Tr.getT G l = Tr.getR (Tr.readT G (l.length + 1) none l 0) := by
  unfold Tr.getT
  cases Tr.readT G (l.length + 1) none l 0 with
  | bad e => rfl
  | ok a l' c => cases l' <;> rfl
/-- What Get leaves. -/
def TGetSaid (w : World) (r : Nat × Int × Fo) (e : Ending) (w' : World) : Prop := ∃ gk ck, e = .returned (.tuple #[.agg #[.int .i64 r.2.1, .slice gk r.2.2.len ck], .int .i64 r.1]) ∧ FoAt w' (fun k => w.heap.size ≤ k ∧ k < w'.heap.size) gk r.2.2 0 ∧ Below w.heap.size w w'
section
variable (w : World) (G : Gr) (gn gt gp : Option Addr) (cn ct cp : Nat) (h : ChIn w G gn gt gp) (l : List UInt8)
include h
set_option maxRecDepth 8000 in
set_option maxHeartbeats 4000000 in
theorem tget_unsound (hs : Pl.soundB G = false) : Calls Try.prog 20 #[.agg #[.int .i64 G.start, .int .i64 G.rules, .slice gn G.names.length cn, .slice gt G.terms.length ct, .slice gp G.prods.length cp], .string ⟨l.toArray⟩] w (TGetSaid w (1, 0, .nil)) := by
  have hb0 : Below w.heap.size w (((w.alloc (.cells #[.int .i64 G.start, .int .i64 G.rules, .slice gn G.names.length cn, .slice gt G.terms.length ct, .slice gp G.prods.length cp] 30)).alloc (.cells #[.int .i64 0, .slice none 0 0] 45)).alloc (.cells #[.int .i64 0] 36)) := bel_al (bel_al (bel_al (bel_id w) _) _) _
  have rg := ((Bk.new w 30 [.int .i64 G.start, .int .i64 G.rules, .slice gn G.names.length cn, .slice gt G.terms.length ct, .slice gp G.prods.length cp]).alloc (.cells #[.int .i64 0, .slice none 0 0] 45)).alloc (.cells #[.int .i64 0] 36)
  have rb := (Bk.new (w.alloc (.cells #[.int .i64 G.start, .int .i64 G.rules, .slice gn G.names.length cn, .slice gt G.terms.length ct, .slice gp G.prods.length cp] 30)) 45 [.int .i64 0, .slice none 0 0]).alloc (.cells #[.int .i64 0] 36)
  have rc := Bk.new ((w.alloc (.cells #[.int .i64 G.start, .int .i64 G.rules, .slice gn G.names.length cn, .slice gt G.terms.length ct, .slice gp G.prods.length cp] 30)).alloc (.cells #[.int .i64 0, .slice none 0 0] 45)) 36 [.int .i64 0]
  have hsc := sound_calls _ G gn gt gp cn ct cp (h.later hb0).g.n (h.later hb0).g.t (h.later hb0).g.p h.g.h1 h.g.h2 h.g.h3 h.g.h4
  rw [hs] at hsc
  rw [show (w.alloc (.cells #[.int .i64 G.start, .int .i64 G.rules, .slice gn G.names.length cn, .slice gt G.terms.length ct, .slice gp G.prods.length cp] 30)).heap.size = w.heap.size + 1 by simp] at rb
  rw [show ((w.alloc (.cells #[.int .i64 G.start, .int .i64 G.rules, .slice gn G.names.length cn, .slice gt G.terms.length ct, .slice gp G.prods.length cp] 30)).alloc (.cells #[.int .i64 0, .slice none 0 0] 45)).heap.size = w.heap.size + 1 + 1 by simp] at rc
  obtain ⟨wa, hwa⟩ : ∃ wa, wa = ((w.alloc (.cells #[.int .i64 G.start, .int .i64 G.rules, .slice gn G.names.length cn, .slice gt G.terms.length ct, .slice gp G.prods.length cp] 30)).alloc (.cells #[.int .i64 0, .slice none 0 0] 45)).alloc (.cells #[.int .i64 0] 36) := ⟨_, rfl⟩
  obtain ⟨a, ha⟩ : ∃ a, a = w.heap.size := ⟨_, rfl⟩
  obtain ⟨b, hb⟩ : ∃ b, b = w.heap.size + 1 := ⟨_, rfl⟩
  obtain ⟨c, hc⟩ : ∃ c, c = w.heap.size + 1 + 1 := ⟨_, rfl⟩
  have hbc : ¬ b = c := by omega
  have hcb : ¬ c = b := by omega
  have hbw : w.heap.size ≤ b := by omega
  have hcw : w.heap.size ≤ c := by omega
  have Hbw := hid hbw
  have Hcw := hid hcw
  clear hbw hcw
  rw [← hwa] at hb0 rg rb rc hsc
  rw [← hc] at rc
  rw [← hb] at rb
  rw [← ha] at rg
  have g0 := rg.cell 0
  have g1 := rg.cell 1
  have g2 := rg.cell 2
  have g3 := rg.cell 3
  have g4 := rg.cell 4
  have hgl := rg.lt
  simp only [List.getElem?_cons_zero, List.getElem?_cons_succ] at g0 g1 g2 g3 g4
  have Hwa := hid hwa
  have HA := hid (And.intro ha (And.intro hb hc))
  have Hb0 := hid hb0
  have Rb := hid rb
  have Rc := hid rc
  clear hwa ha hb hc hb0 rg rb rc h hs
  go_enter_defers Try.func20, Try.ntmps20
  go_upto_region 1 with fail
  rw [← Hwa.out, ← HA.out.2.2, ← HA.out.2.1, ← HA.out.1]
  go_wp2_with (go_at_call 61; refine hsc.mono ?_; rintro e w1 ⟨rfl, hb1⟩; have rb1 := Rb.out.below hb1 Rb.out.lt; have rc1 := Rc.out.below hb1 Rc.out.lt; have x0 := rb1.cell 0; have x1 := rb1.cell 1; have y0 := rc1.cell 0; have fx0 := rb1.free 0; have fx1 := rb1.free 1; have fy0 := rc1.free 0; have lx := rb1.lt; have ly := rc1.lt; simp only [List.getElem?_cons_zero, List.getElem?_cons_succ] at x0 x1 y0; have Rb1 := hid rb1; have Rc1 := hid rc1; have Hb1 := hid hb1; clear rb1 rc1 hb1)
  refine ⟨.tuple #[.agg #[.int .i64 0, .slice none 0 0], .int .i64 1], tget_results _ b c _ _ _ _ (by rfl) (by rfl) ?_ ?_, ?_⟩
  · exact ((Rb1.out.set 0 (.int .i64 0)).set 1 (.slice none 0 0)).far (p := ⟨c, 0, none⟩) hbc _
  · exact ((Rc1.out.far (p := ⟨b, 0, none⟩) hcb _).far (p := ⟨b, 1, none⟩) hcb _).set 0 (.int .i64 1)
  · refine ⟨none, 0, rfl, trivial, ?_⟩
    refine Below.setCell ?_ Hcw.out _
    refine Below.setCell ?_ Hbw.out _
    refine Below.setCell ?_ Hbw.out _
    exact Hb0.out.trans (Hb1.out.mono Hb0.out.size)
set_option maxRecDepth 8000 in
set_option maxHeartbeats 4000000 in
theorem tget_sound (hl : l.length ≤ 1000000000) (hs : Pl.soundB G = true) : Calls Try.prog 20 #[.agg #[.int .i64 G.start, .int .i64 G.rules, .slice gn G.names.length cn, .slice gt G.terms.length ct, .slice gp G.prods.length cp], .string ⟨l.toArray⟩] w (TGetSaid w (Tr.getT G l)) := by
  have hmf : ∀ (fn : Fn) (first cap : Array Value) (w : World), (Instr.makeFunc fn first cap).run Try.prog w = .ok (.func fn first cap) w := fun _ _ _ _ => rfl
  rw [Tr.getT_eq]
  obtain ⟨R, hR⟩ : ∃ R, R = Tr.readT G (l.length + 1) none l 0 := ⟨_, rfl⟩
  rw [← hR]
  have HR := hid hR
  clear hR
  have hb0 : Below w.heap.size w (((w.alloc (.cells #[.int .i64 G.start, .int .i64 G.rules, .slice gn G.names.length cn, .slice gt G.terms.length ct, .slice gp G.prods.length cp] 30)).alloc (.cells #[.int .i64 0, .slice none 0 0] 45)).alloc (.cells #[.int .i64 0] 36)) := bel_al (bel_al (bel_al (bel_id w) _) _) _
  have rg := ((Bk.new w 30 [.int .i64 G.start, .int .i64 G.rules, .slice gn G.names.length cn, .slice gt G.terms.length ct, .slice gp G.prods.length cp]).alloc (.cells #[.int .i64 0, .slice none 0 0] 45)).alloc (.cells #[.int .i64 0] 36)
  have rb := (Bk.new (w.alloc (.cells #[.int .i64 G.start, .int .i64 G.rules, .slice gn G.names.length cn, .slice gt G.terms.length ct, .slice gp G.prods.length cp] 30)) 45 [.int .i64 0, .slice none 0 0]).alloc (.cells #[.int .i64 0] 36)
  have rc := Bk.new ((w.alloc (.cells #[.int .i64 G.start, .int .i64 G.rules, .slice gn G.names.length cn, .slice gt G.terms.length ct, .slice gp G.prods.length cp] 30)).alloc (.cells #[.int .i64 0, .slice none 0 0] 45)) 36 [.int .i64 0]
  have hsc := sound_calls _ G gn gt gp cn ct cp (h.later hb0).g.n (h.later hb0).g.t (h.later hb0).g.p h.g.h1 h.g.h2 h.g.h3 h.g.h4
  rw [hs] at hsc
  rw [show (w.alloc (.cells #[.int .i64 G.start, .int .i64 G.rules, .slice gn G.names.length cn, .slice gt G.terms.length ct, .slice gp G.prods.length cp] 30)).heap.size = w.heap.size + 1 by simp] at rb
  rw [show ((w.alloc (.cells #[.int .i64 G.start, .int .i64 G.rules, .slice gn G.names.length cn, .slice gt G.terms.length ct, .slice gp G.prods.length cp] 30)).alloc (.cells #[.int .i64 0, .slice none 0 0] 45)).heap.size = w.heap.size + 1 + 1 by simp] at rc
  obtain ⟨wa, hwa⟩ : ∃ wa, wa = ((w.alloc (.cells #[.int .i64 G.start, .int .i64 G.rules, .slice gn G.names.length cn, .slice gt G.terms.length ct, .slice gp G.prods.length cp] 30)).alloc (.cells #[.int .i64 0, .slice none 0 0] 45)).alloc (.cells #[.int .i64 0] 36) := ⟨_, rfl⟩
  obtain ⟨a, ha⟩ : ∃ a, a = w.heap.size := ⟨_, rfl⟩
  obtain ⟨b, hb⟩ : ∃ b, b = w.heap.size + 1 := ⟨_, rfl⟩
  obtain ⟨c, hc⟩ : ∃ c, c = w.heap.size + 1 + 1 := ⟨_, rfl⟩
  have hwas : wa.heap.size = w.heap.size + 3 := by rw [hwa]; simp
  have hbc : ¬ b = c := by omega
  have hcb : ¬ c = b := by omega
  have hbw : w.heap.size ≤ b := by omega
  have hcw : w.heap.size ≤ c := by omega
  have hcs : c + 1 = wa.heap.size := by omega
  have hbs : b + 2 = wa.heap.size := by omega
  have Hbw := hid hbw
  have Hcw := hid hcw
  have Hcs := hid hcs
  have Hbs := hid hbs
  clear hbw hcw hwas hcs hbs
  rw [← hwa] at hb0 rg rb rc hsc
  rw [← hc] at rc
  rw [← hb] at rb
  rw [← ha] at rg
  have g0 := rg.cell 0
  have g1 := rg.cell 1
  have g2 := rg.cell 2
  have g3 := rg.cell 3
  have g4 := rg.cell 4
  have hgl := rg.lt
  simp only [List.getElem?_cons_zero, List.getElem?_cons_succ] at g0 g1 g2 g3 g4
  have Hwa := hid hwa
  have HA := hid (And.intro ha (And.intro hb hc))
  have Hb0 := hid hb0
  have Rg := hid rg
  have Rb := hid rb
  have Rc := hid rc
  have H := hid h
  have Hl := hid hl
  clear hwa ha hb hc hb0 rg rb rc h hl hs
  go_enter_defers Try.func20, Try.ntmps20
  go_upto_region 1 with fail
  rw [← Hwa.out, ← HA.out.2.2, ← HA.out.2.1, ← HA.out.1]
  go_upto_region 4 with (go_at_call 61; refine hsc.mono ?_; rintro e w1 ⟨rfl, hb1⟩; have rg1 := Rg.out.below hb1 Rg.out.lt; have x0 := rg1.cell 0; have x1 := rg1.cell 1; have x2 := rg1.cell 2; have x3 := rg1.cell 3; have x4 := rg1.cell 4; have lx := rg1.lt; simp only [List.getElem?_cons_zero, List.getElem?_cons_succ] at x0 x1 x2 x3 x4; have Hb1 := hid hb1; clear hb1 rg1)
  go_upto_region 5 with fail
  have hsz1 : wa.heap.size ≤ w1.heap.size := Hb1.out.size
  have hbr := Bk.new w1 113 (rdCells G gn gt gp cn ct cp l 0)
  have hbq : Below w.heap.size w (w1.alloc (.cells #[.int .i64 G.start, .int .i64 G.rules, .slice gn G.names.length cn, .slice gt G.terms.length ct, .slice gp G.prods.length cp, .string ⟨l.toArray⟩, .int .i64 0] 113)) := bel_al (Hb0.out.trans (Hb1.out.mono Hb0.out.size)) _
  have hrb := (Rb.out.below Hb1.out Rb.out.lt).alloc (.cells #[.int .i64 G.start, .int .i64 G.rules, .slice gn G.names.length cn, .slice gt G.terms.length ct, .slice gp G.prods.length cp, .string ⟨l.toArray⟩, .int .i64 0] 113)
  have hrc := (Rc.out.below Hb1.out Rc.out.lt).alloc (.cells #[.int .i64 G.start, .int .i64 G.rules, .slice gn G.names.length cn, .slice gt G.terms.length ct, .slice gp G.prods.length cp, .string ⟨l.toArray⟩, .int .i64 0] 113)
  have hbr' : Bk (w1.alloc (.cells #[.int .i64 G.start, .int .i64 G.rules, .slice gn G.names.length cn, .slice gt G.terms.length ct, .slice gp G.prods.length cp, .string ⟨l.toArray⟩, .int .i64 0] 113)) w1.heap.size 113 (rdCells G gn gt gp cn ct cp l 0) := hbr
  obtain ⟨w2, hw2⟩ : ∃ w2, w2 = w1.alloc (.cells #[.int .i64 G.start, .int .i64 G.rules, .slice gn G.names.length cn, .slice gt G.terms.length ct, .slice gp G.prods.length cp, .string ⟨l.toArray⟩, .int .i64 0] 113) := ⟨_, rfl⟩
  obtain ⟨br, hbre⟩ : ∃ br, br = w1.heap.size := ⟨_, rfl⟩
  rw [← hw2] at hbq hrb hrc hbr' ⊢
  rw [← hbre] at hbr' ⊢
  have hs2 : w2.heap.size = br + 1 := by rw [hw2, hbre]; simp
  have hcbr : c < br := by have := Hcs.out; omega
  have hbbr : b < br := by have := Hbs.out; omega
  have hwbr : w.heap.size ≤ br := by have := Hbw.out; omega
  have hrd := read_all (l.length + 1) 0 true l 0 br w2 w (Nat.lt_succ_self _) Hl.out (by omega) H.out hwbr hbq hbr'
  simp only [if_pos] at hrd
  rw [← HR.out] at hrd
  have Hs2 := hid hs2
  have Hwbr := hid hwbr
  have Hbq := hid hbq
  have Hrb := hid hrb
  have Hrc := hid hrc
  have Hcbr := hid hcbr
  have Hbbr := hid hbbr
  clear hbr hbr' hw2 hbre hsz1 x0 x1 x2 x3 x4 lx g0 g1 g2 g3 g4 hgl hs2 hwbr hbq hrb hrc hcbr hbbr
  cases R with
  | bad e0 =>
    go_wp2_with (go_at_call 67; refine hrd.mono ?_; rintro e w3 ⟨hk3, rfl⟩; have Hk3 := hid hk3; clear hk3)
    have rb2 := Hrb.out.kp Hk3.out (by have := Hbbr.out; omega)
    have rc2 := Hrc.out.kp Hk3.out (by have := Hcbr.out; omega)
    refine leaves_cons (f := 66) (args := #[.pointer (some ⟨b, 0, none⟩), .pointer (some ⟨c, 0, none⟩)]) (by simp) (by simp [go_sem]) ?_
    refine (tcatch_panicking b c e0 _ _ _ w3 rb2 rc2 hcb).mono ?_
    rintro e u' w'' ⟨rfl, rfl, hb3, hc3, hk4⟩
    refine ⟨_, tget_results _ b c _ _ _ _ (by rfl) (by rfl) hb3 hc3, none, 0, rfl, trivial, ?_⟩
    have hA := Hk3.out.to_below Hbq.out.size (fun k e => by have := Hwbr.out; omega)
    have hB := hk4.to_below (Nat.le_trans Hbq.out.size hA.size) (fun k e => by have := Hbw.out; have := Hcw.out; omega)
    exact (Hbq.out.trans hA).trans hB
  | ok a l' c' =>
    cases l' with
    | nil =>
      go_wp2_with (go_at_call 67; refine hrd.mono ?_; rintro e w3 ⟨hk3, ⟨gk, ck, rfl, hfo⟩, hb3⟩; have rb2 := Hrb.out.kp hk3 (by have := Hbbr.out; omega); have rc2 := Hrc.out.kp hk3 (by have := Hcbr.out; omega); have Hk3 := hid hk3; have Hfo := hid hfo; clear hk3 hfo; have b0 := rb2.cell 0; have b1 := rb2.cell 1; have f0 := rb2.free 0; have f1 := rb2.free 1; have c0 := rc2.cell 0; have i0 := rc2.free 0; have r5 := hb3.cell 5; have e5 := hb3.free 5; have lb := rb2.lt; have lc := rc2.lt; have lr := hb3.lt; simp only [rdCells, List.getElem?_cons_zero, List.getElem?_cons_succ] at b0 b1 c0 r5; have Rb2 := hid rb2; have Rc2 := hid rc2; clear rb2 rc2 hb3)
      refine leaves_cons (f := 66) (args := #[.pointer (some ⟨b, 0, none⟩), .pointer (some ⟨c, 0, none⟩)]) (by simp) (by simp [go_sem]) ?_
      refine (tcatch_idle ⟨b, 0, none⟩ ⟨c, 0, none⟩ _).mono ?_
      rintro e u' w'' ⟨rfl, rfl, rfl⟩
      have hkw : Kp (fun k => k = b ∨ k = c) w3 (((((w3.setCell ⟨b, 0, none⟩ (.int .i64 a.1)).setCell ⟨b, 1, none⟩ (.slice gk a.2.len ck)).setCell ⟨b, 0, none⟩ (.int .i64 a.1)).setCell ⟨b, 1, none⟩ (.slice gk a.2.len ck)).setCell ⟨c, 0, none⟩ (.int .i64 0)) :=
        (((((Kp.refl (fun k => k = b ∨ k = c) w3).set (p := ⟨b, 0, none⟩) (.inl (.inl rfl)) _).set (p := ⟨b, 1, none⟩) (.inl (.inl rfl)) _).set (p := ⟨b, 0, none⟩) (.inl (.inl rfl)) _).set (p := ⟨b, 1, none⟩) (.inl (.inl rfl)) _).set (p := ⟨c, 0, none⟩) (.inl (.inr rfl)) _
      refine ⟨_, tget_results _ b c (.int .i64 a.1) (.slice gk a.2.len ck) (.int .i64 0) _ (by rfl) (by rfl) ?_ ?_, gk, ck, rfl, ?_, ?_⟩
      · exact ((((Rb2.out.set 0 (.int .i64 a.1)).set 1 (.slice gk a.2.len ck)).set 0 (.int .i64 a.1)).set 1 (.slice gk a.2.len ck)).far (p := ⟨c, 0, none⟩) hbc _
      · exact ((((Rc2.out.far (p := ⟨b, 0, none⟩) hcb _).far (p := ⟨b, 1, none⟩) hcb _).far (p := ⟨b, 0, none⟩) hcb _).far (p := ⟨b, 1, none⟩) hcb _).set 0 (.int .i64 0)
      · exact (Hfo.out.kp hkw (fun k hk e => by have := hk.1; have := Hs2.out; have := Hbbr.out; have := Hcbr.out; omega)).mono fun k hk => ⟨by have := hk.1; have := Hbq.out.size; omega, Nat.lt_of_lt_of_le hk.2 hkw.size⟩
      · have hA := Hk3.out.to_below Hbq.out.size (fun k e => by have := Hwbr.out; omega)
        have hB := hkw.to_below (Nat.le_trans Hbq.out.size hA.size) (fun k e => by have := Hbw.out; have := Hcw.out; omega)
        exact (Hbq.out.trans hA).trans hB
    | cons x r =>
      go_wp2_with (go_at_call 67; refine hrd.mono ?_; rintro e w3 ⟨hk3, ⟨gk, ck, rfl, hfo⟩, hb3⟩; have rb2 := Hrb.out.kp hk3 (by have := Hbbr.out; omega); have rc2 := Hrc.out.kp hk3 (by have := Hcbr.out; omega); have Hk3 := hid hk3; have Hfo := hid hfo; clear hk3 hfo; have b0 := rb2.cell 0; have b1 := rb2.cell 1; have f0 := rb2.free 0; have f1 := rb2.free 1; have c0 := rc2.cell 0; have i0 := rc2.free 0; have r5 := hb3.cell 5; have e5 := hb3.free 5; have lb := rb2.lt; have lc := rc2.lt; have lr := hb3.lt; simp only [rdCells, List.getElem?_cons_zero, List.getElem?_cons_succ] at b0 b1 c0 r5; have Rb2 := hid rb2; have Rc2 := hid rc2; clear rb2 rc2 hb3)
      refine leaves_cons (f := 66) (args := #[.pointer (some ⟨b, 0, none⟩), .pointer (some ⟨c, 0, none⟩)]) (by simp) (by simp [go_sem]) ?_
      refine (tcatch_idle ⟨b, 0, none⟩ ⟨c, 0, none⟩ _).mono ?_
      rintro e u' w'' ⟨rfl, rfl, rfl⟩
      have hkw : Kp (fun k => k = b ∨ k = c) w3 (((((w3.setCell ⟨b, 0, none⟩ (.int .i64 a.1)).setCell ⟨b, 1, none⟩ (.slice gk a.2.len ck)).setCell ⟨b, 0, none⟩ (.int .i64 0)).setCell ⟨b, 1, none⟩ (.slice none 0 0)).setCell ⟨c, 0, none⟩ (.int .i64 4)) :=
        (((((Kp.refl (fun k => k = b ∨ k = c) w3).set (p := ⟨b, 0, none⟩) (.inl (.inl rfl)) _).set (p := ⟨b, 1, none⟩) (.inl (.inl rfl)) _).set (p := ⟨b, 0, none⟩) (.inl (.inl rfl)) _).set (p := ⟨b, 1, none⟩) (.inl (.inl rfl)) _).set (p := ⟨c, 0, none⟩) (.inl (.inr rfl)) _
      refine ⟨_, tget_results _ b c (.int .i64 0) (.slice none 0 0) (.int .i64 4) _ (by rfl) (by rfl) ?_ ?_, none, 0, rfl, trivial, ?_⟩
      · exact ((((Rb2.out.set 0 (.int .i64 a.1)).set 1 (.slice gk a.2.len ck)).set 0 (.int .i64 0)).set 1 (.slice none 0 0)).far (p := ⟨c, 0, none⟩) hbc _
      · exact ((((Rc2.out.far (p := ⟨b, 0, none⟩) hcb _).far (p := ⟨b, 1, none⟩) hcb _).far (p := ⟨b, 0, none⟩) hcb _).far (p := ⟨b, 1, none⟩) hcb _).set 0 (.int .i64 4)
      · have hA := Hk3.out.to_below Hbq.out.size (fun k e => by have := Hwbr.out; omega)
        have hB := hkw.to_below (Nat.le_trans Hbq.out.size hA.size) (fun k e => by have := Hbw.out; have := Hcw.out; omega)
        exact (Hbq.out.trans hA).trans hB
/-- tree.Get of any bytes, any grammar. -/
theorem tget_calls (hl : l.length ≤ 1000000000) : Calls Try.prog 20 #[.agg #[.int .i64 G.start, .int .i64 G.rules, .slice gn G.names.length cn, .slice gt G.terms.length ct, .slice gp G.prods.length cp], .string ⟨l.toArray⟩] w (TGetSaid w (if Pl.soundB G = true then Tr.getT G l else (1, 0, .nil))) := by
  cases hs : Pl.soundB G with
  | true => rw [if_pos rfl]; exact tget_sound w G gn gt gp cn ct cp h l hl hs
  | false => rw [if_neg (by simp)]; exact tget_unsound w G gn gt gp cn ct cp h l hs
end
end Go.Proofs.Ytaehooafdbaomaa
