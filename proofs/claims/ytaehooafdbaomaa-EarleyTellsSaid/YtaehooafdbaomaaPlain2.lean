/- Chapter 8 (plain): Sound. -/
import Derived.Test.YtaehooafdbaomaaPlain1
namespace Go.Proofs.Ytaehooafdbaomaa
open Go.RowKit
attribute [local go_sem ↓] Go.wp_at_zero Go.wp_at_succ
attribute [local go_sem] frozen_alloc_lt

namespace Pl
/-- The productions of a sound grammar: left sides in range and rising, right sides short and of its symbols. -/
def prodsS (n t : Int) : Int → List (Int × List Int) → Bool
  | _, [] => true
  | prev, x :: r => if x.1 < 0 ∨ n ≤ x.1 ∨ 16 < x.2.length ∨ x.1 < prev then false else if x.2.any (strange n t) then false else prodsS n t x.1 r
def soundB (G : Gr) : Bool :=
  if G.names.length < 1 ∨ 256 < G.names.length ∨ G.rules < 0 ∨ (G.names.length : Int) < G.rules ∨ apartS 65536 [] G.names = false then false
  else if 256 < G.terms.length ∨ apartS 16 [] G.terms = false ∨ 256 < G.prods.length ∨ G.start < 0 ∨ (G.names.length : Int) ≤ G.start then false
  else prodsS G.names.length G.terms.length 0 G.prods
end Pl

theorem distinct_is (w : World) (B : Nat) (ga : Option Addr) (cap : Nat) (ss : List ByteArray) (most : Int) (r : Bool) (hb : Pl.apartS most [] ss = r) (hr : RowS w B ga ss) (hB : B ≤ w.heap.size) (hl : ss.length ≤ 9223372036854775807) (hm0 : 0 ≤ most) (hm : most ≤ 70000) :
    Calls Try.prog 103 #[.slice ga ss.length cap, .int .i64 most] w fun e w' => e = .returned (.bool r) ∧ Below w.heap.size w w' :=
  hb ▸ distinct_calls w ga cap ss most (hr.mono hB) hl hm0 hm

/-- The five cells of a grammar's box. -/
def gramCells (st ru : Int) (gn gt gp : Option Addr) (ln lt lp cn ct cp : Nat) : List Value := [.int .i64 st, .int .i64 ru, .slice gn ln cn, .slice gt lt ct, .slice gp lp cp]

def SndAt (wd : World) (_b : Nat) (n t : Int) (ps : List (Int × List Int)) (res : Bool) (k : Nat) (v66 : Value) (w : World) : Prop :=
  ∃ (i : Nat) (prev : Int), v66 = .int .i64 i ∧ i ≤ ps.length ∧ (∀ x, 0 < i → ps[i-1]? = some x → x.1 = prev) ∧ (i = 0 → prev = 0) ∧ Pl.prodsS n t prev (ps.drop i) = res ∧ k = ps.length - i ∧ Below wd.heap.size wd w

set_option maxHeartbeats 2000000 in
set_option maxRecDepth 8000 in
theorem sound_calls (w : World) (G : Gr) (gn gt gp : Option Addr) (cn ct cp : Nat) (hn : RowS w w.heap.size gn G.names) (ht : RowS w w.heap.size gt G.terms) (hp : RowP w w.heap.size gp G.prods)
    (h1 : G.names.length ≤ 9223372036854775807) (h2 : G.terms.length ≤ 9223372036854775807) (h3 : G.prods.length ≤ 9223372036854775807) (h4 : ∀ x ∈ G.prods, x.2.length ≤ 9223372036854775807) :
    Calls Try.prog 61 #[.agg #[.int .i64 G.start, .int .i64 G.rules, .slice gn G.names.length cn, .slice gt G.terms.length ct, .slice gp G.prods.length cp]] w fun e w' =>
      e = .returned (.bool (Pl.soundB G)) ∧ Below w.heap.size w w' := by
  generalize hres : Pl.soundB G = res
  unfold Pl.soundB at hres
  obtain ⟨st, ru, ns, ts, ps⟩ := G
  simp only at *
  have hb0 : Below w.heap.size w (w.alloc (.cells #[.int .i64 st, .int .i64 ru, .slice gn ns.length cn, .slice gt ts.length ct, .slice gp ps.length cp] 30)) := (Below.refl _ _).alloc (Nat.le_refl _) _
  have hn0 := hn.below hb0
  have ht0 := ht.below hb0
  have hp0 := hp.below hb0
  have hbk : Bk (w.alloc (.cells #[.int .i64 st, .int .i64 ru, .slice gn ns.length cn, .slice gt ts.length ct, .slice gp ps.length cp] 30)) w.heap.size 30 [.int .i64 st, .int .i64 ru, .slice gn ns.length cn, .slice gt ts.length ct, .slice gp ps.length cp] := Bk.new w _ _
  have hz0 : (w.alloc (.cells #[.int .i64 st, .int .i64 ru, .slice gn ns.length cn, .slice gt ts.length ct, .slice gp ps.length cp] 30)).heap.size = w.heap.size + 1 := by simp
  have Hz0 := hid hz0
  have Hp4 := hid h4
  clear hz0 h4 hn ht hp
  go_enter Try.func61, Try.ntmps61
  go_upto_region 1 with (fail)
  obtain ⟨wd, hwd⟩ : ∃ wd, wd = (w.alloc (.cells #[.int .i64 st, .int .i64 ru, .slice gn ns.length cn, .slice gt ts.length ct, .slice gp ps.length cp] 30)) := ⟨_, rfl⟩
  obtain ⟨b, hbb⟩ : ∃ b, b = w.heap.size := ⟨_, rfl⟩
  rw [← hwd] at hb0 hn0 ht0 hp0 hbk Hz0 ⊢
  rw [← hbb] at hbk Hz0 hn0 ht0 hp0 ⊢
  clear hwd
  have Hbb := hid hbb
  clear hbb
  have g0 := hbk.cell 0
  have g1 := hbk.cell 1
  have g2 := hbk.cell 2
  have g3 := hbk.cell 3
  have g4 := hbk.cell 4
  simp only [List.getElem?_cons_zero, List.getElem?_cons_succ] at g0 g1 g2 g3 g4
  by_cases a1 : ns.length < 1
  · rw [if_pos (.inl a1)] at hres
    have Hres := hid hres
    clear hres
    go_wp2_with fail
    go_ret
    rw [← Hres.out]
    exact ⟨rfl, hb0⟩
  have a1' : ¬ (ns.length : Int) < 1 := by omega
  by_cases a2 : 256 < ns.length
  · have a2' : (256 : Int) < (ns.length : Int) := by omega
    rw [if_pos (.inr (.inl a2))] at hres
    have Hres := hid hres
    clear hres
    go_wp2_with fail
    go_ret
    rw [← Hres.out]
    exact ⟨rfl, hb0⟩
  have a2' : ¬ (256 : Int) < (ns.length : Int) := by omega
  by_cases a3 : ru < 0
  · rw [if_pos (.inr (.inr (.inl a3)))] at hres
    have Hres := hid hres
    clear hres
    go_wp2_with fail
    go_ret
    rw [← Hres.out]
    exact ⟨rfl, hb0⟩
  by_cases a4 : (ns.length : Int) < ru
  · rw [if_pos (.inr (.inr (.inr (.inl a4))))] at hres
    have Hres := hid hres
    clear hres
    go_wp2_with fail
    go_ret
    rw [← Hres.out]
    exact ⟨rfl, hb0⟩
  cases a5 : Pl.apartS 65536 [] ns with
  | false =>
    rw [if_pos (.inr (.inr (.inr (.inr a5))))] at hres
    have Hres := hid hres
    have A5 := hid a5
    clear hres a5
    go_wp2_with (go_at_call 103; refine (distinct_is _ _ _ _ _ _ _ A5.out hn0 (by rw [Hz0.out]; omega) h1 (by omega) (by omega)).mono ?_; rintro e w1 ⟨rfl, hb1⟩)
    go_ret
    rw [← Hres.out]
    exact ⟨rfl, hb0.trans (hb1.mono hb0.size)⟩
  | true =>
    rw [if_neg (by simp only [not_or]; exact ⟨a1, a2, a3, a4, by rw [a5]; simp⟩)] at hres
    have A5 := hid a5
    clear a5
    go_upto_region 3 with (go_at_call 103; refine (distinct_is _ _ _ _ _ _ _ A5.out hn0 (by rw [Hz0.out]; omega) h1 (by omega) (by omega)).mono ?_; rintro e w1 ⟨rfl, hb1⟩)
    have hbw : Below w.heap.size w w1 := hb0.trans (hb1.mono hb0.size)
    have ht1 := ht0.below (hb1.mono (by rw [Hz0.out]; omega))
    have hp1 := hp0.below (hb1.mono (by rw [Hz0.out]; omega))
    have hbk1 := hbk.below hb1 hbk.lt
    have hzb : b + 1 ≤ w1.heap.size := by have := hb1.size; rw [Hz0.out] at this; exact this
    have hzw : w.heap.size ≤ w1.heap.size := hbw.size
    clear hb1 hb0 hn0 ht0 hp0 hbk g0 g1 g2 g3 g4 Hz0
    have g0 := hbk1.cell 0
    have g1 := hbk1.cell 1
    have g2 := hbk1.cell 2
    have g3 := hbk1.cell 3
    have g4 := hbk1.cell 4
    simp only [List.getElem?_cons_zero, List.getElem?_cons_succ] at g0 g1 g2 g3 g4
    by_cases e1 : 256 < ts.length
    · have e1' : (256 : Int) < (ts.length : Int) := by omega
      rw [if_pos (.inl e1)] at hres
      have Hres := hid hres
      clear hres
      go_wp2_with fail
      go_ret
      rw [← Hres.out]
      exact ⟨rfl, hbw⟩
    have e1' : ¬ (256 : Int) < (ts.length : Int) := by omega
    cases e2 : Pl.apartS 16 [] ts with
    | false =>
      rw [if_pos (.inr (.inl e2))] at hres
      have Hres := hid hres
      have E2 := hid e2
      clear hres e2
      go_wp2_with (go_at_call 103; refine (distinct_is _ _ _ _ _ _ _ E2.out ht1 (by omega) h2 (by omega) (by omega)).mono ?_; rintro e w2 ⟨rfl, hb2⟩)
      go_ret
      rw [← Hres.out]
      exact ⟨rfl, hbw.trans (hb2.mono hbw.size)⟩
    | true =>
      have E2 := hid e2
      by_cases e3 : 256 < ps.length
      · have e3' : (256 : Int) < (ps.length : Int) := by omega
        rw [if_pos (.inr (.inr (.inl e3)))] at hres
        have Hres := hid hres
        clear hres e2
        go_wp2_with (go_at_call 103; refine (distinct_is _ _ _ _ _ _ _ E2.out ht1 (by omega) h2 (by omega) (by omega)).mono ?_; rintro e w2 ⟨rfl, hb2⟩; have g4' := (hbk1.below hb2 hbk1.lt).cell 4; simp only [List.getElem?_cons_zero, List.getElem?_cons_succ] at g4')
        go_ret
        rw [← Hres.out]
        exact ⟨rfl, hbw.trans (hb2.mono hbw.size)⟩
      have e3' : ¬ (256 : Int) < (ps.length : Int) := by omega
      by_cases e4 : st < 0
      · rw [if_pos (.inr (.inr (.inr (.inl e4))))] at hres
        have Hres := hid hres
        clear hres e2
        go_wp2_with (go_at_call 103; refine (distinct_is _ _ _ _ _ _ _ E2.out ht1 (by omega) h2 (by omega) (by omega)).mono ?_; rintro e w2 ⟨rfl, hb2⟩; have g4' := (hbk1.below hb2 hbk1.lt).cell 4; have g0' := (hbk1.below hb2 hbk1.lt).cell 0; simp only [List.getElem?_cons_zero, List.getElem?_cons_succ] at g4' g0')
        go_ret
        rw [← Hres.out]
        exact ⟨rfl, hbw.trans (hb2.mono hbw.size)⟩
      by_cases e5 : (ns.length : Int) ≤ st
      · rw [if_pos (.inr (.inr (.inr (.inr e5))))] at hres
        have Hres := hid hres
        clear hres e2
        go_wp2_with (go_at_call 103; refine (distinct_is _ _ _ _ _ _ _ E2.out ht1 (by omega) h2 (by omega) (by omega)).mono ?_; rintro e w2 ⟨rfl, hb2⟩; have g4' := (hbk1.below hb2 hbk1.lt).cell 4; have g0' := (hbk1.below hb2 hbk1.lt).cell 0; have g2' := (hbk1.below hb2 hbk1.lt).cell 2; simp only [List.getElem?_cons_zero, List.getElem?_cons_succ] at g4' g0' g2')
        go_ret
        rw [← Hres.out]
        exact ⟨rfl, hbw.trans (hb2.mono hbw.size)⟩
      rw [if_neg (by simp only [not_or]; exact ⟨e1, by rw [e2]; simp, e3, e4, e5⟩)] at hres
      have Hres := hid hres
      clear hres e2
      go_wp2_with (go_at_call 103; refine (distinct_is _ _ _ _ _ _ _ E2.out ht1 (by omega) h2 (by omega) (by omega)).mono ?_; rintro e w2 ⟨rfl, hb2⟩; have g4' := (hbk1.below hb2 hbk1.lt).cell 4; have g0' := (hbk1.below hb2 hbk1.lt).cell 0; have g2' := (hbk1.below hb2 hbk1.lt).cell 2; simp only [List.getElem?_cons_zero, List.getElem?_cons_succ] at g4' g0' g2')
      have hbw2 : Below w.heap.size w w2 := hbw.trans (hb2.mono hbw.size)
      have hp2 := hp1.below (hb2.mono (by omega))
      have hbk2 := hbk1.below hb2 hbk1.lt
      have hzb2 : b + 1 ≤ w2.heap.size := by have := hb2.size; omega
      clear hb2 hbw ht1 hp1 hbk1 g0 g1 g2 g3 g4 g0' g2' g4' hzb hzw
      go_loopg [66] ps.length (fun k v66 wr => SndAt w2 b ns.length ts.length ps res k v66 wr)
      case atStart => exact ⟨0, 0, rfl, Nat.zero_le _, fun x h => by omega, fun _ => rfl, by rw [List.drop_zero]; exact Hres.out, rfl, Below.refl _ _⟩
      case round =>
        obtain ⟨i, prev, rfl, hi, hpv, hpv0, hps, hk, hbr⟩ := hrel
        have Hk := hid hk
        have Hps := hid hps
        have Hpv := hid hpv
        have Hpv0 := hid hpv0
        clear hk hps hpv hpv0
        have hbwr : Below w.heap.size w wr := hbw2.trans (hbr.mono hbw2.size)
        have hbkr := hbk2.below hbr hbk2.lt
        have g2 := hbkr.cell 2
        have g3 := hbkr.cell 3
        have g4 := hbkr.cell 4
        simp only [List.getElem?_cons_zero, List.getElem?_cons_succ] at g2 g3 g4
        have hpr := hp2.below (hbr.mono (by omega))
        have hzr : b + 1 ≤ wr.heap.size := by have := hbr.size; omega
        by_cases hlt : i < ps.length
        · have hlt' : (i : Int) < (ps.length : Int) := by omega
          obtain ⟨x, hx⟩ : ∃ x, x = ps[i] := ⟨_, rfl⟩
          have hxi : ps[i]? = some x := by rw [hx]; exact List.getElem?_eq_getElem hlt
          have hr16 := Hp4.out x (by rw [hx]; exact List.getElem_mem hlt)
          have hps := Hps.out
          rw [List.drop_eq_getElem_cons hlt, ← hx, Pl.prodsS] at hps
          clear Hps
          obtain ⟨l, r⟩ := x
          simp only at hps hr16
          obtain ⟨g, off, gr, cr, rfl, hg, hc0, hc1, hri⟩ := hpr i _ hxi
          simp only at hc0 hc1 hri
          have Hx := hid hx
          have Hxi := hid hxi
          clear hx hxi
          go_wp2_with fail
          have hbx : Below wr.heap.size wr (wr.alloc (.cells #[.int .i64 l, .slice gr r.length cr] 97)) := (Below.refl _ _).alloc (Nat.le_refl _) _
          have hxk : Bk (wr.alloc (.cells #[.int .i64 l, .slice gr r.length cr] 97)) wr.heap.size 97 [.int .i64 l, .slice gr r.length cr] := Bk.new wr _ _
          obtain ⟨wx, hwx⟩ : ∃ wx, wx = (wr.alloc (.cells #[.int .i64 l, .slice gr r.length cr] 97)) := ⟨_, rfl⟩
          obtain ⟨c, hcc⟩ : ∃ c, c = wr.heap.size := ⟨_, rfl⟩
          rw [← hwx] at hbx hxk ⊢
          rw [← hcc] at hxk ⊢
          clear hcc
          have hcz : c < wx.heap.size := hxk.lt
          have g2' := (hbkr.below hbx hbkr.lt).cell 2
          have g4' := (hbkr.below hbx hbkr.lt).cell 4
          have g3' := (hbkr.below hbx hbkr.lt).cell 3
          have x0 := hxk.cell 0
          have x1 := hxk.cell 1
          simp only [List.getElem?_cons_zero, List.getElem?_cons_succ] at g2' g4' g3' x0 x1
          have hbwx : Below w.heap.size w wx := hbwr.trans (hbx.mono hbwr.size)
          have hzx : b + 1 ≤ wx.heap.size := by have := hbx.size; omega
          have hbx2 : Below w2.heap.size w2 wx := hbr.trans (hbx.mono hbr.size)
          have hri := hri.below (hbx.mono (by omega))
          have hpx := hpr.below (hbx.mono (by omega))
          clear hwx g2 g3 g4 hc0 hc1 hbx hbkr hbr hbwr
          by_cases d1 : l < 0
          · rw [if_pos (.inl d1)] at hps
            have Hps := hid hps
            clear hps
            go_quiet (fail)
            go_wp2_with fail
            go_ret
            rw [← Hps.out]
            exact ⟨rfl, below_drewN hbwx _⟩
          by_cases d2 : (ns.length : Int) ≤ l
          · rw [if_pos (.inr (.inl d2))] at hps
            have Hps := hid hps
            clear hps
            go_quiet (fail)
            go_wp2_with fail
            go_ret
            rw [← Hps.out]
            exact ⟨rfl, below_drewN hbwx _⟩
          by_cases d3 : 16 < r.length
          · have d3' : (16 : Int) < (r.length : Int) := by omega
            rw [if_pos (.inr (.inr (.inl d3)))] at hps
            have Hps := hid hps
            clear hps
            go_quiet (fail)
            go_wp2_with fail
            go_ret
            rw [← Hps.out]
            exact ⟨rfl, below_drewN hbwx _⟩
          have d3' : ¬ (16 : Int) < (r.length : Int) := by omega
          by_cases d5 : l < prev
          · rw [if_pos (.inr (.inr (.inr d5)))] at hps
            have Hps := hid hps
            cases i with
            | zero => have := Hpv0.out rfl; omega
            | succ j =>
              have hj1 : j < ps.length := by omega
              have hji : (j : Int) < (ps.length : Int) := by omega
              obtain ⟨y, hy⟩ : ∃ y, y = ps[j] := ⟨_, rfl⟩
              have hyj : ps[j]? = some y := by rw [hy]; exact List.getElem?_eq_getElem hj1
              have hy1 : y.1 = prev := Hpv.out y (by omega) (by simpa using hyj)
              obtain ⟨g', off', gr', cr', e1, -, hy0, -, -⟩ := hpx j _ hyj
              simp only [Option.some.injEq, Addr.mk.injEq] at e1
              obtain ⟨rfl, rfl, -⟩ := e1
              rw [hy1] at hy0
              have Hy := hid hy
              clear hps hy hyj hy1
              go_quiet (fail)
              go_wp2_with fail
              go_ret
              rw [← Hps.out]
              exact ⟨rfl, below_drewN hbwx _⟩
          rw [if_neg (by simp only [not_or]; exact ⟨d1, d2, d3, d5⟩)] at hps
          have Heg := hid (fun (args : Array Value) (w : World) => show (callFunc 104 args).run Try.prog w = .ok (.enter 104 args) w by kernel_rfl)
          have hcon := fun nq => containsFunc_calls (wx.drewN nq) gr cr r 104 (.pointer (some ⟨b, 0, none⟩)) (Pl.strange ns.length ts.length) (RowI.mono (W := wx.drewN nq) hri (by show b ≤ wx.heap.size; omega)) (by omega) Heg.out (fun z _ => strange_calls (wx.drewN nq) b ns.length ts.length gn gt cn ct z g2' g3' (by omega) (by omega))
          have Hcon := hid hcon
          clear hcon
          cases hany : r.any (Pl.strange ns.length ts.length) with
          | true =>
            rw [if_pos hany] at hps
            have Hps := hid hps
            have Hany := hid hany
            clear hps hany
            cases i with
            | zero =>
              go_quiet (fail)
              go_wp2_with (go_at_call 78; refine (Hcon.out _).mono ?_; rintro e w3 ⟨rfl, rfl⟩; rw [Hany.out])
              go_ret
              rw [← Hps.out]
              exact ⟨rfl, below_drewN hbwx _⟩
            | succ j =>
              have hj1 : j < ps.length := by omega
              have hji : (j : Int) < (ps.length : Int) := by omega
              obtain ⟨y, hy⟩ : ∃ y, y = ps[j] := ⟨_, rfl⟩
              have hyj : ps[j]? = some y := by rw [hy]; exact List.getElem?_eq_getElem hj1
              have hy1 : y.1 = prev := Hpv.out y (by omega) (by simpa using hyj)
              obtain ⟨g', off', gr', cr', e1, -, hy0, -, -⟩ := hpx j _ hyj
              simp only [Option.some.injEq, Addr.mk.injEq] at e1
              obtain ⟨rfl, rfl, -⟩ := e1
              rw [hy1] at hy0
              have d5' : ¬ l < prev := d5
              clear hy hyj hy1
              go_quiet (fail)
              go_wp2_with (go_at_call 78; refine (Hcon.out _).mono ?_; rintro e w3 ⟨rfl, rfl⟩; rw [Hany.out])
              go_ret
              rw [← Hps.out]
              exact ⟨rfl, below_drewN hbwx _⟩
          | false =>
            rw [if_neg (by rw [hany]; simp)] at hps
            have Hps := hid hps
            have Hany := hid hany
            clear hps hany
            cases i with
            | zero =>
              go_quiet (fail)
              go_wp2_with (go_at_call 78; refine (Hcon.out _).mono ?_; rintro e w3 ⟨rfl, rfl⟩; rw [Hany.out])
              go_roundg (ps.length - (0 + 1))
              case measure => have hk := Hk.out; omega
              case rel => exact ⟨0 + 1, l, by go_num, by omega, fun x _ hx => by have := Hxi.out; simp at hx this; rw [hx] at this; injection this with this; rw [this], fun h => by omega, Hps.out, rfl, below_drewN hbx2 _⟩
            | succ j =>
              have hj1 : j < ps.length := by omega
              have hji : (j : Int) < (ps.length : Int) := by omega
              obtain ⟨y, hy⟩ : ∃ y, y = ps[j] := ⟨_, rfl⟩
              have hyj : ps[j]? = some y := by rw [hy]; exact List.getElem?_eq_getElem hj1
              have hy1 : y.1 = prev := Hpv.out y (by omega) (by simpa using hyj)
              obtain ⟨g', off', gr', cr', e1, -, hy0, -, -⟩ := hpx j _ hyj
              simp only [Option.some.injEq, Addr.mk.injEq] at e1
              obtain ⟨rfl, rfl, -⟩ := e1
              rw [hy1] at hy0
              have d5' : ¬ l < prev := d5
              clear hy hyj hy1
              go_quiet (fail)
              go_wp2_with (go_at_call 78; refine (Hcon.out _).mono ?_; rintro e w3 ⟨rfl, rfl⟩; rw [Hany.out])
              go_roundg (ps.length - (j + 1 + 1))
              case measure => have hk := Hk.out; omega
              case rel => exact ⟨j + 1 + 1, l, by go_num, by omega, fun x _ hx => by have := Hxi.out; simp at hx this; rw [hx] at this; injection this with this; rw [this], fun h => by omega, Hps.out, rfl, below_drewN hbx2 _⟩
        · have hge : ¬ (i : Int) < (ps.length : Int) := by omega
          have hps := Hps.out
          rw [List.drop_eq_nil_of_le (by omega), Pl.prodsS] at hps
          have Hps := hid hps
          clear hps
          go_wp2_with fail
          go_ret
          rw [← Hps.out]
          exact ⟨rfl, hbwr⟩
end Go.Proofs.Ytaehooafdbaomaa
