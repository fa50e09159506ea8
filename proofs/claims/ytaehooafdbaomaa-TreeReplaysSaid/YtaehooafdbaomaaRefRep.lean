/- Chapter 14 (tree), the document's side: Replay. -/
import Derived.Test.YtaehooafdbaomaaTreeRep
import Derived.Test.YtaehooafdbaomaaRefSound
namespace Go.Proofs.Ytaehooafdbaomaa
open Go.RowKit
attribute [local go_sem ↓] Go.wp_at_zero Go.wp_at_succ
attribute [local go_sem] frozen_alloc_lt

theorem firstK (ns : List Int) : ∃ K, K ≤ ns.length ∧ (∀ i, i < K → ns.getD i 0 < 0) ∧ ((K = ns.length ∧ idxS ntB ns 0 = -1) ∨ (K < ns.length ∧ 0 ≤ ns.getD K 0 ∧ idxS ntB ns 0 = (K : Int))) := by
  rcases idxS_spec ntB ns 0 with ⟨h1, h2⟩ | ⟨k, h1, h2, h3, h4⟩
  · refine ⟨ns.length, Nat.le_refl _, fun i hi => ?_, .inl ⟨rfl, h1⟩⟩
    have := h2 ns[i] (List.getElem_mem hi)
    simp [ntB] at this
    simpa [List.getD, List.getElem?_eq_getElem hi] using this
  · refine ⟨k, Nat.le_of_lt h1, fun i hi => ?_, .inr ⟨h1, by simpa [ntB] using h3, by rw [h2]; omega⟩⟩
    have hi2 : i < ns.length := by omega
    have := h4 ns[i] (List.mem_take_iff_getElem.2 ⟨i, by omega, by simp⟩)
    simp [ntB] at this
    simpa [List.getD, List.getElem?_eq_getElem hi2] using this
def RinAt (w0 : World) (K : Nat) (k : Nat) (v11 : Value) (w : World) : Prop := ∃ j : Nat, v11 = .int .i64 j ∧ j ≤ K ∧ k = K - j ∧ w0 = w
section
variable (w : World) (G : Gr) (gn gt gp : Option Addr) (cn ct cp : Nat) (h : GIn w G gn gt gp) (frm : Int) (l : List Int) (gl : Option Addr) (cl : Nat) (hll : l.length ≤ 1000000000) (hrl : RowI w w.heap.size gl l)
include h hll hrl
set_option maxRecDepth 8000 in
set_option maxHeartbeats 8000000 in
theorem rreplay_calls : Calls Try.prog 18 #[.agg #[.int .i64 G.start, .int .i64 G.rules, .slice gn G.names.length cn, .slice gt G.terms.length ct, .slice gp G.prods.length cp], .int .i64 frm, .slice gl l.length cl] w (RepSaid w (Tr.repS G frm l)) := by
  have hbk := Bk.new w 33 [.int .i64 G.start, .int .i64 G.rules, .slice gn G.names.length cn, .slice gt G.terms.length ct, .slice gp G.prods.length cp]
  have hb0 : Below w.heap.size w (w.alloc (.cells #[.int .i64 G.start, .int .i64 G.rules, .slice gn G.names.length cn, .slice gt G.terms.length ct, .slice gp G.prods.length cp] 33)) := bel_al (bel_id w) _
  have hsc := rsound_calls _ G gn gt gp cn ct cp (h.later hb0)
  have hin := h.later hb0
  have hrl0 := (hrl.below hb0).mono hb0.size
  obtain ⟨wa, hwa⟩ : ∃ wa, wa = (w.alloc (.cells #[.int .i64 G.start, .int .i64 G.rules, .slice gn G.names.length cn, .slice gt G.terms.length ct, .slice gp G.prods.length cp] 33)) := ⟨_, rfl⟩
  obtain ⟨b, hb⟩ : ∃ b, b = w.heap.size := ⟨_, rfl⟩
  rw [← hwa] at hbk hb0 hsc hin hrl0
  rw [← hb] at hbk
  have g0 := hbk.cell 0
  have g1 := hbk.cell 1
  have g2 := hbk.cell 2
  have g3 := hbk.cell 3
  have g4 := hbk.cell 4
  have hbl := hbk.lt
  simp only [List.getElem?_cons_zero, List.getElem?_cons_succ] at g0 g1 g2 g3 g4
  obtain ⟨res, hres⟩ : ∃ res, res = Tr.repS G frm l := ⟨_, rfl⟩
  rw [← hres]
  have Hwa := hid (And.intro hwa hb)
  have Hb0 := hid hb0
  have Hbk := hid hbk
  have Hin := hid hin
  have Hrl := hid hrl0
  have hl2 := hll
  obtain ⟨LL, hLL⟩ : ∃ LL, LL = l.length := ⟨_, rfl⟩
  rw [← hLL] at hl2 ⊢
  have HLL := hid hLL
  have q1 := h.h1
  have q2 := h.h2
  have q3 := h.h3
  unfold Tr.repS at hres
  clear hwa hb hb0 hbk hin hrl0 hrl h hll hLL
  cases hs : Pl.soundB G with
  | false =>
    rw [hs] at hsc hres
    rw [if_pos (.inl rfl)] at hres
    have Hres := hid hres
    clear hres hs
    go_enter Try.func18, Try.ntmps18
    go_upto_region 1 with fail
    rw [← Hwa.out.1, ← Hwa.out.2]
    go_wp2_with (go_at_call 65; refine hsc.mono ?_; rintro e w1 ⟨rfl, hb1⟩)
    go_ret2
    exact RepSaid.bad Hres.out (belw Hb0.out hb1)
  | true =>
    rw [hs] at hsc hres
    have hsn := sndG hs
    have t1 : (G.terms.length : Int) ≤ 256 := by have := hsn.t1; omega
    have p1 : (G.prods.length : Int) ≤ 256 := by have := hsn.p1; omega
    have Hsn := hid hsn
    clear hsn hs
    by_cases c1 : (G.names.length : Int) ≤ frm
    · rw [if_pos (.inr (.inl c1))] at hres
      have Hres := hid hres
      clear hres
      go_enter Try.func18, Try.ntmps18
      go_upto_region 1 with fail
      rw [← Hwa.out.1, ← Hwa.out.2]
      go_wp2_with (go_at_call 65; refine hsc.mono ?_; rintro e w1 ⟨rfl, hb1⟩; have hk1 := Hbk.out.below hb1 hbl; have g0 := hk1.cell 0; have g1 := hk1.cell 1; have g2 := hk1.cell 2; have g3 := hk1.cell 3; have g4 := hk1.cell 4; simp only [List.getElem?_cons_zero, List.getElem?_cons_succ] at g0 g1 g2 g3 g4; clear hk1)
      go_ret2
      exact RepSaid.bad Hres.out (belw Hb0.out hb1)
    by_cases c2 : frm < -(G.terms.length : Int)
    · rw [if_pos (.inr (.inr c2))] at hres
      have Hres := hid hres
      clear hres
      go_enter Try.func18, Try.ntmps18
      go_upto_region 1 with fail
      rw [← Hwa.out.1, ← Hwa.out.2]
      go_wp2_with (go_at_call 65; refine hsc.mono ?_; rintro e w1 ⟨rfl, hb1⟩; have hk1 := Hbk.out.below hb1 hbl; have g0 := hk1.cell 0; have g1 := hk1.cell 1; have g2 := hk1.cell 2; have g3 := hk1.cell 3; have g4 := hk1.cell 4; simp only [List.getElem?_cons_zero, List.getElem?_cons_succ] at g0 g1 g2 g3 g4; clear hk1)
      go_ret2
      exact RepSaid.bad Hres.out (belw Hb0.out hb1)
    rw [if_neg (by simp only [not_or]; exact ⟨by simp, c1, c2⟩)] at hres
    have Hres := hid hres
    clear hres
    go_enter Try.func18, Try.ntmps18
    go_upto_region 1 with fail
    rw [← Hwa.out.1, ← Hwa.out.2]
    go_upto_region 3 with (go_at_call 65; refine hsc.mono ?_; rintro e w1 ⟨rfl, hb1⟩; have hk1 := Hbk.out.below hb1 hbl; have g0 := hk1.cell 0; have g1 := hk1.cell 1; have g2 := hk1.cell 2; have g3 := hk1.cell 3; have g4 := hk1.cell 4; simp only [List.getElem?_cons_zero, List.getElem?_cons_succ] at g0 g1 g2 g3 g4)
    have hbn : Below w1.heap.size w1 (w1.alloc (.cells #[.int .i64 frm] 3)) := bel_al (bel_id _) _
    have hnk := Bk.new w1 3 [.int .i64 frm]
    have Hb1 := hid hb1
    have Hk1 := hid hk1
    clear hb1 hk1 g0 g1 g2 g3 g4
    go_wp2_with fail
    obtain ⟨w2, hw2⟩ : ∃ w2, w2 = (w1.alloc (.cells #[.int .i64 frm] 3)) := ⟨_, rfl⟩
    obtain ⟨N1, hN1⟩ : ∃ N1, N1 = w1.heap.size := ⟨_, rfl⟩
    rw [← hw2] at hbn hnk ⊢
    rw [← hN1] at hnk ⊢
    have hk2 := Hk1.out.below hbn Hk1.out.lt
    have hbl2 := hk2.lt
    have Hk2 := hid hk2
    have Hin2 := hid ((Hin.out.later Hb1.out).later hbn)
    have Hrow := hid (bk_rowI (zs := [frm]) hnk)
    have hb12 := belw Hb1.out hbn
    have Hrl2 := hid ((Hrl.out.below hb12).mono hb12.size)
    have Hb2 := hid (belw Hb0.out hb12)
    clear hw2 hN1 hbn hnk hk2 hb12 Hk1 Hb1 hbl
    go_loopg [8, 9] LL (fun k v8 v9 wr => RpAt w2 G l res k v8 v9 wr)
    case atStart => exact ⟨0, [frm], _, 1, rfl, rfl, Nat.zero_le _, HLL.out, by simp, by omega, by simp, Hrow.out, by rw [List.drop_zero]; exact Hres.out.symm, Below.refl _ _⟩
    case round =>
      obtain ⟨i, ns, ga, ca, rfl, rfl, hi, hk, hn1, hn2, hn3, hrow, hrf, hbr⟩ := hrel
      have hkr := Hk2.out.below hbr hbl2
      have g4 := hkr.cell 4
      simp only [List.getElem?_cons_zero, List.getElem?_cons_succ] at g4
      have hinr := Hin2.out.later hbr
      obtain ⟨M, hM⟩ : ∃ M, M = ns.length := ⟨_, rfl⟩
      rw [← hM] at hn1 hn3 ⊢
      have HM := hid hM
      have Hk := hid hk
      have Hrowr := hid hrow
      have Hbr := hid hbr
      have Hinr := hid hinr
      clear hM hk hrow hkr hinr
      by_cases hlt : i < l.length
      · have hltL : (i : Int) < (LL : Int) := by have := HLL.out; omega
        have hi0 : (0 : Int) ≤ (i : Int) := by omega
        obtain ⟨x, hx⟩ : ∃ x, x = l[i] := ⟨_, rfl⟩
        obtain ⟨g, off, rfl, hg, hc⟩ := Hrl2.out.at hlt
        rw [← hx] at hc
        have hcx := (hbr.cell (p := ⟨g, _, none⟩) hg).trans hc
        rw [List.drop_eq_getElem_cons hlt, ← hx, Tr.repF] at hrf
        have Hlt := hid hlt
        clear hc hbr hx hlt hi
        by_cases d1 : x < 0
        · rw [if_pos (.inl d1)] at hrf
          have Hrf := hid hrf
          clear hrf
          go_upto_region 7 with fail
          go_quiet (fail)
          go_wp2_with fail
          go_ret2
          exact RepSaid.bad Hrf.out.symm (below_drewN (belw Hb2.out Hbr.out) _)
        by_cases d2 : (G.prods.length : Int) ≤ x
        · rw [if_pos (.inr d2)] at hrf
          have Hrf := hid hrf
          clear hrf
          go_upto_region 7 with fail
          go_quiet (fail)
          go_wp2_with fail
          go_ret2
          exact RepSaid.bad Hrf.out.symm (below_drewN (belw Hb2.out Hbr.out) _)
        rw [if_neg (by simp only [not_or]; exact ⟨d1, d2⟩)] at hrf
        obtain ⟨q, rfl⟩ : ∃ q : Nat, x = (q : Int) := ⟨x.toNat, by omega⟩
        have hq : q < G.prods.length := by omega
        obtain ⟨pr, hpr⟩ : ∃ pr, G.prods[q]? = some pr := ⟨_, List.getElem?_eq_getElem hq⟩
        obtain ⟨g1, o1, gr, cr, rfl, hg1, p0, p1', hrr⟩ := Hinr.out.p q pr hpr
        have hr16 := Hsn.out.r16 pr (List.mem_of_getElem? hpr)
        rw [Int.toNat_natCast, show G.prods.getD q (0, []) = pr by rw [List.getD, hpr]; rfl] at hrf
        obtain ⟨pl, prr⟩ := pr
        simp only at hrf p0 p1' hrr hr16
        obtain ⟨R, hR⟩ : ∃ R, R = prr.length := ⟨_, rfl⟩
        rw [← hR] at hrf p1' hr16
        have hR1 : (R : Int) ≤ 16 := by omega
        have hR0 : (0 : Int) ≤ (R : Int) := by omega
        have HR := hid hR
        have Hrr := hid hrr
        have hq0 : (0 : Int) ≤ (q : Int) := by omega
        have hq1 : (q : Int) < (G.prods.length : Int) := by omega
        have hgl := hg
        have hg1l := hg1
        have Hg := hid (And.intro hg hg1)
        clear hpr hrr d1 hR hgl hg1l
        obtain ⟨K, k1, k2, k3⟩ := firstK ns
        have K1 := hid k1
        have K2 := hid k2
        have K3 := hid k3
        have Hrf := hid hrf
        clear k1 k2 k3 hrf
        go_upto_region 7 with fail
        go_cut [53] from 39 to 53 (fun v53 wy => v53 = .bool false ∧ ∃ nq, wy = wr.drewN nq)
        case first =>
          go_quiet (fail)
          go_wp2_with fail
          go_meet
          exact ⟨rfl, _, rfl⟩
        case rest =>
          obtain ⟨rfl, nq, hwc⟩ := hcut
          have a0 : wc.cell? ⟨b, 4, none⟩ = some (.slice (some ⟨g1, o1, none⟩) G.prods.length cp) := by rw [hwc]; exact g4
          have a1 : wc.cell? ⟨g, off + i, none⟩ = some (.int .i64 q) := by rw [hwc]; exact hcx
          have a2 : wc.cell? ⟨g1, o1 + q * 2, none⟩ = some (.int .i64 pl) := by rw [hwc]; exact p0
          have a3 : wc.cell? ⟨g1, o1 + q * 2 + 1, none⟩ = some (.slice gr R cr) := by rw [hwc]; exact p1'
          have hbc : Below wr.heap.size wr wc := by rw [hwc]; exact below_drewN (Below.refl _ _) _
          have l1 : b < wc.heap.size := Nat.lt_of_lt_of_le hbl2 (Nat.le_trans Hbr.out.size hbc.size)
          have l2 : g < wc.heap.size := Nat.lt_of_lt_of_le Hg.out.1 (Nat.le_trans Hbr.out.size hbc.size)
          have l3 : g1 < wc.heap.size := Nat.lt_of_lt_of_le Hg.out.2 hbc.size
          have Hbc := hid hbc
          clear hwc g4 hcx p0 p1' hbc
          go_upto_region 9 with fail
          have hal : ∀ o : Obj, (wc.drew.alloc o).cell? ⟨b, 4, none⟩ = some (.slice (some ⟨g1, o1, none⟩) G.prods.length cp) ∧ (wc.drew.alloc o).cell? ⟨g, off + i, none⟩ = some (.int .i64 q) ∧ (wc.drew.alloc o).cell? ⟨g1, o1 + q * 2, none⟩ = some (.int .i64 pl) ∧ (wc.drew.alloc o).cell? ⟨g1, o1 + q * 2 + 1, none⟩ = some (.slice gr R cr) := by
            intro o
            have hB := bel_al (bel_id wc.drew) o
            exact ⟨(hB.cell (p := ⟨b, _, none⟩) l1).trans a0, (hB.cell (p := ⟨g, _, none⟩) l2).trans a1, (hB.cell (p := ⟨g1, _, none⟩) l3).trans a2, (hB.cell (p := ⟨g1, _, none⟩) l3).trans a3⟩
          have Hal := hid hal
          clear hal
          go_region_held3 (fun W : World => W.cell? ⟨b, 4, none⟩ = some (.slice (some ⟨g1, o1, none⟩) G.prods.length cp) ∧ W.cell? ⟨g, off + i, none⟩ = some (.int .i64 q) ∧ W.cell? ⟨g1, o1 + q * 2, none⟩ = some (.int .i64 pl) ∧ W.cell? ⟨g1, o1 + q * 2 + 1, none⟩ = some (.slice gr R cr)) (first | exact ⟨a0, a1, a2, a3⟩ | exact Hal.out _) (fail)
          have hxk := (Bk.new wc 103 [.int .i64 pl, .slice gr R cr]).drew
          have hbx : Below wc.heap.size wc (wc.alloc (.cells #[.int .i64 pl, .slice gr R cr] 103)).drew := (bel_al (bel_id _) _).drew
          obtain ⟨wx, hwx⟩ : ∃ wx, wx = (wc.alloc (.cells #[.int .i64 pl, .slice gr R cr] 103)).drew := ⟨_, rfl⟩
          obtain ⟨c, hcc⟩ : ∃ c, c = wc.heap.size := ⟨_, rfl⟩
          rw [← hwx] at hxk hbx ⊢
          rw [← hcc] at hxk ⊢
          have x0 := hxk.cell 0
          have x1 := hxk.cell 1
          simp only [List.getElem?_cons_zero, List.getElem?_cons_succ] at x0 x1
          have hbrx := belw Hbc.out hbx
          have Hxk := hid hxk
          have Hbx := hid hbrx
          have Hrx := hid ((Hrowr.out.below hbrx).mono hbrx.size)
          clear hwx hcc hxk hbx hbrx a0 a1 a2 a3 l1 l2 l3 Hal Hbc
          go_wp2_with fail
          go_loopg [11] K (fun k v11 wq => RinAt wx K k v11 wq)
          case atStart => exact ⟨0, rfl, Nat.zero_le _, rfl, rfl⟩
          case round =>
            obtain ⟨j, rfl, hj, hkj, rfl⟩ := hrel
            have Hkj := hid hkj
            clear hkj
            have hKM : (K : Int) ≤ (M : Int) := by have := K1.out; have := HM.out; omega
            have hj0 : (0 : Int) ≤ (j : Int) := by omega
            have hM1 : (M : Int) ≤ 65537 := by omega
            by_cases hjK : j < K
            · have hjM : (j : Int) < (M : Int) := by omega
              have hjn : j < ns.length := by have := HM.out; omega
              have hneg := K2.out j hjK
              obtain ⟨z, hz⟩ : ∃ z, z = ns[j] := ⟨_, rfl⟩
              rw [show ns.getD j 0 = z by rw [hz]; simp [List.getD, List.getElem?_eq_getElem hjn]] at hneg
              obtain ⟨g5, o5, rfl, hg5, hz5⟩ := Hrx.out.at hjn
              rw [← hz] at hz5
              have Hj := hid hjK
              clear hz hjn hjK hj
              go_wp2_with fail
              go_roundg (K - (j + 1))
              case measure => have := Hkj.out; have := Hj.out; omega
              case rel => exact ⟨j + 1, by go_num, Hj.out, rfl, rfl⟩
            · obtain rfl : j = K := by omega
              clear hjK hj Hkj
              rcases K3.out with ⟨h1, h2⟩ | ⟨h1, h2, h3⟩
              · have hge : ¬ (j : Int) < (M : Int) := by have := HM.out; omega
                have heq : ((j : Int) == (M : Int)) = true := by have := HM.out; simp; omega
                have hrf := Hrf.out
                rw [h2, if_pos (by decide)] at hrf
                have Hrf2 := hid hrf
                clear h1 h2 hrf
                go_wp2_with fail
                go_ret2
                exact RepSaid.bad Hrf2.out.symm (belw Hb2.out (belw Hbr.out Hbx.out))
              · have hjM : (j : Int) < (M : Int) := by have := HM.out; omega
                have hrf := Hrf.out
                rw [h3, if_neg (by omega), Int.toNat_natCast] at hrf
                obtain ⟨nk, hnk⟩ : ∃ nk, nk = ns[j] := ⟨_, rfl⟩
                have hnn : ns.getD j 0 = nk := by rw [hnk]; simp [List.getD, List.getElem?_eq_getElem h1]
                obtain ⟨g5, o5, rfl, hg5, hz5⟩ := Hrx.out.at h1
                rw [← hnk] at hz5
                rw [hnn] at hrf h2
                rw [← HM.out] at hrf
                have hz6 : ¬ nk < 0 := by omega
                have hne : ((j : Int) == (M : Int)) = false := by simp; omega
                have Hkl := hid h1
                have Hrf2 := hid hrf
                clear h1 h2 h3 hnk hnn hrf
                by_cases e1 : nk = pl
                · have hrf := Hrf2.out
                  rw [if_neg (by simp [e1])] at hrf
                  subst e1
                  by_cases e3 : 65536 < (M : Int) - 1 + (R : Int)
                  · rw [if_pos e3] at hrf
                    have Hrf3 := hid hrf
                    have e4 : (65537 : Int) < (M : Int) + (R : Int) := by omega
                    clear hrf
                    go_upto_region 15 with fail
                    go_cut [85] from 79 to 85 (fun v85 wy => v85 = .bool false ∧ ∃ nq, wy = wx.drewN nq)
                    case first =>
                      go_quiet (fail)
                      go_wp2_with fail
                      go_meet
                      exact ⟨rfl, _, rfl⟩
                    case rest =>
                      obtain ⟨rfl, nq, hwc⟩ := hcut
                      have y1 : wc.cell? ⟨c, 1, none⟩ = some (.slice gr R cr) := by rw [hwc]; exact x1
                      have hbw : Below wx.heap.size wx wc := by rw [hwc]; exact below_drewN (Below.refl _ _) _
                      clear hwc hz5
                      go_wp2_with fail
                      go_ret2
                      exact RepSaid.bad Hrf3.out.symm (belw Hb2.out (belw Hbr.out (belw Hbx.out hbw)))
                  · rw [if_neg e3] at hrf
                    have Hrf3 := hid hrf
                    have e4 : ¬ (65537 : Int) < (M : Int) + (R : Int) := by omega
                    have Hlen : Hid ((ns.take j ++ (prr ++ ns.drop (j + 1))).length ≤ 65537) := by
                      show _ ≤ _
                      simp only [List.length_append, List.length_take, List.length_drop]
                      have := HM.out; have := HR.out; have := Hkl.out; omega
                    clear hrf
                    go_upto_region 15 with fail
                    go_cut [85] from 79 to 85 (fun v85 wy => v85 = .bool false ∧ ∃ nq, wy = wx.drewN nq)
                    case first =>
                      go_quiet (fail)
                      go_wp2_with fail
                      go_meet
                      exact ⟨rfl, _, rfl⟩
                    case rest =>
                      obtain ⟨rfl, nq, hwc⟩ := hcut
                      have y1 : wc.cell? ⟨c, 1, none⟩ = some (.slice gr R cr) := by rw [hwc]; exact x1
                      have hbw : Below wx.heap.size wx wc := by rw [hwc]; exact below_drewN (Below.refl _ _) _
                      have hcl : c < wc.heap.size := Nat.lt_of_lt_of_le Hxk.out.lt hbw.size
                      have hrw := (Hrx.out.below hbw).mono hbw.size
                      have hrrw := ((Hrr.out.below (belw Hbx.out hbw)).mono (belw Hbx.out hbw).size)
                      obtain ⟨ga3, c3, h3, s2⟩ := slice_from hrw Hkl.out (by have := HM.out; omega) hn2
                      rw [← HM.out] at s2
                      have s1 := slice_to (ga := some ⟨g5, o5, none⟩) (M := M) (k := j) (ca := ca) (by omega) (fun a h => by cases h; rfl)
                      have q4 : (ns.take j).length = j := by rw [List.length_take]; have := Hkl.out; omega
                      have q5 : (ns.drop (j + 1)).length = M - (j + 1) := by rw [List.length_drop, HM.out]
                      obtain ⟨v1, w3, r1, o1', b1⟩ := app_rows (zs := []) (World.ownsRow_nil wc wc.heap.size 3 1) (rowI_take hrw j) ca (by rw [q4]; simp; omega) (Nat.le_refl _)
                      obtain ⟨v2, w4, r2, o2', b2⟩ := app_rows o1' (hrrw.below b1) cr (by rw [← HR.out, List.nil_append, q4]; omega) b1.size
                      obtain ⟨v3, w5, r3, o3', b3⟩ := app_rows o2' (h3.below (b1.trans b2)) c3 (by rw [q5, List.length_append, ← HR.out, List.nil_append, q4]; omega) (Nat.le_trans b1.size b2.size)
                      rw [q4] at r1
                      rw [← HR.out] at r2
                      rw [q5] at r3
                      have y2 := (b1.cell (p := ⟨c, 1, none⟩) hcl).trans y1
                      rw [List.nil_append, List.append_assoc] at o3'
                      obtain ⟨gv, cv, rfl, hrv⟩ := own_rowI o3'
                      have hcv := own_cap o3'
                      have hw1 : IntKind.i64.wrap ((j : Int) + 1) = (j : Int) + 1 := IntWalk.i64_in _ (by omega)
                      have Hrv := hid hrv
                      have Hcv := hid hcv
                      have Hbz := hid (belw Hbr.out (belw Hbx.out (belw hbw ((b1.trans b2).trans b3))))
                      clear hwc hz5 hbw hcl hrw hrrw h3 q4 q5 o1' o2' o3' b1 b2 b3 hrv hcv x0 x1
                      go_wp2_with (first
                        | (at_builtin; refine wpList_append_run rfl _ _ _ rfl (.slice none 0 0) (.slice (some ⟨g5, o5, none⟩) j ca) v1 w3 (by rfl) (by rfl) (by exact r1) ?_)
                        | (at_builtin; refine wpList_append_run rfl _ _ _ rfl v1 (.slice gr R cr) v2 w4 (by rfl) (by rfl) (by exact r2) ?_)
                        | (at_builtin; refine wpList_append_run rfl _ _ _ rfl v2 (.slice ga3 (M - (j + 1)) c3) _ w5 (by rfl) (by rfl) (by exact r3) ?_))
                      go_roundg (LL - (i + 1))
                      case measure => have := Hk.out; have := HLL.out; have := Hlt.out; omega
                      case rel => exact ⟨i + 1, _, gv, cv, by go_num, by simp only [List.length_append, List.length_take, List.length_drop], Hlt.out, by rw [HLL.out], Hcv.out.1, Hcv.out.2, Hlen.out, Hrv.out, Hrf3.out, Hbz.out⟩
                · have hrf := Hrf2.out
                  rw [if_pos (by simpa using e1)] at hrf
                  have Hrf3 := hid hrf
                  have e2 : (nk != pl) = true := by simpa using e1
                  clear hrf
                  go_upto_region 15 with fail
                  go_quiet (fail)
                  go_wp2_with fail
                  go_ret2
                  exact RepSaid.bad Hrf3.out.symm (below_drewN (belw Hb2.out (belw Hbr.out Hbx.out)) _)
      · have hge : ¬ (i : Int) < (LL : Int) := by have := HLL.out; omega
        rw [List.drop_of_length_le (by omega), Tr.repF] at hrf
        have Hrf := hid hrf
        clear hrf hlt hi
        go_wp2_with fail
        go_ret2
        rw [← Hrf.out]
        exact ⟨ga, ca, by rw [HM.out]; rfl, Hrowr.out, belw Hb2.out Hbr.out⟩
end
end Go.Proofs.Ytaehooafdbaomaa
