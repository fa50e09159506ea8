/- Chapter 9 (facts): FactsFit: walk. -/
import Derived.Test.YtbpgolmbielpgaaFitLaw
import Derived.Test.YtbpgolmbielpgaaLaw09d
namespace Go.Proofs.Ytbpgolmbielpgaa
open Go.RowKit
attribute [local go_sem ↓] Go.wp_at_zero Go.wp_at_succ
attribute [local go_sem] frozen_alloc_lt

def FitAt1 (w1 : World) (n k : Nat) (v10 : Value) (w : World) : Prop := ∃ i : Nat, v10 = .int .i64 i ∧ i ≤ n ∧ k = n - i ∧ Below w1.heap.size w1 w
def FitAt3 (w1 : World) (ks : List Int) (gb : List Bool) (r : List Int) (res : Int × Bool) (k : Nat) (v12 v13 v14 : Value) (w : World) : Prop :=
  ∃ (j : Nat) (m : Int) (ok : Bool), v14 = .int .i64 j ∧ j ≤ r.length ∧ v12 = .int .i64 m ∧ v13 = .bool ok ∧ 0 ≤ m ∧ m ≤ j * 1099511627776 ∧ Facts.nokS ks gb (r.drop j) m ok = res ∧ k = r.length - j ∧ Below w1.heap.size w1 w

set_option maxHeartbeats 8000000 in
set_option maxRecDepth 8000 in
theorem factsFit_calls (x : RawD) (v : Value) (w : World) (hx : RawAt w x v) : Calls Try.prog 12 #[v] w fun e w' => e = .returned (.bool true) ∧ Below w.heap.size w w' := by
  obtain ⟨gl, gr, cl, cr, rfl, hl, hr, hl1, hr1, hr2⟩ := hx
  have hk0 := Bk.new w 54 [.int .i64 x.n, .int .i64 x.t, .int .i64 x.start, .slice gl x.left.length cl, .slice gr x.right.length cr]
  have hb0 : Below w.heap.size w (w.alloc (.cells #[.int .i64 x.n, .int .i64 x.t, .int .i64 x.start, .slice gl x.left.length cl, .slice gr x.right.length cr] 54)) := (Below.refl _ w).alloc (Nat.le_refl _) _
  go_enter Try.func12, Try.ntmps12
  go_upto_region 1 with fail
  obtain ⟨wa, hwa⟩ : ∃ wa, wa = (w.alloc (.cells #[.int .i64 x.n, .int .i64 x.t, .int .i64 x.start, .slice gl x.left.length cl, .slice gr x.right.length cr] 54)) := ⟨_, rfl⟩
  rw [← hwa] at hk0 hb0 ⊢
  clear hwa
  go_upto_region 3 with (go_at_call 27; refine (speaks09_calls _).mono ?_; rintro e w1 ⟨rfl, hb1⟩)
  have hk1 := hk0.below hb1 hk0.lt
  have hbw1 : Below w.heap.size w w1 := hb0.trans (hb1.mono hb0.size)
  have hl2 : RowI w1 w1.heap.size gl x.left := (hl.below hbw1).mono hbw1.size
  have hrr2 : RowII w1 w1.heap.size gr x.right := (hr.below hbw1).mono hbw1.size
  have c0 := hk1.cell 0
  have c1 := hk1.cell 1
  have c2 := hk1.cell 2
  have c3 := hk1.cell 3
  have c4 := hk1.cell 4
  simp only [List.getElem?_cons_zero, List.getElem?_cons_succ] at c0 c1 c2 c3 c4
  clear hk0 hb0 hb1 hl hr
  go_upto_region 4 with (go_at_call 29; refine (made09_calls x gl gr cl cr _ hl2 hrr2 hl1 hr1 hr2).mono ?_; rintro e w2 ⟨N, T, hN1, hN8, hT3, gn, gt, gp, gn', gt', gp', cn, ct, cp, cn', ct', cp', rfl, hg, hg', hb2⟩; unfold gramV)
  obtain ⟨G, hG⟩ : ∃ G, G = Mk.gram N T 24 6 x := ⟨_, rfl⟩
  have hsd : Pl.soundB G = true := by rw [hG]; exact Mk.gram_sound x hN1 hN8 (by omega) (by omega) (by omega)
  have hn8 : G.names.length ≤ 8 := by rw [hG]; show (Mk.letters 65 N).length ≤ 8; rw [Mk.letters_length]; exact hN8
  rw [← hG] at hg hg' ⊢
  clear hG hN1 hN8 hT3 hl2 hrr2 hl1 hr1 hr2 c0 c1 c2 c3 c4 hk1
  have hbw2 : Below w.heap.size w w2 := hbw1.trans (hb2.mono hbw1.size)
  have hbb : Below w2.heap.size w2 ((w2.alloc (.cells #[.int .i64 G.start, .int .i64 G.rules, .slice gn G.names.length cn, .slice gt G.terms.length ct, .slice gp G.prods.length cp] 41)).alloc (.cells #[.int .i64 G.start, .int .i64 G.rules, .slice gn' G.names.length cn', .slice gt' G.terms.length ct', .slice gp' G.prods.length cp'] 57)) := ((Below.refl _ _).alloc (Nat.le_refl _) _).alloc (by simp) _
  have hkp : Bk ((w2.alloc (.cells #[.int .i64 G.start, .int .i64 G.rules, .slice gn G.names.length cn, .slice gt G.terms.length ct, .slice gp G.prods.length cp] 41)).alloc (.cells #[.int .i64 G.start, .int .i64 G.rules, .slice gn' G.names.length cn', .slice gt' G.terms.length ct', .slice gp' G.prods.length cp'] 57)) w2.heap.size 41 [.int .i64 G.start, .int .i64 G.rules, .slice gn G.names.length cn, .slice gt G.terms.length ct, .slice gp G.prods.length cp] := (Bk.new w2 41 [.int .i64 G.start, .int .i64 G.rules, .slice gn G.names.length cn, .slice gt G.terms.length ct, .slice gp G.prods.length cp]).alloc _
  have hgl := hg.later hbb
  have hbw3 := hbw2.trans (hbb.mono hbw2.size)
  obtain ⟨w3, hw3⟩ : ∃ w3, w3 = ((w2.alloc (.cells #[.int .i64 G.start, .int .i64 G.rules, .slice gn G.names.length cn, .slice gt G.terms.length ct, .slice gp G.prods.length cp] 41)).alloc (.cells #[.int .i64 G.start, .int .i64 G.rules, .slice gn' G.names.length cn', .slice gt' G.terms.length ct', .slice gp' G.prods.length cp'] 57)) := ⟨_, rfl⟩
  obtain ⟨bp, hbp⟩ : ∃ bp, bp = w2.heap.size := ⟨_, rfl⟩

  rw [← hw3] at hkp hgl hbw3
  rw [← hbp] at hkp
  rw [← hw3, ← hbp]
  have hgi : ∀ W, Below w3.heap.size w3 W → GIn W G gn gt gp := fun W h => hgl.later h
  have hc : ∀ W, Below w3.heap.size w3 W → W.cell? ⟨bp, 0, none⟩ = some (.int .i64 G.start) ∧ W.cell? ⟨bp, 1, none⟩ = some (.int .i64 G.rules) ∧ W.cell? ⟨bp, 2, none⟩ = some (.slice gn G.names.length cn) ∧ W.cell? ⟨bp, 3, none⟩ = some (.slice gt G.terms.length ct) ∧ W.cell? ⟨bp, 4, none⟩ = some (.slice gp G.prods.length cp) := fun W h => by
    have k := hkp.below h hkp.lt
    exact ⟨k.cell 0, k.cell 1, k.cell 2, k.cell 3, k.cell 4⟩
  have H0 : Hid (Below w3.heap.size w3 w3.drew) := hid (below_drewN (Below.refl _ _) 1)
  obtain ⟨e00, e01, e02, e03, e04⟩ := hc w3.drew H0.out
  have HGI := hid hgi
  have HC := hid hc
  have Hsd := hid hsd
  clear hw3 hbp hg hg' hb2 hbw2 hbw1 hbb hkp hgl hgi hc hsd
  go_region_held3 (fun w' => w'.cell? ⟨bp, 0, none⟩ = some (.int .i64 G.start) ∧ w'.cell? ⟨bp, 1, none⟩ = some (.int .i64 G.rules) ∧ w'.cell? ⟨bp, 2, none⟩ = some (.slice gn G.names.length cn) ∧ w'.cell? ⟨bp, 3, none⟩ = some (.slice gt G.terms.length ct) ∧ w'.cell? ⟨bp, 4, none⟩ = some (.slice gp G.prods.length cp) ∧ Hid (Below w3.heap.size w3 w'))
    (first | exact ⟨‹_›, ‹_›, ‹_›, ‹_›, ‹_›, ‹_›⟩ | exact ⟨e00, e01, e02, e03, e04, H0⟩)
    (first | (go_at_call 33; refine (null_yes _ G gn gt gp cn ct cp (HGI.out _ (Hid.out H0)) Hsd.out).mono ?_; rintro e u1 ⟨g1, cap1, bs, rfl, hbl, hbr, hbp, hb1⟩; have H1 : Hid (Below w3.heap.size w3 u1) := hid (Below.trans (Hid.out H0) (hb1.mono (Below.size (Hid.out H0)))); obtain ⟨e10, e11, e12, e13, e14⟩ := HC.out u1 (Hid.out H1)) | (go_at_call 31; refine (gen_yes _ G gn gt gp cn ct cp (HGI.out _ (Hid.out H1)) Hsd.out).mono ?_; rintro e u2 ⟨g2, cap2, gb, rfl, hgl, hgr, hgp, hb2⟩; have H2 : Hid (Below w3.heap.size w3 u2) := hid (Below.trans (Hid.out H1) (hb2.mono (Below.size (Hid.out H1)))); obtain ⟨e20, e21, e22, e23, e24⟩ := HC.out u2 (Hid.out H2)) | (go_at_call 28; refine (short_yes _ G gn gt gp cn ct cp (HGI.out _ (Hid.out H2)) Hsd.out).mono ?_; rintro e u3 ⟨g3, cap3, ks, rfl, hge3, hk3, hs3, hf3, hb3⟩; have H3 : Hid (Below w3.heap.size w3 u3) := hid (Below.trans (Hid.out H2) (hb3.mono (Below.size (Hid.out H2)))); obtain ⟨e30, e31, e32, e33, e34⟩ := HC.out u3 (Hid.out H3)) | (go_at_call 42; refine (first_walk _ G gn gt gp cn ct cp (HGI.out _ (Hid.out H3)) Hsd.out).mono ?_; rintro e u4 ⟨g4, nb, gb2, sss, rfl, hsl, hsr, hn2, hg2, hfi, hb4⟩; have H4 : Hid (Below w3.heap.size w3 u4) := hid (Below.trans (Hid.out H3) (hb4.mono (Below.size (Hid.out H3)))); obtain ⟨e40, e41, e42, e43, e44⟩ := HC.out u4 (Hid.out H4)) | (go_at_call 44; refine (reach_yes _ G gn gt gp cn ct cp (HGI.out _ (Hid.out H4)) Hsd.out).mono ?_; rintro e u5 ⟨g5, cap5, rb, rfl, hrl, hrr, hrp, hb5⟩; have H5 : Hid (Below w3.heap.size w3 u5) := hid (Below.trans (Hid.out H4) (hb5.mono (Below.size (Hid.out H4)))); obtain ⟨e50, e51, e52, e53, e54⟩ := HC.out u5 (Hid.out H5)))
  have hfit := Facts.fitG Hsd.out hbl hgl hrl hs3 hf3 hbp hgp hrp hsl hn2 hg2 hfi
  have hsg := sndG Hsd.out
  have Hsg := hid hsg
  have Hfit := hid hfit
  have b45 := hb5
  have b35 := hb4.trans (b45.mono hb4.size)
  have b25 := hb3.trans (b35.mono hb3.size)
  have b15 := hb2.trans (b25.mono hb2.size)
  have rb1 := (hbr.below b15).mono b15.size
  have rb2 := (hgr.below b25).mono b25.size
  have rk3 := (bk_rowI hk3).below b35 |>.mono b35.size
  have rf4 := (hsr.below b45).mono b45.size
  have rp := (HGI.out _ (Hid.out H5)).p
  have hbw5 : Below w.heap.size w u5 := hbw3.trans ((Hid.out H5).mono hbw3.size)
  clear hbl hgl hrl hs3 hf3 hbp hgp hrp hsl hn2 hg2 hfi hfit hsg hb1 hb2 hb3 hb4 hb5 b45 b35 b25 b15 hbr hgr hk3 hsr hge3 H0 H1 H2 H3 H4 e00 e01 e02 e03 e04 e10 e11 e12 e13 e14 e20 e21 e22 e23 e24 e30 e31 e32 e33 e34 e40 e41 e42 e43 e44
  obtain ⟨n, hnE⟩ : ∃ n, n = G.names.length := ⟨_, rfl⟩
  have HnE := hid hnE
  clear hnE
  go_wp2_with fail
  go_loopg [10] G.names.length (fun k v10 wr => FitAt1 u5 G.names.length k v10 wr)
  case atStart => exact ⟨0, rfl, by omega, rfl, Below.refl _ _⟩
  case round =>
    clear e50 e51 e52 e53 e54
    obtain ⟨i, rfl, hi, hk, hbr⟩ := hrel
    have Hk := hid hk
    clear hk
    obtain ⟨e50, e51, e52, e53, e54⟩ := HC.out wr ((Hid.out H5).trans (hbr.mono (Hid.out H5).size))
    by_cases hlt : i < G.names.length
    · have hlt' : (i : Int) < (G.names.length : Int) := by omega
      have hi0 : (0 : Int) ≤ (i : Int) := by omega
      have hf := Hfit.out
      have hib : i < bs.length := by rw [hf.lb]; exact hlt
      have hig : i < gb.length := by rw [hf.lg]; exact hlt
      have hik : i < ks.length := by rw [hf.lk]; exact hlt
      have his : i < sss.length := by rw [hf.ls]; exact hlt
      obtain ⟨q1, o1, rfl, h1, c1⟩ := rb1.at hib
      obtain ⟨q2, o2, rfl, h2, c2⟩ := rb2.at hig
      obtain ⟨q3, o3, he3, h3, c3⟩ := rk3.at hik
      obtain ⟨q4, o4, ga4, ca4, he4, h4, c4, -⟩ := rf4.at his
      injection he3 with he3
      injection he3 with he3 ho3 _
      injection he4 with he4
      injection he4 with he4 ho4 _
      subst he3 ho3 he4 ho4
      rw [Nat.zero_add] at c3 c4
      have d1 := (hbr.cell (p := ⟨q1, o1 + i, none⟩) h1).trans c1
      have d2 := (hbr.cell (p := ⟨q2, o2 + i, none⟩) h2).trans c2
      have d3 := (hbr.cell (p := ⟨g3, i, none⟩) h3).trans c3
      have d4 := (hbr.cell (p := ⟨g4, i, none⟩) h4).trans c4
      have f1 := hf.nul i hlt
      have f2 := hf.gen i hlt
      have f3 := hf.fst i hlt
      have f4 := hf.non i hlt
      rw [show bs.getD i false = bs[i] by simp [List.getD, List.getElem?_eq_getElem hib], show ks.getD i 0 = ks[i] by simp [List.getD, List.getElem?_eq_getElem hik]] at f1
      rw [show gb.getD i false = gb[i] by simp [List.getD, List.getElem?_eq_getElem hig], show ks.getD i 0 = ks[i] by simp [List.getD, List.getElem?_eq_getElem hik]] at f2
      rw [show sss.getD i [] = sss[i] by simp [List.getD, List.getElem?_eq_getElem his], show ks.getD i 0 = ks[i] by simp [List.getD, List.getElem?_eq_getElem hik]] at f3 f4
      obtain ⟨kv, hkv⟩ : ∃ kv, kv = ks[i] := ⟨_, rfl⟩
      obtain ⟨L, hL⟩ : ∃ L, L = sss[i].length := ⟨_, rfl⟩
      rw [← hkv] at d3 f1 f2 f3 f4
      rw [← hL] at d4 f3 f4
      rw [f1] at d1
      rw [f2] at d2
      clear c1 c2 c3 c4 h1 h2 h3 h4 hf hkv hL f1 f2 hib hig hik his
      rcases Int.lt_trichotomy kv 0 with hkz | hkz | hkz
      · have hL0 := f4 hkz
        rw [show decide (kv = 0) = false by simp; omega] at d1
        rw [show decide (0 ≤ kv) = false by simp; omega] at d2
        have hz1 : (kv == 0) = false := by simp; omega
        have hz2 : decide (0 ≤ kv) = false := by simp; omega
        have hz3 : decide (0 < kv) = false := by simp; omega
        have hz5' : ¬ (0 : Int) < (L : Int) := by omega
        have hz5 : decide ((0 : Int) < (L : Int)) = false := by simp; omega
        have HL0 := hid hL0
        clear f3 f4 hL0
        go_wp2_with fail
        go_quiet (fail)
        go_wp2_with fail
        go_roundg (G.names.length - (i + 1))
        case measure => have hk := Hk.out; omega
        case rel => exact ⟨i + 1, by go_num, by omega, rfl, below_drewN hbr _⟩
      · subst hkz
        rw [show decide ((0 : Int) = 0) = true from rfl] at d1
        rw [show decide ((0 : Int) ≤ 0) = true from rfl] at d2
        clear f3 f4
        go_wp2_with fail
        go_quiet (fail)
        go_wp2_with fail
        go_roundg (G.names.length - (i + 1))
        case measure => have hk := Hk.out; omega
        case rel => exact ⟨i + 1, by go_num, by omega, rfl, below_drewN hbr _⟩
      · have hL0 := f3 hkz
        rw [show decide (kv = 0) = false by simp; omega] at d1
        rw [show decide (0 ≤ kv) = true by simp; omega] at d2
        have hz1 : (kv == 0) = false := by simp; omega
        have hz2 : decide (0 ≤ kv) = true := by simp; omega
        have hz3 : decide (0 < kv) = true := by simp; omega
        have hz4 : ((L : Int) == 0) = false := by simp; omega
        clear f3 f4 hL0
        go_wp2_with fail
        go_quiet (fail)
        go_wp2_with fail
        go_roundg (G.names.length - (i + 1))
        case measure => have hk := Hk.out; omega
        case rel => exact ⟨i + 1, by go_num, by omega, rfl, below_drewN hbr _⟩
    · have hge : ¬ (i : Int) < (G.names.length : Int) := by omega
      go_wp2_with fail
      have hb5r := hbr
      clear hge hbr hi Hk hlt e50 e51 e52 e53 e54 rf4
      go_loopg [11] G.prods.length (fun k v11 wq => FitAt1 u5 G.prods.length k v11 wq)
      case atStart => exact ⟨0, rfl, by omega, rfl, hb5r⟩
      case round =>
        clear hb5r
        obtain ⟨i, rfl, hi, hk, hbr⟩ := hrel
        have Hk := hid hk
        clear hk
        obtain ⟨e50, e51, e52, e53, e54⟩ := HC.out wr ((Hid.out H5).trans (hbr.mono (Hid.out H5).size))
        by_cases hlt : i < G.prods.length
        · have hlt' : (i : Int) < (G.prods.length : Int) := by omega
          have hi0 : (0 : Int) ≤ (i : Int) := by omega
          obtain ⟨x, hx⟩ : ∃ x, x = G.prods[i] := ⟨_, rfl⟩
          have hxm : x ∈ G.prods := by rw [hx]; exact List.getElem_mem hlt
          have hxi : G.prods[i]? = some x := by rw [hx]; exact List.getElem?_eq_getElem hlt
          have hr16 := Hsg.out.r16 x hxm
          have hp1 := Hsg.out.p1
          have hl0 := Hsg.out.l0 x hxm
          have hl1 := Hsg.out.l1 x hxm
          have Hs1 := hid (Hsg.out.r1 x hxm)
          have Hlen := hid (Hfit.out.len x hxm)
          have Hrch := hid (Hfit.out.rch x hxm)
          obtain ⟨g', off, gr, cr, rfl, hg', hd0, hd1, hrid⟩ := rp i _ hxi
          obtain ⟨l, r⟩ := x
          simp only at hr16 hl0 hl1 hd0 hd1 hrid Hlen Hrch Hs1
          obtain ⟨a, rfl⟩ := Int.eq_ofNat_of_zero_le hl0
          have han : a < G.names.length := by omega
          have hab : a < gb.length := by rw [Hfit.out.lg]; exact han
          have hak : a < ks.length := by rw [Hfit.out.lk]; exact han
          have har : a < rb.length := by rw [Hfit.out.lr]; exact han
          obtain ⟨q2, o2, rfl, h2, c2⟩ := rb2.at hab
          obtain ⟨q3, o3, he3, h3, c3⟩ := rk3.at hak
          obtain ⟨q5, o5, rfl, h5, c5⟩ := hrr.at har
          injection he3 with he3
          injection he3 with he3 ho3 _
          subst he3 ho3
          rw [Nat.zero_add] at c3
          have ega : Facts.inB gb a = gb[a] := by simp [Facts.inB, List.getD, List.getElem?_eq_getElem hab]
          have eka : Facts.atK ks a = ks[a] := by simp [Facts.atK, List.getD, List.getElem?_eq_getElem hak]
          have era : Facts.inB rb a = rb[a] := by simp [Facts.inB, List.getD, List.getElem?_eq_getElem har]
          obtain ⟨ga, hga⟩ : ∃ ga, ga = gb[a] := ⟨_, rfl⟩
          obtain ⟨ka, hka⟩ : ∃ ka, ka = ks[a] := ⟨_, rfl⟩
          obtain ⟨ra, hra⟩ : ∃ ra, ra = rb[a] := ⟨_, rfl⟩
          rw [← hga] at c2 ega
          rw [← hka] at c3 eka
          rw [← hra] at c5 era
          have Hega := hid ega
          have Heka := hid eka
          have Hera := hid era
          have hla : (a : Int) < (G.names.length : Int) := by omega
          clear hx hxi hxm hga hka hra ega eka era hab hak har hl1 hl0
          obtain ⟨res, hres⟩ : ∃ res, res = Facts.nokS ks gb r 0 true := ⟨_, rfl⟩
          have Hres := hid hres
          clear hres
          go_wp2_with fail
          go_loopg [12, 13, 14] r.length (fun k v12 v13 v14 wq => FitAt3 u5 ks gb r res k v12 v13 v14 wq)
          case atStart => exact ⟨0, 0, true, rfl, by omega, rfl, rfl, by omega, by omega, by rw [List.drop_zero]; exact Hres.out.symm, rfl, hbr⟩
          case round =>
            clear hbr e50 e51 e52 e53 e54
            obtain ⟨j, m, ok, rfl, hj, rfl, rfl, hm0, hm1, hn, hk3, hbr⟩ := hrel
            have Hk3 := hid hk3
            have Hm1 := hid hm1
            clear hk3 hm1
            obtain ⟨e50, e51, e52, e53, e54⟩ := HC.out wr ((Hid.out H5).trans (hbr.mono (Hid.out H5).size))
            have hc0 := (hbr.cell (p := ⟨g', off + i * 2, none⟩) hg').trans hd0
            have hc1 := (hbr.cell (p := ⟨g', off + i * 2 + 1, none⟩) hg').trans hd1
            have k2 := (hbr.cell (p := ⟨q2, o2 + a, none⟩) h2).trans c2
            have k3 := (hbr.cell (p := ⟨g3, a, none⟩) h3).trans c3
            have k5 := (hbr.cell (p := ⟨q5, o5 + a, none⟩) h5).trans c5
            by_cases hlj : j < r.length
            · have hlj' : (j : Int) < (r.length : Int) := by omega
              have hj0 : (0 : Int) ≤ (j : Int) := by omega
              obtain ⟨s, hs⟩ : ∃ s, s = r[j] := ⟨_, rfl⟩
              have hsm : s ∈ r := by rw [hs]; exact List.getElem_mem hlj
              have hs1 := Hs1.out s hsm
              obtain ⟨gr', ofr, rfl, hgr, hcr⟩ := hrid.at hlj
              have hcr := (hbr.cell (p := ⟨gr', ofr + j, none⟩) hgr).trans hcr
              rw [List.drop_eq_getElem_cons hlj, ← hs, Facts.nokS] at hn
              rw [← hs] at hcr
              clear hs
              by_cases hpos : s < 0
              · rw [if_pos hpos] at hn
                have Hn := hid hn
                have hm4 : m + 1 ≤ 9223372036854775807 := by have := Hm1.out; omega
                clear hn hsm
                go_wp2_with fail
                go_roundg (r.length - (j + 1))
                case measure => have hk := Hk3.out; omega
                case rel => exact ⟨j + 1, m + 1, ok, by go_num, by omega, by go_num, rfl, by omega, by have := Hm1.out; omega, Hn.out, rfl, hbr⟩
              · rw [if_neg hpos] at hn
                have hs0 : 0 ≤ s := by omega
                obtain ⟨d, rfl⟩ := Int.eq_ofNat_of_zero_le hs0
                have hdn : d < G.names.length := by omega
                have hdb : d < gb.length := by rw [Hfit.out.lg]; exact hdn
                have hdk : d < ks.length := by rw [Hfit.out.lk]; exact hdn
                have hdr : d < rb.length := by rw [Hfit.out.lr]; exact hdn
                obtain ⟨_, _, he2, _, y2⟩ := rb2.at hdb
                obtain ⟨_, _, he3, _, y3⟩ := rk3.at hdk
                obtain ⟨_, _, he5, _, y5⟩ := hrr.at hdr
                injection he2 with he2
                injection he2 with he2 ho2 _
                injection he3 with he3
                injection he3 with he3 ho3 _
                injection he5 with he5
                injection he5 with he5 ho5 _
                subst he2 ho2 he3 ho3 he5 ho5
                rw [Nat.zero_add] at y3
                have z2 := (hbr.cell (p := ⟨q2, o2 + d, none⟩) h2).trans y2
                have z3 := (hbr.cell (p := ⟨g3, d, none⟩) h3).trans y3
                have z5 := (hbr.cell (p := ⟨q5, o5 + d, none⟩) h5).trans y5
                have egd : Facts.inB gb d = gb[d] := by simp [Facts.inB, List.getD, List.getElem?_eq_getElem hdb]
                have ekd : Facts.atK ks d = ks[d] := by simp [Facts.atK, List.getD, List.getElem?_eq_getElem hdk]
                have erd : Facts.inB rb d = rb[d] := by simp [Facts.inB, List.getD, List.getElem?_eq_getElem hdr]
                have hrng := Hfit.out.rng ks[d] (List.getElem_mem hdk)
                rw [egd, ekd] at hn
                obtain ⟨gd, hgd⟩ : ∃ gd, gd = gb[d] := ⟨_, rfl⟩
                obtain ⟨kd, hkd⟩ : ∃ kd, kd = ks[d] := ⟨_, rfl⟩
                obtain ⟨rd, hrd⟩ : ∃ rd, rd = rb[d] := ⟨_, rfl⟩
                rw [← hgd] at z2 hn
                rw [← hkd] at z3 hn hrng
                rw [← hrd] at z5 erd
                have hm2 : 0 ≤ m + max kd 0 := by omega
                have hm3 : m + max kd 0 ≤ ((j + 1 : Nat) : Int) * 1099511627776 := by have := Hm1.out; omega
                have hm4 : m + max kd 0 ≤ 9223372036854775807 := by omega
                have Hm2 := hid hm2
                have Hm3 := hid hm3
                have hrr2 : ra = true → rd = true := fun h => by
                  rw [← erd]
                  exact Hrch.out (Hera.out.trans h) (d : Int) hsm (by omega)
                have Hn := hid hn
                clear hgd hkd hrd egd ekd erd hdb hdk hdr y2 y3 y5 hn hsm hm2 hm3 hrng
                cases ra with
                | false =>
                  clear hrr2
                  cases ok with
                  | false =>
                    go_wp2_with fail
                    go_roundg (r.length - (j + 1))
                    case measure => have hk := Hk3.out; omega
                    case rel => exact ⟨j + 1, m + max kd 0, false, by go_num, by omega, by go_num, rfl, Hm2.out, Hm3.out, by rw [← Hn.out]; rfl, rfl, hbr⟩
                  | true =>
                    go_wp2_with fail
                    go_roundg (r.length - (j + 1))
                    case measure => have hk := Hk3.out; omega
                    case rel => exact ⟨j + 1, m + max kd 0, gd, by go_num, by omega, by go_num, rfl, Hm2.out, Hm3.out, by rw [← Hn.out]; rfl, rfl, hbr⟩
                | true =>
                  have hrt := hrr2 rfl
                  subst hrt
                  clear hrr2
                  cases ok with
                  | false =>
                    go_wp2_with fail
                    go_roundg (r.length - (j + 1))
                    case measure => have hk := Hk3.out; omega
                    case rel => exact ⟨j + 1, m + max kd 0, false, by go_num, by omega, by go_num, rfl, Hm2.out, Hm3.out, by rw [← Hn.out]; rfl, rfl, hbr⟩
                  | true =>
                    go_wp2_with fail
                    go_roundg (r.length - (j + 1))
                    case measure => have hk := Hk3.out; omega
                    case rel => exact ⟨j + 1, m + max kd 0, gd, by go_num, by omega, by go_num, rfl, Hm2.out, Hm3.out, by rw [← Hn.out]; rfl, rfl, hbr⟩
            · have hge : ¬ (j : Int) < (r.length : Int) := by omega
              rw [List.drop_eq_nil_of_le (by omega), Facts.nokS] at hn
              have hn2 := hn.trans Hres.out
              have Hn2 := hid hn2
              clear hn hn2
              cases ok with
              | false =>
                go_wp2_with fail
                go_roundg (G.prods.length - (i + 1))
                case measure => have hk := Hk.out; omega
                case rel => exact ⟨i + 1, by go_num, by omega, rfl, hbr⟩
              | true =>
                obtain ⟨v1, v2⟩ := Hlen.out m Hn2.out.symm
                rw [Hega.out] at v1
                rw [Heka.out] at v2
                have hz1 : decide (m < ka) = false := by simp; omega
                have hz2 : ¬ m < ka := by omega
                subst v1
                clear v2
                go_wp2_with fail
                go_roundg (G.prods.length - (i + 1))
                case measure => have hk := Hk.out; omega
                case rel => exact ⟨i + 1, by go_num, by omega, rfl, hbr⟩
        · have hge : ¬ (i : Int) < (G.prods.length : Int) := by omega
          have hs0 := Hsg.out.s0
          have hs1 := Hsg.out.s1
          have hsr := Hfit.out.str
          obtain ⟨st, hst⟩ := Int.eq_ofNat_of_zero_le hs0
          rw [hst] at e50 hsr hs0 hs1
          have har : st < rb.length := by rw [Hfit.out.lr]; omega
          obtain ⟨q5, o5, rfl, h5, c5⟩ := hrr.at har
          rw [show rb[st] = true by simpa [Facts.inB, List.getD, List.getElem?_eq_getElem har] using hsr] at c5
          have k5 := (hbr.cell (p := ⟨q5, o5 + st, none⟩) h5).trans c5
          go_wp2_with fail
          go_ret
          exact ⟨rfl, hbw5.trans (hbr.mono hbw5.size)⟩
end Go.Proofs.Ytbpgolmbielpgaa
