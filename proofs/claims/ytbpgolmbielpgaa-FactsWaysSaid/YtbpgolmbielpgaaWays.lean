/- Chapter 9 (facts): FactsWays: walk. -/
import Derived.Test.YtbpgolmbielpgaaRef9c
import Derived.Test.YtbpgolmbielpgaaWaysLaw
import Derived.Test.YtbpgolmbielpgaaLaw09d
namespace Go.Proofs.Ytbpgolmbielpgaa
open Go.RowKit
attribute [local go_sem ↓] Go.wp_at_zero Go.wp_at_succ
attribute [local go_sem] frozen_alloc_lt

def WaysAt1 (w1 : World) (n k : Nat) (v7 : Value) (w : World) : Prop := ∃ i : Nat, v7 = .int .i64 i ∧ i ≤ n ∧ k = n - i ∧ w = w1
def WaysAt2 (w1 : World) (T : Nat) (p : Nat → Bool) (k : Nat) (v8 v9 : Value) (w : World) : Prop := ∃ t c : Nat, v9 = .int .i64 t ∧ t ≤ T ∧ v8 = .int .i64 c ∧ c = (Facts.trueL p t).length ∧ k = T - t ∧ w = w1

set_option maxHeartbeats 8000000 in
set_option maxRecDepth 8000 in
theorem factsWays_calls (x : RawD) (v : Value) (w : World) (hx : RawAt w x v) : Calls Try.prog 11 #[v] w fun e w' => e = .returned (.bool true) ∧ Below w.heap.size w w' := by
  obtain ⟨gl, gr, cl, cr, rfl, hl, hr, hl1, hr1, hr2⟩ := hx
  have hk0 := Bk.new w 54 [.int .i64 x.n, .int .i64 x.t, .int .i64 x.start, .slice gl x.left.length cl, .slice gr x.right.length cr]
  have hb0 : Below w.heap.size w (w.alloc (.cells #[.int .i64 x.n, .int .i64 x.t, .int .i64 x.start, .slice gl x.left.length cl, .slice gr x.right.length cr] 54)) := (Below.refl _ w).alloc (Nat.le_refl _) _
  go_enter Try.func11, Try.ntmps11
  go_upto_region 1 with fail
  obtain ⟨wa, hwa⟩ : ∃ wa, wa = (w.alloc (.cells #[.int .i64 x.n, .int .i64 x.t, .int .i64 x.start, .slice gl x.left.length cl, .slice gr x.right.length cr] 54)) := ⟨_, rfl⟩
  rw [← hwa] at hk0 hb0 ⊢
  clear hwa
  go_upto_region 3 with (go_at_call 27; refine (speaks09_calls _).mono ?_; rintro e w1 ⟨rfl, hb1⟩)
  have hk1 := hk0.below hb1 hk0.lt
  have hbw1 : Below w.heap.size w w1 := hb0.trans (hb1.mono hb0.size)
  have hl2 : RowI w1 w1.heap.size gl x.left := (hl.below hbw1).mono hbw1.size
  have hrr2 : RowII w1 w1.heap.size gr x.right := (hr.below hbw1).mono hbw1.size
  have c0 := hk1.cell 0
  have c1 := hk1.cell 1
  have c2 := hk1.cell 2
  have c3 := hk1.cell 3
  have c4 := hk1.cell 4
  simp only [List.getElem?_cons_zero, List.getElem?_cons_succ] at c0 c1 c2 c3 c4
  clear hk0 hb0 hb1 hl hr
  go_upto_region 4 with (go_at_call 29; refine (made09_calls x gl gr cl cr _ hl2 hrr2 hl1 hr1 hr2).mono ?_; rintro e w2 ⟨N, T, hN1, hN8, hT3, gn, gt, gp, gn', gt', gp', cn, ct, cp, cn', ct', cp', rfl, hg, hg', hb2⟩; unfold gramV)
  obtain ⟨G, hG⟩ : ∃ G, G = Mk.gram N T 24 6 x := ⟨_, rfl⟩
  have hsd : Pl.soundB G = true := by rw [hG]; exact Mk.gram_sound x hN1 hN8 (by omega) (by omega) (by omega)
  have hn8 : G.names.length ≤ 8 := by rw [hG]; show (Mk.letters 65 N).length ≤ 8; rw [Mk.letters_length]; exact hN8
  have ht8 : G.terms.length ≤ 8 := by rw [hG]; show (Mk.letters 97 T).length ≤ 8; rw [Mk.letters_length]; omega
  rw [← hG] at hg hg' ⊢
  clear hG hN1 hN8 hT3 hl2 hrr2 hl1 hr1 hr2 c0 c1 c2 c3 c4 hk1
  have hbw2 : Below w.heap.size w w2 := hbw1.trans (hb2.mono hbw1.size)
  have hbb : Below w2.heap.size w2 ((w2.alloc (.cells #[.int .i64 G.start, .int .i64 G.rules, .slice gn G.names.length cn, .slice gt G.terms.length ct, .slice gp G.prods.length cp] 41)).alloc (.cells #[.int .i64 G.start, .int .i64 G.rules, .slice gn' G.names.length cn', .slice gt' G.terms.length ct', .slice gp' G.prods.length cp'] 57)) := ((Below.refl _ _).alloc (Nat.le_refl _) _).alloc (by simp) _
  have hkp : Bk ((w2.alloc (.cells #[.int .i64 G.start, .int .i64 G.rules, .slice gn G.names.length cn, .slice gt G.terms.length ct, .slice gp G.prods.length cp] 41)).alloc (.cells #[.int .i64 G.start, .int .i64 G.rules, .slice gn' G.names.length cn', .slice gt' G.terms.length ct', .slice gp' G.prods.length cp'] 57)) w2.heap.size 41 [.int .i64 G.start, .int .i64 G.rules, .slice gn G.names.length cn, .slice gt G.terms.length ct, .slice gp G.prods.length cp] := (Bk.new w2 41 [.int .i64 G.start, .int .i64 G.rules, .slice gn G.names.length cn, .slice gt G.terms.length ct, .slice gp G.prods.length cp]).alloc _
  have hkq : Bk ((w2.alloc (.cells #[.int .i64 G.start, .int .i64 G.rules, .slice gn G.names.length cn, .slice gt G.terms.length ct, .slice gp G.prods.length cp] 41)).alloc (.cells #[.int .i64 G.start, .int .i64 G.rules, .slice gn' G.names.length cn', .slice gt' G.terms.length ct', .slice gp' G.prods.length cp'] 57)) (w2.heap.size + 1) 57 [.int .i64 G.start, .int .i64 G.rules, .slice gn' G.names.length cn', .slice gt' G.terms.length ct', .slice gp' G.prods.length cp'] := bk_at (Bk.new (w2.alloc (.cells #[.int .i64 G.start, .int .i64 G.rules, .slice gn G.names.length cn, .slice gt G.terms.length ct, .slice gp G.prods.length cp] 41)) 57 [.int .i64 G.start, .int .i64 G.rules, .slice gn' G.names.length cn', .slice gt' G.terms.length ct', .slice gp' G.prods.length cp']) (by simp)
  have hgl := hg.later hbb
  have hgl' := hg'.later hbb
  have hbw3 := hbw2.trans (hbb.mono hbw2.size)
  obtain ⟨w3, hw3⟩ : ∃ w3, w3 = ((w2.alloc (.cells #[.int .i64 G.start, .int .i64 G.rules, .slice gn G.names.length cn, .slice gt G.terms.length ct, .slice gp G.prods.length cp] 41)).alloc (.cells #[.int .i64 G.start, .int .i64 G.rules, .slice gn' G.names.length cn', .slice gt' G.terms.length ct', .slice gp' G.prods.length cp'] 57)) := ⟨_, rfl⟩
  obtain ⟨bw, hbw⟩ : ∃ bw, bw = w2.heap.size + 1 := ⟨_, rfl⟩
  obtain ⟨bp, hbp⟩ : ∃ bp, bp = w2.heap.size := ⟨_, rfl⟩
  rw [← hw3] at hkp hkq hgl hgl' hbw3
  rw [← hbp] at hkp
  rw [← hbw] at hkq
  rw [← hw3, ← hbw, ← hbp]
  have hgi : ∀ W, Below w3.heap.size w3 W → GIn W G gn gt gp := fun W h => hgl.later h
  have hgi' : ∀ W, Below w3.heap.size w3 W → GIn W G gn' gt' gp' := fun W h => hgl'.later h
  have hc : ∀ W, Below w3.heap.size w3 W → W.cell? ⟨bp, 0, none⟩ = some (.int .i64 G.start) ∧ W.cell? ⟨bp, 1, none⟩ = some (.int .i64 G.rules) ∧ W.cell? ⟨bp, 2, none⟩ = some (.slice gn G.names.length cn) ∧ W.cell? ⟨bp, 3, none⟩ = some (.slice gt G.terms.length ct) ∧ W.cell? ⟨bp, 4, none⟩ = some (.slice gp G.prods.length cp) ∧ W.cell? ⟨bw, 0, none⟩ = some (.int .i64 G.start) ∧ W.cell? ⟨bw, 1, none⟩ = some (.int .i64 G.rules) ∧ W.cell? ⟨bw, 2, none⟩ = some (.slice gn' G.names.length cn') ∧ W.cell? ⟨bw, 3, none⟩ = some (.slice gt' G.terms.length ct') ∧ W.cell? ⟨bw, 4, none⟩ = some (.slice gp' G.prods.length cp') := fun W h => by
    have k := hkp.below h hkp.lt
    have k' := hkq.below h hkq.lt
    exact ⟨k.cell 0, k.cell 1, k.cell 2, k.cell 3, k.cell 4, k'.cell 0, k'.cell 1, k'.cell 2, k'.cell 3, k'.cell 4⟩
  have H0 : Hid (Below w3.heap.size w3 w3.drew) := hid (below_drewN (Below.refl _ _) 1)
  obtain ⟨e0p0, e0p1, e0p2, e0p3, e0p4, e0q0, e0q1, e0q2, e0q3, e0q4⟩ := hc w3.drew H0.out
  have HGI := hid hgi
  have HGI2 := hid hgi'
  have HC := hid hc
  have Hsd := hid hsd
  clear hw3 hbp hbw hg hg' hb2 hbw2 hbw1 hbb hkp hkq hgl hgl' hgi hgi' hc hsd
  go_region_held3 (fun w' => w'.cell? ⟨bp, 0, none⟩ = some (.int .i64 G.start) ∧ w'.cell? ⟨bp, 1, none⟩ = some (.int .i64 G.rules) ∧ w'.cell? ⟨bp, 2, none⟩ = some (.slice gn G.names.length cn) ∧ w'.cell? ⟨bp, 3, none⟩ = some (.slice gt G.terms.length ct) ∧ w'.cell? ⟨bp, 4, none⟩ = some (.slice gp G.prods.length cp) ∧ w'.cell? ⟨bw, 0, none⟩ = some (.int .i64 G.start) ∧ w'.cell? ⟨bw, 1, none⟩ = some (.int .i64 G.rules) ∧ w'.cell? ⟨bw, 2, none⟩ = some (.slice gn' G.names.length cn') ∧ w'.cell? ⟨bw, 3, none⟩ = some (.slice gt' G.terms.length ct') ∧ w'.cell? ⟨bw, 4, none⟩ = some (.slice gp' G.prods.length cp') ∧ Hid (Below w3.heap.size w3 w'))
    (first | exact ⟨‹_›, ‹_›, ‹_›, ‹_›, ‹_›, ‹_›, ‹_›, ‹_›, ‹_›, ‹_›, ‹_›⟩ | exact ⟨e0p0, e0p1, e0p2, e0p3, e0p4, e0q0, e0q1, e0q2, e0q3, e0q4, H0⟩)
    (first | (go_at_call 42; refine (first_walk _ G gn gt gp cn ct cp (HGI.out _ (Hid.out H0)) Hsd.out).mono ?_; rintro e u1 ⟨g1, nb, gb, sss, rfl, hsl, hsr, hn2, hg2, hfi, hb1⟩; have H1 : Hid (Below w3.heap.size w3 u1) := hid (Below.trans (Hid.out H0) (hb1.mono (Below.size (Hid.out H0)))); obtain ⟨e1p0, e1p1, e1p2, e1p3, e1p4, e1q0, e1q1, e1q2, e1q3, e1q4⟩ := HC.out u1 (Hid.out H1)) | (go_at_call 43; refine (rfirst_calls _ G gn' gt' gp' cn' ct' cp' (HGI2.out _ (Hid.out H1)) Hsd.out).mono ?_; rintro e u2 ⟨bo, cap, gs, F, nul, gen, rfl, hbo, hBB, hFl, hFr, hnul, hgen, hiff, hb2⟩; have H2 : Hid (Below w3.heap.size w3 u2) := hid (Below.trans (Hid.out H1) (hb2.mono (Below.size (Hid.out H1)))); obtain ⟨e2p0, e2p1, e2p2, e2p3, e2p4, e2q0, e2q1, e2q2, e2q3, e2q4⟩ := HC.out u2 (Hid.out H2)))
  have hrow : ∀ (a : Nat) ss, sss[a]? = some ss → ss = Facts.trueL (Facts.tb F a) G.terms.length := fun a ss h => first_same hn2 hg2 hnul hgen hFr (hfi a ss h) (hiff a)
  have rf := (hsr.below hb2).mono hb2.size
  have H3 : Hid (Below w3.heap.size w3 u2.drew) := hid (below_drewN (Hid.out H2) 1)
  have rf : RowII u2.drew u2.drew.heap.size (some ⟨g1, 0, none⟩) sss := rf
  have hbo : bo < u2.drew.heap.size := hbo
  have hout : ∀ (a : Nat) g, gs[a]? = some g → u2.drew.cell? ⟨bo, a, none⟩ = some (rowV G.terms.length g) := hBB.out
  have hbk : ∀ (a : Nat) g l, gs[a]? = some g → F[a]? = some l → Bk u2.drew g 4 (l.map Value.bool) := fun a g l h h' => bk_drew (hBB.row a g l h h')
  have hgl := hBB.len.trans hFl
  have Hrow := hid hrow
  have Hrf := hid rf
  have Hout := hid hout
  have Hbk := hid hbk
  have Hgl := hid hgl
  have Hsl := hid hsl
  have HFl := hid hFl
  have HFr := hid hFr
  have Hbo := hid hbo
  clear hrow rf hout hbk hgl hsl hFl hFr hbo hsr hn2 hg2 hfi hb1 hBB hnul hgen hiff hb2 e0p0 e0p1 e0p2 e0p3 e0p4 e0q0 e0q1 e0q2 e0q3 e0q4 e1p0 e1p1 e1p2 e1p3 e1p4 e1q0 e1q1 e1q2 e1q3 e1q4 e2p0 e2p1 e2p2 e2p3 e2p4 e2q0 e2q1 e2q2 e2q3 e2q4 H0 H1 H2
  go_upto_region 5 with fail
  obtain ⟨e3p0, e3p1, e3p2, e3p3, e3p4, e3q0, e3q1, e3q2, e3q3, e3q4⟩ := HC.out _ (Hid.out H3)
  go_region_held3 (fun w' => w'.cell? ⟨bp, 0, none⟩ = some (.int .i64 G.start) ∧ w'.cell? ⟨bp, 1, none⟩ = some (.int .i64 G.rules) ∧ w'.cell? ⟨bp, 2, none⟩ = some (.slice gn G.names.length cn) ∧ w'.cell? ⟨bp, 3, none⟩ = some (.slice gt G.terms.length ct) ∧ w'.cell? ⟨bp, 4, none⟩ = some (.slice gp G.prods.length cp) ∧ w'.cell? ⟨bw, 0, none⟩ = some (.int .i64 G.start) ∧ w'.cell? ⟨bw, 1, none⟩ = some (.int .i64 G.rules) ∧ w'.cell? ⟨bw, 2, none⟩ = some (.slice gn' G.names.length cn') ∧ w'.cell? ⟨bw, 3, none⟩ = some (.slice gt' G.terms.length ct') ∧ w'.cell? ⟨bw, 4, none⟩ = some (.slice gp' G.prods.length cp') ∧ Hid (Below w3.heap.size w3 w'))
    (first | exact ⟨‹_›, ‹_›, ‹_›, ‹_›, ‹_›, ‹_›, ‹_›, ‹_›, ‹_›, ‹_›, ‹_›⟩ | exact ⟨e3p0, e3p1, e3p2, e3p3, e3p4, e3q0, e3q1, e3q2, e3q3, e3q4, H3⟩)
    (first | (go_at_call 44; refine (reach_yes _ G gn gt gp cn ct cp (HGI.out _ (Hid.out H3)) Hsd.out).mono ?_; rintro e u4 ⟨g4, cap4, rb, rfl, hrl, hrr, hrp, hb4⟩; have H4 : Hid (Below w3.heap.size w3 u4) := hid (Below.trans (Hid.out H3) (hb4.mono (Below.size (Hid.out H3)))); obtain ⟨e4p0, e4p1, e4p2, e4p3, e4p4, e4q0, e4q1, e4q2, e4q3, e4q4⟩ := HC.out u4 (Hid.out H4)) | (go_at_call 45; refine (rreach_calls _ G gn' gt' gp' cn' ct' cp' (HGI2.out _ (Hid.out H4)) Hsd.out).mono ?_; rintro e u5 ⟨g5, cap5, rb2, rfl, hrl2, hrr2, hrp2, hb5⟩; have H5 : Hid (Below w3.heap.size w3 u5) := hid (Below.trans (Hid.out H4) (hb5.mono (Below.size (Hid.out H4)))); obtain ⟨e5p0, e5p1, e5p2, e5p3, e5p4, e5q0, e5q1, e5q2, e5q3, e5q4⟩ := HC.out u5 (Hid.out H5)) | (go_at_call 32; refine (bools_same _ g7 g8 cap7 cap8 G.names.length lb hll (by omega) ((hlr.below hb8).mono hb8.size) (by rw [hsame2]; exact hlr2)).mono ?_; rintro e u9 ⟨rfl, hb9⟩; have H9 : Hid (Below w3.heap.size w3 u9) := hid (Below.trans (Hid.out H8) (hb9.mono (Below.size (Hid.out H8)))); obtain ⟨e9p0, e9p1, e9p2, e9p3, e9p4, e9q0, e9q1, e9q2, e9q3, e9q4⟩ := HC.out u9 (Hid.out H9)) | (go_at_call 32; refine (bools_same _ g4 g5 cap4 cap5 G.names.length rb hrl (by omega) ((hrr.below hb5).mono hb5.size) (by rw [Facts.inB_same hrl hrl2 hrp hrp2]; exact hrr2)).mono ?_; rintro e u6 ⟨rfl, hb6⟩; have H6 : Hid (Below w3.heap.size w3 u6) := hid (Below.trans (Hid.out H5) (hb6.mono (Below.size (Hid.out H5)))); obtain ⟨e6p0, e6p1, e6p2, e6p3, e6p4, e6q0, e6q1, e6q2, e6q3, e6q4⟩ := HC.out u6 (Hid.out H6)) | (go_at_call 46; refine (loops_yes _ G gn gt gp cn ct cp (HGI.out _ (Hid.out H6)) Hsd.out).mono ?_; rintro e u7 ⟨g7, cap7, lb, nb7, lss, rfl, hll, hlr, hln, rfl, hlp, hb7⟩; have H7 : Hid (Below w3.heap.size w3 u7) := hid (Below.trans (Hid.out H6) (hb7.mono (Below.size (Hid.out H6)))); obtain ⟨e7p0, e7p1, e7p2, e7p3, e7p4, e7q0, e7q1, e7q2, e7q3, e7q4⟩ := HC.out u7 (Hid.out H7)) | (go_at_call 47; refine (rloops_calls _ G gn' gt' gp' cn' ct' cp' (HGI2.out _ (Hid.out H7)) Hsd.out).mono ?_; rintro e u8 ⟨g8, cap8, lb2, nb8, rfl, hll2, hlr2, hln2, hlp2, hb8⟩; have H8 : Hid (Below w3.heap.size w3 u8) := hid (Below.trans (Hid.out H7) (hb8.mono (Below.size (Hid.out H7)))); obtain ⟨e8p0, e8p1, e8p2, e8p3, e8p4, e8q0, e8q1, e8q2, e8q3, e8q4⟩ := HC.out u8 (Hid.out H8); have hsame2 := loops_same Hsd.out hll hll2 hln hln2 hlp hlp2))
  have hB : Below u2.drew.heap.size u2.drew u9 := hb4.trans ((hb5.trans ((hb6.trans ((hb7.trans ((hb8.trans (hb9.mono hb8.size)).mono hb7.size)).mono hb6.size)).mono hb5.size)).mono hb4.size)
  have hbw5 : Below w.heap.size w u9 := hbw3.trans ((Hid.out H9).mono hbw3.size)
  have Hbw := hid hbw5
  have HB := hid hB
  clear hB hbw5 hrl hrr hrp hrl2 hrr2 hrp2 hll hlr hln hlp hll2 hlr2 hln2 hlp2 hsame2 hb4 hb5 hb6 hb7 hb8 hb9 e3p0 e3p1 e3p2 e3p3 e3p4 e3q0 e3q1 e3q2 e3q3 e3q4 e4p0 e4p1 e4p2 e4p3 e4p4 e4q0 e4q1 e4q2 e4q3 e4q4 e5p0 e5p1 e5p2 e5p3 e5p4 e5q0 e5q1 e5q2 e5q3 e5q4 e6p0 e6p1 e6p2 e6p3 e6p4 e6q0 e6q1 e6q2 e6q3 e6q4 e7p0 e7p1 e7p2 e7p3 e7p4 e7q0 e7q1 e7q2 e7q3 e7q4 e8p0 e8p1 e8p2 e8p3 e8p4 e8q0 e8q1 e8q2 e8q3 e8q4 e9p0 e9p1 e9p2 e9p3 e9p4 e9q0 e9q1 e9q2 e9q3 e9q4 H3 H4 H5 H6 H7 H8 H9 HGI HGI2 HC hbw3
  have rf9 := ((Hid.out Hrf).below HB.out).mono HB.out.size
  have out9 : ∀ (a : Nat) g, gs[a]? = some g → u9.cell? ⟨bo, a, none⟩ = some (.slice (some ⟨g, 0, none⟩) G.terms.length G.terms.length) := fun a g h => (HB.out.cell (p := ⟨bo, a, none⟩) Hbo.out).trans (Hout.out a g h)
  have bk9 : ∀ (a : Nat) g l, gs[a]? = some g → F[a]? = some l → Bk u9 g 4 (l.map Value.bool) := fun a g l h h' => (Hbk.out a g l h h').below HB.out (Hbk.out a g l h h').lt
  have Rf9 := hid rf9
  have Out9 := hid out9
  have Bk9 := hid bk9
  clear rf9 out9 bk9 Hrf Hout Hbk HB Hbo
  go_wp2_with fail
  go_loopg [7] G.names.length (fun k v7 wq => WaysAt1 u9 G.names.length k v7 wq)
  case atStart => exact ⟨0, rfl, by omega, rfl, rfl⟩
  case round =>
    obtain ⟨i, rfl, hi, hk, rfl⟩ := hrel
    have Hk := hid hk
    clear hk
    by_cases hlt : i < G.names.length
    · have hlt' : (i : Int) < (G.names.length : Int) := by omega
      have hi0 : (0 : Int) ≤ (i : Int) := by omega
      have his : i < sss.length := by rw [Hsl.out]; exact hlt
      have hig : i < gs.length := by rw [Hgl.out]; exact hlt
      have hiF : i < F.length := by rw [HFl.out]; exact hlt
      obtain ⟨g, hgi⟩ : ∃ g, gs[i]? = some g := ⟨_, List.getElem?_eq_getElem hig⟩
      obtain ⟨fr, hFi⟩ : ∃ fr, F[i]? = some fr := ⟨_, List.getElem?_eq_getElem hiF⟩
      obtain ⟨ss, hsi⟩ : ∃ ss, sss[i]? = some ss := ⟨_, List.getElem?_eq_getElem his⟩
      obtain ⟨p, hpp⟩ : ∃ p, p = Facts.tb F i := ⟨_, rfl⟩
      have hss := Hrow.out i ss hsi
      have hp : ∀ z (h : z < fr.length), fr[z] = p z := by rw [hpp]; intro z h; simp [Facts.tb, List.getD, hFi, List.getElem?_eq_getElem h]
      rw [← hpp] at hss
      obtain ⟨q4, o4, ga4, ca4, he4, h4, c4, hro⟩ := (Hid.out Rf9).at his
      injection he4 with he4
      injection he4 with he4 ho4 _
      subst he4 ho4
      rw [Nat.zero_add, show sss[i] = ss by simpa [List.getElem?_eq_getElem his] using hsi] at c4
      rw [show sss[i] = ss by simpa [List.getElem?_eq_getElem his] using hsi] at hro
      have c1 := Out9.out i g hgi
      have Hk1 := hid (Bk9.out i g fr hgi hFi)
      have Hfl : Hid (fr.length = G.terms.length) := hid (HFr.out fr (List.mem_of_getElem? hFi))
      have Hp := hid hp
      have Hss := hid hss
      have Hro := hid hro
      clear his hig hiF hgi hFi hsi hpp hss hp h4 hro
      go_wp2_with fail
      go_loopg [8, 9] G.terms.length (fun k v8 v9 wq => WaysAt2 wr G.terms.length p k v8 v9 wq)
      case atStart => exact ⟨0, 0, rfl, by omega, rfl, rfl, rfl, rfl⟩
      case round =>
        obtain ⟨t, c, rfl, ht, rfl, hc, hk2, rfl⟩ := hrel
        have Hk2 := hid hk2
        have hcle := Facts.trueL_le p t
        rw [← hc] at hcle
        have Hc := hid hc
        clear hk2 hc
        by_cases hlz : t < G.terms.length
        · have hlz' : (t : Int) < (G.terms.length : Int) := by omega
          have ht0 : (0 : Int) ≤ (t : Int) := by omega
          have htf : t < fr.length := by rw [Hfl.out]; exact hlz
          have ct := Hk1.out.cell t
          rw [List.getElem?_map, List.getElem?_eq_getElem htf, Hp.out t htf] at ct
          simp only [Option.map_some] at ct
          have hsu := Facts.trueL_succ p t
          obtain ⟨v, hv⟩ : ∃ v, v = p t := ⟨_, rfl⟩
          rw [← hv] at ct hsu
          have Hv := hid hv
          cases v with
          | false =>
            have hc2 : c = (Facts.trueL p (t + 1)).length := by rw [hsu]; exact Hc.out
            have Hc2 := hid hc2
            clear hsu hv hc2 htf
            go_wp2_with fail
            go_roundg (G.terms.length - (t + 1))
            case measure => have hk := Hk2.out; omega
            case rel => exact ⟨t + 1, c, by go_num, by omega, rfl, Hc2.out, rfl, rfl⟩
          | true =>
            have hc2 : c + 1 = (Facts.trueL p (t + 1)).length := by rw [hsu, Hc.out]; simp
            have hat := Facts.trueL_at p hv.symm G.terms.length hlz
            rw [← Hc.out, ← Hss.out] at hat
            obtain ⟨hcs, hsc⟩ := List.getElem?_eq_some_iff.1 hat
            obtain ⟨q5, o5, rfl, h5, c5⟩ := (Hid.out Hro).at hcs
            rw [hsc] at c5
            have hcl : (c : Int) < (ss.length : Int) := by omega
            have hz1 : decide ((ss.length : Int) ≤ (c : Int)) = false := by simp; omega
            have hz2 : ¬ (ss.length : Int) ≤ (c : Int) := by omega
            have hc0 : (0 : Int) ≤ (c : Int) := by omega
            have Hc2 := hid hc2
            clear hsu hv hc2 htf hat hsc h5
            go_wp2_with fail
            go_roundg (G.terms.length - (t + 1))
            case measure => have hk := Hk2.out; omega
            case rel => exact ⟨t + 1, c + 1, by go_num, by omega, by go_num, Hc2.out, rfl, rfl⟩
        · have hgz : ¬ (t : Int) < (G.terms.length : Int) := by omega
          have hte : t = G.terms.length := by omega
          have hce : c = ss.length := by rw [Hc.out, Hss.out, hte]
          subst hce
          clear hte
          go_wp2_with fail
          go_roundg (G.names.length - (i + 1))
          case measure => have hk := Hk.out; omega
          case rel => exact ⟨i + 1, by go_num, by omega, rfl, rfl⟩
    · have hge : ¬ (i : Int) < (G.names.length : Int) := by omega
      go_wp2_with fail
      go_ret
      exact ⟨rfl, Hbw.out⟩
end Go.Proofs.Ytbpgolmbielpgaa
