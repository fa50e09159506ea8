/- Chapter 9 (facts): FactsUnsound: walk. -/
import Derived.Test.YtbpgolmbielpgaaLaw09c
import Derived.Test.YtbpgolmbielpgaaFirst2
namespace Go.Proofs.Ytbpgolmbielpgaa
open Go.RowKit
attribute [local go_sem ↓] Go.wp_at_zero Go.wp_at_succ
attribute [local go_sem] frozen_alloc_lt

set_option maxHeartbeats 1000000 in
theorem first_no (w : World) (G : Gr) (gn gt gp : Option Addr) (cn ct cp : Nat) (h : GIn w G gn gt gp) (hs : Pl.soundB G = false) :
    Calls Try.prog 42 #[.agg #[.int .i64 G.start, .int .i64 G.rules, .slice gn G.names.length cn, .slice gt G.terms.length ct, .slice gp G.prods.length cp]] w (NoPost w) := by
  have hb0 : Below w.heap.size w (w.alloc (.cells #[.int .i64 G.start, .int .i64 G.rules, .slice gn G.names.length cn, .slice gt G.terms.length ct, .slice gp G.prods.length cp] 41)) := (Below.refl _ _).alloc (Nat.le_refl _) _
  have h1 := h.later hb0
  have Hs := hid hs
  clear hs
  go_enter Try.func42, Try.ntmps42
  go_wp2_with (go_at_call 55; refine (sound_is _ _ G gn gt gp cn ct cp false Hs.out h1.n h1.t h1.p (Nat.le_refl _) h1.h1 h1.h2 h1.h3 h1.h4).mono ?_; rintro e w1 ⟨rfl, hb1⟩)
  go_ret
  exact ⟨rfl, hb0.trans (hb1.mono hb0.size)⟩

/-- A row of L elements. -/
def LenPost (w : World) (L : Nat) (e : Ending) (w' : World) : Prop := ∃ (ga : Option Addr) (cap : Nat), e = .returned (.slice ga L cap) ∧ Below w.heap.size w w'
theorem NoPost.len {w : World} {e : Ending} {w' : World} (h : NoPost w e w') : LenPost w 0 e w' := ⟨none, 0, h.1, h.2⟩
theorem BPost.len {w : World} {n : Nat} {p : Int → Prop} {e : Ending} {w' : World} (h : BPost w n p e w') : LenPost w n e w' := by
  obtain ⟨ga, cap, bs, h1, _, _, _, h2⟩ := h
  exact ⟨ga, cap, h1, h2⟩

/-- Six functions, each of which tells a row of L elements. -/
structure Six (G : Gr) (gn gt gp : Option Addr) (cn ct cp L : Nat) : Prop where
  null : ∀ w, GIn w G gn gt gp → Calls Try.prog 33 #[.agg #[.int .i64 G.start, .int .i64 G.rules, .slice gn G.names.length cn, .slice gt G.terms.length ct, .slice gp G.prods.length cp]] w (LenPost w L)
  gen : ∀ w, GIn w G gn gt gp → Calls Try.prog 31 #[.agg #[.int .i64 G.start, .int .i64 G.rules, .slice gn G.names.length cn, .slice gt G.terms.length ct, .slice gp G.prods.length cp]] w (LenPost w L)
  reach : ∀ w, GIn w G gn gt gp → Calls Try.prog 44 #[.agg #[.int .i64 G.start, .int .i64 G.rules, .slice gn G.names.length cn, .slice gt G.terms.length ct, .slice gp G.prods.length cp]] w (LenPost w L)
  loops : ∀ w, GIn w G gn gt gp → Calls Try.prog 46 #[.agg #[.int .i64 G.start, .int .i64 G.rules, .slice gn G.names.length cn, .slice gt G.terms.length ct, .slice gp G.prods.length cp]] w (LenPost w L)
  short : ∀ w, GIn w G gn gt gp → Calls Try.prog 28 #[.agg #[.int .i64 G.start, .int .i64 G.rules, .slice gn G.names.length cn, .slice gt G.terms.length ct, .slice gp G.prods.length cp]] w (LenPost w L)
  first : ∀ w, GIn w G gn gt gp → Calls Try.prog 42 #[.agg #[.int .i64 G.start, .int .i64 G.rules, .slice gn G.names.length cn, .slice gt G.terms.length ct, .slice gp G.prods.length cp]] w (LenPost w L)

theorem six_no (G : Gr) (gn gt gp : Option Addr) (cn ct cp : Nat) (hs : Pl.soundB G = false) : Six G gn gt gp cn ct cp 0 :=
  ⟨fun w h => (null_no w G gn gt gp cn ct cp h hs).mono fun _ _ h => h.len, fun w h => (gen_no w G gn gt gp cn ct cp h hs).mono fun _ _ h => h.len, fun w h => (reach_no w G gn gt gp cn ct cp h hs).mono fun _ _ h => h.len,
    fun w h => (loops_no w G gn gt gp cn ct cp h hs).mono fun _ _ h => h.len, fun w h => (short_no w G gn gt gp cn ct cp h hs).mono fun _ _ h => h.len, fun w h => (first_no w G gn gt gp cn ct cp h hs).mono fun _ _ h => h.len⟩
theorem six_yes (G : Gr) (gn gt gp : Option Addr) (cn ct cp : Nat) (hs : Pl.soundB G = true) : Six G gn gt gp cn ct cp G.names.length :=
  ⟨fun w h => (null_yes w G gn gt gp cn ct cp h hs).mono fun _ _ h => h.len, fun w h => (gen_yes w G gn gt gp cn ct cp h hs).mono fun _ _ h => h.len, fun w h => (reach_yes w G gn gt gp cn ct cp h hs).mono fun _ _ h => h.len,
    fun w h => (loops_yes w G gn gt gp cn ct cp h hs).mono fun _ _ ⟨ga, cap, _, _, _, h1, _, _, _, _, _, h2⟩ => ⟨ga, cap, h1, h2⟩, fun w h => (short_yes w G gn gt gp cn ct cp h hs).mono fun _ _ ⟨_, cap, _, h1, _, _, _, _, h2⟩ => ⟨_, cap, h1, h2⟩,
    fun w h => (first_walk w G gn gt gp cn ct cp h hs).mono fun _ _ ⟨_, _, _, _, h1, _, _, _, _, _, h2⟩ => ⟨_, _, h1, h2⟩⟩

theorem sound_start (G : Gr) (st : Int) (hs : Pl.soundB G = true) : Pl.soundB { G with start := st } = (decide (0 ≤ st) && decide (st < G.names.length)) := by
  have h := sndG hs
  unfold Pl.soundB at hs ⊢
  dsimp only at hs ⊢
  split at hs
  · cases hs
  · rename_i h1
    split at hs
    · cases hs
    · rename_i h2
      rw [if_neg h1]
      simp only [not_or] at h2
      by_cases hst : 0 ≤ st ∧ st < G.names.length
      · rw [if_neg (by simp only [not_or]; exact ⟨h2.1, h2.2.1, h2.2.2.1, by omega, by omega⟩), hs]
        simp [hst.1, hst.2]
      · rw [if_pos (by right; right; right; omega)]
        symm
        simp
        omega

set_option maxHeartbeats 8000000 in
set_option maxRecDepth 8000 in
theorem factsUnsound_calls (x : RawD) (v : Value) (st : Int) (w : World) (hx : RawAt w x v) : Calls Try.prog 13 #[v, .int .i64 st] w fun e w' => e = .returned (.bool true) ∧ Below w.heap.size w w' := by
  obtain ⟨gl, gr, cl, cr, rfl, hl, hr, hl1, hr1, hr2⟩ := hx
  have hk0 := Bk.new w 54 [.int .i64 x.n, .int .i64 x.t, .int .i64 x.start, .slice gl x.left.length cl, .slice gr x.right.length cr]
  have hb0 : Below w.heap.size w (w.alloc (.cells #[.int .i64 x.n, .int .i64 x.t, .int .i64 x.start, .slice gl x.left.length cl, .slice gr x.right.length cr] 54)) := (Below.refl _ w).alloc (Nat.le_refl _) _
  go_enter Try.func13, Try.ntmps13
  go_upto_region 1 with fail
  obtain ⟨wa, hwa⟩ : ∃ wa, wa = (w.alloc (.cells #[.int .i64 x.n, .int .i64 x.t, .int .i64 x.start, .slice gl x.left.length cl, .slice gr x.right.length cr] 54)) := ⟨_, rfl⟩
  rw [← hwa] at hk0 hb0 ⊢
  clear hwa
  go_upto_region 3 with (go_at_call 27; refine (speaks09_calls _).mono ?_; rintro e w1 ⟨rfl, hb1⟩)
  have hk1 := hk0.below hb1 hk0.lt
  have hbw1 : Below w.heap.size w w1 := hb0.trans (hb1.mono hb0.size)
  have hl2 : RowI w1 w1.heap.size gl x.left := (hl.below hbw1).mono hbw1.size
  have hrr2 : RowII w1 w1.heap.size gr x.right := (hr.below hbw1).mono hbw1.size
  have c0 := hk1.cell 0
  have c1 := hk1.cell 1
  have c2 := hk1.cell 2
  have c3 := hk1.cell 3
  have c4 := hk1.cell 4
  simp only [List.getElem?_cons_zero, List.getElem?_cons_succ] at c0 c1 c2 c3 c4
  clear hk0 hb0 hb1 hl hr
  go_upto_region 5 with (go_at_call 29; refine (made09_calls x gl gr cl cr _ hl2 hrr2 hl1 hr1 hr2).mono ?_; rintro e w2 ⟨N, T, hN1, hN8, hT3, gn, gt, gp, gn', gt', gp', cn, ct, cp, cn', ct', cp', rfl, hg, hg', hb2⟩; unfold gramV)
  obtain ⟨G, hG⟩ : ∃ G, G = Mk.gram N T 24 6 x := ⟨_, rfl⟩
  have hsd : Pl.soundB G = true := by rw [hG]; exact Mk.gram_sound x hN1 hN8 (by omega) (by omega) (by omega)
  have hn8 : G.names.length ≤ 8 := by rw [hG]; show (Mk.letters 65 N).length ≤ 8; rw [Mk.letters_length]; exact hN8
  have hn1 : 1 ≤ G.names.length := by rw [hG]; show 1 ≤ (Mk.letters 65 N).length; rw [Mk.letters_length]; exact hN1
  rw [← hG] at hg hg' ⊢
  clear hG hN1 hN8 hT3 hl2 hrr2 hl1 hr1 hr2 c0 c1 c2 c3 c4 hk1
  have hbw2 : Below w.heap.size w w2 := hbw1.trans (hb2.mono hbw1.size)
  have hbb : Below w2.heap.size w2 ((w2.alloc (.cells #[.int .i64 st, .int .i64 G.rules, .slice gn G.names.length cn, .slice gt G.terms.length ct, .slice gp G.prods.length cp] 41)).alloc (.cells #[.int .i64 G.start, .int .i64 G.rules, .slice gn' G.names.length cn', .slice gt' G.terms.length ct', .slice gp' G.prods.length cp'] 57)) := ((Below.refl _ _).alloc (Nat.le_refl _) _).alloc (by simp) _
  have hkp : Bk ((w2.alloc (.cells #[.int .i64 st, .int .i64 G.rules, .slice gn G.names.length cn, .slice gt G.terms.length ct, .slice gp G.prods.length cp] 41)).alloc (.cells #[.int .i64 G.start, .int .i64 G.rules, .slice gn' G.names.length cn', .slice gt' G.terms.length ct', .slice gp' G.prods.length cp'] 57)) w2.heap.size 41 [.int .i64 st, .int .i64 G.rules, .slice gn G.names.length cn, .slice gt G.terms.length ct, .slice gp G.prods.length cp] := (Bk.new w2 41 [.int .i64 st, .int .i64 G.rules, .slice gn G.names.length cn, .slice gt G.terms.length ct, .slice gp G.prods.length cp]).alloc _
  have hgl := hg.later hbb
  have hbw3 := hbw2.trans (hbb.mono hbw2.size)
  obtain ⟨w3, hw3⟩ : ∃ w3, w3 = ((w2.alloc (.cells #[.int .i64 st, .int .i64 G.rules, .slice gn G.names.length cn, .slice gt G.terms.length ct, .slice gp G.prods.length cp] 41)).alloc (.cells #[.int .i64 G.start, .int .i64 G.rules, .slice gn' G.names.length cn', .slice gt' G.terms.length ct', .slice gp' G.prods.length cp'] 57)) := ⟨_, rfl⟩
  obtain ⟨bp, hbp⟩ : ∃ bp, bp = w2.heap.size := ⟨_, rfl⟩
  rw [← hw3] at hkp hgl hbw3
  rw [← hbp] at hkp
  rw [← hw3, ← hbp]
  have hgi : ∀ W, Below w3.heap.size w3 W → GIn W { G with start := st } gn gt gp := fun W h => by
    have k := hgl.later h
    exact ⟨k.n, k.t, k.p, k.h1, k.h2, k.h3, k.h4⟩
  have hc : ∀ W, Below w3.heap.size w3 W → W.cell? ⟨bp, 0, none⟩ = some (.int .i64 st) ∧ W.cell? ⟨bp, 1, none⟩ = some (.int .i64 G.rules) ∧ W.cell? ⟨bp, 2, none⟩ = some (.slice gn G.names.length cn) ∧ W.cell? ⟨bp, 3, none⟩ = some (.slice gt G.terms.length ct) ∧ W.cell? ⟨bp, 4, none⟩ = some (.slice gp G.prods.length cp) := fun W h => by
    have k := hkp.below h hkp.lt
    exact ⟨k.cell 0, k.cell 1, k.cell 2, k.cell 3, k.cell 4⟩
  obtain ⟨d0, d1, d2, d3, d4⟩ := hc w3 (Below.refl _ _)
  have HGI := hid hgi
  have HC := hid hc
  have hst := sound_start G st hsd
  clear hw3 hbp hg hg' hb2 hbw2 hbw1 hbb hkp hgl hgi hc hsd
  by_cases h0 : 0 ≤ st
  · by_cases h1 : st < (G.names.length : Int)
    · have hsix := six_yes { G with start := st } gn gt gp cn ct cp (by rw [hst]; simp [h0, h1])
      have hz : ((G.names.length : Int) == 0) = false := by rw [beq_eq_false_iff_ne]; omega
      have HSix := hid hsix
      clear hsix hst
      go_wp2_with (first
      | (go_at_call 33; refine (HSix.out.null _ (HGI.out _ (Below.refl _ _))).mono ?_; rintro e u1 ⟨ga1, ca1, rfl, hb1⟩; have H1 : Hid (Below w3.heap.size w3 u1) := hid hb1; obtain ⟨e10, e11, e12, e13, e14⟩ := HC.out u1 H1.out; clear hb1)
      | (go_at_call 31; refine (HSix.out.gen _ (HGI.out _ H1.out)).mono ?_; rintro e u2 ⟨ga2, ca2, rfl, hb2⟩; have H2 : Hid (Below w3.heap.size w3 u2) := hid (Below.trans H1.out (hb2.mono (Below.size H1.out))); obtain ⟨e20, e21, e22, e23, e24⟩ := HC.out u2 H2.out; clear hb2)
      | (go_at_call 44; refine (HSix.out.reach _ (HGI.out _ H2.out)).mono ?_; rintro e u3 ⟨ga3, ca3, rfl, hb3⟩; have H3 : Hid (Below w3.heap.size w3 u3) := hid (Below.trans H2.out (hb3.mono (Below.size H2.out))); obtain ⟨e30, e31, e32, e33, e34⟩ := HC.out u3 H3.out; clear hb3)
      | (go_at_call 46; refine (HSix.out.loops _ (HGI.out _ H3.out)).mono ?_; rintro e u4 ⟨ga4, ca4, rfl, hb4⟩; have H4 : Hid (Below w3.heap.size w3 u4) := hid (Below.trans H3.out (hb4.mono (Below.size H3.out))); obtain ⟨e40, e41, e42, e43, e44⟩ := HC.out u4 H4.out; clear hb4)
      | (go_at_call 28; refine (HSix.out.short _ (HGI.out _ H4.out)).mono ?_; rintro e u5 ⟨ga5, ca5, rfl, hb5⟩; have H5 : Hid (Below w3.heap.size w3 u5) := hid (Below.trans H4.out (hb5.mono (Below.size H4.out))); obtain ⟨e50, e51, e52, e53, e54⟩ := HC.out u5 H5.out; clear hb5)
      | (go_at_call 42; refine (HSix.out.first _ (HGI.out _ H5.out)).mono ?_; rintro e u6 ⟨ga6, ca6, rfl, hb6⟩; have H6 : Hid (Below w3.heap.size w3 u6) := hid (Below.trans H5.out (hb6.mono (Below.size H5.out))); obtain ⟨e60, e61, e62, e63, e64⟩ := HC.out u6 H6.out; clear hb6))
      go_ret
      exact ⟨rfl, hbw3.trans (H6.out.mono hbw3.size)⟩
    · have hsix := six_no { G with start := st } gn gt gp cn ct cp (by rw [hst]; simp [h1])
      have HSix := hid hsix
      clear hsix hst
      go_wp2_with (first
      | (go_at_call 33; refine (HSix.out.null _ (HGI.out _ (Below.refl _ _))).mono ?_; rintro e u1 ⟨ga1, ca1, rfl, hb1⟩; have H1 : Hid (Below w3.heap.size w3 u1) := hid hb1; obtain ⟨e10, e11, e12, e13, e14⟩ := HC.out u1 H1.out; clear hb1)
      | (go_at_call 31; refine (HSix.out.gen _ (HGI.out _ H1.out)).mono ?_; rintro e u2 ⟨ga2, ca2, rfl, hb2⟩; have H2 : Hid (Below w3.heap.size w3 u2) := hid (Below.trans H1.out (hb2.mono (Below.size H1.out))); obtain ⟨e20, e21, e22, e23, e24⟩ := HC.out u2 H2.out; clear hb2)
      | (go_at_call 44; refine (HSix.out.reach _ (HGI.out _ H2.out)).mono ?_; rintro e u3 ⟨ga3, ca3, rfl, hb3⟩; have H3 : Hid (Below w3.heap.size w3 u3) := hid (Below.trans H2.out (hb3.mono (Below.size H2.out))); obtain ⟨e30, e31, e32, e33, e34⟩ := HC.out u3 H3.out; clear hb3)
      | (go_at_call 46; refine (HSix.out.loops _ (HGI.out _ H3.out)).mono ?_; rintro e u4 ⟨ga4, ca4, rfl, hb4⟩; have H4 : Hid (Below w3.heap.size w3 u4) := hid (Below.trans H3.out (hb4.mono (Below.size H3.out))); obtain ⟨e40, e41, e42, e43, e44⟩ := HC.out u4 H4.out; clear hb4)
      | (go_at_call 28; refine (HSix.out.short _ (HGI.out _ H4.out)).mono ?_; rintro e u5 ⟨ga5, ca5, rfl, hb5⟩; have H5 : Hid (Below w3.heap.size w3 u5) := hid (Below.trans H4.out (hb5.mono (Below.size H4.out))); obtain ⟨e50, e51, e52, e53, e54⟩ := HC.out u5 H5.out; clear hb5)
      | (go_at_call 42; refine (HSix.out.first _ (HGI.out _ H5.out)).mono ?_; rintro e u6 ⟨ga6, ca6, rfl, hb6⟩; have H6 : Hid (Below w3.heap.size w3 u6) := hid (Below.trans H5.out (hb6.mono (Below.size H5.out))); obtain ⟨e60, e61, e62, e63, e64⟩ := HC.out u6 H6.out; clear hb6))
      go_ret
      exact ⟨rfl, hbw3.trans (H6.out.mono hbw3.size)⟩
  · have hsix := six_no { G with start := st } gn gt gp cn ct cp (by rw [hst]; simp [h0])
    have HSix := hid hsix
    clear hsix hst
    go_wp2_with (first
      | (go_at_call 33; refine (HSix.out.null _ (HGI.out _ (Below.refl _ _))).mono ?_; rintro e u1 ⟨ga1, ca1, rfl, hb1⟩; have H1 : Hid (Below w3.heap.size w3 u1) := hid hb1; obtain ⟨e10, e11, e12, e13, e14⟩ := HC.out u1 H1.out; clear hb1)
      | (go_at_call 31; refine (HSix.out.gen _ (HGI.out _ H1.out)).mono ?_; rintro e u2 ⟨ga2, ca2, rfl, hb2⟩; have H2 : Hid (Below w3.heap.size w3 u2) := hid (Below.trans H1.out (hb2.mono (Below.size H1.out))); obtain ⟨e20, e21, e22, e23, e24⟩ := HC.out u2 H2.out; clear hb2)
      | (go_at_call 44; refine (HSix.out.reach _ (HGI.out _ H2.out)).mono ?_; rintro e u3 ⟨ga3, ca3, rfl, hb3⟩; have H3 : Hid (Below w3.heap.size w3 u3) := hid (Below.trans H2.out (hb3.mono (Below.size H2.out))); obtain ⟨e30, e31, e32, e33, e34⟩ := HC.out u3 H3.out; clear hb3)
      | (go_at_call 46; refine (HSix.out.loops _ (HGI.out _ H3.out)).mono ?_; rintro e u4 ⟨ga4, ca4, rfl, hb4⟩; have H4 : Hid (Below w3.heap.size w3 u4) := hid (Below.trans H3.out (hb4.mono (Below.size H3.out))); obtain ⟨e40, e41, e42, e43, e44⟩ := HC.out u4 H4.out; clear hb4)
      | (go_at_call 28; refine (HSix.out.short _ (HGI.out _ H4.out)).mono ?_; rintro e u5 ⟨ga5, ca5, rfl, hb5⟩; have H5 : Hid (Below w3.heap.size w3 u5) := hid (Below.trans H4.out (hb5.mono (Below.size H4.out))); obtain ⟨e50, e51, e52, e53, e54⟩ := HC.out u5 H5.out; clear hb5)
      | (go_at_call 42; refine (HSix.out.first _ (HGI.out _ H5.out)).mono ?_; rintro e u6 ⟨ga6, ca6, rfl, hb6⟩; have H6 : Hid (Below w3.heap.size w3 u6) := hid (Below.trans H5.out (hb6.mono (Below.size H5.out))); obtain ⟨e60, e61, e62, e63, e64⟩ := HC.out u6 H6.out; clear hb6))
    go_ret
    exact ⟨rfl, hbw3.trans (H6.out.mono hbw3.size)⟩
end Go.Proofs.Ytbpgolmbielpgaa
