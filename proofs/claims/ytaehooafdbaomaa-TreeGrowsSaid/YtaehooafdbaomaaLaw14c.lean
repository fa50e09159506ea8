/- Chapter 14 (tree): TreeGrows: walk. -/
import Derived.Test.YtaehooafdbaomaaLaw14a
import Derived.Test.YtaehooafdbaomaaGrowLaw
import Derived.Test.YtaehooafdbaomaaMade14
import Derived.Test.YtaehooafdbaomaaLawArr
namespace Go.Proofs.Ytaehooafdbaomaa
open Go.RowKit
attribute [local go_sem ↓] Go.wp_at_zero Go.wp_at_succ
attribute [local go_sem] frozen_alloc_lt

theorem Fo.Dv.fits {G : Gr} (hG : Tr.OkG G) : ∀ {f : Fo} {xs : List Int}, Fo.Dv G.prods f xs → (∀ x ∈ xs, -(G.terms.length : Int) ≤ x) → f.fits
  | .nil, xs, h, hx => trivial
  | .cons p k r, xs, h, hx => by
    unfold Fo.Dv at h
    obtain ⟨s, ys, rfl, h1, h2⟩ := h
    obtain ⟨_, _, hd, hr, hb⟩ := Tr.there_of hG (hx s (by simp)) h1
    exact ⟨by omega, Fo.Dv.fits hG hd hr, Fo.Dv.fits hG h2 (fun x h => hx x (by simp [h]))⟩
theorem Fo.Dv.chkG {G : Gr} (hG : Tr.OkG G) : ∀ {f : Fo} {xs : List Int}, Fo.Dv G.prods f xs → (∀ x ∈ xs, -(G.terms.length : Int) ≤ x) → Tr.chkF G xs f = true
  | .nil, xs, h, hx => by cases xs <;> rfl
  | .cons p k r, xs, h, hx => by
    unfold Fo.Dv at h
    obtain ⟨s, ys, rfl, h1, h2⟩ := h
    obtain ⟨ht, hrt, hd, hr, hb⟩ := Tr.there_of hG (hx s (by simp)) h1
    have h3 := Fo.Dv.chkG hG hd hr
    have h4 := Fo.Dv.chkG hG h2 (fun x h => hx x (by simp [h]))
    have h5 := Fo.Dv.len_eq hd
    simp [Tr.chkF, ht, hrt, h3, h4, h5]
theorem Fo.Dv.yield_le {G : Gr} (hG : Tr.OkG G) : ∀ {f : Fo} {xs : List Int}, Fo.Dv G.prods f xs → (∀ x ∈ xs, -(G.terms.length : Int) ≤ x) → ∀ y ∈ f.yield, y ≤ 255
  | .nil, xs, h, hx, y, hy => by simp [Fo.yield] at hy
  | .cons p k r, xs, h, hx, y, hy => by
    unfold Fo.Dv at h
    obtain ⟨s, ys, rfl, h1, h2⟩ := h
    have ht := hG.t
    have h3 := hx s (by simp)
    obtain ⟨_, _, hd, hr, hb⟩ := Tr.there_of hG h3 h1
    rw [Fo.yield, List.mem_append] at hy
    rcases hy with hy | hy
    · split at hy
      · simp at hy
        omega
      · exact Fo.Dv.yield_le hG hd hr y hy
    · exact Fo.Dv.yield_le hG h2 (fun x h => hx x (by simp [h])) y hy
/-- What a tree of a grammar's answers. -/
structure TreeFacts (G : Gr) (p : Int) (k : Fo) : Prop where
  get : Tr.getT G (Oct.putS p ++ k.put) = (0, p, k)
  len : (Oct.putS p ++ k.put).length ≤ 1000000000
  rep : Tr.repS G G.start (Fo.lmT p k) = (0, negS (Fo.yieldT p k))
  fits : k.fits
  p0 : -256 ≤ p
  chk : (Pl.soundB G && Tr.chkT G p k) = true
  sum : 1 + k.nodes = (Fo.yieldT p k).length + (Fo.lmT p k).length
  txt : Tr.textS G p k ≠ []
  y0 : ∀ y ∈ Fo.yieldT p k, 0 ≤ y ∧ y ≤ 255
theorem treeFacts {G : Gr} (hs : Pl.soundB G = true) {p : Int} {k : Fo} (h : Fo.Dv G.prods (.cons p k .nil) [G.start]) (hn : k.nodes ≤ 2000) : TreeFacts G p k := by
  have hsn := sndG hs
  have hG := Tr.OkG.of hsn
  have hst : -(G.terms.length : Int) ≤ G.start := by have := hsn.s0; omega
  have hx : ∀ x ∈ [G.start], -(G.terms.length : Int) ≤ x := by intro x hx; simp at hx; omega
  have hfit := Fo.Dv.fits hG h hx
  have hchk := Fo.Dv.chkG hG h hx
  have hy : Fo.yield (.cons p k .nil) = Fo.yieldT p k := by simp [Fo.yield, Fo.yieldT]
  have hl : Fo.lm (.cons p k .nil) = Fo.lmT p k := by simp [Fo.lm, Fo.lmT]
  have hnn : Fo.nodes (.cons p k .nil) = 1 + k.nodes := by simp [Fo.nodes]
  have hb : p.natAbs ≤ 256 := by
    have h' := h
    unfold Fo.Dv at h'
    obtain ⟨s, ys, e, h1, _⟩ := h'
    injection e with e1 e2
    subst e1
    exact (Tr.there_of hG hst h1).2.2.2.2
  have hc : Tr.chkT G p k = true := by
    simp only [Tr.chkF, Bool.and_eq_true] at hchk
    unfold Tr.chkT
    simp only [Bool.and_eq_true]
    exact hchk.1.1
  have hck : (Pl.soundB G && Tr.chkT G p k) = true := by rw [hs, hc]; rfl
  refine ⟨Tr.getT_put hG h hst (by omega), ?_, ?_, hfit.2.1, by omega, hck, ?_, ?_, fun y hy => ⟨Fo.Dv.yield_pos h y (by rw [‹Fo.yield (.cons p k .nil) = Fo.yieldT p k›]; exact hy), Fo.Dv.yield_le hG h hx y (by rw [‹Fo.yield (.cons p k .nil) = Fo.yieldT p k›]; exact hy)⟩⟩
  · have h1 := Oct.putS_len p
    have h2 := Fo.put_len k
    rw [List.length_append]
    omega
  · have h1 := Tr.repF_dv hsn.r16 (f := .cons p k .nil) (xs := [G.start]) [] [] [] h (by simp) (by rw [hnn]; simp; omega)
    simp only [List.append_nil, List.nil_append, hl, hy] at h1
    unfold Tr.repS
    rw [if_neg (by simp only [not_or]; exact ⟨by rw [hs]; simp, by have := hsn.s1; omega, by omega⟩), h1]
    rfl
  · have h1 := Fo.Dv.nodes_eq h
    rw [hnn, hy, hl] at h1
    exact h1
  · unfold Tr.textS
    rw [if_pos hck]
    unfold Tr.txtT
    split
    · unfold Lex.quoteS
      simp
    · simp
/-- The grammar in its box, the tree in its own. -/
structure GrSt (bp b8 : Nat) (G : Gr) (gn gt gp : Option Addr) (cn ct cp : Nat) (p : Int) (k : Fo) (L : Nat) (gk : Option Addr) (ck : Nat) (W : World) : Prop where
  g : Bk W bp 30 [.int .i64 G.start, .int .i64 G.rules, .slice gn G.names.length cn, .slice gt G.terms.length ct, .slice gp G.prods.length cp]
  t : Bk W b8 45 [.int .i64 p, .slice gk L ck]
  i : GIn W G gn gt gp
  f : FoAt W (fun q => q < W.heap.size) gk k 0
theorem GrSt.later {bp b8 : Nat} {G : Gr} {gn gt gp : Option Addr} {cn ct cp : Nat} {p : Int} {k : Fo} {L : Nat} {gk : Option Addr} {ck : Nat} {W W' : World} (h : GrSt bp b8 G gn gt gp cn ct cp p k L gk ck W) (hb : Below W.heap.size W W') : GrSt bp b8 G gn gt gp cn ct cp p k L gk ck W' :=
  ⟨h.g.below hb h.g.lt, h.t.below hb h.t.lt, h.i.later hb, h.f.later hb⟩
def GrCells (bp b8 : Nat) (G : Gr) (gn gt gp : Option Addr) (cn ct cp : Nat) (p : Int) (L : Nat) (gk : Option Addr) (ck : Nat) (W : World) : Prop :=
  (W.cell? ⟨bp, 0, none⟩ = some (.int .i64 G.start) ∧ W.cell? ⟨bp, 1, none⟩ = some (.int .i64 G.rules) ∧ W.cell? ⟨bp, 2, none⟩ = some (.slice gn G.names.length cn) ∧ W.cell? ⟨bp, 3, none⟩ = some (.slice gt G.terms.length ct) ∧ W.cell? ⟨bp, 4, none⟩ = some (.slice gp G.prods.length cp)) ∧
  W.cell? ⟨b8, 0, none⟩ = some (.int .i64 p) ∧ W.cell? ⟨b8, 1, none⟩ = some (.slice gk L ck)
theorem GrSt.cells {bp b8 : Nat} {G : Gr} {gn gt gp : Option Addr} {cn ct cp : Nat} {p : Int} {k : Fo} {L : Nat} {gk : Option Addr} {ck : Nat} {W : World} (h : GrSt bp b8 G gn gt gp cn ct cp p k L gk ck W) : GrCells bp b8 G gn gt gp cn ct cp p L gk ck W :=
  ⟨⟨h.g.cell 0, h.g.cell 1, h.g.cell 2, h.g.cell 3, h.g.cell 4⟩, h.t.cell 0, h.t.cell 1⟩
def GrCut (w6 : World) (p : Int) (k : Fo) (L : Nat) (v10 v11 : Value) (w : World) : Prop :=
  ∃ (b10 : Nat) (gk : Option Addr) (ck : Nat), v10 = .pointer (some ⟨b10, 0, none⟩) ∧ v11 = .int .i64 0 ∧ Bk w b10 45 [.int .i64 p, .slice gk L ck] ∧ FoAt w (fun q => q < w.heap.size) gk k 0 ∧ Below w6.heap.size w6 w
theorem GrCut.store {w6 W w10 : World} {b10 : Nat} {p : Int} {k : Fo} {L : Nat} {gk : Option Addr} {ck : Nat} {u0 u1 : Value} (hk : Bk w10 b10 45 [u0, u1]) (hf : FoAt w10 (fun q => W.heap.size ≤ q ∧ q < w10.heap.size) gk k 0) (hW : b10 < W.heap.size) (h6 : w6.heap.size ≤ b10) (hb : Below w6.heap.size w6 w10) :
    GrCut w6 p k L (.pointer (some ⟨b10, 0, none⟩)) (.int .i64 0) ((w10.setCell ⟨b10, 0, none⟩ (.int .i64 p)).setCell ⟨b10, 1, none⟩ (.slice gk L ck)) := by
  have hk2 := (hk.set 0 (.int .i64 p)).set 1 (.slice gk L ck)
  simp only [List.set_cons_zero, List.set_cons_succ] at hk2
  have hkp : Kp (fun q => q = b10) w10 ((w10.setCell ⟨b10, 0, none⟩ (.int .i64 p)).setCell ⟨b10, 1, none⟩ (.slice gk L ck)) := Kp.set (S := fun q => q = b10) (p := ⟨b10, 1, none⟩) (Kp.set (S := fun q => q = b10) (p := ⟨b10, 0, none⟩) (Kp.refl _ _) (.inl rfl) _) (.inl rfl) _
  exact ⟨b10, gk, ck, rfl, rfl, hk2, (hf.kp hkp (fun q hq e => by omega)).mono (fun q hq => Nat.lt_of_lt_of_le hq.2 hkp.size), hb.trans (hkp.to_below hb.size (fun q e => by omega))⟩
theorem GrCut.new {w6 W w10 : World} {p : Int} {k : Fo} {L : Nat} {gk : Option Addr} {ck : Nat} (hf : FoAt w10 (fun q => W.heap.size ≤ q ∧ q < w10.heap.size) gk k 0) (hb : Below w6.heap.size w6 w10) :
    GrCut w6 p k L (.pointer (some ⟨w10.heap.size, 0, none⟩)) (.int .i64 0) (w10.alloc (.cells #[.int .i64 p, .slice gk L ck] 45)) := by
  have h1 := bel_al (bel_id w10) (.cells #[.int .i64 p, .slice gk L ck] 45)
  exact ⟨_, gk, ck, rfl, rfl, Bk.new _ _ _, (hf.below h1 (fun q hq => hq.2)).mono (fun q hq => Nat.lt_of_lt_of_le hq.2 h1.size), bel_al hb _⟩
def GrwAt (w0 : World) (L : Nat) (k : Nat) (v15 : Value) (w : World) : Prop := ∃ i : Nat, v15 = .int .i64 i ∧ i ≤ L ∧ k = L - i ∧ Below w0.heap.size w0 w
set_option maxHeartbeats 8000000 in
set_option maxRecDepth 8000 in
theorem grows_calls (x : RawD) (v : Value) (zs : List Int) (v1 : Value) (w : World) (hx : RawAt w x v) (hz : IntsV w zs v1) : Calls Try.prog 6 #[v, v1] w fun e w' => e = .returned (.bool true) ∧ Below w.heap.size w w' := by
  obtain ⟨gl, gr, cl, cr, rfl, hl, hr, hl1, hr1, hr2⟩ := hx
  obtain ⟨gc, cc, rfl, hc, hc1, hc2, -⟩ := hz
  have hk0 := Bk.new w 25 [.int .i64 x.n, .int .i64 x.t, .int .i64 x.start, .slice gl x.left.length cl, .slice gr x.right.length cr]
  have hb0 : Below w.heap.size w (w.alloc (.cells #[.int .i64 x.n, .int .i64 x.t, .int .i64 x.start, .slice gl x.left.length cl, .slice gr x.right.length cr] 25)) := (Below.refl _ w).alloc (Nat.le_refl _) _
  go_enter Try.func6, Try.ntmps6
  go_upto_region 1 with fail
  obtain ⟨wa, hwa⟩ : ∃ wa, wa = (w.alloc (.cells #[.int .i64 x.n, .int .i64 x.t, .int .i64 x.start, .slice gl x.left.length cl, .slice gr x.right.length cr] 25)) := ⟨_, rfl⟩
  rw [← hwa] at hk0 hb0 ⊢
  clear hwa
  go_upto_region 3 with (go_at_call 15; refine (speaks14_calls _).mono ?_; rintro e w1 ⟨rfl, hb1⟩)
  have hk1 := hk0.below hb1 hk0.lt
  have hbw1 : Below w.heap.size w w1 := hb0.trans (hb1.mono hb0.size)
  have hl2 : RowI w1 w1.heap.size gl x.left := (hl.below hbw1).mono hbw1.size
  have hrr2 : RowII w1 w1.heap.size gr x.right := (hr.below hbw1).mono hbw1.size
  have hc2' : RowI w1 w1.heap.size gc zs := (hc.below hbw1).mono hbw1.size
  have c0 := hk1.cell 0
  have c1 := hk1.cell 1
  have c2 := hk1.cell 2
  have c3 := hk1.cell 3
  have c4 := hk1.cell 4
  simp only [List.getElem?_cons_zero, List.getElem?_cons_succ] at c0 c1 c2 c3 c4
  clear hk0 hb0 hb1 hl hr hc
  go_upto_region 4 with (go_at_call 16; refine (made14_calls x gl gr cl cr _ hl2 hrr2 hl1 hr1 hr2).mono ?_; rintro e w2 ⟨N, T, hN1, hN8, hT3, gn, gt, gp, gn', gt', gp', cn, ct, cp, cn', ct', cp', rfl, hg, hg', hb2⟩; unfold gramV)
  obtain ⟨G, hG⟩ : ∃ G, G = Mk.gram N T 14 4 x := ⟨_, rfl⟩
  have hsd : Pl.soundB G = true := by rw [hG]; exact Mk.gram_sound x hN1 (by omega) (by omega) (by omega) (by omega)
  rw [← hG] at hg hg' ⊢
  clear hG hN1 hN8 hT3 hl2 hrr2 hl1 hr1 hr2 c0 c1 c2 c3 c4 hk1
  have Hsd := hid hsd
  clear hsd
  have hbw2 : Below w.heap.size w w2 := hbw1.trans (hb2.mono hbw1.size)
  have hc3 : RowI w2 w2.heap.size gc zs := (hc2'.below hb2).mono hb2.size
  have hb3 : Below w2.heap.size w2 (((w2.alloc (.cells #[.int .i64 G.start, .int .i64 G.rules, .slice gn G.names.length cn, .slice gt G.terms.length ct, .slice gp G.prods.length cp] 30)).alloc (.cells #[.int .i64 G.start, .int .i64 G.rules, .slice gn' G.names.length cn', .slice gt' G.terms.length ct', .slice gp' G.prods.length cp'] 33)).alloc (.cells #[.int .i64 0] 3)) := bel_al (bel_al (bel_al (bel_id w2) _) _) _
  have kp1 := ((Bk.new w2 30 [.int .i64 G.start, .int .i64 G.rules, .slice gn G.names.length cn, .slice gt G.terms.length ct, .slice gp G.prods.length cp]).alloc (.cells #[.int .i64 G.start, .int .i64 G.rules, .slice gn' G.names.length cn', .slice gt' G.terms.length ct', .slice gp' G.prods.length cp'] 33)).alloc (.cells #[.int .i64 0] 3)
  have kq1 := (bk_at (Bk.new (w2.alloc (.cells #[.int .i64 G.start, .int .i64 G.rules, .slice gn G.names.length cn, .slice gt G.terms.length ct, .slice gp G.prods.length cp] 30)) 33 [.int .i64 G.start, .int .i64 G.rules, .slice gn' G.names.length cn', .slice gt' G.terms.length ct', .slice gp' G.prods.length cp']) (show _ = w2.heap.size + 1 by simp)).alloc (.cells #[.int .i64 0] 3)
  have ka1 := bk_at (Bk.new ((w2.alloc (.cells #[.int .i64 G.start, .int .i64 G.rules, .slice gn G.names.length cn, .slice gt G.terms.length ct, .slice gp G.prods.length cp] 30)).alloc (.cells #[.int .i64 G.start, .int .i64 G.rules, .slice gn' G.names.length cn', .slice gt' G.terms.length ct', .slice gp' G.prods.length cp'] 33)) 3 [.int .i64 0]) (show _ = w2.heap.size + 1 + 1 by simp)
  go_upto_region 5 with fail
  obtain ⟨w3, hw3⟩ : ∃ w3, w3 = (((w2.alloc (.cells #[.int .i64 G.start, .int .i64 G.rules, .slice gn G.names.length cn, .slice gt G.terms.length ct, .slice gp G.prods.length cp] 30)).alloc (.cells #[.int .i64 G.start, .int .i64 G.rules, .slice gn' G.names.length cn', .slice gt' G.terms.length ct', .slice gp' G.prods.length cp'] 33)).alloc (.cells #[.int .i64 0] 3)) := ⟨_, rfl⟩
  obtain ⟨bp, hbp⟩ : ∃ bp, bp = w2.heap.size := ⟨_, rfl⟩
  obtain ⟨bq, hbq⟩ : ∃ bq, bq = bp + 1 := ⟨_, rfl⟩
  obtain ⟨ba, hba⟩ : ∃ ba, ba = bq + 1 := ⟨_, rfl⟩
  rw [← hw3, ← hbp] at kp1 kq1 ka1 hb3
  rw [← hbq] at kq1 ka1
  rw [← hba] at ka1
  rw [← hw3, ← hbp, ← hbq, ← hba]
  have hsn := sndG Hsd.out
  have hin : GrIn w3 bp ba G.prods gp' gc zs 0 := ⟨by rw [hbp]; exact hg'.p.below (by rw [← hbp]; exact hb3), by rw [hbp]; exact hc3.below (by rw [← hbp]; exact hb3), by omega, ka1, by have := hsn.p1; omega, hsn.r16, Nat.le_trans hc1 hc2⟩
  have Hb3 := hid hb3
  have Hg := hid hg
  have Hin := hid hin
  have Kp1 := hid kp1
  have Hbw2 := hid hbw2
  have Hbp := hid hbp
  have q0 := kq1.cell 0
  have q1 := kq1.cell 1
  have q2 := kq1.cell 2
  have q3 := kq1.cell 3
  have q4 := kq1.cell 4
  simp only [List.getElem?_cons_zero, List.getElem?_cons_succ] at q0 q1 q2 q3 q4
  have hcall := grown_calls (B := bp) (ba := ba) (ps := G.prods) (gp := gp') (gc := gc) (ch := zs) (v0 := .int .i64 G.start) (v1 := .int .i64 G.rules) (v2 := .slice gn' G.names.length cn') (v3 := .slice gt' G.terms.length ct') (cp := cp') (cc := cc) 61 w3 0 G.start hin (by omega) rfl
  have Hcall := hid hcall
  have hbpa : ¬ bp = ba := by omega
  have hba' : bp ≤ ba := by omega
  clear hw3 hbp hbq hba kp1 kq1 ka1 hb3 hg hg' hin hcall hbw1 hbw2 hc3 hc2' hb2 hsn hc1 hc2
  go_upto_region 6 with (go_at_call 39; refine Hcall.out.mono ?_; rintro e w5 ⟨p5, k5, gk5, ck5, ok5, a5, rfl, hat5, hba5, -, ha52, hkp5, hok5⟩)
  have hk8 := Bk.new w5 45 [.int .i64 p5, .slice gk5 k5.len ck5]
  have hal6 : Below w5.heap.size w5 (w5.alloc (.cells #[.int .i64 p5, .slice gk5 k5.len ck5] 45)) := bel_al (bel_id w5) _
  obtain ⟨w6, hw6⟩ : ∃ w6, w6 = w5.alloc (.cells #[.int .i64 p5, .slice gk5 k5.len ck5] 45) := ⟨_, rfl⟩
  obtain ⟨b8, hb8⟩ : ∃ b8, b8 = w5.heap.size := ⟨_, rfl⟩
  rw [← hw6] at hk8 hal6 ⊢
  rw [← hb8] at hk8 ⊢
  have hat6 := (hat5.below hal6 (fun k hk => hk.2)).mono (D' := fun k => k < w6.heap.size) (fun k hk => Nat.lt_of_lt_of_le hk.2 hal6.size)
  have hb35 : Below bp w3 w5 := hkp5.to_below (by have := Hin.out.a.lt; omega) (fun k e => by omega)
  have hg6 : GIn w6 G gn gt gp := (Hg.out.later (by rw [← Hbp.out]; exact Hb3.out.trans hb35)).later hal6
  have hbw5 : Below w.heap.size w w5 := Hbw2.out.trans ((Hb3.out.trans hb35).mono (by rw [Hbp.out]; exact Hbw2.out.size))
  have hbw6 : Below w.heap.size w w6 := belw hbw5 hal6
  have hkp6 := (Kp1.out.kp hkp5 hbpa).below hal6 (Kp1.out.kp hkp5 hbpa).lt
  have e0 := hk8.cell 0
  have e1 := hk8.cell 1
  simp only [List.getElem?_cons_zero, List.getElem?_cons_succ] at e0 e1
  have Hat6 := hid hat6
  have Hg6 := hid hg6
  have Hbw6 := hid hbw6
  have Hkp6 := hid hkp6
  have Hk8 := hid hk8
  have Hok5 := hid hok5
  clear hw6 hb8 hat6 hb35 hg6 hbw5 hbw6 hkp6 hal6 hat5 hba5 hkp5 hok5 hk8 q0 q1 q2 q3 q4
  cases ok5 with
  | false =>
    go_wp2_with fail
    go_ret
    exact ⟨rfl, Hbw6.out⟩
  | true =>
    obtain ⟨hdv, hnn⟩ := Hok5.out rfl
    have hF := treeFacts Hsd.out hdv (by omega)
    obtain ⟨L, hL⟩ : ∃ L, L = k5.len := ⟨_, rfl⟩
    rw [← hL] at e1 Hk8 ⊢
    have hst : GrSt bp b8 G gn gt gp cn ct cp p5 k5 L gk5 ck5 w6 := ⟨Hkp6.out, Hk8.out, Hg6.out, Hat6.out⟩
    have Hst := hid hst
    have HF := hid hF
    have Hnn := hid hnn
    have HL := hid hL
    have hch : ∀ W, GIn W G gn gt gp → ChIn W G gn gt gp := fun W h => ⟨h, by have := (sndG Hsd.out).t1; omega, by have := (sndG Hsd.out).p1; omega, fun x hx => by have := (sndG Hsd.out).r16 x hx; omega⟩
    have Hch := hid hch
    have HS := hid (fun W (hb : Below w6.heap.size w6 W) => (Hst.out.later hb).cells)
    obtain ⟨A, hA⟩ : ∃ A : ByteArray, A = ⟨(Oct.putS p5 ++ k5.put).toArray⟩ := ⟨_, rfl⟩
    have hput : ∀ W, Below w6.heap.size w6 W → Calls Try.prog 25 #[.agg #[.int .i64 p5, .slice gk5 L ck5]] W fun e w' => e = .returned (.string A) ∧ Below W.heap.size W w' := fun W hW => by
      rw [hA, HL.out]
      exact treePut_calls p5 k5 W gk5 ck5 (Hst.out.later hW).f (by have := Hnn.out; omega)
    have hget : ∀ W, Below w6.heap.size w6 W → Calls Try.prog 20 #[.agg #[.int .i64 G.start, .int .i64 G.rules, .slice gn G.names.length cn, .slice gt G.terms.length ct, .slice gp G.prods.length cp], .string A] W fun e w' => ∃ gk' ck', e = .returned (.tuple #[.agg #[.int .i64 p5, .slice gk' L ck'], .int .i64 0]) ∧ FoAt w' (fun q => W.heap.size ≤ q ∧ q < w'.heap.size) gk' k5 0 ∧ Below W.heap.size W w' := fun W hW => by
      have h1 := tget_calls W G gn gt gp cn ct cp (Hch.out W (Hst.out.later hW).i) (Oct.putS p5 ++ k5.put) HF.out.len
      rw [if_pos Hsd.out, HF.out.get] at h1
      rw [hA]
      refine h1.mono ?_
      rintro e w' ⟨gk', ck', rfl, h2, h3⟩
      exact ⟨gk', ck', by rw [HL.out]; rfl, h2, h3⟩
    have Hput := hid hput
    have Hget := hid hget
    have HD61 := hid (show k5.nodes ≤ 976 by omega)
    clear hst hF hnn hL hch hput hget hA hdv hba' hbpa ha52
    have hB0 : Below w6.heap.size w6 w6.drew := (Below.refl _ _).drew
    have hB0a : Below w6.heap.size w6 (w6.alloc (.cells #[.int .i64 0, .slice none 0 0] 45)).drew := (bel_al (bel_id w6) _).drew
    have HB0 := hid (And.intro hB0 hB0a)
    go_upto_region 8 with fail
    clear hB0 hB0a e0 e1
    go_cut [10, 11] from 36 to 41 (fun v10 v11 wx => GrCut w6 p5 k5 L v10 v11 wx)
    case first =>
      go_region_held3 (fun W : World => (W.cell? ⟨bp, 0, none⟩ = some (.int .i64 G.start) ∧ W.cell? ⟨bp, 1, none⟩ = some (.int .i64 G.rules) ∧ W.cell? ⟨bp, 2, none⟩ = some (.slice gn G.names.length cn) ∧ W.cell? ⟨bp, 3, none⟩ = some (.slice gt G.terms.length ct) ∧ W.cell? ⟨bp, 4, none⟩ = some (.slice gp G.prods.length cp)) ∧ W.cell? ⟨b8, 0, none⟩ = some (.int .i64 p5) ∧ W.cell? ⟨b8, 1, none⟩ = some (.slice gk5 L ck5)) (first | exact HS.out _ HB0.out.1 | exact HS.out _ HB0.out.2 | exact HS.out _ Hbp9.out | exact HS.out _ (bel_al Hbp9.out _) | exact HS.out _ Hbg.out | exact HS.out _ (bel_al Hbg.out _) | exact HS.out _ ((Hbg.out.setCell (Nat.le_refl _) _).setCell (Nat.le_refl _) _) | exact HS.out _ ((Hbg.out.setCell Hbp9.out.size _).setCell Hbp9.out.size _))
        (first
          | (go_at_call 20; refine (Hget.out _ (by first | exact Hbp9.out | exact bel_al Hbp9.out _)).mono ?_; rintro e w10 ⟨gk', ck', rfl, hat10, hb10⟩; have Hbg := hid (show Below w6.heap.size w6 w10 by first | exact belw Hbp9.out hb10 | exact belw (bel_al Hbp9.out _) hb10); have Hat10 := hid hat10; (try (have Hk10 := hid (Hk9.out.below hb10 Hk9.out.lt))); (try (have Hk10 := hid ((Bk.new w9 45 [.int .i64 0, .slice none 0 0]).below hb10 (by simp)))); (try (have x0 := Hk10.out.cell 0; have x1 := Hk10.out.cell 1; have f0 := Hk10.out.free 0; have f1 := Hk10.out.free 1; simp only [List.getElem?_cons_zero, List.getElem?_cons_succ] at x0 x1)); clear hat10 hb10)
          | (go_at_call 25; refine (Hput.out _ (by first | exact HB0.out.1 | exact HB0.out.2)).mono ?_; rintro e w9 ⟨rfl, hb9⟩; have Hbp9 := hid (show Below w6.heap.size w6 w9 by first | exact belw HB0.out.1 hb9 | exact belw HB0.out.2 hb9); (try (have Hk9 := hid ((Bk.new w6 45 [.int .i64 0, .slice none 0 0]).drew.below hb9 (by simp)))); clear hb9))
      all_goals
        go_wp2_with fail
        go_meet
        first
          | exact GrCut.new Hat10.out Hbg.out
          | exact GrCut.store Hk10.out Hat10.out (by simp) (Nat.le_refl _) Hbg.out
          | exact GrCut.store Hk10.out Hat10.out (by simp) Hbp9.out.size Hbg.out
          | exact GrCut.store Hk10.out Hat10.out Hk9.out.lt (Nat.le_refl _) Hbg.out
    case rest =>
      obtain ⟨b10, gk', ck', rfl, rfl, hk10, hf10, hb610⟩ := hcut
      have Hk10 := hid hk10
      have Hf10 := hid hf10
      have Hb610 := hid hb610
      obtain ⟨lm, hlm⟩ : ∃ lm, lm = Fo.lmT p5 k5 := ⟨_, rfl⟩
      obtain ⟨ys, hys⟩ : ∃ ys, ys = Fo.yieldT p5 k5 := ⟨_, rfl⟩
      obtain ⟨LM, hLM⟩ : ∃ LM, LM = lm.length := ⟨_, rfl⟩
      obtain ⟨NY, hNY⟩ : ∃ NY, NY = ys.length := ⟨_, rfl⟩
      obtain ⟨n, hn⟩ : ∃ n, n = 1 + k5.nodes := ⟨_, rfl⟩
      obtain ⟨d, hd⟩ : ∃ d, d = k5.deep + 1 := ⟨_, rfl⟩
      have hsum : n = NY + LM := by rw [hn, HF.out.sum, ← hys, ← hlm, hLM, hNY]
      have hdn : d ≤ n := by have := Fo.deep_le k5; omega
      have hnn2 : n ≤ 977 := by have := Hnn.out; have := HD61.out; omega
      have hleft : ∀ W, Below w6.heap.size w6 W → Calls Try.prog 36 #[.agg #[.int .i64 p5, .slice gk5 L ck5]] W (YieldSaid lm W) := fun W hW => by
        rw [hlm, HL.out]
        exact left_calls _ p5 k5 W gk5 ck5 rfl (by omega) (Hst.out.later hW).f
      have hrep : ∀ W, Below w6.heap.size w6 W → ∀ ga ca, RowI W W.heap.size ga lm → Calls Try.prog 17 #[.agg #[.int .i64 G.start, .int .i64 G.rules, .slice gn G.names.length cn, .slice gt G.terms.length ct, .slice gp G.prods.length cp], .int .i64 G.start, .slice ga LM ca] W fun e w' => ∃ g c, e = .returned (.tuple #[.slice g NY c, .int .i64 0]) ∧ RowI w' w'.heap.size g (negS ys) ∧ Below W.heap.size W w' := fun W hW ga ca hr => by
        have h1 := replay_calls W G gn gt gp cn ct cp (Hst.out.later hW).i G.start lm ga ca (by omega) hr
        rw [hlm, HF.out.rep, ← hlm, ← hLM] at h1
        refine h1.mono ?_
        rintro e w' ⟨g, c, rfl, h2, h3⟩
        rw [← hys] at h2
        exact ⟨g, c, by simp [negS, hNY, hys], h2, h3⟩
      have hyc : ∀ W, Below w6.heap.size w6 W → Calls Try.prog 32 #[.agg #[.int .i64 p5, .slice gk5 L ck5]] W (YieldSaid ys W) := fun W hW => by
        rw [hys, HL.out]
        exact yield_calls _ p5 k5 W gk5 ck5 rfl (by omega) (by have := HF.out.p0; omega) HF.out.fits (Hst.out.later hW).f
      have hck : ∀ W, Below w6.heap.size w6 W → Calls Try.prog 24 #[.agg #[.int .i64 G.start, .int .i64 G.rules, .slice gn G.names.length cn, .slice gt G.terms.length ct, .slice gp G.prods.length cp], .agg #[.int .i64 p5, .slice gk5 L ck5]] W fun e w' => e = .returned (.bool true) ∧ Below W.heap.size W w' := fun W hW => by
        have h1 := tcheck_all W G gn gt gp cn ct cp (Hst.out.later hW).i p5 k5 gk5 ck5 (by omega) (Hst.out.later hW).f
        rw [HF.out.chk, ← HL.out] at h1
        exact h1
      have hsm : ∀ W, Below w6.heap.size w6 W → FoAt W (fun q => q < W.heap.size) gk' k5 0 → Calls Try.prog 31 #[.agg #[.int .i64 p5, .slice gk5 L ck5], .agg #[.int .i64 p5, .slice gk' L ck']] W fun e w' => e = .returned (.bool true) ∧ Below W.heap.size W w' := fun W hW hf => by
        have h1 := same_calls _ p5 p5 k5 k5 W gk5 gk' ck5 ck' rfl (by omega) (by omega) (Hst.out.later hW).f hf
        rw [Fo.sameT_refl, ← HL.out] at h1
        exact h1
      have hsz : ∀ W, Below w6.heap.size w6 W → Calls Try.prog 27 #[.agg #[.int .i64 p5, .slice gk5 L ck5]] W (SizeSaid n d W) := fun W hW => by
        rw [hn, hd, HL.out]
        exact size_calls _ p5 k5 W gk5 ck5 rfl (by omega) (Hst.out.later hW).f
      obtain ⟨TX, hTX⟩ : ∃ TX : ByteArray, TX = ⟨(Tr.textS G p5 k5).toArray⟩ := ⟨_, rfl⟩
      have htx : ∀ W, Below w6.heap.size w6 W → Calls Try.prog 30 #[.agg #[.int .i64 G.start, .int .i64 G.rules, .slice gn G.names.length cn, .slice gt G.terms.length ct, .slice gp G.prods.length cp], .agg #[.int .i64 p5, .slice gk5 L ck5]] W fun e w' => e = .returned (.string TX) ∧ Below W.heap.size W w' := fun W hW => by
        rw [hTX, HL.out]
        exact treeText_calls W G gn gt gp cn ct cp (Hst.out.later hW).i p5 k5 gk5 ck5 (by omega) (Hst.out.later hW).f
      have htl : TX.toList ≠ [] := by rw [hTX, Lib.toList_data]; exact HF.out.txt
      have hte : TX.toList.isEmpty = false := by simpa using htl
      have Hys := hid hys
      have HNY := hid hNY
      have Hleft := hid hleft
      have Hrep := hid hrep
      have Hyc := hid hyc
      have Hck := hid hck
      have Hsm := hid hsm
      have Hsz := hid hsz
      have Htx := hid htx
      have hN1 : (NY : Int) ≤ 977 := by omega
      have hN2 : (LM : Int) ≤ 977 := by omega
      have hN3 : (n : Int) = (NY : Int) + (LM : Int) := by omega
      have hN4 : (d : Int) ≤ (n : Int) := by omega
      have Hsum := hid hsum
      have Hdn := hid (And.intro hN3 hN4)
      have hlmn : LM = lm.length := hLM
      have HLM := hid hLM
      clear hk10 hf10 hb610 hlm hys hLM hNY hn hd hsum hdn hleft hrep hyc hck hsm hsz htx hTX hlmn hN3 hN4
      go_upto_region 9 with fail
      have hbd : Below w6.heap.size w6 wc.drew := Hb610.out.drew
      have Hbd := hid hbd
      clear hbd
      go_region_held3 (fun W : World => (W.cell? ⟨bp, 0, none⟩ = some (.int .i64 G.start) ∧ W.cell? ⟨bp, 1, none⟩ = some (.int .i64 G.rules) ∧ W.cell? ⟨bp, 2, none⟩ = some (.slice gn G.names.length cn) ∧ W.cell? ⟨bp, 3, none⟩ = some (.slice gt G.terms.length ct) ∧ W.cell? ⟨bp, 4, none⟩ = some (.slice gp G.prods.length cp)) ∧ W.cell? ⟨b8, 0, none⟩ = some (.int .i64 p5) ∧ W.cell? ⟨b8, 1, none⟩ = some (.slice gk5 L ck5)) (first | exact HS.out _ Hbd.out | exact HS.out _ Hb11.out | exact HS.out _ Hb12.out)
        (first
          | (go_at_call 17; refine (Hrep.out _ Hb11.out _ _ Hrow11.out).mono ?_; rintro e w12 ⟨g12, c12, rfl, hrow12, hb12⟩; have Hb12 := hid (belw Hb11.out hb12); have Hrow12 := hid hrow12; have Hc12 := hid ((Below.refl wc.heap.size wc).drew.trans (Hc11.out.trans (hb12.mono Hc11.out.size))); clear hrow12 hb12)
          | (go_at_call 36; refine (Hleft.out _ Hbd.out).mono ?_; rintro e w11 ⟨ga11, cap11, rfl, hrow11, hb11⟩; rw [← HLM.out]; have Hb11 := hid (belw Hbd.out hb11); have Hrow11 := hid (show RowI w11 w11.heap.size ga11 lm from fun i hi => by obtain ⟨g, o, u, h1, h2, h3, h4⟩ := hrow11 i hi; exact ⟨g, o, u, h1, h2.2, h3, h4⟩); have Hc11 := hid hb11; clear hrow11 hb11))
      have hcs := HS.out _ Hb12.out
      obtain ⟨⟨p0, p1, p2, p3, p4⟩, t0, t1⟩ := hcs
      have hne : ((NY : Int) != (NY : Int)) = false := by simp
      have hne2 : (NY != NY) = false := by simp
      go_wp2_with (first
        | (go_at_call 32; refine (Hyc.out _ Hb12.out).mono ?_; rintro e w13 ⟨ga13, cap13, rfl, hrow13, hb13⟩; rw [← HNY.out]; have Hb13 := hid (belw Hb12.out hb13); have Hrow13 := hid (show RowI w13 w13.heap.size ga13 ys from fun i hi => by obtain ⟨g, o, u, h1, h2, h3, h4⟩ := hrow13 i hi; exact ⟨g, o, u, h1, h2.2, h3, h4⟩); have Hc13 := hid (belw Hc12.out hb13); have Hr13 := hid ((Hrow12.out.below hb13).mono hb13.size); clear hrow13 hb13 p0 p1 p2 p3 p4 t0 t1; have hcs := HS.out _ (Hid.out Hb13); obtain ⟨⟨p0, p1, p2, p3, p4⟩, t0, t1⟩ := hcs)
        | (go_at_call 24; refine (Hck.out _ (Hid.out Hb13)).mono ?_; rintro e w14 ⟨rfl, hb14⟩; have Hb14 := hid (belw (Hid.out Hb13) hb14); have Hc14 := hid (belw (Hid.out Hc13) hb14); have Hr14 := hid (And.intro (((Hid.out Hrow13).below hb14).mono hb14.size) (((Hid.out Hr13).below hb14).mono hb14.size)); clear hb14 p0 p1 p2 p3 p4 t0 t1; have hcs := HS.out _ (Hid.out Hb14); obtain ⟨⟨p0, p1, p2, p3, p4⟩, t0, t1⟩ := hcs; have u0 := (Hk10.out.below (Hid.out Hc14) Hk10.out.lt).cell 0; have u1 := (Hk10.out.below (Hid.out Hc14) Hk10.out.lt).cell 1; simp only [List.getElem?_cons_zero, List.getElem?_cons_succ] at u0 u1)
        | (go_at_call 31; refine (Hsm.out _ (Hid.out Hb14) (Hf10.out.later (Hid.out Hc14))).mono ?_; rintro e w15 ⟨rfl, hb15⟩; have Hb15 := hid (belw (Hid.out Hb14) hb15); have Hr15 := hid (And.intro (((Hid.out Hr14).1.below hb15).mono hb15.size) (((Hid.out Hr14).2.below hb15).mono hb15.size)); clear hb15 p0 p1 p2 p3 p4 t0 t1 u0 u1; have hcs := HS.out _ (Hid.out Hb15); obtain ⟨⟨p0, p1, p2, p3, p4⟩, t0, t1⟩ := hcs))
      clear p0 p1 p2 p3 p4 t0 t1
      go_loopg [15] NY (fun k v15 wr => GrwAt w15 NY k v15 wr)
      case atStart => exact ⟨0, rfl, Nat.zero_le _, rfl, Below.refl _ _⟩
      case round =>
        obtain ⟨i, rfl, hi, hk, hbr⟩ := hrel
        have Hk := hid hk
        have Hbr := hid hbr
        clear hk hbr
        by_cases hlt : i < NY
        · have hlt' : (i : Int) < (NY : Int) := by omega
          have hi0 : (0 : Int) ≤ (i : Int) := by omega
          have hly : i < ys.length := by have := HNY.out; omega
          have hln : i < (negS ys).length := by unfold negS; rw [List.length_map]; exact hly
          obtain ⟨y, hy⟩ : ∃ y, y = ys[i] := ⟨_, rfl⟩
          have hyb := HF.out.y0 y (by rw [← Hys.out, hy]; exact List.getElem_mem hly)
          obtain ⟨hy0, hy1⟩ := hyb
          have hny : (negS ys)[i] = -1 - y := by rw [hy]; simp [negS]
          obtain ⟨g1, o1, rfl, hg1, hc1⟩ := Hr15.out.1.at hly
          obtain ⟨g2, o2, rfl, hg2, hc2⟩ := Hr15.out.2.at hln
          rw [← hy] at hc1
          rw [hny] at hc2
          have d1 := (Hbr.out.cell (p := ⟨g1, _, none⟩) hg1).trans hc1
          have d2 := (Hbr.out.cell (p := ⟨g2, _, none⟩) hg2).trans hc2
          have hzz : (-1 - y != -1 - y) = false := by simp
          have Hlt := hid hlt
          clear hy hny hc1 hc2 hly hln hlt hi
          go_upto_region 16 with fail
          go_quiet (fail)
          go_wp2_with fail
          go_roundg (NY - (i + 1))
          case measure => have := Hk.out; have := Hlt.out; omega
          case rel => exact ⟨i + 1, by go_num, Hlt.out, rfl, below_drewN Hbr.out _⟩
        · have hge : ¬ (i : Int) < (NY : Int) := by omega
          have hB := belw Hb15.out Hbr.out
          have hcs := HS.out _ hB
          obtain ⟨⟨p0, p1, p2, p3, p4⟩, t0, t1⟩ := hcs
          have hN3 := Hdn.out.1
          have hN4 := Hdn.out.2
          have hN5 : ((n : Int) == (NY : Int) + (LM : Int)) = true := by simpa using hN3
          have hN0 : (0 : Int) ≤ (NY : Int) := by omega
          have hN6 : (0 : Int) ≤ (LM : Int) := by omega
          have HB := hid hB
          have HN3 := hid hN3
          clear hlt hi hB hN3
          go_wp2_with (first
            | (go_at_call 27; refine (Hsz.out _ HB.out).mono ?_; rintro e w17 ⟨rfl, hb17⟩; have Hb17 := hid (belw HB.out hb17); clear hb17 p0 p1 p2 p3 p4 t0 t1; have hcs := HS.out _ (Hid.out Hb17); obtain ⟨⟨p0, p1, p2, p3, p4⟩, t0, t1⟩ := hcs)
            | (go_at_call 36; refine (Hleft.out _ (Hid.out Hb17)).mono ?_; rintro e w18 ⟨ga18, cap18, rfl, hrow18, hb18⟩; rw [← HLM.out]; have Hb18 := hid (belw (Hid.out Hb17) hb18); clear hrow18 hb18 p0 p1 p2 p3 p4 t0 t1; have hcs := HS.out _ (Hid.out Hb18); obtain ⟨⟨p0, p1, p2, p3, p4⟩, t0, t1⟩ := hcs)
            | (go_at_call 30; refine (Htx.out _ (Hid.out Hb18)).mono ?_; rintro e w19 ⟨rfl, hb19⟩; have Hb19 := hid (belw (Hid.out Hb18) hb19); clear hb19))
          go_ret
          exact ⟨rfl, belw Hbw6.out (Hid.out Hb19)⟩
end Go.Proofs.Ytaehooafdbaomaa
