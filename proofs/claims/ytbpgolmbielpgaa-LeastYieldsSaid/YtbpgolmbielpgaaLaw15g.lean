/- Chapter 15 (least): LeastYields: walk. -/
import Derived.Test.YtbpgolmbielpgaaLaw15f
import Derived.Test.YtbpgolmbielpgaaMade15
import Derived.Test.YtbpgolmbielpgaaDer2
import Derived.Test.YtbpgolmbielpgaaLawArr
namespace Go.Proofs.Ytbpgolmbielpgaa
open Go.RowKit
attribute [local go_sem ↓] Go.wp_at_zero Go.wp_at_succ
attribute [local go_sem] frozen_alloc_lt

def HasDer (G : Gr) (word : List Int) : Prop := ∃ f, Fo.Of G.prods word f [G.start] 0 word.length
structure YTree (w' : World) (lo : Nat) (G : Gr) (word : List Int) (v : Int) (q : Nat) (R : List Int) (kids : Fo) (gk : Option Addr) : Prop where
  at' : FoAt w' (fun k => lo ≤ k ∧ k < w'.heap.size) gk kids 0
  nd : ((1 + kids.nodes : Nat) : Int) = v
  v1 : v ≤ 65536
  ck : Tr.chkT G (q : Int) kids = true
  yd : Fo.yieldT (q : Int) kids = word
  pr : G.prods[q]? = some (G.start, R)
  ft : kids.fits
theorem yields_law {G : Gr} {K : Nat} {word : List Int} (hs : Pl.soundB G = true) (hsys : Sm.Sys G.prods K) (hK : K ≤ 4) (hl : word.length ≤ 7) (hw : ∀ z ∈ word, 0 ≤ z ∧ z < (G.terms.length : Int)) :
    Le.rightB G word = true ∧ ∀ (w : World) (e : Ending) (w' : World), TreeSaid w G word e w' →
      (¬ HasDer G word ∧ Le.Least G.prods word G.start (-1) ∧ ∃ (p : Int) (gk : Option Addr) (ck : Nat), e = .returned (.tuple #[.agg #[.int .i64 p, .slice gk 0 ck], .int .i64 10]) ∧ Below w.heap.size w w') ∨
      (HasDer G word ∧ ∃ (v : Int) (q : Nat) (R : List Int) (kids : Fo) (gk : Option Addr) (ck : Nat), Le.Least G.prods word G.start v ∧ e = .returned (.tuple #[.agg #[.int .i64 q, .slice gk kids.len ck], .int .i64 0]) ∧ YTree w' w.heap.size G word v q R kids gk ∧ Below w.heap.size w w') := by
  have Hs := sndG hs
  have hst : ((G.start.toNat : Nat) : Int) = G.start := by have := Hs.s0; omega
  have hr : Le.rightB G word = true := by
    unfold Le.rightB
    rw [hs, decide_eq_true (show word.length ≤ 64 by omega)]
    simp only [Bool.true_and, Bool.not_eq_true', List.any_eq_false]
    intro y hyy
    obtain ⟨h1, h2⟩ := hw y hyy
    unfold Le.badT
    simp
    omega
  refine ⟨hr, ?_⟩
  rintro w e w' ⟨p, kids, gk, ck, er, rfl, hat, -, hyes, hb⟩
  obtain ⟨v, hv, hc⟩ := hyes hr
  rcases hc with ⟨rfl, rfl, rfl⟩ | ⟨h1, _⟩ | ⟨h0, h1, rfl, h3, h4, _⟩
  · refine .inl ⟨?_, hv, p, gk, ck, rfl, hb⟩
    rcases hv with ⟨_, h⟩ | ⟨h0, _⟩
    · rintro ⟨f, hf⟩
      exact h f hf
    · omega
  · exfalso
    rcases hv with ⟨_, h⟩ | ⟨h0, f, hf, e, hm⟩
    · omega
    · rw [← hst] at hf hm
      obtain ⟨f', hf', hn'⟩ := Sm.whole hsys hK (by omega) hf
      have := hm f' hf'
      omega
  · obtain ⟨q, R, k, e, hq, hk⟩ := Le.of_one h3 Hs.s0
    injection e with e1 e2
    subst e1 e2
    have hdv := h3.dv
    obtain ⟨hl1, hck⟩ := Fo.Dv.chk hs hdv (fun s hs => by simp at hs; subst hs; have := Hs.s0; omega)
    have hyd := h3.whole
    rw [Fo.yield_cons] at hyd
    simp only [Fo.yield, List.append_nil] at hyd
    have hft := (Fo.Dv.fits (t := (G.terms.length : Int)) (by have := Hs.t1; omega) (fun x hx s hs => Hs.r0 x hx s hs) hdv (fun s hs => by simp at hs; subst hs; have := Hs.s0; omega)).1
    refine .inr ⟨⟨_, h3⟩, v, q, R, kids, gk, ck, hv, rfl, ⟨hat, h4, h1, ?_, hyd, hq, hft.2.1⟩, hb⟩
    unfold Tr.chkT
    rw [Tr.chkF] at hck
    simp only [Bool.and_eq_true] at hck ⊢
    exact hck.1.1

def YAt (w0 : World) (L : Nat) (k : Nat) (v13 : Value) (w : World) : Prop := ∃ i : Nat, v13 = .int .i64 i ∧ i ≤ L ∧ k = L - i ∧ Below w0.heap.size w0 w
set_option maxHeartbeats 8000000 in
set_option maxRecDepth 8000 in
theorem yields_calls (x : RawD) (v : Value) (zs : List Int) (v1 : Value) (w : World) (hx : RawAt w x v) (hz : IntsV w zs v1) : Calls Try.prog 10 #[v, v1] w fun e w' => e = .returned (.bool true) ∧ Below w.heap.size w w' := by
  obtain ⟨gl, gr, cl, cr, rfl, hl, hr, hl1, hr1, hr2⟩ := hx
  obtain ⟨gc, cc, rfl, hc, hc1, hc2, -⟩ := hz
  have hk0 := Bk.new w 68 [.int .i64 x.n, .int .i64 x.t, .int .i64 x.start, .slice gl x.left.length cl, .slice gr x.right.length cr]
  have hb0 : Below w.heap.size w (w.alloc (.cells #[.int .i64 x.n, .int .i64 x.t, .int .i64 x.start, .slice gl x.left.length cl, .slice gr x.right.length cr] 68)) := (Below.refl _ w).alloc (Nat.le_refl _) _
  go_enter Try.func10, Try.ntmps10
  go_upto_region 1 with fail
  obtain ⟨wa, hwa⟩ : ∃ wa, wa = (w.alloc (.cells #[.int .i64 x.n, .int .i64 x.t, .int .i64 x.start, .slice gl x.left.length cl, .slice gr x.right.length cr] 68)) := ⟨_, rfl⟩
  rw [← hwa] at hk0 hb0 ⊢
  clear hwa
  go_upto_region 3 with (go_at_call 23; refine (speaks15_calls _).mono ?_; rintro e w1 ⟨rfl, hb1⟩)
  have hk1 := hk0.below hb1 hk0.lt
  have hbw1 : Below w.heap.size w w1 := hb0.trans (hb1.mono hb0.size)
  have hl2 : RowI w1 w1.heap.size gl x.left := (hl.below hbw1).mono hbw1.size
  have hrr2 : RowII w1 w1.heap.size gr x.right := (hr.below hbw1).mono hbw1.size
  have hc2' : RowI w1 w1.heap.size gc zs := (hc.below hbw1).mono hbw1.size
  have c0 := hk1.cell 0
  have c1 := hk1.cell 1
  have c2 := hk1.cell 2
  have c3 := hk1.cell 3
  have c4 := hk1.cell 4
  simp only [List.getElem?_cons_zero, List.getElem?_cons_succ] at c0 c1 c2 c3 c4
  clear hk0 hb0 hb1 hl hr hc
  go_upto_region 4 with (go_at_call 36; refine (made15_calls x gl gr cl cr _ hl2 hrr2 hl1 hr1 hr2).mono ?_; rintro e w2 ⟨N, T, hN1, hN8, hT3, gn, gt, gp, gn', gt', gp', cn, ct, cp, cn', ct', cp', rfl, hg, hg', hb2⟩; unfold gramV)
  obtain ⟨G, hG⟩ : ∃ G, G = Mk.gram N T 12 4 x := ⟨_, rfl⟩
  have hsd : Pl.soundB G = true := by rw [hG]; exact Mk.gram_sound x hN1 (by omega) (by omega) (by omega) (by omega)
  have hsn := sndG hsd
  have hnl : G.names.length = N := by rw [hG]; exact Mk.letters_length 65 N
  have hsys : Sm.Sys G.prods N := ⟨hsn.l0, fun y hy => by rw [← hnl]; exact hsn.l1 y hy, fun y hy => by rw [hG] at hy; exact Mk.prodsL_row hy⟩
  rw [← hG] at hg hg' ⊢
  have ht256 := hsn.t1
  have Hsd := hid hsd
  have Hsys := hid hsys
  have hbw2 : Below w.heap.size w w2 := hbw1.trans (hb2.mono hbw1.size)
  have hc3 : RowI w2 w2.heap.size gc zs := (hc2'.below hb2).mono hb2.size
  clear hG hsd hsn hnl hsys hN1 hT3 hl2 hrr2 hl1 hr1 hr2 c0 c1 c2 c3 c4 hk1 hbw1 hb2 hc2'
  have hb3 : Below w2.heap.size w2 ((w2.alloc (.cells #[.int .i64 G.start, .int .i64 G.rules, .slice gn G.names.length cn, .slice gt G.terms.length ct, .slice gp G.prods.length cp] 41)).alloc (.cells #[.int .i64 G.start, .int .i64 G.rules, .slice gn' G.names.length cn', .slice gt' G.terms.length ct', .slice gp' G.prods.length cp'] 57)) := bel_al (bel_al (bel_id w2) _) _
  have kp1 := (Bk.new w2 41 [.int .i64 G.start, .int .i64 G.rules, .slice gn G.names.length cn, .slice gt G.terms.length ct, .slice gp G.prods.length cp]).alloc (.cells #[.int .i64 G.start, .int .i64 G.rules, .slice gn' G.names.length cn', .slice gt' G.terms.length ct', .slice gp' G.prods.length cp'] 57)
  have kq1 := bk_at (Bk.new (w2.alloc (.cells #[.int .i64 G.start, .int .i64 G.rules, .slice gn G.names.length cn, .slice gt G.terms.length ct, .slice gp G.prods.length cp] 41)) 57 [.int .i64 G.start, .int .i64 G.rules, .slice gn' G.names.length cn', .slice gt' G.terms.length ct', .slice gp' G.prods.length cp']) (show _ = w2.heap.size + 1 by simp)
  obtain ⟨w3, hw3⟩ : ∃ w3, w3 = ((w2.alloc (.cells #[.int .i64 G.start, .int .i64 G.rules, .slice gn G.names.length cn, .slice gt G.terms.length ct, .slice gp G.prods.length cp] 41)).alloc (.cells #[.int .i64 G.start, .int .i64 G.rules, .slice gn' G.names.length cn', .slice gt' G.terms.length ct', .slice gp' G.prods.length cp'] 57)) := ⟨_, rfl⟩
  obtain ⟨bp, hbp⟩ : ∃ bp, bp = w2.heap.size := ⟨_, rfl⟩
  obtain ⟨bq, hbq⟩ : ∃ bq, bq = bp + 1 := ⟨_, rfl⟩
  rw [← hw3] at kp1 kq1 hb3 ⊢
  rw [← hbp] at kp1 kq1 ⊢
  rw [← hbq] at kq1 ⊢
  have hg3 := hg.later hb3
  have hg3' := hg'.later hb3
  have hc4 : RowI w3 w3.heap.size gc zs := (hc3.below hb3).mono hb3.size
  have hbw3 := belw hbw2 hb3
  have q3 := kq1.cell 3
  simp only [List.getElem?_cons_zero, List.getElem?_cons_succ] at q3
  clear hw3 hbp hbq hg hg' hc3 hb3 hbw2
  have hwc := word15_calls w3 gc cc zs hc4 (Nat.le_trans hc1 hc2) G.terms.length 7 (by omega) (by omega)
  have Hwc := hid hwc
  clear hwc hc4 hc1 hc2
  go_upto_region 5 with (go_at_call 39; refine Hwc.out.mono ?_; rintro e w4 ⟨ga4, ca4, l4, rfl, hrow4, hlen4, hter4, hb4⟩)
  have kp4 := kp1.below hb4 kp1.lt
  have kq4 := kq1.below hb4 kq1.lt
  have hg4 := hg3.later hb4
  have hg4' := hg3'.later hb4
  have hbw4 := belw hbw3 hb4
  obtain ⟨hrt, hlaw⟩ := yields_law Hsd.out Hsys.out hN8 hlen4 hter4
  have htc := (ltree_calls w4 G gn gt gp cn ct cp hg4 ga4 ca4 l4 hrow4 (by omega)).mono (fun e w' h => hlaw w4 e w' h)
  unfold gramV at htc
  have g0 := kp4.cell 0
  have g1 := kp4.cell 1
  have g2 := kp4.cell 2
  have g3 := kp4.cell 3
  have g4 := kp4.cell 4
  simp only [List.getElem?_cons_zero, List.getElem?_cons_succ] at g0 g1 g2 g3 g4
  have Htc := hid htc
  have Hrt := hid hrt
  have Kp4 := hid kp4
  have Kq4 := hid kq4
  have Hg4 := hid hg4
  have Hg4' := hid hg4'
  have Hbw4 := hid hbw4
  have Hrow4 := hid hrow4
  clear htc hrt hlaw kp1 kq1 kp4 kq4 hg3 hg3' hg4 hg4' hbw3 hbw4 hb4 q3 hrow4 hter4
  by_cases hder : HasDer G l4
  · have htd := Htc.out.mono (R' := fun e w' => ∃ (v : Int) (q : Nat) (R : List Int) (kids : Fo) (gk : Option Addr) (ck : Nat), Le.Least G.prods l4 G.start v ∧ e = .returned (.tuple #[.agg #[.int .i64 q, .slice gk kids.len ck], .int .i64 0]) ∧ YTree w' w4.heap.size G l4 v q R kids gk ∧ Below w4.heap.size w4 w') (fun e w' h => by
      rcases h with h | h
      · exact absurd hder h.1
      · exact h.2)
    have Htd := hid htd
    have Hder := hid hder
    clear htd hder
    go_upto_region 6 with (go_at_call 25; refine Htd.out.mono ?_; rintro e w5 ⟨v5, q5, R5, k5, gk5, ck5, hv5, rfl, hy5, hb5⟩)
    have hk8 := Bk.new w5 45 [.int .i64 q5, .slice gk5 k5.len ck5]
    have hal6 : Below w5.heap.size w5 (w5.alloc (.cells #[.int .i64 q5, .slice gk5 k5.len ck5] 45)) := bel_al (bel_id w5) _
    obtain ⟨w6, hw6⟩ : ∃ w6, w6 = w5.alloc (.cells #[.int .i64 q5, .slice gk5 k5.len ck5] 45) := ⟨_, rfl⟩
    obtain ⟨b8, hb8⟩ : ∃ b8, b8 = w5.heap.size := ⟨_, rfl⟩
    rw [← hw6] at hk8 hal6 ⊢
    rw [← hb8] at hk8 ⊢
    have hb46 := belw hb5 hal6
    have hat6 := (hy5.at'.below hal6 (fun k hk => hk.2)).mono (D' := fun k => k < w6.heap.size) (fun k hk => Nat.lt_of_lt_of_le hk.2 hal6.size)
    have kp6 := Kp4.out.below hb46 Kp4.out.lt
    have kq6 := Kq4.out.below hb46 Kq4.out.lt
    have hg6 := Hg4.out.later hb46
    have hg6' := Hg4'.out.later hb46
    have hrow6 : RowI w6 w6.heap.size ga4 l4 := (Hrow4.out.below hb46).mono hb46.size
    have hbw6 := belw Hbw4.out hb46
    have q0 := kq6.cell 0
    have q1 := kq6.cell 1
    have q2 := kq6.cell 2
    have q3 := kq6.cell 3
    have q4 := kq6.cell 4
    simp only [List.getElem?_cons_zero, List.getElem?_cons_succ] at q0 q1 q2 q3 q4
    have hdc := derives_calls w6 G gn' gt' gp' cn' ct' cp' hg6' Hsd.out ga4 ca4 l4 hrow6 (by omega)
    have hdt := hdc.mono (R' := fun e w' => e = .returned (.bool true) ∧ Below w6.heap.size w6 w') (fun e w' ⟨b, he, hbi, hbb⟩ => by
      have : b = true := hbi.2 Hder.out
      subst this
      exact ⟨he, hbb⟩)
    have Hdt := hid hdt
    have hkn : k5.nodes ≤ 65536 := by have := hy5.nd; have := hy5.v1; omega
    have Hy5 := hid hy5
    have Hv5 := hid hv5
    have Hkp6 := hid kp6
    have Hk8 := hid hk8
    have Hg6 := hid hg6
    have Hrow6 := hid hrow6
    have Hbw6 := hid hbw6
    have Hat6 := hid hat6
    clear hdc hdt kp6 kq6 hg6 hg6' hrow6 hbw6 hb46 hal6 hw6 hb8 hb5 hy5 hv5 hk8 hat6 g0 g1 g2 g3 g4
    go_upto_region 8 with (go_at_call 40; refine Hdt.out.mono ?_; rintro e w7 ⟨rfl, hb7⟩)
    have hat7 := (Hat6.out.below hb7 (fun _ h => h)).mono (D' := fun k => k < w7.heap.size) (fun k hk => Nat.lt_of_lt_of_le hk hb7.size)
    have kp7 := Hkp6.out.below hb7 Hkp6.out.lt
    have hk87 := Hk8.out.below hb7 Hk8.out.lt
    have hg7 := Hg6.out.later hb7
    have hrow7 : RowI w7 w7.heap.size ga4 l4 := (Hrow6.out.below hb7).mono hb7.size
    have hbw7 := belw Hbw6.out hb7
    have x0 := hk87.cell 0
    have x1 := hk87.cell 1
    simp only [List.getElem?_cons_zero, List.getElem?_cons_succ] at x0 x1
    have hsz := size_calls _ (q5 : Int) k5 w7 gk5 ck5 rfl (by omega) hat7
    obtain ⟨n1, hn1⟩ : ∃ n1, n1 = 1 + k5.nodes := ⟨_, rfl⟩
    rw [← hn1] at hsz
    have Hn1 := hid hn1
    have hn1m : (n1 : Int) ≤ 65537 := by omega
    clear hn1
    have Hsz := hid hsz
    have Hat7 := hid hat7
    have Hkp7 := hid kp7
    have Hk87 := hid hk87
    have Hg7 := hid hg7
    have Hrow7 := hid hrow7
    have Hbw7 := hid hbw7
    clear hsz hat7 kp7 hk87 hg7 hrow7 hbw7 hb7 q0 q1 q2 q3 q4
    go_upto_region 11 with (go_at_call 35; refine Hsz.out.mono ?_; rintro e w8 ⟨rfl, hb8'⟩)
    have hat8 := (Hat7.out.below hb8' (fun _ h => h)).mono (D' := fun k => k < w8.heap.size) (fun k hk => Nat.lt_of_lt_of_le hk hb8'.size)
    have hk88 := Hk87.out.below hb8' Hk87.out.lt
    have y0 := hk88.cell 0
    have y1 := hk88.cell 1
    simp only [List.getElem?_cons_zero, List.getElem?_cons_succ] at y0 y1
    have hyc := yield_calls _ (q5 : Int) k5 w8 gk5 ck5 rfl (by omega) (by omega) Hy5.out.ft hat8
    rw [Hy5.out.yd] at hyc
    have Hyc := hid hyc
    have Hat8 := hid hat8
    have Hk88 := hid hk88
    have Hb8' := hid hb8'
    clear hyc hat8 hk88 hb8' x0 x1
    go_upto_region 12 with (go_at_call 38; refine Hyc.out.mono ?_; rintro e w9 ⟨ga9, ca9, rfl, hrow9, hb9⟩)
    have hb79 := belw Hb8'.out hb9
    have hat9 := (Hat8.out.below hb9 (fun _ h => h)).mono (D' := fun k => k < w9.heap.size) (fun k hk => Nat.lt_of_lt_of_le hk hb9.size)
    have kp9 := Hkp7.out.below hb79 Hkp7.out.lt
    have hk89 := Hk88.out.below hb9 Hk88.out.lt
    have hg9 := Hg7.out.later hb79
    have hrw9 : RowI w9 w9.heap.size ga4 l4 := (Hrow7.out.below hb79).mono hb79.size
    have hyw9 : RowI w9 w9.heap.size ga9 l4 := fun i hi => by
      obtain ⟨g, o, u, h1, h2, h3, h4⟩ := hrow9 i hi
      exact ⟨g, o, u, h1, h2.2, h3, h4⟩
    have hbw9 := belw Hbw7.out hb79
    obtain ⟨g, off, gr, cr, rfl, hgl, hL, hR, -⟩ := hg9.p q5 _ Hy5.out.pr
    simp only at hL
    have hqp : q5 < G.prods.length := (List.getElem?_eq_some_iff.1 Hy5.out.pr).1
    have hqp' : (q5 : Int) < (G.prods.length : Int) := by omega
    have hq0 : (0 : Int) ≤ (q5 : Int) := by omega
    have g0 := kp9.cell 0
    have g1 := kp9.cell 1
    have g2 := kp9.cell 2
    have g3 := kp9.cell 3
    have g4 := kp9.cell 4
    have x0 := hk89.cell 0
    have x1 := hk89.cell 1
    simp only [List.getElem?_cons_zero, List.getElem?_cons_succ] at g0 g1 g2 g3 g4 x0 x1
    have hbD : Below w9.heap.size w9 w9.drew := below_drewN (bel_id w9) 1
    have hnc : ∀ W, Below w9.heap.size w9 W → Calls Try.prog 26 #[.agg #[.int .i64 G.start, .int .i64 G.rules, .slice gn G.names.length cn, .slice gt G.terms.length ct, .slice (some ⟨g, off, none⟩) G.prods.length cp], .slice ga4 l4.length ca4] W fun e w' => e = .returned (.int .i64 (n1 : Int)) ∧ Below W.heap.size W w' := fun W hW => by
      have h1 := nodes_calls W G gn gt (some ⟨g, off, none⟩) cn ct cp (hg9.later hW) ga4 ca4 l4 ((hrw9.below hW).mono hW.size) (by omega)
      unfold gramV at h1
      refine h1.mono (fun e w' ⟨v, he, _, hy, hbb⟩ => ?_)
      have h2 : v = v5 := (hy Hrt.out).uniq Hv5.out
      have h3 := Hy5.out.nd
      rw [← Hn1.out] at h3
      subst h2
      rw [h3]
      exact ⟨he, hbb⟩
    have hcc : Calls Try.prog 41 #[.agg #[.int .i64 G.start, .int .i64 G.rules, .slice gn G.names.length cn, .slice gt G.terms.length ct, .slice (some ⟨g, off, none⟩) G.prods.length cp], .agg #[.int .i64 q5, .slice gk5 k5.len ck5]] w9.drew fun e w' => e = .returned (.bool true) ∧ Below w9.drew.heap.size w9.drew w' := by
      have h1 := check_all w9.drew G gn gt (some ⟨g, off, none⟩) cn ct cp (hg9.later hbD) Hsd.out (q5 : Int) k5 gk5 ck5 (by omega) ((hat9.below hbD (fun _ h => h)).mono (fun k hk => Nat.lt_of_lt_of_le hk hbD.size))
      rw [Hy5.out.ck] at h1
      exact h1
    have HcE : ∀ W, Below w9.heap.size w9 W → W.cell? ⟨bp, 0, none⟩ = some (.int .i64 G.start) ∧ W.cell? ⟨bp, 1, none⟩ = some (.int .i64 G.rules) ∧ W.cell? ⟨bp, 2, none⟩ = some (.slice gn G.names.length cn) ∧ W.cell? ⟨bp, 3, none⟩ = some (.slice gt G.terms.length ct) ∧ W.cell? ⟨bp, 4, none⟩ = some (.slice (some ⟨g, off, none⟩) G.prods.length cp) ∧ W.cell? ⟨b8, 0, none⟩ = some (.int .i64 q5) ∧ W.cell? ⟨b8, 1, none⟩ = some (.slice gk5 k5.len ck5) ∧ W.cell? ⟨g, off + q5 * 2, none⟩ = some (.int .i64 G.start) := fun W hW => by
      have k1 := kp9.below hW kp9.lt
      have k2 := hk89.below hW hk89.lt
      exact ⟨k1.cell 0, k1.cell 1, k1.cell 2, k1.cell 3, k1.cell 4, k2.cell 0, k2.cell 1, (hW.cell (p := ⟨g, _, none⟩) hgl).trans hL⟩
    have Hnc := hid hnc
    have Hcc := hid hcc
    have HCE := hid HcE
    have HbD := hid hbD
    have Hrw9 := hid hrw9
    have Hyw9 := hid hyw9
    have Hbw9 := hid hbw9
    clear hnc hcc HcE hat9 kp9 hk89 hg9 hrw9 hyw9 hbw9 hb79 hb9 hrow9 hR y0 y1 hgl
    go_region_held3 (fun w' => w'.cell? ⟨bp, 0, none⟩ = some (.int .i64 G.start) ∧ w'.cell? ⟨bp, 1, none⟩ = some (.int .i64 G.rules) ∧ w'.cell? ⟨bp, 2, none⟩ = some (.slice gn G.names.length cn) ∧ w'.cell? ⟨bp, 3, none⟩ = some (.slice gt G.terms.length ct) ∧ w'.cell? ⟨bp, 4, none⟩ = some (.slice (some ⟨g, off, none⟩) G.prods.length cp) ∧ w'.cell? ⟨b8, 0, none⟩ = some (.int .i64 q5) ∧ w'.cell? ⟨b8, 1, none⟩ = some (.slice gk5 k5.len ck5) ∧ w'.cell? ⟨g, off + q5 * 2, none⟩ = some (.int .i64 G.start))
      (go_keep)
      (first
          | (go_at_call 41; refine Hcc.out.mono ?_; rintro e w10 ⟨rfl, hb10⟩; have hb10' := HbD.out.trans hb10; obtain ⟨m0, m1, m2, m3, m4, m5, m6, m7⟩ := HCE.out _ hb10'; have Hb10 := hid hb10'; clear hb10 hb10')
          | (go_at_call 26; refine (Hnc.out _ Hb10.out).mono ?_; rintro e w11 ⟨rfl, hb11⟩; have hb11' := belw Hb10.out hb11; obtain ⟨n0, n1', n2, n3, n4, n5, n6, n7⟩ := HCE.out _ hb11'; have Hb11 := hid hb11'; clear hb11 hb11'))
    clear g0 g1 g2 g3 g4 x0 x1 m0 m1 m2 m3 m4 m5 m6 m7 n0 n1' n2 n3 n4 n5 n6 n7
    go_wp2_with fail
    go_loopg [13] l4.length (fun k v13 wr => YAt w11 l4.length k v13 wr)
    case atStart => exact ⟨0, rfl, by omega, rfl, Below.refl _ _⟩
    case round =>
      obtain ⟨i, rfl, hi, hk, hb⟩ := hrel
      have Hk := hid hk
      have Hb := hid hb
      clear hk
      by_cases hlt : i < l4.length
      · have hlt' : (i : Int) < (l4.length : Int) := by omega
        have hi0 : (0 : Int) ≤ (i : Int) := by omega
        have hb9r : Below w9.heap.size w9 wr := belw Hb11.out hb
        obtain ⟨ga, oa, rfl, hga, hca⟩ := (Hrw9.out.below hb9r).at hlt
        obtain ⟨gb, ob, rfl, hgb, hcb⟩ := (Hyw9.out.below hb9r).at hlt
        obtain ⟨z, hz⟩ : ∃ z, z = l4[i] := ⟨_, rfl⟩
        rw [← hz] at hca hcb
        clear hz hb9r hb
        go_wp2_with fail
        go_quiet (fail)
        go_wp2_with fail
        go_roundg (l4.length - (i + 1))
        case measure => have hk := Hk.out; omega
        case rel => exact ⟨i + 1, by go_num, by omega, rfl, below_drewN Hb.out _⟩
      · have hge : ¬ (i : Int) < (l4.length : Int) := by omega
        clear hb
        go_wp2_with fail
        go_ret
        exact ⟨rfl, belw Hbw9.out (belw Hb11.out Hb.out)⟩
  · have htd := Htc.out.mono (R' := fun e w' => ∃ (p : Int) (gk : Option Addr) (ck : Nat), e = .returned (.tuple #[.agg #[.int .i64 p, .slice gk 0 ck], .int .i64 10]) ∧ Le.Least G.prods l4 G.start (-1) ∧ Below w4.heap.size w4 w') (fun e w' h => by
      rcases h with h | h
      · obtain ⟨_, h1, p, gk, ck, h2, h3⟩ := h
        exact ⟨p, gk, ck, h2, h1, h3⟩
      · exact absurd h.1 hder)
    have Htd := hid htd
    have Hder := hid hder
    clear htd hder
    go_upto_region 6 with (go_at_call 25; refine Htd.out.mono ?_; rintro e w5 ⟨p5, gk5, ck5, rfl, hv5, hb5⟩)
    have hal6 : Below w5.heap.size w5 (w5.alloc (.cells #[.int .i64 p5, .slice gk5 0 ck5] 45)) := bel_al (bel_id w5) _
    obtain ⟨w6, hw6⟩ : ∃ w6, w6 = w5.alloc (.cells #[.int .i64 p5, .slice gk5 0 ck5] 45) := ⟨_, rfl⟩
    rw [← hw6] at hal6 ⊢
    have hb46 := belw hb5 hal6
    have kp6 := Kp4.out.below hb46 Kp4.out.lt
    have kq6 := Kq4.out.below hb46 Kq4.out.lt
    have hg6 := Hg4.out.later hb46
    have hg6' := Hg4'.out.later hb46
    have hrow6 : RowI w6 w6.heap.size ga4 l4 := (Hrow4.out.below hb46).mono hb46.size
    have hbw6 := belw Hbw4.out hb46
    have q0 := kq6.cell 0
    have q1 := kq6.cell 1
    have q2 := kq6.cell 2
    have q3 := kq6.cell 3
    have q4 := kq6.cell 4
    simp only [List.getElem?_cons_zero, List.getElem?_cons_succ] at q0 q1 q2 q3 q4
    have hdc := derives_calls w6 G gn' gt' gp' cn' ct' cp' hg6' Hsd.out ga4 ca4 l4 hrow6 (by omega)
    have hdt := hdc.mono (R' := fun e w' => e = .returned (.bool false) ∧ Below w6.heap.size w6 w') (fun e w' ⟨b, he, hbi, hbb⟩ => by
      have : b = false := by
        cases b
        · rfl
        · exact absurd (hbi.1 rfl) Hder.out
      subst this
      exact ⟨he, hbb⟩)
    have Hdt := hid hdt
    have Hv5 := hid hv5
    have Hkp6 := hid kp6
    have Hg6 := hid hg6
    have Hrow6 := hid hrow6
    have Hbw6 := hid hbw6
    clear hdc hdt kp6 kq6 hg6 hg6' hrow6 hbw6 hb46 hal6 hw6 hb5 hv5 g0 g1 g2 g3 g4
    go_upto_region 8 with (go_at_call 40; refine Hdt.out.mono ?_; rintro e w7 ⟨rfl, hb7⟩)
    have kp7 := Hkp6.out.below hb7 Hkp6.out.lt
    have hg7 := Hg6.out.later hb7
    have hrow7 : RowI w7 w7.heap.size ga4 l4 := (Hrow6.out.below hb7).mono hb7.size
    have hbw7 := belw Hbw6.out hb7
    have g0 := kp7.cell 0
    have g1 := kp7.cell 1
    have g2 := kp7.cell 2
    have g3 := kp7.cell 3
    have g4 := kp7.cell 4
    simp only [List.getElem?_cons_zero, List.getElem?_cons_succ] at g0 g1 g2 g3 g4
    have hnc := (nodes_calls w7 G gn gt gp cn ct cp hg7 ga4 ca4 l4 hrow7 (by omega)).mono (R' := fun e w' => e = .returned (.int .i64 (-1)) ∧ Below w7.heap.size w7 w') (fun e w' ⟨v, he, _, hy, hbb⟩ => by
      have : v = -1 := (hy Hrt.out).uniq Hv5.out
      subst this
      exact ⟨he, hbb⟩)
    unfold gramV at hnc
    have Hnc := hid hnc
    have Hbw7 := hid hbw7
    clear hnc hbw7 kp7 hg7 hrow7 hb7 q0 q1 q2 q3 q4
    go_wp2_with (go_at_call 26; refine Hnc.out.mono ?_; rintro e w8 ⟨rfl, hb8⟩)
    go_ret
    exact ⟨rfl, belw Hbw7.out hb8⟩
end Go.Proofs.Ytbpgolmbielpgaa
