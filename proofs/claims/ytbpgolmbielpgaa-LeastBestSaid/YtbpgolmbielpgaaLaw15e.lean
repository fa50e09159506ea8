/- Chapter 15 (least): LeastBest: walk. -/
import Derived.Test.YtbpgolmbielpgaaLaw15b
import Derived.Test.YtbpgolmbielpgaaMade15
import Derived.Test.YtbpgolmbielpgaaTreeLaw
import Derived.Test.YtbpgolmbielpgaaLawArr
namespace Go.Proofs.Ytbpgolmbielpgaa
open Go.RowKit
attribute [local go_sem ↓] Go.wp_at_zero Go.wp_at_succ
attribute [local go_sem] frozen_alloc_lt

/-- A tree that is there is no better than the least one. -/
theorem best_law {G : Gr} {p : Int} {kids : Fo} (hs : Pl.soundB G = true) (hd : Fo.Dv G.prods (.cons p kids .nil) [G.start]) (hn : kids.nodes ≤ 976) (hl : (Fo.yieldT p kids).length ≤ 12) :
    Le.rightB G (Fo.yieldT p kids) = true ∧ ∀ (w : World) (e : Ending) (w' : World), TreeSaid w G (Fo.yieldT p kids) e w' → ∃ (q : Int) (k : Fo) (gk : Option Addr) (ck : Nat), e = .returned (.tuple #[.agg #[.int .i64 q, .slice gk k.len ck], .int .i64 0]) ∧ FoAt w' (fun k => w.heap.size ≤ k ∧ k < w'.heap.size) gk k 0 ∧ k.nodes ≤ kids.nodes ∧ (k.nodes < kids.nodes ∨ q ≤ p) ∧ Below w.heap.size w w' := by
  have Hs := sndG hs
  have hy : (Fo.cons p kids .nil).yield = Fo.yieldT p kids := by rw [Fo.yield_cons]; simp [Fo.yield]
  have hfit := Fo.Dv.fits (t := (G.terms.length : Int)) (by have := Hs.t1; omega) (fun x hx s hs => Hs.r0 x hx s hs) hd (fun s hs => by simp at hs; subst hs; have := Hs.s0; omega)
  rw [hy] at hfit
  have hr : Le.rightB G (Fo.yieldT p kids) = true := by
    unfold Le.rightB
    rw [hs, decide_eq_true (show (Fo.yieldT p kids).length ≤ 64 by omega)]
    simp only [Bool.true_and, Bool.not_eq_true', List.any_eq_false]
    intro y hyy
    obtain ⟨h1, h2⟩ := hfit.2 y hyy
    unfold Le.badT
    simp
    omega
  refine ⟨hr, ?_⟩
  rintro w e w' ⟨q, k, gk, ck, er, rfl, hat, -, hyes, hb⟩
  obtain ⟨v, hv, hc⟩ := hyes hr
  have hof := hd.of [] []
  simp only [List.nil_append, List.append_nil, List.length_nil, Nat.zero_add, hy] at hof
  have hvn : 0 ≤ v ∧ v ≤ 1 + kids.nodes := by
    rcases hv with ⟨_, h⟩ | ⟨h0, f, hf, e, hm⟩
    · exact absurd hof (h _)
    · have h2 := hm _ hof
      simp only [Fo.nodes] at h2
      omega
  rcases hc with ⟨h1, _⟩ | ⟨h1, _⟩ | ⟨_, _, rfl, h3, h4, h5⟩
  · omega
  · omega
  · refine ⟨q, k, gk, ck, rfl, hat, by omega, ?_, hb⟩
    by_cases hlt : k.nodes < kids.nodes
    · exact .inl hlt
    · exact .inr (h5 p kids hof (by omega))

set_option maxHeartbeats 8000000 in
set_option maxRecDepth 8000 in
theorem best_calls (x : RawD) (v : Value) (zs : List Int) (v1 : Value) (w : World) (hx : RawAt w x v) (hz : IntsV w zs v1) : Calls Try.prog 9 #[v, v1] w fun e w' => e = .returned (.bool true) ∧ Below w.heap.size w w' := by
  obtain ⟨gl, gr, cl, cr, rfl, hl, hr, hl1, hr1, hr2⟩ := hx
  obtain ⟨gc, cc, rfl, hc, hc1, hc2, -⟩ := hz
  have hk0 := Bk.new w 68 [.int .i64 x.n, .int .i64 x.t, .int .i64 x.start, .slice gl x.left.length cl, .slice gr x.right.length cr]
  have hb0 : Below w.heap.size w (w.alloc (.cells #[.int .i64 x.n, .int .i64 x.t, .int .i64 x.start, .slice gl x.left.length cl, .slice gr x.right.length cr] 68)) := (Below.refl _ w).alloc (Nat.le_refl _) _
  go_enter Try.func9, Try.ntmps9
  go_upto_region 1 with fail
  obtain ⟨wa, hwa⟩ : ∃ wa, wa = (w.alloc (.cells #[.int .i64 x.n, .int .i64 x.t, .int .i64 x.start, .slice gl x.left.length cl, .slice gr x.right.length cr] 68)) := ⟨_, rfl⟩
  rw [← hwa] at hk0 hb0 ⊢
  clear hwa
  go_upto_region 3 with (go_at_call 23; refine (speaks15_calls _).mono ?_; rintro e w1 ⟨rfl, hb1⟩)
  have hk1 := hk0.below hb1 hk0.lt
  have hbw1 : Below w.heap.size w w1 := hb0.trans (hb1.mono hb0.size)
  have hl2 : RowI w1 w1.heap.size gl x.left := (hl.below hbw1).mono hbw1.size
  have hrr2 : RowII w1 w1.heap.size gr x.right := (hr.below hbw1).mono hbw1.size
  have hc2' : RowI w1 w1.heap.size gc zs := (hc.below hbw1).mono hbw1.size
  have c0 := hk1.cell 0
  have c1 := hk1.cell 1
  have c2 := hk1.cell 2
  have c3 := hk1.cell 3
  have c4 := hk1.cell 4
  simp only [List.getElem?_cons_zero, List.getElem?_cons_succ] at c0 c1 c2 c3 c4
  clear hk0 hb0 hb1 hl hr hc
  go_upto_region 4 with (go_at_call 36; refine (made15_calls x gl gr cl cr _ hl2 hrr2 hl1 hr1 hr2).mono ?_; rintro e w2 ⟨N, T, hN1, hN8, hT3, gn, gt, gp, gn', gt', gp', cn, ct, cp, cn', ct', cp', rfl, hg, hg', hb2⟩; unfold gramV)
  obtain ⟨G, hG⟩ : ∃ G, G = Mk.gram N T 12 4 x := ⟨_, rfl⟩
  have hsd : Pl.soundB G = true := by rw [hG]; exact Mk.gram_sound x hN1 hN8 (by omega) (by omega) (by omega)
  rw [← hG] at hg hg' ⊢
  clear hG hN1 hN8 hT3 hl2 hrr2 hl1 hr1 hr2 c0 c1 c2 c3 c4 hk1
  have Hsd := hid hsd
  clear hsd
  have hbw2 : Below w.heap.size w w2 := hbw1.trans (hb2.mono hbw1.size)
  have hc3 : RowI w2 w2.heap.size gc zs := (hc2'.below hb2).mono hb2.size
  have hb3 : Below w2.heap.size w2 (((w2.alloc (.cells #[.int .i64 G.start, .int .i64 G.rules, .slice gn G.names.length cn, .slice gt G.terms.length ct, .slice gp G.prods.length cp] 41)).alloc (.cells #[.int .i64 G.start, .int .i64 G.rules, .slice gn' G.names.length cn', .slice gt' G.terms.length ct', .slice gp' G.prods.length cp'] 57)).alloc (.cells #[.int .i64 0] 3)) := bel_al (bel_al (bel_al (bel_id w2) _) _) _
  have kp1 := ((Bk.new w2 41 [.int .i64 G.start, .int .i64 G.rules, .slice gn G.names.length cn, .slice gt G.terms.length ct, .slice gp G.prods.length cp]).alloc (.cells #[.int .i64 G.start, .int .i64 G.rules, .slice gn' G.names.length cn', .slice gt' G.terms.length ct', .slice gp' G.prods.length cp'] 57)).alloc (.cells #[.int .i64 0] 3)
  have kq1 := (bk_at (Bk.new (w2.alloc (.cells #[.int .i64 G.start, .int .i64 G.rules, .slice gn G.names.length cn, .slice gt G.terms.length ct, .slice gp G.prods.length cp] 41)) 57 [.int .i64 G.start, .int .i64 G.rules, .slice gn' G.names.length cn', .slice gt' G.terms.length ct', .slice gp' G.prods.length cp']) (show _ = w2.heap.size + 1 by simp)).alloc (.cells #[.int .i64 0] 3)
  have ka1 := bk_at (Bk.new ((w2.alloc (.cells #[.int .i64 G.start, .int .i64 G.rules, .slice gn G.names.length cn, .slice gt G.terms.length ct, .slice gp G.prods.length cp] 41)).alloc (.cells #[.int .i64 G.start, .int .i64 G.rules, .slice gn' G.names.length cn', .slice gt' G.terms.length ct', .slice gp' G.prods.length cp'] 57)) 3 [.int .i64 0]) (show _ = w2.heap.size + 1 + 1 by simp)
  go_upto_region 5 with fail
  obtain ⟨w3, hw3⟩ : ∃ w3, w3 = (((w2.alloc (.cells #[.int .i64 G.start, .int .i64 G.rules, .slice gn G.names.length cn, .slice gt G.terms.length ct, .slice gp G.prods.length cp] 41)).alloc (.cells #[.int .i64 G.start, .int .i64 G.rules, .slice gn' G.names.length cn', .slice gt' G.terms.length ct', .slice gp' G.prods.length cp'] 57)).alloc (.cells #[.int .i64 0] 3)) := ⟨_, rfl⟩
  obtain ⟨bp, hbp⟩ : ∃ bp, bp = w2.heap.size := ⟨_, rfl⟩
  obtain ⟨bq, hbq⟩ : ∃ bq, bq = bp + 1 := ⟨_, rfl⟩
  obtain ⟨ba, hba⟩ : ∃ ba, ba = bq + 1 := ⟨_, rfl⟩
  rw [← hw3, ← hbp] at kp1 kq1 ka1 hb3
  rw [← hbq] at kq1 ka1
  rw [← hba] at ka1
  rw [← hw3, ← hbp, ← hbq, ← hba]
  have hsn := sndG Hsd.out
  have hin : GrIn w3 bp ba G.prods gp' gc zs 0 := ⟨by rw [hbp]; exact hg'.p.below (by rw [← hbp]; exact hb3), by rw [hbp]; exact hc3.below (by rw [← hbp]; exact hb3), by omega, ka1, by have := hsn.p1; omega, hsn.r16, Nat.le_trans hc1 hc2⟩
  have Hb3 := hid hb3
  have Hg := hid hg
  have Hin := hid hin
  have Kp1 := hid kp1
  have Hbw2 := hid hbw2
  have Hbp := hid hbp
  have q0 := kq1.cell 0
  have q1 := kq1.cell 1
  have q2 := kq1.cell 2
  have q3 := kq1.cell 3
  have q4 := kq1.cell 4
  simp only [List.getElem?_cons_zero, List.getElem?_cons_succ] at q0 q1 q2 q3 q4
  have hcall := grown_calls (B := bp) (ba := ba) (ps := G.prods) (gp := gp') (gc := gc) (ch := zs) (v0 := .int .i64 G.start) (v1 := .int .i64 G.rules) (v2 := .slice gn' G.names.length cn') (v3 := .slice gt' G.terms.length ct') (cp := cp') (cc := cc) 61 w3 0 G.start hin (by omega) rfl
  have Hcall := hid hcall
  have hbpa : ¬ bp = ba := by omega
  have hba' : bp ≤ ba := by omega
  clear hw3 hbp hbq hba kp1 kq1 ka1 hb3 hg hg' hin hcall hbw1 hbw2 hc3 hc2' hb2 hsn hc1 hc2
  go_upto_region 6 with (go_at_call 37; refine Hcall.out.mono ?_; rintro e w5 ⟨p5, k5, gk5, ck5, ok5, a5, rfl, hat5, hba5, -, ha52, hkp5, hok5⟩)
  have hk8 := Bk.new w5 45 [.int .i64 p5, .slice gk5 k5.len ck5]
  have hal6 : Below w5.heap.size w5 (w5.alloc (.cells #[.int .i64 p5, .slice gk5 k5.len ck5] 45)) := bel_al (bel_id w5) _
  obtain ⟨w6, hw6⟩ : ∃ w6, w6 = w5.alloc (.cells #[.int .i64 p5, .slice gk5 k5.len ck5] 45) := ⟨_, rfl⟩
  obtain ⟨b8, hb8⟩ : ∃ b8, b8 = w5.heap.size := ⟨_, rfl⟩
  rw [← hw6] at hk8 hal6 ⊢
  rw [← hb8] at hk8 ⊢
  have hat6 := (hat5.below hal6 (fun k hk => hk.2)).mono (D' := fun k => k < w6.heap.size) (fun k hk => Nat.lt_of_lt_of_le hk.2 hal6.size)
  have hb35 : Below bp w3 w5 := hkp5.to_below (by have := Hin.out.a.lt; omega) (fun k e => by omega)
  have hg6 : GIn w6 G gn gt gp := (Hg.out.later (by rw [← Hbp.out]; exact Hb3.out.trans hb35)).later hal6
  have hbw5 : Below w.heap.size w w5 := Hbw2.out.trans ((Hb3.out.trans hb35).mono (by rw [Hbp.out]; exact Hbw2.out.size))
  have hbw6 : Below w.heap.size w w6 := belw hbw5 hal6
  have hkp6 := (Kp1.out.kp hkp5 hbpa).below hal6 (Kp1.out.kp hkp5 hbpa).lt
  have e0 := hk8.cell 0
  have e1 := hk8.cell 1
  simp only [List.getElem?_cons_zero, List.getElem?_cons_succ] at e0 e1
  have Hat6 := hid hat6
  have Hg6 := hid hg6
  have Hbw6 := hid hbw6
  have Hkp6 := hid hkp6
  have Hk8 := hid hk8
  have Hok5 := hid hok5
  clear hw6 hb8 hat6 hb35 hg6 hbw5 hbw6 hkp6 hal6 hat5 hba5 hkp5 hok5 hk8 q0 q1 q2 q3 q4
  cases ok5 with
  | false =>
    go_wp2_with fail
    go_ret
    exact ⟨rfl, Hbw6.out⟩
  | true =>
    obtain ⟨hdv, hnd⟩ := Hok5.out rfl
    have hsn := sndG Hsd.out
    have hfit := Fo.Dv.fits (t := (G.terms.length : Int)) (by have := hsn.t1; omega) (fun x hx s hs => hsn.r0 x hx s hs) hdv (fun s hs => by simp at hs; subst hs; have := hsn.s0; omega)
    obtain ⟨⟨hfp, hfk, -⟩, -⟩ := hfit
    have hn976 : k5.nodes ≤ 976 := by omega
    have hyc := yield_calls _ p5 k5 w6 gk5 ck5 rfl (by omega) hfp hfk Hat6.out
    have hbest := fun hl => best_law Hsd.out hdv hn976 hl
    have hyl := Fo.yieldT_le p5 k5
    obtain ⟨ys, hys⟩ : ∃ ys, ys = Fo.yieldT p5 k5 := ⟨_, rfl⟩
    rw [← hys] at hyc hbest hyl
    have Hyc := hid hyc
    have Hbest := hid hbest
    have Hn976 := hid hn976
    clear hdv hnd hsn hfp hfk hyc hbest hys hn976
    go_upto_region 9 with (go_at_call 38; refine Hyc.out.mono ?_; rintro e w7 ⟨ga7, cap7, rfl, hrow7, hb7⟩)
    have hyl2 : ys.length ≤ 977 := by have := Hn976.out; omega
    have hk87 := Hk8.out.below hb7 Hk8.out.lt
    have hkp7 := Hkp6.out.below hb7 Hkp6.out.lt
    have hat7 := (Hat6.out.below hb7 (fun _ h => h)).mono (D' := fun k => k < w7.heap.size) (fun k hk => Nat.lt_of_lt_of_le hk hb7.size)
    have hg7 := Hg6.out.later hb7
    have hbw7 := belw Hbw6.out hb7
    have hrow8 : RowI w7 w7.heap.size ga7 ys := fun i hi => by
      obtain ⟨g, o, u, h1, h2, h3, h4⟩ := hrow7 i hi
      exact ⟨g, o, u, h1, h2.2, h3, h4⟩
    have Hk87 := hid hk87
    have Hkp7 := hid hkp7
    have Hat7 := hid hat7
    have Hg7 := hid hg7
    have Hbw7 := hid hbw7
    have Hrow8 := hid hrow8
    clear hk87 hkp7 hat7 hg7 hbw7 hrow8 hrow7 hb7 e0 e1
    by_cases hlong : 12 < ys.length
    · have hlb : decide (12 < (ys.length : Int)) = true := by simp; omega
      have hlb2 : decide (12 < ys.length) = true := by simp; omega
      go_wp2_with fail
      go_ret
      exact ⟨rfl, Hbw7.out⟩
    · have hlb : decide (12 < (ys.length : Int)) = false := by simp; omega
      have hlb2 : decide (12 < ys.length) = false := by simp; omega
      obtain ⟨hrt, hb⟩ := Hbest.out (by omega)
      have htc := (ltree_calls w7 G gn gt gp cn ct cp Hg7.out ga7 cap7 ys Hrow8.out (by omega)).mono (fun e w' h => hb w7 e w' h)
      unfold gramV at htc
      have Htc := hid htc
      have g0 := Hkp7.out.cell 0
      have g1 := Hkp7.out.cell 1
      have g2 := Hkp7.out.cell 2
      have g3 := Hkp7.out.cell 3
      have g4 := Hkp7.out.cell 4
      simp only [List.getElem?_cons_zero, List.getElem?_cons_succ] at g0 g1 g2 g3 g4
      clear hrt hb htc
      go_upto_region 12 with (go_at_call 25; refine Htc.out.mono ?_; rintro e w8 ⟨q8, k8, gk8, ck8, rfl, hat8, hle8, hor8, hb8'⟩)
      have hk11 := Bk.new w8 45 [.int .i64 q8, .slice gk8 k8.len ck8]
      have hal9 : Below w8.heap.size w8 (w8.alloc (.cells #[.int .i64 q8, .slice gk8 k8.len ck8] 45)) := bel_al (bel_id w8) _
      obtain ⟨w9, hw9⟩ : ∃ w9, w9 = w8.alloc (.cells #[.int .i64 q8, .slice gk8 k8.len ck8] 45) := ⟨_, rfl⟩
      obtain ⟨b11, hb11⟩ : ∃ b11, b11 = w8.heap.size := ⟨_, rfl⟩
      rw [← hw9] at hk11 hal9 ⊢
      rw [← hb11] at hk11 ⊢
      have hb79 := belw hb8' hal9
      have hk89 := Hk87.out.below hb79 Hk87.out.lt
      have hat9 := (Hat7.out.below hb79 (fun _ h => h)).mono (D' := fun k => k < w9.heap.size) (fun k hk => Nat.lt_of_lt_of_le hk hb79.size)
      have hat9' := (hat8.below hal9 (fun k hk => hk.2)).mono (D' := fun k => k < w9.heap.size) (fun k hk => Nat.lt_of_lt_of_le hk.2 hal9.size)
      have hbw9 := belw Hbw7.out hb79
      have e0 := hk89.cell 0
      have e1 := hk89.cell 1
      have x0 := hk11.cell 0
      have x1 := hk11.cell 1
      simp only [List.getElem?_cons_zero, List.getElem?_cons_succ] at e0 e1 x0 x1
      have hs1 := size_calls _ p5 k5 w9 gk5 ck5 rfl (by have := Hn976.out; omega) hat9
      obtain ⟨n1, hn1⟩ : ∃ n1, n1 = 1 + k5.nodes := ⟨_, rfl⟩
      obtain ⟨m1, hm1⟩ : ∃ m1, m1 = 1 + k8.nodes := ⟨_, rfl⟩
      have hs2 : ∀ wy, Below w9.heap.size w9 wy → Calls Try.prog 35 #[.agg #[.int .i64 q8, .slice gk8 k8.len ck8]] wy (SizeSaid m1 (k8.deep + 1) wy) := fun wy hy => by
        rw [hm1]
        exact size_calls _ q8 k8 wy gk8 ck8 rfl (by have := Hn976.out; omega) ((hat9'.below hy (fun _ h => h)).mono (fun k hk => Nat.lt_of_lt_of_le hk hy.size))
      rw [← hn1] at hs1
      have hle : m1 ≤ n1 := by omega
      have hle' : (m1 : Int) ≤ (n1 : Int) := by omega
      have hor : m1 < n1 ∨ q8 ≤ p5 := by rcases hor8 with h | h <;> omega
      have Hs1 := hid hs1
      have Hs2 := hid hs2
      have Hbw9 := hid hbw9
      have Hk89 := hid hk89
      have Hk11 := hid hk11
      clear hw9 hb11 hb79 hat9 hat9' hbw9 hs1 hs2 hn1 hm1 hle8 hor8 hb8' hat8 hal9 hk89 hk11 g0 g1 g2 g3 g4
      by_cases hlt : m1 < n1
      · have hlt' : (m1 : Int) < (n1 : Int) := by omega
        clear hor
        go_wp2_with (first
          | (go_at_call 35; refine (Hs2.out _ Hb10.out).mono ?_; rintro e w11 ⟨rfl, hb11⟩; have Hb11 := hid hb11; clear hb11)
          | (go_at_call 35; refine Hs1.out.mono ?_; rintro e w10 ⟨rfl, hb10⟩; have Hb10 := hid hb10; obtain ⟨hc10, hf10⟩ := bcellT hb10; have hl10 := Hk89.out.lt; have hl11 := Hk11.out.lt; clear hb10))
        go_ret
        exact ⟨rfl, belw Hbw9.out (belw Hb10.out Hb11.out)⟩
      · have hlt' : ¬ (m1 : Int) < (n1 : Int) := by omega
        have hqp : q8 ≤ p5 := by rcases hor with h | h <;> omega
        clear hor
        go_wp2_with (first
          | (go_at_call 35; refine (Hs2.out _ Hb10.out).mono ?_; rintro e w11 ⟨rfl, hb11⟩; have Hb11 := hid hb11; obtain ⟨hc11, hf11⟩ := bcellT hb11; have hl12 := (Hk89.out.below Hb10.out Hk89.out.lt).lt; have hl13 := (Hk11.out.below Hb10.out Hk11.out.lt).lt; clear hb11)
          | (go_at_call 35; refine Hs1.out.mono ?_; rintro e w10 ⟨rfl, hb10⟩; have Hb10 := hid hb10; obtain ⟨hc10, hf10⟩ := bcellT hb10; have hl10 := Hk89.out.lt; have hl11 := Hk11.out.lt; clear hb10))
        go_ret
        exact ⟨rfl, belw Hbw9.out (belw Hb10.out Hb11.out)⟩
end Go.Proofs.Ytbpgolmbielpgaa
