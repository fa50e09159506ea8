/- Chapter 14 (tree): TreeReplays: walk. -/
import Derived.Test.YtaehooafdbaomaaLaw14a
import Derived.Test.YtaehooafdbaomaaRefRep
import Derived.Test.YtaehooafdbaomaaNum14
import Derived.Test.YtaehooafdbaomaaCopyMin
import Derived.Test.YtaehooafdbaomaaMade14
import Derived.Test.YtaehooafdbaomaaLawArr
namespace Go.Proofs.Ytaehooafdbaomaa
open Go.RowKit
attribute [local go_sem ↓] Go.wp_at_zero Go.wp_at_succ
attribute [local go_sem] frozen_alloc_lt add_zero

theorem Tr.repF_len (G : Gr) (h16 : ∀ x ∈ G.prods, x.2.length ≤ 16) : ∀ (l now : List Int), now.length ≤ 65537 → (Tr.repF G l now).2.length ≤ 65537
  | [], now, h => h
  | x :: l, now, h => by
    unfold Tr.repF
    split
    · simp
    · split
      · simp
      · split
        · simp
        · rename_i h1 h2 h3
          split
          · simp
          · rename_i h4
            apply Tr.repF_len G h16 l
            rcases idxS_spec ntB now 0 with ⟨f1, _⟩ | ⟨k, f1, f2, _⟩
            · omega
            · rw [f2, Int.zero_add, Int.toNat_natCast]
              simp only [List.length_append, List.length_take, List.length_drop]
              omega
theorem Tr.repS_len (G : Gr) (h16 : ∀ x ∈ G.prods, x.2.length ≤ 16) (frm : Int) (l : List Int) : (Tr.repS G frm l).2.length ≤ 65537 := by
  unfold Tr.repS
  split
  · simp
  · exact Tr.repF_len G h16 l _ (by simp)
set_option maxHeartbeats 8000000 in
set_option maxRecDepth 8000 in
theorem replays_calls (x : RawD) (v : Value) (frm : Int) (zs : List Int) (v1 : Value) (w : World) (hx : RawAt w x v) (hz : IntsV w zs v1) : Calls Try.prog 3 #[v, .int .i64 frm, v1] w fun e w' => e = .returned (.bool true) ∧ Below w.heap.size w w' := by
  obtain ⟨gl, gr, cl, cr, rfl, hl, hr, hl1, hr1, hr2⟩ := hx
  obtain ⟨gc, cc, rfl, hc, hc1, hc2, hnil⟩ := hz
  have hk0 := Bk.new w 25 [.int .i64 x.n, .int .i64 x.t, .int .i64 x.start, .slice gl x.left.length cl, .slice gr x.right.length cr]
  have hb0 : Below w.heap.size w (w.alloc (.cells #[.int .i64 x.n, .int .i64 x.t, .int .i64 x.start, .slice gl x.left.length cl, .slice gr x.right.length cr] 25)) := (Below.refl _ w).alloc (Nat.le_refl _) _
  go_enter Try.func3, Try.ntmps3
  go_upto_region 1 with fail
  obtain ⟨wa, hwa⟩ : ∃ wa, wa = (w.alloc (.cells #[.int .i64 x.n, .int .i64 x.t, .int .i64 x.start, .slice gl x.left.length cl, .slice gr x.right.length cr] 25)) := ⟨_, rfl⟩
  rw [← hwa] at hk0 hb0 ⊢
  clear hwa
  go_upto_region 3 with (go_at_call 15; refine (speaks14_calls _).mono ?_; rintro e w1 ⟨rfl, hb1⟩)
  have hk1 := hk0.below hb1 hk0.lt
  have hbw1 : Below w.heap.size w w1 := hb0.trans (hb1.mono hb0.size)
  have hl2 : RowI w1 w1.heap.size gl x.left := (hl.below hbw1).mono hbw1.size
  have hrr2 : RowII w1 w1.heap.size gr x.right := (hr.below hbw1).mono hbw1.size
  have hc2' : RowI w1 w1.heap.size gc zs := (hc.below hbw1).mono hbw1.size
  have c0 := hk1.cell 0
  have c1 := hk1.cell 1
  have c2 := hk1.cell 2
  have c3 := hk1.cell 3
  have c4 := hk1.cell 4
  simp only [List.getElem?_cons_zero, List.getElem?_cons_succ] at c0 c1 c2 c3 c4
  clear hk0 hb0 hb1 hl hr hc
  go_upto_region 4 with (go_at_call 16; refine (made14_calls x gl gr cl cr _ hl2 hrr2 hl1 hr1 hr2).mono ?_; rintro e w2 ⟨N, T, hN1, hN8, hT3, gn, gt, gp, gn', gt', gp', cn, ct, cp, cn', ct', cp', rfl, hg, hg', hb2⟩; unfold gramV)
  obtain ⟨G, hG⟩ : ∃ G, G = Mk.gram N T 14 4 x := ⟨_, rfl⟩
  have hsd : Pl.soundB G = true := by rw [hG]; exact Mk.gram_sound x hN1 (by omega) (by omega) (by omega) (by omega)
  have hsn := sndG hsd
  rw [← hG] at hg hg' ⊢
  have Hsd := hid hsd
  have hbw2 : Below w.heap.size w w2 := hbw1.trans (hb2.mono hbw1.size)
  have hc3 : RowI w2 w2.heap.size gc zs := (hc2'.below hb2).mono hb2.size
  have Hsn := hid hsn
  clear hG hsd hN1 hT3 hl2 hrr2 hl1 hr1 hr2 c0 c1 c2 c3 c4 hk1 hbw1 hb2 hc2' hsn
  have hb3 : Below w2.heap.size w2 ((w2.alloc (.cells #[.int .i64 G.start, .int .i64 G.rules, .slice gn G.names.length cn, .slice gt G.terms.length ct, .slice gp G.prods.length cp] 30)).alloc (.cells #[.int .i64 G.start, .int .i64 G.rules, .slice gn' G.names.length cn', .slice gt' G.terms.length ct', .slice gp' G.prods.length cp'] 33)) := bel_al (bel_al (bel_id w2) _) _
  have kp1 := (Bk.new w2 30 [.int .i64 G.start, .int .i64 G.rules, .slice gn G.names.length cn, .slice gt G.terms.length ct, .slice gp G.prods.length cp]).alloc (.cells #[.int .i64 G.start, .int .i64 G.rules, .slice gn' G.names.length cn', .slice gt' G.terms.length ct', .slice gp' G.prods.length cp'] 33)
  have kq1 := bk_at (Bk.new (w2.alloc (.cells #[.int .i64 G.start, .int .i64 G.rules, .slice gn G.names.length cn, .slice gt G.terms.length ct, .slice gp G.prods.length cp] 30)) 33 [.int .i64 G.start, .int .i64 G.rules, .slice gn' G.names.length cn', .slice gt' G.terms.length ct', .slice gp' G.prods.length cp']) (show _ = w2.heap.size + 1 by simp)
  obtain ⟨w3, hw3⟩ : ∃ w3, w3 = ((w2.alloc (.cells #[.int .i64 G.start, .int .i64 G.rules, .slice gn G.names.length cn, .slice gt G.terms.length ct, .slice gp G.prods.length cp] 30)).alloc (.cells #[.int .i64 G.start, .int .i64 G.rules, .slice gn' G.names.length cn', .slice gt' G.terms.length ct', .slice gp' G.prods.length cp'] 33)) := ⟨_, rfl⟩
  obtain ⟨bp, hbp⟩ : ∃ bp, bp = w2.heap.size := ⟨_, rfl⟩
  obtain ⟨bq, hbq⟩ : ∃ bq, bq = bp + 1 := ⟨_, rfl⟩
  rw [← hw3] at kp1 kq1 hb3 ⊢
  rw [← hbp] at kp1 kq1 ⊢
  rw [← hbq] at kq1 ⊢
  have hg3 := hg.later hb3
  have hg3' := hg'.later hb3
  have hc4 : RowI w3 w3.heap.size gc zs := (hc3.below hb3).mono hb3.size
  have hbw3 := belw hbw2 hb3
  obtain ⟨r, hr⟩ : ∃ r, r = min zs.length 30 := ⟨_, rfl⟩
  have hrl : (zs.take r).length = r := by rw [List.length_take]; omega
  have hr30 : r ≤ 30 := by omega
  have hm0 : min (zs.length : Int) 30 = (r : Int) := by omega
  have hm1 : (if (30 : Int) < (zs.length : Int) then (30 : Int) else (zs.length : Int)) = (r : Int) := by split <;> omega
  have hm2 : (if 30 < zs.length then (30 : Int) else (zs.length : Int)) = (r : Int) := by split <;> omega
  obtain ⟨ys, hys⟩ : ∃ ys, ys = zs.take r := ⟨_, rfl⟩
  have hry := rowI_takeM hc4 r
  rw [← hys] at hry hrl
  obtain ⟨gv, cv, w4, hrun, hrow4, -, -, hb4⟩ := copy_ints hry cc (by omega)
  rw [hrl] at hrun
  have kp4 := kp1.below hb4 kp1.lt
  have kq4 := kq1.below hb4 kq1.lt
  have Kp4 := hid kp4
  have Kq4 := hid kq4
  have p0 := kp4.cell 0
  have p1 := kp4.cell 1
  have p2 := kp4.cell 2
  have p3 := kp4.cell 3
  have p4 := kp4.cell 4
  simp only [List.getElem?_cons_zero, List.getElem?_cons_succ] at p0 p1 p2 p3 p4
  have hrep := replay_calls w4 G gn gt gp cn ct cp (hg3.later hb4) frm ys gv cv (by omega) hrow4
  have hrrep : ∀ W, Below w4.heap.size w4 W → _ := fun W hW => rreplay_calls W G gn' gt' gp' cn' ct' cp' ((hg3'.later hb4).later hW) frm ys gv cv (by omega) ((hrow4.below hW).mono hW.size)
  rw [hrl] at hrep
  simp only [hrl] at hrrep
  have hlen := Tr.repS_len G Hsn.out.r16 frm ys
  obtain ⟨res, hres⟩ : ∃ res, res = Tr.repS G frm ys := ⟨_, rfl⟩
  rw [← hres] at hrep hrrep hlen
  have Hrep := hid hrep
  have Hrrep := hid hrrep
  have Hb4 := hid (belw hbw3 hb4)
  have Hlen := hid hlen
  have hz0 : ((r : Int)) ≤ 30 := by omega
  have hz1 : (0 : Int) ≤ (r : Int) := by omega
  have hz2 : (r : Int) ≤ (cc : Int) := by omega
  clear hw3 hbp hbq hg hg' hc3 hb3 hbw2 hg3 hg3' hc4 hbw3 hr hrl hr30 hry hys hrow4 kp1 kq1 kp4 kq4 hrep hrrep hres hlen hc1 hc2
  go_cut [2] from 20 to 26 (fun v2 wy => v2 = .slice gv r cv ∧ wy = w4)
  case first =>
    rcases gc with _ | ⟨gb, go, gs⟩
    · obtain rfl : cc = 0 := hnil rfl
      clear hnil
      go_wp2_with (at_builtin; refine wpList_append_run rfl _ _ _ rfl (.slice (some ⟨w3.heap.size, 0, none⟩) 0 0) _ (.slice gv r cv) w4 (by rfl) (by rfl) (by exact hrun) ?_)
      go_meet
      exact ⟨rfl, rfl⟩
    · clear hnil
      by_cases hcc : cc = 0
      · subst hcc
        go_wp2_with (at_builtin; refine wpList_append_run rfl _ _ _ rfl (.slice (some ⟨w3.heap.size, 0, none⟩) 0 0) _ (.slice gv r cv) w4 (by rfl) (by rfl) (by exact hrun) ?_)
        go_meet
        exact ⟨rfl, rfl⟩
      · go_wp2_with (at_builtin; refine wpList_append_run rfl _ _ _ rfl (.slice (some ⟨w3.heap.size, 0, none⟩) 0 0) _ (.slice gv r cv) w4 (by rfl) (by rfl) (by exact hrun) ?_)
        go_meet
        exact ⟨rfl, rfl⟩
  case rest =>
  obtain ⟨rfl, rfl⟩ := hcut
  have hcc : ((res.1 : Int) == (res.1 : Int)) = true := by simp
  go_wp2_with (first
    | (go_at_call 17; refine Hrep.out.mono ?_; rintro e w5 ⟨ga5, ca5, rfl, hrow5, hb5⟩; have kq5 := Kq4.out.below hb5 Kq4.out.lt; have q0 := kq5.cell 0; have q1 := kq5.cell 1; have q2 := kq5.cell 2; have q3 := kq5.cell 3; have q4 := kq5.cell 4; simp only [List.getElem?_cons_zero, List.getElem?_cons_succ] at q0 q1 q2 q3 q4; have Hrow5 := hid hrow5; have Hr5 := hid (Hrrep.out _ hb5); have Hb5 := hid hb5; clear hrow5 hb5 kq5 p0 p1 p2 p3 p4)
    | (go_at_call 18; refine (Hid.out Hr5).mono ?_; rintro e w6 ⟨ga6, ca6, rfl, hrow6, hb6⟩; have Hnum := hid (numbers_same w6 ga5 ga6 ca5 ca6 res.2 (((Hid.out Hrow5).below hb6).mono hb6.size) hrow6 (by have := Hlen.out; omega)); have Hb6 := hid hb6; clear hrow6 hb6 q0 q1 q2 q3 q4)
    | (go_at_call 19; refine (Hid.out Hnum).mono ?_; rintro e w7 ⟨rfl, hb7⟩))
  go_ret
  exact ⟨rfl, belw Hb4.out (belw Hb5.out (belw Hb6.out hb7))⟩
end Go.Proofs.Ytaehooafdbaomaa
