/- Chapter 10 (lang): LangDerives: walk. -/
import Derived.Test.YtaehooafdbaomaaLaw10a
import Derived.Test.YtaehooafdbaomaaMade10
import Derived.Test.YtaehooafdbaomaaDer2
import Derived.Test.YtaehooafdbaomaaLawArr
namespace Go.Proofs.Ytaehooafdbaomaa
open Go.RowKit
attribute [local go_sem ↓] Go.wp_at_zero Go.wp_at_succ
attribute [local go_sem] frozen_alloc_lt

def LdAt (w0 : World) (t : Nat) (rs : List Int) (k : Nat) (v : Value) (w : World) : Prop := ∃ i : Nat, v = .int .i64 i ∧ i ≤ rs.length ∧ (∀ j z, j < i → rs[j]? = some z → badW t z = false) ∧ k = rs.length - i ∧ Below w0.heap.size w0 w
theorem row_take10 {w : World} {B : Nat} {ga : Option Addr} {zs : List Int} (h : RowI w B ga zs) (k : Nat) : RowI w B ga (zs.take k) := fun i hi => by
  have hi2 : i < zs.length := by rw [List.length_take] at hi; omega
  obtain ⟨g, o, h1, h2, h3⟩ := h.at hi2
  refine ⟨g, o, .int .i64 zs[i], h1, h2, h3, ?_⟩
  simp [List.getD, List.getElem?_eq_getElem hi, List.getElem_take]
theorem ints_row10 {w : World} {D : Nat → Prop} {ga : Option Addr} {zs : List Int} {B : Nat} (h : CellsD w D ga (zs.map (Value.int .i64)).length fun i u => (zs.map (Value.int .i64))[i]? = some u) (hD : ∀ k, D k → k < B) : RowI w B ga zs := fun i hi => by
  obtain ⟨g, off, u, h1, h2, h3, h4⟩ := h i (by simpa using hi)
  refine ⟨g, off, u, h1, hD g h2, h3, ?_⟩
  rw [List.getElem?_map, List.getElem?_eq_getElem hi] at h4
  injection h4 with h4
  rw [← h4]
  simp [List.getD, List.getElem?_eq_getElem hi]
set_option maxHeartbeats 8000000 in
set_option maxRecDepth 8000 in
theorem lderives10_calls (x : RawD) (v : Value) (zs : List Int) (v1 : Value) (w : World) (hx : RawAt w x v) (hz : IntsV w zs v1) : Calls Try.prog 11 #[v, v1] w fun e w' => e = .returned (.bool true) ∧ Below w.heap.size w w' := by
  obtain ⟨gl, gr, cl, cr, rfl, hl, hr, hl1, hr1, hr2⟩ := hx
  obtain ⟨gc, cc, rfl, hc, hc1, hc2, hc3n⟩ := hz
  have hk0 := Bk.new w 87 [.int .i64 x.n, .int .i64 x.t, .int .i64 x.start, .slice gl x.left.length cl, .slice gr x.right.length cr]
  have hb0 : Below w.heap.size w (w.alloc (.cells #[.int .i64 x.n, .int .i64 x.t, .int .i64 x.start, .slice gl x.left.length cl, .slice gr x.right.length cr] 87)) := (Below.refl _ w).alloc (Nat.le_refl _) _
  go_enter Try.func11, Try.ntmps11
  go_upto_region 1 with fail
  obtain ⟨wa, hwa⟩ : ∃ wa, wa = (w.alloc (.cells #[.int .i64 x.n, .int .i64 x.t, .int .i64 x.start, .slice gl x.left.length cl, .slice gr x.right.length cr] 87)) := ⟨_, rfl⟩
  rw [← hwa] at hk0 hb0 ⊢
  clear hwa
  go_upto_region 3 with (go_at_call 51; refine (speaks10_calls _).mono ?_; rintro e w1 ⟨rfl, hb1⟩)
  have hk1 := hk0.below hb1 hk0.lt
  have hbw1 : Below w.heap.size w w1 := hb0.trans (hb1.mono hb0.size)
  have hl2 : RowI w1 w1.heap.size gl x.left := (hl.below hbw1).mono hbw1.size
  have hrr2 : RowII w1 w1.heap.size gr x.right := (hr.below hbw1).mono hbw1.size
  have hc2' : RowI w1 w1.heap.size gc zs := (hc.below hbw1).mono hbw1.size
  have c0 := hk1.cell 0
  have c1 := hk1.cell 1
  have c2 := hk1.cell 2
  have c3 := hk1.cell 3
  have c4 := hk1.cell 4
  simp only [List.getElem?_cons_zero, List.getElem?_cons_succ] at c0 c1 c2 c3 c4
  clear hk0 hb0 hb1 hl hr hc
  go_upto_region 4 with (go_at_call 52; refine (made10_calls x gl gr cl cr _ hl2 hrr2 hl1 hr1 hr2).mono ?_; rintro e w2 ⟨N, T, hN1, hN8, hT3, gn, gt, gp, gn', gt', gp', cn, ct, cp, cn', ct', cp', rfl, hg, hg', -, hb2⟩; unfold gramV)
  obtain ⟨G, hG⟩ : ∃ G, G = Mk.gram N T 14 4 x := ⟨_, rfl⟩
  have hsd : Pl.soundB G = true := by rw [hG]; exact Mk.gram_sound x hN1 (by omega) (by omega) (by omega) (by omega)
  have hsn := sndG hsd
  have hnl : G.names.length = N := by rw [hG]; exact Mk.letters_length 65 N
  rw [← hG] at hg hg' ⊢
  have ht256 := hsn.t1
  have Hsd := hid hsd
  have hbw2 : Below w.heap.size w w2 := hbw1.trans (hb2.mono hbw1.size)
  have hc3 : RowI w2 w2.heap.size gc zs := (hc2'.below hb2).mono hb2.size
  clear hG hsd hsn hnl hN1 hT3 hl2 hrr2 hl1 hr1 hr2 c0 c1 c2 c3 c4 hk1 hbw1 hb2 hc2'
  have hb3 : Below w2.heap.size w2 ((w2.alloc (.cells #[.int .i64 G.start, .int .i64 G.rules, .slice gn G.names.length cn, .slice gt G.terms.length ct, .slice gp G.prods.length cp] 30)).alloc (.cells #[.int .i64 G.start, .int .i64 G.rules, .slice gn' G.names.length cn', .slice gt' G.terms.length ct', .slice gp' G.prods.length cp'] 33)) := bel_al (bel_al (bel_id w2) _) _
  have kp1 := (Bk.new w2 30 [.int .i64 G.start, .int .i64 G.rules, .slice gn G.names.length cn, .slice gt G.terms.length ct, .slice gp G.prods.length cp]).alloc (.cells #[.int .i64 G.start, .int .i64 G.rules, .slice gn' G.names.length cn', .slice gt' G.terms.length ct', .slice gp' G.prods.length cp'] 33)
  have kq1 := bk_at (Bk.new (w2.alloc (.cells #[.int .i64 G.start, .int .i64 G.rules, .slice gn G.names.length cn, .slice gt G.terms.length ct, .slice gp G.prods.length cp] 30)) 33 [.int .i64 G.start, .int .i64 G.rules, .slice gn' G.names.length cn', .slice gt' G.terms.length ct', .slice gp' G.prods.length cp']) (show _ = w2.heap.size + 1 by simp)
  obtain ⟨w3, hw3⟩ : ∃ w3, w3 = ((w2.alloc (.cells #[.int .i64 G.start, .int .i64 G.rules, .slice gn G.names.length cn, .slice gt G.terms.length ct, .slice gp G.prods.length cp] 30)).alloc (.cells #[.int .i64 G.start, .int .i64 G.rules, .slice gn' G.names.length cn', .slice gt' G.terms.length ct', .slice gp' G.prods.length cp'] 33)) := ⟨_, rfl⟩
  obtain ⟨bp, hbp⟩ : ∃ bp, bp = w2.heap.size := ⟨_, rfl⟩
  obtain ⟨bq, hbq⟩ : ∃ bq, bq = bp + 1 := ⟨_, rfl⟩
  rw [← hw3] at kp1 kq1 hb3 ⊢
  rw [← hbp] at kp1 kq1 ⊢
  rw [← hbq] at kq1 ⊢
  have hg3 := hg.later hb3
  have hg3' := hg'.later hb3
  have hc4 : RowI w3 w3.heap.size gc zs := (hc3.below hb3).mono hb3.size
  have hbw3 := belw hbw2 hb3
  have q3 := kq1.cell 3
  simp only [List.getElem?_cons_zero, List.getElem?_cons_succ] at q3
  clear hw3 hbp hbq hg hg' hc3 hb3 hbw2
  obtain ⟨i3, hi3, z0, z1, z2⟩ := info_parts intInfo
  obtain ⟨rs, hrs⟩ : ∃ rs, rs = zs.take 7 := ⟨_, rfl⟩
  have hrow4 : RowI w3 w3.heap.size gc rs := by rw [hrs]; exact row_take10 hc4 7
  have hrl : rs.length = min zs.length 7 := by rw [hrs, List.length_take, Nat.min_comm]
  have hr7 : rs.length ≤ 7 := by omega
  have hrz : rs.length ≤ zs.length := by omega
  have hmin : min (zs.length : Int) 7 = (rs.length : Int) := by omega
  have hmin2 : (if (7 : Int) < (zs.length : Int) then (7 : Int) else (zs.length : Int)) = (rs.length : Int) := by split <;> omega
  have hmin3 : (if 7 < zs.length then (7 : Int) else (zs.length : Int)) = (rs.length : Int) := by split <;> omega
  have hcs1 := (ints_cells hrow4).kp (S := fun _ => False) ((Kp.refl _ w3).alloc (.cells #[] 3)) (fun _ _ h => h) (fun _ _ _ h => h)
  obtain ⟨gv, capv, w5, hrun, hk5, hcd⟩ := run_append_fresh (P := Try.prog) (w3.alloc (.cells #[] 3)) 22 22 3 i3 _ Try.underlying22 hi3 z0 z1 (by rw [z2]; omega) rfl ⟨w3.heap.size, 0, none⟩ _ gc cc (rs.map (Value.int .i64)) hcs1 (fun u hu => by
    obtain ⟨z, _, rfl⟩ := List.mem_map.1 hu
    rfl) (by rw [List.length_map]; omega)
  rw [List.length_map] at hrun
  have hal5 : Kp (fun _ => False) w3 (w3.alloc (.cells #[] 3)) := (Kp.refl _ w3).alloc _
  have hb5 : Below w3.heap.size w3 w5 := (hal5.trans hk5).to_below (Nat.le_refl _) (fun k e => e.elim)
  have hrow5 : RowI w5 w5.heap.size gv rs := ints_row10 hcd (fun k hk => hk.1)
  have kp5 := kp1.below hb5 kp1.lt
  have kq5 := kq1.below hb5 kq1.lt
  have hg5 := hg3.later hb5
  have hg5' := hg3'.later hb5
  have hbw5 := belw hbw3 hb5
  have H5 := hid (And.intro hrow5 (And.intro kp5 (And.intro kq5 (And.intro hg5 (And.intro hg5' (And.intro hbw5 hr7))))))
  clear hrow5 kp5 kq5 hg5 hg5' hbw5 hb5 hal5 hcd hk5 hcs1 hrl hrow4 hg3 hg3' kp1 kq1 hbw3 q3 hc4 hrs hr7 z0 z1 z2 hi3
  have hcc : rs.length ≤ cc := by omega
  go_cut [1] from 15 to 21 (fun v1 wx => wx = w5 ∧ v1 = .slice gv rs.length capv)
  case first =>
    cases gc with
    | none =>
      obtain rfl : cc = 0 := hc3n rfl
      obtain rfl : zs = [] := List.eq_nil_of_length_eq_zero (by omega)
      obtain rfl : rs = [] := List.eq_nil_of_length_eq_zero (by omega)
      go_upto_region 5 with (at_builtin; refine wpList_append_run rfl _ _ _ rfl (.slice (some ⟨w3.heap.size, 0, none⟩) 0 0) (.slice none 0 0) (.slice gv 0 capv) w5 (by rfl) (by rfl) (by exact hrun) ?_)
      go_meet
      case rel => exact ⟨rfl, rfl⟩
    | some ad =>
      go_upto_region 5 with (at_builtin; refine wpList_append_run rfl _ _ _ rfl (.slice (some ⟨w3.heap.size, 0, none⟩) 0 0) (.slice (some ad) rs.length cc) (.slice gv rs.length capv) w5 (by rfl) (by rfl) (by exact hrun) ?_)
      go_meet
      case rel => exact ⟨rfl, rfl⟩
  case rest =>
    obtain ⟨hwc, rfl⟩ := hcut
    rw [hwc]
    clear hwc hrun hcc hmin hmin2 hmin3 hrz hc1 hc2 hc3n
    go_wp2_with fail
    go_loopg [7] rs.length (fun k v7 wr => LdAt w5 G.terms.length rs k v7 wr)
    case atStart => exact ⟨0, rfl, Nat.zero_le _, fun j z hj => by omega, rfl, Below.refl _ _⟩
    case round =>
      obtain ⟨i, rfl, hi, hall, hk, hb⟩ := hrel
      have Hi := hid (And.intro hall (And.intro hk hb))
      have kpr := H5.out.2.1.below hb H5.out.2.1.lt
      have kqr := H5.out.2.2.1.below hb H5.out.2.2.1.lt
      have hrr := (H5.out.1.below hb).mono hb.size
      have q3 := kqr.cell 3
      simp only [List.getElem?_cons_zero, List.getElem?_cons_succ] at q3
      by_cases hlt : i < rs.length
      · have hlt' : (i : Int) < (rs.length : Int) := by omega
        have hi0 : (0 : Int) ≤ (i : Int) := by omega
        obtain ⟨z, hz⟩ : ∃ z, z = rs[i] := ⟨_, rfl⟩
        obtain ⟨g1, o1, rfl, hg1, hcz⟩ := hrr.at hlt
        rw [← hz] at hcz
        have hzi : rs[i]? = some z := by rw [hz]; exact List.getElem?_eq_getElem hlt
        have Hlt := hid (And.intro hlt hzi)
        have hgr := H5.out.2.2.2.1.later hb
        have hbwr := belw H5.out.2.2.2.2.2.1 hb
        have hr7 := H5.out.2.2.2.2.2.2
        have g0 := kpr.cell 0
        have g1' := kpr.cell 1
        have g2 := kpr.cell 2
        have g3 := kpr.cell 3
        have g4 := kpr.cell 4
        simp only [List.getElem?_cons_zero, List.getElem?_cons_succ] at g0 g1' g2 g3 g4
        have hbad : badW G.terms.length z = true → rs.any (badW G.terms.length) = true := fun h => List.any_eq_true.2 ⟨z, List.mem_of_getElem? hzi, h⟩
        have hdb := fun (hz : badW G.terms.length z = true) (q : Nat) => lderives_bad (wr.drewN q) G gn gt gp cn ct cp (hgr.later (below_drewN (Below.refl _ _) q)) Hsd.out (some ⟨g1, o1, none⟩) capv rs (hrr) (by omega) (hbad hz)
        unfold gramV at hdb
        have Hdb := hid hdb
        have Hbwr := hid hbwr
        clear hdb hbad hgr hbwr hrr kpr kqr hall hk hb hz hg1 hi
        by_cases c1 : z < 0
        · have hb1 : badW G.terms.length z = true := by simp [badW, c1]
          have Hb1 := hid hb1
          clear hb1 hlt hzi
          go_upto_region 8 with fail
          go_region
          go_wp2_with (go_at_call 56; refine (Hdb.out Hb1.out 1).mono ?_; rintro e w6 ⟨rfl, hb6⟩)
          go_ret
          exact ⟨rfl, belw (belw Hbwr.out (below_drewN (Below.refl _ _) 1)) hb6⟩
        · by_cases c2 : (G.terms.length : Int) ≤ z
          · have hb1 : badW G.terms.length z = true := by simp [badW, c2]
            have Hb1 := hid hb1
            clear hb1 hlt hzi
            go_upto_region 8 with fail
            go_region
            go_wp2_with (go_at_call 56; refine (Hdb.out Hb1.out 1).mono ?_; rintro e w6 ⟨rfl, hb6⟩)
            go_ret
            exact ⟨rfl, belw (belw Hbwr.out (below_drewN (Below.refl _ _) 1)) hb6⟩
          · have hb1 : badW G.terms.length z = false := by simp [badW]; omega
            have Hb1 := hid hb1
            clear hb1 hlt hzi
            go_upto_region 8 with fail
            go_region
            go_wp2_with fail
            go_roundg (rs.length - (i + 1))
            case measure => have := Hi.out.2.1; have := Hlt.out.1; omega
            case rel =>
              refine ⟨i + 1, by go_num, Hlt.out.1, fun j z' hj hz' => ?_, rfl, Hi.out.2.2.drew⟩
              rcases Nat.lt_or_ge j i with h | h
              · exact Hi.out.1 j z' h hz'
              · obtain rfl : j = i := by omega
                rw [Hlt.out.2] at hz'
                cases hz'
                exact Hb1.out
      · have hge : ¬ (i : Int) < (rs.length : Int) := by omega
        have hany : rs.any (badW G.terms.length) = false := by
          rw [List.any_eq_false]
          intro z hzm
          obtain ⟨j, hj⟩ := List.getElem?_of_mem hzm
          have hjl := (List.getElem?_eq_some_iff.1 hj).1
          simp [hall j z (by omega) hj]
        have hgr := H5.out.2.2.2.1.later hb
        have hgr' := H5.out.2.2.2.2.1.later hb
        have hr7 := H5.out.2.2.2.2.2.2
        have hd1 := fun W (hW : Below wr.heap.size wr W) => lderives_calls W G gn gt gp cn ct cp (hgr.later hW) Hsd.out gv capv rs ((hrr.below hW).mono hW.size) (by omega) hany
        have hd2 := fun W (hW : Below wr.heap.size wr W) => derives_calls W G gn' gt' gp' cn' ct' cp' (hgr'.later hW) Hsd.out gv capv rs ((hrr.below hW).mono hW.size) (by omega)
        unfold gramV at hd1
        have Hd1 := hid hd1
        have Hd2 := hid hd2
        have hbwr := belw H5.out.2.2.2.2.2.1 hb
        have Hbwr := hid hbwr
        have Kqr := hid kqr
        have hS : ∀ W, Below wr.heap.size wr W → (W.cell? ⟨bp, 0, none⟩ = some (.int .i64 G.start) ∧ W.cell? ⟨bp, 1, none⟩ = some (.int .i64 G.rules) ∧ W.cell? ⟨bp, 2, none⟩ = some (.slice gn G.names.length cn) ∧ W.cell? ⟨bp, 3, none⟩ = some (.slice gt G.terms.length ct) ∧ W.cell? ⟨bp, 4, none⟩ = some (.slice gp G.prods.length cp) ∧ W.cell? ⟨bq, 0, none⟩ = some (.int .i64 G.start) ∧ W.cell? ⟨bq, 1, none⟩ = some (.int .i64 G.rules) ∧ W.cell? ⟨bq, 2, none⟩ = some (.slice gn' G.names.length cn') ∧ W.cell? ⟨bq, 3, none⟩ = some (.slice gt' G.terms.length ct') ∧ W.cell? ⟨bq, 4, none⟩ = some (.slice gp' G.prods.length cp') ∧ Hid (Below wr.heap.size wr W)) := fun W hW => by
          have k1 := kpr.below hW kpr.lt
          have k2 := kqr.below hW kqr.lt
          exact ⟨k1.cell 0, k1.cell 1, k1.cell 2, k1.cell 3, k1.cell 4, k2.cell 0, k2.cell 1, k2.cell 2, k2.cell 3, k2.cell 4, hid hW⟩
        have HS := hid hS
        obtain ⟨a0, a1, a2, a3, a4, a5, a6, a7, a8, a9, Hw0⟩ := hS wr.drew (below_drewN (Below.refl _ _) 1)
        clear hd1 hd2 hbwr hgr hgr' hany hall hk hb hi hlt kpr kqr hrr hS q3
        go_upto_region 10 with fail
        go_region_held3 (fun W => W.cell? ⟨bp, 0, none⟩ = some (.int .i64 G.start) ∧ W.cell? ⟨bp, 1, none⟩ = some (.int .i64 G.rules) ∧ W.cell? ⟨bp, 2, none⟩ = some (.slice gn G.names.length cn) ∧ W.cell? ⟨bp, 3, none⟩ = some (.slice gt G.terms.length ct) ∧ W.cell? ⟨bp, 4, none⟩ = some (.slice gp G.prods.length cp) ∧ W.cell? ⟨bq, 0, none⟩ = some (.int .i64 G.start) ∧ W.cell? ⟨bq, 1, none⟩ = some (.int .i64 G.rules) ∧ W.cell? ⟨bq, 2, none⟩ = some (.slice gn' G.names.length cn') ∧ W.cell? ⟨bq, 3, none⟩ = some (.slice gt' G.terms.length ct') ∧ W.cell? ⟨bq, 4, none⟩ = some (.slice gp' G.prods.length cp') ∧ Hid (Below wr.heap.size wr W))
          (first | exact ⟨‹_›, ‹_›, ‹_›, ‹_›, ‹_›, ‹_›, ‹_›, ‹_›, ‹_›, ‹_›, ‹_›⟩)
          (first
            | (go_at_call 46; refine (Hd2.out _ Hw6.out).mono ?_; rintro e w7 ⟨b2, rfl, h2, hb7⟩; obtain ⟨d0, d1, d2, d3, d4, d5, d6, d7, d8, d9, Hw7⟩ := HS.out w7 (belw Hw6.out hb7))
            | (go_at_call 56; refine (Hd1.out _ Hw0.out).mono ?_; rintro e w6 ⟨b1, rfl, h1, hb6⟩; obtain ⟨c0, c1, c2, c3, c4, c5, c6, c7, c8, c9, Hw6⟩ := HS.out w6 (belw Hw0.out hb6)))
        go_wp2_with fail
        go_ret
        have hbb : b1 = b2 := by rw [Bool.eq_iff_iff, h1, h2]
        subst hbb
        exact ⟨by simp, belw Hbwr.out Hw7.out⟩
end Go.Proofs.Ytaehooafdbaomaa
