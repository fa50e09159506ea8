/- Chapter 10 (lang): LangWords: walk. -/
import Derived.Test.YtaehooafdbaomaaLaw10a
import Derived.Test.YtaehooafdbaomaaMade10
import Derived.Test.YtaehooafdbaomaaLawWords
import Derived.Test.YtaehooafdbaomaaLangFit
import Derived.Test.YtaehooafdbaomaaLawAny
namespace Go.Proofs.Ytaehooafdbaomaa
open Go.RowKit
attribute [local go_sem ↓] Go.wp_at_zero Go.wp_at_succ
attribute [local go_sem] frozen_alloc_lt

/-- The loop: below k. -/
def LwAt (w0 : World) (M : Nat) (k : Nat) (v : Value) (w : World) : Prop := ∃ i : Nat, v = .int .i64 i ∧ i ≤ M ∧ k = M - i ∧ Below w0.heap.size w0 w
set_option maxHeartbeats 8000000 in
set_option maxRecDepth 8000 in
theorem lwords10_calls (x : RawD) (v : Value) (a : Int) (w : World) (hx : RawAt w x v) : Calls Try.prog 10 #[v, .int .i64 a] w fun e w' => e = .returned (.bool true) ∧ Below w.heap.size w w' := by
  obtain ⟨gl, gr, cl, cr, rfl, hl, hr, hl1, hr1, hr2⟩ := hx
  have hk0 := Bk.new w 87 [.int .i64 x.n, .int .i64 x.t, .int .i64 x.start, .slice gl x.left.length cl, .slice gr x.right.length cr]
  have hb0 : Below w.heap.size w (w.alloc (.cells #[.int .i64 x.n, .int .i64 x.t, .int .i64 x.start, .slice gl x.left.length cl, .slice gr x.right.length cr] 87)) := (Below.refl _ w).alloc (Nat.le_refl _) _
  go_enter Try.func10, Try.ntmps10
  go_upto_region 1 with fail
  obtain ⟨wa, hwa⟩ : ∃ wa, wa = (w.alloc (.cells #[.int .i64 x.n, .int .i64 x.t, .int .i64 x.start, .slice gl x.left.length cl, .slice gr x.right.length cr] 87)) := ⟨_, rfl⟩
  rw [← hwa] at hk0 hb0 ⊢
  clear hwa
  go_upto_region 3 with (go_at_call 51; refine (speaks10_calls _).mono ?_; rintro e w1 ⟨rfl, hb1⟩)
  have hk1 := hk0.below hb1 hk0.lt
  have hbw1 : Below w.heap.size w w1 := hb0.trans (hb1.mono hb0.size)
  have hl2 : RowI w1 w1.heap.size gl x.left := (hl.below hbw1).mono hbw1.size
  have hrr2 : RowII w1 w1.heap.size gr x.right := (hr.below hbw1).mono hbw1.size
  have c0 := hk1.cell 0
  have c1 := hk1.cell 1
  have c2 := hk1.cell 2
  have c3 := hk1.cell 3
  have c4 := hk1.cell 4
  simp only [List.getElem?_cons_zero, List.getElem?_cons_succ] at c0 c1 c2 c3 c4
  clear hk0 hb0 hb1 hl hr
  go_upto_region 4 with (go_at_call 52; refine (made10_calls x gl gr cl cr _ hl2 hrr2 hl1 hr1 hr2).mono ?_; rintro e w2 ⟨N, T, hN1, hN8, hT3, gn, gt, gp, gn', gt', gp', cn, ct, cp, cn', ct', cp', rfl, hg, hg', hcp, hb2⟩; unfold gramV)
  obtain ⟨G, hG⟩ : ∃ G, G = Mk.gram N T 14 4 x := ⟨_, rfl⟩
  have hsd : Pl.soundB G = true := by rw [hG]; exact Mk.gram_sound x hN1 (by omega) (by omega) (by omega) (by omega)
  have hsn := sndG hsd
  have htl : G.terms.length = T := by rw [hG]; exact Mk.letters_length 97 T
  rw [← hG] at hg hg' hcp ⊢
  have Hsd := hid hsd
  have hbw2 : Below w.heap.size w w2 := hbw1.trans (hb2.mono hbw1.size)
  have Ht := hid (show G.terms.length ≤ 3 by omega)
  clear hG hsd hsn hN1 hT3 htl hl2 hrr2 hl1 hr1 hr2 c0 c1 c2 c3 c4 hk1 hbw1 hb2
  have hb3 : Below w2.heap.size w2 ((w2.alloc (.cells #[.int .i64 G.start, .int .i64 G.rules, .slice gn G.names.length cn, .slice gt G.terms.length ct, .slice gp G.prods.length cp] 30)).alloc (.cells #[.int .i64 G.start, .int .i64 G.rules, .slice gn' G.names.length cn', .slice gt' G.terms.length ct', .slice gp' G.prods.length cp'] 33)) := bel_al (bel_al (bel_id w2) _) _
  have kp1 := (Bk.new w2 30 [.int .i64 G.start, .int .i64 G.rules, .slice gn G.names.length cn, .slice gt G.terms.length ct, .slice gp G.prods.length cp]).alloc (.cells #[.int .i64 G.start, .int .i64 G.rules, .slice gn' G.names.length cn', .slice gt' G.terms.length ct', .slice gp' G.prods.length cp'] 33)
  have kq1 := bk_at (Bk.new (w2.alloc (.cells #[.int .i64 G.start, .int .i64 G.rules, .slice gn G.names.length cn, .slice gt G.terms.length ct, .slice gp G.prods.length cp] 30)) 33 [.int .i64 G.start, .int .i64 G.rules, .slice gn' G.names.length cn', .slice gt' G.terms.length ct', .slice gp' G.prods.length cp']) (show _ = w2.heap.size + 1 by simp)
  obtain ⟨w3, hw3⟩ : ∃ w3, w3 = ((w2.alloc (.cells #[.int .i64 G.start, .int .i64 G.rules, .slice gn G.names.length cn, .slice gt G.terms.length ct, .slice gp G.prods.length cp] 30)).alloc (.cells #[.int .i64 G.start, .int .i64 G.rules, .slice gn' G.names.length cn', .slice gt' G.terms.length ct', .slice gp' G.prods.length cp'] 33)) := ⟨_, rfl⟩
  obtain ⟨bp, hbp⟩ : ∃ bp, bp = w2.heap.size := ⟨_, rfl⟩
  obtain ⟨bq, hbq⟩ : ∃ bq, bq = bp + 1 := ⟨_, rfl⟩
  rw [← hw3] at kp1 kq1 hb3 ⊢
  rw [← hbp] at kp1 kq1 ⊢
  rw [← hbq] at kq1 ⊢
  have hg3 := hg.later hb3
  have hg3' := hg'.later hb3
  have hcp3 := hcp.later hb3
  have hbw3 := belw hbw2 hb3
  clear hw3 hbp hbq hg hg' hcp hb3 hbw2
  obtain ⟨most, hm3, hand⟩ := and3 a
  obtain ⟨L, hL⟩ : ∃ L, L = wordsB G.terms.length (derB G) (most + 1) := ⟨_, rfl⟩
  have hLn : L.length ≤ 121 := by rw [hL]; exact wordsB_few Ht.out (by omega) _
  have hLz : ∀ z ∈ L, z.length ≤ 3 := fun z hz => by
    rw [hL] at hz
    have := ((wordsB_mem (by have := Ht.out; omega) _ _ z).1 hz).2.1
    omega
  have hw1 := words_small w3 G gn gt gp cn ct cp most (by omega) Ht.out Hsd.out hg3 hcp3
  have hw2 := fun W (hW : Below w3.heap.size w3 W) => rwords_small W G gn' gt' gp' cn' ct' cp' (hg3'.later hW) Hsd.out most (by omega) Ht.out
  rw [← hL] at hw1
  simp only [← hL] at hw2
  obtain ⟨M, hM⟩ : ∃ M, M = L.length := ⟨_, rfl⟩
  rw [← hM] at hw1
  simp only [← hM] at hw2
  have hMI : (M : Int) ≤ 121 := by omega
  have Hw1 := hid hw1
  have Hw2 := hid hw2
  have HL := hid (And.intro hLz hM)
  have Kq := hid kq1
  have Hbw3 := hid hbw3
  have p0 := kp1.cell 0
  have p1 := kp1.cell 1
  have p2 := kp1.cell 2
  have p3 := kp1.cell 3
  have p4 := kp1.cell 4
  simp only [List.getElem?_cons_zero, List.getElem?_cons_succ] at p0 p1 p2 p3 p4
  clear hw1 hw2 hL hLn hLz hM kp1 kq1 hbw3 hg3 hg3' hcp3 hm3
  go_upto_region 6 with (go_at_call 53; refine Hw1.out.mono ?_; rintro e w5 ⟨g5, c5, rfl, ho5, hb5⟩)
  have kq5 := Kq.out.below hb5 Kq.out.lt
  have q0 := kq5.cell 0
  have q1 := kq5.cell 1
  have q2 := kq5.cell 2
  have q3 := kq5.cell 3
  have q4 := kq5.cell 4
  simp only [List.getElem?_cons_zero, List.getElem?_cons_succ] at q0 q1 q2 q3 q4
  have Ho5 := hid ho5
  have Hb5 := hid hb5
  have H2 := hid (Hw2.out w5 hb5)
  clear kq5 ho5 hb5 p0 p1 p2 p3 p4
  go_upto_region 7 with (go_at_call 54; refine H2.out.mono ?_; rintro e w6 ⟨g6, c6, rfl, ho6, hb6⟩)
  have Ho6 := hid ho6
  have Hb6 := hid hb6
  have hne : ((M : Int) != (M : Int)) = false := by simp
  clear ho6 hb6 q0 q1 q2 q3 q4
  go_wp2_with fail
  go_loopg [10] M (fun k v10 wr => LwAt w6 M k v10 wr)
  case atStart => exact ⟨0, rfl, Nat.zero_le _, rfl, Below.refl _ _⟩
  case round =>
    obtain ⟨i, rfl, hi, hk, hb⟩ := hrel
    have Hk := hid hk
    by_cases hlt : i < M
    · have hlt' : (i : Int) < (M : Int) := by omega
      have hi0 : (0 : Int) ≤ (i : Int) := by omega
      obtain ⟨z, hz⟩ : ∃ z, L[i]? = some z := ⟨_, List.getElem?_eq_getElem (by rw [← HL.out.2]; exact hlt)⟩
      have hzl := HL.out.1 z (List.mem_of_getElem? hz)
      obtain ⟨ga, gx, cx, rfl, hga, hcx, hrx⟩ := wd_at Ho5.out (Hb6.out.trans (hb.mono Hb6.out.size)) hz
      obtain ⟨gb, gy, cy, rfl, hgb, hcy, hry⟩ := wd_at Ho6.out hb hz
      have hal := alike_calls wr.drew gx gy cx cy (toI z) (toI z) hrx hry (by rw [toI_len]; omega) (by rw [toI_len]; omega)
      rw [toI_len, decide_eq_true rfl] at hal
      obtain ⟨lz, hlz⟩ : ∃ lz, lz = z.length := ⟨_, rfl⟩
      rw [← hlz] at hal hcx hcy
      have hS : ∀ W, Below wr.heap.size wr W → (W.cell? ⟨ga, i, none⟩ = some (.slice gx lz cx) ∧ W.cell? ⟨gb, i, none⟩ = some (.slice gy lz cy) ∧ Hid (Below wr.heap.size wr W)) := fun W hW =>
        ⟨(hW.cell (p := ⟨ga, i, none⟩) (by have := hb.size; have := Hb6.out.size; show ga < _; omega)).trans hcx, (hW.cell (p := ⟨gb, i, none⟩) (by have := hb.size; show gb < _; omega)).trans hcy, hid hW⟩
      have HS := hid hS
      obtain ⟨a0, a1, Hw0⟩ := hS wr.drew (below_drewN (Below.refl _ _) 1)
      have Hal := hid hal
      have Hlt := hid hlt
      have Hb := hid hb
      clear hk hi hz hzl hga hcx hrx hgb hcy hry hal hlz hS hlt hb
      go_upto_region 12 with fail
      go_region_held3 (fun W => W.cell? ⟨ga, i, none⟩ = some (.slice gx lz cx) ∧ W.cell? ⟨gb, i, none⟩ = some (.slice gy lz cy) ∧ Hid (Below wr.heap.size wr W))
        (first | exact ⟨‹_›, ‹_›, ‹_›⟩)
        (first
          | (go_at_call 55; refine Hal.out.mono ?_; rintro e w7 ⟨rfl, hb7⟩; obtain ⟨d0, d1, Hw7⟩ := HS.out w7 (belw Hw0.out hb7)))
      go_wp2_with fail
      go_roundg (M - (i + 1))
      case measure => have := Hk.out; have := Hlt.out; omega
      case rel => exact ⟨i + 1, by go_num, Hlt.out, rfl, belw Hb.out Hw7.out⟩
    · have hge : ¬ (i : Int) < (M : Int) := by omega
      have Hb := hid hb
      clear hk hi hlt hb
      go_wp2_with fail
      go_ret
      exact ⟨rfl, belw Hbw3.out (belw Hb5.out (belw Hb6.out Hb.out))⟩
end Go.Proofs.Ytaehooafdbaomaa
