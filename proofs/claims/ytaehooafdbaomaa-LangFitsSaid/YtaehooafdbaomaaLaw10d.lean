/- Chapter 10 (lang): LangFits: walk. Printed by gen/mk10d.py. -/
import Derived.Test.YtaehooafdbaomaaLaw10c
import Derived.Test.YtaehooafdbaomaaLangFit
import Derived.Test.YtaehooafdbaomaaShoGen
namespace Go.Proofs.Ytaehooafdbaomaa
open Go.RowKit
attribute [local go_sem ↓] Go.wp_at_zero Go.wp_at_succ
attribute [local go_sem] frozen_alloc_lt

def LfAt (w0 : World) (i0 M : Nat) (k : Nat) (v : Value) (w : World) : Prop := ∃ i : Nat, v = .int .i64 i ∧ i0 ≤ i ∧ i ≤ M ∧ k = M - i ∧ Below w0.heap.size w0 w
set_option maxHeartbeats 16000000 in
set_option maxRecDepth 8000 in
theorem lfits10_calls (x : RawD) (v : Value) (a : Int) (w : World) (hx : RawAt w x v) : Calls Try.prog 12 #[v, .int .i64 a] w fun e w' => e = .returned (.bool true) ∧ Below w.heap.size w w' := by
  obtain ⟨gl, gr, cl, cr, rfl, hl, hr, hl1, hr1, hr2⟩ := hx
  have hk0 := Bk.new w 87 [.int .i64 x.n, .int .i64 x.t, .int .i64 x.start, .slice gl x.left.length cl, .slice gr x.right.length cr]
  have hb0 : Below w.heap.size w (w.alloc (.cells #[.int .i64 x.n, .int .i64 x.t, .int .i64 x.start, .slice gl x.left.length cl, .slice gr x.right.length cr] 87)) := (Below.refl _ w).alloc (Nat.le_refl _) _
  go_enter Try.func12, Try.ntmps12
  go_upto_region 1 with fail
  obtain ⟨wa, hwa⟩ : ∃ wa, wa = (w.alloc (.cells #[.int .i64 x.n, .int .i64 x.t, .int .i64 x.start, .slice gl x.left.length cl, .slice gr x.right.length cr] 87)) := ⟨_, rfl⟩
  rw [← hwa] at hk0 hb0 ⊢
  clear hwa
  go_upto_region 3 with (go_at_call 51; refine (speaks10_calls _).mono ?_; rintro e w1 ⟨rfl, hb1⟩)
  have hk1 := hk0.below hb1 hk0.lt
  have hbw1 : Below w.heap.size w w1 := hb0.trans (hb1.mono hb0.size)
  have hl2 : RowI w1 w1.heap.size gl x.left := (hl.below hbw1).mono hbw1.size
  have hrr2 : RowII w1 w1.heap.size gr x.right := (hr.below hbw1).mono hbw1.size
  have c0 := hk1.cell 0
  have c1 := hk1.cell 1
  have c2 := hk1.cell 2
  have c3 := hk1.cell 3
  have c4 := hk1.cell 4
  simp only [List.getElem?_cons_zero, List.getElem?_cons_succ] at c0 c1 c2 c3 c4
  clear hk0 hb0 hb1 hl hr
  go_upto_region 4 with (go_at_call 52; refine (made10_calls x gl gr cl cr _ hl2 hrr2 hl1 hr1 hr2).mono ?_; rintro e w2 ⟨N, T, hN1, hN8, hT3, gn, gt, gp, gn', gt', gp', cn, ct, cp, cn', ct', cp', rfl, hg, hg', hcp, hb2⟩; unfold gramV)
  obtain ⟨G, hG⟩ : ∃ G, G = Mk.gram N T 14 4 x := ⟨_, rfl⟩
  have hsd : Pl.soundB G = true := by rw [hG]; exact Mk.gram_sound x hN1 (by omega) (by omega) (by omega) (by omega)
  have hsn := sndG hsd
  have htl : G.terms.length = T := by rw [hG]; exact Mk.letters_length 97 T
  rw [← hG] at hg hg' hcp ⊢
  have Hsd := hid hsd
  have hbw2 : Below w.heap.size w w2 := hbw1.trans (hb2.mono hbw1.size)
  have Ht := hid (show G.terms.length ≤ 3 by omega)
  clear hG hsd hsn hN1 hT3 htl hl2 hrr2 hl1 hr1 hr2 c0 c1 c2 c3 c4 hk1 hbw1 hb2
  have hb3 : Below w2.heap.size w2 ((w2.alloc (.cells #[.int .i64 G.start, .int .i64 G.rules, .slice gn G.names.length cn, .slice gt G.terms.length ct, .slice gp G.prods.length cp] 30)).alloc (.cells #[.int .i64 G.start, .int .i64 G.rules, .slice gn' G.names.length cn', .slice gt' G.terms.length ct', .slice gp' G.prods.length cp'] 33)) := bel_al (bel_al (bel_id w2) _) _
  have kp1 := (Bk.new w2 30 [.int .i64 G.start, .int .i64 G.rules, .slice gn G.names.length cn, .slice gt G.terms.length ct, .slice gp G.prods.length cp]).alloc (.cells #[.int .i64 G.start, .int .i64 G.rules, .slice gn' G.names.length cn', .slice gt' G.terms.length ct', .slice gp' G.prods.length cp'] 33)
  have kq1 := bk_at (Bk.new (w2.alloc (.cells #[.int .i64 G.start, .int .i64 G.rules, .slice gn G.names.length cn, .slice gt G.terms.length ct, .slice gp G.prods.length cp] 30)) 33 [.int .i64 G.start, .int .i64 G.rules, .slice gn' G.names.length cn', .slice gt' G.terms.length ct', .slice gp' G.prods.length cp']) (show _ = w2.heap.size + 1 by simp)
  obtain ⟨w3, hw3⟩ : ∃ w3, w3 = ((w2.alloc (.cells #[.int .i64 G.start, .int .i64 G.rules, .slice gn G.names.length cn, .slice gt G.terms.length ct, .slice gp G.prods.length cp] 30)).alloc (.cells #[.int .i64 G.start, .int .i64 G.rules, .slice gn' G.names.length cn', .slice gt' G.terms.length ct', .slice gp' G.prods.length cp'] 33)) := ⟨_, rfl⟩
  obtain ⟨bp, hbp⟩ : ∃ bp, bp = w2.heap.size := ⟨_, rfl⟩
  obtain ⟨bq, hbq⟩ : ∃ bq, bq = bp + 1 := ⟨_, rfl⟩
  rw [← hw3] at kp1 kq1 hb3 ⊢
  rw [← hbp] at kp1 kq1 ⊢
  rw [← hbq] at kq1 ⊢
  have hg3 := hg.later hb3
  have hg3' := hg'.later hb3
  have hcp3 := hcp.later hb3
  have hbw3 := belw hbw2 hb3
  clear hw3 hbp hbq hg hg' hcp hb3 hbw2
  obtain ⟨most, hm3, hand⟩ := and3 a
  have hsn := sndG Hsd.out
  obtain ⟨L, hL⟩ : ∃ L, L = wordsB G.terms.length (derB G) (most + 1) := ⟨_, rfl⟩
  obtain ⟨tt, htt⟩ : ∃ tt, tt = (allB G.terms.length (most + 1)).filter (derB G) := ⟨_, rfl⟩
  have hL2 : wordsB G.terms.length (derB G) (most + 1 + 1) = L ++ tt := by rw [hL, htt]; rfl
  have hLn : L.length ≤ 121 := by rw [hL]; exact wordsB_few Ht.out (by omega) _
  have hL2n : (L ++ tt).length ≤ 121 := by rw [← hL2]; exact wordsB_few Ht.out (by omega) _
  have hmem : ∀ z, z ∈ L ++ tt ↔ Lg.Der G.prods [G.start] z ∧ z.length ≤ most + 1 := fun z => by
    rw [← hL2, wordsB_mem hsn.t1, derB_iff]
    constructor
    · rintro ⟨h1, h2, -⟩; exact ⟨h1, by omega⟩
    · rintro ⟨h1, h2⟩; exact ⟨h1, by omega, h1.letters hsn.t1 hsn.r0 (fun s hs => by rw [List.mem_singleton] at hs; have := hsn.s0; omega)⟩
  have hrise : (L ++ tt).Pairwise WLt := by rw [← hL2]; exact wordsB_rise hsn.t1 _ _
  have htl : ∀ z ∈ tt, z.length = most + 1 := fun z hz => by rw [htt] at hz; exact ((allB_mem hsn.t1 _ z).1 (List.mem_filter.1 hz).1).1
  have hw1 := fun W (hW : Below w3.heap.size w3 W) => words_small W G gn gt gp cn ct cp most (by omega) Ht.out Hsd.out (hg3.later hW) (hcp3.later hW)
  have hw2 := fun W (hW : Below w3.heap.size w3 W) => words_small W G gn gt gp cn ct cp (most + 1) (by omega) Ht.out Hsd.out (hg3.later hW) (hcp3.later hW)
  simp only [← hL] at hw1
  simp only [hL2] at hw2
  obtain ⟨M, hM⟩ : ∃ M, M = L.length := ⟨_, rfl⟩
  obtain ⟨M2, hM2⟩ : ∃ M2, M2 = (L ++ tt).length := ⟨_, rfl⟩
  have hMM : M ≤ M2 := by rw [hM, hM2, List.length_append]; omega
  have hMMI : (M : Int) ≤ (M2 : Int) := by omega
  have hMM0 : ¬ (M2 : Int) < (M : Int) := by omega
  simp only [← hM] at hw1
  simp only [← hM2, Int.natCast_add, Int.natCast_one] at hw2
  have hMI : (M : Int) ≤ 121 := by omega
  have hMI2 : (M2 : Int) ≤ 121 := by omega
  have hmoI : (most : Int) ≤ 3 := by omega
  have hmo0 : (0 : Int) ≤ (most : Int) := by omega
  have Hw1 := hid (hw1 w3 (Below.refl _ _))
  have Hw2 := hid hw2
  have HL := hid (And.intro hmem (And.intro hrise (And.intro htl (And.intro hM (And.intro hM2 (And.intro hLn hL2n))))))
  have Kp1 := hid kp1
  have Hbw3 := hid hbw3
  have Hg3 := hid hg3
  have Hm3 := hid hm3
  have p0 := kp1.cell 0
  have p1 := kp1.cell 1
  have p2 := kp1.cell 2
  have p3 := kp1.cell 3
  have p4 := kp1.cell 4
  simp only [List.getElem?_cons_zero, List.getElem?_cons_succ] at p0 p1 p2 p3 p4
  clear hw1 hw2 hL hLn hL2 hL2n hmem hrise htl hM hM2 kp1 kq1 hbw3 hg3 hg3' hcp3 hm3 htt hsn hMM hMMI
  go_upto_region 6 with (go_at_call 53; refine Hw1.out.mono ?_; rintro e w5 ⟨g5, c5, rfl, ho5, hb5⟩)
  have kq5 := Kp1.out.below hb5 Kp1.out.lt
  have q0 := kq5.cell 0
  have q1 := kq5.cell 1
  have q2 := kq5.cell 2
  have q3 := kq5.cell 3
  have q4 := kq5.cell 4
  simp only [List.getElem?_cons_zero, List.getElem?_cons_succ] at q0 q1 q2 q3 q4
  have Ho5 := hid ho5
  have Hb5 := hid hb5
  have H2 := hid (Hw2.out w5 hb5)
  clear kq5 ho5 hb5 p0 p1 p2 p3 p4
  go_upto_region 7 with (go_at_call 53; refine H2.out.mono ?_; rintro e w6 ⟨g6, c6, rfl, ho6, hb6⟩)
  have Ho6 := hid ho6
  have Hb6 := hid hb6
  clear ho6 hb6 q0 q1 q2 q3 q4
  go_upto_region 9 with fail
  have hd2 : decide (M2 < M) = false := by simp; omega
  simp only [hd2]
  clear hMM0 hd2
  go_wp2_with fail
  go_loopg [11] M (fun k v11 wr => LfAt w6 0 M k v11 wr)
  case atStart => exact ⟨0, rfl, Nat.zero_le _, Nat.zero_le _, rfl, Below.refl _ _⟩
  case round =>
    obtain ⟨i, rfl, -, hi, hk, hb⟩ := hrel
    have Hk := hid hk
    by_cases hlt : i < M
    · have hlt' : (i : Int) < (M : Int) := by omega
      have hi0 : (0 : Int) ≤ (i : Int) := by omega
      have hltL : i < L.length := by rw [← HL.out.2.2.2.1]; exact hlt
      have hlt2 : (i : Int) < (M2 : Int) := by
        have h1 := HL.out.2.2.2.1
        have h2 := HL.out.2.2.2.2.1
        rw [List.length_append] at h2
        omega
      obtain ⟨z, hz⟩ : ∃ z, L[i]? = some z := ⟨_, List.getElem?_eq_getElem hltL⟩
      have hz2 : (L ++ tt)[i]? = some z := by rw [List.getElem?_append_left hltL]; exact hz
      have hzm := (HL.out.1 z).1 (List.mem_of_getElem? hz2)
      have hzl : z.length ≤ 4 := by have := hzm.2; have := Hm3.out; omega
      obtain ⟨ga, gx, cx, rfl, hga, hcx, hrx⟩ := wd_at Ho5.out (Hb6.out.trans (hb.mono Hb6.out.size)) hz
      obtain ⟨gb, gy, cy, rfl, hgb, hcy, hry⟩ := wd_at Ho6.out hb hz2
      have hbw0 : Below w3.heap.size w3 wr := belw Hb5.out (belw Hb6.out hb)
      have hal := fun W (hW : Below wr.heap.size wr W) => alike_calls W gx gy cx cy (toI z) (toI z) ((hrx.below hW).mono hW.size) ((hry.below hW).mono hW.size) (by rw [toI_len]; omega) (by rw [toI_len]; omega)
      simp only [toI_len, decide_true] at hal
      have hdr : ∀ W, Below wr.heap.size wr W → Calls Try.prog 56 #[.agg #[.int .i64 G.start, .int .i64 G.rules, .slice gn G.names.length cn, .slice gt G.terms.length ct, .slice gp G.prods.length cp], .slice gx z.length cx] W fun e w' => e = .returned (.bool true) ∧ Below W.heap.size W w' := fun W hW => by
        have hany : (toI z).any (badW G.terms.length) = false := by
          rw [List.any_eq_false]
          intro s hs
          obtain ⟨b, hb1, rfl⟩ := List.mem_map.1 hs
          have hsn := sndG Hsd.out
          have := hzm.1.letters hsn.t1 hsn.r0 (fun s hs => by rw [List.mem_singleton] at hs; have := hsn.s0; omega) b hb1
          simp [badW]; omega
        have h1 := lderives_calls W G gn gt gp cn ct cp (Hg3.out.later (belw hbw0 hW)) Hsd.out gx cx (toI z) ((hrx.below hW).mono hW.size) (by rw [toI_len]; omega) hany
        unfold gramV at h1
        rw [toI_len] at h1
        refine h1.mono ?_
        rintro e w' ⟨b, rfl, hb1, hb2⟩
        have e1 : b = true := by
          rw [hb1]
          have h2 := (derB_fo Hsd.out z).1 ((derB_iff G z).2 hzm.1)
          exact h2
        subst e1
        exact ⟨rfl, hb2⟩
      have kpr := Kp1.out.below hbw0 Kp1.out.lt
      obtain ⟨lz, hlz⟩ : ∃ lz, lz = z.length := ⟨_, rfl⟩
      simp only [← hlz] at hal hdr
      rw [← hlz] at hcx hcy
      have hgaw : ga < wr.heap.size := by have := hb.size; have := Hb6.out.size; omega
      have hgbw : gb < wr.heap.size := by have := hb.size; omega
      have hS0 : ∀ W, Below wr.heap.size wr W → (W.cell? ⟨bp, 0, none⟩ = some (.int .i64 G.start) ∧ W.cell? ⟨bp, 1, none⟩ = some (.int .i64 G.rules) ∧ W.cell? ⟨bp, 2, none⟩ = some (.slice gn G.names.length cn) ∧ W.cell? ⟨bp, 3, none⟩ = some (.slice gt G.terms.length ct) ∧ W.cell? ⟨bp, 4, none⟩ = some (.slice gp G.prods.length cp) ∧ W.cell? ⟨ga, i, none⟩ = some (.slice gx lz cx) ∧ W.cell? ⟨gb, i, none⟩ = some (.slice gy lz cy) ∧ Hid (Below wr.heap.size wr W)) := fun W hW => by
        have k1 := kpr.below hW kpr.lt
        exact ⟨k1.cell 0, k1.cell 1, k1.cell 2, k1.cell 3, k1.cell 4, (hW.cell (p := ⟨ga, i, none⟩) hgaw).trans hcx, (hW.cell (p := ⟨gb, i, none⟩) hgbw).trans hcy, hid hW⟩
      have HS0 := hid hS0
      have Hw0 := hid (show Below wr.heap.size wr wr.drew from below_drewN (Below.refl _ _) 1)
      have Hal := hid hal
      have Hdr := hid hdr
      have Hlt := hid hlt
      have Hb := hid hb
      by_cases hi1 : i = 0
      · have hgt : decide ((0 : Int) < (i : Int)) = false := by simp; omega
        have hgt2 : ¬ (0 : Int) < (i : Int) := by omega
        have hgt3 : decide (0 < i) = false := by simp; omega
        clear hk hi hltL hz hz2 hzm hzl hga hcx hrx hgb hcy hry hbw0 hal hdr kpr hlz hgaw hgbw hS0 hlt hb hi1
        go_upto_region 12 with fail
        refine wp_region_held_drew (S := fun W : World => W.cell? ⟨bp, 0, none⟩ = some (.int .i64 G.start) ∧ W.cell? ⟨bp, 1, none⟩ = some (.int .i64 G.rules) ∧ W.cell? ⟨bp, 2, none⟩ = some (.slice gn G.names.length cn) ∧ W.cell? ⟨bp, 3, none⟩ = some (.slice gt G.terms.length ct) ∧ W.cell? ⟨bp, 4, none⟩ = some (.slice gp G.prods.length cp) ∧ W.cell? ⟨ga, i, none⟩ = some (.slice gx lz cx) ∧ W.cell? ⟨gb, i, none⟩ = some (.slice gy lz cy) ∧ Hid (Below wr.heap.size wr W)) (by kernel_rfl) (HS0.out _ Hw0.out) (fun hHeld => ?_)
        refine wpAnyH_take (i := 0) (oi := ({ dst := some 55, op := Op.move (Operand.tmp 7), type := 23, pos := "law.go:152", after := #[], guard := none } : Oper)) (v := ?_) rfl (by kernel_rfl) (by kernel_rfl) (by kernel_rfl) (fun _ _ _ h => h) (Or.inl ⟨by kernel_rfl, ?_⟩) (by assumption) ?_
        rotate_left
        · intro w hSw
          try dsimp only at hSw
          go_simp
          try with_reducible rfl
        try simp only [Act.put, List.setIfInBounds_toArray, List.set_cons_zero, List.set_cons_succ]
        refine wpAnyH_take (i := 1) (oi := ({ dst := some 56, op := Op.move (Operand.tmp 11), type := 3, pos := "law.go:152", after := #[], guard := none } : Oper)) (v := ?_) rfl (by kernel_rfl) (by kernel_rfl) (by kernel_rfl) (fun _ _ _ h => h) (Or.inl ⟨by kernel_rfl, ?_⟩) (by assumption) ?_
        rotate_left
        · intro w hSw
          try dsimp only at hSw
          go_simp
          try with_reducible rfl
        try simp only [Act.put, List.setIfInBounds_toArray, List.set_cons_zero, List.set_cons_succ]
        refine wpAnyH_take (i := 2) (oi := ({ dst := some 57, op := Op.indexAddr 23 (Operand.tmp 55) (Operand.tmp 56), type := 0, pos := "law.go:152", after := #[{ on := 0, ground := Ground.data }, { on := 1, ground := Ground.data }], guard := none } : Oper)) (v := ?_) rfl (by kernel_rfl) (by kernel_rfl) (by kernel_rfl) (fun _ _ _ h => h) (Or.inl ⟨by kernel_rfl, ?_⟩) (by assumption) ?_
        rotate_left
        · intro w hSw
          try dsimp only at hSw
          go_simp
          try with_reducible rfl
        try simp only [Act.put, List.setIfInBounds_toArray, List.set_cons_zero, List.set_cons_succ]
        refine wpAnyH_take (i := 3) (oi := ({ dst := some 58, op := Op.load 22 (Operand.tmp 57), type := 22, pos := "law.go:152", after := #[{ on := 2, ground := Ground.data }], guard := none } : Oper)) (v := ?_) rfl (by kernel_rfl) (by kernel_rfl) (by kernel_rfl) (fun _ _ _ h => h) (Or.inl ⟨by kernel_rfl, ?_⟩) (by assumption) ?_
        rotate_left
        · intro w hSw
          try dsimp only at hSw
          go_simp
          try with_reducible rfl
        try simp only [Act.put, List.setIfInBounds_toArray, List.set_cons_zero, List.set_cons_succ]
        refine wpAnyH_take (i := 4) (oi := ({ dst := some 59, op := Op.move (Operand.tmp 9), type := 23, pos := "law.go:152", after := #[], guard := none } : Oper)) (v := ?_) rfl (by kernel_rfl) (by kernel_rfl) (by kernel_rfl) (fun _ _ _ h => h) (Or.inl ⟨by kernel_rfl, ?_⟩) (by assumption) ?_
        rotate_left
        · intro w hSw
          try dsimp only at hSw
          go_simp
          try with_reducible rfl
        try simp only [Act.put, List.setIfInBounds_toArray, List.set_cons_zero, List.set_cons_succ]
        refine wpAnyH_take (i := 5) (oi := ({ dst := some 60, op := Op.move (Operand.tmp 11), type := 3, pos := "law.go:152", after := #[], guard := none } : Oper)) (v := ?_) rfl (by kernel_rfl) (by kernel_rfl) (by kernel_rfl) (fun _ _ _ h => h) (Or.inl ⟨by kernel_rfl, ?_⟩) (by assumption) ?_
        rotate_left
        · intro w hSw
          try dsimp only at hSw
          go_simp
          try with_reducible rfl
        try simp only [Act.put, List.setIfInBounds_toArray, List.set_cons_zero, List.set_cons_succ]
        refine wpAnyH_take (i := 6) (oi := ({ dst := some 61, op := Op.indexAddr 23 (Operand.tmp 59) (Operand.tmp 60), type := 0, pos := "law.go:152", after := #[{ on := 4, ground := Ground.data }, { on := 5, ground := Ground.data }], guard := none } : Oper)) (v := ?_) rfl (by kernel_rfl) (by kernel_rfl) (by kernel_rfl) (fun _ _ _ h => h) (Or.inl ⟨by kernel_rfl, ?_⟩) (by assumption) ?_
        rotate_left
        · intro w hSw
          try dsimp only at hSw
          go_simp
          try with_reducible rfl
        try simp only [Act.put, List.setIfInBounds_toArray, List.set_cons_zero, List.set_cons_succ]
        refine wpAnyH_take (i := 7) (oi := ({ dst := some 62, op := Op.load 22 (Operand.tmp 61), type := 22, pos := "law.go:152", after := #[{ on := 6, ground := Ground.data }], guard := none } : Oper)) (v := ?_) rfl (by kernel_rfl) (by kernel_rfl) (by kernel_rfl) (fun _ _ _ h => h) (Or.inl ⟨by kernel_rfl, ?_⟩) (by assumption) ?_
        rotate_left
        · intro w hSw
          try dsimp only at hSw
          go_simp
          try with_reducible rfl
        try simp only [Act.put, List.setIfInBounds_toArray, List.set_cons_zero, List.set_cons_succ]
        refine wpAnyH_ready (rs := [8]) (by kernel_rfl) (by simp) ?_
        refine AllReadyH.cons (o := ({ dst := some 63, op := Op.call { callee := Callee.value (Operand.func 55), args := #[Operand.tmp 58, Operand.tmp 62], argTypes := #[22, 22] }, type := 4, pos := "law.go:152", after := #[{ on := 3, ground := Ground.data }, { on := 7, ground := Ground.data }], guard := none } : Oper)) rfl (fun K hK => ?_) AllReadyH.nil
        go_simp
        go_at_call 55
        refine (Hal.out _ Hw0.out).mono ?_
        rintro e w7 ⟨rfl, hb7⟩
        have Hw7 := hid (belw Hw0.out hb7)
        clear hb7
        try go_simp
        refine hK.out _ _ (HS0.out _ Hw7.out) (fun hH2 => ?_)
        clear hK K hHeld
        have hHeld := hH2
        clear hH2
        try simp only [Act.put, List.setIfInBounds_toArray, List.set_cons_zero, List.set_cons_succ]
        refine wpAnyH_take (i := 9) (oi := ({ dst := some 64, op := Op.unOp UnOp.not 4 (Operand.tmp 63), type := 4, pos := "law.go:152", after := #[{ on := 8, ground := Ground.data }], guard := none } : Oper)) (v := ?_) rfl (by kernel_rfl) (by kernel_rfl) (by kernel_rfl) (fun _ _ _ h => h) (Or.inl ⟨by kernel_rfl, ?_⟩) (by assumption) ?_
        rotate_left
        · intro w hSw
          try dsimp only at hSw
          go_simp
          try with_reducible rfl
        try simp only [Act.put, List.setIfInBounds_toArray, List.set_cons_zero, List.set_cons_succ]
        refine wpAnyH_take (i := 10) (oi := ({ dst := some 65, op := Op.move (Operand.tmp 64), type := 4, pos := "law.go:152", after := #[{ on := 9, ground := Ground.data }, { on := 8, ground := Ground.chain }], guard := none } : Oper)) (v := ?_) rfl (by kernel_rfl) (by kernel_rfl) (by kernel_rfl) (fun _ _ _ h => h) (Or.inl ⟨by kernel_rfl, ?_⟩) (by assumption) ?_
        rotate_left
        · intro w hSw
          try dsimp only at hSw
          go_simp
          try with_reducible rfl
        try simp only [Act.put, List.setIfInBounds_toArray, List.set_cons_zero, List.set_cons_succ]
        refine wpAnyH_take (i := 11) (oi := ({ dst := some 66, op := Op.load 30 (Operand.tmp 5), type := 30, pos := "law.go:152", after := #[{ on := 10, ground := Ground.guard }], guard := some (10, false) } : Oper)) (v := ?_) rfl (by kernel_rfl) (by kernel_rfl) (by kernel_rfl) (fun _ _ _ h => h) (Or.inl ⟨by kernel_rfl, ?_⟩) (by assumption) ?_
        rotate_left
        · intro w hSw
          try dsimp only at hSw
          go_simp
          try with_reducible rfl
        try simp only [Act.put, List.setIfInBounds_toArray, List.set_cons_zero, List.set_cons_succ]
        refine wpAnyH_take (i := 12) (oi := ({ dst := some 67, op := Op.move (Operand.tmp 7), type := 23, pos := "law.go:152", after := #[{ on := 10, ground := Ground.guard }], guard := some (10, false) } : Oper)) (v := ?_) rfl (by kernel_rfl) (by kernel_rfl) (by kernel_rfl) (fun _ _ _ h => h) (Or.inl ⟨by kernel_rfl, ?_⟩) (by assumption) ?_
        rotate_left
        · intro w hSw
          try dsimp only at hSw
          go_simp
          try with_reducible rfl
        try simp only [Act.put, List.setIfInBounds_toArray, List.set_cons_zero, List.set_cons_succ]
        refine wpAnyH_take (i := 13) (oi := ({ dst := some 68, op := Op.move (Operand.tmp 11), type := 3, pos := "law.go:152", after := #[{ on := 10, ground := Ground.guard }], guard := some (10, false) } : Oper)) (v := ?_) rfl (by kernel_rfl) (by kernel_rfl) (by kernel_rfl) (fun _ _ _ h => h) (Or.inl ⟨by kernel_rfl, ?_⟩) (by assumption) ?_
        rotate_left
        · intro w hSw
          try dsimp only at hSw
          go_simp
          try with_reducible rfl
        try simp only [Act.put, List.setIfInBounds_toArray, List.set_cons_zero, List.set_cons_succ]
        refine wpAnyH_take (i := 14) (oi := ({ dst := some 69, op := Op.indexAddr 23 (Operand.tmp 67) (Operand.tmp 68), type := 0, pos := "law.go:152", after := #[{ on := 12, ground := Ground.data }, { on := 13, ground := Ground.data }, { on := 10, ground := Ground.guard }], guard := some (10, false) } : Oper)) (v := ?_) rfl (by kernel_rfl) (by kernel_rfl) (by kernel_rfl) (fun _ _ _ h => h) (Or.inl ⟨by kernel_rfl, ?_⟩) (by assumption) ?_
        rotate_left
        · intro w hSw
          try dsimp only at hSw
          go_simp
          try with_reducible rfl
        try simp only [Act.put, List.setIfInBounds_toArray, List.set_cons_zero, List.set_cons_succ]
        refine wpAnyH_take (i := 15) (oi := ({ dst := some 70, op := Op.load 22 (Operand.tmp 69), type := 22, pos := "law.go:152", after := #[{ on := 14, ground := Ground.data }, { on := 10, ground := Ground.guard }], guard := some (10, false) } : Oper)) (v := ?_) rfl (by kernel_rfl) (by kernel_rfl) (by kernel_rfl) (fun _ _ _ h => h) (Or.inl ⟨by kernel_rfl, ?_⟩) (by assumption) ?_
        rotate_left
        · intro w hSw
          try dsimp only at hSw
          go_simp
          try with_reducible rfl
        try simp only [Act.put, List.setIfInBounds_toArray, List.set_cons_zero, List.set_cons_succ]
        refine wpAnyH_ready (rs := [16]) (by kernel_rfl) (by simp) ?_
        refine AllReadyH.cons (o := ({ dst := some 71, op := Op.call { callee := Callee.value (Operand.func 56), args := #[Operand.tmp 66, Operand.tmp 70], argTypes := #[30, 22] }, type := 4, pos := "law.go:152", after := #[{ on := 11, ground := Ground.data }, { on := 15, ground := Ground.data }, { on := 10, ground := Ground.chain }, { on := 10, ground := Ground.guard }], guard := some (10, false) } : Oper)) rfl (fun K hK => ?_) AllReadyH.nil
        go_simp
        go_at_call 56
        refine (Hdr.out _ Hw7.out).mono ?_
        rintro e w8 ⟨rfl, hb8⟩
        have Hw8 := hid (belw Hw7.out hb8)
        clear hb8
        try go_simp
        refine hK.out _ _ (HS0.out _ Hw8.out) (fun hH2 => ?_)
        clear hK K hHeld
        have hHeld := hH2
        clear hH2
        try simp only [Act.put, List.setIfInBounds_toArray, List.set_cons_zero, List.set_cons_succ]
        refine wpAnyH_take (i := 17) (oi := ({ dst := some 72, op := Op.unOp UnOp.not 4 (Operand.tmp 71), type := 4, pos := "law.go:152", after := #[{ on := 16, ground := Ground.data }, { on := 10, ground := Ground.guard }], guard := some (10, false) } : Oper)) (v := ?_) rfl (by kernel_rfl) (by kernel_rfl) (by kernel_rfl) (fun _ _ _ h => h) (Or.inl ⟨by kernel_rfl, ?_⟩) (by assumption) ?_
        rotate_left
        · intro w hSw
          try dsimp only at hSw
          go_simp
          try with_reducible rfl
        try simp only [Act.put, List.setIfInBounds_toArray, List.set_cons_zero, List.set_cons_succ]
        refine wpAnyH_take (i := 18) (oi := ({ dst := some 73, op := Op.pick (Operand.tmp 65) (Operand.const (Value.bool true)) (Operand.tmp 72), type := 4, pos := "law.go:152", after := #[{ on := 10, ground := Ground.data }, { on := 17, ground := Ground.data }], guard := none } : Oper)) (v := ?_) rfl (by kernel_rfl) (by kernel_rfl) (by kernel_rfl) (fun _ _ _ h => h) (Or.inl ⟨by kernel_rfl, ?_⟩) (by assumption) ?_
        rotate_left
        · intro w hSw
          try dsimp only at hSw
          go_simp
          try with_reducible rfl
        try simp only [Act.put, List.setIfInBounds_toArray, List.set_cons_zero, List.set_cons_succ]
        refine wpAnyH_take (i := 19) (oi := ({ dst := some 74, op := Op.move (Operand.tmp 73), type := 4, pos := "law.go:152", after := #[{ on := 18, ground := Ground.data }, { on := 16, ground := Ground.chain }], guard := none } : Oper)) (v := ?_) rfl (by kernel_rfl) (by kernel_rfl) (by kernel_rfl) (fun _ _ _ h => h) (Or.inl ⟨by kernel_rfl, ?_⟩) (by assumption) ?_
        rotate_left
        · intro w hSw
          try dsimp only at hSw
          go_simp
          try with_reducible rfl
        try simp only [Act.put, List.setIfInBounds_toArray, List.set_cons_zero, List.set_cons_succ]
        refine wpAnyH_take (i := 20) (oi := ({ dst := some 75, op := Op.move (Operand.tmp 11), type := 3, pos := "law.go:152", after := #[{ on := 19, ground := Ground.guard }], guard := some (19, false) } : Oper)) (v := ?_) rfl (by kernel_rfl) (by kernel_rfl) (by kernel_rfl) (fun _ _ _ h => h) (Or.inl ⟨by kernel_rfl, ?_⟩) (by assumption) ?_
        rotate_left
        · intro w hSw
          try dsimp only at hSw
          go_simp
          try with_reducible rfl
        try simp only [Act.put, List.setIfInBounds_toArray, List.set_cons_zero, List.set_cons_succ]
        refine wpAnyH_take (i := 21) (oi := ({ dst := some 76, op := Op.binOp BinOp.gtr 3 (Operand.tmp 75) (Operand.const (Value.int IntKind.i64 0)) 3, type := 4, pos := "law.go:152", after := #[{ on := 20, ground := Ground.data }, { on := 19, ground := Ground.guard }], guard := some (19, false) } : Oper)) (v := ?_) rfl (by kernel_rfl) (by kernel_rfl) (by kernel_rfl) (fun _ _ _ h => h) (Or.inl ⟨by kernel_rfl, ?_⟩) (by assumption) ?_
        rotate_left
        · intro w hSw
          try dsimp only at hSw
          go_simp
          try with_reducible rfl
        try simp only [Act.put, List.setIfInBounds_toArray, List.set_cons_zero, List.set_cons_succ]
        refine wpAnyH_take (i := 22) (oi := ({ dst := some 77, op := Op.move (Operand.tmp 76), type := 4, pos := "law.go:152", after := #[{ on := 21, ground := Ground.data }, { on := 19, ground := Ground.chain }, { on := 19, ground := Ground.guard }], guard := some (19, false) } : Oper)) (v := ?_) rfl (by kernel_rfl) (by kernel_rfl) (by kernel_rfl) (fun _ _ _ h => h) (Or.inl ⟨by kernel_rfl, ?_⟩) (by assumption) ?_
        rotate_left
        · intro w hSw
          try dsimp only at hSw
          go_simp
          try with_reducible rfl
        try simp only [Act.put, List.setIfInBounds_toArray, List.set_cons_zero, List.set_cons_succ]
        refine wpAnyH_take (i := 23) (oi := ({ dst := some 78, op := Op.move (Operand.tmp 7), type := 23, pos := "law.go:152", after := #[{ on := 22, ground := Ground.guard }], guard := some (22, true) } : Oper)) (v := undef) rfl (by kernel_rfl) (by kernel_rfl) (by kernel_rfl) (fun _ _ _ h => h) (Or.inr ⟨by kernel_rfl, rfl⟩) (by assumption) ?_
        try simp only [Act.put, List.setIfInBounds_toArray, List.set_cons_zero, List.set_cons_succ]
        refine wpAnyH_take (i := 24) (oi := ({ dst := some 79, op := Op.move (Operand.tmp 11), type := 3, pos := "law.go:152", after := #[{ on := 22, ground := Ground.guard }], guard := some (22, true) } : Oper)) (v := undef) rfl (by kernel_rfl) (by kernel_rfl) (by kernel_rfl) (fun _ _ _ h => h) (Or.inr ⟨by kernel_rfl, rfl⟩) (by assumption) ?_
        try simp only [Act.put, List.setIfInBounds_toArray, List.set_cons_zero, List.set_cons_succ]
        refine wpAnyH_take (i := 25) (oi := ({ dst := some 80, op := Op.binOp BinOp.sub 3 (Operand.tmp 79) (Operand.const (Value.int IntKind.i64 1)) 3, type := 3, pos := "law.go:152", after := #[{ on := 24, ground := Ground.data }, { on := 22, ground := Ground.guard }], guard := some (22, true) } : Oper)) (v := undef) rfl (by kernel_rfl) (by kernel_rfl) (by kernel_rfl) (fun _ _ _ h => h) (Or.inr ⟨by kernel_rfl, rfl⟩) (by assumption) ?_
        try simp only [Act.put, List.setIfInBounds_toArray, List.set_cons_zero, List.set_cons_succ]
        refine wpAnyH_take (i := 26) (oi := ({ dst := some 81, op := Op.indexAddr 23 (Operand.tmp 78) (Operand.tmp 80), type := 0, pos := "law.go:152", after := #[{ on := 23, ground := Ground.data }, { on := 25, ground := Ground.data }, { on := 22, ground := Ground.guard }], guard := some (22, true) } : Oper)) (v := undef) rfl (by kernel_rfl) (by kernel_rfl) (by kernel_rfl) (fun _ _ _ h => h) (Or.inr ⟨by kernel_rfl, rfl⟩) (by assumption) ?_
        try simp only [Act.put, List.setIfInBounds_toArray, List.set_cons_zero, List.set_cons_succ]
        refine wpAnyH_take (i := 27) (oi := ({ dst := some 82, op := Op.load 22 (Operand.tmp 81), type := 22, pos := "law.go:152", after := #[{ on := 26, ground := Ground.data }, { on := 22, ground := Ground.guard }], guard := some (22, true) } : Oper)) (v := undef) rfl (by kernel_rfl) (by kernel_rfl) (by kernel_rfl) (fun _ _ _ h => h) (Or.inr ⟨by kernel_rfl, rfl⟩) (by assumption) ?_
        try simp only [Act.put, List.setIfInBounds_toArray, List.set_cons_zero, List.set_cons_succ]
        refine wpAnyH_take (i := 28) (oi := ({ dst := some 83, op := Op.move (Operand.tmp 7), type := 23, pos := "law.go:152", after := #[{ on := 22, ground := Ground.guard }], guard := some (22, true) } : Oper)) (v := undef) rfl (by kernel_rfl) (by kernel_rfl) (by kernel_rfl) (fun _ _ _ h => h) (Or.inr ⟨by kernel_rfl, rfl⟩) (by assumption) ?_
        try simp only [Act.put, List.setIfInBounds_toArray, List.set_cons_zero, List.set_cons_succ]
        refine wpAnyH_take (i := 29) (oi := ({ dst := some 84, op := Op.move (Operand.tmp 11), type := 3, pos := "law.go:152", after := #[{ on := 22, ground := Ground.guard }], guard := some (22, true) } : Oper)) (v := undef) rfl (by kernel_rfl) (by kernel_rfl) (by kernel_rfl) (fun _ _ _ h => h) (Or.inr ⟨by kernel_rfl, rfl⟩) (by assumption) ?_
        try simp only [Act.put, List.setIfInBounds_toArray, List.set_cons_zero, List.set_cons_succ]
        refine wpAnyH_take (i := 30) (oi := ({ dst := some 85, op := Op.indexAddr 23 (Operand.tmp 83) (Operand.tmp 84), type := 0, pos := "law.go:152", after := #[{ on := 28, ground := Ground.data }, { on := 29, ground := Ground.data }, { on := 22, ground := Ground.guard }], guard := some (22, true) } : Oper)) (v := undef) rfl (by kernel_rfl) (by kernel_rfl) (by kernel_rfl) (fun _ _ _ h => h) (Or.inr ⟨by kernel_rfl, rfl⟩) (by assumption) ?_
        try simp only [Act.put, List.setIfInBounds_toArray, List.set_cons_zero, List.set_cons_succ]
        refine wpAnyH_take (i := 31) (oi := ({ dst := some 86, op := Op.load 22 (Operand.tmp 85), type := 22, pos := "law.go:152", after := #[{ on := 30, ground := Ground.data }, { on := 22, ground := Ground.guard }], guard := some (22, true) } : Oper)) (v := undef) rfl (by kernel_rfl) (by kernel_rfl) (by kernel_rfl) (fun _ _ _ h => h) (Or.inr ⟨by kernel_rfl, rfl⟩) (by assumption) ?_
        try simp only [Act.put, List.setIfInBounds_toArray, List.set_cons_zero, List.set_cons_succ]
        refine wpAnyH_take (i := 32) (oi := ({ dst := some 87, op := Op.call { callee := Callee.value (Operand.func 57), args := #[Operand.tmp 82, Operand.tmp 86], argTypes := #[22, 22] }, type := 4, pos := "law.go:152", after := #[{ on := 27, ground := Ground.data }, { on := 31, ground := Ground.data }, { on := 22, ground := Ground.chain }, { on := 22, ground := Ground.guard }], guard := some (22, true) } : Oper)) (v := undef) rfl (by kernel_rfl) (by kernel_rfl) (by kernel_rfl) (fun _ _ _ h => h) (Or.inr ⟨by kernel_rfl, rfl⟩) (by assumption) ?_
        try simp only [Act.put, List.setIfInBounds_toArray, List.set_cons_zero, List.set_cons_succ]
        refine wpAnyH_take (i := 33) (oi := ({ dst := some 88, op := Op.unOp UnOp.not 4 (Operand.tmp 87), type := 4, pos := "law.go:152", after := #[{ on := 32, ground := Ground.data }, { on := 22, ground := Ground.guard }], guard := some (22, true) } : Oper)) (v := undef) rfl (by kernel_rfl) (by kernel_rfl) (by kernel_rfl) (fun _ _ _ h => h) (Or.inr ⟨by kernel_rfl, rfl⟩) (by assumption) ?_
        try simp only [Act.put, List.setIfInBounds_toArray, List.set_cons_zero, List.set_cons_succ]
        refine wpAnyH_take (i := 34) (oi := ({ dst := some 89, op := Op.pick (Operand.tmp 77) (Operand.tmp 88) (Operand.const (Value.bool false)), type := 4, pos := "law.go:152", after := #[{ on := 22, ground := Ground.data }, { on := 33, ground := Ground.data }, { on := 19, ground := Ground.guard }], guard := some (19, false) } : Oper)) (v := ?_) rfl (by kernel_rfl) (by kernel_rfl) (by kernel_rfl) (fun _ _ _ h => h) (Or.inl ⟨by kernel_rfl, ?_⟩) (by assumption) ?_
        rotate_left
        · intro w hSw
          try dsimp only at hSw
          go_simp
          try with_reducible rfl
        try simp only [Act.put, List.setIfInBounds_toArray, List.set_cons_zero, List.set_cons_succ]
        refine wpAnyH_take (i := 35) (oi := ({ dst := some 90, op := Op.pick (Operand.tmp 74) (Operand.const (Value.bool true)) (Operand.tmp 89), type := 4, pos := "law.go:152", after := #[{ on := 19, ground := Ground.data }, { on := 34, ground := Ground.data }], guard := none } : Oper)) (v := ?_) rfl (by kernel_rfl) (by kernel_rfl) (by kernel_rfl) (fun _ _ _ h => h) (Or.inl ⟨by kernel_rfl, ?_⟩) (by assumption) ?_
        rotate_left
        · intro w hSw
          try dsimp only at hSw
          go_simp
          try with_reducible rfl
        try simp only [Act.put, List.setIfInBounds_toArray, List.set_cons_zero, List.set_cons_succ]
        refine wpAnyH_done (by kernel_rfl) ?_ _
        go_wp2_with fail
        go_roundg (M - (i + 1))
        case measure => have := Hk.out; have := Hlt.out; omega
        case rel => exact ⟨i + 1, by go_num, Nat.zero_le _, Hlt.out, rfl, belw Hb.out Hw8.out⟩
      · obtain ⟨j, hij⟩ : ∃ j, i = j + 1 := ⟨i - 1, by omega⟩
        have hjL : j < L.length := by omega
        obtain ⟨y, hy⟩ : ∃ y, L[j]? = some y := ⟨_, List.getElem?_eq_getElem hjL⟩
        have hy2 : (L ++ tt)[j]? = some y := by rw [List.getElem?_append_left hjL]; exact hy
        have hyl : y.length ≤ 4 := by have := ((HL.out.1 y).1 (List.mem_of_getElem? hy2)).2; have := Hm3.out; omega
        obtain ⟨ga', gu, cu, hga', -, hcu, hru⟩ := wd_at Ho5.out (Hb6.out.trans (Hb.out.mono Hb6.out.size)) hy
        obtain rfl : ga = ga' := by injection hga' with h1; injection h1
        have hwlt : WLt y z := by
          have h1 := HL.out.2.1
          rw [List.pairwise_iff_getElem] at h1
          obtain ⟨h2, h3⟩ := List.getElem?_eq_some_iff.1 hy2
          obtain ⟨h4, h5⟩ := List.getElem?_eq_some_iff.1 hz2
          have := h1 j i h2 h4 (by omega)
          rwa [h3, h5] at this
        have hls := fun W (hW : Below wr.heap.size wr W) => less_calls W gu gx cu cx (toI y) (toI z) ((hru.below hW).mono hW.size) ((hrx.below hW).mono hW.size) (by rw [toI_len]; omega) (by rw [toI_len]; omega)
        obtain ⟨lu, hlu⟩ : ∃ lu, lu = y.length := ⟨_, rfl⟩
        simp only [toI_len, (lessI_wlt y z).2 hwlt, ← hlu, ← hlz] at hls
        rw [← hlu] at hcu
        have hgt : decide ((0 : Int) < (i : Int)) = true := by simp; omega
        have hgt2 : (0 : Int) < (i : Int) := by omega
        have hgt3 : decide (0 < i) = true := by simp; omega
        have hwj : IntKind.i64.wrap ((i : Int) - 1) = (j : Int) := by
          have := Hlt.out
          rw [IntKind.wrap_i64] <;> omega
        have hj0 : (0 : Int) ≤ (j : Int) := by omega
        have hjM : (j : Int) < (M : Int) := by omega
        have hS1 : ∀ W, Below wr.heap.size wr W → (W.cell? ⟨bp, 0, none⟩ = some (.int .i64 G.start) ∧ W.cell? ⟨bp, 1, none⟩ = some (.int .i64 G.rules) ∧ W.cell? ⟨bp, 2, none⟩ = some (.slice gn G.names.length cn) ∧ W.cell? ⟨bp, 3, none⟩ = some (.slice gt G.terms.length ct) ∧ W.cell? ⟨bp, 4, none⟩ = some (.slice gp G.prods.length cp) ∧ W.cell? ⟨ga, i, none⟩ = some (.slice gx lz cx) ∧ W.cell? ⟨gb, i, none⟩ = some (.slice gy lz cy) ∧ W.cell? ⟨ga, j, none⟩ = some (.slice gu lu cu) ∧ Hid (Below wr.heap.size wr W)) := fun W hW => by
          obtain ⟨s0, s1, s2, s3, s4, s5, s6, s7⟩ := HS0.out W hW
          exact ⟨s0, s1, s2, s3, s4, s5, s6, (hW.cell (p := ⟨ga, j, none⟩) hgaw).trans hcu, s7⟩
        have HS1 := hid hS1
        have Hls := hid hls
        obtain ⟨a0, a1, a2, a3, a4, a5, a6, a7, -⟩ := hS1 wr.drew Hw0.out
        clear hk hi hltL hz hz2 hzm hzl hga hcx hrx hgb hcy hry hbw0 hal hdr kpr hlz hgaw hgbw hS0 hlt hb hi1 hij hjL hy hy2 hyl hga' hcu hru hwlt hls hlu hS1
        go_upto_region 12 with fail
        go_region_held3 (fun W => W.cell? ⟨bp, 0, none⟩ = some (.int .i64 G.start) ∧ W.cell? ⟨bp, 1, none⟩ = some (.int .i64 G.rules) ∧ W.cell? ⟨bp, 2, none⟩ = some (.slice gn G.names.length cn) ∧ W.cell? ⟨bp, 3, none⟩ = some (.slice gt G.terms.length ct) ∧ W.cell? ⟨bp, 4, none⟩ = some (.slice gp G.prods.length cp) ∧ W.cell? ⟨ga, i, none⟩ = some (.slice gx lz cx) ∧ W.cell? ⟨gb, i, none⟩ = some (.slice gy lz cy) ∧ W.cell? ⟨ga, j, none⟩ = some (.slice gu lu cu) ∧ Hid (Below wr.heap.size wr W))
          (first | exact ⟨‹_›, ‹_›, ‹_›, ‹_›, ‹_›, ‹_›, ‹_›, ‹_›, ‹_›⟩)
          (first
            | (go_at_call 57; refine (Hls.out _ Hw8.out).mono ?_; rintro e w9 ⟨rfl, hb9⟩; obtain ⟨f0, f1, f2, f3, f4, f5, f6, f7, Hw9⟩ := HS1.out w9 (belw Hw8.out hb9))
            | (go_at_call 56; refine (Hdr.out _ Hw7.out).mono ?_; rintro e w8 ⟨rfl, hb8⟩; obtain ⟨e0, e1, e2, e3, e4, e5, e6, e7, Hw8⟩ := HS1.out w8 (belw Hw7.out hb8))
            | (go_at_call 55; refine (Hal.out _ Hw0.out).mono ?_; rintro e w7 ⟨rfl, hb7⟩; obtain ⟨d0, d1, d2, d3, d4, d5, d6, d7, Hw7⟩ := HS1.out w7 (belw Hw0.out hb7)))
        go_wp2_with fail
        go_roundg (M - (i + 1))
        case measure => have := Hk.out; have := Hlt.out; omega
        case rel => exact ⟨i + 1, by go_num, Nat.zero_le _, Hlt.out, rfl, belw Hb.out Hw9.out⟩
    · have hge : ¬ (i : Int) < (M : Int) := by omega
      have Hb := hid hb
      obtain ⟨w7, rfl⟩ : ∃ w7 : World, w7 = wr := ⟨_, rfl⟩
      clear hk hi hlt hb
      go_wp2_with fail
      go_loopg [12] (M2 - M) (fun k v12 wr => LfAt w7 M M2 k v12 wr)
      case atStart => exact ⟨M, rfl, Nat.le_refl _, by have h1 := HL.out.2.2.2.1; have h2 := HL.out.2.2.2.2.1; rw [List.length_append] at h2; omega, rfl, Below.refl _ _⟩
      case round =>
        obtain ⟨i, rfl, hiM, hi, hk, hb⟩ := hrel
        have Hk := hid hk
        have Hb8 := hid hb
        by_cases hlt : i < M2
        · have hlt' : (i : Int) < (M2 : Int) := by omega
          have hi0 : (0 : Int) ≤ (i : Int) := by omega
          obtain ⟨z, hz⟩ : ∃ z, (L ++ tt)[i]? = some z := ⟨_, List.getElem?_eq_getElem (by have := HL.out.2.2.2.2.1; omega)⟩
          have hzt : z.length = most + 1 := by
            rw [List.getElem?_append_right (by have := HL.out.2.2.2.1; omega)] at hz
            exact HL.out.2.2.1 z (List.mem_of_getElem? hz)
          obtain ⟨gb, gy, cy, rfl, hgb, hcy, -⟩ := wd_at Ho6.out (Hb.out.trans (hb.mono Hb.out.size)) hz
          rw [hzt] at hcy
          have hne : (((most + 1 : Nat) : Int) != (most : Int) + 1) = false := by simp
          have Hlt := hid (And.intro hlt hiM)
          clear hk hi hiM hz hzt hgb hlt hb
          go_wp2_with fail
          go_roundg (M2 - (i + 1))
          case measure => have := Hk.out; have := Hlt.out.1; omega
          case rel => exact ⟨i + 1, by go_num, by have := Hlt.out.2; omega, Hlt.out.1, rfl, Hb8.out⟩
        · have hge2 : ¬ (i : Int) < (M2 : Int) := by omega
          have hbw0 : Below w3.heap.size w3 wr := belw Hb5.out (belw Hb6.out (belw Hb.out hb))
          have hbw6 : Below w6.heap.size w6 wr := belw Hb.out hb
          have kpr := Kp1.out.below hbw0 Kp1.out.lt
          obtain ⟨st, hst⟩ : ∃ st : Nat, (st : Int) = G.start := ⟨G.start.toNat, by have := (sndG Hsd.out).s0; omega⟩
          have hstN : st < G.names.length := by have := (sndG Hsd.out).s1; omega
          have hsh : ∀ W, Below wr.heap.size wr W → Calls Try.prog 58 #[.agg #[.int .i64 G.start, .int .i64 G.rules, .slice gn G.names.length cn, .slice gt G.terms.length ct, .slice gp G.prods.length cp]] W fun e w' =>
              ∃ (g cap : Nat) (s : Int), e = .returned (.slice (some ⟨g, 0, none⟩) G.names.length cap) ∧ w'.cell? ⟨g, st, none⟩ = some (.int .i64 s) ∧ ((s < 0 ∧ M2 = 0) ∨ (0 ≤ s ∧ (most : Int) + 1 < s ∧ M2 = 0) ∨ (0 ≤ s ∧ s ≤ (most : Int) + 1 ∧ ∃ z : List UInt8, (L ++ tt)[0]? = some z ∧ (z.length : Int) = s)) ∧ Below W.heap.size W w' := fun W hW => by
            refine (short_yes W G gn gt gp cn ct cp (Hg3.out.later (belw hbw0 hW)) Hsd.out).mono ?_
            rintro e w' ⟨g, cap, ks, rfl, -, hbk, hsho, hfix, hbW⟩
            have hsn := sndG Hsd.out
            obtain ⟨d1, d2⟩ := Lg.short_word hsn.l0 hsho hfix hsn.s0 hsn.s1
            have hklen : ks.length = G.names.length := hsho.len
            have hat : ks[st]? = some (Facts.atK ks G.start) := by
              unfold Facts.atK
              rw [← hst, Int.toNat_natCast, List.getD_eq_getElem?_getD, List.getElem?_eq_getElem (by omega)]
              rfl
            have hM2 := HL.out.2.2.2.2.1
            refine ⟨g, cap, Facts.atK ks G.start, rfl, by rw [hbk.cell st, List.getElem?_map, hat]; rfl, ?_, hbW⟩
            obtain ⟨s, hs⟩ : ∃ s, s = Facts.atK ks G.start := ⟨_, rfl⟩
            rw [← hs] at d1 d2 ⊢
            have hnil : (∀ z, Lg.Der G.prods [G.start] z → ¬ z.length ≤ most + 1) → M2 = 0 := fun h => by
              rw [hM2, List.length_eq_zero_iff, List.eq_nil_iff_forall_not_mem]
              intro z hz
              have := (HL.out.1 z).1 hz
              exact h z this.1 this.2
            by_cases c1 : s < 0
            · exact .inl ⟨c1, hnil fun z hz _ => by have := (d1 z hz).1; omega⟩
            · by_cases c2 : (most : Int) + 1 < s
              · exact .inr (.inl ⟨by omega, c2, hnil fun z hz hl => by have := (d1 z hz).2; omega⟩)
              · obtain ⟨z, hz1, hz2⟩ := d2 (by omega) (by unfold Facts.bound; have := Hm3.out; omega)
                have hzm := (HL.out.1 z).2 ⟨hz1, by omega⟩
                obtain ⟨q, hq⟩ := List.mem_iff_getElem?.1 hzm
                obtain ⟨y, hy⟩ : ∃ y, (L ++ tt)[0]? = some y := ⟨_, List.getElem?_eq_getElem (by have := (List.getElem?_eq_some_iff.1 hq).1; omega)⟩
                refine .inr (.inr ⟨by omega, by omega, y, hy, ?_⟩)
                have hyd := d1 y ((HL.out.1 y).1 (List.mem_of_getElem? hy)).1
                by_cases hq0 : q = 0
                · subst hq0
                  rw [hy] at hq
                  injection hq with hq
                  rw [hq]; exact hz2
                · have h1 := HL.out.2.1
                  rw [List.pairwise_iff_getElem] at h1
                  obtain ⟨h2, h3⟩ := List.getElem?_eq_some_iff.1 hy
                  obtain ⟨h4, h5⟩ := List.getElem?_eq_some_iff.1 hq
                  have h6 := h1 0 q h2 h4 (by omega)
                  rw [h3, h5] at h6
                  rcases h6 with h6 | ⟨h6, -⟩ <;> omega
          have Hsh := hid hsh
          have hst0 : (0 : Int) ≤ G.start := by omega
          have hstI : G.start < (G.names.length : Int) := by omega
          have hSG : ∀ W, Below wr.heap.size wr W → W.cell? ⟨bp, 0, none⟩ = some (.int .i64 (st : Int)) := fun W hW => by rw [hst]; exact (kpr.below hW kpr.lt).cell 0
          have HSG := hid hSG
          have Hbw6 := hid hbw6
          have Hbw0 := hid hbw0
          have p0 : wr.cell? ⟨bp, 0, none⟩ = some (.int .i64 (st : Int)) := by rw [hst]; exact kpr.cell 0
          have p1 := kpr.cell 1
          have p2 := kpr.cell 2
          have p3 := kpr.cell 3
          have p4 := kpr.cell 4
          simp only [List.getElem?_cons_zero, List.getElem?_cons_succ] at p1 p2 p3 p4
          have hstI2 : (st : Int) < (G.names.length : Int) := by omega
          have hst2 : (0 : Int) ≤ (st : Int) := by omega
          rw [← hst] at hsh
          have Hsh := hid hsh
          have Hd0 := hid (show Below wr.heap.size wr wr.drew from below_drewN (Below.refl _ _) 1)
          clear hk hi hiM hlt hb hbw0 hbw6 kpr hsh hSG hst hst0 hstI hstN
          go_upto_region 19 with fail
          go_cut [13] from 107 to 112 (fun v13 wx => ∃ s : Int, v13 = .int .i64 s ∧ ((s < 0 ∧ M2 = 0) ∨ (0 ≤ s ∧ (most : Int) + 1 < s ∧ M2 = 0) ∨ (0 ≤ s ∧ s ≤ (most : Int) + 1 ∧ ∃ z : List UInt8, (L ++ tt)[0]? = some z ∧ (z.length : Int) = s)) ∧ Below wr.heap.size wr wx)
          case first =>
            go_region_law (go_simp; go_at_call 58; refine (Hsh.out _ Hd0.out).mono ?_; rintro e w9 ⟨g9, cap9, s, rfl, hc9, hcase, hb9⟩; have hp9 := HSG.out w9 (belw Hd0.out hb9); have Hc9 := hid (And.intro hcase (belw Hd0.out hb9)); clear hcase hb9)
            all_goals (go_wp2_with fail; go_meet; exact ⟨s, rfl, Hc9.out.1, Hc9.out.2⟩)
          case rest =>
            obtain ⟨s, rfl, hcase, hbx⟩ := hcut
            have hbx6 := Hbw6.out.trans (hbx.mono Hbw6.out.size)
            have Hfin := hid (belw Hbw3.out (belw Hbw0.out hbx))
            rcases hcase with ⟨h1, h2⟩ | ⟨h0, h1, h2⟩ | ⟨h0, h1, z, hz, hzl⟩
            · have e1 : ((M2 : Int) == 0) = true := by simp; omega
              clear hbx hbx6 p0 p1 p2 p3 p4 h2 hge hge2
              go_wp2_with fail
              go_ret
              exact ⟨rfl, Hfin.out⟩
            · have e1 : ((M2 : Int) == 0) = true := by simp; omega
              have h3 : ¬ s < 0 := by omega
              clear hbx hbx6 p0 p1 p2 p3 p4 h2 h0 hge hge2
              go_wp2_with fail
              go_ret
              exact ⟨rfl, Hfin.out⟩
            · obtain ⟨gb, gy, cy, rfl, -, hcy, -⟩ := wd_at Ho6.out hbx6 hz
              have e1 : ((z.length : Int) == s) = true := by simp; omega
              have h3 : ¬ s < 0 := by omega
              have h4 : ¬ (most : Int) + 1 < s := by omega
              have h5 : (0 : Int) < (M2 : Int) := by have := HL.out.2.2.2.2.1; have := (List.getElem?_eq_some_iff.1 hz).1; omega
              clear hbx hbx6 p0 p1 p2 p3 p4 hz hzl hge hge2
              go_wp2_with fail
              go_ret
              exact ⟨rfl, Hfin.out⟩
end Go.Proofs.Ytaehooafdbaomaa
