/- Chapter 10 (lang): LangSame: walk. Printed by gen/mk10f.py. -/
import Derived.Test.YtaehooafdbaomaaLaw10c
import Derived.Test.YtaehooafdbaomaaLangSm
import Derived.Test.YtaehooafdbaomaaLangTr
namespace Go.Proofs.Ytaehooafdbaomaa
open Go.RowKit
attribute [local go_sem ↓] Go.wp_at_zero Go.wp_at_succ
attribute [local go_sem] frozen_alloc_lt

/-- What the two words' loop has found. -/
def SmAt (w0 : World) (L1 L2 : List (List UInt8)) (k : Nat) (v17 v18 : Value) (w : World) : Prop :=
  ∃ i : Nat, v17 = .bool (decide (L1.length = L2.length ∧ L1.take i = L2.take i)) ∧ v18 = .int .i64 i ∧ i ≤ min L1.length L2.length ∧ k = min L1.length L2.length - i ∧ Below w0.heap.size w0 w
def TtAt (w0 : World) (b : Nat) (st ru vn : Value) (ts : List ByteArray) (k : Nat) (v21 : Value) (w : World) : Prop :=
  ∃ (j : Nat) (vt : Value), v21 = .int .i64 ((ts.length : Int) - 1 - (j : Int)) ∧ j ≤ ts.length ∧ k = ts.length - j ∧ Tg w b st ru vn (ts.reverse.take j) [] vt (.slice none 0 0) ∧ Below b w0 w
def TpAt (w0 : World) (b : Nat) (st ru vn vt : Value) (ts : List ByteArray) (ps : List (Int × List Int)) (k : Nat) (v22 : Value) (w : World) : Prop :=
  ∃ (i : Nat) (vp : Value), v22 = .int .i64 i ∧ i ≤ ps.length ∧ k = ps.length - i ∧ Tg w b st ru vn ts.reverse (trP ts.length (ps.take i)) vt vp ∧ Below b w0 w
def TrAt (w0 : World) (n : Nat) (R : List Int) (k : Nat) (v23 v24 : Value) (w : World) : Prop :=
  ∃ (j : Nat) (vr : Value), vr = v23 ∧ v24 = .int .i64 j ∧ j ≤ R.length ∧ k = R.length - j ∧ w.ownsRow w0.heap.size 3 1 vr j (((R.take j).map (trn n)).map (Value.int .i64)) ∧ Below w0.heap.size w0 w
theorem trP_snoc (n : Nat) (ps : List (Int × List Int)) (x : Int × List Int) : trP n (ps ++ [x]) = trP n ps ++ [(x.1, x.2.map (trn n))] := by simp [trP]
set_option maxHeartbeats 32000000 in
set_option maxRecDepth 8000 in
theorem lsame10_calls (x : RawD) (v : Value) (y : RawD) (v1 : Value) (a : Int) (w : World) (hx : RawAt w x v) (hy : RawAt w y v1) : Calls Try.prog 14 #[v, v1, .int .i64 a] w fun e w' => e = .returned (.bool true) ∧ Below w.heap.size w w' := by
  obtain ⟨glx, grx, clx, crx, rfl, hlx, hrx, hlx1, hrx1, hrx2⟩ := hx
  obtain ⟨gly, gry, cly, cry, rfl, hly, hry, hly1, hry1, hry2⟩ := hy
  have hk0 := (Bk.new w 87 [.int .i64 x.n, .int .i64 x.t, .int .i64 x.start, .slice glx x.left.length clx, .slice grx x.right.length crx]).alloc (.cells #[.int .i64 y.n, .int .i64 y.t, .int .i64 y.start, .slice gly y.left.length cly, .slice gry y.right.length cry] 87)
  have hk1 := bk_at (Bk.new (w.alloc (.cells #[.int .i64 x.n, .int .i64 x.t, .int .i64 x.start, .slice glx x.left.length clx, .slice grx x.right.length crx] 87)) 87 [.int .i64 y.n, .int .i64 y.t, .int .i64 y.start, .slice gly y.left.length cly, .slice gry y.right.length cry]) (show _ = w.heap.size + 1 by simp)
  have hb0 : Below w.heap.size w ((w.alloc (.cells #[.int .i64 x.n, .int .i64 x.t, .int .i64 x.start, .slice glx x.left.length clx, .slice grx x.right.length crx] 87)).alloc (.cells #[.int .i64 y.n, .int .i64 y.t, .int .i64 y.start, .slice gly y.left.length cly, .slice gry y.right.length cry] 87)) := bel_al (bel_al (bel_id w) _) _
  go_enter Try.func14, Try.ntmps14
  go_upto_region 1 with fail
  obtain ⟨wa, hwa⟩ : ∃ wa, wa = ((w.alloc (.cells #[.int .i64 x.n, .int .i64 x.t, .int .i64 x.start, .slice glx x.left.length clx, .slice grx x.right.length crx] 87)).alloc (.cells #[.int .i64 y.n, .int .i64 y.t, .int .i64 y.start, .slice gly y.left.length cly, .slice gry y.right.length cry] 87)) := ⟨_, rfl⟩
  obtain ⟨bx, hbx⟩ : ∃ bx, bx = w.heap.size := ⟨_, rfl⟩
  obtain ⟨by', hby⟩ : ∃ by', by' = bx + 1 := ⟨_, rfl⟩
  rw [← hwa] at hk0 hk1 hb0 ⊢
  rw [← hbx] at hk0 hk1 ⊢
  rw [← hby] at hk1 ⊢
  clear hwa hbx hby
  go_upto_region 3 with (go_at_call 51; refine (speaks10_calls _).mono ?_; rintro e w1 ⟨rfl, hb1⟩)
  have hbw1 := belw hb0 hb1
  have hx1 := hk0.below hb1 hk0.lt
  have hy1 := hk1.below hb1 hk1.lt
  have Hy1 := hid (And.intro hy1 hbw1)
  have c0 := hx1.cell 0
  have c1 := hx1.cell 1
  have c2 := hx1.cell 2
  have c3 := hx1.cell 3
  have c4 := hx1.cell 4
  simp only [List.getElem?_cons_zero, List.getElem?_cons_succ] at c0 c1 c2 c3 c4
  have Hmx := hid (made10_calls x glx grx clx crx w1 ((hlx.below hbw1).mono hbw1.size) ((hrx.below hbw1).mono hbw1.size) hlx1 hrx1 hrx2)
  have Hly := hid (And.intro hly (And.intro hry (And.intro hly1 (And.intro hry1 hry2))))
  clear hk0 hk1 hb0 hb1 hbw1 hx1 hy1 hlx hrx hlx1 hrx1 hrx2 hly hry hly1 hry1 hry2
  go_upto_region 4 with (go_at_call 52; refine Hmx.out.mono ?_; rintro e w2 ⟨N1, T1, hN11, hN18, hT13, gn1, gt1, gp1, gn1', gt1', gp1', cn1, ct1, cp1, cn1', ct1', cp1', rfl, hg1, -, hc1, hb2⟩; unfold gramV)
  obtain ⟨G1, hG1⟩ : ∃ G1, G1 = Mk.gram N1 T1 14 4 x := ⟨_, rfl⟩
  have hs1 : Pl.soundB G1 = true := by rw [hG1]; exact Mk.gram_sound x hN11 (by omega) (by omega) (by omega) (by omega)
  have htu : Pl.soundB (trG G1) = true := by rw [hG1]; exact turn_sound x hN11 (by omega) (by omega) (by omega) (by omega)
  have htl1 : G1.terms = Mk.letters 97 T1 := by rw [hG1]; rfl
  rw [← hG1] at hg1 hc1 ⊢
  have H1 := hid (And.intro hs1 (And.intro htu (And.intro htl1 hT13)))
  have hb3 : Below w2.heap.size w2 ((w2.alloc (.cells #[.int .i64 G1.start, .int .i64 G1.rules, .slice gn1 G1.names.length cn1, .slice gt1 G1.terms.length ct1, .slice gp1 G1.prods.length cp1] 30)).alloc (.cells #[.int .i64 G1.start, .int .i64 G1.rules, .slice gn1' G1.names.length cn1', .slice gt1' G1.terms.length ct1', .slice gp1' G1.prods.length cp1'] 33)) := bel_al (bel_al (bel_id w2) _) _
  have kp1 := (Bk.new w2 30 [.int .i64 G1.start, .int .i64 G1.rules, .slice gn1 G1.names.length cn1, .slice gt1 G1.terms.length ct1, .slice gp1 G1.prods.length cp1]).alloc (.cells #[.int .i64 G1.start, .int .i64 G1.rules, .slice gn1' G1.names.length cn1', .slice gt1' G1.terms.length ct1', .slice gp1' G1.prods.length cp1'] 33)
  obtain ⟨w3, hw3⟩ : ∃ w3, w3 = ((w2.alloc (.cells #[.int .i64 G1.start, .int .i64 G1.rules, .slice gn1 G1.names.length cn1, .slice gt1 G1.terms.length ct1, .slice gp1 G1.prods.length cp1] 30)).alloc (.cells #[.int .i64 G1.start, .int .i64 G1.rules, .slice gn1' G1.names.length cn1', .slice gt1' G1.terms.length ct1', .slice gp1' G1.prods.length cp1'] 33)) := ⟨_, rfl⟩
  obtain ⟨bp, hbp⟩ : ∃ bp, bp = w2.heap.size := ⟨_, rfl⟩
  obtain ⟨bp', hbp'⟩ : ∃ bp', bp' = w2.heap.size + 1 := ⟨_, rfl⟩
  rw [← hw3] at kp1 hb3 ⊢
  rw [← hbp'] at ⊢
  rw [← hbp] at kp1 ⊢
  have hbw3 : Below w.heap.size w w3 := belw Hy1.out.2 (belw hb2 hb3)
  have hb13 : Below w1.heap.size w1 w3 := belw hb2 hb3
  have ky3 := Hy1.out.1.below hb13 Hy1.out.1.lt
  have d0 := ky3.cell 0
  have d1 := ky3.cell 1
  have d2 := ky3.cell 2
  have d3 := ky3.cell 3
  have d4 := ky3.cell 4
  simp only [List.getElem?_cons_zero, List.getElem?_cons_succ] at d0 d1 d2 d3 d4
  have Hmy := hid (made10_calls y gly gry cly cry w3 ((Hly.out.1.below hbw3).mono hbw3.size) ((Hly.out.2.1.below hbw3).mono hbw3.size) Hly.out.2.2.1 Hly.out.2.2.2.1 Hly.out.2.2.2.2)
  have HP := hid (And.intro kp1 (And.intro (hg1.later hb3) (And.intro (hc1.later hb3) hbw3)))
  clear hG1 hs1 htu htl1 hN11 hN18 hT13 hg1 hc1 hb2 hb3 kp1 hw3 hbp hbp' hbw3 hb13 ky3 c0 c1 c2 c3 c4
  go_upto_region 5 with (go_at_call 52; refine Hmy.out.mono ?_; rintro e w4 ⟨N2, T2, hN21, hN28, hT23, gn2, gt2, gp2, gn2', gt2', gp2', cn2, ct2, cp2, cn2', ct2', cp2', rfl, hg2, -, hc2, hb4⟩; unfold gramV)
  obtain ⟨G2, hG2⟩ : ∃ G2, G2 = Mk.gram N2 T2 14 4 y := ⟨_, rfl⟩
  have hs2 : Pl.soundB G2 = true := by rw [hG2]; exact Mk.gram_sound y hN21 (by omega) (by omega) (by omega) (by omega)
  have htl2 : G2.terms = Mk.letters 97 T2 := by rw [hG2]; rfl
  rw [← hG2] at hg2 hc2 ⊢
  have H2 := hid (And.intro hs2 (And.intro htl2 hT23))
  have hb5 : Below w4.heap.size w4 ((w4.alloc (.cells #[.int .i64 G2.start, .int .i64 G2.rules, .slice gn2 G2.names.length cn2, .slice gt2 G2.terms.length ct2, .slice gp2 G2.prods.length cp2] 30)).alloc (.cells #[.int .i64 G2.start, .int .i64 G2.rules, .slice gn2' G2.names.length cn2', .slice gt2' G2.terms.length ct2', .slice gp2' G2.prods.length cp2'] 33)) := bel_al (bel_al (bel_id w4) _) _
  have kq1 := (Bk.new w4 30 [.int .i64 G2.start, .int .i64 G2.rules, .slice gn2 G2.names.length cn2, .slice gt2 G2.terms.length ct2, .slice gp2 G2.prods.length cp2]).alloc (.cells #[.int .i64 G2.start, .int .i64 G2.rules, .slice gn2' G2.names.length cn2', .slice gt2' G2.terms.length ct2', .slice gp2' G2.prods.length cp2'] 33)
  obtain ⟨w5, hw5⟩ : ∃ w5, w5 = ((w4.alloc (.cells #[.int .i64 G2.start, .int .i64 G2.rules, .slice gn2 G2.names.length cn2, .slice gt2 G2.terms.length ct2, .slice gp2 G2.prods.length cp2] 30)).alloc (.cells #[.int .i64 G2.start, .int .i64 G2.rules, .slice gn2' G2.names.length cn2', .slice gt2' G2.terms.length ct2', .slice gp2' G2.prods.length cp2'] 33)) := ⟨_, rfl⟩
  obtain ⟨bq, hbq⟩ : ∃ bq, bq = w4.heap.size := ⟨_, rfl⟩
  obtain ⟨bq', hbq'⟩ : ∃ bq', bq' = w4.heap.size + 1 := ⟨_, rfl⟩
  rw [← hw5] at kq1 hb5 ⊢
  rw [← hbq'] at ⊢
  rw [← hbq] at kq1 ⊢
  have hb35 : Below w3.heap.size w3 w5 := belw hb4 hb5
  have kp5 := HP.out.1.below hb35 HP.out.1.lt
  have HB := hid (And.intro (HP.out.2.1.later hb35) (And.intro (HP.out.2.2.1.later hb35) (And.intro (hg2.later hb5) (And.intro (hc2.later hb5) (belw HP.out.2.2.2 hb35)))))
  have HK := hid (And.intro kp5 kq1)
  clear hG2 hs2 htl2 hN21 hN28 hT23 hg2 hc2 hb4 hb5 kq1 hw5 hbq hbq' hb35 kp5 d0 d1 d2 d3 d4
  obtain ⟨most, hm3, hand⟩ := and3 a
  have ht1 : G1.terms.length ≤ 3 := by rw [H1.out.2.2.1, Mk.letters_length]; exact H1.out.2.2.2
  have ht2 : G2.terms.length ≤ 3 := by rw [H2.out.2.1, Mk.letters_length]; exact H2.out.2.2
  have hz1 : ∀ t ∈ G1.terms, t.size ≤ 1000 := fun t ht => by
    rw [H1.out.2.2.1] at ht
    unfold Mk.letters at ht
    obtain ⟨i, -, rfl⟩ := List.mem_map.1 ht
    show 1 ≤ 1000; omega
  have hz2 : ∀ t ∈ G2.terms, t.size ≤ 1000 := fun t ht => by
    rw [H2.out.2.1] at ht
    unfold Mk.letters at ht
    obtain ⟨i, -, rfl⟩ := List.mem_map.1 ht
    show 1 ≤ 1000; omega
  obtain ⟨L1, hL1⟩ : ∃ L1, L1 = wordsB G1.terms.length (derB G1) (most + 1) := ⟨_, rfl⟩
  obtain ⟨L2, hL2⟩ : ∃ L2, L2 = wordsB G2.terms.length (derB G2) (most + 1) := ⟨_, rfl⟩
  have hsn1 := sndG H1.out.1
  have hsn2 := sndG H2.out.1
  have hn1 : L1.length ≤ 121 := by rw [hL1]; exact wordsB_few ht1 (by omega) _
  have hn2 : L2.length ≤ 121 := by rw [hL2]; exact wordsB_few ht2 (by omega) _
  have hlen1 : ∀ z ∈ L1, z.length ≤ 4 := fun z hz => by rw [hL1, wordsB_mem hsn1.t1] at hz; omega
  have hlen2 : ∀ z ∈ L2, z.length ≤ 4 := fun z hz => by rw [hL2, wordsB_mem hsn2.t1] at hz; omega
  have hsame : sameS G1 G2 most = decide (L1 = L2) := by
    unfold sameS
    rw [← hL1, ← hL2, Bool.eq_iff_iff, decide_eq_true_eq, decide_eq_true_eq, H1.out.2.2.1, H2.out.2.1]
    refine told_iff (by have := H1.out.2.2.2; omega) (by have := H2.out.2.2; omega) (by rw [hL1]; exact wordsB_rise hsn1.t1 _ _) (by rw [hL2]; exact wordsB_rise hsn2.t1 _ _) (fun z hz => ?_) (fun z hz => ?_)
    · rw [hL1, wordsB_mem hsn1.t1, H1.out.2.2.1, Mk.letters_length] at hz; exact hz.2.2
    · rw [hL2, wordsB_mem hsn2.t1, H2.out.2.1, Mk.letters_length] at hz; exact hz.2.2
  have hturn : sameS G1 (trG G1) most = true := by
    unfold sameS
    rw [decide_eq_true_eq]
    have hst : ∀ s ∈ [G1.start], -(G1.terms.length : Int) ≤ s := fun s hs => by rw [List.mem_singleton] at hs; have := hsn1.s0; omega
    have htt : (trG G1).terms.length = G1.terms.length := List.length_reverse
    refine told_turn hsn1 (most := most) (wordsB_rise hsn1.t1 _ _) (wordsB_rise (by rw [htt]; exact hsn1.t1) _ _) (fun z => ?_) (fun z => ?_)
    · rw [wordsB_mem hsn1.t1, derB_iff]
      constructor
      · rintro ⟨h1, h2, -⟩; exact ⟨h1, by omega⟩
      · rintro ⟨h1, h2⟩; exact ⟨h1, by omega, h1.letters hsn1.t1 hsn1.r0 hst⟩
    · rw [wordsB_mem (by rw [htt]; exact hsn1.t1), derB_iff, htt]
      constructor
      · rintro ⟨h1, h2, -⟩; exact ⟨h1, by omega⟩
      · rintro ⟨h1, h2⟩; exact ⟨h1, by omega, h1.letters hsn1.t1 (trP_lo hsn1.r0) hst⟩
  have hw1 := words_small w5 G1 gn1 gt1 gp1 cn1 ct1 cp1 most (by omega) ht1 H1.out.1 HB.out.1 HB.out.2.1
  have hw2 := fun W (hW : Below w5.heap.size w5 W) => words_small W G2 gn2 gt2 gp2 cn2 ct2 cp2 most (by omega) ht2 H2.out.1 (HB.out.2.2.1.later hW) (HB.out.2.2.2.1.later hW)
  have hsm := fun W (hW : Below w5.heap.size w5 W) => lsame_calls W G1 G2 gn1 gt1 gp1 gn2 gt2 gp2 cn1 ct1 cp1 cn2 ct2 cp2 most (by omega) ht1 ht2 H1.out.1 H2.out.1 hz1 hz2 (HB.out.1.later hW) (HB.out.2.2.1.later hW) (HB.out.2.1.later hW) (HB.out.2.2.2.1.later hW)
  rw [← hL1] at hw1
  simp only [← hL2] at hw2
  rw [hsame] at hsm
  obtain ⟨M1, hM1⟩ : ∃ M1, M1 = L1.length := ⟨_, rfl⟩
  obtain ⟨M2, hM2⟩ : ∃ M2, M2 = L2.length := ⟨_, rfl⟩
  rw [← hM1] at hw1
  simp only [← hM2] at hw2
  obtain ⟨sm, hsme⟩ : ∃ sm, sm = decide (L1 = L2) := ⟨_, rfl⟩
  rw [← hsme] at hsm
  have hMI1 : (M1 : Int) ≤ 121 := by omega
  have hMI2 : (M2 : Int) ≤ 121 := by omega
  have Hw1 := hid hw1
  have Hw2 := hid hw2
  have Hsm := hid hsm
  have HL := hid (And.intro hM1 (And.intro hM2 (And.intro hlen1 (And.intro hlen2 hsme))))
  have Htn := hid (And.intro hturn (And.intro hz1 (And.intro ht1 hm3)))
  have hS : ∀ W, Below w5.heap.size w5 W → (W.cell? ⟨bp, 0, none⟩ = some (.int .i64 G1.start) ∧ W.cell? ⟨bp, 1, none⟩ = some (.int .i64 G1.rules) ∧ W.cell? ⟨bp, 2, none⟩ = some (.slice gn1 G1.names.length cn1) ∧ W.cell? ⟨bp, 3, none⟩ = some (.slice gt1 G1.terms.length ct1) ∧ W.cell? ⟨bp, 4, none⟩ = some (.slice gp1 G1.prods.length cp1) ∧ W.cell? ⟨bq, 0, none⟩ = some (.int .i64 G2.start) ∧ W.cell? ⟨bq, 1, none⟩ = some (.int .i64 G2.rules) ∧ W.cell? ⟨bq, 2, none⟩ = some (.slice gn2 G2.names.length cn2) ∧ W.cell? ⟨bq, 3, none⟩ = some (.slice gt2 G2.terms.length ct2) ∧ W.cell? ⟨bq, 4, none⟩ = some (.slice gp2 G2.prods.length cp2)) := fun W hW => by
    have h1 := HK.out.1.below hW HK.out.1.lt
    have h2 := HK.out.2.below hW HK.out.2.lt
    exact ⟨h1.cell 0, h1.cell 1, h1.cell 2, h1.cell 3, h1.cell 4, h2.cell 0, h2.cell 1, h2.cell 2, h2.cell 3, h2.cell 4⟩
  have HS := hid hS
  obtain ⟨p0, p1, p2, p3, p4, -, -, -, -, -⟩ := hS w5 (Below.refl _ _)
  clear hw1 hw2 hsm hL1 hL2 hsn1 hsn2 hn1 hn2 hlen1 hlen2 hsame hturn hM1 hM2 hsme hz1 hz2 ht1 ht2 hm3 hS
  go_upto_region 7 with (go_at_call 53; refine Hw1.out.mono ?_; rintro e w6 ⟨g6, c6, rfl, ho6, hb6⟩)
  obtain ⟨-, -, -, -, -, q0, q1, q2, q3, q4⟩ := HS.out w6 hb6
  have Ho6 := hid ho6
  have Hb6 := hid hb6
  have H22 := hid (Hw2.out w6 hb6)
  clear ho6 hb6 p0 p1 p2 p3 p4
  go_upto_region 8 with (go_at_call 53; refine H22.out.mono ?_; rintro e w7 ⟨g7, c7, rfl, ho7, hb7⟩)
  have hb57 := belw Hb6.out hb7
  obtain ⟨r0, r1, r2, r3, r4, s0, s1, s2, s3, s4⟩ := HS.out w7 hb57
  have Ho7 := hid ho7
  have Hb7 := hid hb7
  have Hb57 := hid hb57
  have H33 := hid (Hsm.out w7 hb57)
  clear ho7 hb7 hb57 q0 q1 q2 q3 q4
  go_upto_region 9 with (go_at_call 59; refine H33.out.mono ?_; rintro e w8 ⟨rfl, hb8⟩)
  have Hb8 := hid hb8
  clear hb8 r0 r1 r2 r3 r4 s0 s1 s2 s3 s4
  go_wp2_with fail
  go_loopg [17, 18] (min M1 M2) (fun k v17 v18 wr => SmAt w8 L1 L2 k v17 v18 wr)
  case atStart =>
    refine ⟨0, ?_, rfl, Nat.zero_le _, by rw [← HL.out.1, ← HL.out.2.1]; rfl, Below.refl _ _⟩
    rw [← HL.out.1, ← HL.out.2.1]
    have e : ((M1 : Int) == (M2 : Int)) = decide (M1 = M2) := by rw [Bool.eq_iff_iff]; simp; omega
    rw [e]
    simp
  case round =>
    obtain ⟨i, rfl, rfl, hi, hk, hb⟩ := hrel
    have Hk := hid hk
    have Hb := hid hb
    have h1M := HL.out.1
    have h2M := HL.out.2.1
    by_cases hlt : i < min M1 M2
    · have hlt1 : (i : Int) < (M1 : Int) := by omega
      have hlt2 : (i : Int) < (M2 : Int) := by omega
      have hi0 : (0 : Int) ≤ (i : Int) := by omega
      obtain ⟨z, hz⟩ : ∃ z, L1[i]? = some z := ⟨_, List.getElem?_eq_getElem (by omega)⟩
      obtain ⟨y', hy⟩ : ∃ y', L2[i]? = some y' := ⟨_, List.getElem?_eq_getElem (by omega)⟩
      have hzl := HL.out.2.2.1 z (List.mem_of_getElem? hz)
      have hyl := HL.out.2.2.2.1 y' (List.mem_of_getElem? hy)
      obtain ⟨ga, gx, cx, hga, hgal, hcx, hrx⟩ := wd_at Ho6.out (Hb7.out.trans ((Hb8.out.trans (hb.mono Hb8.out.size)).mono Hb7.out.size)) hz
      obtain ⟨gb, gy, cy, hgb, hgbl, hcy, hry⟩ := wd_at Ho7.out (Hb8.out.trans (hb.mono Hb8.out.size)) hy
      have hgaw : ga < wr.heap.size := by have := hb.size; have := Hb8.out.size; have := Hb7.out.size; omega
      have hgbw : gb < wr.heap.size := by have := hb.size; have := Hb8.out.size; omega
      have hal := fun W (hW : Below wr.heap.size wr W) => alike_calls W gx gy cx cy (toI z) (toI y') ((hrx.below hW).mono hW.size) ((hry.below hW).mono hW.size) (by rw [toI_len]; omega) (by rw [toI_len]; omega)
      obtain ⟨lx, hlx⟩ : ∃ lx, lx = z.length := ⟨_, rfl⟩
      obtain ⟨ly, hly⟩ : ∃ ly, ly = y'.length := ⟨_, rfl⟩
      obtain ⟨eq', heq⟩ : ∃ eq' : Bool, eq' = decide (toI z = toI y') := ⟨_, rfl⟩
      simp only [toI_len, ← hlx, ← hly, ← heq] at hal
      rw [← hlx] at hcx
      rw [← hly] at hcy
      have hnew : decide (L1.length = L2.length ∧ L1.take (i + 1) = L2.take (i + 1)) = (decide (L1.length = L2.length ∧ L1.take i = L2.take i) && eq') := by
        rw [heq, Bool.eq_iff_iff, Bool.and_eq_true, decide_eq_true_eq, decide_eq_true_eq, decide_eq_true_eq, List.take_add_one, List.take_add_one, hz, hy]
        have hll : (L1.take i).length = (L2.take i).length := by rw [List.length_take, List.length_take]; omega
        constructor
        · rintro ⟨e1, e2⟩
          obtain ⟨e3, e4⟩ := List.append_inj e2 hll
          exact ⟨⟨e1, e3⟩, by injection e4 with e4; rw [e4]⟩
        · rintro ⟨⟨e1, e2⟩, e3⟩
          exact ⟨e1, by rw [e2, toI_inj e3]⟩
      have hS0 : ∀ W, Below wr.heap.size wr W → (W.cell? ⟨ga, i, none⟩ = some (.slice gx lx cx) ∧ W.cell? ⟨gb, i, none⟩ = some (.slice gy ly cy) ∧ Hid (Below wr.heap.size wr W)) := fun W hW => ⟨(hW.cell (p := ⟨ga, i, none⟩) hgaw).trans hcx, (hW.cell (p := ⟨gb, i, none⟩) hgbw).trans hcy, hid hW⟩
      have HS0 := hid hS0
      have Hw0 := hid (show Below wr.heap.size wr wr.drew from below_drewN (Below.refl _ _) 1)
      have Hal := hid hal
      have Hlt := hid hlt
      obtain ⟨wb, hwb⟩ : ∃ wb : Bool, wb = decide (L1.length = L2.length ∧ L1.take i = L2.take i) := ⟨_, rfl⟩
      rw [← hwb] at hnew ⊢
      have Hnew := hid hnew
      subst hga
      subst hgb
      clear hk hb hi hz hy hzl hyl hgal hgbl hcx hrx hcy hry hgaw hgbw hal hlx hly heq hnew hS0 hlt hwb h1M h2M
      go_upto_region 15 with fail
      cases wb with
      | true =>
        refine wp_region_held_drew (S := fun W : World => W.cell? ⟨ga, i, none⟩ = some (.slice gx lx cx) ∧ W.cell? ⟨gb, i, none⟩ = some (.slice gy ly cy) ∧ Hid (Below wr.heap.size wr W)) (by kernel_rfl) (HS0.out _ Hw0.out) (fun hHeld => ?_)
        refine wpAnyH_take (i := 0) (oi := ({ dst := some 86, op := Op.move (Operand.tmp 17), type := 4, pos := "law.go:112", after := #[], guard := none } : Oper)) (v := ?_) rfl (by kernel_rfl) (by kernel_rfl) (by kernel_rfl) (fun _ _ _ h => h) (Or.inl ⟨by kernel_rfl, ?_⟩) (by assumption) ?_
        rotate_left
        · intro w hSw
          try dsimp only at hSw
          go_simp
          try with_reducible rfl
        try simp only [Act.put, List.setIfInBounds_toArray, List.set_cons_zero, List.set_cons_succ]
        refine wpAnyH_take (i := 1) (oi := ({ dst := some 87, op := Op.move (Operand.tmp 86), type := 4, pos := "law.go:112", after := #[{ on := 0, ground := Ground.data }], guard := none } : Oper)) (v := ?_) rfl (by kernel_rfl) (by kernel_rfl) (by kernel_rfl) (fun _ _ _ h => h) (Or.inl ⟨by kernel_rfl, ?_⟩) (by assumption) ?_
        rotate_left
        · intro w hSw
          try dsimp only at hSw
          go_simp
          try with_reducible rfl
        try simp only [Act.put, List.setIfInBounds_toArray, List.set_cons_zero, List.set_cons_succ]
        refine wpAnyH_take (i := 2) (oi := ({ dst := some 88, op := Op.move (Operand.tmp 11), type := 23, pos := "law.go:112", after := #[{ on := 1, ground := Ground.guard }], guard := some (1, true) } : Oper)) (v := ?_) rfl (by kernel_rfl) (by kernel_rfl) (by kernel_rfl) (fun _ _ _ h => h) (Or.inl ⟨by kernel_rfl, ?_⟩) (by assumption) ?_
        rotate_left
        · intro w hSw
          try dsimp only at hSw
          go_simp
          try with_reducible rfl
        try simp only [Act.put, List.setIfInBounds_toArray, List.set_cons_zero, List.set_cons_succ]
        refine wpAnyH_take (i := 3) (oi := ({ dst := some 89, op := Op.move (Operand.tmp 18), type := 3, pos := "law.go:112", after := #[{ on := 1, ground := Ground.guard }], guard := some (1, true) } : Oper)) (v := ?_) rfl (by kernel_rfl) (by kernel_rfl) (by kernel_rfl) (fun _ _ _ h => h) (Or.inl ⟨by kernel_rfl, ?_⟩) (by assumption) ?_
        rotate_left
        · intro w hSw
          try dsimp only at hSw
          go_simp
          try with_reducible rfl
        try simp only [Act.put, List.setIfInBounds_toArray, List.set_cons_zero, List.set_cons_succ]
        refine wpAnyH_take (i := 4) (oi := ({ dst := some 90, op := Op.indexAddr 23 (Operand.tmp 88) (Operand.tmp 89), type := 0, pos := "law.go:112", after := #[{ on := 2, ground := Ground.data }, { on := 3, ground := Ground.data }, { on := 1, ground := Ground.guard }], guard := some (1, true) } : Oper)) (v := ?_) rfl (by kernel_rfl) (by kernel_rfl) (by kernel_rfl) (fun _ _ _ h => h) (Or.inl ⟨by kernel_rfl, ?_⟩) (by assumption) ?_
        rotate_left
        · intro w hSw
          try dsimp only at hSw
          go_simp
          try with_reducible rfl
        try simp only [Act.put, List.setIfInBounds_toArray, List.set_cons_zero, List.set_cons_succ]
        refine wpAnyH_take (i := 5) (oi := ({ dst := some 91, op := Op.load 22 (Operand.tmp 90), type := 22, pos := "law.go:112", after := #[{ on := 4, ground := Ground.data }, { on := 1, ground := Ground.guard }], guard := some (1, true) } : Oper)) (v := ?_) rfl (by kernel_rfl) (by kernel_rfl) (by kernel_rfl) (fun _ _ _ h => h) (Or.inl ⟨by kernel_rfl, ?_⟩) (by assumption) ?_
        rotate_left
        · intro w hSw
          try dsimp only at hSw
          go_simp
          try with_reducible rfl
        try simp only [Act.put, List.setIfInBounds_toArray, List.set_cons_zero, List.set_cons_succ]
        refine wpAnyH_take (i := 6) (oi := ({ dst := some 92, op := Op.move (Operand.tmp 13), type := 23, pos := "law.go:112", after := #[{ on := 1, ground := Ground.guard }], guard := some (1, true) } : Oper)) (v := ?_) rfl (by kernel_rfl) (by kernel_rfl) (by kernel_rfl) (fun _ _ _ h => h) (Or.inl ⟨by kernel_rfl, ?_⟩) (by assumption) ?_
        rotate_left
        · intro w hSw
          try dsimp only at hSw
          go_simp
          try with_reducible rfl
        try simp only [Act.put, List.setIfInBounds_toArray, List.set_cons_zero, List.set_cons_succ]
        refine wpAnyH_take (i := 7) (oi := ({ dst := some 93, op := Op.move (Operand.tmp 18), type := 3, pos := "law.go:112", after := #[{ on := 1, ground := Ground.guard }], guard := some (1, true) } : Oper)) (v := ?_) rfl (by kernel_rfl) (by kernel_rfl) (by kernel_rfl) (fun _ _ _ h => h) (Or.inl ⟨by kernel_rfl, ?_⟩) (by assumption) ?_
        rotate_left
        · intro w hSw
          try dsimp only at hSw
          go_simp
          try with_reducible rfl
        try simp only [Act.put, List.setIfInBounds_toArray, List.set_cons_zero, List.set_cons_succ]
        refine wpAnyH_take (i := 8) (oi := ({ dst := some 94, op := Op.indexAddr 23 (Operand.tmp 92) (Operand.tmp 93), type := 0, pos := "law.go:112", after := #[{ on := 6, ground := Ground.data }, { on := 7, ground := Ground.data }, { on := 1, ground := Ground.guard }], guard := some (1, true) } : Oper)) (v := ?_) rfl (by kernel_rfl) (by kernel_rfl) (by kernel_rfl) (fun _ _ _ h => h) (Or.inl ⟨by kernel_rfl, ?_⟩) (by assumption) ?_
        rotate_left
        · intro w hSw
          try dsimp only at hSw
          go_simp
          try with_reducible rfl
        try simp only [Act.put, List.setIfInBounds_toArray, List.set_cons_zero, List.set_cons_succ]
        refine wpAnyH_take (i := 9) (oi := ({ dst := some 95, op := Op.load 22 (Operand.tmp 94), type := 22, pos := "law.go:112", after := #[{ on := 8, ground := Ground.data }, { on := 1, ground := Ground.guard }], guard := some (1, true) } : Oper)) (v := ?_) rfl (by kernel_rfl) (by kernel_rfl) (by kernel_rfl) (fun _ _ _ h => h) (Or.inl ⟨by kernel_rfl, ?_⟩) (by assumption) ?_
        rotate_left
        · intro w hSw
          try dsimp only at hSw
          go_simp
          try with_reducible rfl
        try simp only [Act.put, List.setIfInBounds_toArray, List.set_cons_zero, List.set_cons_succ]
        refine wpAnyH_ready (rs := [10]) (by kernel_rfl) (by simp) ?_
        refine AllReadyH.cons (o := ({ dst := some 96, op := Op.call { callee := Callee.value (Operand.func 55), args := #[Operand.tmp 91, Operand.tmp 95], argTypes := #[22, 22] }, type := 4, pos := "law.go:112", after := #[{ on := 5, ground := Ground.data }, { on := 9, ground := Ground.data }, { on := 1, ground := Ground.chain }, { on := 1, ground := Ground.guard }], guard := some (1, true) } : Oper)) rfl (fun K hK => ?_) AllReadyH.nil
        go_simp
        go_at_call 55
        refine (Hal.out _ Hw0.out).mono ?_
        rintro e w9 ⟨rfl, hb9⟩
        have Hw9 := hid (belw Hw0.out hb9)
        clear hb9
        try go_simp
        refine hK.out _ _ (HS0.out _ Hw9.out) (fun hH2 => ?_)
        clear hK K hHeld
        have hHeld := hH2
        clear hH2
        try simp only [Act.put, List.setIfInBounds_toArray, List.set_cons_zero, List.set_cons_succ]
        refine wpAnyH_take (i := 11) (oi := ({ dst := some 97, op := Op.pick (Operand.tmp 87) (Operand.tmp 96) (Operand.const (Value.bool false)), type := 4, pos := "law.go:112", after := #[{ on := 1, ground := Ground.data }, { on := 10, ground := Ground.data }], guard := none } : Oper)) (v := ?_) rfl (by kernel_rfl) (by kernel_rfl) (by kernel_rfl) (fun _ _ _ h => h) (Or.inl ⟨by kernel_rfl, ?_⟩) (by assumption) ?_
        rotate_left
        · intro w hSw
          try dsimp only at hSw
          go_simp
          try with_reducible rfl
        try simp only [Act.put, List.setIfInBounds_toArray, List.set_cons_zero, List.set_cons_succ]
        refine wpAnyH_take (i := 12) (oi := ({ dst := some 17, op := Op.assign (Operand.tmp 97), type := 4, pos := "law.go:112", after := #[{ on := 11, ground := Ground.data }, { on := 10, ground := Ground.chain }, { on := 0, ground := Ground.phase }, { on := 1, ground := Ground.phase }, { on := 2, ground := Ground.phase }, { on := 3, ground := Ground.phase }, { on := 4, ground := Ground.phase }, { on := 5, ground := Ground.phase }, { on := 6, ground := Ground.phase }, { on := 7, ground := Ground.phase }, { on := 8, ground := Ground.phase }, { on := 9, ground := Ground.phase }, { on := 10, ground := Ground.phase }, { on := 11, ground := Ground.phase }], guard := none } : Oper)) (v := ?_) rfl (by kernel_rfl) (by kernel_rfl) (by kernel_rfl) (fun _ _ _ h => h) (Or.inl ⟨by kernel_rfl, ?_⟩) (by assumption) ?_
        rotate_left
        · intro w hSw
          try dsimp only at hSw
          go_simp
          try with_reducible rfl
        try simp only [Act.put, List.setIfInBounds_toArray, List.set_cons_zero, List.set_cons_succ]
        refine wpAnyH_done (by kernel_rfl) ?_ _
        go_wp2_with fail
        go_roundg (min M1 M2 - (i + 1))
        case measure => have := Hk.out; have := Hlt.out; have := HL.out; omega
        case rel => exact ⟨i + 1, by rw [Hnew.out]; rfl, by go_num, by have := Hlt.out; have := HL.out; omega, by have := HL.out; omega, belw Hb.out Hw9.out⟩
      | false =>
        refine wp_region_held_drew (S := fun W : World => Hid (Below wr.heap.size wr W)) (by kernel_rfl) Hw0 (fun hHeld => ?_)
        refine wpAnyH_take (i := 0) (oi := ({ dst := some 86, op := Op.move (Operand.tmp 17), type := 4, pos := "law.go:112", after := #[], guard := none } : Oper)) (v := ?_) rfl (by kernel_rfl) (by kernel_rfl) (by kernel_rfl) (fun _ _ _ h => h) (Or.inl ⟨by kernel_rfl, ?_⟩) (by assumption) ?_
        rotate_left
        · intro w hSw
          try dsimp only at hSw
          go_simp
          try with_reducible rfl
        try simp only [Act.put, List.setIfInBounds_toArray, List.set_cons_zero, List.set_cons_succ]
        refine wpAnyH_take (i := 1) (oi := ({ dst := some 87, op := Op.move (Operand.tmp 86), type := 4, pos := "law.go:112", after := #[{ on := 0, ground := Ground.data }], guard := none } : Oper)) (v := ?_) rfl (by kernel_rfl) (by kernel_rfl) (by kernel_rfl) (fun _ _ _ h => h) (Or.inl ⟨by kernel_rfl, ?_⟩) (by assumption) ?_
        rotate_left
        · intro w hSw
          try dsimp only at hSw
          go_simp
          try with_reducible rfl
        try simp only [Act.put, List.setIfInBounds_toArray, List.set_cons_zero, List.set_cons_succ]
        refine wpAnyH_take (i := 2) (oi := ({ dst := some 88, op := Op.move (Operand.tmp 11), type := 23, pos := "law.go:112", after := #[{ on := 1, ground := Ground.guard }], guard := some (1, true) } : Oper)) (v := undef) rfl (by kernel_rfl) (by kernel_rfl) (by kernel_rfl) (fun _ _ _ h => h) (Or.inr ⟨by kernel_rfl, rfl⟩) (by assumption) ?_
        try simp only [Act.put, List.setIfInBounds_toArray, List.set_cons_zero, List.set_cons_succ]
        refine wpAnyH_take (i := 3) (oi := ({ dst := some 89, op := Op.move (Operand.tmp 18), type := 3, pos := "law.go:112", after := #[{ on := 1, ground := Ground.guard }], guard := some (1, true) } : Oper)) (v := undef) rfl (by kernel_rfl) (by kernel_rfl) (by kernel_rfl) (fun _ _ _ h => h) (Or.inr ⟨by kernel_rfl, rfl⟩) (by assumption) ?_
        try simp only [Act.put, List.setIfInBounds_toArray, List.set_cons_zero, List.set_cons_succ]
        refine wpAnyH_take (i := 4) (oi := ({ dst := some 90, op := Op.indexAddr 23 (Operand.tmp 88) (Operand.tmp 89), type := 0, pos := "law.go:112", after := #[{ on := 2, ground := Ground.data }, { on := 3, ground := Ground.data }, { on := 1, ground := Ground.guard }], guard := some (1, true) } : Oper)) (v := undef) rfl (by kernel_rfl) (by kernel_rfl) (by kernel_rfl) (fun _ _ _ h => h) (Or.inr ⟨by kernel_rfl, rfl⟩) (by assumption) ?_
        try simp only [Act.put, List.setIfInBounds_toArray, List.set_cons_zero, List.set_cons_succ]
        refine wpAnyH_take (i := 5) (oi := ({ dst := some 91, op := Op.load 22 (Operand.tmp 90), type := 22, pos := "law.go:112", after := #[{ on := 4, ground := Ground.data }, { on := 1, ground := Ground.guard }], guard := some (1, true) } : Oper)) (v := undef) rfl (by kernel_rfl) (by kernel_rfl) (by kernel_rfl) (fun _ _ _ h => h) (Or.inr ⟨by kernel_rfl, rfl⟩) (by assumption) ?_
        try simp only [Act.put, List.setIfInBounds_toArray, List.set_cons_zero, List.set_cons_succ]
        refine wpAnyH_take (i := 6) (oi := ({ dst := some 92, op := Op.move (Operand.tmp 13), type := 23, pos := "law.go:112", after := #[{ on := 1, ground := Ground.guard }], guard := some (1, true) } : Oper)) (v := undef) rfl (by kernel_rfl) (by kernel_rfl) (by kernel_rfl) (fun _ _ _ h => h) (Or.inr ⟨by kernel_rfl, rfl⟩) (by assumption) ?_
        try simp only [Act.put, List.setIfInBounds_toArray, List.set_cons_zero, List.set_cons_succ]
        refine wpAnyH_take (i := 7) (oi := ({ dst := some 93, op := Op.move (Operand.tmp 18), type := 3, pos := "law.go:112", after := #[{ on := 1, ground := Ground.guard }], guard := some (1, true) } : Oper)) (v := undef) rfl (by kernel_rfl) (by kernel_rfl) (by kernel_rfl) (fun _ _ _ h => h) (Or.inr ⟨by kernel_rfl, rfl⟩) (by assumption) ?_
        try simp only [Act.put, List.setIfInBounds_toArray, List.set_cons_zero, List.set_cons_succ]
        refine wpAnyH_take (i := 8) (oi := ({ dst := some 94, op := Op.indexAddr 23 (Operand.tmp 92) (Operand.tmp 93), type := 0, pos := "law.go:112", after := #[{ on := 6, ground := Ground.data }, { on := 7, ground := Ground.data }, { on := 1, ground := Ground.guard }], guard := some (1, true) } : Oper)) (v := undef) rfl (by kernel_rfl) (by kernel_rfl) (by kernel_rfl) (fun _ _ _ h => h) (Or.inr ⟨by kernel_rfl, rfl⟩) (by assumption) ?_
        try simp only [Act.put, List.setIfInBounds_toArray, List.set_cons_zero, List.set_cons_succ]
        refine wpAnyH_take (i := 9) (oi := ({ dst := some 95, op := Op.load 22 (Operand.tmp 94), type := 22, pos := "law.go:112", after := #[{ on := 8, ground := Ground.data }, { on := 1, ground := Ground.guard }], guard := some (1, true) } : Oper)) (v := undef) rfl (by kernel_rfl) (by kernel_rfl) (by kernel_rfl) (fun _ _ _ h => h) (Or.inr ⟨by kernel_rfl, rfl⟩) (by assumption) ?_
        try simp only [Act.put, List.setIfInBounds_toArray, List.set_cons_zero, List.set_cons_succ]
        refine wpAnyH_take (i := 10) (oi := ({ dst := some 96, op := Op.call { callee := Callee.value (Operand.func 55), args := #[Operand.tmp 91, Operand.tmp 95], argTypes := #[22, 22] }, type := 4, pos := "law.go:112", after := #[{ on := 5, ground := Ground.data }, { on := 9, ground := Ground.data }, { on := 1, ground := Ground.chain }, { on := 1, ground := Ground.guard }], guard := some (1, true) } : Oper)) (v := undef) rfl (by kernel_rfl) (by kernel_rfl) (by kernel_rfl) (fun _ _ _ h => h) (Or.inr ⟨by kernel_rfl, rfl⟩) (by assumption) ?_
        try simp only [Act.put, List.setIfInBounds_toArray, List.set_cons_zero, List.set_cons_succ]
        refine wpAnyH_take (i := 11) (oi := ({ dst := some 97, op := Op.pick (Operand.tmp 87) (Operand.tmp 96) (Operand.const (Value.bool false)), type := 4, pos := "law.go:112", after := #[{ on := 1, ground := Ground.data }, { on := 10, ground := Ground.data }], guard := none } : Oper)) (v := ?_) rfl (by kernel_rfl) (by kernel_rfl) (by kernel_rfl) (fun _ _ _ h => h) (Or.inl ⟨by kernel_rfl, ?_⟩) (by assumption) ?_
        rotate_left
        · intro w hSw
          try dsimp only at hSw
          go_simp
          try with_reducible rfl
        try simp only [Act.put, List.setIfInBounds_toArray, List.set_cons_zero, List.set_cons_succ]
        refine wpAnyH_take (i := 12) (oi := ({ dst := some 17, op := Op.assign (Operand.tmp 97), type := 4, pos := "law.go:112", after := #[{ on := 11, ground := Ground.data }, { on := 10, ground := Ground.chain }, { on := 0, ground := Ground.phase }, { on := 1, ground := Ground.phase }, { on := 2, ground := Ground.phase }, { on := 3, ground := Ground.phase }, { on := 4, ground := Ground.phase }, { on := 5, ground := Ground.phase }, { on := 6, ground := Ground.phase }, { on := 7, ground := Ground.phase }, { on := 8, ground := Ground.phase }, { on := 9, ground := Ground.phase }, { on := 10, ground := Ground.phase }, { on := 11, ground := Ground.phase }], guard := none } : Oper)) (v := ?_) rfl (by kernel_rfl) (by kernel_rfl) (by kernel_rfl) (fun _ _ _ h => h) (Or.inl ⟨by kernel_rfl, ?_⟩) (by assumption) ?_
        rotate_left
        · intro w hSw
          try dsimp only at hSw
          go_simp
          try with_reducible rfl
        try simp only [Act.put, List.setIfInBounds_toArray, List.set_cons_zero, List.set_cons_succ]
        refine wpAnyH_done (by kernel_rfl) ?_ _
        go_wp2_with fail
        go_roundg (min M1 M2 - (i + 1))
        case measure => have := Hk.out; have := Hlt.out; have := HL.out; omega
        case rel => exact ⟨i + 1, by rw [Hnew.out]; rfl, by go_num, by have := Hlt.out; have := HL.out; omega, by have := HL.out; omega, belw Hb.out Hw0.out⟩
    · have hfin : decide (L1.length = L2.length ∧ L1.take i = L2.take i) = sm := by
        rw [HL.out.2.2.2.2, Bool.eq_iff_iff, decide_eq_true_eq, decide_eq_true_eq]
        constructor
        · rintro ⟨e1, e2⟩
          rwa [List.take_of_length_le (by omega), List.take_of_length_le (by omega)] at e2
        · rintro rfl; exact ⟨rfl, rfl⟩
      rw [hfin]
      have hsm : (sm != sm) = false := by simp
      have hor : ¬ (i : Int) < (M1 : Int) ∨ ((i : Int) < (M1 : Int) ∧ ¬ (i : Int) < (M2 : Int)) := by omega
      clear hk hi hlt hfin h1M h2M hb
      obtain ⟨w9, rfl⟩ : ∃ w9 : World, w9 = wr := ⟨_, rfl⟩
      rcases hor with h1 | ⟨h1, h2⟩
      all_goals
        obtain ⟨p0, p1, p2, p3, p4, -, -, -, -, -⟩ := HS.out w9 (belw Hb57.out (belw Hb8.out Hb.out))
        go_upto_region 19 with fail
        have hbw9 : Below w.heap.size w w9 := belw HB.out.2.2.2.2 (belw Hb57.out (belw Hb8.out Hb.out))
        have hb59 : Below w5.heap.size w5 w9 := belw Hb57.out (belw Hb8.out Hb.out)
        have kt := Bk.new w9 30 [.int .i64 G1.start, .int .i64 G1.rules, .slice gn1 G1.names.length cn1, .slice gt1 G1.terms.length ct1, .slice gp1 G1.prods.length cp1]
        have hbt : Below w9.heap.size w9 (w9.alloc (.cells #[.int .i64 G1.start, .int .i64 G1.rules, .slice gn1 G1.names.length cn1, .slice gt1 G1.terms.length ct1, .slice gp1 G1.prods.length cp1] 30)) := bel_al (bel_id w9) _
        obtain ⟨w10, hw10⟩ : ∃ w10, w10 = w9.alloc (.cells #[.int .i64 G1.start, .int .i64 G1.rules, .slice gn1 G1.names.length cn1, .slice gt1 G1.terms.length ct1, .slice gp1 G1.prods.length cp1] 30) := ⟨_, rfl⟩
        obtain ⟨bt, hbte⟩ : ∃ bt, bt = w9.heap.size := ⟨_, rfl⟩
        rw [← hw10] at kt hbt ⊢
        rw [← hbte] at kt ⊢
        have e3 := kt.cell 3
        have f3 := kt.free 3
        have kt3 := kt.set 3 (.slice none 0 0)
        have e4 := kt3.cell 4
        have f4 := kt3.free 4
        have kt4 := kt3.set 4 (.slice none 0 0)
        simp only [List.getElem?_cons_zero, List.getElem?_cons_succ, List.set_cons_zero, List.set_cons_succ] at e3 e4 kt4
        obtain ⟨-, -, -, p3, -, -, -, -, -, -⟩ := HS.out w10 (belw hb59 hbt)
        have hTI : (G1.terms.length : Int) ≤ 3 := by have := Htn.out.2.2.1; omega
        have htg : Tg ((w10.setCell ⟨bt, 3, none⟩ (.slice none 0 0)).setCell ⟨bt, 4, none⟩ (.slice none 0 0)) bt (.int .i64 G1.start) (.int .i64 G1.rules) (.slice gn1 G1.names.length cn1) [] [] (.slice none 0 0) (.slice none 0 0) :=
          ⟨kt4, World.ownsRow_nil _ _ _ _, PrOwn.nil _ _ _ _⟩
        have hbt2 : Below bt w9 ((w10.setCell ⟨bt, 3, none⟩ (.slice none 0 0)).setCell ⟨bt, 4, none⟩ (.slice none 0 0)) := ((hbt.mono (by omega)).setCell (p := ⟨bt, 3, none⟩) (Nat.le_refl bt) _).setCell (p := ⟨bt, 4, none⟩) (Nat.le_refl bt) _
        have Hbte := hid hbte
        have Hb9 := hid (And.intro hbw9 hb59)
        have Htg := hid (And.intro htg hbt2)
        clear p0 p1 p2 p4 kt kt3 kt4 hbt hw10 hbte htg hbt2 hbw9 hb59
        go_upto_region 22 with fail
        obtain ⟨w11, hw11⟩ : ∃ w11, w11 = (w10.setCell ⟨bt, 3, none⟩ (.slice none 0 0)).setCell ⟨bt, 4, none⟩ (.slice none 0 0) := ⟨_, rfl⟩
        rw [← hw11] at Htg ⊢
        clear hw11 e3 f3 e4 f4 p3
        go_wp2_with fail
        go_loopg [21] G1.terms.length (fun k v21 wr => TtAt w9 bt (.int .i64 G1.start) (.int .i64 G1.rules) (.slice gn1 G1.names.length cn1) G1.terms k v21 wr)
        case atStart => exact ⟨0, _, by simp, Nat.zero_le _, rfl, by simpa using Htg.out.1, Htg.out.2⟩
        case round =>
          obtain ⟨j, vt, rfl, hj, hk, htg, hbj⟩ := hrel
          have Hkj := hid hk
          have Hbj := hid hbj
          have Htj := hid htg
          have hb9j : Below w9.heap.size w9 wr := by have h := hbj; rw [Hbte.out] at h; exact h
          by_cases hlt : j < G1.terms.length
          · obtain ⟨q, hq⟩ : ∃ q : Nat, (G1.terms.length : Int) - 1 - (j : Int) = (q : Int) := ⟨G1.terms.length - 1 - j, by omega⟩
            rw [hq]
            have hqT : q < G1.terms.length := by omega
            have hq0 : (0 : Int) ≤ (q : Int) := by omega
            have hqI : (q : Int) < (G1.terms.length : Int) := by omega
            obtain ⟨gT, oT, hgT, hgTl, hcT⟩ := (HB.out.1.later Hb9.out.2).t.at hqT
            subst hgT
            obtain ⟨s, hs⟩ : ∃ s, s = G1.terms[q] := ⟨_, rfl⟩
            rw [← hs] at hcT
            have hrev : (G1.terms.reverse.take j) ++ [s] = G1.terms.reverse.take (j + 1) := by
              rw [List.take_add_one, List.getElem?_reverse (by omega), show G1.terms.length - 1 - j = q by omega, List.getElem?_eq_getElem hqT, ← hs]
              rfl
            have hjl : (G1.terms.reverse.take j).length = j := by rw [List.length_take, List.length_reverse]; omega
            obtain ⟨W0, hW0⟩ : ∃ W0, W0 = wr.drew := ⟨_, rfl⟩
            have hb0W : Below wr.heap.size wr W0 := by rw [hW0]; exact below_drewN (Below.refl _ _) 1
            have HW0 := hid hW0
            clear hW0
            have hlate := htg.later hb0W
            have hbtw : bt ≤ wr.heap.size := by have := htg.k.lt; omega
            obtain ⟨g12, c12, w12, hrun, hc3, hf3, htg2, hb12, hb13⟩ := hlate.term (by rw [hjl]; have := Htn.out.2.2.1; omega) s
            rw [hjl] at hrun htg2 hb13
            rw [hrev] at htg2
            have hbW : Below bt wr W0 := hb0W.mono hbtw
            have hbA : Below bt wr (W0.alloc (.cells #[.string s] 9)) := (hb0W.alloc hb0W.size _).mono hbtw
            have hb12' : Below bt wr w12 := hbW.trans hb12
            have hb13' := hbW.trans hb13
            have hc30 := hlate.k.cell 3
            have hc3A := (hlate.k.alloc (.cells #[.string s] 9)).cell 3
            simp only [List.getElem?_cons_zero, List.getElem?_cons_succ] at hc30 hc3A
            have hS0 : ∀ W, Below bt wr W → (W.cell? ⟨bp, 3, none⟩ = some (.slice (some ⟨gT, oT, none⟩) G1.terms.length ct1) ∧ W.cell? ⟨gT, oT + q, none⟩ = some (.string s)) := fun W hW => by
              have h9 : Below w9.heap.size w9 W := by
                have h := hbj.trans hW
                rw [Hbte.out] at h
                exact h
              obtain ⟨-, -, -, h3, -, -, -, -, -, -⟩ := HS.out W (Hb9.out.2.trans (h9.mono Hb9.out.2.size))
              exact ⟨h3, (h9.cell (p := ⟨gT, oT + q, none⟩) hgTl).trans hcT⟩
            have HS0 := hid hS0
            have Hb0W := hid hbW
            have HbA := hid hbA
            have Hst := hid (And.intro hb12' hb13')
            have Htg2 := hid (And.intro htg2 (hbj.trans hb13'))
            have Hlt := hid (And.intro hlt hq)
            clear hq hk hbj htg hb9j hlt hqT hgTl hcT hs hrev hjl hb0W hlate hbtw htg2 hb12 hb13 hbW hbA hb12' hb13' hS0
            go_upto_region 25 with fail
            refine wp_region_held_drew (S := fun W : World => W.cell? ⟨bp, 3, none⟩ = some (.slice (some ⟨gT, oT, none⟩) G1.terms.length ct1) ∧ W.cell? ⟨gT, oT + q, none⟩ = some (.string s)) (by kernel_rfl) (by rw [← HW0.out]; exact HS0.out _ Hb0W.out) (fun hHeld => ?_)
            rw [← HW0.out] at hHeld ⊢
            refine wpAnyH_take (i := 0) (oi := ({ dst := some 113, op := Op.fieldAddr 30 (Operand.tmp 19) 3, type := 0, pos := "law.go:122", after := #[], guard := none } : Oper)) (v := ?_) rfl (by kernel_rfl) (by kernel_rfl) (by kernel_rfl) (fun _ _ _ h => h) (Or.inl ⟨by kernel_rfl, ?_⟩) (by assumption) ?_
            rotate_left
            · intro w hSw
              try dsimp only at hSw
              go_simp
              try with_reducible rfl
            try simp only [Act.put, List.setIfInBounds_toArray, List.set_cons_zero, List.set_cons_succ]
            refine wpAnyH_take (i := 2) (oi := ({ dst := some 115, op := Op.fieldAddr 30 (Operand.tmp 7) 3, type := 0, pos := "law.go:122", after := #[], guard := none } : Oper)) (v := ?_) rfl (by kernel_rfl) (by kernel_rfl) (by kernel_rfl) (fun _ _ _ h => h) (Or.inl ⟨by kernel_rfl, ?_⟩) (by assumption) ?_
            rotate_left
            · intro w hSw
              try dsimp only at hSw
              go_simp
              try with_reducible rfl
            try simp only [Act.put, List.setIfInBounds_toArray, List.set_cons_zero, List.set_cons_succ]
            refine wpAnyH_take (i := 3) (oi := ({ dst := some 116, op := Op.load 27 (Operand.tmp 115), type := 27, pos := "law.go:122", after := #[{ on := 2, ground := Ground.data }], guard := none } : Oper)) (v := ?_) rfl (by kernel_rfl) (by kernel_rfl) (by kernel_rfl) (fun _ _ _ h => h) (Or.inl ⟨by kernel_rfl, ?_⟩) (by assumption) ?_
            rotate_left
            · intro w hSw
              try dsimp only at hSw
              go_simp
              try with_reducible rfl
            try simp only [Act.put, List.setIfInBounds_toArray, List.set_cons_zero, List.set_cons_succ]
            refine wpAnyH_take (i := 4) (oi := ({ dst := some 117, op := Op.move (Operand.tmp 21), type := 3, pos := "law.go:122", after := #[], guard := none } : Oper)) (v := ?_) rfl (by kernel_rfl) (by kernel_rfl) (by kernel_rfl) (fun _ _ _ h => h) (Or.inl ⟨by kernel_rfl, ?_⟩) (by assumption) ?_
            rotate_left
            · intro w hSw
              try dsimp only at hSw
              go_simp
              try with_reducible rfl
            try simp only [Act.put, List.setIfInBounds_toArray, List.set_cons_zero, List.set_cons_succ]
            refine wpAnyH_take (i := 5) (oi := ({ dst := some 118, op := Op.indexAddr 27 (Operand.tmp 116) (Operand.tmp 117), type := 0, pos := "law.go:122", after := #[{ on := 3, ground := Ground.data }, { on := 4, ground := Ground.data }], guard := none } : Oper)) (v := ?_) rfl (by kernel_rfl) (by kernel_rfl) (by kernel_rfl) (fun _ _ _ h => h) (Or.inl ⟨by kernel_rfl, ?_⟩) (by assumption) ?_
            rotate_left
            · intro w hSw
              try dsimp only at hSw
              go_simp
              try with_reducible rfl
            try simp only [Act.put, List.setIfInBounds_toArray, List.set_cons_zero, List.set_cons_succ]
            refine wpAnyH_take (i := 6) (oi := ({ dst := some 119, op := Op.load 9 (Operand.tmp 118), type := 9, pos := "law.go:122", after := #[{ on := 5, ground := Ground.data }], guard := none } : Oper)) (v := ?_) rfl (by kernel_rfl) (by kernel_rfl) (by kernel_rfl) (fun _ _ _ h => h) (Or.inl ⟨by kernel_rfl, ?_⟩) (by assumption) ?_
            rotate_left
            · intro w hSw
              try dsimp only at hSw
              go_simp
              try with_reducible rfl
            try simp only [Act.put, List.setIfInBounds_toArray, List.set_cons_zero, List.set_cons_succ]
            refine wpAnyH_ready (rs := [1, 7]) (by kernel_rfl) (by simp) ?_
            refine AllReadyH.cons (o := ({ dst := some 114, op := Op.load 27 (Operand.tmp 113), type := 27, pos := "law.go:122", after := #[{ on := 0, ground := Ground.data }], guard := none } : Oper)) rfl (fun K hK => ?_) ?_
            · go_simp
              refine hK.out _ _ (HS0.out _ Hb0W.out) (fun hH2 => ?_)
              clear hK K hHeld
              have hHeld := hH2
              clear hH2
              try simp only [Act.put, List.setIfInBounds_toArray, List.set_cons_zero, List.set_cons_succ]
              refine wpAnyH_ready (rs := [7]) (by kernel_rfl) (by simp) ?_
              refine AllReadyH.cons (o := ({ dst := some 120, op := Op.buildSlice 27 1 #[(0, Operand.tmp 119)], type := 27, pos := "law.go:122", after := #[{ on := 6, ground := Ground.data }], guard := none } : Oper)) rfl (fun K hK => ?_) AllReadyH.nil
              go_simp
              refine hK.out _ _ (HS0.out _ HbA.out) (fun hH2 => ?_)
              clear hK K hHeld
              have hHeld := hH2
              clear hH2
              try simp only [Act.put, List.setIfInBounds_toArray, List.set_cons_zero, List.set_cons_succ]
              refine wpAnyH_ready (rs := [8]) (by kernel_rfl) (by simp) ?_
              refine AllReadyH.cons (o := ({ dst := some 121, op := Op.call { callee := Callee.builtin Builtin.append, args := #[Operand.tmp 114, Operand.tmp 120], argTypes := #[27, 27] }, type := 27, pos := "law.go:122", after := #[{ on := 1, ground := Ground.data }, { on := 7, ground := Ground.data }], guard := none } : Oper)) rfl (fun K hK => ?_) AllReadyH.nil
              refine step_append_run rfl _ _ _ rfl (vt) (.slice (some ⟨W0.heap.size, 0, none⟩) 1 1) (.slice (some ⟨g12, 0, none⟩) (j + 1) c12) w12 (by go_simp) (by go_simp) hrun ?_
              refine hK.out _ _ (HS0.out _ Hst.out.1) (fun hH2 => ?_)
              clear hK K hHeld
              have hHeld := hH2
              clear hH2
              try simp only [Act.put, List.setIfInBounds_toArray, List.set_cons_zero, List.set_cons_succ]
              refine wpAnyH_take (i := 9) (oi := ({ dst := some 122, op := Op.fieldAddr 30 (Operand.tmp 19) 3, type := 0, pos := "law.go:122", after := #[{ on := 0, ground := Ground.phase }, { on := 1, ground := Ground.phase }, { on := 2, ground := Ground.phase }, { on := 3, ground := Ground.phase }, { on := 4, ground := Ground.phase }, { on := 5, ground := Ground.phase }, { on := 6, ground := Ground.phase }, { on := 7, ground := Ground.phase }, { on := 8, ground := Ground.phase }], guard := none } : Oper)) (v := ?_) rfl (by kernel_rfl) (by kernel_rfl) (by kernel_rfl) (fun _ _ _ h => h) (Or.inl ⟨by kernel_rfl, ?_⟩) (by assumption) ?_
              rotate_left
              · intro w hSw
                try dsimp only at hSw
                go_simp
                try with_reducible rfl
              try simp only [Act.put, List.setIfInBounds_toArray, List.set_cons_zero, List.set_cons_succ]
              refine wpAnyH_ready (rs := [10]) (by kernel_rfl) (by simp) ?_
              refine AllReadyH.cons (o := ({ dst := none, op := Op.store 27 (Operand.tmp 122) (Operand.tmp 121), type := 0, pos := "law.go:122", after := #[{ on := 9, ground := Ground.data }, { on := 8, ground := Ground.data }, { on := 8, ground := Ground.chain }, { on := 0, ground := Ground.phase }, { on := 1, ground := Ground.phase }, { on := 2, ground := Ground.phase }, { on := 3, ground := Ground.phase }, { on := 4, ground := Ground.phase }, { on := 5, ground := Ground.phase }, { on := 6, ground := Ground.phase }, { on := 7, ground := Ground.phase }, { on := 8, ground := Ground.phase }], guard := none } : Oper)) rfl (fun K hK => ?_) AllReadyH.nil
              go_simp
              refine hK.out _ _ (HS0.out _ Hst.out.2) (fun hH2 => ?_)
              clear hK K hHeld
              have hHeld := hH2
              clear hH2
              try simp only [Act.put, List.setIfInBounds_toArray, List.set_cons_zero, List.set_cons_succ]
              refine wpAnyH_done (by kernel_rfl) ?_ _
              go_wp2_with fail
              go_roundg (G1.terms.length - (j + 1))
              case measure => have := Hkj.out; have := Hlt.out; omega
              case rel => exact ⟨j + 1, _, by have := Hlt.out; simp; omega, Hlt.out.1, rfl, Htg2.out.1, Htg2.out.2⟩
            · refine AllReadyH.cons (o := ({ dst := some 120, op := Op.buildSlice 27 1 #[(0, Operand.tmp 119)], type := 27, pos := "law.go:122", after := #[{ on := 6, ground := Ground.data }], guard := none } : Oper)) rfl (fun K hK => ?_) AllReadyH.nil
              go_simp
              refine hK.out _ _ (HS0.out _ HbA.out) (fun hH2 => ?_)
              clear hK K hHeld
              have hHeld := hH2
              clear hH2
              try simp only [Act.put, List.setIfInBounds_toArray, List.set_cons_zero, List.set_cons_succ]
              refine wpAnyH_ready (rs := [1]) (by kernel_rfl) (by simp) ?_
              refine AllReadyH.cons (o := ({ dst := some 114, op := Op.load 27 (Operand.tmp 113), type := 27, pos := "law.go:122", after := #[{ on := 0, ground := Ground.data }], guard := none } : Oper)) rfl (fun K hK => ?_) AllReadyH.nil
              go_simp
              refine hK.out _ _ (HS0.out _ HbA.out) (fun hH2 => ?_)
              clear hK K hHeld
              have hHeld := hH2
              clear hH2
              try simp only [Act.put, List.setIfInBounds_toArray, List.set_cons_zero, List.set_cons_succ]
              refine wpAnyH_ready (rs := [8]) (by kernel_rfl) (by simp) ?_
              refine AllReadyH.cons (o := ({ dst := some 121, op := Op.call { callee := Callee.builtin Builtin.append, args := #[Operand.tmp 114, Operand.tmp 120], argTypes := #[27, 27] }, type := 27, pos := "law.go:122", after := #[{ on := 1, ground := Ground.data }, { on := 7, ground := Ground.data }], guard := none } : Oper)) rfl (fun K hK => ?_) AllReadyH.nil
              refine step_append_run rfl _ _ _ rfl (vt) (.slice (some ⟨W0.heap.size, 0, none⟩) 1 1) (.slice (some ⟨g12, 0, none⟩) (j + 1) c12) w12 (by go_simp) (by go_simp) hrun ?_
              refine hK.out _ _ (HS0.out _ Hst.out.1) (fun hH2 => ?_)
              clear hK K hHeld
              have hHeld := hH2
              clear hH2
              try simp only [Act.put, List.setIfInBounds_toArray, List.set_cons_zero, List.set_cons_succ]
              refine wpAnyH_take (i := 9) (oi := ({ dst := some 122, op := Op.fieldAddr 30 (Operand.tmp 19) 3, type := 0, pos := "law.go:122", after := #[{ on := 0, ground := Ground.phase }, { on := 1, ground := Ground.phase }, { on := 2, ground := Ground.phase }, { on := 3, ground := Ground.phase }, { on := 4, ground := Ground.phase }, { on := 5, ground := Ground.phase }, { on := 6, ground := Ground.phase }, { on := 7, ground := Ground.phase }, { on := 8, ground := Ground.phase }], guard := none } : Oper)) (v := ?_) rfl (by kernel_rfl) (by kernel_rfl) (by kernel_rfl) (fun _ _ _ h => h) (Or.inl ⟨by kernel_rfl, ?_⟩) (by assumption) ?_
              rotate_left
              · intro w hSw
                try dsimp only at hSw
                go_simp
                try with_reducible rfl
              try simp only [Act.put, List.setIfInBounds_toArray, List.set_cons_zero, List.set_cons_succ]
              refine wpAnyH_ready (rs := [10]) (by kernel_rfl) (by simp) ?_
              refine AllReadyH.cons (o := ({ dst := none, op := Op.store 27 (Operand.tmp 122) (Operand.tmp 121), type := 0, pos := "law.go:122", after := #[{ on := 9, ground := Ground.data }, { on := 8, ground := Ground.data }, { on := 8, ground := Ground.chain }, { on := 0, ground := Ground.phase }, { on := 1, ground := Ground.phase }, { on := 2, ground := Ground.phase }, { on := 3, ground := Ground.phase }, { on := 4, ground := Ground.phase }, { on := 5, ground := Ground.phase }, { on := 6, ground := Ground.phase }, { on := 7, ground := Ground.phase }, { on := 8, ground := Ground.phase }], guard := none } : Oper)) rfl (fun K hK => ?_) AllReadyH.nil
              go_simp
              refine hK.out _ _ (HS0.out _ Hst.out.2) (fun hH2 => ?_)
              clear hK K hHeld
              have hHeld := hH2
              clear hH2
              try simp only [Act.put, List.setIfInBounds_toArray, List.set_cons_zero, List.set_cons_succ]
              refine wpAnyH_done (by kernel_rfl) ?_ _
              go_wp2_with fail
              go_roundg (G1.terms.length - (j + 1))
              case measure => have := Hkj.out; have := Hlt.out; omega
              case rel => exact ⟨j + 1, _, by have := Hlt.out; simp; omega, Hlt.out.1, rfl, Htg2.out.1, Htg2.out.2⟩
          · have hge : ¬ (0 : Int) ≤ (G1.terms.length : Int) - 1 - (j : Int) := by omega
            have hjT : G1.terms.reverse.take j = G1.terms.reverse := List.take_of_length_le (by rw [List.length_reverse]; omega)
            rw [hjT] at htg
            have Htg3 := hid (And.intro htg hbj)
            clear hk hbj htg hb9j hlt hjT hj
            go_wp2_with fail
            clear hge
            go_loopg [22] G1.prods.length (fun k v22 wr => TpAt w9 bt (.int .i64 G1.start) (.int .i64 G1.rules) (.slice gn1 G1.names.length cn1) vt G1.terms G1.prods k v22 wr)
            case atStart => exact ⟨0, _, rfl, Nat.zero_le _, rfl, by simpa [trP] using Htg3.out.1, Htg3.out.2⟩
            case round =>
              obtain ⟨i3, vp, rfl, hi3, hk, htg, hbj⟩ := hrel
              have Hki := hid hk
              have Htg4 := hid htg
              have Hbj4 := hid hbj
              have hb9j : Below w9.heap.size w9 wr := by have h := hbj; rw [Hbte.out] at h; exact h
              obtain ⟨-, -, -, -, p4, -, -, -, -, -⟩ := HS.out wr (Hb9.out.2.trans (hb9j.mono Hb9.out.2.size))
              have hPI : (G1.prods.length : Int) ≤ 256 := by have := (sndG H1.out.1).p1; omega
              by_cases hlt : i3 < G1.prods.length
              · have hlt' : (i3 : Int) < (G1.prods.length : Int) := by omega
                have hi30 : (0 : Int) ≤ (i3 : Int) := by omega
                obtain ⟨px, hpx⟩ : ∃ px, px = G1.prods[i3] := ⟨_, rfl⟩
                have hpm : px ∈ G1.prods := by rw [hpx]; exact List.getElem_mem hlt
                have hpi : G1.prods[i3]? = some px := by rw [hpx]; exact List.getElem?_eq_getElem hlt
                obtain ⟨gP, oP, gR, cR, hgP, hgPl, hcL, hcR, hrR⟩ := (HB.out.1.later Hb9.out.2).p i3 px hpi
                subst hgP
                obtain ⟨R, hR⟩ : ∃ R, R = px.2 := ⟨_, rfl⟩
                rw [← hR] at hcR hrR
                have hRn : R.length ≤ 16 := by rw [hR]; exact (sndG H1.out.1).r16 px hpm
                have hRlo : ∀ s ∈ R, -(G1.terms.length : Int) ≤ s ∧ s < 256 := fun s hs => by
                  rw [hR] at hs
                  have h1 := (sndG H1.out.1).r0 px hpm s hs
                  have h2 := (sndG H1.out.1).r1 px hpm s hs
                  have h3 := (sndG H1.out.1).n1
                  exact ⟨h1, by omega⟩
                have HR := hid (And.intro hR (And.intro hRn (And.intro hRlo (And.intro hrR (And.intro hgPl (And.intro hcL (And.intro hcR hpi)))))))
                have Hlt3 := hid hlt
                have HbW := hid hb9j
                have hRI : (R.length : Int) ≤ 16 := by omega
                obtain ⟨w13, rfl⟩ : ∃ w13 : World, w13 = wr := ⟨_, rfl⟩
                clear hk hbj htg hb9j hpx hpm hpi hgPl hcL hcR hrR hR hRn hRlo hlt hi3
                go_wp2_with fail
                go_loopg [23, 24] R.length (fun k v23 v24 wr => TrAt w13 G1.terms.length R k v23 v24 wr)
                case atStart => exact ⟨0, _, rfl, rfl, Nat.zero_le _, rfl, World.ownsRow_nil _ _ _ _, Below.refl _ _⟩
                case round =>
                  obtain ⟨k3, vr, rfl, rfl, hk3, hkm, hown, hbk⟩ := hrel
                  have Hkm := hid hkm
                  have Hown := hid hown
                  have Hbk := hid hbk
                  have hb9k : Below w9.heap.size w9 wr := belw HbW.out hbk
                  obtain ⟨-, -, -, -, p4, -, -, -, -, -⟩ := HS.out wr (Hb9.out.2.trans (hb9k.mono Hb9.out.2.size))
                  have hcRw := (hb9k.cell (p := ⟨gP, oP + i3 * 2 + 1, none⟩) HR.out.2.2.2.2.1).trans HR.out.2.2.2.2.2.2.1
                  have hi3' := Hlt3.out
                  have hlt' : (i3 : Int) < (G1.prods.length : Int) := by omega
                  by_cases hlk : k3 < R.length
                  · have hlk' : (k3 : Int) < (R.length : Int) := by omega
                    have hk0 : (0 : Int) ≤ (k3 : Int) := by omega
                    obtain ⟨s, hs⟩ : ∃ s, s = R[k3] := ⟨_, rfl⟩
                    have hsb := HR.out.2.2.1 s (by rw [hs]; exact List.getElem_mem hlk)
                    obtain ⟨g5, o5, hg5, hg5l, hc5⟩ := HR.out.2.2.2.1.at hlk
                    subst hg5
                    rw [← hs] at hc5
                    have hc5w := (hb9k.cell (p := ⟨g5, o5 + k3, none⟩) hg5l).trans hc5
                    have hs1 : -3 ≤ s := by omega
                    have hs2 : s < 256 := hsb.2
                    obtain ⟨tv, htv⟩ : ∃ tv, tv = trn G1.terms.length s := ⟨_, rfl⟩
                    obtain ⟨zs, hzs⟩ : ∃ zs, zs = (R.take k3).map (trn G1.terms.length) := ⟨_, rfl⟩
                    have hzl : zs.length = k3 := by rw [hzs, List.length_map, List.length_take]; omega
                    rw [← hzs, ← hzl] at hown
                    obtain ⟨ii, hii, i0, i1, i2⟩ := info_parts intInfo
                    obtain ⟨g6', c6', w14, hrun, hown2, hk14, -, -⟩ := int_app (P := Try.prog) hown 22 22 ii Try.underlying22 hii i0 i1 i2 hbk.size (by omega) tv 0
                    rw [hzl] at hrun hown2
                    have hzn : zs ++ [tv] = (R.take (k3 + 1)).map (trn G1.terms.length) := by
                      rw [List.take_succ_eq_append_getElem hlk, List.map_append, ← hzs, htv, hs]; rfl
                    have hzl2 : (zs ++ [tv]).length = k3 + 1 := by rw [List.length_append, hzl]; rfl
                    rw [hzl2, hzn] at hown2
                    have hb14 : Below w13.heap.size w13 w14 := hbk.trans (hk14.to_below hbk.size (fun k e => (World.ownsRow.lt hown k e).1))
                    have hrun : (Builtin.append_ #[22, 22] 22 #[vr, .slice (some ⟨wr.heap.size, 0, none⟩) 1 1]).run Try.prog (wr.alloc (.cells #[.int .i64 tv] 3)) = .ok (.slice (some ⟨g6', 0, none⟩) (k3 + 1) c6') w14 := hrun
                    have Hown2 := hid (And.intro hown2 hb14)
                    have Hlk := hid hlk
                    have hts0 : (s < 0 ∧ -1 - ((G1.terms.length : Int) - 1 - (-1 - s)) = tv) ∨ (¬ s < 0 ∧ s = tv) := by
                      unfold trn at htv
                      by_cases h : s < 0
                      · rw [if_pos h] at htv; exact .inl ⟨h, htv.symm⟩
                      · rw [if_neg h] at htv; exact .inr ⟨h, htv.symm⟩
                    clear hkm hown hbk hb9k hlk hs hsb hg5l hc5 htv hzs hzl hown2 hk14 hzn hzl2 hb14 hk3 hi3' i0 i1 i2 hii
                    rcases hts0 with ⟨hs0, he⟩ | ⟨hs0, he⟩
                    · have He := hid he
                      clear he
                      go_upto_region 36 with fail
                      rw [He.out]
                      go_wp2_with (at_builtin; refine wpList_append_run rfl _ _ _ rfl vr (.slice (some ⟨wr.heap.size, 0, none⟩) 1 1) (.slice (some ⟨g6', 0, none⟩) (k3 + 1) c6') w14 (by rfl) (by rfl) (by exact hrun) ?_)
                      go_roundg (R.length - (k3 + 1))
                      case measure => have := Hkm.out; have := Hlk.out; omega
                      case rel => exact ⟨k3 + 1, _, rfl, by go_num, Hlk.out, rfl, Hown2.out.1, Hown2.out.2⟩
                    · subst he
                      go_wp2_with (at_builtin; refine wpList_append_run rfl _ _ _ rfl vr (.slice (some ⟨wr.heap.size, 0, none⟩) 1 1) (.slice (some ⟨g6', 0, none⟩) (k3 + 1) c6') w14 (by rfl) (by rfl) (by exact hrun) ?_)
                      go_roundg (R.length - (k3 + 1))
                      case measure => have := Hkm.out; have := Hlk.out; omega
                      case rel => exact ⟨k3 + 1, _, rfl, by go_num, Hlk.out, rfl, Hown2.out.1, Hown2.out.2⟩
                  · have hge2 : ¬ (k3 : Int) < (R.length : Int) := by omega
                    have hkR : k3 = R.length := by omega
                    rw [hkR, List.take_length] at hown
                    rw [← List.length_map (f := trn G1.terms.length)] at hown
                    have h4 := Htg4.out.later hbk
                    have hbtw : bt ≤ w13.heap.size := by have := Htg4.out.k.lt; omega
                    have hown3 : wr.ownsRow (bt + 1) 3 1 vr (R.map (trn G1.terms.length)).length ((R.map (trn G1.terms.length)).map (Value.int .i64)) := own_mono hown (by have := Htg4.out.k.lt; omega)
                    obtain ⟨gv, cv, hvr, -⟩ := own_slice hown3
                    obtain ⟨RL, hRL⟩ : ∃ RL, RL = (R.map (trn G1.terms.length)).length := ⟨_, rfl⟩
                    rw [← hRL] at hvr
                    clear hRL Hown
                    subst hvr
                    obtain ⟨W0, hW0⟩ : ∃ W0, W0 = wr.drew := ⟨_, rfl⟩
                    have hb0W : Below wr.heap.size wr W0 := by rw [hW0]; exact below_drewN (Below.refl _ _) 1
                    have HW0 := hid hW0
                    clear hW0
                    have hlate := h4.later hb0W
                    have hbw2 : bt ≤ wr.heap.size := Nat.le_trans hbtw hbk.size
                    have hpl : (trP G1.terms.length (G1.prods.take i3)).length = i3 := by unfold trP; rw [List.length_map, List.length_take]; omega
                    obtain ⟨g12, c12, w12, hrun, hc4, hf4, htg2, hb12, hb13⟩ := hlate.prod (by rw [hpl]; omega) (px.1, R.map (trn G1.terms.length)) (.slice gv RL cv) (own_below hown3 hb0W)
                    rw [hpl] at hrun htg2 hb13
                    have hsn2 : trP G1.terms.length (G1.prods.take i3) ++ [(px.1, R.map (trn G1.terms.length))] = trP G1.terms.length (G1.prods.take (i3 + 1)) := by
                      rw [List.take_add_one, HR.out.2.2.2.2.2.2.2, HR.out.1]
                      exact (trP_snoc _ _ _).symm
                    rw [hsn2] at htg2
                    have hbW : Below bt wr W0 := hb0W.mono hbw2
                    have hbA : Below bt wr (W0.alloc (.cells #[.int .i64 px.1, .slice gv RL cv] 97)) := (hb0W.alloc hb0W.size _).mono hbw2
                    have hb12' : Below bt wr w12 := hbW.trans hb12
                    have hb13' := hbW.trans hb13
                    have hc40 := hlate.k.cell 4
                    have hc4A := (hlate.k.alloc (.cells #[.int .i64 px.1, .slice gv RL cv] 97)).cell 4
                    simp only [List.getElem?_cons_zero, List.getElem?_cons_succ] at hc40 hc4A
                    have hb9wr : Below bt w9 wr := Hbj4.out.trans (hbk.mono hbtw)
                    have hS0 : ∀ W, Below bt wr W → (W.cell? ⟨bp, 4, none⟩ = some (.slice (some ⟨gP, oP, none⟩) G1.prods.length cp1) ∧ W.cell? ⟨gP, oP + i3 * 2, none⟩ = some (.int .i64 px.1)) := fun W hW => by
                      have h9 : Below w9.heap.size w9 W := by
                        have h := hb9wr.trans hW
                        rw [Hbte.out] at h
                        exact h
                      obtain ⟨-, -, -, -, h3, -, -, -, -, -⟩ := HS.out W (Hb9.out.2.trans (h9.mono Hb9.out.2.size))
                      exact ⟨h3, (h9.cell (p := ⟨gP, oP + i3 * 2, none⟩) HR.out.2.2.2.2.1).trans HR.out.2.2.2.2.2.1⟩
                    have HS0 := hid hS0
                    have Hb0W := hid hbW
                    have HbA := hid hbA
                    have Hst := hid (And.intro hb12' hb13')
                    have Htg2 := hid (And.intro htg2 (hb9wr.trans hb13'))
                    clear hkm hown hbk hb9k hlk hkR h4 hbtw hown3 hb0W hlate hbw2 hpl htg2 hb12 hb13 hsn2 hbW hbA hb12' hb13' hS0 hb9wr hk3 hi3'
                    go_upto_region 37 with fail
                    refine wp_region_held_drew (S := fun W : World => W.cell? ⟨bp, 4, none⟩ = some (.slice (some ⟨gP, oP, none⟩) G1.prods.length cp1) ∧ W.cell? ⟨gP, oP + i3 * 2, none⟩ = some (.int .i64 px.1)) (by kernel_rfl) (by rw [← HW0.out]; exact HS0.out _ Hb0W.out) (fun hHeld => ?_)
                    rw [← HW0.out] at hHeld ⊢
                    refine wpAnyH_take (i := 0) (oi := ({ dst := some 162, op := Op.fieldAddr 30 (Operand.tmp 19) 4, type := 0, pos := "law.go:133", after := #[], guard := none } : Oper)) (v := ?_) rfl (by kernel_rfl) (by kernel_rfl) (by kernel_rfl) (fun _ _ _ h => h) (Or.inl ⟨by kernel_rfl, ?_⟩) (by assumption) ?_
                    rotate_left
                    · intro w hSw
                      try dsimp only at hSw
                      go_simp
                      try with_reducible rfl
                    try simp only [Act.put, List.setIfInBounds_toArray, List.set_cons_zero, List.set_cons_succ]
                    refine wpAnyH_take (i := 2) (oi := ({ dst := some 164, op := Op.fieldAddr 30 (Operand.tmp 7) 4, type := 0, pos := "law.go:133", after := #[], guard := none } : Oper)) (v := ?_) rfl (by kernel_rfl) (by kernel_rfl) (by kernel_rfl) (fun _ _ _ h => h) (Or.inl ⟨by kernel_rfl, ?_⟩) (by assumption) ?_
                    rotate_left
                    · intro w hSw
                      try dsimp only at hSw
                      go_simp
                      try with_reducible rfl
                    try simp only [Act.put, List.setIfInBounds_toArray, List.set_cons_zero, List.set_cons_succ]
                    refine wpAnyH_take (i := 3) (oi := ({ dst := some 165, op := Op.load 28 (Operand.tmp 164), type := 28, pos := "law.go:133", after := #[{ on := 2, ground := Ground.data }], guard := none } : Oper)) (v := ?_) rfl (by kernel_rfl) (by kernel_rfl) (by kernel_rfl) (fun _ _ _ h => h) (Or.inl ⟨by kernel_rfl, ?_⟩) (by assumption) ?_
                    rotate_left
                    · intro w hSw
                      try dsimp only at hSw
                      go_simp
                      try with_reducible rfl
                    try simp only [Act.put, List.setIfInBounds_toArray, List.set_cons_zero, List.set_cons_succ]
                    refine wpAnyH_take (i := 4) (oi := ({ dst := some 166, op := Op.move (Operand.tmp 22), type := 3, pos := "law.go:133", after := #[], guard := none } : Oper)) (v := ?_) rfl (by kernel_rfl) (by kernel_rfl) (by kernel_rfl) (fun _ _ _ h => h) (Or.inl ⟨by kernel_rfl, ?_⟩) (by assumption) ?_
                    rotate_left
                    · intro w hSw
                      try dsimp only at hSw
                      go_simp
                      try with_reducible rfl
                    try simp only [Act.put, List.setIfInBounds_toArray, List.set_cons_zero, List.set_cons_succ]
                    refine wpAnyH_take (i := 5) (oi := ({ dst := some 167, op := Op.indexAddr 28 (Operand.tmp 165) (Operand.tmp 166), type := 0, pos := "law.go:133", after := #[{ on := 3, ground := Ground.data }, { on := 4, ground := Ground.data }], guard := none } : Oper)) (v := ?_) rfl (by kernel_rfl) (by kernel_rfl) (by kernel_rfl) (fun _ _ _ h => h) (Or.inl ⟨by kernel_rfl, ?_⟩) (by assumption) ?_
                    rotate_left
                    · intro w hSw
                      try dsimp only at hSw
                      go_simp
                      try with_reducible rfl
                    try simp only [Act.put, List.setIfInBounds_toArray, List.set_cons_zero, List.set_cons_succ]
                    refine wpAnyH_take (i := 6) (oi := ({ dst := some 168, op := Op.fieldAddr 97 (Operand.tmp 167) 0, type := 0, pos := "law.go:133", after := #[{ on := 5, ground := Ground.data }], guard := none } : Oper)) (v := ?_) rfl (by kernel_rfl) (by kernel_rfl) (by kernel_rfl) (fun _ _ _ h => h) (Or.inl ⟨by kernel_rfl, ?_⟩) (by assumption) ?_
                    rotate_left
                    · intro w hSw
                      try dsimp only at hSw
                      go_simp
                      try with_reducible rfl
                    try simp only [Act.put, List.setIfInBounds_toArray, List.set_cons_zero, List.set_cons_succ]
                    refine wpAnyH_take (i := 7) (oi := ({ dst := some 169, op := Op.load 3 (Operand.tmp 168), type := 3, pos := "law.go:133", after := #[{ on := 6, ground := Ground.data }], guard := none } : Oper)) (v := ?_) rfl (by kernel_rfl) (by kernel_rfl) (by kernel_rfl) (fun _ _ _ h => h) (Or.inl ⟨by kernel_rfl, ?_⟩) (by assumption) ?_
                    rotate_left
                    · intro w hSw
                      try dsimp only at hSw
                      go_simp
                      try with_reducible rfl
                    try simp only [Act.put, List.setIfInBounds_toArray, List.set_cons_zero, List.set_cons_succ]
                    refine wpAnyH_take (i := 8) (oi := ({ dst := some 170, op := Op.move (Operand.tmp 23), type := 22, pos := "law.go:133", after := #[], guard := none } : Oper)) (v := ?_) rfl (by kernel_rfl) (by kernel_rfl) (by kernel_rfl) (fun _ _ _ h => h) (Or.inl ⟨by kernel_rfl, ?_⟩) (by assumption) ?_
                    rotate_left
                    · intro w hSw
                      try dsimp only at hSw
                      go_simp
                      try with_reducible rfl
                    try simp only [Act.put, List.setIfInBounds_toArray, List.set_cons_zero, List.set_cons_succ]
                    refine wpAnyH_take (i := 9) (oi := ({ dst := some 171, op := Op.build 97 #[(0, Operand.tmp 169), (1, Operand.tmp 170)], type := 97, pos := "law.go:133", after := #[{ on := 7, ground := Ground.data }, { on := 8, ground := Ground.data }], guard := none } : Oper)) (v := ?_) rfl (by kernel_rfl) (by kernel_rfl) (by kernel_rfl) (fun _ _ _ h => h) (Or.inl ⟨by kernel_rfl, ?_⟩) (by assumption) ?_
                    rotate_left
                    · intro w hSw
                      try dsimp only at hSw
                      go_simp
                      try with_reducible rfl
                    try simp only [Act.put, List.setIfInBounds_toArray, List.set_cons_zero, List.set_cons_succ]
                    refine wpAnyH_ready (rs := [1, 10]) (by kernel_rfl) (by simp) ?_
                    refine AllReadyH.cons (o := ({ dst := some 163, op := Op.load 28 (Operand.tmp 162), type := 28, pos := "law.go:133", after := #[{ on := 0, ground := Ground.data }], guard := none } : Oper)) rfl (fun K hK => ?_) ?_
                    · go_simp
                      refine hK.out _ _ (HS0.out _ Hb0W.out) (fun hH2 => ?_)
                      clear hK K hHeld
                      have hHeld := hH2
                      clear hH2
                      try simp only [Act.put, List.setIfInBounds_toArray, List.set_cons_zero, List.set_cons_succ]
                      refine wpAnyH_ready (rs := [10]) (by kernel_rfl) (by simp) ?_
                      refine AllReadyH.cons (o := ({ dst := some 172, op := Op.buildSlice 28 1 #[(0, Operand.tmp 171)], type := 28, pos := "law.go:133", after := #[{ on := 9, ground := Ground.data }], guard := none } : Oper)) rfl (fun K hK => ?_) AllReadyH.nil
                      go_simp
                      refine hK.out _ _ (HS0.out _ HbA.out) (fun hH2 => ?_)
                      clear hK K hHeld
                      have hHeld := hH2
                      clear hH2
                      try simp only [Act.put, List.setIfInBounds_toArray, List.set_cons_zero, List.set_cons_succ]
                      refine wpAnyH_ready (rs := [11]) (by kernel_rfl) (by simp) ?_
                      refine AllReadyH.cons (o := ({ dst := some 173, op := Op.call { callee := Callee.builtin Builtin.append, args := #[Operand.tmp 163, Operand.tmp 172], argTypes := #[28, 28] }, type := 28, pos := "law.go:133", after := #[{ on := 1, ground := Ground.data }, { on := 10, ground := Ground.data }], guard := none } : Oper)) rfl (fun K hK => ?_) AllReadyH.nil
                      refine step_append_run rfl _ _ _ rfl (vp) (.slice (some ⟨W0.heap.size, 0, none⟩) 1 1) (.slice (some ⟨g12, 0, none⟩) (i3 + 1) c12) w12 (by go_simp) (by go_simp) hrun ?_
                      refine hK.out _ _ (HS0.out _ Hst.out.1) (fun hH2 => ?_)
                      clear hK K hHeld
                      have hHeld := hH2
                      clear hH2
                      try simp only [Act.put, List.setIfInBounds_toArray, List.set_cons_zero, List.set_cons_succ]
                      refine wpAnyH_take (i := 12) (oi := ({ dst := some 174, op := Op.fieldAddr 30 (Operand.tmp 19) 4, type := 0, pos := "law.go:133", after := #[{ on := 0, ground := Ground.phase }, { on := 1, ground := Ground.phase }, { on := 2, ground := Ground.phase }, { on := 3, ground := Ground.phase }, { on := 4, ground := Ground.phase }, { on := 5, ground := Ground.phase }, { on := 6, ground := Ground.phase }, { on := 7, ground := Ground.phase }, { on := 8, ground := Ground.phase }, { on := 9, ground := Ground.phase }, { on := 10, ground := Ground.phase }, { on := 11, ground := Ground.phase }], guard := none } : Oper)) (v := ?_) rfl (by kernel_rfl) (by kernel_rfl) (by kernel_rfl) (fun _ _ _ h => h) (Or.inl ⟨by kernel_rfl, ?_⟩) (by assumption) ?_
                      rotate_left
                      · intro w hSw
                        try dsimp only at hSw
                        go_simp
                        try with_reducible rfl
                      try simp only [Act.put, List.setIfInBounds_toArray, List.set_cons_zero, List.set_cons_succ]
                      refine wpAnyH_ready (rs := [13]) (by kernel_rfl) (by simp) ?_
                      refine AllReadyH.cons (o := ({ dst := none, op := Op.store 28 (Operand.tmp 174) (Operand.tmp 173), type := 0, pos := "law.go:133", after := #[{ on := 12, ground := Ground.data }, { on := 11, ground := Ground.data }, { on := 11, ground := Ground.chain }, { on := 0, ground := Ground.phase }, { on := 1, ground := Ground.phase }, { on := 2, ground := Ground.phase }, { on := 3, ground := Ground.phase }, { on := 4, ground := Ground.phase }, { on := 5, ground := Ground.phase }, { on := 6, ground := Ground.phase }, { on := 7, ground := Ground.phase }, { on := 8, ground := Ground.phase }, { on := 9, ground := Ground.phase }, { on := 10, ground := Ground.phase }, { on := 11, ground := Ground.phase }], guard := none } : Oper)) rfl (fun K hK => ?_) AllReadyH.nil
                      go_simp
                      refine hK.out _ _ (HS0.out _ Hst.out.2) (fun hH2 => ?_)
                      clear hK K hHeld
                      have hHeld := hH2
                      clear hH2
                      try simp only [Act.put, List.setIfInBounds_toArray, List.set_cons_zero, List.set_cons_succ]
                      refine wpAnyH_done (by kernel_rfl) ?_ _
                      go_wp2_with fail
                      go_roundg (G1.prods.length - (i3 + 1))
                      case measure => have := Hki.out; have := Hlt3.out; omega
                      case rel => exact ⟨i3 + 1, _, by go_num, Hlt3.out, rfl, Htg2.out.1, Htg2.out.2⟩
                    · refine AllReadyH.cons (o := ({ dst := some 172, op := Op.buildSlice 28 1 #[(0, Operand.tmp 171)], type := 28, pos := "law.go:133", after := #[{ on := 9, ground := Ground.data }], guard := none } : Oper)) rfl (fun K hK => ?_) AllReadyH.nil
                      go_simp
                      refine hK.out _ _ (HS0.out _ HbA.out) (fun hH2 => ?_)
                      clear hK K hHeld
                      have hHeld := hH2
                      clear hH2
                      try simp only [Act.put, List.setIfInBounds_toArray, List.set_cons_zero, List.set_cons_succ]
                      refine wpAnyH_ready (rs := [1]) (by kernel_rfl) (by simp) ?_
                      refine AllReadyH.cons (o := ({ dst := some 163, op := Op.load 28 (Operand.tmp 162), type := 28, pos := "law.go:133", after := #[{ on := 0, ground := Ground.data }], guard := none } : Oper)) rfl (fun K hK => ?_) AllReadyH.nil
                      go_simp
                      refine hK.out _ _ (HS0.out _ HbA.out) (fun hH2 => ?_)
                      clear hK K hHeld
                      have hHeld := hH2
                      clear hH2
                      try simp only [Act.put, List.setIfInBounds_toArray, List.set_cons_zero, List.set_cons_succ]
                      refine wpAnyH_ready (rs := [11]) (by kernel_rfl) (by simp) ?_
                      refine AllReadyH.cons (o := ({ dst := some 173, op := Op.call { callee := Callee.builtin Builtin.append, args := #[Operand.tmp 163, Operand.tmp 172], argTypes := #[28, 28] }, type := 28, pos := "law.go:133", after := #[{ on := 1, ground := Ground.data }, { on := 10, ground := Ground.data }], guard := none } : Oper)) rfl (fun K hK => ?_) AllReadyH.nil
                      refine step_append_run rfl _ _ _ rfl (vp) (.slice (some ⟨W0.heap.size, 0, none⟩) 1 1) (.slice (some ⟨g12, 0, none⟩) (i3 + 1) c12) w12 (by go_simp) (by go_simp) hrun ?_
                      refine hK.out _ _ (HS0.out _ Hst.out.1) (fun hH2 => ?_)
                      clear hK K hHeld
                      have hHeld := hH2
                      clear hH2
                      try simp only [Act.put, List.setIfInBounds_toArray, List.set_cons_zero, List.set_cons_succ]
                      refine wpAnyH_take (i := 12) (oi := ({ dst := some 174, op := Op.fieldAddr 30 (Operand.tmp 19) 4, type := 0, pos := "law.go:133", after := #[{ on := 0, ground := Ground.phase }, { on := 1, ground := Ground.phase }, { on := 2, ground := Ground.phase }, { on := 3, ground := Ground.phase }, { on := 4, ground := Ground.phase }, { on := 5, ground := Ground.phase }, { on := 6, ground := Ground.phase }, { on := 7, ground := Ground.phase }, { on := 8, ground := Ground.phase }, { on := 9, ground := Ground.phase }, { on := 10, ground := Ground.phase }, { on := 11, ground := Ground.phase }], guard := none } : Oper)) (v := ?_) rfl (by kernel_rfl) (by kernel_rfl) (by kernel_rfl) (fun _ _ _ h => h) (Or.inl ⟨by kernel_rfl, ?_⟩) (by assumption) ?_
                      rotate_left
                      · intro w hSw
                        try dsimp only at hSw
                        go_simp
                        try with_reducible rfl
                      try simp only [Act.put, List.setIfInBounds_toArray, List.set_cons_zero, List.set_cons_succ]
                      refine wpAnyH_ready (rs := [13]) (by kernel_rfl) (by simp) ?_
                      refine AllReadyH.cons (o := ({ dst := none, op := Op.store 28 (Operand.tmp 174) (Operand.tmp 173), type := 0, pos := "law.go:133", after := #[{ on := 12, ground := Ground.data }, { on := 11, ground := Ground.data }, { on := 11, ground := Ground.chain }, { on := 0, ground := Ground.phase }, { on := 1, ground := Ground.phase }, { on := 2, ground := Ground.phase }, { on := 3, ground := Ground.phase }, { on := 4, ground := Ground.phase }, { on := 5, ground := Ground.phase }, { on := 6, ground := Ground.phase }, { on := 7, ground := Ground.phase }, { on := 8, ground := Ground.phase }, { on := 9, ground := Ground.phase }, { on := 10, ground := Ground.phase }, { on := 11, ground := Ground.phase }], guard := none } : Oper)) rfl (fun K hK => ?_) AllReadyH.nil
                      go_simp
                      refine hK.out _ _ (HS0.out _ Hst.out.2) (fun hH2 => ?_)
                      clear hK K hHeld
                      have hHeld := hH2
                      clear hH2
                      try simp only [Act.put, List.setIfInBounds_toArray, List.set_cons_zero, List.set_cons_succ]
                      refine wpAnyH_done (by kernel_rfl) ?_ _
                      go_wp2_with fail
                      go_roundg (G1.prods.length - (i3 + 1))
                      case measure => have := Hki.out; have := Hlt3.out; omega
                      case rel => exact ⟨i3 + 1, _, by go_num, Hlt3.out, rfl, Htg2.out.1, Htg2.out.2⟩
              · have hge3 : ¬ (i3 : Int) < (G1.prods.length : Int) := by omega
                have hPt : G1.prods.take i3 = G1.prods := List.take_of_length_le (by omega)
                rw [hPt] at htg
                have hsn := sndG H1.out.1
                have hnr : RowS wr wr.heap.size gn1 G1.names := (HB.out.1.later (Hb9.out.2.trans (hb9j.mono Hb9.out.2.size))).n
                have htk := htg.k
                obtain ⟨gt', gp', ct', cp', hvt, hvp, hgT, hcT⟩ := Tg.gin (G := trG G1) htg hnr (by have := hsn.n1; show G1.names.length ≤ 1000; omega) (by show G1.terms.reverse.length ≤ 1000; rw [List.length_reverse]; have := hsn.t1; omega) (by show (trP _ _).length ≤ 1000; unfold trP; rw [List.length_map]; have := hsn.p1; omega) (fun x hx => by
                  obtain ⟨y, hy, rfl⟩ := List.mem_map.1 hx
                  rw [List.length_map]
                  have := hsn.r16 y hy
                  omega)
                have hzT : ∀ t ∈ (trG G1).terms, t.size ≤ 1000 := fun t ht => Htn.out.2.1 t (List.mem_reverse.1 ht)
                have hlT : (trG G1).terms.length ≤ 3 := by show G1.terms.reverse.length ≤ 3; rw [List.length_reverse]; exact Htn.out.2.2.1
                have hb5w : Below w5.heap.size w5 wr := Hb9.out.2.trans (hb9j.mono Hb9.out.2.size)
                have hsm2 := lsame_calls wr G1 (trG G1) gn1 gt1 gp1 gn1 gt' gp' cn1 ct1 cp1 cn1 ct' cp' most (by have := Htn.out.2.2.2; omega) Htn.out.2.2.1 hlT H1.out.1 H1.out.2.1 Htn.out.2.1 hzT (HB.out.1.later hb5w) hgT (HB.out.2.1.later hb5w) hcT
                rw [Htn.out.1, ← hvt, ← hvp] at hsm2
                have Hsm2 := hid hsm2
                obtain ⟨p0, p1, p2, p3, -, -, -, -, -, -⟩ := HS.out wr hb5w
                have t0 := htk.cell 0
                have t1 := htk.cell 1
                have t2 := htk.cell 2
                have t3 := htk.cell 3
                have t4 := htk.cell 4
                simp only [List.getElem?_cons_zero, List.getElem?_cons_succ] at t0 t1 t2 t3 t4
                have Hbw := hid (belw Hb9.out.1 hb9j)
                clear hk hbj htg hb9j hPt hsn hnr htk hvt hvp hgT hcT hzT hlT hb5w hsm2 hi3 hlt
                go_wp2_with (go_at_call 59; refine Hsm2.out.mono ?_; rintro e w15 ⟨rfl, hb15⟩)
                go_ret
                exact ⟨rfl, belw Hbw.out hb15⟩
end Go.Proofs.Ytaehooafdbaomaa
