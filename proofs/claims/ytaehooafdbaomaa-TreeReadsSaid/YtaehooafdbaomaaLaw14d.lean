/- Chapter 14 (tree): TreeReads: walk. -/
import Derived.Test.YtaehooafdbaomaaLaw14a
import Derived.Test.YtaehooafdbaomaaMade14
import Derived.Test.YtaehooafdbaomaaLawArr
import Derived.Test.YtaehooafdbaomaaRefGet
import Derived.Test.YtaehooafdbaomaaRefSame
import Derived.Test.YtaehooafdbaomaaReadLaw
namespace Go.Proofs.Ytaehooafdbaomaa
open Go.RowKit
attribute [local go_sem ↓] Go.wp_at_zero Go.wp_at_succ
attribute [local go_sem] frozen_alloc_lt

theorem GIn.toCh {w : World} {G : Gr} {gn gt gp : Option Addr} (h : GIn w G gn gt gp) (hs : Pl.soundB G = true) : ChIn w G gn gt gp := by
  have hsn := sndG hs
  exact ⟨h, by have := hsn.t1; omega, by have := hsn.p1; omega, fun x hx => by have := hsn.r16 x hx; omega⟩
/-- The two grammars in their boxes, what was read in its own. -/
structure RdS (b5 b6 b7 b9 : Nat) (G : Gr) (gn gt gp gn' gt' gp' : Option Addr) (cn ct cp cn' ct' cp' : Nat) (p : Int) (k : Fo) (L : Nat) (ga : Option Addr) (ca : Nat) (gu : Option Addr) (cu : Nat) (W : World) : Prop where
  g : Bk W b5 30 [.int .i64 G.start, .int .i64 G.rules, .slice gn G.names.length cn, .slice gt G.terms.length ct, .slice gp G.prods.length cp]
  q : Bk W b6 33 [.int .i64 G.start, .int .i64 G.rules, .slice gn' G.names.length cn', .slice gt' G.terms.length ct', .slice gp' G.prods.length cp']
  t : Bk W b7 45 [.int .i64 p, .slice ga L ca]
  u : Bk W b9 50 [.int .i64 p, .slice gu L cu]
  i : GIn W G gn gt gp
  j : GIn W G gn' gt' gp'
  f : FoAt W (fun q => q < W.heap.size) ga k 0
  f2 : FoAt W (fun q => q < W.heap.size) gu k 0
theorem RdS.later {b5 b6 b7 b9 : Nat} {G : Gr} {gn gt gp gn' gt' gp' : Option Addr} {cn ct cp cn' ct' cp' : Nat} {p : Int} {k : Fo} {L : Nat} {ga : Option Addr} {ca : Nat} {gu : Option Addr} {cu : Nat} {W W' : World} (h : RdS b5 b6 b7 b9 G gn gt gp gn' gt' gp' cn ct cp cn' ct' cp' p k L ga ca gu cu W) (hb : Below W.heap.size W W') : RdS b5 b6 b7 b9 G gn gt gp gn' gt' gp' cn ct cp cn' ct' cp' p k L ga ca gu cu W' :=
  ⟨h.g.below hb h.g.lt, h.q.below hb h.q.lt, h.t.below hb h.t.lt, h.u.below hb h.u.lt, h.i.later hb, h.j.later hb, h.f.fwd hb, h.f2.fwd hb⟩
def RdCs (b5 b7 b9 : Nat) (G : Gr) (gn gt gp : Option Addr) (cn ct cp : Nat) (p : Int) (L : Nat) (ga : Option Addr) (ca : Nat) (gu : Option Addr) (cu : Nat) (W : World) : Prop :=
  (W.cell? ⟨b5, 0, none⟩ = some (.int .i64 G.start) ∧ W.cell? ⟨b5, 1, none⟩ = some (.int .i64 G.rules) ∧ W.cell? ⟨b5, 2, none⟩ = some (.slice gn G.names.length cn) ∧ W.cell? ⟨b5, 3, none⟩ = some (.slice gt G.terms.length ct) ∧ W.cell? ⟨b5, 4, none⟩ = some (.slice gp G.prods.length cp)) ∧
  (W.cell? ⟨b7, 0, none⟩ = some (.int .i64 p) ∧ W.cell? ⟨b7, 1, none⟩ = some (.slice ga L ca)) ∧ W.cell? ⟨b9, 0, none⟩ = some (.int .i64 p) ∧ W.cell? ⟨b9, 1, none⟩ = some (.slice gu L cu)
theorem RdS.cells {b5 b6 b7 b9 : Nat} {G : Gr} {gn gt gp gn' gt' gp' : Option Addr} {cn ct cp cn' ct' cp' : Nat} {p : Int} {k : Fo} {L : Nat} {ga : Option Addr} {ca : Nat} {gu : Option Addr} {cu : Nat} {W : World} (h : RdS b5 b6 b7 b9 G gn gt gp gn' gt' gp' cn ct cp cn' ct' cp' p k L ga ca gu cu W) : RdCs b5 b7 b9 G gn gt gp cn ct cp p L ga ca gu cu W :=
  ⟨⟨h.g.cell 0, h.g.cell 1, h.g.cell 2, h.g.cell 3, h.g.cell 4⟩, ⟨h.t.cell 0, h.t.cell 1⟩, h.u.cell 0, h.u.cell 1⟩
set_option maxHeartbeats 8000000 in
set_option maxRecDepth 8000 in
theorem reads14_calls (x : RawD) (v : Value) (S : ByteArray) (w : World) (hx : RawAt w x v) : Calls Try.prog 4 #[v, .string S] w fun e w' => e = .returned (.bool true) ∧ Below w.heap.size w w' := by
  obtain ⟨gl, gr, cl, cr, rfl, hl, hr, hl1, hr1, hr2⟩ := hx
  have hk0 := Bk.new w 25 [.int .i64 x.n, .int .i64 x.t, .int .i64 x.start, .slice gl x.left.length cl, .slice gr x.right.length cr]
  have hb0 : Below w.heap.size w (w.alloc (.cells #[.int .i64 x.n, .int .i64 x.t, .int .i64 x.start, .slice gl x.left.length cl, .slice gr x.right.length cr] 25)) := (Below.refl _ w).alloc (Nat.le_refl _) _
  go_enter Try.func4, Try.ntmps4
  go_upto_region 1 with fail
  obtain ⟨wa, hwa⟩ : ∃ wa, wa = (w.alloc (.cells #[.int .i64 x.n, .int .i64 x.t, .int .i64 x.start, .slice gl x.left.length cl, .slice gr x.right.length cr] 25)) := ⟨_, rfl⟩
  rw [← hwa] at hk0 hb0 ⊢
  clear hwa
  go_upto_region 3 with (go_at_call 15; refine (speaks14_calls _).mono ?_; rintro e w1 ⟨rfl, hb1⟩)
  have hk1 := hk0.below hb1 hk0.lt
  have hbw1 : Below w.heap.size w w1 := hb0.trans (hb1.mono hb0.size)
  by_cases hsz : S.size ≤ 500
  case neg =>
    have hgt : (500 : Int) < (S.size : Int) := by omega
    clear hk0 hb0 hb1 hl hr hk1
    go_wp2_with fail
    go_ret
    exact ⟨rfl, hbw1⟩
  have hng : ¬ (500 : Int) < (S.size : Int) := by omega
  have hl2 : RowI w1 w1.heap.size gl x.left := (hl.below hbw1).mono hbw1.size
  have hrr2 : RowII w1 w1.heap.size gr x.right := (hr.below hbw1).mono hbw1.size
  have c0 := hk1.cell 0
  have c1 := hk1.cell 1
  have c2 := hk1.cell 2
  have c3 := hk1.cell 3
  have c4 := hk1.cell 4
  simp only [List.getElem?_cons_zero, List.getElem?_cons_succ] at c0 c1 c2 c3 c4
  clear hk0 hb0 hb1 hl hr
  go_upto_region 6 with (go_at_call 16; refine (made14_calls x gl gr cl cr _ hl2 hrr2 hl1 hr1 hr2).mono ?_; rintro e w2 ⟨N, T, hN1, hN8, hT3, gn, gt, gp, gn', gt', gp', cn, ct, cp, cn', ct', cp', rfl, hg, hg', hb2⟩; unfold gramV)
  obtain ⟨G, hG⟩ : ∃ G, G = Mk.gram N T 14 4 x := ⟨_, rfl⟩
  have hsd : Pl.soundB G = true := by rw [hG]; exact Mk.gram_sound x hN1 (by omega) (by omega) (by omega) (by omega)
  rw [← hG] at hg hg' ⊢
  clear hG hN1 hN8 hT3 hl2 hrr2 hl1 hr1 hr2 c0 c1 c2 c3 c4 hk1
  have Hsd := hid hsd
  clear hsd
  have hbw2 : Below w.heap.size w w2 := hbw1.trans (hb2.mono hbw1.size)
  have hb3 : Below w2.heap.size w2 ((w2.alloc (.cells #[.int .i64 G.start, .int .i64 G.rules, .slice gn G.names.length cn, .slice gt G.terms.length ct, .slice gp G.prods.length cp] 30)).alloc (.cells #[.int .i64 G.start, .int .i64 G.rules, .slice gn' G.names.length cn', .slice gt' G.terms.length ct', .slice gp' G.prods.length cp'] 33)) := bel_al (bel_al (bel_id w2) _) _
  have kp1 := (Bk.new w2 30 [.int .i64 G.start, .int .i64 G.rules, .slice gn G.names.length cn, .slice gt G.terms.length ct, .slice gp G.prods.length cp]).alloc (.cells #[.int .i64 G.start, .int .i64 G.rules, .slice gn' G.names.length cn', .slice gt' G.terms.length ct', .slice gp' G.prods.length cp'] 33)
  have kq1 := bk_at (Bk.new (w2.alloc (.cells #[.int .i64 G.start, .int .i64 G.rules, .slice gn G.names.length cn, .slice gt G.terms.length ct, .slice gp G.prods.length cp] 30)) 33 [.int .i64 G.start, .int .i64 G.rules, .slice gn' G.names.length cn', .slice gt' G.terms.length ct', .slice gp' G.prods.length cp']) (show _ = w2.heap.size + 1 by simp)
  obtain ⟨w3, hw3⟩ : ∃ w3, w3 = ((w2.alloc (.cells #[.int .i64 G.start, .int .i64 G.rules, .slice gn G.names.length cn, .slice gt G.terms.length ct, .slice gp G.prods.length cp] 30)).alloc (.cells #[.int .i64 G.start, .int .i64 G.rules, .slice gn' G.names.length cn', .slice gt' G.terms.length ct', .slice gp' G.prods.length cp'] 33)) := ⟨_, rfl⟩
  obtain ⟨bp, hbp⟩ : ∃ bp, bp = w2.heap.size := ⟨_, rfl⟩
  obtain ⟨bq, hbq⟩ : ∃ bq, bq = bp + 1 := ⟨_, rfl⟩
  rw [← hw3, ← hbp] at kp1 kq1
  rw [← hbq] at kq1
  rw [← hw3] at hb3
  rw [← hw3, ← hbp, ← hbq]
  have hbw3 := belw hbw2 hb3
  have hg3 := hg.later hb3
  have hg3' := hg'.later hb3
  have p0 := kp1.cell 0
  have p1 := kp1.cell 1
  have p2 := kp1.cell 2
  have p3 := kp1.cell 3
  have p4 := kp1.cell 4
  simp only [List.getElem?_cons_zero, List.getElem?_cons_succ] at p0 p1 p2 p3 p4
  obtain ⟨l, hl⟩ : ∃ l, l = S.data.toList := ⟨_, rfl⟩
  have hSl : S = ⟨l.toArray⟩ := by rw [hl]
  have hll : l.length = S.size := by rw [hl, ← Lib.size_eq]
  have hget : ∀ W, Below w3.heap.size w3 W → Calls Try.prog 20 #[.agg #[.int .i64 G.start, .int .i64 G.rules, .slice gn G.names.length cn, .slice gt G.terms.length ct, .slice gp G.prods.length cp], .string S] W (TGetSaid W (Tr.getT G l)) := fun W hW => by
    have h1 := tget_calls W G gn gt gp cn ct cp ((hg3.later hW).toCh Hsd.out) l (by omega)
    rw [if_pos Hsd.out] at h1
    rw [hSl]
    exact h1
  have hrget : ∀ W, Below w3.heap.size w3 W → Calls Try.prog 21 #[.agg #[.int .i64 G.start, .int .i64 G.rules, .slice gn' G.names.length cn', .slice gt' G.terms.length ct', .slice gp' G.prods.length cp'], .string S] W (TGetSaid W (Tr.getT G l)) := fun W hW => by
    have h1 := rget14_calls W G gn' gt' gp' cn' ct' cp' ((hg3'.later hW).toCh Hsd.out) S (by omega) Hsd.out
    rw [← hl] at h1
    exact h1
  obtain ⟨hrn, hro⟩ := Tr.getT_read G l
  obtain ⟨⟨er, pr, kr⟩, hres⟩ : ∃ r, r = Tr.getT G l := ⟨_, rfl⟩
  rw [← hres] at hget hrget hrn hro
  simp only [] at hrn hro
  have Hget := hid hget
  have Hrget := hid hrget
  have Hro := hid hro
  have Hrn := hid (show kr.nodes ≤ 500 by omega)
  have Kp1 := hid kp1
  have Kq1 := hid kq1
  have Hg3 := hid (And.intro hg3 hg3')
  have Hbw3 := hid hbw3
  have HSl := hid hSl
  clear hw3 hbp hbq hg hg' hg3 hg3' hb3 hb2 hbw1 hbw2 hbw3 hget hrget hrn hro hres hl hSl hll kp1 kq1 hsz
  go_upto_region 7 with (go_at_call 20; refine (Hget.out _ (bel_id _)).mono ?_; rintro e w4 ⟨ga, ca, rfl, hfa, hb4⟩; unfold TGetSaid at *; simp only [])
  have hk7 := Bk.new w4 45 [.int .i64 pr, .slice ga kr.len ca]
  have hal5 : Below w4.heap.size w4 (w4.alloc (.cells #[.int .i64 pr, .slice ga kr.len ca] 45)) := bel_al (bel_id w4) _
  obtain ⟨w5, hw5⟩ : ∃ w5, w5 = w4.alloc (.cells #[.int .i64 pr, .slice ga kr.len ca] 45) := ⟨_, rfl⟩
  obtain ⟨b7, hb7⟩ : ∃ b7, b7 = w4.heap.size := ⟨_, rfl⟩
  rw [← hw5] at hk7 hal5 ⊢
  rw [← hb7] at hk7 ⊢
  have hfa5 := (hfa.below hal5 (fun k hk => hk.2)).mono (D' := fun k => k < w5.heap.size) (fun k hk => Nat.lt_of_lt_of_le hk.2 hal5.size)
  have hb35 : Below w3.heap.size w3 w5 := belw hb4 hal5
  have kq5 := Kq1.out.below hb35 Kq1.out.lt
  have q0 := kq5.cell 0
  have q1 := kq5.cell 1
  have q2 := kq5.cell 2
  have q3 := kq5.cell 3
  have q4 := kq5.cell 4
  simp only [List.getElem?_cons_zero, List.getElem?_cons_succ] at q0 q1 q2 q3 q4
  have Hfa5 := hid hfa5
  have Hk7 := hid hk7
  have Hb35 := hid hb35
  clear hk7 hal5 hw5 hb7 hfa hfa5 hb4 hb35 kq5 p0 p1 p2 p3 p4
  go_upto_region 8 with (go_at_call 21; refine (Hrget.out _ Hb35.out).mono ?_; rintro e w6 ⟨gu, cu, rfl, hfu, hb6⟩; simp only [])
  have hk9 := Bk.new w6 50 [.int .i64 pr, .slice gu kr.len cu]
  have hal7 : Below w6.heap.size w6 (w6.alloc (.cells #[.int .i64 pr, .slice gu kr.len cu] 50)) := bel_al (bel_id w6) _
  obtain ⟨w7, hw7⟩ : ∃ w7, w7 = w6.alloc (.cells #[.int .i64 pr, .slice gu kr.len cu] 50) := ⟨_, rfl⟩
  obtain ⟨b9, hb9⟩ : ∃ b9, b9 = w6.heap.size := ⟨_, rfl⟩
  rw [← hw7] at hk9 hal7 ⊢
  rw [← hb9] at hk9 ⊢
  have hb57 : Below w5.heap.size w5 w7 := belw hb6 hal7
  have hb37 : Below w3.heap.size w3 w7 := belw Hb35.out hb57
  obtain ⟨L, hL⟩ : ∃ L, L = kr.len := ⟨_, rfl⟩
  have hS7 : RdS bp bq b7 b9 G gn gt gp gn' gt' gp' cn ct cp cn' ct' cp' pr kr L ga ca gu cu w7 := by
    rw [hL]
    exact ⟨Kp1.out.below hb37 Kp1.out.lt, Kq1.out.below hb37 Kq1.out.lt, Hk7.out.below hb57 Hk7.out.lt, hk9, Hg3.out.1.later hb37, Hg3.out.2.later hb37, Hfa5.out.fwd hb57, (hfu.below hal7 (fun k hk => hk.2)).mono (D' := fun k => k < w7.heap.size) (fun k hk => Nat.lt_of_lt_of_le hk.2 hal7.size)⟩
  have HS7 := hid hS7
  have Hb37 := hid (belw Hbw3.out hb37)
  have HL := hid hL
  rw [← hL]
  have HC := hid (fun W (hb : Below w7.heap.size w7 W) => (HS7.out.later hb).cells)
  have htold : ∀ W, Below w7.heap.size w7 W → Calls Try.prog 23 #[.agg #[.int .i64 pr, .slice ga L ca]] W fun e w' => ∃ gk ck, e = .returned (.agg #[.int .i64 pr, .slice gk L ck]) ∧ FoAt w' (fun k => k < w'.heap.size) gk kr 0 ∧ Below W.heap.size W w' := fun W hW => by
    rw [HL.out]
    refine (told_calls _ pr kr W ga ca rfl (by have := Hrn.out; omega) (HS7.out.later hW).f).mono ?_
    rintro e w' ⟨gk, ck, rfl, h1, h2⟩
    exact ⟨gk, ck, rfl, h1.mono fun k hk => hk.2, h2⟩
  have hsame : ∀ W gk ck, Below w7.heap.size w7 W → FoAt W (fun k => k < W.heap.size) gk kr 0 → Calls Try.prog 22 #[.agg #[.int .i64 pr, .slice gk L ck], .agg #[.int .i64 pr, .slice gu L cu]] W fun e w' => e = .returned (.bool true) ∧ Below W.heap.size W w' := fun W gk ck hW hf => by
    have h1 := rsame_calls _ pr pr kr kr W gk gu ck cu rfl (by have := Hrn.out; omega) (by have := Hrn.out; omega) hf (HS7.out.later hW).f2
    rw [Fo.sameT_refl, ← HL.out] at h1
    exact h1
  have Htold := hid htold
  have Hsame := hid hsame
  have hb0 : Below w7.heap.size w7 w7.drew := (Below.refl _ _).drew
  have Hb0 := hid hb0
  have hee : ((er : Int) != (er : Int)) = false := by simp
  clear hk9 hal7 hw7 hb9 hfu hb6 hb57 hb37 hL hS7 htold hsame hb0 q0 q1 q2 q3 q4
  go_cut [42] from 33 to 42 (fun v42 wx => v42 = .bool false ∧ Below w7.heap.size w7 wx)
  case first =>
    go_region_held3 (fun W : World => (W.cell? ⟨bp, 0, none⟩ = some (.int .i64 G.start) ∧ W.cell? ⟨bp, 1, none⟩ = some (.int .i64 G.rules) ∧ W.cell? ⟨bp, 2, none⟩ = some (.slice gn G.names.length cn) ∧ W.cell? ⟨bp, 3, none⟩ = some (.slice gt G.terms.length ct) ∧ W.cell? ⟨bp, 4, none⟩ = some (.slice gp G.prods.length cp)) ∧ (W.cell? ⟨b7, 0, none⟩ = some (.int .i64 pr) ∧ W.cell? ⟨b7, 1, none⟩ = some (.slice ga L ca)) ∧ W.cell? ⟨b9, 0, none⟩ = some (.int .i64 pr) ∧ W.cell? ⟨b9, 1, none⟩ = some (.slice gu L cu)) (first | exact HC.out _ Hb0.out | exact HC.out _ Hb11.out | exact HC.out _ Hb12.out)
      (first
        | (go_at_call 22; refine (Hsame.out _ _ _ Hb11.out Hf11.out).mono ?_; rintro e w12 ⟨rfl, hb12⟩; have Hb12 := hid (belw Hb11.out hb12); clear hb12)
        | (go_at_call 23; refine (Htold.out _ Hb0.out).mono ?_; rintro e w11 ⟨gk, ck, rfl, hf11, hb11⟩; have Hb11 := hid (belw Hb0.out hb11); have Hf11 := hid hf11; clear hb11 hf11))
    all_goals
      go_wp2_with fail
      go_meet
      exact ⟨rfl, Hb12.out⟩
  case rest =>
    obtain ⟨rfl, hbc⟩ := hcut
    have Hbc := hid hbc
    by_cases he : er = 0
    · subst he
      have hro := Hro.out rfl
      have hchk : ∀ W, Below w7.heap.size w7 W → Calls Try.prog 24 #[.agg #[.int .i64 G.start, .int .i64 G.rules, .slice gn G.names.length cn, .slice gt G.terms.length ct, .slice gp G.prods.length cp], .agg #[.int .i64 pr, .slice ga L ca]] W fun e w' => e = .returned (.bool true) ∧ Below W.heap.size W w' := fun W hW => by
        have h1 := tcheck_all W G gn gt gp cn ct cp (HS7.out.later hW).i pr kr ga ca (by have := Hrn.out; omega) (HS7.out.later hW).f
        rw [Hsd.out, hro.1, ← HL.out] at h1
        exact h1
      have hput : ∀ W, Below w7.heap.size w7 W → Calls Try.prog 25 #[.agg #[.int .i64 pr, .slice ga L ca]] W fun e w' => e = .returned (.string S) ∧ Below W.heap.size W w' := fun W hW => by
        have h1 := treePut_calls pr kr W ga ca (HS7.out.later hW).f (by have := Hrn.out; omega)
        rw [hro.2, ← HSl.out, ← HL.out] at h1
        exact h1
      obtain ⟨⟨x0, x1, x2, x3, x4⟩, ⟨y0, y1⟩, -, -⟩ := HC.out _ hbc
      have Hput := hid hput
      clear hro hput hbc
      go_wp2_with (first
        | (go_at_call 24; refine (hchk _ Hbc.out).mono ?_; rintro e w13 ⟨rfl, hb13⟩; obtain ⟨-, ⟨z0, z1⟩, -, -⟩ := HC.out _ (belw Hbc.out hb13); have Hb13 := hid hb13; clear hb13)
        | (go_at_call 25; refine (Hput.out _ (belw Hbc.out Hb13.out)).mono ?_; rintro e w14 ⟨rfl, hb14⟩))
      go_ret
      exact ⟨rfl, belw Hb37.out (belw Hbc.out (belw Hb13.out hb14))⟩
    · have hne : ((er : Int) != 0) = true := by simp; omega
      clear hbc
      go_wp2_with fail
      go_ret
      exact ⟨rfl, belw Hb37.out Hbc.out⟩
end Go.Proofs.Ytaehooafdbaomaa
