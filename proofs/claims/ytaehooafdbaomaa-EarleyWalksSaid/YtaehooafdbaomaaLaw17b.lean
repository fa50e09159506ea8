/- Chapter 17 (earley): EarleyWalks: walk. -/
import Derived.Test.YtaehooafdbaomaaLaw17a
import Derived.Test.YtaehooafdbaomaaMade17
import Derived.Test.YtaehooafdbaomaaRowApp
namespace Go.Proofs.Ytaehooafdbaomaa
open Go.RowKit
attribute [local go_sem ↓] Go.wp_at_zero Go.wp_at_succ
attribute [local go_sem] frozen_alloc_lt
namespace Ed

/-- A chart of the word so far, as its readers need it. -/
theorem make_any (w : World) (G : Gr) (gn gt gp : Option Addr) (cn ct cp : Nat) (h : GIn w G gn gt gp) (hs : Pl.soundB G = true) (gw : Option Addr) (cw : Nat) (word : List Int) (hw : RowI w w.heap.size gw word) (hwl : word.length ≤ 64) (hbad : word.any (badT G.terms.length) = false) (hnil : gw = none → cw = 0) (m : Nat) (hm : word.length = m) :
    Calls Try.prog 43 #[.agg #[.int .i64 G.start, .int .i64 G.rules, .slice gn G.names.length cn, .slice gt G.terms.length ct, .slice gp G.prods.length cp], .slice gw m cw] w (MkYes w G word) := by
  subst hm
  exact make_yes w G gn gt gp cn ct cp h hs gw cw word hw hwl hbad hnil
theorem own_nil {w : World} {B n : Nat} {T : TypeId} {ga : Option Addr} {m cap : Nat} {xs : List Value} (h : w.ownsRow B T 1 (.slice ga m cap) n xs) : ga = none → cap = 0 := by
  intro e
  rcases h.2 with ⟨h1, _⟩ | ⟨bo, c, cur, h1, _⟩
  · injection h1
  · injection h1 with h2
    rw [e] at h2
    cases h2
/-- The word so far, its next letter's number. -/
def WkAt (w0 : World) (G : Gr) (m : Nat) (k : Nat) (v7 v8 : Value) (w : World) : Prop := ∃ (i : Nat) (zs : List Int), v8 = .int .i64 i ∧ i ≤ m ∧ i ≤ 8 ∧ zs.length = i ∧ w.ownsRow w0.heap.size 3 1 v7 i (zs.map (Value.int .i64)) ∧ (i ≠ 0 → Pre G.prods [G.start] zs) ∧ k = 8 - i ∧ Below w0.heap.size w0 w
theorem md_i (a : Int) {n : Nat} (h : 0 < n) : ∃ j : Nat, j < n ∧ (a.tmod n + n).tmod n = (j : Int) := by
  have h1 : -(n : Int) < a.tmod n := Int.lt_tmod_of_pos a (by omega)
  have h2 : 0 ≤ (a.tmod n + n).tmod n := Int.tmod_nonneg _ (by omega)
  have h3 : (a.tmod n + n).tmod n < n := Int.tmod_lt_of_pos _ (by omega)
  exact ⟨((a.tmod n + n).tmod n).toNat, by omega, by omega⟩
theorem pairwise_lo {a : Int} : ∀ {ss : List Int} {n : Nat}, ss.Pairwise (· < ·) → (∀ z ∈ ss, a ≤ z ∧ z < a + n) → ss.length ≤ n
  | [], n, _, _ => Nat.zero_le _
  | x :: r, n, hp, h => by
    rw [List.pairwise_cons] at hp
    have hx := h x List.mem_cons_self
    have := pairwise_lo (a := x + 1) (ss := r) (n := (a + n - x - 1).toNat) hp.2 (fun z hz => ⟨by have := hp.1 z hz; omega, by have := (h z (List.mem_cons_of_mem _ hz)).2; have := hp.1 z hz; omega⟩)
    rw [List.length_cons]
    omega
theorem pairwise_len {ss : List Int} (hp : ss.Pairwise (· < ·)) (h : ∀ z ∈ ss, 0 ≤ z ∧ z < 256) : ss.length ≤ 256 := pairwise_lo (a := 0) (n := 256) hp (fun z hz => ⟨(h z hz).1, by have := (h z hz).2; omega⟩)
theorem nil_of_no {ps : List (Int × List Int)} {st : Int} {ss : List Int} (hmem : ∀ z, z ∈ ss ↔ 0 ≤ z ∧ ∃ m : Nat, (0 : Int) = m ∧ m ≤ ([] : List Int).length ∧ Pre ps [st] (([] : List Int).take m ++ [z])) (hP : ¬ Pre ps [st] []) : ss = [] := by
  cases ss with
  | nil => rfl
  | cons z r =>
    obtain ⟨_, m, _, _, hp⟩ := (hmem z).1 List.mem_cons_self
    rw [List.take_nil] at hp
    exact absurd hp.front hP
theorem good_pre (w : World) (c : Nat) (G : Gr) (zs : List Int) (Xs : List (List Itm)) (hch : ChS w c G zs Xs) (hsets : SetsAre G.prods G.start zs Xs) (hP : Pre G.prods [G.start] zs) (h0 : ∀ x ∈ G.prods, 0 ≤ x.1) (hst : 0 ≤ G.start) (i : Nat) (hzl : zs.length = i) (hi : i ≤ 900) :
    Calls Try.prog 47 #[.pointer (some ⟨c, 0, none⟩)] w fun e w' => e = .returned (.int .i64 (i : Int)) ∧ w = w' := by
  have hX := hsets.full h0 hst hP
  rw [hzl] at hX
  have h := good_some w c G zs Xs hch (by omega)
  rw [hX] at h
  rwa [show ((i + 1 : Nat) : Int) - 1 = (i : Int) by omega] at h
theorem good_no (w : World) (c : Nat) (G : Gr) (Xs : List (List Itm)) (hch : ChS w c G [] Xs) (hsets : SetsAre G.prods G.start [] Xs) (hP : ¬ Pre G.prods [G.start] []) (h0 : ∀ x ∈ G.prods, 0 ≤ x.1) (hst : 0 ≤ G.start) :
    Calls Try.prog 47 #[.pointer (some ⟨c, 0, none⟩)] w fun e w' => e = .returned (.int .i64 (-1)) ∧ w = w' := by
  have hX : Xs.length = 0 := by
    have := (hsets.zero h0 hst).1
    by_cases e : Xs.length = 0
    · exact e
    · exact absurd (this (by omega)) hP
  have h := good_some w c G [] Xs hch (by omega)
  rw [hX] at h
  exact h
theorem no_word {ps : List (Int × List Int)} {st : Int} {b : Bool} (hP : ¬ Pre ps [st] []) (h : b = true ↔ Dw ps [st] []) : b = false := by
  cases b with
  | false => rfl
  | true => exact absurd (Pre.of (h.1 rfl)) hP
set_option maxHeartbeats 8000000 in
set_option maxRecDepth 8000 in
theorem walks17_calls (x : RawD) (v : Value) (ps : List Int) (v1 : Value) (w : World) (hx : RawAt w x v) (hz : IntsV w ps v1) : Calls Try.prog 8 #[v, v1] w fun e w' => e = .returned (.bool true) ∧ Below w.heap.size w w' := by
  obtain ⟨gl, gr, cl, cr, rfl, hl, hr, hl1, hr1, hr2⟩ := hx
  obtain ⟨gc, cc, rfl, hc, hc1, hc2, hc3n⟩ := hz
  have hk0 := Bk.new w 75 [.int .i64 x.n, .int .i64 x.t, .int .i64 x.start, .slice gl x.left.length cl, .slice gr x.right.length cr]
  have hb0 : Below w.heap.size w (w.alloc (.cells #[.int .i64 x.n, .int .i64 x.t, .int .i64 x.start, .slice gl x.left.length cl, .slice gr x.right.length cr] 75)) := (Below.refl _ w).alloc (Nat.le_refl _) _
  go_enter Try.func8, Try.ntmps8
  go_upto_region 1 with fail
  obtain ⟨wa, hwa⟩ : ∃ wa, wa = (w.alloc (.cells #[.int .i64 x.n, .int .i64 x.t, .int .i64 x.start, .slice gl x.left.length cl, .slice gr x.right.length cr] 75)) := ⟨_, rfl⟩
  rw [← hwa] at hk0 hb0 ⊢
  clear hwa
  go_upto_region 3 with (go_at_call 40; refine (speaks17_calls _).mono ?_; rintro e w1 ⟨rfl, hb1⟩)
  have hk1 := hk0.below hb1 hk0.lt
  have hbw1 : Below w.heap.size w w1 := hb0.trans (hb1.mono hb0.size)
  have hl2 : RowI w1 w1.heap.size gl x.left := (hl.below hbw1).mono hbw1.size
  have hrr2 : RowII w1 w1.heap.size gr x.right := (hr.below hbw1).mono hbw1.size
  have hc2' : RowI w1 w1.heap.size gc ps := (hc.below hbw1).mono hbw1.size
  have c0 := hk1.cell 0
  have c1 := hk1.cell 1
  have c2 := hk1.cell 2
  have c3 := hk1.cell 3
  have c4 := hk1.cell 4
  simp only [List.getElem?_cons_zero, List.getElem?_cons_succ] at c0 c1 c2 c3 c4
  clear hk0 hb0 hb1 hl hr hc
  go_upto_region 4 with (go_at_call 41; refine (made17_calls x gl gr cl cr _ hl2 hrr2 hl1 hr1 hr2).mono ?_; rintro e w2 ⟨N, T, hN1, hN8, hT3, gn, gt, gp, gn', gt', gp', cn, ct, cp, cn', ct', cp', rfl, hg, hg', hb2⟩; unfold gramV)
  obtain ⟨G, hG⟩ : ∃ G, G = Mk.gram N T 12 4 x := ⟨_, rfl⟩
  have hsd : Pl.soundB G = true := by rw [hG]; exact Mk.gram_sound x hN1 (by omega) (by omega) (by omega) (by omega)
  rw [← hG] at hg hg' ⊢
  have hbw2 : Below w.heap.size w w2 := hbw1.trans (hb2.mono hbw1.size)
  have hc3 : RowI w2 w2.heap.size gc ps := (hc2'.below hb2).mono hb2.size
  clear hG hN1 hT3 hl2 hrr2 hl1 hr1 hr2 c0 c1 c2 c3 c4 hk1 hbw1 hb2 hc2' hg'
  have hb3 : Below w2.heap.size w2 ((w2.alloc (.cells #[.int .i64 G.start, .int .i64 G.rules, .slice gn G.names.length cn, .slice gt G.terms.length ct, .slice gp G.prods.length cp] 30)).alloc (.cells #[.int .i64 G.start, .int .i64 G.rules, .slice gn' G.names.length cn', .slice gt' G.terms.length ct', .slice gp' G.prods.length cp'] 33)) := bel_al (bel_al (bel_id w2) _) _
  have kp1 := (Bk.new w2 30 [.int .i64 G.start, .int .i64 G.rules, .slice gn G.names.length cn, .slice gt G.terms.length ct, .slice gp G.prods.length cp]).alloc (.cells #[.int .i64 G.start, .int .i64 G.rules, .slice gn' G.names.length cn', .slice gt' G.terms.length ct', .slice gp' G.prods.length cp'] 33)
  obtain ⟨w3, hw3⟩ : ∃ w3, w3 = ((w2.alloc (.cells #[.int .i64 G.start, .int .i64 G.rules, .slice gn G.names.length cn, .slice gt G.terms.length ct, .slice gp G.prods.length cp] 30)).alloc (.cells #[.int .i64 G.start, .int .i64 G.rules, .slice gn' G.names.length cn', .slice gt' G.terms.length ct', .slice gp' G.prods.length cp'] 33)) := ⟨_, rfl⟩
  obtain ⟨bp, hbp⟩ : ∃ bp, bp = w2.heap.size := ⟨_, rfl⟩
  obtain ⟨bq, hbq⟩ : ∃ bq, bq = bp + 1 := ⟨_, rfl⟩
  rw [← hw3] at kp1 hb3 ⊢
  rw [← hbp] at kp1 ⊢
  rw [← hbq]
  have hg3 := hg.later hb3
  have hc4 : RowI w3 w3.heap.size gc ps := (hc3.below hb3).mono hb3.size
  have hbw3 := belw hbw2 hb3
  clear hw3 hbp hbq hg hc3 hb3 hbw2
  obtain ⟨i3, hi3, z0, z1, z2⟩ := info_parts intInfo
  have H3 := hid (And.intro hc4 (And.intro kp1 (And.intro hg3 hbw3)))
  have Hsd := hid hsd
  have Hsn := hid (sndG hsd)
  have Hpl := hid hc1
  clear hc4 kp1 hg3 hbw3 hsd hc1 hc3n
  go_wp2_with fail
  go_loopg [7, 8] 8 (fun k v7 v8 wr => WkAt w3 G ps.length k v7 v8 wr)
  case atStart => exact ⟨0, [], rfl, Nat.zero_le _, by omega, rfl, World.ownsRow_nil _ _ _ _, (fun h => absurd rfl h), rfl, Below.refl _ _⟩
  case round =>
    obtain ⟨i, zs, rfl, him, hi8, hzl, hown, hpre, hk, hb⟩ := hrel
    have Hk := hid (And.intro hk hzl)
    have kpr := H3.out.2.1.below hb H3.out.2.1.lt
    have hGr := H3.out.2.2.1.later hb
    have hbwr := belw H3.out.2.2.2 hb
    have hps := (H3.out.1.below hb).mono hb.size
    have hlow : ∀ y ∈ G.prods, ∀ s ∈ y.2, -(G.terms.length : Int) ≤ s := Hsn.out.r0
    have hgood : zs.any (badT G.terms.length) = false := by
      by_cases e : i = 0
      · rw [List.eq_nil_of_length_eq_zero (hzl.trans e)]; rfl
      · exact (hpre e).good hlow Hsn.out.s0
    obtain ⟨ga, cap, rfl, hrow⟩ := own_rowI hown
    rw [hzl] at hown ⊢
    have hcap := own_nil hown
    have hE : Env G.prods zs := ⟨Hsn.out.l0, Hsn.out.r16, Hsn.out.p1, by omega⟩
    have hmk := make_any wr G gn gt gp cn ct cp hGr Hsd.out ga cap zs hrow (by omega) hgood hcap i hzl
    have Hmk := hid hmk
    have HR := hid (And.intro hown (And.intro hpre (And.intro hb (And.intro hbwr (And.intro hps hE)))))
    have c0 := kpr.cell 0
    have c1 := kpr.cell 1
    have c2 := kpr.cell 2
    have c3 := kpr.cell 3
    have c4 := kpr.cell 4
    simp only [List.getElem?_cons_zero, List.getElem?_cons_succ] at c0 c1 c2 c3 c4
    clear hk hzl hmk hcap hown hpre hb hbwr hps hE hgood hrow hlow hGr
    by_cases hlt : i < ps.length
    · by_cases h8 : i < 8
      · have hltI : (i : Int) < (ps.length : Int) := by omega
        have h8I : (i : Int) < 8 := by omega
        go_upto_region 9 with (go_at_call 43; refine Hmk.out.mono ?_; rintro e w4 ⟨c, Xs, rfl, hch, hsets, hb4⟩)
        have Hb4 := hid hb4
        clear hb4 c0 c1 c2 c3 c4 kpr Hmk
        by_cases h0 : i = 0
        · have e1 : ((i : Int) == 0) = true := by simp [h0]
          have e2 : (i == 0) = true := by simp [h0]
          have e3 : decide (i = 0) = true := by simp [h0]
          have hz0 : zs = [] := List.eq_nil_of_length_eq_zero (Hk.out.2.trans h0)
          by_cases hP : Pre G.prods [G.start] zs
          · have H0 := hid h0
            have Hz0 := hid hz0
            clear h0 hz0
            have hX := hsets.full Hsn.out.l0 Hsn.out.s0 hP
            rw [Hk.out.2] at hX
            have hgood : Calls Try.prog 47 #[.pointer (some ⟨c, 0, none⟩)] w4 fun e w' => e = .returned (.int .i64 (i : Int)) ∧ w4 = w' := by
              have h := good_some w4 c G zs Xs hch (by omega)
              rw [hX] at h
              rwa [show ((i + 1 : Nat) : Int) - 1 = (i : Int) by omega] at h
            have hnext := nexts_some w4 c G zs Xs (i : Int) hch hsets HR.out.2.2.2.2.2 Hsn.out.s0 (fun y hy s hs => by have := Hsn.out.r0 y hy s hs; have := Hsn.out.t1; omega)
            have hyes : ∀ W, Below w4.heap.size w4 W → Calls Try.prog 48 #[.pointer (some ⟨c, 0, none⟩)] W (YesSaid W G.prods G.start zs) := fun W hW => yes_some W c G zs Xs (hch.later hW) hsets HR.out.2.2.2.2.2 Hsn.out.s0
            have Hgood := hid hgood
            have Hnext := hid hnext
            have Hyes := hid hyes
            have HP := hid hP
            clear hX hgood hnext hyes hP hch hsets
            go_upto_region 14 with (first
              | (go_at_call 47; refine Hgood.out.mono ?_; rintro e wg ⟨rfl, rfl⟩)
              | (go_at_call 49; refine Hnext.out.mono ?_; rintro e w5 ⟨vn, ss, rfl, hon, hpw, hmem, hb5⟩))
            obtain ⟨gs, cs, rfl, hss⟩ := own_rowI hon
            have hb45 := hid (belw Hb4.out hb5)
            by_cases hs0 : ss.length = 0
            · obtain rfl : ss = [] := List.eq_nil_of_length_eq_zero hs0
              have hdw : Dw G.prods [G.start] zs := HP.out.stuck (t := G.terms.length) Hsn.out.r0 Hsn.out.s0 (fun y h0 h1 => by
                have := (hmem y).2 ⟨h0, i, rfl, by rw [Hk.out.2]; exact Nat.le_refl _, by rw [List.take_of_length_le (by rw [Hk.out.2]; exact Nat.le_refl _)]; exact h1⟩
                cases this)
              have Hy := hid (Hyes.out w5 hb5)
              have Hdw := hid hdw
              clear hdw hmem hpw hs0 hb5 hon hss
              go_wp2_with (go_at_call 48; refine Hy.out.mono ?_; rintro e w6 ⟨b, rfl, hby, hb6⟩; have hbt := hby.2 Hdw.out; subst hbt)
              go_ret
              exact ⟨rfl, belw HR.out.2.2.2.1 (belw hb45.out hb6)⟩
            · obtain ⟨S, hS⟩ : ∃ S, S = ss.length := ⟨_, rfl⟩
              have hSb : ss.length ≤ 256 := by
                refine pairwise_len hpw (fun z hz => ?_)
                obtain ⟨h0, m, hm, _, hp⟩ := (hmem z).1 hz
                have := hp.low (t := G.terms.length) Hsn.out.r0 Hsn.out.s0 z (by simp)
                have := Hsn.out.t1
                omega
              obtain ⟨gp2, op2, rfl, hgp, hcz⟩ := HR.out.2.2.2.2.1.at hlt
              obtain ⟨z, hz⟩ : ∃ z, z = ps[i] := ⟨_, rfl⟩
              rw [← hz] at hcz
              obtain ⟨j, hj, hje⟩ := md_i z (show 0 < ss.length by omega)
              obtain ⟨gj, oj, rfl, hgj, hcj⟩ := hss.at hj
              obtain ⟨y, hy⟩ : ∃ y, y = ss[j] := ⟨_, rfl⟩
              rw [← hy] at hcj
              have hym : y ∈ ss := by rw [hy]; exact List.getElem_mem _
              have hpy : Pre G.prods [G.start] (zs ++ [y]) := by
                obtain ⟨h0, m, hm, _, hp⟩ := (hmem y).1 hym
                have e : i = m := by omega
                subst e
                rwa [List.take_of_length_le (by rw [Hk.out.2]; exact Nat.le_refl _)] at hp
              have hlo : -(S : Int) < z.tmod (S : Int) := Int.lt_tmod_of_pos z (by omega)
              have hhi : z.tmod (S : Int) < (S : Int) := Int.tmod_lt_of_pos _ (by omega)
              rw [← hS] at hje hj hs0 hSb ⊢
              have hcz5 : w5.cell? ⟨gp2, op2 + i, none⟩ = some (.int .i64 z) := ((Hb4.out.trans (hb5.mono Hb4.out.size)).cell (World.block_lt_of_cell? wr _ hcz)).trans hcz
              have hrun := row_app (P := Try.prog) (own_below HR.out.1 (Hb4.out.trans (hb5.mono Hb4.out.size))) 22 22 i3 (.int .i64 0) 8 Try.underlying22 hi3 z0 z1 z2 rfl (by omega) (by have := HR.out.2.2.1.size; have := hb45.out.size; omega) (by omega) (.int .i64 y) rfl 0
              obtain ⟨g2, cap2, w6, hrun, hon2, hk6, hg2, hl2⟩ := hrun
              have H6 := hid (And.intro hon2 (And.intro hk6 (And.intro hg2 (And.intro hl2 hpy))))
              have hS1 : (S : Int) ≤ 256 := by omega
              have hS0 : (0 : Int) < (S : Int) := by omega
              have hjI : (j : Int) < (S : Int) := by omega
              have hiI : (0 : Int) ≤ (i : Int) := by omega
              have hjI0 : (0 : Int) ≤ (j : Int) := by omega
              have hltI : (i : Int) < (ps.length : Int) := by omega
              have hsum0 : (0 : Int) ≤ z.tmod (S : Int) + (S : Int) := by omega
              have hsum1 : z.tmod (S : Int) + (S : Int) ≤ 1000 := by omega
              clear hS hon2 hk6 hg2 hl2 hpy hym hy hz hon hss hpw hmem hgj hgp hcz Hnext Hyes
              clear hb5
              go_wp2_with (at_builtin; refine wpList_append_run rfl _ _ _ rfl (.slice ga i cap) (.slice (some ⟨w5.heap.size, 0, none⟩) 1 1) (.slice (some ⟨g2, 0, none⟩) (i + 1) cap2) w6 (by rfl) (by rfl) (by exact hrun) ?_)
              go_roundg (8 - (i + 1))
              case measure => have := Hk.out.1; omega
              case rel => exact ⟨i + 1, zs ++ [y], by go_num, by omega, by omega, by rw [List.length_append, Hk.out.2]; rfl, by rw [List.map_append]; exact H6.out.1, fun _ => H6.out.2.2.2.2, rfl, (HR.out.2.2.1.trans (hb45.out.mono HR.out.2.2.1.size)).trans (H6.out.2.1.to_below (by have := HR.out.2.2.1.size; have := hb45.out.size; omega) (fun k e => (World.ownsRow.lt HR.out.1 k e).1))⟩
          · subst hz0
            have hX : Xs.length = 0 := by
              have := (hsets.zero Hsn.out.l0 Hsn.out.s0).1
              by_cases e : Xs.length = 0
              · exact e
              · exact absurd (this (by omega)) hP
            have hgood : Calls Try.prog 47 #[.pointer (some ⟨c, 0, none⟩)] w4 fun e w' => e = .returned (.int .i64 (-1)) ∧ w4 = w' := by
              have h := good_some w4 c G [] Xs hch (by omega)
              rw [hX] at h
              exact h
            have hnext := nexts_some w4 c G [] Xs 0 hch hsets HR.out.2.2.2.2.2 Hsn.out.s0 (fun y hy s hs => by have := Hsn.out.r0 y hy s hs; have := Hsn.out.t1; omega)
            have hyes : ∀ W, Below w4.heap.size w4 W → Calls Try.prog 48 #[.pointer (some ⟨c, 0, none⟩)] W (YesSaid W G.prods G.start []) := fun W hW => yes_some W c G [] Xs (hch.later hW) hsets HR.out.2.2.2.2.2 Hsn.out.s0
            have Hgood := hid hgood
            have Hnext := hid hnext
            have Hyes := hid hyes
            have HP := hid hP
            have H0 := hid h0
            clear hX hgood hnext hyes hP hch hsets h0
            go_wp2_with (first
              | (go_at_call 47; refine Hgood.out.mono ?_; rintro e wg ⟨rfl, rfl⟩)
              | (go_at_call 49; refine Hnext.out.mono ?_; rintro e w5 ⟨vn, ss, rfl, hon, hpw, hmem, hb5⟩; have hse := nil_of_no hmem HP.out; subst hse; obtain ⟨gs, cs, rfl, hss⟩ := own_rowI hon; have Hy := hid (Hyes.out w5 hb5); have HB5 := hid (belw Hb4.out hb5); clear hb5 hmem hpw hss hon)
              | (go_at_call 48; refine Hy.out.mono ?_; rintro e w6 ⟨b, rfl, hby, hb6⟩; have hbt := no_word HP.out hby; subst hbt))
            go_ret
            exact ⟨rfl, belw HR.out.2.2.2.1 (belw HB5.out hb6)⟩
        · have e1 : ((i : Int) == 0) = false := by simp [h0]
          have e2 : (i == 0) = false := by simp [h0]
          have e3 : decide (i = 0) = false := by simp [h0]
          have hP := HR.out.2.1 h0
          have H0 := hid h0
          clear h0
          have hX := hsets.full Hsn.out.l0 Hsn.out.s0 hP
          rw [Hk.out.2] at hX
          have hgood : Calls Try.prog 47 #[.pointer (some ⟨c, 0, none⟩)] w4 fun e w' => e = .returned (.int .i64 (i : Int)) ∧ w4 = w' := by
            have h := good_some w4 c G zs Xs hch (by omega)
            rw [hX] at h
            rwa [show ((i + 1 : Nat) : Int) - 1 = (i : Int) by omega] at h
          have hnext := nexts_some w4 c G zs Xs (i : Int) hch hsets HR.out.2.2.2.2.2 Hsn.out.s0 (fun y hy s hs => by have := Hsn.out.r0 y hy s hs; have := Hsn.out.t1; omega)
          have hyes : ∀ W, Below w4.heap.size w4 W → Calls Try.prog 48 #[.pointer (some ⟨c, 0, none⟩)] W (YesSaid W G.prods G.start zs) := fun W hW => yes_some W c G zs Xs (hch.later hW) hsets HR.out.2.2.2.2.2 Hsn.out.s0
          have Hgood := hid hgood
          have Hnext := hid hnext
          have Hyes := hid hyes
          have HP := hid hP
          clear hX hgood hnext hyes hP hch hsets
          go_upto_region 14 with (first
            | (go_at_call 47; refine Hgood.out.mono ?_; rintro e wg ⟨rfl, rfl⟩)
            | (go_at_call 49; refine Hnext.out.mono ?_; rintro e w5 ⟨vn, ss, rfl, hon, hpw, hmem, hb5⟩))
          obtain ⟨gs, cs, rfl, hss⟩ := own_rowI hon
          have hb45 := hid (belw Hb4.out hb5)
          by_cases hs0 : ss.length = 0
          · obtain rfl : ss = [] := List.eq_nil_of_length_eq_zero hs0
            have hdw : Dw G.prods [G.start] zs := HP.out.stuck (t := G.terms.length) Hsn.out.r0 Hsn.out.s0 (fun y h0 h1 => by
              have := (hmem y).2 ⟨h0, i, rfl, by rw [Hk.out.2]; exact Nat.le_refl _, by rw [List.take_of_length_le (by rw [Hk.out.2]; exact Nat.le_refl _)]; exact h1⟩
              cases this)
            have Hy := hid (Hyes.out w5 hb5)
            have Hdw := hid hdw
            clear hdw hmem hpw hs0 hb5 hon hss
            go_wp2_with (go_at_call 48; refine Hy.out.mono ?_; rintro e w6 ⟨b, rfl, hby, hb6⟩; have hbt := hby.2 Hdw.out; subst hbt)
            go_ret
            exact ⟨rfl, belw HR.out.2.2.2.1 (belw hb45.out hb6)⟩
          · obtain ⟨S, hS⟩ : ∃ S, S = ss.length := ⟨_, rfl⟩
            have hSb : ss.length ≤ 256 := by
              refine pairwise_len hpw (fun z hz => ?_)
              obtain ⟨h0, m, hm, _, hp⟩ := (hmem z).1 hz
              have := hp.low (t := G.terms.length) Hsn.out.r0 Hsn.out.s0 z (by simp)
              have := Hsn.out.t1
              omega
            obtain ⟨gp2, op2, rfl, hgp, hcz⟩ := HR.out.2.2.2.2.1.at hlt
            obtain ⟨z, hz⟩ : ∃ z, z = ps[i] := ⟨_, rfl⟩
            rw [← hz] at hcz
            obtain ⟨j, hj, hje⟩ := md_i z (show 0 < ss.length by omega)
            obtain ⟨gj, oj, rfl, hgj, hcj⟩ := hss.at hj
            obtain ⟨y, hy⟩ : ∃ y, y = ss[j] := ⟨_, rfl⟩
            rw [← hy] at hcj
            have hym : y ∈ ss := by rw [hy]; exact List.getElem_mem _
            have hpy : Pre G.prods [G.start] (zs ++ [y]) := by
              obtain ⟨h0, m, hm, _, hp⟩ := (hmem y).1 hym
              have e : i = m := by omega
              subst e
              rwa [List.take_of_length_le (by rw [Hk.out.2]; exact Nat.le_refl _)] at hp
            have hlo : -(S : Int) < z.tmod (S : Int) := Int.lt_tmod_of_pos z (by omega)
            have hhi : z.tmod (S : Int) < (S : Int) := Int.tmod_lt_of_pos _ (by omega)
            rw [← hS] at hje hj hs0 hSb ⊢
            have hcz5 : w5.cell? ⟨gp2, op2 + i, none⟩ = some (.int .i64 z) := ((Hb4.out.trans (hb5.mono Hb4.out.size)).cell (World.block_lt_of_cell? wr _ hcz)).trans hcz
            have hrun := row_app (P := Try.prog) (own_below HR.out.1 (Hb4.out.trans (hb5.mono Hb4.out.size))) 22 22 i3 (.int .i64 0) 8 Try.underlying22 hi3 z0 z1 z2 rfl (by omega) (by have := HR.out.2.2.1.size; have := hb45.out.size; omega) (by omega) (.int .i64 y) rfl 0
            obtain ⟨g2, cap2, w6, hrun, hon2, hk6, hg2, hl2⟩ := hrun
            have H6 := hid (And.intro hon2 (And.intro hk6 (And.intro hg2 (And.intro hl2 hpy))))
            have hS1 : (S : Int) ≤ 256 := by omega
            have hS0 : (0 : Int) < (S : Int) := by omega
            have hjI : (j : Int) < (S : Int) := by omega
            have hiI : (0 : Int) ≤ (i : Int) := by omega
            have hjI0 : (0 : Int) ≤ (j : Int) := by omega
            have hltI : (i : Int) < (ps.length : Int) := by omega
            have hsum0 : (0 : Int) ≤ z.tmod (S : Int) + (S : Int) := by omega
            have hsum1 : z.tmod (S : Int) + (S : Int) ≤ 1000 := by omega
            clear hS hon2 hk6 hg2 hl2 hpy hym hy hz hon hss hpw hmem hgj hgp hcz Hnext Hyes
            clear hb5
            go_wp2_with (at_builtin; refine wpList_append_run rfl _ _ _ rfl (.slice ga i cap) (.slice (some ⟨w5.heap.size, 0, none⟩) 1 1) (.slice (some ⟨g2, 0, none⟩) (i + 1) cap2) w6 (by rfl) (by rfl) (by exact hrun) ?_)
            go_roundg (8 - (i + 1))
            case measure => have := Hk.out.1; omega
            case rel => exact ⟨i + 1, zs ++ [y], by go_num, by omega, by omega, by rw [List.length_append, Hk.out.2]; rfl, by rw [List.map_append]; exact H6.out.1, fun _ => H6.out.2.2.2.2, rfl, (HR.out.2.2.1.trans (hb45.out.mono HR.out.2.2.1.size)).trans (H6.out.2.1.to_below (by have := HR.out.2.2.1.size; have := hb45.out.size; omega) (fun k e => (World.ownsRow.lt HR.out.1 k e).1))⟩
      · have h8I : ¬ (i : Int) < 8 := by omega
        have hltI : (i : Int) < (ps.length : Int) := by omega
        by_cases hP : Pre G.prods [G.start] zs
        · have HP := hid hP
          clear hP
          go_upto_region 17 with fail
          go_wp2_with (first
            | (go_at_call 43; refine Hmk.out.mono ?_; rintro e w4 ⟨c, Xs, rfl, hch, hsets, hb4⟩; have Hg4 := hid (And.intro (good_pre w4 c G zs Xs hch hsets HP.out Hsn.out.l0 Hsn.out.s0 i Hk.out.2 (by omega)) (belw HR.out.2.2.2.1 hb4)); clear hch hsets hb4)
            | (go_at_call 47; refine Hg4.out.1.mono ?_; rintro e wg ⟨rfl, rfl⟩))
          go_ret
          exact ⟨rfl, Hg4.out.2⟩
        · have h0 : i = 0 := by
            by_cases e : i = 0
            · exact e
            · exact absurd (HR.out.2.1 e) hP
          have hz0 : zs = [] := List.eq_nil_of_length_eq_zero (Hk.out.2.trans h0)
          subst hz0
          have e1 : ((i : Int) == 0) = true := by simp [h0]
          have e2 : (i == 0) = true := by simp [h0]
          have e3 : decide (i = 0) = true := by simp [h0]
          have e4 : ((-1 : Int) == (i : Int)) = false := by simp [h0]
          have HP := hid hP
          have H0 := hid h0
          clear hP h0
          go_upto_region 17 with fail
          go_wp2_with (first
            | (go_at_call 43; refine Hmk.out.mono ?_; rintro e w4 ⟨c, Xs, rfl, hch, hsets, hb4⟩; have Hg4 := hid (And.intro (good_no w4 c G Xs hch hsets HP.out Hsn.out.l0 Hsn.out.s0) (belw HR.out.2.2.2.1 hb4)); clear hch hsets hb4)
            | (go_at_call 47; refine Hg4.out.1.mono ?_; rintro e wg ⟨rfl, rfl⟩))
          go_ret
          exact ⟨rfl, Hg4.out.2⟩
    · have hltI : ¬ (i : Int) < (ps.length : Int) := by omega
      by_cases hP : Pre G.prods [G.start] zs
      · have HP := hid hP
        clear hP
        go_upto_region 17 with fail
        go_wp2_with (first
          | (go_at_call 43; refine Hmk.out.mono ?_; rintro e w4 ⟨c, Xs, rfl, hch, hsets, hb4⟩; have Hg4 := hid (And.intro (good_pre w4 c G zs Xs hch hsets HP.out Hsn.out.l0 Hsn.out.s0 i Hk.out.2 (by omega)) (belw HR.out.2.2.2.1 hb4)); clear hch hsets hb4)
          | (go_at_call 47; refine Hg4.out.1.mono ?_; rintro e wg ⟨rfl, rfl⟩))
        go_ret
        exact ⟨rfl, Hg4.out.2⟩
      · have h0 : i = 0 := by
          by_cases e : i = 0
          · exact e
          · exact absurd (HR.out.2.1 e) hP
        have hz0 : zs = [] := List.eq_nil_of_length_eq_zero (Hk.out.2.trans h0)
        subst hz0
        have e1 : ((i : Int) == 0) = true := by simp [h0]
        have e2 : (i == 0) = true := by simp [h0]
        have e3 : decide (i = 0) = true := by simp [h0]
        have e4 : ((-1 : Int) == (i : Int)) = false := by simp [h0]
        have HP := hid hP
        have H0 := hid h0
        clear hP h0
        go_upto_region 17 with fail
        go_wp2_with (first
          | (go_at_call 43; refine Hmk.out.mono ?_; rintro e w4 ⟨c, Xs, rfl, hch, hsets, hb4⟩; have Hg4 := hid (And.intro (good_no w4 c G Xs hch hsets HP.out Hsn.out.l0 Hsn.out.s0) (belw HR.out.2.2.2.1 hb4)); clear hch hsets hb4)
          | (go_at_call 47; refine Hg4.out.1.mono ?_; rintro e wg ⟨rfl, rfl⟩))
        go_ret
        exact ⟨rfl, Hg4.out.2⟩
end Ed
end Go.Proofs.Ytaehooafdbaomaa
