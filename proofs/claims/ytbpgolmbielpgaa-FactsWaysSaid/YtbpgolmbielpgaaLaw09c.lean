/- Chapter 9 (facts): FactsWords: walk. -/
import Derived.Test.YtbpgolmbielpgaaMade
import Derived.Test.YtbpgolmbielpgaaRef9b
namespace Go.Proofs.Ytbpgolmbielpgaa
open Go.RowKit
attribute [local go_sem ↓] Go.wp_at_zero Go.wp_at_succ
attribute [local go_sem] frozen_alloc_lt

theorem Facts.gen_sho {ps : List (Int × List Int)} {n : Nat} {ks : List Int} (hs : Facts.Sho ps n ks) (hf : Facts.fixS ps ks) {a : Int} (h0 : 0 ≤ a) (h1 : a < n) : Facts.Gen ps true a ↔ 0 ≤ Facts.atK ks a := by
  constructor
  · intro hg
    clear h0 h1
    induction hg with
    | mk x hx _ _ ih =>
      obtain ⟨m, e, _⟩ := Facts.lengthS_some ks x.2 0 (Facts.atK ks) (by omega) (fun s hs' h0' => ⟨ih s hs' h0', Int.le_refl _⟩)
      exact (hf x hx m e).1
  · intro hk
    have hl := hs.fnd a h0 h1 hk
    generalize Facts.atK ks a = m at hl
    clear hk h0 h1
    induction hl with
    | mk x hx f _ ih => exact Facts.Gen.mk x hx (fun _ _ _ => rfl) (fun s hs' h0' => ih s hs' h0')

def BoolsAt (w1 : World) (n k : Nat) (v5 : Value) (w : World) : Prop := ∃ i : Nat, v5 = .int .i64 i ∧ i ≤ n ∧ k = n - i ∧ Below w1.heap.size w1 w

set_option maxHeartbeats 2000000 in
theorem bools_same (w : World) (ga gb : Option Addr) (ca cb n : Nat) (bs : List Bool) (hn : bs.length = n) (hn2 : n ≤ 100000) (ha : RowB w w.heap.size ga bs) (hb : RowB w w.heap.size gb bs) :
    Calls Try.prog 32 #[.slice ga n ca, .slice gb n cb] w fun e w' => e = .returned (.bool true) ∧ Below w.heap.size w w' := by
  have Hn := hid hn
  clear hn
  go_enter Try.func32, Try.ntmps32
  go_wp2_with fail
  go_loopg [5] n (fun k v5 wr => BoolsAt w n k v5 wr)
  case atStart => exact ⟨0, rfl, by omega, rfl, Below.refl _ _⟩
  case round =>
    obtain ⟨i, rfl, hi, hk, hbw⟩ := hrel
    have Hk := hid hk
    clear hk
    by_cases hlt : i < n
    · have hlt' : (i : Int) < (n : Int) := by omega
      have hi0 : (0 : Int) ≤ (i : Int) := by omega
      have hib : i < bs.length := by rw [Hn.out]; exact hlt
      obtain ⟨g1, o1, rfl, h1, c1⟩ := ha.at hib
      obtain ⟨g2, o2, rfl, h2, c2⟩ := hb.at hib
      have d1 := (hbw.cell (p := ⟨g1, o1 + i, none⟩) h1).trans c1
      have d2 := (hbw.cell (p := ⟨g2, o2 + i, none⟩) h2).trans c2
      obtain ⟨v, hv⟩ : ∃ v, v = bs[i] := ⟨_, rfl⟩
      rw [← hv] at d1 d2
      clear hv c1 c2
      go_wp2_with fail
      go_quiet (fail)
      go_wp2_with fail
      go_roundg (n - (i + 1))
      case measure => have hk := Hk.out; omega
      case rel => exact ⟨i + 1, by go_num, by omega, rfl, below_drewN hbw _⟩
    · have hge : ¬ (i : Int) < (n : Int) := by omega
      go_wp2_with fail
      go_ret
      exact ⟨rfl, hbw⟩

/-- Two grammars' boxes. -/
structure G2At (wd : World) (bp bw : Nat) (G : Gr) (gn gt gp gn' gt' gp' : Option Addr) (cn ct cp cn' ct' cp' : Nat) (W : World) : Prop where
  g : GIn W G gn gt gp
  g' : GIn W G gn' gt' gp'
  k : Bk W bp 41 [.int .i64 G.start, .int .i64 G.rules, .slice gn G.names.length cn, .slice gt G.terms.length ct, .slice gp G.prods.length cp]
  k' : Bk W bw 57 [.int .i64 G.start, .int .i64 G.rules, .slice gn' G.names.length cn', .slice gt' G.terms.length ct', .slice gp' G.prods.length cp']
  b : Below wd.heap.size wd W
theorem G2At.later {wd W W' : World} {bp bw : Nat} {G : Gr} {gn gt gp gn' gt' gp' : Option Addr} {cn ct cp cn' ct' cp' : Nat} (h : G2At wd bp bw G gn gt gp gn' gt' gp' cn ct cp cn' ct' cp' W) (hb : Below W.heap.size W W') : G2At wd bp bw G gn gt gp gn' gt' gp' cn ct cp cn' ct' cp' W' :=
  ⟨h.g.later hb, h.g'.later hb, h.k.below hb h.k.lt, h.k'.below hb h.k'.lt, h.b.trans (hb.mono h.b.size)⟩
theorem G2At.drew {wd W : World} {bp bw : Nat} {G : Gr} {gn gt gp gn' gt' gp' : Option Addr} {cn ct cp cn' ct' cp' : Nat} (h : G2At wd bp bw G gn gt gp gn' gt' gp' cn ct cp cn' ct' cp' W) : G2At wd bp bw G gn gt gp gn' gt' gp' cn ct cp cn' ct' cp' W.drew :=
  ⟨⟨h.g.n, h.g.t, h.g.p, h.g.h1, h.g.h2, h.g.h3, h.g.h4⟩, ⟨h.g'.n, h.g'.t, h.g'.p, h.g'.h1, h.g'.h2, h.g'.h3, h.g'.h4⟩, h.k, h.k', below_drewN h.b 1⟩

def WordsAt (w1 : World) (n k : Nat) (v8 : Value) (w : World) : Prop := ∃ i : Nat, v8 = .int .i64 i ∧ i ≤ n ∧ k = n - i ∧ Below w1.heap.size w1 w

set_option maxHeartbeats 8000000 in
set_option maxRecDepth 8000 in
theorem factsWords_calls (x : RawD) (v : Value) (w : World) (hx : RawAt w x v) : Calls Try.prog 7 #[v] w fun e w' => e = .returned (.bool true) ∧ Below w.heap.size w w' := by
  obtain ⟨gl, gr, cl, cr, rfl, hl, hr, hl1, hr1, hr2⟩ := hx
  have hk0 := Bk.new w 54 [.int .i64 x.n, .int .i64 x.t, .int .i64 x.start, .slice gl x.left.length cl, .slice gr x.right.length cr]
  have hb0 : Below w.heap.size w (w.alloc (.cells #[.int .i64 x.n, .int .i64 x.t, .int .i64 x.start, .slice gl x.left.length cl, .slice gr x.right.length cr] 54)) := (Below.refl _ w).alloc (Nat.le_refl _) _
  go_enter Try.func7, Try.ntmps7
  go_upto_region 1 with fail
  obtain ⟨wa, hwa⟩ : ∃ wa, wa = (w.alloc (.cells #[.int .i64 x.n, .int .i64 x.t, .int .i64 x.start, .slice gl x.left.length cl, .slice gr x.right.length cr] 54)) := ⟨_, rfl⟩
  rw [← hwa] at hk0 hb0 ⊢
  clear hwa
  go_upto_region 3 with (go_at_call 27; refine (speaks09_calls _).mono ?_; rintro e w1 ⟨rfl, hb1⟩)
  have hk1 := hk0.below hb1 hk0.lt
  have hbw1 : Below w.heap.size w w1 := hb0.trans (hb1.mono hb0.size)
  have hl2 : RowI w1 w1.heap.size gl x.left := (hl.below hbw1).mono hbw1.size
  have hrr2 : RowII w1 w1.heap.size gr x.right := (hr.below hbw1).mono hbw1.size
  have c0 := hk1.cell 0
  have c1 := hk1.cell 1
  have c2 := hk1.cell 2
  have c3 := hk1.cell 3
  have c4 := hk1.cell 4
  simp only [List.getElem?_cons_zero, List.getElem?_cons_succ] at c0 c1 c2 c3 c4
  clear hk0 hb0 hb1 hl hr
  go_upto_region 4 with (go_at_call 29; refine (made09_calls x gl gr cl cr _ hl2 hrr2 hl1 hr1 hr2).mono ?_; rintro e w2 ⟨N, T, hN1, hN8, hT3, gn, gt, gp, gn', gt', gp', cn, ct, cp, cn', ct', cp', rfl, hg, hg', hb2⟩; unfold gramV)
  obtain ⟨G, hG⟩ : ∃ G, G = Mk.gram N T 24 6 x := ⟨_, rfl⟩
  have hsd : Pl.soundB G = true := by rw [hG]; exact Mk.gram_sound x hN1 hN8 (by omega) (by omega) (by omega)
  have hn8 : G.names.length ≤ 8 := by rw [hG]; show (Mk.letters 65 N).length ≤ 8; rw [Mk.letters_length]; exact hN8
  rw [← hG] at hg hg' ⊢
  clear hG hN1 hN8 hT3 hl2 hrr2 hl1 hr1 hr2 c0 c1 c2 c3 c4 hk1
  have Hsd := hid hsd
  clear hsd
  have hbw2 : Below w.heap.size w w2 := hbw1.trans (hb2.mono hbw1.size)
  have hx1 := Bk.new w2 41 [.int .i64 G.start, .int .i64 G.rules, .slice gn G.names.length cn, .slice gt G.terms.length ct, .slice gp G.prods.length cp]
  have hm : G2At w w2.heap.size (w2.heap.size + 1) G gn gt gp gn' gt' gp' cn ct cp cn' ct' cp' ((w2.alloc (.cells #[.int .i64 G.start, .int .i64 G.rules, .slice gn G.names.length cn, .slice gt G.terms.length ct, .slice gp G.prods.length cp] 41)).alloc (.cells #[.int .i64 G.start, .int .i64 G.rules, .slice gn' G.names.length cn', .slice gt' G.terms.length ct', .slice gp' G.prods.length cp'] 57)) := by
    have hbb : Below w2.heap.size w2 ((w2.alloc (.cells #[.int .i64 G.start, .int .i64 G.rules, .slice gn G.names.length cn, .slice gt G.terms.length ct, .slice gp G.prods.length cp] 41)).alloc (.cells #[.int .i64 G.start, .int .i64 G.rules, .slice gn' G.names.length cn', .slice gt' G.terms.length ct', .slice gp' G.prods.length cp'] 57)) := ((Below.refl _ _).alloc (Nat.le_refl _) _).alloc (by simp) _
    exact ⟨hg.later hbb, hg'.later hbb, hx1.alloc _, bk_at (Bk.new (w2.alloc (.cells #[.int .i64 G.start, .int .i64 G.rules, .slice gn G.names.length cn, .slice gt G.terms.length ct, .slice gp G.prods.length cp] 41)) 57 [.int .i64 G.start, .int .i64 G.rules, .slice gn' G.names.length cn', .slice gt' G.terms.length ct', .slice gp' G.prods.length cp']) (by simp), hbw2.trans (hbb.mono hbw2.size)⟩
  obtain ⟨w3, hw3⟩ : ∃ w3, w3 = ((w2.alloc (.cells #[.int .i64 G.start, .int .i64 G.rules, .slice gn G.names.length cn, .slice gt G.terms.length ct, .slice gp G.prods.length cp] 41)).alloc (.cells #[.int .i64 G.start, .int .i64 G.rules, .slice gn' G.names.length cn', .slice gt' G.terms.length ct', .slice gp' G.prods.length cp'] 57)) := ⟨_, rfl⟩
  obtain ⟨bw, hbw⟩ : ∃ bw, bw = w2.heap.size + 1 := ⟨_, rfl⟩
  obtain ⟨bp, hbp⟩ : ∃ bp, bp = w2.heap.size := ⟨_, rfl⟩
  rw [← hw3, ← hbw, ← hbp] at hm
  rw [← hw3, ← hbw, ← hbp]
  clear hw3 hbw hbp hx1 hg hg' hb2 hbw2 hbw1
  have Hm2 := hid (G2At.drew hm)
  have d0p0 := (Hid.out Hm2).k.cell 0
  have d0p1 := (Hid.out Hm2).k.cell 1
  have d0p2 := (Hid.out Hm2).k.cell 2
  have d0p3 := (Hid.out Hm2).k.cell 3
  have d0p4 := (Hid.out Hm2).k.cell 4
  have d0q0 := (Hid.out Hm2).k'.cell 0
  have d0q1 := (Hid.out Hm2).k'.cell 1
  have d0q2 := (Hid.out Hm2).k'.cell 2
  have d0q3 := (Hid.out Hm2).k'.cell 3
  have d0q4 := (Hid.out Hm2).k'.cell 4
  simp only [List.getElem?_cons_zero, List.getElem?_cons_succ] at d0p0 d0p1 d0p2 d0p3 d0p4 d0q0 d0q1 d0q2 d0q3 d0q4
  clear hm
  go_region_held3 (fun w' => w'.cell? ⟨bp, 0, none⟩ = some (.int .i64 G.start) ∧ w'.cell? ⟨bp, 1, none⟩ = some (.int .i64 G.rules) ∧ w'.cell? ⟨bp, 2, none⟩ = some (.slice gn G.names.length cn) ∧ w'.cell? ⟨bp, 3, none⟩ = some (.slice gt G.terms.length ct) ∧ w'.cell? ⟨bp, 4, none⟩ = some (.slice gp G.prods.length cp) ∧ w'.cell? ⟨bw, 0, none⟩ = some (.int .i64 G.start) ∧ w'.cell? ⟨bw, 1, none⟩ = some (.int .i64 G.rules) ∧ w'.cell? ⟨bw, 2, none⟩ = some (.slice gn' G.names.length cn') ∧ w'.cell? ⟨bw, 3, none⟩ = some (.slice gt' G.terms.length ct') ∧ w'.cell? ⟨bw, 4, none⟩ = some (.slice gp' G.prods.length cp') ∧ Hid (G2At w bp bw G gn gt gp gn' gt' gp' cn ct cp cn' ct' cp' w'))
    (first | exact ⟨‹_›, ‹_›, ‹_›, ‹_›, ‹_›, ‹_›, ‹_›, ‹_›, ‹_›, ‹_›, ‹_›⟩ | exact ⟨d0p0, d0p1, d0p2, d0p3, d0p4, d0q0, d0q1, d0q2, d0q3, d0q4, Hm2⟩)
    (first | (go_at_call 28; refine (short_yes _ G gn gt gp cn ct cp ?_ Hsd.out).mono ?_; (exact G2At.g (Hid.out Hm2)); rintro e w4 ⟨g1, cap1, ks, rfl, hge1, hk1, hs1, hf1, hb4⟩; have Hm4 := hid (G2At.later (Hid.out Hm2) hb4); have d1p0 := (Hid.out Hm4).k.cell 0; have d1p1 := (Hid.out Hm4).k.cell 1; have d1p2 := (Hid.out Hm4).k.cell 2; have d1p3 := (Hid.out Hm4).k.cell 3; have d1p4 := (Hid.out Hm4).k.cell 4; have d1q0 := (Hid.out Hm4).k'.cell 0; have d1q1 := (Hid.out Hm4).k'.cell 1; have d1q2 := (Hid.out Hm4).k'.cell 2; have d1q3 := (Hid.out Hm4).k'.cell 3; have d1q4 := (Hid.out Hm4).k'.cell 4; simp only [List.getElem?_cons_zero, List.getElem?_cons_succ] at d1p0 d1p1 d1p2 d1p3 d1p4 d1q0 d1q1 d1q2 d1q3 d1q4) | (go_at_call 30; refine (rshort_calls _ G gn' gt' gp' cn' ct' cp' ?_ Hsd.out).mono ?_; (exact G2At.g' (Hid.out Hm4)); rintro e w5 ⟨g2, cap2, ks2, rfl, hge2, hk2, hs2, hf2, hb5⟩; have Hm5 := hid (G2At.later (Hid.out Hm4) hb5); have d2p0 := (Hid.out Hm5).k.cell 0; have d2p1 := (Hid.out Hm5).k.cell 1; have d2p2 := (Hid.out Hm5).k.cell 2; have d2p3 := (Hid.out Hm5).k.cell 3; have d2p4 := (Hid.out Hm5).k.cell 4; have d2q0 := (Hid.out Hm5).k'.cell 0; have d2q1 := (Hid.out Hm5).k'.cell 1; have d2q2 := (Hid.out Hm5).k'.cell 2; have d2q3 := (Hid.out Hm5).k'.cell 3; have d2q4 := (Hid.out Hm5).k'.cell 4; simp only [List.getElem?_cons_zero, List.getElem?_cons_succ] at d2p0 d2p1 d2p2 d2p3 d2p4 d2q0 d2q1 d2q2 d2q3 d2q4))
  have hkk := hs1.same hs2 hf1 hf2
  rw [← hkk] at hk2
  have hk1' := hk1.below hb5 hk1.lt
  have Hs1 := hid hs1
  have Hf1 := hid hf1
  clear hkk hs2 hf2 hs1 hf1 d0p0 d0p1 d0p2 d0p3 d0p4 d0q0 d0q1 d0q2 d0q3 d0q4 d1p0 d1p1 d1p2 d1p3 d1p4 d1q0 d1q1 d1q2 d1q3 d1q4 Hm2 Hm4 hk1 hb4 hge1 hge2 hb5
  go_upto_region 6 with (go_at_call 31; refine (gen_yes _ G gn gt gp cn ct cp (G2At.g (Hid.out Hm5)) Hsd.out).mono ?_; rintro e w6 ⟨g3, cap3, gb, rfl, hgl, hgr, hgp, hb6⟩)
  have Hm6 := hid (G2At.drew (G2At.later (Hid.out Hm5) hb6))
  have d3p0 := (Hid.out Hm6).k.cell 0
  have d3p1 := (Hid.out Hm6).k.cell 1
  have d3p2 := (Hid.out Hm6).k.cell 2
  have d3p3 := (Hid.out Hm6).k.cell 3
  have d3p4 := (Hid.out Hm6).k.cell 4
  have d3q0 := (Hid.out Hm6).k'.cell 0
  have d3q1 := (Hid.out Hm6).k'.cell 1
  have d3q2 := (Hid.out Hm6).k'.cell 2
  have d3q3 := (Hid.out Hm6).k'.cell 3
  have d3q4 := (Hid.out Hm6).k'.cell 4
  simp only [List.getElem?_cons_zero, List.getElem?_cons_succ] at d3p0 d3p1 d3p2 d3p3 d3p4 d3q0 d3q1 d3q2 d3q3 d3q4
  have h16 : Bk w6.drew g1 3 (ks.map (Value.int .i64)) := bk_drew (hk1'.below hb6 hk1'.lt)
  have h26 : Bk w6.drew g2 3 (ks.map (Value.int .i64)) := bk_drew (hk2.below hb6 hk2.lt)
  have h36 : RowB w6.drew w6.drew.heap.size g3 gb := hgr
  have Hgl := hid hgl
  have Hgp := hid hgp
  clear d2p0 d2p1 d2p2 d2p3 d2p4 d2q0 d2q1 d2q2 d2q3 d2q4 Hm5 hk1' hk2 hb6 hgr hgl hgp
  go_region_held3 (fun w' => w'.cell? ⟨bp, 0, none⟩ = some (.int .i64 G.start) ∧ w'.cell? ⟨bp, 1, none⟩ = some (.int .i64 G.rules) ∧ w'.cell? ⟨bp, 2, none⟩ = some (.slice gn G.names.length cn) ∧ w'.cell? ⟨bp, 3, none⟩ = some (.slice gt G.terms.length ct) ∧ w'.cell? ⟨bp, 4, none⟩ = some (.slice gp G.prods.length cp) ∧ w'.cell? ⟨bw, 0, none⟩ = some (.int .i64 G.start) ∧ w'.cell? ⟨bw, 1, none⟩ = some (.int .i64 G.rules) ∧ w'.cell? ⟨bw, 2, none⟩ = some (.slice gn' G.names.length cn') ∧ w'.cell? ⟨bw, 3, none⟩ = some (.slice gt' G.terms.length ct') ∧ w'.cell? ⟨bw, 4, none⟩ = some (.slice gp' G.prods.length cp') ∧ Hid (G2At w bp bw G gn gt gp gn' gt' gp' cn ct cp cn' ct' cp' w'))
    (first | exact ⟨‹_›, ‹_›, ‹_›, ‹_›, ‹_›, ‹_›, ‹_›, ‹_›, ‹_›, ‹_›, ‹_›⟩ | exact ⟨d3p0, d3p1, d3p2, d3p3, d3p4, d3q0, d3q1, d3q2, d3q3, d3q4, Hm6⟩)
    (first | (go_at_call 33; refine (null_yes _ G gn gt gp cn ct cp ?_ Hsd.out).mono ?_; (exact G2At.g (Hid.out Hm6)); rintro e w7 ⟨g7, cap7, bs, rfl, hbl, hbr, hbp, hb7⟩; have Hm7 := hid (G2At.later (Hid.out Hm6) hb7); have d4p0 := (Hid.out Hm7).k.cell 0; have d4p1 := (Hid.out Hm7).k.cell 1; have d4p2 := (Hid.out Hm7).k.cell 2; have d4p3 := (Hid.out Hm7).k.cell 3; have d4p4 := (Hid.out Hm7).k.cell 4; have d4q0 := (Hid.out Hm7).k'.cell 0; have d4q1 := (Hid.out Hm7).k'.cell 1; have d4q2 := (Hid.out Hm7).k'.cell 2; have d4q3 := (Hid.out Hm7).k'.cell 3; have d4q4 := (Hid.out Hm7).k'.cell 4; simp only [List.getElem?_cons_zero, List.getElem?_cons_succ] at d4p0 d4p1 d4p2 d4p3 d4p4 d4q0 d4q1 d4q2 d4q3 d4q4) | (go_at_call 34; refine (rnull_calls _ G gn' gt' gp' cn' ct' cp' ?_ Hsd.out).mono ?_; (exact G2At.g' (Hid.out Hm7)); rintro e w8 ⟨g8, cap8, bs2, rfl, hbl2, hbr2, hbp2, hb8⟩; have Hm8 := hid (G2At.later (Hid.out Hm7) hb8); have d5p0 := (Hid.out Hm8).k.cell 0; have d5p1 := (Hid.out Hm8).k.cell 1; have d5p2 := (Hid.out Hm8).k.cell 2; have d5p3 := (Hid.out Hm8).k.cell 3; have d5p4 := (Hid.out Hm8).k.cell 4; have d5q0 := (Hid.out Hm8).k'.cell 0; have d5q1 := (Hid.out Hm8).k'.cell 1; have d5q2 := (Hid.out Hm8).k'.cell 2; have d5q3 := (Hid.out Hm8).k'.cell 3; have d5q4 := (Hid.out Hm8).k'.cell 4; simp only [List.getElem?_cons_zero, List.getElem?_cons_succ] at d5p0 d5p1 d5p2 d5p3 d5p4 d5q0 d5q1 d5q2 d5q3 d5q4) | (go_at_call 32; refine (bools_same _ g7 g8 cap7 cap8 G.names.length bs hbl (by omega) ((hbr.below hb8).mono hb8.size) (by rw [Facts.inB_same hbl hbl2 hbp hbp2]; exact hbr2)).mono ?_; rintro e w9 ⟨rfl, hb9⟩; have Hm9 := hid (G2At.later (Hid.out Hm8) hb9); have d6p0 := (Hid.out Hm9).k.cell 0; have d6p1 := (Hid.out Hm9).k.cell 1; have d6p2 := (Hid.out Hm9).k.cell 2; have d6p3 := (Hid.out Hm9).k.cell 3; have d6p4 := (Hid.out Hm9).k.cell 4; have d6q0 := (Hid.out Hm9).k'.cell 0; have d6q1 := (Hid.out Hm9).k'.cell 1; have d6q2 := (Hid.out Hm9).k'.cell 2; have d6q3 := (Hid.out Hm9).k'.cell 3; have d6q4 := (Hid.out Hm9).k'.cell 4; simp only [List.getElem?_cons_zero, List.getElem?_cons_succ] at d6p0 d6p1 d6p2 d6p3 d6p4 d6q0 d6q1 d6q2 d6q3 d6q4))
  have hb69 : Below w6.drew.heap.size w6.drew w9 := hb7.trans ((hb8.mono hb7.size).trans (hb9.mono (Nat.le_trans hb7.size hb8.size)))
  have j1 := h16.below hb69 h16.lt
  have j2 := h26.below hb69 h26.lt
  have j3 := (h36.below hb69).mono hb69.size
  have hbw9 := (Hid.out Hm9).b
  have Hhb := hid hb69
  clear d3p0 d3p1 d3p2 d3p3 d3p4 d3q0 d3q1 d3q2 d3q3 d3q4 d4p0 d4p1 d4p2 d4p3 d4p4 d4q0 d4q1 d4q2 d4q3 d4q4 d5p0 d5p1 d5p2 d5p3 d5p4 d5q0 d5q1 d5q2 d5q3 d5q4 d6p0 d6p1 d6p2 d6p3 d6p4 d6q0 d6q1 d6q2 d6q3 d6q4 Hm6 Hm7 Hm8 Hm9 h16 h26 h36 hb7 hb8 hb9 hb69 hbl hbr hbp hbl2 hbr2 hbp2
  go_wp2_with fail
  go_loopg [8] G.names.length (fun k v8 wr => WordsAt w9 G.names.length k v8 wr)
  case atStart => exact ⟨0, rfl, by omega, rfl, Below.refl _ _⟩
  case round =>
    obtain ⟨i, rfl, hi, hk, hbr⟩ := hrel
    have Hk := hid hk
    clear hk
    by_cases hlt : i < G.names.length
    · have hlt' : (i : Int) < (G.names.length : Int) := by omega
      have hi0 : (0 : Int) ≤ (i : Int) := by omega
      have hik : i < ks.length := by rw [Hs1.out.len]; exact hlt
      have hig : i < gb.length := by rw [Hgl.out]; exact hlt
      have c1 := j1.cell i
      have c2 := j2.cell i
      simp only [List.getElem?_map, List.getElem?_eq_getElem hik, Option.map_some] at c1 c2
      obtain ⟨kv, hkv⟩ : ∃ kv, kv = ks[i] := ⟨_, rfl⟩
      rw [← hkv] at c1 c2
      obtain ⟨g9, o9, rfl, h9, c3⟩ := j3.at hig
      obtain ⟨gv, hgv⟩ : ∃ gv, gv = gb[i] := ⟨_, rfl⟩
      rw [← hgv] at c3
      have hfit : gv = true ↔ 0 ≤ kv := by
        have e1 : Facts.inB gb i = gv := by simp [Facts.inB, List.getD, List.getElem?_eq_getElem hig, hgv]
        have e2 : Facts.atK ks i = kv := by simp [Facts.atK, List.getD, List.getElem?_eq_getElem hik, hkv]
        have h1 := Hgp.out (i : Int) (by omega)
        have h2 := Facts.gen_sho Hs1.out Hf1.out (a := (i : Int)) (by omega) hlt'
        rw [e1] at h1
        rw [e2] at h2
        exact h1.trans h2
      have d1 := (hbr.cell (p := ⟨g1, i, none⟩) j1.lt).trans c1
      have d2 := (hbr.cell (p := ⟨g2, i, none⟩) j2.lt).trans c2
      have d3 := (hbr.cell (p := ⟨g9, o9 + i, none⟩) h9).trans c3
      clear hkv hgv c1 c2 c3
      by_cases hkp : 0 ≤ kv
      · have hgt := hfit.2 hkp
        subst hgt
        clear hfit
        go_wp2_with fail
        go_quiet (fail)
        go_wp2_with fail
        go_roundg (G.names.length - (i + 1))
        case measure => have hk := Hk.out; omega
        case rel => exact ⟨i + 1, by go_num, by omega, rfl, below_drewN hbr _⟩
      · have hgf : gv = false := by
          cases gv
          · rfl
          · exact absurd (hfit.1 rfl) hkp
        subst hgf
        clear hfit
        go_wp2_with fail
        go_quiet (fail)
        go_wp2_with fail
        go_roundg (G.names.length - (i + 1))
        case measure => have hk := Hk.out; omega
        case rel => exact ⟨i + 1, by go_num, by omega, rfl, below_drewN hbr _⟩
    · have hge : ¬ (i : Int) < (G.names.length : Int) := by omega
      go_wp2_with fail
      go_ret
      exact ⟨rfl, hbw9.trans (hbr.mono hbw9.size)⟩
end Go.Proofs.Ytbpgolmbielpgaa
