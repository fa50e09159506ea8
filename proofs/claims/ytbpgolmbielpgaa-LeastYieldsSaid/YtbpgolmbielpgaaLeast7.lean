/- Chapter 15 (least): Nodes, Tree. -/
import Derived.Test.YtbpgolmbielpgaaLeast6
import Derived.Test.YtbpgolmbielpgaaLeastLaw4
namespace Go.Proofs.Ytbpgolmbielpgaa
open Go.RowKit
attribute [local go_sem ↓] Go.wp_at_zero Go.wp_at_succ
attribute [local go_sem] frozen_alloc_lt

theorem tree_calls {V : GV} {bt bn n cb : Nat} {gw : Option Addr} {cw : Nat} {word : List Int} {R : Nat → Nat} {C : Nat → Nat → Nat} {N : Nat → Nat → Nat → Int} {ps : List (Int × List Int)} (m : Nat) : TreeSays V bt bn n cb gw cw word R C N ps m := by
  induction m using Nat.strongRecOn with
  | ind m ih => exact tree_step m ih

/-- What right tells of a grammar and a word. -/
structure Right (G : Gr) (word : List Int) : Prop where
  s : Pl.soundB G = true
  l : word.length ≤ 64
  t : ∀ x ∈ word, 0 ≤ x ∧ x < (G.terms.length : Int)
theorem right_yes {G : Gr} {word : List Int} (h : Le.rightB G word = true) : Right G word := by
  unfold Le.rightB at h
  simp only [Bool.and_eq_true, decide_eq_true_eq, Bool.not_eq_true', List.any_eq_false] at h
  obtain ⟨⟨h1, h2⟩, h3⟩ := h
  refine ⟨h1, h2, fun x hx => ?_⟩
  have := h3 x hx
  unfold Le.badT at this
  simp at this
  omega
/-- A filled table, ready for tree. -/
theorem FillPost.tr {w w' : World} {G : Gr} {gn gt gp : Option Addr} {cn ct cp : Nat} {gw : Option Addr} {cw : Nat} {word : List Int} {e : Ending} (h : GIn w G gn gt gp) (hr : Right G word) (hw : RowI w w.heap.size gw word) (hf : FillPost w G gn gt gp cn ct cp gw cw word e w') :
    ∃ (V : GV) (bt bn cb : Nat) (R : Nat → Nat) (C : Nat → Nat → Nat) (N : Nat → Nat → Nat → Int), e = .returned (.pointer (some ⟨bt, 0, none⟩)) ∧ TrIn w' V bt bn G.names.length cb gw cw word R C N G.prods ∧ Below w.heap.size w w' := by
  obtain ⟨bt, bn, cb, R, C, N, rfl, hT, hN, hS, hF, hb⟩ := hf
  have Hs := sndG hr.s
  have hps : ∀ x ∈ G.prods, 0 ≤ x.1 := fun x hx => Hs.l0 x hx
  exact ⟨_, bt, bn, cb, R, C, N, rfl, ⟨hT.t, (hw.below hb).mono hb.size, hr.l, (h.p.below hb).mono hb.size, rfl, by have := Hs.p1; omega, fun x hx => ⟨Hs.r16 x hx, Hs.l0 x hx, Hs.l1 x hx, fun s hs => ⟨Hs.r1 x hx s hs, by have := Hs.r0 x hx s hs; have := Hs.t1; omega⟩⟩, .mk' hps hN hS hF⟩, hb⟩

theorem fill_tr (w : World) {G : Gr} {gn gt gp : Option Addr} (cn ct cp : Nat) {gw : Option Addr} (cw : Nat) {word : List Int} (h : GIn w G gn gt gp) (hr : Right G word) (hw : RowI w w.heap.size gw word) :
    Calls Try.prog 52 #[gramV G gn gt gp cn ct cp, .slice gw word.length cw] w fun e w' =>
      ∃ (V : GV) (bt bn cb : Nat) (R : Nat → Nat) (C : Nat → Nat → Nat) (N : Nat → Nat → Nat → Int), e = .returned (.pointer (some ⟨bt, 0, none⟩)) ∧ TrIn w' V bt bn G.names.length cb gw cw word R C N G.prods ∧ Below w.heap.size w w' :=
  (fill_calls w G gn gt gp cn ct cp h hr.s gw cw word hw hr.l).mono fun _ _ hf => FillPost.tr h hr hw hf
/-- The whole word's number. -/
theorem of_tr {w : World} {V : GV} {bt bn n cb : Nat} {gw : Option Addr} {cw : Nat} {word : List Int} {R : Nat → Nat} {C : Nat → Nat → Nat} {N : Nat → Nat → Nat → Int} {ps : List (Int × List Int)} (h : TrIn w V bt bn n cb gw cw word R C N ps) {s : Int} (hs0 : 0 ≤ s) (hs : s < n) :
    Calls Try.prog 53 #[.pointer (some ⟨bt, 0, none⟩), .int .i64 s, .int .i64 0, .int .i64 word.length] w fun e w' => e = .returned (.int .i64 (N s.toNat 0 word.length)) ∧ w' = w := by
  have := of_calls h.tab h.wd h.len s 0 word.length hs (by omega) (Nat.zero_le _) (Nat.le_refl _)
  unfold Le.ofT at this
  rw [if_pos hs0] at this
  exact this
theorem start_tells {ps : List (Int × List Int)} {word : List Int} {N : Nat → Nat → Nat → Int} (h : Le.LeastN ps word N) {s : Int} (hs0 : 0 ≤ s) : Le.Least ps word s (N s.toNat 0 word.length) := by
  have := h.tells s.toNat
  rwa [show ((s.toNat : Nat) : Int) = s by omega] at this

set_option maxHeartbeats 2000000 in
theorem nodes_calls (w : World) (G : Gr) (gn gt gp : Option Addr) (cn ct cp : Nat) (h : GIn w G gn gt gp) (gw : Option Addr) (cw : Nat) (word : List Int) (hw : RowI w w.heap.size gw word) (hwl : word.length ≤ 9223372036854775807) :
    Calls Try.prog 26 #[gramV G gn gt gp cn ct cp, .slice gw word.length cw] w fun e w' =>
      ∃ v, e = .returned (.int .i64 v) ∧ (Le.rightB G word = false → v = -1) ∧ (Le.rightB G word = true → Le.Least G.prods word G.start v) ∧ Below w.heap.size w w' := by
  have hk := Bk.new w 41 [.int .i64 G.start, .int .i64 G.rules, .slice gn G.names.length cn, .slice gt G.terms.length ct, .slice gp G.prods.length cp]
  have hb0 : Below w.heap.size w (w.alloc (.cells #[.int .i64 G.start, .int .i64 G.rules, .slice gn G.names.length cn, .slice gt G.terms.length ct, .slice gp G.prods.length cp] 41)) := (Below.refl _ _).alloc (Nat.le_refl _) _
  have H := hid h
  have hrb : ∀ r, Le.rightB G word = r → Hid (Le.rightB G word = r) := fun r hr => hid hr
  have h2' := h.later hb0
  have hw2' := (hw.below hb0).mono hb0.size
  unfold gramV
  clear h
  cases hr : Le.rightB G word with
  | false =>
    have Hr := hid hr
    have H2 := hid h2'
    have Hw2 := hid hw2'
    have Hb0 := hid hb0
    clear hr hrb h2' hw2' hb0
    go_enter Try.func26, Try.ntmps26
    go_wp2_with (go_at_call 51; refine (lright_calls _ G gn gt gp cn ct cp H2.out gw cw word Hw2.out hwl).mono ?_; rintro e w1 ⟨rfl, hb1⟩; rw [Hr.out])
    go_ret
    exact ⟨-1, rfl, fun _ => rfl, fun h => absurd h (by simp), bel0 Hb0.out hb1⟩
  | true =>
    have hR := right_yes hr
    have Hr := hid hr
    have H2 := hid h2'
    have Hw2 := hid hw2'
    have Hb0 := hid hb0
    have HR := hid hR
    clear hr hrb h2' hw2' hb0 hR
    go_enter Try.func26, Try.ntmps26
    go_upto_region 1 with fail
    obtain ⟨wd, hwd⟩ : ∃ wd, wd = (w.alloc (.cells #[.int .i64 G.start, .int .i64 G.rules, .slice gn G.names.length cn, .slice gt G.terms.length ct, .slice gp G.prods.length cp] 41)) := ⟨_, rfl⟩
    obtain ⟨b, hb⟩ : ∃ b, b = w.heap.size := ⟨_, rfl⟩
    rw [← hwd] at hk H2 Hw2 Hb0 ⊢
    rw [← hb] at hk ⊢
    clear hwd hb
    have g0 := hk.cell 0
    have g1 := hk.cell 1
    have g2 := hk.cell 2
    have g3 := hk.cell 3
    have g4 := hk.cell 4
    simp only [List.getElem?_cons_zero, List.getElem?_cons_succ] at g0 g1 g2 g3 g4
    go_upto_region 3 with (go_at_call 51; refine (lright_calls _ G gn gt gp cn ct cp H2.out gw cw word Hw2.out hwl).mono ?_; rintro e w1 ⟨rfl, hb1⟩; rw [Hr.out]; have hk1 := hk.below hb1 hk.lt; have g0' := hk1.cell 0; have g1' := hk1.cell 1; have g2' := hk1.cell 2; have g3' := hk1.cell 3; have g4' := hk1.cell 4; simp only [List.getElem?_cons_zero, List.getElem?_cons_succ] at g0' g1' g2' g3' g4'; have H3 := hid (H2.out.later hb1); have Hw3 := hid ((Hw2.out.below hb1).mono hb1.size); have Hb1 := hid hb1; have Hk1 := hid hk1; clear hb1 hk1)
    have hfill := fill_tr w1.drew cn ct cp cw (H3.out.later (below_drewN (Below.refl _ _) 1)) HR.out ((Hw3.out.below (below_drewN (Below.refl _ _) 1)).mono (Nat.le_refl _))
    have Hfill := hid hfill
    have Hs := hid (sndG HR.out.s)
    have Hk1d := hid (Hk1.out.below (below_drewN (Below.refl _ _) 1) Hk1.out.lt)
    unfold gramV at Hfill
    clear hfill
    go_region_held3 (fun w' => w'.cell? ⟨b, 0, none⟩ = some (.int .i64 G.start) ∧ w'.cell? ⟨b, 1, none⟩ = some (.int .i64 G.rules) ∧ w'.cell? ⟨b, 2, none⟩ = some (.slice gn G.names.length cn) ∧ w'.cell? ⟨b, 3, none⟩ = some (.slice gt G.terms.length ct) ∧ w'.cell? ⟨b, 4, none⟩ = some (.slice gp G.prods.length cp)) (go_keep)
      (first
        | (go_at_call 53; refine (of_tr hT.out Hs.out.s0 Hs.out.s1).mono ?_; rintro e w3 ⟨rfl, rfl⟩)
        | (go_at_call 52; refine Hfill.out.mono ?_; rintro e w2 ⟨V, bt, bn, cb, R, C, N, rfl, hT, hb2⟩; have hk2 := Hk1d.out.below hb2 Hk1d.out.lt; have d0 := hk2.cell 0; have d1 := hk2.cell 1; have d2 := hk2.cell 2; have d3 := hk2.cell 3; have d4 := hk2.cell 4; simp only [List.getElem?_cons_zero, List.getElem?_cons_succ] at d0 d1 d2 d3 d4; have hT := hid hT; have Hb2 := hid hb2; clear hb2 hk2))
    go_wp2_with fail
    go_ret
    refine ⟨_, rfl, fun h => ?_, fun _ => start_tells hT.out.L Hs.out.s0, (bel0 Hb0.out Hb1.out).trans ((below_drewN (Below.refl _ _) 1).trans (Hb2.out.mono ?_))⟩
    · cases h
    · have := Hb0.out.size
      have := Hb1.out.size
      show w.heap.size ≤ w1.heap.size
      omega

def TreeSaid (w : World) (G : Gr) (word : List Int) (e : Ending) (w' : World) : Prop :=
  ∃ (p : Int) (kids : Fo) (gk : Option Addr) (ck : Nat) (er : Int), e = .returned (.tuple #[.agg #[.int .i64 p, .slice gk kids.len ck], .int .i64 er]) ∧ FoAt w' (fun k => w.heap.size ≤ k ∧ k < w'.heap.size) gk kids 0 ∧
    (Le.rightB G word = false → er = 1 ∧ kids = .nil) ∧
    (Le.rightB G word = true → ∃ v, Le.Least G.prods word G.start v ∧ ((v = -1 ∧ er = 10 ∧ kids = .nil) ∨ (65536 < v ∧ er = 6 ∧ kids = .nil) ∨ (0 ≤ v ∧ v ≤ 65536 ∧ er = 0 ∧ Le.TreeIs G.prods word G.start v p kids))) ∧ Below w.heap.size w w'

set_option maxHeartbeats 4000000 in
theorem ltree_calls (w : World) (G : Gr) (gn gt gp : Option Addr) (cn ct cp : Nat) (h : GIn w G gn gt gp) (gw : Option Addr) (cw : Nat) (word : List Int) (hw : RowI w w.heap.size gw word) (hwl : word.length ≤ 9223372036854775807) :
    Calls Try.prog 25 #[gramV G gn gt gp cn ct cp, .slice gw word.length cw] w (TreeSaid w G word) := by
  have hk := (Bk.new w 41 [.int .i64 G.start, .int .i64 G.rules, .slice gn G.names.length cn, .slice gt G.terms.length ct, .slice gp G.prods.length cp]).alloc (.cells #[.int .i64 0, .slice none 0 0] 45)
  have hk4 := bk_at (Bk.new (w.alloc (.cells #[.int .i64 G.start, .int .i64 G.rules, .slice gn G.names.length cn, .slice gt G.terms.length ct, .slice gp G.prods.length cp] 41)) 45 [.int .i64 0, .slice none 0 0]) (show _ = w.heap.size + 1 by simp)
  have hb0 : Below w.heap.size w ((w.alloc (.cells #[.int .i64 G.start, .int .i64 G.rules, .slice gn G.names.length cn, .slice gt G.terms.length ct, .slice gp G.prods.length cp] 41)).alloc (.cells #[.int .i64 0, .slice none 0 0] 45)) := ((Below.refl _ _).alloc (Nat.le_refl _) _).alloc (by simp) _
  have H := hid h
  have h2' := h.later hb0
  have hw2' := (hw.below hb0).mono hb0.size
  unfold gramV
  obtain ⟨wd, hwd⟩ : ∃ wd, wd = ((w.alloc (.cells #[.int .i64 G.start, .int .i64 G.rules, .slice gn G.names.length cn, .slice gt G.terms.length ct, .slice gp G.prods.length cp] 41)).alloc (.cells #[.int .i64 0, .slice none 0 0] 45)) := ⟨_, rfl⟩
  rw [← hwd] at hk hk4 hb0 h2' hw2'
  have Hwd := hid hwd
  have H2 := hid h2'
  have Hw2 := hid hw2'
  have Hb0 := hid hb0
  obtain ⟨rb, hr⟩ : ∃ rb, Le.rightB G word = rb := ⟨_, rfl⟩
  have Hr := hid hr
  clear h hwd h2' hw2' hb0 hr
  go_enter Try.func25, Try.ntmps25
  go_upto_region 1 with fail
  rw [← Hwd.out]
  obtain ⟨b, hb⟩ : ∃ b, b = w.heap.size := ⟨_, rfl⟩
  obtain ⟨b4, hb4⟩ : ∃ b4, b4 = b + 1 := ⟨_, rfl⟩
  rw [← hb] at hk hk4 ⊢
  rw [← hb4] at hk4 ⊢
  have Hb := hid hb
  have Hb4 := hid hb4
  clear hb hb4
  have g0 := hk.cell 0
  have g1 := hk.cell 1
  have g2 := hk.cell 2
  have g3 := hk.cell 3
  have g4 := hk.cell 4
  simp only [List.getElem?_cons_zero, List.getElem?_cons_succ] at g0 g1 g2 g3 g4
  cases rb with
  | false =>
    go_wp2_with (go_at_call 51; refine (lright_calls _ G gn gt gp cn ct cp H2.out gw cw word Hw2.out hwl).mono ?_; rintro e w1 ⟨rfl, hb1⟩; rw [Hr.out]; have hk1 := hk4.below hb1 hk4.lt; have e0 := hk1.cell 0; have e1 := hk1.cell 1; have f0 := hk1.free 0; have f1 := hk1.free 1; simp only [List.getElem?_cons_zero, List.getElem?_cons_succ] at e0 e1)
    obtain ⟨W, hW⟩ : ∃ W, W = ((w1.setCell ⟨b4, 0, none⟩ (.int .i64 0)).setCell ⟨b4, 1, none⟩ (.slice none 0 0)) := ⟨_, rfl⟩
    have hs1 := (hk1.set 0 (.int .i64 0)).set 1 (.slice none 0 0)
    have hkS : Kp (fun x => x = b4) w1 ((w1.setCell ⟨b4, 0, none⟩ (.int .i64 0)).setCell ⟨b4, 1, none⟩ (.slice none 0 0)) := Kp.set (S := fun x => x = b4) (p := ⟨b4, 1, none⟩) (Kp.set (S := fun x => x = b4) (p := ⟨b4, 0, none⟩) (Kp.refl _ _) (.inl rfl) _) (.inl rfl) _
    simp only [List.set_cons_zero, List.set_cons_succ] at hs1
    rw [← hW] at hs1 hkS ⊢
    have r0 := hs1.cell 0
    have r1 := hs1.cell 1
    simp only [List.getElem?_cons_zero, List.getElem?_cons_succ] at r0 r1
    have hbe := Hb.out
    have hbe4 := Hb4.out
    have hz0 := Hb0.out.size
    refine bodyPost_ret (v := .tuple #[.agg #[.int .i64 0, .slice none 0 0], .int .i64 1]) (by simp [results, Try.results25, go_sem, r0, r1]) rfl ?_
    have hz1 := hb1.size
    exact ⟨0, .nil, none, 0, 1, rfl, trivial, fun _ => ⟨rfl, rfl⟩, fun h => absurd h (by rw [Hr.out]; simp), (bel0 Hb0.out hb1).trans (hkS.to_below (B := w.heap.size) (by omega) (fun k e => by omega))⟩
  | true =>
    have hR := right_yes Hr.out
    have HR := hid hR
    have Hs := hid (sndG hR.s)
    have Hk4 := hid hk4
    have Hk := hid hk
    clear hR hk4 hk
    go_upto_region 4 with (first
      | (go_at_call 51; refine (lright_calls _ G gn gt gp cn ct cp H2.out gw cw word Hw2.out hwl).mono ?_; rintro e w1 ⟨rfl, hb1⟩; rw [Hr.out]; have hk1 := Hk.out.below hb1 Hk.out.lt; have g0' := hk1.cell 0; have g1' := hk1.cell 1; have g2' := hk1.cell 2; have g3' := hk1.cell 3; have g4' := hk1.cell 4; simp only [List.getElem?_cons_zero, List.getElem?_cons_succ] at g0' g1' g2' g3' g4'; have hfill := fill_tr w1 cn ct cp cw (H2.out.later hb1) HR.out ((Hw2.out.below hb1).mono hb1.size); unfold gramV at hfill; have Hfill := hid hfill; have Hk1 := hid hk1; have Hb1 := hid hb1; clear hfill hk1 hb1)
      | (go_at_call 52; refine Hfill.out.mono ?_; rintro e w2 ⟨V, bt, bn, cb, R, C, N, rfl, hT, hb2⟩))
    clear g0 g1 g2 g3 g4 g0' g1' g2' g3' g4'
    have hb02 : Below w.heap.size w w2 := bel0 (bel0 Hb0.out Hb1.out) hb2
    have hk2 := Hk1.out.below hb2 Hk1.out.lt
    have hk42 := (Hk4.out.below Hb1.out Hk4.out.lt).below hb2 (Hk4.out.below Hb1.out Hk4.out.lt).lt
    have g0 := hk2.cell 0
    have e0 := hk42.cell 0
    have e1 := hk42.cell 1
    have f0 := hk42.free 0
    have f1 := hk42.free 1
    simp only [List.getElem?_cons_zero, List.getElem?_cons_succ] at g0 e0 e1
    have htl := start_tells hT.L Hs.out.s0
    have hof := of_tr hT Hs.out.s0 Hs.out.s1
    have hrg := hT.L.range G.start.toNat 0 word.length
    obtain ⟨v, hv⟩ : ∃ v, v = N G.start.toNat 0 word.length := ⟨_, rfl⟩
    rw [← hv] at htl hof hrg
    unfold Le.cap at hrg
    have HT := hid hT
    have Htl := hid htl
    have Hof := hid hof
    have Hv := hid hv
    have Hb02 := hid hb02
    have Hk42 := hid hk42
    have Hb2 := hid hb2
    clear hT htl hof hv hb02 hk2 hk42 hb2
    by_cases c1 : v = -1
    · have c1b : (v == -1) = true := by simp [c1]
      have C1 := hid c1
      clear c1
      go_wp2_with (go_at_call 53; refine Hof.out.mono ?_; rintro e w3 ⟨rfl, rfl⟩)
      obtain ⟨W, hW⟩ : ∃ W, W = ((w3.setCell ⟨b4, 0, none⟩ (.int .i64 0)).setCell ⟨b4, 1, none⟩ (.slice none 0 0)) := ⟨_, rfl⟩
      have hs1 := (Hk42.out.set 0 (.int .i64 0)).set 1 (.slice none 0 0)
      have hkS : Kp (fun x => x = b4) w3 ((w3.setCell ⟨b4, 0, none⟩ (.int .i64 0)).setCell ⟨b4, 1, none⟩ (.slice none 0 0)) := Kp.set (S := fun x => x = b4) (p := ⟨b4, 1, none⟩) (Kp.set (S := fun x => x = b4) (p := ⟨b4, 0, none⟩) (Kp.refl _ _) (.inl rfl) _) (.inl rfl) _
      simp only [List.set_cons_zero, List.set_cons_succ] at hs1
      rw [← hW] at hs1 hkS ⊢
      have r0 := hs1.cell 0
      have r1 := hs1.cell 1
      simp only [List.getElem?_cons_zero, List.getElem?_cons_succ] at r0 r1
      have hbe := Hb.out
      have hbe4 := Hb4.out
      have hz0 := Hb0.out.size
      refine bodyPost_ret (v := .tuple #[.agg #[.int .i64 0, .slice none 0 0], .int .i64 10]) (by simp [results, Try.results25, go_sem, r0, r1]) rfl ?_
      have hz2 := Hb02.out.size
      exact ⟨0, .nil, none, 0, 10, rfl, trivial, fun h => absurd h (by rw [Hr.out]; simp), fun _ => ⟨v, Htl.out, .inl ⟨C1.out, rfl, rfl⟩⟩, Hb02.out.trans (hkS.to_below (B := w.heap.size) (by omega) (fun k e => by omega))⟩
    · have c1b : (v == -1) = false := by simp [c1]
      by_cases c2 : 65536 < v
      · have c2b : decide (65536 < v) = true := by simp [c2]
        go_wp2_with (go_at_call 53; refine Hof.out.mono ?_; rintro e w3 ⟨rfl, rfl⟩)
        obtain ⟨W, hW⟩ : ∃ W, W = ((w3.setCell ⟨b4, 0, none⟩ (.int .i64 0)).setCell ⟨b4, 1, none⟩ (.slice none 0 0)) := ⟨_, rfl⟩
        have hs1 := (Hk42.out.set 0 (.int .i64 0)).set 1 (.slice none 0 0)
        have hkS : Kp (fun x => x = b4) w3 ((w3.setCell ⟨b4, 0, none⟩ (.int .i64 0)).setCell ⟨b4, 1, none⟩ (.slice none 0 0)) := Kp.set (S := fun x => x = b4) (p := ⟨b4, 1, none⟩) (Kp.set (S := fun x => x = b4) (p := ⟨b4, 0, none⟩) (Kp.refl _ _) (.inl rfl) _) (.inl rfl) _
        simp only [List.set_cons_zero, List.set_cons_succ] at hs1
        rw [← hW] at hs1 hkS ⊢
        have r0 := hs1.cell 0
        have r1 := hs1.cell 1
        simp only [List.getElem?_cons_zero, List.getElem?_cons_succ] at r0 r1
        have hbe := Hb.out
        have hbe4 := Hb4.out
        have hz0 := Hb0.out.size
        refine bodyPost_ret (v := .tuple #[.agg #[.int .i64 0, .slice none 0 0], .int .i64 6]) (by simp [results, Try.results25, go_sem, r0, r1]) rfl ?_
        have hz2 := Hb02.out.size
        exact ⟨0, .nil, none, 0, 6, rfl, trivial, fun h => absurd h (by rw [Hr.out]; simp), fun _ => ⟨v, Htl.out, .inr (.inl ⟨c2, rfl, rfl⟩)⟩, Hb02.out.trans (hkS.to_below (B := w.heap.size) (by omega) (fun k e => by omega))⟩
      · have c2b : decide (65536 < v) = false := by simp; omega
        have htree := tree_calls (V := V) (bt := bt) (bn := bn) (n := G.names.length) (cb := cb) (gw := gw) (cw := cw) (word := word) (R := R) (C := C) (N := N) (ps := G.prods) v.toNat w2 HT.out G.start 0 word.length v (Nat.zero_le _) (Nat.le_refl _) Hs.out.s1 (by have := Hs.out.s0; omega) (by unfold Le.ofT; rw [if_pos Hs.out.s0]; exact Hv.out.symm) c1 (by unfold Le.cap; omega) rfl
        rw [show ((0 : Nat) : Int) = 0 from rfl] at htree
        have Htree := hid htree
        clear htree
        go_wp2_with (first
          | (go_at_call 53; refine Hof.out.mono ?_; rintro e w3 ⟨rfl, rfl⟩)
          | (go_at_call 54; refine Htree.out.mono ?_; rintro e w4 ⟨p, kids, gk, ck, rfl, hfo, hof, hnd, hmin, hb4'⟩; have hk5 := Hk42.out.below hb4' Hk42.out.lt; have d0 := hk5.cell 0; have d1 := hk5.cell 1; have f0 := hk5.free 0; have f1 := hk5.free 1; simp only [List.getElem?_cons_zero, List.getElem?_cons_succ] at d0 d1))
        obtain ⟨W, hW⟩ : ∃ W, W = ((w4.setCell ⟨b4, 0, none⟩ (.int .i64 p)).setCell ⟨b4, 1, none⟩ (.slice gk kids.len ck)) := ⟨_, rfl⟩
        have hs1 := (hk5.set 0 (.int .i64 p)).set 1 (.slice gk kids.len ck)
        have hkS : Kp (fun x => x = b4) w4 ((w4.setCell ⟨b4, 0, none⟩ (.int .i64 p)).setCell ⟨b4, 1, none⟩ (.slice gk kids.len ck)) := Kp.set (S := fun x => x = b4) (p := ⟨b4, 1, none⟩) (Kp.set (S := fun x => x = b4) (p := ⟨b4, 0, none⟩) (Kp.refl _ _) (.inl rfl) _) (.inl rfl) _
        simp only [List.set_cons_zero, List.set_cons_succ] at hs1
        rw [← hW] at hs1 hkS ⊢
        have r0 := hs1.cell 0
        have r1 := hs1.cell 1
        simp only [List.getElem?_cons_zero, List.getElem?_cons_succ] at r0 r1
        have hbe := Hb.out
        have hbe4 := Hb4.out
        have hz0 := Hb0.out.size
        have hz2 := Hb02.out.size
        have hl2 := Hk42.out.lt
        have hz4 := hb4'.size
        refine bodyPost_ret (v := .tuple #[.agg #[.int .i64 p, .slice gk kids.len ck], .int .i64 0]) (by simp [results, Try.results25, go_sem, r0, r1]) rfl ?_
        have hst : ((G.start.toNat : Nat) : Int) = G.start := by have := Hs.out.s0; omega
        have hti := HT.out.L.isTree (a := G.start.toNat) (p := p) (kids := kids) Hv.out.symm (by unfold Le.cap; omega) (by rw [hst]; exact hof) hnd (by rw [hst]; exact hmin Hs.out.s0)
        rw [hst] at hti
        refine ⟨p, kids, gk, ck, 0, rfl, ?_, fun h => absurd h (by rw [Hr.out]; simp), fun _ => ⟨v, Htl.out, .inr (.inr ⟨by omega, by omega, rfl, hti⟩)⟩, (Hb02.out.trans (hb4'.mono hz2)).trans (hkS.to_below (B := w.heap.size) (by omega) (fun k e => by omega))⟩
        exact (hfo.kp hkS (fun k hk e => by have h1 : w3.heap.size ≤ k := hk.1; have h2 : k = b4 := e; omega)).mono fun k hk => ⟨Nat.le_trans hz2 hk.1, Nat.lt_of_lt_of_le hk.2 hkS.size⟩
end Go.Proofs.Ytbpgolmbielpgaa
