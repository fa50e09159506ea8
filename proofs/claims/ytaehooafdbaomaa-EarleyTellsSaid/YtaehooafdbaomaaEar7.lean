/- Chapter 17 (earley): Make: a walk. -/
import Derived.Test.YtaehooafdbaomaaEarP
namespace Go.Proofs.Ytaehooafdbaomaa
open Go.RowKit
attribute [local go_sem ↓] Go.wp_at_zero Go.wp_at_succ
attribute [local go_sem] frozen_alloc_lt
namespace Ed

theorem step_make_bk {P : Program} (w : World) {ops : Array Oper} {o : Oper} {a : Act} {K : Act → World → Prop} {Q : Exit → Act → World → Prop} {E : Prop}
    (hg : o.guard = none) (l c : Operand) (t : TypeId) (hop : o.op = Op.makeSlice t l c)
    (e : TypeId) (i : TypeInfo) (z : Value) (h1 : P.underlying t = some (.slice e)) (h2 : P.info? e = some i) (h3 : i.zero = some z) (h4 : i.size = 1) (hz : z.cells = #[z])
    (n : Nat) (hl : a.eval l = .int .i64 (n : Int)) (hc : a.eval c = .int .i64 (n : Int)) (b2 : i.bytes * n ≤ 281474976710656) (b3 : n ≤ 9223372036854775807)
    (hK : ∀ w', Bk w' w.heap.size e (List.replicate n z) → Kp (fun _ => False) w w' → K (a.put o.dst (.slice (some ⟨w.heap.size, 0, none⟩) n n)) w') :
    if Region.wanted o (yielded ops a.tmps) = true then Oper.wp P o a w K Q else E := by
  have hw : Region.wanted o (yielded ops a.tmps) = true := by simp [Region.wanted, hg]
  rw [if_pos hw]
  obtain ⟨w', hrun, r1, r2⟩ := run_make_full (P := P) w w.heap.size t e i z 1 h1 h2 h3 h4 .i64 .i64 n b2 (by unfold maxLen; omega) (Nat.le_refl _)
  unfold Oper.wp
  simp [execOp, hop, hl, hc, hrun, Result.andThen]
  refine hK w' ?_ ((Kp.refl _ w).grown r2 fun k hk => by cases hk)
  have h := bk_full r1
  have e1 : (madeCells z.cells (n * 1)).toList = List.replicate n z := by
    simp [madeCells, hz, Nat.mod_one, List.map_const']
  rwa [e1] at h
theorem boolInfoE : (Try.prog.info? 4).map (fun i => (i.zero, i.size, i.bytes)) = some (some (.bool false), 1, 1) := by kernel_rfl
/-- A chart, as its readers see it. -/
structure ChS (w : World) (c : Nat) (G : Gr) (word : List Int) (Xs : List (List Itm)) : Prop where
  g : ∃ gn gt gp cp, (∃ wG : World, GIn wG G gn gt gp ∧ Below wG.heap.size wG w) ∧ w.cell? ⟨c, 4, none⟩ = some (.slice gp G.prods.length cp)
  c0 : w.cell? ⟨c, 0, none⟩ = some (.int .i64 G.start)
  c5 : ∃ gw cw, w.cell? ⟨c, 5, none⟩ = some (.slice gw word.length cw)
  c8 : ∃ gs cs, w.cell? ⟨c, 8, none⟩ = some (.slice gs Xs.length cs) ∧ ∀ (j : Nat) (X : List Itm), Xs[j]? = some X → ∃ h sj ga cap, gs = some ⟨h, 0, none⟩ ∧ w.cell? ⟨h, j, none⟩ = some (.pointer (some ⟨sj, 0, none⟩)) ∧ w.cell? ⟨sj, 0, none⟩ = some (.slice ga X.length cap) ∧ RowE w ga X
def MkYes (w : World) (G : Gr) (word : List Int) (e : Ending) (w' : World) : Prop := ∃ (c : Nat) (Xs : List (List Itm)), e = .returned (.pointer (some ⟨c, 0, none⟩)) ∧ ChS w' c G word Xs ∧ SetsAre G.prods G.start word Xs ∧ Below w.heap.size w w'
def MkNo (w : World) (e : Ending) (w' : World) : Prop := e = .returned (.pointer none) ∧ Below w.heap.size w w'
theorem Kp_tr {S S' : Nat → Prop} {w0 w1 w2 : World} (h : Kp S w0 w1) (k : Kp S' w1 w2) (hs : ∀ b, b < w0.heap.size → S' b → S b) : Kp S w0 w2 :=
  ⟨k.os.trans h.os, k.tape.trans h.tape, k.output.trans h.output, Nat.le_trans h.size k.size, fun b hb hn => (k.block b (Nat.lt_of_lt_of_le hb h.size) (fun e => hn (hs b hb e))).trans (h.block b hb hn)⟩
/-- What region 4 leaves. -/
structure R4 (W0 wc : World) (G : Gr) (gn gt gp : Option Addr) (cn ct cp s wl : Nat) (bo : Bool) (c go cv cnu : Nat) (gv gnu : Option Addr) (nb : List Bool) : Prop where
  k : Bk wc c 138 [.int .i64 (s : Int), .int .i64 G.rules, .slice gn G.names.length cn, .slice gt G.terms.length ct, .slice gp G.prods.length cp, .slice gv wl cv, .slice (some ⟨go, 0, none⟩) G.names.length G.names.length, .slice gnu G.names.length cnu, .slice none 0 0, .bool bo]
  bgo : Bk wc go 22 (List.replicate G.names.length (.slice none 0 0))
  gc : go < c
  g0 : W0.heap.size ≤ go
  nl : nb.length = G.names.length
  nr : RowB wc c gnu nb
  nn : ∀ a : Int, 0 ≤ a → (Facts.inB nb a = true ↔ Facts.Gen G.prods false a)
  b : Below W0.heap.size W0 wc
theorem R4.box {W0 wz : World} {G : Gr} {gn gt gp : Option Addr} {cn ct cp s wl : Nat} {bo : Bool} {go cv cnu : Nat} {gv gnu : Option Addr} {nb : List Bool}
    (h : Bk wz go 22 (List.replicate G.names.length (.slice none 0 0))) (hl : go < wz.heap.size) (h0 : W0.heap.size ≤ go) (nl : nb.length = G.names.length) (nr : RowB wz wz.heap.size gnu nb) (nn : ∀ a : Int, 0 ≤ a → (Facts.inB nb a = true ↔ Facts.Gen G.prods false a)) (b : Below W0.heap.size W0 wz) :
    R4 W0 (wz.alloc (.cells #[.int .i64 (s : Int), .int .i64 G.rules, .slice gn G.names.length cn, .slice gt G.terms.length ct, .slice gp G.prods.length cp, .slice gv wl cv, .slice (some ⟨go, 0, none⟩) G.names.length G.names.length, .slice gnu G.names.length cnu, .slice none 0 0, .bool bo] 138)) G gn gt gp cn ct cp s wl bo wz.heap.size go cv cnu gv gnu nb :=
  ⟨Bk.new wz _ _, h.below (bel_al (bel_id wz) _) hl, hl, h0, nl, nr.below (bel_al (bel_id wz) _), nn, bel_al b _⟩
def MkAt (ps : List (Int × List Int)) (W4 : World) (go K : Nat) (k : Nat) (v48 : Value) (wr : World) : Prop := ∃ (i : Nat) (BY : List (List Int)) (vs : List Value), v48 = .int .i64 i ∧ i ≤ ps.length ∧ OwnII wr W4.heap.size 3 go 22 BY vs ∧ BY.length = K ∧
  (∀ (a : Nat) (row : List Int), BY[a]? = some row → ∀ v, v ∈ row ↔ ∃ (q : Nat) (R : List Int), v = q ∧ q < i ∧ ps[q]? = some ((a : Int), R) ∧ Fine ps R) ∧ (∀ row ∈ BY, row.length ≤ i) ∧ k = ps.length - i ∧ Kp (fun k => k = go) W4 wr
theorem MkAt.start {ps : List (Int × List Int)} {W4 : World} {go K : Nat} (h : Bk W4 go 22 (List.replicate K (.slice none 0 0))) (hg : go < W4.heap.size) : MkAt ps W4 go K ps.length (.int .i64 0) W4 := by
  refine ⟨0, List.replicate K [], _, rfl, Nat.zero_le _, OwnII.made h hg, by simp, fun a row hrow v => ?_, fun row hrow => ?_, rfl, Kp.refl _ _⟩
  · rw [List.getElem?_replicate] at hrow
    split at hrow
    · injection hrow with hrow
      subst hrow
      constructor
      · intro h; cases h
      · rintro ⟨q, R, _, h, _⟩; omega
    · cases hrow
  · rw [List.mem_replicate] at hrow
    rw [hrow.2]
    simp
theorem add00_calls (w : World) (s m : Nat) (vl : Value) (X : List Itm) (h : SetM w s m vl X) (p : Nat) (hx : InR (p, 0, 0)) (hX : X.length ≤ 1000000) :
    Calls Try.prog 84 #[.pointer (some ⟨s, 0, none⟩), .agg #[.int .i64 (p : Int), .int .i64 0, .int .i64 0]] w (AddSaid w s m vl (addS X (p, 0, 0))) :=
  add_calls w s m vl X h p 0 0 hx hX
def MkB (ps : List (Int × List Int)) (st : Int) (word : List Int) (s m : Nat) (w1 : World) (row : List Int) (k : Nat) (v94 : Value) (wr : World) : Prop := ∃ (j : Nat) (vl : Value) (Y : List Itm), v94 = .int .i64 j ∧ j ≤ row.length ∧ Cs ps st word [] 0 s m w1 (.slice none 0 0) [] 0 wr vl Y ∧ (∀ (j' q : Nat), j' < j → row[j']? = some (q : Int) → (q, 0, 0) ∈ Y) ∧ k = row.length - j
/-- The chart's cells, the sets' row among them. -/
def chC (G : Gr) (gn gt gp gv gnu : Option Addr) (cn ct cp cv cnu s wl go : Nat) (vs : Value) : List Value := [.int .i64 (s : Int), .int .i64 G.rules, .slice gn G.names.length cn, .slice gt G.terms.length ct, .slice gp G.prods.length cp, .slice gv wl cv, .slice (some ⟨go, 0, none⟩) G.names.length G.names.length, .slice gnu G.names.length cnu, vs, .bool false]
structure MkS (G : Gr) (word : List Int) (W : World) (c : Nat) (CC : Value → List Value) (wr : World) (n sn m : Nat) (vl vs : Value) (X : List Itm) (ss : List Nat) (Xs : List (List Itm)) : Prop where
  nl : n ≤ word.length
  set : SetM wr sn m vl X
  wm : W.heap.size ≤ m
  snd : ∀ x ∈ X, It G.prods G.start word n x.1 x.2.1 x.2.2
  nd : X.Nodup
  ne : X ≠ []
  kc : Bk wr c 138 (CC vs)
  row : wr.ownsRow W.heap.size 139 1 vs n (ss.map fun k => Value.pointer (some ⟨k, 0, none⟩))
  sl : ss.length = n
  xl : Xs.length = n
  vm : ∀ g, vs.ownBlock = some g → g < m
  st : StD wr (fun k => W.heap.size ≤ k ∧ k < m ∧ vs.ownBlock ≠ some k) ss Xs
  kp : Kp (fun k => k = c) W wr
  sp : SetsP G.prods G.start word Xs X
def MkL (G : Gr) (word : List Int) (W : World) (c : Nat) (CC : Value → List Value) (k : Nat) (v9 v12 : Value) (wr : World) : Prop := ∃ (n sn m : Nat) (vl vs : Value) (X : List Itm) (ss : List Nat) (Xs : List (List Itm)), v9 = .pointer (some ⟨sn, 0, none⟩) ∧ v12 = .int .i64 n ∧ MkS G word W c CC wr n sn m vl vs X ss Xs ∧ k = word.length - n
theorem ChS_of {wf : World} {G : Gr} {gn gt gp gv gnu : Option Addr} {c cn ct cp cv cnu s go n g2 cap2 : Nat} {word : List Int} {ss : List Nat} {Xs : List (List Itm)} {D : Nat → Prop}
    (hg : ∃ wG : World, GIn wG G gn gt gp ∧ Below wG.heap.size wG wf) (hs : G.start = (s : Int)) (kc : Bk wf c 138 (chC G gn gt gp gv gnu cn ct cp cv cnu s word.length go (.slice (some ⟨g2, 0, none⟩) (n + 1) cap2)))
    (hh : ∀ (j sj : Nat), ss[j]? = some sj → wf.cell? ⟨g2, j, none⟩ = some (.pointer (some ⟨sj, 0, none⟩))) (st : StD wf D ss Xs) (hl : Xs.length = n + 1) : ChS wf c G word Xs := by
  refine ⟨⟨gn, gt, gp, cp, hg, kc.cell 4⟩, by rw [hs]; exact kc.cell 0, ⟨_, _, kc.cell 5⟩, ⟨some ⟨g2, 0, none⟩, cap2, by rw [hl]; exact kc.cell 8, fun j X hX => ?_⟩⟩
  obtain ⟨sj, ga, cap, h1, _, h3, h4, _⟩ := st j X hX
  exact ⟨g2, sj, _, cap, rfl, hh j sj h1, h3, h4⟩
theorem ptrInfoE : (Try.prog.info? 139).map (fun i => (i.zero, i.size, i.bytes)) = some (some (.pointer none), 1, 8) := by kernel_rfl
set_option maxHeartbeats 16000000 in
set_option maxRecDepth 100000 in
theorem make_yes (w : World) (G : Gr) (gn gt gp : Option Addr) (cn ct cp : Nat) (h : GIn w G gn gt gp) (hs : Pl.soundB G = true) (gw : Option Addr) (cw : Nat) (word : List Int) (hw : RowI w w.heap.size gw word) (hwl : word.length ≤ 64) (hbad : word.any (badT G.terms.length) = false) (hnil : gw = none → cw = 0) :
    Calls Try.prog 43 #[gramV G gn gt gp cn ct cp, .slice gw word.length cw] w (MkYes w G word) := by
  obtain ⟨i2, hi2, y0, y1, y2⟩ := info_parts intsInfo
  obtain ⟨i3, hi3, z0, z1, z2⟩ := info_parts intInfo
  have Hsg := hid (sndG hs)
  have hn0 := Hsg.out.n0
  have hn1 := Hsg.out.n1
  have hp1 := Hsg.out.p1
  have hk := Bk.new w 30 [.int .i64 G.start, .int .i64 G.rules, .slice gn G.names.length cn, .slice gt G.terms.length ct, .slice gp G.prods.length cp]
  have hb0 : Below w.heap.size w (w.alloc (.cells #[.int .i64 G.start, .int .i64 G.rules, .slice gn G.names.length cn, .slice gt G.terms.length ct, .slice gp G.prods.length cp] 30)) := (Below.refl _ _).alloc (Nat.le_refl _) _
  have H := hid h
  have Hsb := hid hs
  have Hany := hid hbad
  have hl' : ¬ (64 : Int) < (word.length : Int) := by omega
  have Heg := hid (fun (args : Array Value) (w : World) => show (callFunc 79 args).run Try.prog w = .ok (.enter 79 args) w by kernel_rfl)
  have Heg2 := hid (fun (args : Array Value) (w : World) => show (callFunc 83 args).run Try.prog w = .ok (.enter 83 args) w by kernel_rfl)
  have Hnil := hid hnil
  unfold gramV
  clear h hs hbad hnil
  go_enter Try.func43, Try.ntmps43
  go_upto_region 1 with fail
  obtain ⟨wd, hwd⟩ : ∃ wd, wd = (w.alloc (.cells #[.int .i64 G.start, .int .i64 G.rules, .slice gn G.names.length cn, .slice gt G.terms.length ct, .slice gp G.prods.length cp] 30)) := ⟨_, rfl⟩
  obtain ⟨b, hb⟩ : ∃ b, b = w.heap.size := ⟨_, rfl⟩
  have h2 := H.out.later (w' := wd) (by rw [hwd]; exact hb0)
  have hw2 := (hw.below hb0).mono hb0.size
  rw [← hwd] at hk hb0 hw2
  rw [← hwd]
  rw [← hb] at hk
  rw [← hb]
  clear hwd hb hw
  have g0 := hk.cell 0
  have g1 := hk.cell 1
  have g2 := hk.cell 2
  have g3 := hk.cell 3
  have g4 := hk.cell 4
  simp only [List.getElem?_cons_zero, List.getElem?_cons_succ] at g0 g1 g2 g3 g4
  have H2 := hid h2
  clear h2
  go_upto_region 3 with (first
    | (go_at_call 61; refine (sound_calls wd G gn gt gp cn ct cp H2.out.n H2.out.t H2.out.p H2.out.h1 H2.out.h2 H2.out.h3 H2.out.h4).mono ?_; rintro e w1 ⟨rfl, hb1⟩; rw [Hsb.out]; have hw3 := (hw2.below hb1).mono hb1.size; have g3' := (hk.below hb1 hk.lt).cell 3; simp only [List.getElem?_cons_zero, List.getElem?_cons_succ] at g3')
    | (go_at_call 78; refine (containsFunc_calls w1 gw cw word 79 (.pointer (some ⟨b, 0, none⟩)) (badT G.terms.length) hw3 (by omega) Heg.out (fun z _ => mk1_calls w1 b G.terms.length gt ct z g3')).mono ?_; rintro e w3 ⟨rfl, rfl⟩; rw [Hany.out]))
  have hk1 := hk.below hb1 hk.lt
  have hbw1 := belw hb0 hb1
  have hG1 := H2.out.later hb1
  clear g0 g1 g2 g3 g4 g3' hk hb0 hb1 hw2
  have g0 := hk1.cell 0
  have g1 := hk1.cell 1
  have g2 := hk1.cell 2
  have g3 := hk1.cell 3
  have g4 := hk1.cell 4
  simp only [List.getElem?_cons_zero, List.getElem?_cons_succ] at g0 g1 g2 g3 g4
  obtain ⟨s, hsI⟩ := Int.eq_ofNat_of_zero_le Hsg.out.s0
  have hsK : s < G.names.length := by have := Hsg.out.s1; omega
  have hk1 : Bk w1 b 30 [.int .i64 (s : Int), .int .i64 G.rules, .slice gn G.names.length cn, .slice gt G.terms.length ct, .slice gp G.prods.length cp] := by rw [← hsI]; exact hk1
  have HsI := hid hsI
  clear hsI
  go_upto_region 4 with (go_at_call 80; refine (gen_yes w1 G gn gt gp cn ct cp hG1 Hsb.out).mono ?_; rintro e w2 ⟨gg, cg, gb, rfl, hgl, hgr, hgg, hb2⟩)
  obtain ⟨q3, o3, rfl, hg3, hg3c⟩ := hgr.at (show s < gb.length by rw [hgl]; exact hsK)
  have hba := bel_al (bel_id w2) (.cells #[.slice (some ⟨q3, o3, none⟩) G.names.length cg] 133)
  have hkg := Bk.new w2 133 [.slice (some ⟨q3, o3, none⟩) G.names.length cg]
  have hbw2 := belw (belw hbw1 hb2) hba
  have hk2 := hk1.below (belw hb2 hba) hk1.lt
  have hG2 := hG1.later (belw hb2 hba)
  have hw2 := (hw3.below (belw hb2 hba)).mono (belw hb2 hba).size
  have hgr2 := (hgr.below hba).mono hba.size
  have hg3c2 := (hba.cell (p := ⟨q3, o3 + s, none⟩) hg3).trans hg3c
  obtain ⟨wg, hwg⟩ : ∃ wg, wg = w2.alloc (.cells #[.slice (some ⟨q3, o3, none⟩) G.names.length cg] 133) := ⟨_, rfl⟩
  obtain ⟨bg, hbg⟩ : ∃ bg, bg = w2.heap.size := ⟨_, rfl⟩
  obtain ⟨bo, hbo⟩ : ∃ bo, bo = gb[s]'(by rw [hgl]; exact hsK) := ⟨_, rfl⟩
  rw [← hwg] at hkg hbw2 hk2 hG2 hw2 hgr2 hg3c2 ⊢
  rw [← hbg] at hkg ⊢
  rw [← hbo] at hg3c2
  have hg3l : q3 < wg.heap.size := World.block_lt_of_cell? wg _ hg3c2
  have hbo2 : (bo = true ↔ Facts.Gen G.prods true (s : Int)) := by
    rw [← hgg _ (Int.natCast_nonneg s), hbo]
    simp [Facts.inB, List.getD, List.getElem?_eq_getElem (show s < gb.length by rw [hgl]; exact hsK)]
  clear hwg hbg hbo hba hb2 hk1 hG1 hw3 hgr hg3 hg3c hbw1 g0 g1 g2 g3 g4
  obtain ⟨W0, hW0⟩ : ∃ W0, W0 = wg.drew := ⟨_, rfl⟩
  have hbd : Below wg.heap.size wg W0 := by rw [hW0]; exact below_drewN (Below.refl _ _) 1
  have HW0 := hid hW0
  clear hW0
  have Hsz0 := hid (show W0.heap.size = wg.heap.size by rw [HW0.out]; rfl)
  have hS : ∀ W, Below W0.heap.size W0 W → (W.cell? ⟨b, 0, none⟩ = some (.int .i64 (s : Int)) ∧ W.cell? ⟨b, 1, none⟩ = some (.int .i64 G.rules) ∧ W.cell? ⟨b, 2, none⟩ = some (.slice gn G.names.length cn) ∧ W.cell? ⟨b, 3, none⟩ = some (.slice gt G.terms.length ct) ∧ W.cell? ⟨b, 4, none⟩ = some (.slice gp G.prods.length cp) ∧ W.cell? ⟨bg, 0, none⟩ = some (.slice (some ⟨q3, o3, none⟩) G.names.length cg) ∧ W.cell? ⟨q3, o3 + s, none⟩ = some (.bool bo)) := fun W hW => by
    have hb := belw hbd hW
    have k := hk2.below hb hk2.lt
    have kg := hkg.below hb hkg.lt
    exact ⟨k.cell 0, k.cell 1, k.cell 2, k.cell 3, k.cell 4, kg.cell 0, (hb.cell (p := ⟨q3, o3 + s, none⟩) hg3l).trans hg3c2⟩
  have hcl : ∀ W, Below W0.heap.size W0 W → Calls Try.prog 81 #[.slice gw word.length cw] W (IntsPost W word) := fun W hW =>
    clone_calls W (fun k => k < wg.heap.size) gw cw word (hw2.below (belw hbd hW)) (by omega) Hnil.out
  have hnu : ∀ W, Below W0.heap.size W0 W → Calls Try.prog 82 #[.agg #[.int .i64 (s : Int), .int .i64 G.rules, .slice gn G.names.length cn, .slice gt G.terms.length ct, .slice gp G.prods.length cp]] W (BPost W G.names.length (Facts.Gen G.prods false)) := fun W hW => by
    have := null_yes W G gn gt gp cn ct cp (hG2.later (belw hbd hW)) Hsb.out
    rw [HsI.out] at this
    exact this
  have HS := hid hS
  have Hcl := hid hcl
  have Hnu := hid hnu
  have HW00 := hid (Below.refl W0.heap.size W0)
  have hsI1 : (s : Int) < (G.names.length : Int) := by omega
  have hsI0 : (0 : Int) ≤ (s : Int) := by omega
  have Hst1 := hid (And.intro hk2 (And.intro hkg (And.intro hG2 (And.intro hw2 (And.intro hgr2 hbw2)))))
  have Hgb := hid (And.intro hgl (And.intro hgg hbo2))
  clear hS hcl hnu hk2 hkg hG2 hw2 hgr2 hbw2 hgl hgg hbo2 hg3c2
  go_cut [6] from 28 to 44 (fun v6 wc => ∃ c go cv cnu gv gnu nb, v6 = .pointer (some ⟨c, 0, none⟩) ∧ R4 W0 wc G gn gt gp cn ct cp s word.length (!bo) c go cv cnu gv gnu nb)
  case first =>
    -- REGION4
    refine wp_region_held_drew (S := fun W : World => W.cell? ⟨b, 0, none⟩ = some (.int .i64 (s : Int)) ∧ W.cell? ⟨b, 1, none⟩ = some (.int .i64 G.rules) ∧ W.cell? ⟨b, 2, none⟩ = some (.slice gn G.names.length cn) ∧ W.cell? ⟨b, 3, none⟩ = some (.slice gt G.terms.length ct) ∧ W.cell? ⟨b, 4, none⟩ = some (.slice gp G.prods.length cp) ∧ W.cell? ⟨bg, 0, none⟩ = some (.slice (some ⟨q3, o3, none⟩) G.names.length cg) ∧ W.cell? ⟨q3, o3 + s, none⟩ = some (.bool bo)) (by kernel_rfl) (by rw [← HW0.out]; exact HS.out _ (Below.refl _ _)) (fun hHeld => ?_)
    rw [← HW0.out] at hHeld ⊢
    refine wpAnyH_take (i := 0) (oi := ({ dst := some 28, op := Op.load 30 (Operand.tmp 2), type := 30, pos := "earley.go:45", after := #[], guard := none } : Oper)) (v := ?_) rfl (by kernel_rfl) (by kernel_rfl) (by kernel_rfl) (fun _ _ _ h => h) (Or.inl ⟨by kernel_rfl, ?_⟩) (by assumption) ?_
    rotate_left
    · intro w hSw
      try dsimp only at hSw
      go_simp
      try with_reducible rfl
    try simp only [Act.put, List.setIfInBounds_toArray, List.set_cons_zero, List.set_cons_succ]
    refine wpAnyH_take (i := 1) (oi := ({ dst := some 29, op := Op.move (Operand.tmp 1), type := 22, pos := "earley.go:45", after := #[], guard := none } : Oper)) (v := ?_) rfl (by kernel_rfl) (by kernel_rfl) (by kernel_rfl) (fun _ _ _ h => h) (Or.inl ⟨by kernel_rfl, ?_⟩) (by assumption) ?_
    rotate_left
    · intro w hSw
      try dsimp only at hSw
      go_simp
      try with_reducible rfl
    try simp only [Act.put, List.setIfInBounds_toArray, List.set_cons_zero, List.set_cons_succ]
    refine wpAnyH_take (i := 3) (oi := ({ dst := some 31, op := Op.fieldAddr 30 (Operand.tmp 2) 2, type := 0, pos := "earley.go:45", after := #[], guard := none } : Oper)) (v := ?_) rfl (by kernel_rfl) (by kernel_rfl) (by kernel_rfl) (fun _ _ _ h => h) (Or.inl ⟨by kernel_rfl, ?_⟩) (by assumption) ?_
    rotate_left
    · intro w hSw
      try dsimp only at hSw
      go_simp
      try with_reducible rfl
    try simp only [Act.put, List.setIfInBounds_toArray, List.set_cons_zero, List.set_cons_succ]
    refine wpAnyH_take (i := 4) (oi := ({ dst := some 32, op := Op.load 27 (Operand.tmp 31), type := 27, pos := "earley.go:45", after := #[{ on := 3, ground := Ground.data }], guard := none } : Oper)) (v := ?_) rfl (by kernel_rfl) (by kernel_rfl) (by kernel_rfl) (fun _ _ _ h => h) (Or.inl ⟨by kernel_rfl, ?_⟩) (by assumption) ?_
    rotate_left
    · intro w hSw
      try dsimp only at hSw
      go_simp
      try with_reducible rfl
    try simp only [Act.put, List.setIfInBounds_toArray, List.set_cons_zero, List.set_cons_succ]
    refine wpAnyH_take (i := 5) (oi := ({ dst := some 33, op := Op.call { callee := Callee.builtin Builtin.len, args := #[Operand.tmp 32], argTypes := #[27] }, type := 3, pos := "earley.go:45", after := #[{ on := 4, ground := Ground.data }], guard := none } : Oper)) (v := ?_) rfl (by kernel_rfl) (by kernel_rfl) (by kernel_rfl) (fun _ _ _ h => h) (Or.inl ⟨by kernel_rfl, ?_⟩) (by assumption) ?_
    rotate_left
    · intro w hSw
      try dsimp only at hSw
      go_simp
      try with_reducible rfl
    try simp only [Act.put, List.setIfInBounds_toArray, List.set_cons_zero, List.set_cons_succ]
    refine wpAnyH_take (i := 7) (oi := ({ dst := some 35, op := Op.load 30 (Operand.tmp 2), type := 30, pos := "earley.go:45", after := #[], guard := none } : Oper)) (v := ?_) rfl (by kernel_rfl) (by kernel_rfl) (by kernel_rfl) (fun _ _ _ h => h) (Or.inl ⟨by kernel_rfl, ?_⟩) (by assumption) ?_
    rotate_left
    · intro w hSw
      try dsimp only at hSw
      go_simp
      try with_reducible rfl
    try simp only [Act.put, List.setIfInBounds_toArray, List.set_cons_zero, List.set_cons_succ]
    refine wpAnyH_take (i := 9) (oi := ({ dst := some 37, op := Op.load 133 (Operand.tmp 5), type := 133, pos := "earley.go:45", after := #[], guard := none } : Oper)) (v := ?_) rfl (by kernel_rfl) (by kernel_rfl) (by kernel_rfl) (fun _ _ _ h => h) (Or.inl ⟨by kernel_rfl, ?_⟩) (by assumption) ?_
    rotate_left
    · intro w hSw
      try dsimp only at hSw
      go_simp
      try with_reducible rfl
    try simp only [Act.put, List.setIfInBounds_toArray, List.set_cons_zero, List.set_cons_succ]
    refine wpAnyH_take (i := 10) (oi := ({ dst := some 38, op := Op.fieldAddr 30 (Operand.tmp 2) 0, type := 0, pos := "earley.go:45", after := #[], guard := none } : Oper)) (v := ?_) rfl (by kernel_rfl) (by kernel_rfl) (by kernel_rfl) (fun _ _ _ h => h) (Or.inl ⟨by kernel_rfl, ?_⟩) (by assumption) ?_
    rotate_left
    · intro w hSw
      try dsimp only at hSw
      go_simp
      try with_reducible rfl
    try simp only [Act.put, List.setIfInBounds_toArray, List.set_cons_zero, List.set_cons_succ]
    refine wpAnyH_take (i := 11) (oi := ({ dst := some 39, op := Op.load 3 (Operand.tmp 38), type := 3, pos := "earley.go:45", after := #[{ on := 10, ground := Ground.data }], guard := none } : Oper)) (v := ?_) rfl (by kernel_rfl) (by kernel_rfl) (by kernel_rfl) (fun _ _ _ h => h) (Or.inl ⟨by kernel_rfl, ?_⟩) (by assumption) ?_
    rotate_left
    · intro w hSw
      try dsimp only at hSw
      go_simp
      try with_reducible rfl
    try simp only [Act.put, List.setIfInBounds_toArray, List.set_cons_zero, List.set_cons_succ]
    refine wpAnyH_take (i := 12) (oi := ({ dst := some 40, op := Op.indexAddr 133 (Operand.tmp 37) (Operand.tmp 39), type := 0, pos := "earley.go:45", after := #[{ on := 9, ground := Ground.data }, { on := 11, ground := Ground.data }], guard := none } : Oper)) (v := ?_) rfl (by kernel_rfl) (by kernel_rfl) (by kernel_rfl) (fun _ _ _ h => h) (Or.inl ⟨by kernel_rfl, ?_⟩) (by assumption) ?_
    rotate_left
    · intro w hSw
      try dsimp only at hSw
      go_simp
      try with_reducible rfl
    try simp only [Act.put, List.setIfInBounds_toArray, List.set_cons_zero, List.set_cons_succ]
    refine wpAnyH_take (i := 13) (oi := ({ dst := some 41, op := Op.load 4 (Operand.tmp 40), type := 4, pos := "earley.go:45", after := #[{ on := 12, ground := Ground.data }], guard := none } : Oper)) (v := ?_) rfl (by kernel_rfl) (by kernel_rfl) (by kernel_rfl) (fun _ _ _ h => h) (Or.inl ⟨by kernel_rfl, ?_⟩) (by assumption) ?_
    rotate_left
    · intro w hSw
      try dsimp only at hSw
      go_simp
      try with_reducible rfl
    try simp only [Act.put, List.setIfInBounds_toArray, List.set_cons_zero, List.set_cons_succ]
    refine wpAnyH_take (i := 14) (oi := ({ dst := some 42, op := Op.unOp UnOp.not 4 (Operand.tmp 41), type := 4, pos := "earley.go:45", after := #[{ on := 13, ground := Ground.data }], guard := none } : Oper)) (v := ?_) rfl (by kernel_rfl) (by kernel_rfl) (by kernel_rfl) (fun _ _ _ h => h) (Or.inl ⟨by kernel_rfl, ?_⟩) (by assumption) ?_
    rotate_left
    · intro w hSw
      try dsimp only at hSw
      go_simp
      try with_reducible rfl
    try simp only [Act.put, List.setIfInBounds_toArray, List.set_cons_zero, List.set_cons_succ]
    refine wpAnyH_ready (rs := [2, 6]) (by kernel_rfl) (by simp) ?_
    refine AllReadyH.cons (o := ({ dst := some 30, op := Op.call { callee := Callee.value (Operand.func 81), args := #[Operand.tmp 29], argTypes := #[22] }, type := 22, pos := "earley.go:45", after := #[{ on := 1, ground := Ground.data }], guard := none } : Oper)) rfl (fun K hK => ?_) ?_
    · go_simp
      go_at_call 81
      refine (Hcl.out _ HW00.out).mono ?_
      rintro e wA ⟨gv, cv, rfl, -, hbA⟩
      have HA := hid (belw HW00.out hbA)
      clear hbA
      refine hK.out _ _ (HS.out _ HA.out) (fun hH2 => ?_)
      clear hK K hHeld
      have hHeld := hH2
      clear hH2
      try simp only [Act.put, List.setIfInBounds_toArray, List.set_cons_zero, List.set_cons_succ]
      refine wpAnyH_ready (rs := [6, 8]) (by kernel_rfl) (by simp) ?_
      refine AllReadyH.cons (o := ({ dst := some 34, op := Op.makeSlice 23 (Operand.tmp 33) (Operand.tmp 33), type := 23, pos := "earley.go:45", after := #[{ on := 5, ground := Ground.data }, { on := 5, ground := Ground.data }], guard := none } : Oper)) rfl (fun K hK => ?_) ?_
      · refine step_make_bk _ rfl _ _ _ rfl 22 i2 _ Try.underlying23 hi2 y0 y1 rfl G.names.length (by go_simp) (by go_simp) (by rw [y2]; omega) (by omega) ?_
        intro wB hgo hkB
        have HB := hid (belw HA.out (hkB.to_below (Nat.le_refl _) (fun k hk => hk.elim)))
        have hbB := hkB.to_below (Nat.le_refl _) (fun k hk => hk.elim)
        have Hgo := hid (And.intro hgo (And.intro (show W0.heap.size ≤ wA.heap.size from HA.out.size) hbB))
        clear hgo hkB hbB
        refine hK.out _ _ (HS.out _ HB.out) (fun hH2 => ?_)
        clear hK K hHeld
        have hHeld := hH2
        clear hH2
        try simp only [Act.put, List.setIfInBounds_toArray, List.set_cons_zero, List.set_cons_succ]
        refine wpAnyH_ready (rs := [8]) (by kernel_rfl) (by simp) ?_
        refine AllReadyH.cons (o := ({ dst := some 36, op := Op.call { callee := Callee.value (Operand.func 82), args := #[Operand.tmp 35], argTypes := #[30] }, type := 133, pos := "earley.go:45", after := #[{ on := 7, ground := Ground.data }, { on := 2, ground := Ground.chain }], guard := none } : Oper)) rfl (fun K hK => ?_) AllReadyH.nil
        go_simp
        go_at_call 82
        refine (Hnu.out _ HB.out).mono ?_
        rintro e wC ⟨gnu, cnu, nb, rfl, hnl, hnr, hnn, hbC⟩
        have HC := hid (belw HB.out hbC)
        have Hnu2 := hid (And.intro hnl (And.intro hnr (And.intro hnn hbC)))
        clear hnl hnr hnn hbC
        refine hK.out _ _ (HS.out _ HC.out) (fun hH2 => ?_)
        clear hK K hHeld
        have hHeld := hH2
        clear hH2
        try simp only [Act.put, List.setIfInBounds_toArray, List.set_cons_zero, List.set_cons_succ]
        refine wpAnyH_take (i := 15) (oi := ({ dst := some 43, op := Op.build 138 #[(0, Operand.tmp 28), (1, Operand.tmp 30), (2, Operand.tmp 34), (3, Operand.tmp 36), (5, Operand.tmp 42)], type := 138, pos := "earley.go:45", after := #[{ on := 0, ground := Ground.data }, { on := 2, ground := Ground.data }, { on := 6, ground := Ground.data }, { on := 8, ground := Ground.data }, { on := 14, ground := Ground.data }], guard := none } : Oper)) (v := ?_) rfl (by kernel_rfl) (by kernel_rfl) (by kernel_rfl) (fun _ _ _ h => h) (Or.inl ⟨by kernel_rfl, ?_⟩) (by assumption) ?_
        rotate_left
        · intro w hSw
          try dsimp only at hSw
          go_simp
          try with_reducible rfl
        try simp only [Act.put, List.setIfInBounds_toArray, List.set_cons_zero, List.set_cons_succ]
        have HZ := hid (R4.box (G := G) (gn := gn) (gt := gt) (gp := gp) (cn := cn) (ct := ct) (cp := cp) (s := s) (wl := word.length) (bo := !bo) (cv := cv) (cnu := cnu) (gv := gv) (Hgo.out.1.below Hnu2.out.2.2.2 Hgo.out.1.lt) (by have := Hgo.out.1.lt; have := Hnu2.out.2.2.2.size; omega) Hgo.out.2.1 Hnu2.out.1 Hnu2.out.2.1 Hnu2.out.2.2.1 HC.out)
        refine wpAnyH_ready (rs := [16]) (by kernel_rfl) (by simp) ?_
        refine AllReadyH.cons (o := ({ dst := some 44, op := Op.box 138 (Operand.tmp 43), type := 78, pos := "earley.go:45", after := #[{ on := 15, ground := Ground.data }], guard := none } : Oper)) rfl (fun K hK => ?_) AllReadyH.nil
        go_simp
        refine hK.out _ _ (HS.out _ HZ.out.b) (fun hH2 => ?_)
        clear hK K hHeld
        have hHeld := hH2
        clear hH2
        try simp only [Act.put, List.setIfInBounds_toArray, List.set_cons_zero, List.set_cons_succ]
        refine wpAnyH_take (i := 17) (oi := ({ dst := some 6, op := Op.assign (Operand.tmp 44), type := 78, pos := "earley.go:45", after := #[{ on := 16, ground := Ground.data }, { on := 8, ground := Ground.chain }, { on := 0, ground := Ground.phase }, { on := 1, ground := Ground.phase }, { on := 2, ground := Ground.phase }, { on := 3, ground := Ground.phase }, { on := 4, ground := Ground.phase }, { on := 5, ground := Ground.phase }, { on := 6, ground := Ground.phase }, { on := 7, ground := Ground.phase }, { on := 8, ground := Ground.phase }, { on := 9, ground := Ground.phase }, { on := 10, ground := Ground.phase }, { on := 11, ground := Ground.phase }, { on := 12, ground := Ground.phase }, { on := 13, ground := Ground.phase }, { on := 14, ground := Ground.phase }, { on := 15, ground := Ground.phase }, { on := 16, ground := Ground.phase }], guard := none } : Oper)) (v := ?_) rfl (by kernel_rfl) (by kernel_rfl) (by kernel_rfl) (fun _ _ _ h => h) (Or.inl ⟨by kernel_rfl, ?_⟩) (by assumption) ?_
        rotate_left
        · intro w hSw
          try dsimp only at hSw
          go_simp
          try with_reducible rfl
        try simp only [Act.put, List.setIfInBounds_toArray, List.set_cons_zero, List.set_cons_succ]
        refine wpAnyH_done (by kernel_rfl) ?_ _
        go_wp2_with fail
        go_meet
        exact ⟨_, _, _, _, _, _, _, rfl, HZ.out⟩
      · refine AllReadyH.cons (o := ({ dst := some 36, op := Op.call { callee := Callee.value (Operand.func 82), args := #[Operand.tmp 35], argTypes := #[30] }, type := 133, pos := "earley.go:45", after := #[{ on := 7, ground := Ground.data }, { on := 2, ground := Ground.chain }], guard := none } : Oper)) rfl (fun K hK => ?_) AllReadyH.nil
        go_simp
        go_at_call 82
        refine (Hnu.out _ HA.out).mono ?_
        rintro e wC ⟨gnu, cnu, nb, rfl, hnl, hnr, hnn, hbC⟩
        have HC := hid (belw HA.out hbC)
        have Hnu2 := hid (And.intro hnl (And.intro hnr (And.intro hnn hbC)))
        clear hnl hnr hnn hbC
        refine hK.out _ _ (HS.out _ HC.out) (fun hH2 => ?_)
        clear hK K hHeld
        have hHeld := hH2
        clear hH2
        try simp only [Act.put, List.setIfInBounds_toArray, List.set_cons_zero, List.set_cons_succ]
        refine wpAnyH_ready (rs := [6]) (by kernel_rfl) (by simp) ?_
        refine AllReadyH.cons (o := ({ dst := some 34, op := Op.makeSlice 23 (Operand.tmp 33) (Operand.tmp 33), type := 23, pos := "earley.go:45", after := #[{ on := 5, ground := Ground.data }, { on := 5, ground := Ground.data }], guard := none } : Oper)) rfl (fun K hK => ?_) AllReadyH.nil
        refine step_make_bk _ rfl _ _ _ rfl 22 i2 _ Try.underlying23 hi2 y0 y1 rfl G.names.length (by go_simp) (by go_simp) (by rw [y2]; omega) (by omega) ?_
        intro wB hgo hkB
        have HB := hid (belw HC.out (hkB.to_below (Nat.le_refl _) (fun k hk => hk.elim)))
        have hbB := hkB.to_below (Nat.le_refl _) (fun k hk => hk.elim)
        have Hgo := hid (And.intro hgo (And.intro (show W0.heap.size ≤ wC.heap.size from HC.out.size) hbB))
        clear hgo hkB hbB
        refine hK.out _ _ (HS.out _ HB.out) (fun hH2 => ?_)
        clear hK K hHeld
        have hHeld := hH2
        clear hH2
        try simp only [Act.put, List.setIfInBounds_toArray, List.set_cons_zero, List.set_cons_succ]
        refine wpAnyH_take (i := 15) (oi := ({ dst := some 43, op := Op.build 138 #[(0, Operand.tmp 28), (1, Operand.tmp 30), (2, Operand.tmp 34), (3, Operand.tmp 36), (5, Operand.tmp 42)], type := 138, pos := "earley.go:45", after := #[{ on := 0, ground := Ground.data }, { on := 2, ground := Ground.data }, { on := 6, ground := Ground.data }, { on := 8, ground := Ground.data }, { on := 14, ground := Ground.data }], guard := none } : Oper)) (v := ?_) rfl (by kernel_rfl) (by kernel_rfl) (by kernel_rfl) (fun _ _ _ h => h) (Or.inl ⟨by kernel_rfl, ?_⟩) (by assumption) ?_
        rotate_left
        · intro w hSw
          try dsimp only at hSw
          go_simp
          try with_reducible rfl
        try simp only [Act.put, List.setIfInBounds_toArray, List.set_cons_zero, List.set_cons_succ]
        have HZ := hid (R4.box (G := G) (gn := gn) (gt := gt) (gp := gp) (cn := cn) (ct := ct) (cp := cp) (s := s) (wl := word.length) (bo := !bo) (cv := cv) (cnu := cnu) (gv := gv) Hgo.out.1 Hgo.out.1.lt Hgo.out.2.1 Hnu2.out.1 ((Hnu2.out.2.1.below Hgo.out.2.2).mono Hgo.out.2.2.size) Hnu2.out.2.2.1 HB.out)
        refine wpAnyH_ready (rs := [16]) (by kernel_rfl) (by simp) ?_
        refine AllReadyH.cons (o := ({ dst := some 44, op := Op.box 138 (Operand.tmp 43), type := 78, pos := "earley.go:45", after := #[{ on := 15, ground := Ground.data }], guard := none } : Oper)) rfl (fun K hK => ?_) AllReadyH.nil
        go_simp
        refine hK.out _ _ (HS.out _ HZ.out.b) (fun hH2 => ?_)
        clear hK K hHeld
        have hHeld := hH2
        clear hH2
        try simp only [Act.put, List.setIfInBounds_toArray, List.set_cons_zero, List.set_cons_succ]
        refine wpAnyH_take (i := 17) (oi := ({ dst := some 6, op := Op.assign (Operand.tmp 44), type := 78, pos := "earley.go:45", after := #[{ on := 16, ground := Ground.data }, { on := 8, ground := Ground.chain }, { on := 0, ground := Ground.phase }, { on := 1, ground := Ground.phase }, { on := 2, ground := Ground.phase }, { on := 3, ground := Ground.phase }, { on := 4, ground := Ground.phase }, { on := 5, ground := Ground.phase }, { on := 6, ground := Ground.phase }, { on := 7, ground := Ground.phase }, { on := 8, ground := Ground.phase }, { on := 9, ground := Ground.phase }, { on := 10, ground := Ground.phase }, { on := 11, ground := Ground.phase }, { on := 12, ground := Ground.phase }, { on := 13, ground := Ground.phase }, { on := 14, ground := Ground.phase }, { on := 15, ground := Ground.phase }, { on := 16, ground := Ground.phase }], guard := none } : Oper)) (v := ?_) rfl (by kernel_rfl) (by kernel_rfl) (by kernel_rfl) (fun _ _ _ h => h) (Or.inl ⟨by kernel_rfl, ?_⟩) (by assumption) ?_
        rotate_left
        · intro w hSw
          try dsimp only at hSw
          go_simp
          try with_reducible rfl
        try simp only [Act.put, List.setIfInBounds_toArray, List.set_cons_zero, List.set_cons_succ]
        refine wpAnyH_done (by kernel_rfl) ?_ _
        go_wp2_with fail
        go_meet
        exact ⟨_, _, _, _, _, _, _, rfl, HZ.out⟩
    · refine AllReadyH.cons (o := ({ dst := some 34, op := Op.makeSlice 23 (Operand.tmp 33) (Operand.tmp 33), type := 23, pos := "earley.go:45", after := #[{ on := 5, ground := Ground.data }, { on := 5, ground := Ground.data }], guard := none } : Oper)) rfl (fun K hK => ?_) AllReadyH.nil
      refine step_make_bk _ rfl _ _ _ rfl 22 i2 _ Try.underlying23 hi2 y0 y1 rfl G.names.length (by go_simp) (by go_simp) (by rw [y2]; omega) (by omega) ?_
      intro wB hgo hkB
      have HB := hid (belw HW00.out (hkB.to_below (Nat.le_refl _) (fun k hk => hk.elim)))
      have hbB := hkB.to_below (Nat.le_refl _) (fun k hk => hk.elim)
      have Hgo := hid (And.intro hgo (And.intro (show W0.heap.size ≤ W0.heap.size from HW00.out.size) hbB))
      clear hgo hkB hbB
      refine hK.out _ _ (HS.out _ HB.out) (fun hH2 => ?_)
      clear hK K hHeld
      have hHeld := hH2
      clear hH2
      try simp only [Act.put, List.setIfInBounds_toArray, List.set_cons_zero, List.set_cons_succ]
      refine wpAnyH_ready (rs := [2]) (by kernel_rfl) (by simp) ?_
      refine AllReadyH.cons (o := ({ dst := some 30, op := Op.call { callee := Callee.value (Operand.func 81), args := #[Operand.tmp 29], argTypes := #[22] }, type := 22, pos := "earley.go:45", after := #[{ on := 1, ground := Ground.data }], guard := none } : Oper)) rfl (fun K hK => ?_) AllReadyH.nil
      go_simp
      go_at_call 81
      refine (Hcl.out _ HB.out).mono ?_
      rintro e wA ⟨gv, cv, rfl, -, hbA⟩
      have HA := hid (belw HB.out hbA)
      have HbA := hid hbA
      clear hbA
      refine hK.out _ _ (HS.out _ HA.out) (fun hH2 => ?_)
      clear hK K hHeld
      have hHeld := hH2
      clear hH2
      try simp only [Act.put, List.setIfInBounds_toArray, List.set_cons_zero, List.set_cons_succ]
      refine wpAnyH_ready (rs := [8]) (by kernel_rfl) (by simp) ?_
      refine AllReadyH.cons (o := ({ dst := some 36, op := Op.call { callee := Callee.value (Operand.func 82), args := #[Operand.tmp 35], argTypes := #[30] }, type := 133, pos := "earley.go:45", after := #[{ on := 7, ground := Ground.data }, { on := 2, ground := Ground.chain }], guard := none } : Oper)) rfl (fun K hK => ?_) AllReadyH.nil
      go_simp
      go_at_call 82
      refine (Hnu.out _ HA.out).mono ?_
      rintro e wC ⟨gnu, cnu, nb, rfl, hnl, hnr, hnn, hbC⟩
      have HC := hid (belw HA.out hbC)
      have Hnu2 := hid (And.intro hnl (And.intro hnr (And.intro hnn hbC)))
      clear hnl hnr hnn hbC
      refine hK.out _ _ (HS.out _ HC.out) (fun hH2 => ?_)
      clear hK K hHeld
      have hHeld := hH2
      clear hH2
      try simp only [Act.put, List.setIfInBounds_toArray, List.set_cons_zero, List.set_cons_succ]
      refine wpAnyH_take (i := 15) (oi := ({ dst := some 43, op := Op.build 138 #[(0, Operand.tmp 28), (1, Operand.tmp 30), (2, Operand.tmp 34), (3, Operand.tmp 36), (5, Operand.tmp 42)], type := 138, pos := "earley.go:45", after := #[{ on := 0, ground := Ground.data }, { on := 2, ground := Ground.data }, { on := 6, ground := Ground.data }, { on := 8, ground := Ground.data }, { on := 14, ground := Ground.data }], guard := none } : Oper)) (v := ?_) rfl (by kernel_rfl) (by kernel_rfl) (by kernel_rfl) (fun _ _ _ h => h) (Or.inl ⟨by kernel_rfl, ?_⟩) (by assumption) ?_
      rotate_left
      · intro w hSw
        try dsimp only at hSw
        go_simp
        try with_reducible rfl
      try simp only [Act.put, List.setIfInBounds_toArray, List.set_cons_zero, List.set_cons_succ]
      have HZ := hid (R4.box (G := G) (gn := gn) (gt := gt) (gp := gp) (cn := cn) (ct := ct) (cp := cp) (s := s) (wl := word.length) (bo := !bo) (cv := cv) (cnu := cnu) (gv := gv) ((Hgo.out.1.below HbA.out Hgo.out.1.lt).below Hnu2.out.2.2.2 (Hgo.out.1.below HbA.out Hgo.out.1.lt).lt) (by have := Hgo.out.1.lt; have := HbA.out.size; have := Hnu2.out.2.2.2.size; omega) Hgo.out.2.1 Hnu2.out.1 Hnu2.out.2.1 Hnu2.out.2.2.1 HC.out)
      refine wpAnyH_ready (rs := [16]) (by kernel_rfl) (by simp) ?_
      refine AllReadyH.cons (o := ({ dst := some 44, op := Op.box 138 (Operand.tmp 43), type := 78, pos := "earley.go:45", after := #[{ on := 15, ground := Ground.data }], guard := none } : Oper)) rfl (fun K hK => ?_) AllReadyH.nil
      go_simp
      refine hK.out _ _ (HS.out _ HZ.out.b) (fun hH2 => ?_)
      clear hK K hHeld
      have hHeld := hH2
      clear hH2
      try simp only [Act.put, List.setIfInBounds_toArray, List.set_cons_zero, List.set_cons_succ]
      refine wpAnyH_take (i := 17) (oi := ({ dst := some 6, op := Op.assign (Operand.tmp 44), type := 78, pos := "earley.go:45", after := #[{ on := 16, ground := Ground.data }, { on := 8, ground := Ground.chain }, { on := 0, ground := Ground.phase }, { on := 1, ground := Ground.phase }, { on := 2, ground := Ground.phase }, { on := 3, ground := Ground.phase }, { on := 4, ground := Ground.phase }, { on := 5, ground := Ground.phase }, { on := 6, ground := Ground.phase }, { on := 7, ground := Ground.phase }, { on := 8, ground := Ground.phase }, { on := 9, ground := Ground.phase }, { on := 10, ground := Ground.phase }, { on := 11, ground := Ground.phase }, { on := 12, ground := Ground.phase }, { on := 13, ground := Ground.phase }, { on := 14, ground := Ground.phase }, { on := 15, ground := Ground.phase }, { on := 16, ground := Ground.phase }], guard := none } : Oper)) (v := ?_) rfl (by kernel_rfl) (by kernel_rfl) (by kernel_rfl) (fun _ _ _ h => h) (Or.inl ⟨by kernel_rfl, ?_⟩) (by assumption) ?_
      rotate_left
      · intro w hSw
        try dsimp only at hSw
        go_simp
        try with_reducible rfl
      try simp only [Act.put, List.setIfInBounds_toArray, List.set_cons_zero, List.set_cons_succ]
      refine wpAnyH_done (by kernel_rfl) ?_ _
      go_wp2_with fail
      go_meet
      exact ⟨_, _, _, _, _, _, _, rfl, HZ.out⟩
    -- END4
  case rest =>
    obtain ⟨c, go, cv, cnu, gv, gnu, nb, rfl, hr4⟩ := hcut
    obtain ⟨hk2, hkg, hG2, hw2, hgr2, hbw2⟩ := Hst1.out
    have hgW := hr4.g0
    have hgc := hr4.gc
    have hcw := hr4.k.lt
    have hbgo : b < go := by have := hk2.lt; have := hbd.size; omega
    have hbggo : bg < go := by have := hkg.lt; have := hbd.size; omega
    have hbw4 := belw hbd hr4.b
    have hk4 := hk2.below hbw4 hk2.lt
    have hkg4 := hkg.below hbw4 hkg.lt
    have b4 := hk4.cell 4
    simp only [List.getElem?_cons_zero, List.getElem?_cons_succ] at b4
    have hstart : MkAt G.prods wc go G.names.length G.prods.length (.int .i64 0) wc := MkAt.start hr4.bgo (by omega)
    have Hr4 := hid hr4
    have Hbw4 := hid hbw4
    have Hk4 := hid hk4
    have Hkg4 := hid hkg4
    clear hk2 hkg hG2 hw2 hgr2 hbw2 hr4 hbw4 hk4 hkg4 hbd HS Hcl Hnu HW00
    go_wp2_with fail
    go_loopg [48] G.prods.length (fun k v48 wr => MkAt G.prods wc go G.names.length k v48 wr)
    case atStart => exact hstart
    case round =>
      clear hstart b4
      obtain ⟨i, BY, vs, rfl, hi, hown, hBl, hBY, hBn, hk, hkp⟩ := hrel
      have Hk := hid hk
      have HBY := hid hBY
      have HBn := hid hBn
      have HBl := hid hBl
      have Hkp := hid hkp
      have hgow : go < wr.heap.size := by have := hkp.size; omega
      have hbr := hkp.to_below (B := go) (by omega) (fun k hk => by omega)
      have hbgr : Below wg.heap.size wg wr := Hbw4.out.trans (hbr.mono (by have := Hsz0.out; omega))
      have Hbgr := hid hbgr
      clear hk hBY hBn hBl hkp
      by_cases hlt : i < G.prods.length
      · have hltI : (i : Int) < (G.prods.length : Int) := by omega
        have hi0 : (0 : Int) ≤ (i : Int) := by omega
        obtain ⟨x, hx⟩ : ∃ x, G.prods[i]? = some x := ⟨_, List.getElem?_eq_getElem hlt⟩
        have hxm := List.mem_of_getElem? hx
        have hGr := Hst1.out.2.2.1.later hbgr
        obtain ⟨g', off, gr, cr, rfl, hg', d0, d1, hrid⟩ := hGr.p i _ hx
        have hl0 := Hsg.out.l0 x hxm
        have hl1 : x.1 < (G.names.length : Int) := Hsg.out.l1 x hxm
        have hr16 := Hsg.out.r16 x hxm
        have Hr1 := hid (Hsg.out.r1 x hxm)
        obtain ⟨l, R⟩ := x
        simp only at hl0 hl1 hr16 d0 d1 hrid Hr1
        obtain ⟨a, rfl⟩ := Int.eq_ofNat_of_zero_le hl0
        have Hx := hid hx
        clear hx hxm hGr hbr hbgr hl0
        go_upto_region 8 with fail
        have hba := bel_al (bel_id wr) (.cells #[.int .i64 (a : Int), .slice gr R.length cr] 97)
        have hkx := Bk.new wr 97 [.int .i64 (a : Int), .slice gr R.length cr]
        have hown1 := hown.alloc (.cells #[.int .i64 (a : Int), .slice gr R.length cr] 97)
        have Hlt := hid hown.lt
        obtain ⟨w5, hw5⟩ : ∃ w5, w5 = wr.alloc (.cells #[.int .i64 (a : Int), .slice gr R.length cr] 97) := ⟨_, rfl⟩
        obtain ⟨bx, hbx⟩ : ∃ bx, bx = wr.heap.size := ⟨_, rfl⟩
        have Hbx := hid hbx
        rw [← hw5] at hkx hown1 hba ⊢
        rw [← hbx] at hkx ⊢
        have hri := (hrid.below hba).mono hba.size
        have hb5 : Below wg.heap.size wg w5 := Hbgr.out.trans (hba.mono Hbgr.out.size)
        have hgr5 := (Hst1.out.2.2.2.2.1.below hb5).mono hb5.size
        have hkg5 := (Hst1.out.2.1.below hb5 Hst1.out.2.1.lt).cell 0
        simp only [List.getElem?_cons_zero] at hkg5
        have hkp5 := Hkp.out.below hba (fun k hk _ => Nat.lt_of_lt_of_le hk Hkp.out.size)
        have hcon := containsFunc_calls w5 gr cr R 83 (.pointer (some ⟨bg, 0, none⟩)) (badG (Facts.inB gb)) hri (by omega) Heg2.out (fun z hz => mk2_calls w5 bg G.names.length (some ⟨q3, o3, none⟩) cg gb z hkg5 hgr5 Hgb.out.1 (Hr1.out z hz))
        have Hcon := hid hcon
        have Hkp5 := hid hkp5
        have x0 := hkx.cell 0
        have x1 := hkx.cell 1
        simp only [List.getElem?_cons_zero, List.getElem?_cons_succ] at x0 x1
        have hfine := fine_iff Hsg.out.l0 Hgb.out.2.1 R
        clear hw5 hbx hba hri hb5 hgr5 hkg5 hkp5 hcon d0 d1 hrid hown
        cases hany : R.any (badG (Facts.inB gb)) with
        | true =>
          have Hany2 := hid hany
          have hnf : ¬ Fine G.prods R := by rw [hfine, hany]; decide
          have Hnf := hid hnf
          clear hany hfine hnf
          go_upto_region 10 with (go_at_call 78; refine Hcon.out.mono ?_; rintro e w6 ⟨rfl, rfl⟩; rw [Hany2.out])
          go_wp2_with fail
          go_roundg (G.prods.length - (i + 1))
          case measure => have := Hk.out; omega
          case rel =>
            refine ⟨i + 1, BY, vs, by go_num, by omega, hown1, HBl.out, fun a' row hrow v => ?_, fun row hrow => by have := HBn.out row hrow; omega, rfl, Hkp5.out⟩
            rw [HBY.out a' row hrow v]
            constructor
            · rintro ⟨q, R', h1, h2, h3, h4⟩
              exact ⟨q, R', h1, by omega, h3, h4⟩
            · rintro ⟨q, R', h1, h2, h3, h4⟩
              refine ⟨q, R', h1, ?_, h3, h4⟩
              by_cases e : q = i
              · subst e
                rw [Hx.out] at h3
                injection h3 with h3
                injection h3 with _ h3
                subst h3
                exact absurd h4 Hnf.out
              · omega
        | false =>
          have Hany2 := hid hany
          have hfn : Fine G.prods R := hfine.2 hany
          have Hfn := hid hfn
          clear hany hfine hfn
          go_upto_region 9 with (go_at_call 78; refine Hcon.out.mono ?_; rintro e w6 ⟨rfl, rfl⟩; rw [Hany2.out])
          obtain ⟨W9, hW9⟩ : ∃ W9, W9 = w5.drew := ⟨_, rfl⟩
          have hb59 : Below w5.heap.size w5 W9 := by rw [hW9]; exact below_drewN (Below.refl _ _) 1
          have hsz9 : W9.heap.size = w5.heap.size := by rw [hW9]; rfl
          have HW9 := hid hW9
          have hown9 : OwnII W9 wc.heap.size 3 go 22 BY vs := by rw [hW9]; exact hown1
          have hkx9 := hkx.below hb59 hkx.lt
          have hkp9 := Hkp5.out.below hb59 (fun k hk _ => Nat.lt_of_lt_of_le hk Hkp5.out.size)
          have hbxl : bx < w5.heap.size := hkx.lt
          clear hW9 x0 x1 hown1 hkx Hcon
          have haB : a < BY.length := by rw [HBl.out]; omega
          obtain ⟨la, hla⟩ : ∃ la, BY[a]? = some la := ⟨_, List.getElem?_eq_getElem haB⟩
          have hlal := HBn.out la (List.mem_of_getElem? hla)
          have hbase9 : wc.heap.size ≤ W9.heap.size := by have := hkp9.size; omega
          obtain ⟨v, g2, cap2, w6, hv, hcv, hcv1, hrun, hc2, hf2, hput, hvb, hov, hk6, hk7⟩ := hown9.app (P := Try.prog) 22 22 i3 Try.underlying22 hi3 z0 z1 z2 hbase9 hla (by omega) (i : Int) 0
          have hvbx : ∀ g, v.ownBlock = some g → g < bx := fun g hg => by have := (Hlt.out v (List.mem_of_getElem? hv) g hg).2; have := Hbx.out; omega
          obtain ⟨La, hLa⟩ : ∃ La, La = la.length := ⟨_, rfl⟩
          rw [← hLa] at hrun hput hk7
          have hrun2 : (Builtin.append_ #[22, 22] 22 #[v, .slice (some ⟨W9.heap.size, 0, none⟩) 1 1]).run Try.prog (W9.alloc (.cells #[.int .i64 (i : Int)] 3)) = .ok (.slice (some ⟨g2, 0, none⟩) (La + 1) cap2) w6 := hrun
          have hkA : Kp (fun k => k = go ∨ v.ownBlock = some k) W9 (W9.alloc (.cells #[.int .i64 (i : Int)] 3)) := (Kp.refl _ W9).alloc _
          have hkB : Kp (fun k => k = go ∨ v.ownBlock = some k) W9 w6 := hk6.mono fun k _ hk => .inr hk
          have hncB : ¬ (bx = go ∨ v.ownBlock = some bx) := by
            rintro (e | e)
            · have := Hbx.out; omega
            · have := hvbx bx e; omega
          have hncC : ¬ (c = go ∨ v.ownBlock = some c) := by
            rintro (e | e)
            · omega
            · have := hvb c e; omega
          have hkc9 := Hr4.out.k.kp hkp9 (by omega)
          have hS9 : ∀ W, Kp (fun k => k = go ∨ v.ownBlock = some k) W9 W → (W.cell? ⟨c, 6, none⟩ = some (.slice (some ⟨go, 0, none⟩) G.names.length G.names.length) ∧ W.cell? ⟨bx, 0, none⟩ = some (.int .i64 (a : Int))) := fun W hW =>
            ⟨(hkc9.kp hW hncC).cell 6, (hkx9.kp hW hncB).cell 0⟩
          have hrel : OwnII (w6.setCell ⟨go, a, none⟩ (.slice (some ⟨g2, 0, none⟩) (La + 1) cap2)) wc.heap.size 3 go 22 (BY.set a (la ++ [(i : Int)])) (vs.set a (.slice (some ⟨g2, 0, none⟩) (La + 1) cap2)) ∧ (BY.set a (la ++ [(i : Int)])).length = G.names.length ∧ (∀ (a' : Nat) (row : List Int), (BY.set a (la ++ [(i : Int)]))[a']? = some row → ∀ v, v ∈ row ↔ ∃ (q : Nat) (R : List Int), v = q ∧ q < i + 1 ∧ G.prods[q]? = some ((a' : Int), R) ∧ Fine G.prods R) ∧ (∀ row ∈ BY.set a (la ++ [(i : Int)]), row.length ≤ i + 1) ∧ Kp (fun k => k = go) wc (w6.setCell ⟨go, a, none⟩ (.slice (some ⟨g2, 0, none⟩) (La + 1) cap2)) := by
            refine ⟨hput, by rw [List.length_set]; exact HBl.out, fun a' row hrow v' => ?_, fun row hrow => ?_, Kp_tr hkp9 hk7 (fun k hk e => ?_)⟩
            · by_cases e : a' = a
              · subst e
                rw [List.getElem?_set_self haB] at hrow
                injection hrow with hrow
                subst hrow
                rw [List.mem_append, HBY.out a' la hla v', List.mem_singleton]
                constructor
                · rintro (⟨q, R', h1, h2, h3, h4⟩ | h)
                  · exact ⟨q, R', h1, by omega, h3, h4⟩
                  · exact ⟨i, R, h, by omega, Hx.out, Hfn.out⟩
                · rintro ⟨q, R', h1, h2, h3, h4⟩
                  by_cases e : q = i
                  · subst e
                    exact .inr h1
                  · exact .inl ⟨q, R', h1, by omega, h3, h4⟩
              · rw [List.getElem?_set_ne (fun e' => e e'.symm)] at hrow
                rw [HBY.out a' row hrow v']
                constructor
                · rintro ⟨q, R', h1, h2, h3, h4⟩
                  exact ⟨q, R', h1, by omega, h3, h4⟩
                · rintro ⟨q, R', h1, h2, h3, h4⟩
                  refine ⟨q, R', h1, ?_, h3, h4⟩
                  by_cases e2 : q = i
                  · subst e2
                    rw [Hx.out] at h3
                    injection h3 with h3
                    injection h3 with h3 _
                    omega
                  · omega
            · rcases List.mem_or_eq_of_mem_set hrow with h | h
              · have := HBn.out row h; omega
              · rw [h, List.length_append]
                simp
                omega
            · rcases e with e | e
              · exact e
              · have := hvb k e; omega
          have Hfin9 := hid hrel
          have Hrun := hid hrun2
          have HS9 := hid hS9
          have HbA := hid hkA
          have HbB := hid hkB
          have HbC := hid hk7
          have haI : (a : Int) < (G.names.length : Int) := hl1
          have ha0 : (0 : Int) ≤ (a : Int) := by omega
          clear hown9 hkx9 hkp9 hla hlal hrun hput hk7 hrun2 hkA hkB hncB hncC hkc9 hS9 hrel hb59 hk6 hLa hv hvb hov hvbx hsz9 haB
          -- REGION9
          refine wp_region_held_drew (S := fun W : World => W.cell? ⟨c, 6, none⟩ = some (.slice (some ⟨go, 0, none⟩) G.names.length G.names.length) ∧ W.cell? ⟨bx, 0, none⟩ = some (.int .i64 (a : Int))) (by kernel_rfl) (by rw [← HW9.out]; exact HS9.out _ (Kp.refl _ _)) (fun hHeld => ?_)
          rw [← HW9.out] at hHeld ⊢
          refine wpAnyH_take (i := 0) (oi := ({ dst := some 58, op := Op.move (Operand.tmp 6), type := 78, pos := "earley.go:48", after := #[], guard := none } : Oper)) (v := ?_) rfl (by kernel_rfl) (by kernel_rfl) (by kernel_rfl) (fun _ _ _ h => h) (Or.inl ⟨by kernel_rfl, ?_⟩) (by assumption) ?_
          rotate_left
          · intro w hSw
            try dsimp only at hSw
            go_simp
            try with_reducible rfl
          try simp only [Act.put, List.setIfInBounds_toArray, List.set_cons_zero, List.set_cons_succ]
          refine wpAnyH_take (i := 1) (oi := ({ dst := some 59, op := Op.nilCheck (Operand.tmp 58), type := 0, pos := "earley.go:48", after := #[{ on := 0, ground := Ground.data }], guard := none } : Oper)) (v := ?_) rfl (by kernel_rfl) (by kernel_rfl) (by kernel_rfl) (fun _ _ _ h => h) (Or.inl ⟨by kernel_rfl, ?_⟩) (by assumption) ?_
          rotate_left
          · intro w hSw
            try dsimp only at hSw
            go_simp
            try with_reducible rfl
          try simp only [Act.put, List.setIfInBounds_toArray, List.set_cons_zero, List.set_cons_succ]
          refine wpAnyH_take (i := 2) (oi := ({ dst := some 60, op := Op.fieldAddr 138 (Operand.tmp 59) 2, type := 0, pos := "earley.go:48", after := #[{ on := 1, ground := Ground.data }], guard := none } : Oper)) (v := ?_) rfl (by kernel_rfl) (by kernel_rfl) (by kernel_rfl) (fun _ _ _ h => h) (Or.inl ⟨by kernel_rfl, ?_⟩) (by assumption) ?_
          rotate_left
          · intro w hSw
            try dsimp only at hSw
            go_simp
            try with_reducible rfl
          try simp only [Act.put, List.setIfInBounds_toArray, List.set_cons_zero, List.set_cons_succ]
          refine wpAnyH_take (i := 3) (oi := ({ dst := some 61, op := Op.load 23 (Operand.tmp 60), type := 23, pos := "earley.go:48", after := #[{ on := 2, ground := Ground.data }], guard := none } : Oper)) (v := ?_) rfl (by kernel_rfl) (by kernel_rfl) (by kernel_rfl) (fun _ _ _ h => h) (Or.inl ⟨by kernel_rfl, ?_⟩) (by assumption) ?_
          rotate_left
          · intro w hSw
            try dsimp only at hSw
            go_simp
            try with_reducible rfl
          try simp only [Act.put, List.setIfInBounds_toArray, List.set_cons_zero, List.set_cons_succ]
          refine wpAnyH_take (i := 4) (oi := ({ dst := some 62, op := Op.fieldAddr 97 (Operand.tmp 8) 0, type := 0, pos := "earley.go:48", after := #[], guard := none } : Oper)) (v := ?_) rfl (by kernel_rfl) (by kernel_rfl) (by kernel_rfl) (fun _ _ _ h => h) (Or.inl ⟨by kernel_rfl, ?_⟩) (by assumption) ?_
          rotate_left
          · intro w hSw
            try dsimp only at hSw
            go_simp
            try with_reducible rfl
          try simp only [Act.put, List.setIfInBounds_toArray, List.set_cons_zero, List.set_cons_succ]
          refine wpAnyH_take (i := 5) (oi := ({ dst := some 63, op := Op.load 3 (Operand.tmp 62), type := 3, pos := "earley.go:48", after := #[{ on := 4, ground := Ground.data }], guard := none } : Oper)) (v := ?_) rfl (by kernel_rfl) (by kernel_rfl) (by kernel_rfl) (fun _ _ _ h => h) (Or.inl ⟨by kernel_rfl, ?_⟩) (by assumption) ?_
          rotate_left
          · intro w hSw
            try dsimp only at hSw
            go_simp
            try with_reducible rfl
          try simp only [Act.put, List.setIfInBounds_toArray, List.set_cons_zero, List.set_cons_succ]
          refine wpAnyH_take (i := 6) (oi := ({ dst := some 64, op := Op.move (Operand.tmp 6), type := 78, pos := "earley.go:48", after := #[], guard := none } : Oper)) (v := ?_) rfl (by kernel_rfl) (by kernel_rfl) (by kernel_rfl) (fun _ _ _ h => h) (Or.inl ⟨by kernel_rfl, ?_⟩) (by assumption) ?_
          rotate_left
          · intro w hSw
            try dsimp only at hSw
            go_simp
            try with_reducible rfl
          try simp only [Act.put, List.setIfInBounds_toArray, List.set_cons_zero, List.set_cons_succ]
          refine wpAnyH_take (i := 7) (oi := ({ dst := some 65, op := Op.nilCheck (Operand.tmp 64), type := 0, pos := "earley.go:48", after := #[{ on := 6, ground := Ground.data }], guard := none } : Oper)) (v := ?_) rfl (by kernel_rfl) (by kernel_rfl) (by kernel_rfl) (fun _ _ _ h => h) (Or.inl ⟨by kernel_rfl, ?_⟩) (by assumption) ?_
          rotate_left
          · intro w hSw
            try dsimp only at hSw
            go_simp
            try with_reducible rfl
          try simp only [Act.put, List.setIfInBounds_toArray, List.set_cons_zero, List.set_cons_succ]
          refine wpAnyH_take (i := 8) (oi := ({ dst := some 66, op := Op.fieldAddr 138 (Operand.tmp 65) 2, type := 0, pos := "earley.go:48", after := #[{ on := 7, ground := Ground.data }], guard := none } : Oper)) (v := ?_) rfl (by kernel_rfl) (by kernel_rfl) (by kernel_rfl) (fun _ _ _ h => h) (Or.inl ⟨by kernel_rfl, ?_⟩) (by assumption) ?_
          rotate_left
          · intro w hSw
            try dsimp only at hSw
            go_simp
            try with_reducible rfl
          try simp only [Act.put, List.setIfInBounds_toArray, List.set_cons_zero, List.set_cons_succ]
          refine wpAnyH_take (i := 9) (oi := ({ dst := some 67, op := Op.load 23 (Operand.tmp 66), type := 23, pos := "earley.go:48", after := #[{ on := 8, ground := Ground.data }], guard := none } : Oper)) (v := ?_) rfl (by kernel_rfl) (by kernel_rfl) (by kernel_rfl) (fun _ _ _ h => h) (Or.inl ⟨by kernel_rfl, ?_⟩) (by assumption) ?_
          rotate_left
          · intro w hSw
            try dsimp only at hSw
            go_simp
            try with_reducible rfl
          try simp only [Act.put, List.setIfInBounds_toArray, List.set_cons_zero, List.set_cons_succ]
          refine wpAnyH_take (i := 10) (oi := ({ dst := some 68, op := Op.fieldAddr 97 (Operand.tmp 8) 0, type := 0, pos := "earley.go:48", after := #[], guard := none } : Oper)) (v := ?_) rfl (by kernel_rfl) (by kernel_rfl) (by kernel_rfl) (fun _ _ _ h => h) (Or.inl ⟨by kernel_rfl, ?_⟩) (by assumption) ?_
          rotate_left
          · intro w hSw
            try dsimp only at hSw
            go_simp
            try with_reducible rfl
          try simp only [Act.put, List.setIfInBounds_toArray, List.set_cons_zero, List.set_cons_succ]
          refine wpAnyH_take (i := 11) (oi := ({ dst := some 69, op := Op.load 3 (Operand.tmp 68), type := 3, pos := "earley.go:48", after := #[{ on := 10, ground := Ground.data }], guard := none } : Oper)) (v := ?_) rfl (by kernel_rfl) (by kernel_rfl) (by kernel_rfl) (fun _ _ _ h => h) (Or.inl ⟨by kernel_rfl, ?_⟩) (by assumption) ?_
          rotate_left
          · intro w hSw
            try dsimp only at hSw
            go_simp
            try with_reducible rfl
          try simp only [Act.put, List.setIfInBounds_toArray, List.set_cons_zero, List.set_cons_succ]
          refine wpAnyH_take (i := 12) (oi := ({ dst := some 70, op := Op.indexAddr 23 (Operand.tmp 67) (Operand.tmp 69), type := 0, pos := "earley.go:48", after := #[{ on := 9, ground := Ground.data }, { on := 11, ground := Ground.data }], guard := none } : Oper)) (v := ?_) rfl (by kernel_rfl) (by kernel_rfl) (by kernel_rfl) (fun _ _ _ h => h) (Or.inl ⟨by kernel_rfl, ?_⟩) (by assumption) ?_
          rotate_left
          · intro w hSw
            try dsimp only at hSw
            go_simp
            try with_reducible rfl
          try simp only [Act.put, List.setIfInBounds_toArray, List.set_cons_zero, List.set_cons_succ]
          refine wpAnyH_take (i := 14) (oi := ({ dst := some 72, op := Op.move (Operand.tmp 7), type := 3, pos := "earley.go:48", after := #[], guard := none } : Oper)) (v := ?_) rfl (by kernel_rfl) (by kernel_rfl) (by kernel_rfl) (fun _ _ _ h => h) (Or.inl ⟨by kernel_rfl, ?_⟩) (by assumption) ?_
          rotate_left
          · intro w hSw
            try dsimp only at hSw
            go_simp
            try with_reducible rfl
          try simp only [Act.put, List.setIfInBounds_toArray, List.set_cons_zero, List.set_cons_succ]
          refine wpAnyH_ready (rs := [13, 15]) (by kernel_rfl) (by simp) ?_
          refine AllReadyH.cons (o := ({ dst := some 71, op := Op.load 22 (Operand.tmp 70), type := 22, pos := "earley.go:48", after := #[{ on := 12, ground := Ground.data }], guard := none } : Oper)) rfl (fun K hK => ?_) ?_
          · go_simp
            refine hK.out _ _ (HS9.out _ (Kp.refl _ _)) (fun hH2 => ?_)
            clear hK K hHeld
            have hHeld := hH2
            clear hH2
            try simp only [Act.put, List.setIfInBounds_toArray, List.set_cons_zero, List.set_cons_succ]
            refine wpAnyH_ready (rs := [15]) (by kernel_rfl) (by simp) ?_
            refine AllReadyH.cons (o := ({ dst := some 73, op := Op.buildSlice 22 1 #[(0, Operand.tmp 72)], type := 22, pos := "earley.go:48", after := #[{ on := 14, ground := Ground.data }], guard := none } : Oper)) rfl (fun K hK => ?_) AllReadyH.nil
            go_simp
            refine hK.out _ _ (HS9.out _ HbA.out) (fun hH2 => ?_)
            clear hK K hHeld
            have hHeld := hH2
            clear hH2
            try simp only [Act.put, List.setIfInBounds_toArray, List.set_cons_zero, List.set_cons_succ]
            refine wpAnyH_ready (rs := [16]) (by kernel_rfl) (by simp) ?_
            refine AllReadyH.cons (o := ({ dst := some 74, op := Op.call { callee := Callee.builtin Builtin.append, args := #[Operand.tmp 71, Operand.tmp 73], argTypes := #[22, 22] }, type := 22, pos := "earley.go:48", after := #[{ on := 13, ground := Ground.data }, { on := 15, ground := Ground.data }], guard := none } : Oper)) rfl (fun K hK => ?_) AllReadyH.nil
            refine step_append_run rfl _ _ _ rfl v (.slice (some ⟨W9.heap.size, 0, none⟩) 1 1) (.slice (some ⟨g2, 0, none⟩) (La + 1) cap2) w6 (by go_simp) (by go_simp) Hrun.out ?_
            refine hK.out _ _ (HS9.out _ HbB.out) (fun hH2 => ?_)
            clear hK K hHeld
            have hHeld := hH2
            clear hH2
            try simp only [Act.put, List.setIfInBounds_toArray, List.set_cons_zero, List.set_cons_succ]
            refine wpAnyH_take (i := 17) (oi := ({ dst := some 75, op := Op.indexAddr 23 (Operand.tmp 61) (Operand.tmp 63), type := 0, pos := "earley.go:48", after := #[{ on := 3, ground := Ground.data }, { on := 5, ground := Ground.data }, { on := 0, ground := Ground.phase }, { on := 1, ground := Ground.phase }, { on := 2, ground := Ground.phase }, { on := 3, ground := Ground.phase }, { on := 4, ground := Ground.phase }, { on := 5, ground := Ground.phase }, { on := 6, ground := Ground.phase }, { on := 7, ground := Ground.phase }, { on := 8, ground := Ground.phase }, { on := 9, ground := Ground.phase }, { on := 10, ground := Ground.phase }, { on := 11, ground := Ground.phase }, { on := 12, ground := Ground.phase }, { on := 13, ground := Ground.phase }, { on := 14, ground := Ground.phase }, { on := 15, ground := Ground.phase }, { on := 16, ground := Ground.phase }], guard := none } : Oper)) (v := ?_) rfl (by kernel_rfl) (by kernel_rfl) (by kernel_rfl) (fun _ _ _ h => h) (Or.inl ⟨by kernel_rfl, ?_⟩) (by assumption) ?_
            rotate_left
            · intro w hSw
              try dsimp only at hSw
              go_simp
              try with_reducible rfl
            try simp only [Act.put, List.setIfInBounds_toArray, List.set_cons_zero, List.set_cons_succ]
            refine wpAnyH_ready (rs := [18]) (by kernel_rfl) (by simp) ?_
            refine AllReadyH.cons (o := ({ dst := none, op := Op.store 22 (Operand.tmp 75) (Operand.tmp 74), type := 0, pos := "earley.go:48", after := #[{ on := 17, ground := Ground.data }, { on := 16, ground := Ground.data }, { on := 16, ground := Ground.chain }, { on := 0, ground := Ground.phase }, { on := 1, ground := Ground.phase }, { on := 2, ground := Ground.phase }, { on := 3, ground := Ground.phase }, { on := 4, ground := Ground.phase }, { on := 5, ground := Ground.phase }, { on := 6, ground := Ground.phase }, { on := 7, ground := Ground.phase }, { on := 8, ground := Ground.phase }, { on := 9, ground := Ground.phase }, { on := 10, ground := Ground.phase }, { on := 11, ground := Ground.phase }, { on := 12, ground := Ground.phase }, { on := 13, ground := Ground.phase }, { on := 14, ground := Ground.phase }, { on := 15, ground := Ground.phase }, { on := 16, ground := Ground.phase }], guard := none } : Oper)) rfl (fun K hK => ?_) AllReadyH.nil
            go_simp
            refine hK.out _ _ (HS9.out _ HbC.out) (fun hH2 => ?_)
            clear hK K hHeld
            have hHeld := hH2
            clear hH2
            try simp only [Act.put, List.setIfInBounds_toArray, List.set_cons_zero, List.set_cons_succ]
            refine wpAnyH_done (by kernel_rfl) ?_ _
            go_wp2_with fail
            go_roundg (G.prods.length - (i + 1))
            case measure => have := Hk.out; omega
            case rel => exact ⟨i + 1, _, _, by go_num, by omega, Hfin9.out.1, Hfin9.out.2.1, Hfin9.out.2.2.1, Hfin9.out.2.2.2.1, rfl, Hfin9.out.2.2.2.2⟩
          · refine AllReadyH.cons (o := ({ dst := some 73, op := Op.buildSlice 22 1 #[(0, Operand.tmp 72)], type := 22, pos := "earley.go:48", after := #[{ on := 14, ground := Ground.data }], guard := none } : Oper)) rfl (fun K hK => ?_) AllReadyH.nil
            go_simp
            refine hK.out _ _ (HS9.out _ HbA.out) (fun hH2 => ?_)
            clear hK K hHeld
            have hHeld := hH2
            clear hH2
            try simp only [Act.put, List.setIfInBounds_toArray, List.set_cons_zero, List.set_cons_succ]
            refine wpAnyH_ready (rs := [13]) (by kernel_rfl) (by simp) ?_
            refine AllReadyH.cons (o := ({ dst := some 71, op := Op.load 22 (Operand.tmp 70), type := 22, pos := "earley.go:48", after := #[{ on := 12, ground := Ground.data }], guard := none } : Oper)) rfl (fun K hK => ?_) AllReadyH.nil
            go_simp
            refine hK.out _ _ (HS9.out _ HbA.out) (fun hH2 => ?_)
            clear hK K hHeld
            have hHeld := hH2
            clear hH2
            try simp only [Act.put, List.setIfInBounds_toArray, List.set_cons_zero, List.set_cons_succ]
            refine wpAnyH_ready (rs := [16]) (by kernel_rfl) (by simp) ?_
            refine AllReadyH.cons (o := ({ dst := some 74, op := Op.call { callee := Callee.builtin Builtin.append, args := #[Operand.tmp 71, Operand.tmp 73], argTypes := #[22, 22] }, type := 22, pos := "earley.go:48", after := #[{ on := 13, ground := Ground.data }, { on := 15, ground := Ground.data }], guard := none } : Oper)) rfl (fun K hK => ?_) AllReadyH.nil
            refine step_append_run rfl _ _ _ rfl v (.slice (some ⟨W9.heap.size, 0, none⟩) 1 1) (.slice (some ⟨g2, 0, none⟩) (La + 1) cap2) w6 (by go_simp) (by go_simp) Hrun.out ?_
            refine hK.out _ _ (HS9.out _ HbB.out) (fun hH2 => ?_)
            clear hK K hHeld
            have hHeld := hH2
            clear hH2
            try simp only [Act.put, List.setIfInBounds_toArray, List.set_cons_zero, List.set_cons_succ]
            refine wpAnyH_take (i := 17) (oi := ({ dst := some 75, op := Op.indexAddr 23 (Operand.tmp 61) (Operand.tmp 63), type := 0, pos := "earley.go:48", after := #[{ on := 3, ground := Ground.data }, { on := 5, ground := Ground.data }, { on := 0, ground := Ground.phase }, { on := 1, ground := Ground.phase }, { on := 2, ground := Ground.phase }, { on := 3, ground := Ground.phase }, { on := 4, ground := Ground.phase }, { on := 5, ground := Ground.phase }, { on := 6, ground := Ground.phase }, { on := 7, ground := Ground.phase }, { on := 8, ground := Ground.phase }, { on := 9, ground := Ground.phase }, { on := 10, ground := Ground.phase }, { on := 11, ground := Ground.phase }, { on := 12, ground := Ground.phase }, { on := 13, ground := Ground.phase }, { on := 14, ground := Ground.phase }, { on := 15, ground := Ground.phase }, { on := 16, ground := Ground.phase }], guard := none } : Oper)) (v := ?_) rfl (by kernel_rfl) (by kernel_rfl) (by kernel_rfl) (fun _ _ _ h => h) (Or.inl ⟨by kernel_rfl, ?_⟩) (by assumption) ?_
            rotate_left
            · intro w hSw
              try dsimp only at hSw
              go_simp
              try with_reducible rfl
            try simp only [Act.put, List.setIfInBounds_toArray, List.set_cons_zero, List.set_cons_succ]
            refine wpAnyH_ready (rs := [18]) (by kernel_rfl) (by simp) ?_
            refine AllReadyH.cons (o := ({ dst := none, op := Op.store 22 (Operand.tmp 75) (Operand.tmp 74), type := 0, pos := "earley.go:48", after := #[{ on := 17, ground := Ground.data }, { on := 16, ground := Ground.data }, { on := 16, ground := Ground.chain }, { on := 0, ground := Ground.phase }, { on := 1, ground := Ground.phase }, { on := 2, ground := Ground.phase }, { on := 3, ground := Ground.phase }, { on := 4, ground := Ground.phase }, { on := 5, ground := Ground.phase }, { on := 6, ground := Ground.phase }, { on := 7, ground := Ground.phase }, { on := 8, ground := Ground.phase }, { on := 9, ground := Ground.phase }, { on := 10, ground := Ground.phase }, { on := 11, ground := Ground.phase }, { on := 12, ground := Ground.phase }, { on := 13, ground := Ground.phase }, { on := 14, ground := Ground.phase }, { on := 15, ground := Ground.phase }, { on := 16, ground := Ground.phase }], guard := none } : Oper)) rfl (fun K hK => ?_) AllReadyH.nil
            go_simp
            refine hK.out _ _ (HS9.out _ HbC.out) (fun hH2 => ?_)
            clear hK K hHeld
            have hHeld := hH2
            clear hH2
            try simp only [Act.put, List.setIfInBounds_toArray, List.set_cons_zero, List.set_cons_succ]
            refine wpAnyH_done (by kernel_rfl) ?_ _
            go_wp2_with fail
            go_roundg (G.prods.length - (i + 1))
            case measure => have := Hk.out; omega
            case rel => exact ⟨i + 1, _, _, by go_num, by omega, Hfin9.out.1, Hfin9.out.2.1, Hfin9.out.2.2.1, Hfin9.out.2.2.2.1, rfl, Hfin9.out.2.2.2.2⟩
          -- END9
      · have hge : ¬ (i : Int) < (G.prods.length : Int) := by omega
        have hiP : i = G.prods.length := by omega
        have hkc := Hr4.out.k.kp Hkp.out (by omega)
        have c9 := hkc.cell 9
        simp only [List.getElem?_cons_zero, List.getElem?_cons_succ] at c9
        have hbw := belw Hst1.out.2.2.2.2.2 hbgr
        cases bo with
        | false =>
          have hfin : MkYes w G word (.returned (.pointer (some ⟨c, 0, none⟩))) wr := by
            refine ⟨c, [], rfl, ⟨⟨gn, gt, gp, cp, ⟨wg, Hst1.out.2.2.1, hbgr⟩, hkc.cell 4⟩, ?_, ⟨_, _, hkc.cell 5⟩, ⟨_, _, hkc.cell 8, fun j X h => by simp at h⟩⟩, SetsAre.none (fun R hR hf => ?_), hbw⟩
            · rw [HsI.out]; exact hkc.cell 0
            · have hg : Facts.Gen G.prods true (s : Int) := by
                rw [← HsI.out]
                exact Facts.Gen.mk (G.start, R) hR (fun _ _ _ => rfl) (fun t ht h0 => (gen_iff Hsg.out.l0 h0).2 (hf t ht))
              have := Hgb.out.2.2.2 hg
              cases this
          have Hfin := hid hfin
          clear hfin hkc hbr hbgr hbw hown hiP
          go_wp2_with fail
          go_ret
          exact Hfin.out
        | true =>
          have hmm := @run_makeMap Try.prog
          have hb1 : Below wr.heap.size wr ((wr.alloc (.map #[] 0)).alloc (.cells #[.slice none 0 0, .map (some wr.heap.size)] 143)) := bel_al (bel_al (bel_id wr) _) _
          have hnew := SetM.made wr
          have Hown := hid hown
          have Hkc := hid hkc
          have Hbw := hid hbw
          have HiP := hid hiP
          clear hown hkc hbw hiP hbr hbgr
          go_upto_region 14 with fail
          obtain ⟨w1, hw1⟩ : ∃ w1, w1 = (wr.alloc (.map #[] 0)).alloc (.cells #[.slice none 0 0, .map (some wr.heap.size)] 143) := ⟨_, rfl⟩
          obtain ⟨m1, hm1⟩ : ∃ m1, m1 = wr.heap.size := ⟨_, rfl⟩
          rw [← hw1, ← hm1] at hnew ⊢
          rw [← hw1] at hb1
          have hsK2 : s < BY.length := by rw [HBl.out]; exact hsK
          obtain ⟨row, hrow⟩ : ∃ row, BY[s]? = some row := ⟨_, List.getElem?_eq_getElem hsK2⟩
          obtain ⟨vrow, hvr, hcv, hov⟩ := Hown.out.at hrow
          obtain ⟨grow, crow, rfl, hrowc⟩ := own_slice hov
          have hcm1 : c < m1 := by have := Hkc.out.lt; omega
          have hgm1 : go < m1 := by omega
          have hbm1 : b < m1 := by omega
          have c6 := (Hkc.out.below hb1 Hkc.out.lt).cell 6
          have b0 := (Hst1.out.1.below (Hbgr.out.trans (hb1.mono Hbgr.out.size)) Hst1.out.1.lt).cell 0
          have hcv1 := (hb1.cell (p := ⟨go, s, none⟩) (by show go < wr.heap.size; omega)).trans hcv
          simp only [List.getElem?_cons_zero, List.getElem?_cons_succ] at c6 b0
          obtain ⟨N, hN⟩ : ∃ N, N = row.length := ⟨_, rfl⟩
          have hNl : N ≤ 256 := by have := HBn.out row (List.mem_of_getElem? hrow); omega
          rw [← hN] at hcv1
          have Hb1 := hid hb1
          have Hm1 := hid hm1
          have Hnew := hid hnew
          have HN := hid hN
          have Hrow := hid (HBY.out s row hrow)
          have Hrowc := hid hrowc
          clear hb1 hm1 hw1 hnew hmm hN hrow hcv hov hrowc hvr
          go_region
          obtain ⟨Wb, hWb⟩ : ∃ Wb, Wb = wr := ⟨_, rfl⟩
          subst hWb
          obtain ⟨W2, hW2⟩ : ∃ W2, W2 = w1.drew := ⟨_, rfl⟩
          have hb12 : Below w1.heap.size w1 W2 := by rw [hW2]; exact below_drewN (Below.refl _ _) 1
          rw [← hW2]
          have hnew2 := Hnew.out.later hb12
          have hb2W : Below Wb.heap.size Wb W2 := belw Hb1.out hb12
          have hE : Env G.prods word := ⟨Hsg.out.l0, Hsg.out.r16, hp1, hwl⟩
          have hstart2 : MkB G.prods G.start word (m1 + 1) m1 W2 row N (.int .i64 0) W2 := ⟨0, _, [], rfl, Nat.zero_le _, ⟨hnew2, Kp.refl _ _, fun _ hg => .inl hg, ⟨[], rfl⟩, (fun x hx => by cases hx), List.Pairwise.nil, (fun j x hj => by omega)⟩, (fun j' q hj => by omega), by rw [← HN.out]; rfl⟩
          have hm12 : m1 ≤ W2.heap.size := by rw [Hm1.out]; exact hb2W.size
          have HE := hid hE
          have Hb2W := hid hb2W
          clear hW2 hb12 hnew2 hb2W hE c6 b0 hcv1
          go_wp2_with fail
          go_loopg [94] N (fun k v94 wr => MkB G.prods G.start word (m1 + 1) m1 W2 row k v94 wr)
          case atStart => exact hstart2
          case round =>
            clear hstart2
            obtain ⟨j, vj, Y, rfl, hj, hC, hseen, hk⟩ := hrel
            rw [← HN.out] at hj hk
            have hbm := hC.to_below (fun g' e => by simp [Value.ownBlock] at e) hm12
            have hset := hC.set
            have hYlen := HE.out.len hC.nd hC.snd
            have HC := hid hC
            have Hseen := hid hseen
            have Hk2 := hid hk
            have Hbm := hid (Hb2W.out.trans (by rw [← Hm1.out]; exact hbm))
            clear hC hseen hk hbm
            by_cases hltj : j < N
            · have hltjI : (j : Int) < (N : Int) := by omega
              have hj0 : (0 : Int) ≤ (j : Int) := by omega
              obtain ⟨v, hv⟩ : ∃ v, row[j]? = some v := ⟨_, List.getElem?_eq_getElem (by rw [← HN.out]; exact hltj)⟩
              obtain ⟨q, R', rfl, hqi, hpq, hfq⟩ := (Hrow.out v).1 (List.mem_of_getElem? hv)
              obtain ⟨gk, rfl, hgk1, hgk2, hck⟩ := Hrowc.out j (.int .i64 (q : Int)) (by rw [List.getElem?_map, hv]; rfl)
              have hck2 := (Hbm.out.cell (p := ⟨gk, j, none⟩) hgk2).trans hck
              have hItq : It G.prods G.start word 0 q 0 0 := It.start (by rw [HsI.out]; exact hpq) hfq
              have hInr := HE.out.inr hItq
              have HItq := hid hItq
              have Hve := hid hv
              clear hv hItq hpq hfq hck
              go_upto_region 18 with (go_at_call 84; refine (add00_calls _ (m1 + 1) m1 vj Y hset q hInr (by omega)).mono ?_; rintro e w9 ⟨v9, rfl, hs9, hk9, ho9⟩)
              have HC9 := hid (HC.out.add hs9 hk9 ho9 (Nat.zero_le _) HItq.out)
              clear hset hs9 hk9 ho9 hck2
              go_wp2_with fail
              go_roundg (N - (j + 1))
              case measure => have := Hk2.out; omega
              case rel =>
                refine ⟨j + 1, v9, _, by go_num, by rw [← HN.out]; omega, HC9.out, fun j' q' hj' hq' => ?_, by rw [← HN.out]⟩
                by_cases e : j' = j
                · subst e
                  rw [Hve.out] at hq'
                  injection hq' with hq'
                  have e : q = q' := by omega
                  subst e
                  exact (addS_mem _ _ _).2 (.inr rfl)
                · exact (addS_mem _ _ _).2 (.inl (Hseen.out j' q' (by omega) hq'))
            · have hgej : ¬ (j : Int) < (N : Int) := by omega
              have hall : ∀ (q : Nat) R', G.prods[q]? = some (G.start, R') → Fine G.prods R' → (q, 0, 0) ∈ Y := fun q R' h1 h2 => by
                have hm := (Hrow.out (q : Int)).2 ⟨q, R', rfl, by have := (List.getElem?_eq_some_iff.1 h1).1; have := HiP.out; omega, by rw [← HsI.out]; exact h1, h2⟩
                obtain ⟨j', hj', he⟩ := List.mem_iff_getElem.1 hm
                exact Hseen.out j' q (by have := HN.out; omega) (by rw [List.getElem?_eq_getElem hj', he])
              have hYne : Y ≠ [] := fun e => by
                obtain ⟨z, hz⟩ := gen_dw Hsg.out.l0 (Hgb.out.2.2.1 (by simp))
                obtain ⟨R', hR', hd'⟩ := hz.inv (Int.natCast_nonneg s)
                obtain ⟨q, hq⟩ := List.mem_iff_getElem?.1 hR'
                have := hall q R' (by rw [HsI.out]; exact hq) hd'.each
                rw [e] at this
                cases this
              have hkpW : Kp (fun k => k = c) Wb wr := ⟨Hbm.out.os, Hbm.out.tape, Hbm.out.output, Hbm.out.size, fun k hk _ => Hbm.out.block k hk⟩
              have hL : MkL G word Wb c (chC G gn gt gp gv gnu cn ct cp cv cnu s word.length go) word.length (.pointer (some ⟨m1 + 1, 0, none⟩)) (.int .i64 0) wr := ⟨0, m1 + 1, m1, vj, .slice none 0 0, Y, [], [], rfl, rfl, ⟨Nat.zero_le _, HC.out.set, by rw [Hm1.out]; exact Nat.le_refl _, HC.out.snd, HC.out.nd, hYne, Hkc.out.below Hbm.out Hkc.out.lt, World.ownsRow_nil _ _ _ _, rfl, rfl, fun g hg => by simp [Value.ownBlock] at hg, StD.nil, hkpW,
                SetsP.start hall⟩, rfl⟩
              have HL := hid hL
              clear hL hkpW hYne hall hset
              have hcW : c < Wb.heap.size := Hkc.out.lt
              have hnuW : RowBD Wb (fun k => k < c ∧ k ≠ go) gnu nb := (rowB_ne Hr4.out.nr Hr4.out.bgo).kp Hkp.out (fun k hk e => hk.2 e)
              have hbyW : RowIID Wb (fun k => (k = go ∨ wc.heap.size ≤ k) ∧ k < Wb.heap.size) (some ⟨go, 0, none⟩) BY := Hown.out.rows
              have hchm : ∀ (W' : World) (m : Nat) (vs' : Value), Kp (fun k => k = c) Wb W' → Wb.heap.size ≤ m → Bk W' c 138 (chC G gn gt gp gv gnu cn ct cp cv cnu s word.length go vs') → ChM W' m c G gn gt gp cp (some ⟨go, 0, none⟩) gnu G.names.length cnu BY nb := fun W' m vs' hk hm kc => by
                refine ⟨⟨wg, Hst1.out.2.2.1, ?_, Hbgr.out.trans (hk.to_below (by have := Hbgr.out.size; omega) (fun k e => ?_))⟩, by omega, kc.cell 4, by rw [HBl.out]; exact kc.cell 6, by rw [Hr4.out.nl]; exact kc.cell 7, rowII_of (hbyW.kp hk (fun k h e => ?_)) (fun k h => by omega), rowB_of (hnuW.kp hk (fun k h e => ?_)) (fun k h => by omega)⟩
                · have := Hbgr.out.size; omega
                · have := Hsz0.out; omega
                · rcases h.1 with h | h
                  · omega
                  · omega
                · omega
              have hbn : ByNu G.prods G.names.length BY nb := ⟨HBl.out, Hr4.out.nl, Hsg.out.r1, Hsg.out.l1, fun a row hrow v => by
                rw [HBY.out a row hrow v]
                constructor
                · rintro ⟨q, R, h1, _, h3, h4⟩
                  exact ⟨q, R, h1, h3, h4⟩
                · rintro ⟨q, R, h1, h3, h4⟩
                  exact ⟨q, R, h1, by have := (List.getElem?_eq_some_iff.1 h3).1; have := HiP.out; omega, h3, h4⟩, fun a b hb => by
                rw [← null_iff Hsg.out.l0, ← Hr4.out.nn _ (Int.natCast_nonneg a)]
                simp [Facts.inB, List.getD, hb], fun row hrow => by have := HBn.out row hrow; omega⟩
              have HChm := hid hchm
              have HBn2 := hid hbn
              obtain ⟨i5, hi5, u0, u1, u2⟩ := info_parts ptrInfoE
              clear hchm hbn hnuW hbyW
              go_wp2_with fail
              go_loopg [9, 12] word.length (fun k v9 v12 wr => MkL G word Wb c (chC G gn gt gp gv gnu cn ct cp cv cnu s word.length go) k v9 v12 wr)
              case atStart => exact HL.out
              case round =>
                clear HL
                obtain ⟨n, sn, m, vl, vs, X, ss, Xs, rfl, rfl, hS, hk⟩ := hrel
                have k8 := hS.kc.cell 8
                have hkcA := hS.kc.alloc (.cells #[.pointer (some ⟨sn, 0, none⟩)] 139)
                have k8A := hkcA.cell 8
                simp only [chC, List.getElem?_cons_zero, List.getElem?_cons_succ] at k8 k8A
                have hrowA := hS.row.alloc (.cells #[.pointer (some ⟨sn, 0, none⟩)] 139)
                have hcellA : (wr.alloc (.cells #[.pointer (some ⟨sn, 0, none⟩)] 139)).cell? ⟨wr.heap.size, 0, none⟩ = some (.pointer (some ⟨sn, 0, none⟩)) := (Bk.new wr 139 [.pointer (some ⟨sn, 0, none⟩)]).cell 0
                have hwsz : Wb.heap.size ≤ wr.heap.size := hS.kp.size
                have hvsm : ∀ g, vs.ownBlock = some g → Wb.heap.size ≤ g := fun g hg => (World.ownsRow.lt hS.row g hg).1
                have hnl := hS.nl
                have HS := hid hS
                have Hk2 := hid hk
                have HkcA := hid hkcA
                have HrowA := hid hrowA
                have HcellA := hid hcellA
                have Hvsm := hid hvsm
                clear hS hk hkcA hrowA hcellA hvsm
                go_upto_region 22 with (at_builtin; refine wpList_append_one _ rfl _ _ _ rfl Wb.heap.size 139 i5 _ Try.underlying136 hi5 u0 u1 (by rw [u2]; omega) rfl vs n (ss.map fun k => Value.pointer (some ⟨k, 0, none⟩)) (by rfl) HrowA.out ⟨wr.heap.size, 0, none⟩ (.pointer (some ⟨sn, 0, none⟩)) (by rfl) HcellA.out rfl (by omega) (by simp; omega) (wr.heap.size + 1) (by simp) ?_; intro g2 cap2 w2 hrow2 hgr2 hat2 hlt2; have hkc2 := HkcA.out.grown hgr2 (fun e => by have := Hvsm.out c e.symm; omega); have k82 := hkc2.cell 8; have f82 := hkc2.free 8; simp only [chC, List.getElem?_cons_zero, List.getElem?_cons_succ] at k82; have Hap := hid (And.intro hrow2 (And.intro hgr2 (And.intro hat2 (And.intro hlt2 hkc2)))); clear hrow2 hgr2 hat2 hlt2 hkc2)
                obtain ⟨hrow2, hgr2, hat2, hlt2, hkc2⟩ := Hap.out
                have hk02 : Kp (fun k => vs.ownBlock = some k) wr w2 := ((Kp.refl _ wr).alloc _).grown hgr2 (fun k hk _ => hk)
                have hk23 : Kp (fun k => k = c) w2 (w2.setCell ⟨c, 8, none⟩ (.slice (some ⟨g2, 0, none⟩) (n + 1) cap2)) := (Kp.refl (fun k => k = c) w2).set (p := ⟨c, 8, none⟩) (.inl rfl) _
                have hk03 : Kp (fun k => k = c ∨ vs.ownBlock = some k) wr (w2.setCell ⟨c, 8, none⟩ (.slice (some ⟨g2, 0, none⟩) (n + 1) cap2)) := (hk02.mono fun k _ h => .inr h).trans (hk23.mono fun k _ h => .inl h)
                have kc3 := hkc2.set 8 (.slice (some ⟨g2, 0, none⟩) (n + 1) cap2)
                have hg2c : ∀ g, (Value.slice (some ⟨g2, 0, none⟩) (n + 1) cap2).ownBlock = some g → Wb.heap.size ≤ g := fun g hg => (World.ownsRow.lt hrow2 g hg).1
                have row3 := own_kp hrow2 hk23 (fun g hg e => by have := hg2c g hg; omega)
                obtain ⟨w3, hw3⟩ : ∃ w3, w3 = w2.setCell ⟨c, 8, none⟩ (.slice (some ⟨g2, 0, none⟩) (n + 1) cap2) := ⟨_, rfl⟩
                rw [← hw3] at hk03 kc3 row3 ⊢
                have hms := HS.out.set.ms
                have hwm := HS.out.wm
                have hsl := HS.out.set.k.lt
                have hvm := HS.out.vm
                have hvlo := HS.out.set.o.lt
                have set3 := HS.out.set.kp hk03 (fun e => e.elim (fun e => by omega) (fun e => by have := hvm _ e; omega)) (fun e => e.elim (fun e => by omega) (fun e => by have := hvm _ e; omega)) (fun k h1 h2 e => e.elim (fun e => by omega) (fun e => by have := hvm _ e; omega))
                have st3 := HS.out.st.kp hk03 (fun k h e => e.elim (fun e => by omega) (fun e => h.2.2 e))
                have kpW3 : Kp (fun k => k = c) Wb w3 := Kp_tr HS.out.kp hk03 (fun k hk e => e.elim id (fun e => by have := Hvsm.out k e; omega))
                have kc4 : Bk w3 c 138 (chC G gn gt gp gv gnu cn ct cp cv cnu s word.length go (.slice (some ⟨g2, 0, none⟩) (n + 1) cap2)) := by
                  simpa only [chC, List.set_cons_succ, List.set_cons_zero] using kc3
                have chm3 := HChm.out w3 m _ kpW3 hwm kc4
                have hhn : ¬ Tch sn m vl g2 := by
                  rcases hat2 with e | e
                  · have h1 := hvm g2 e
                    rintro (h | h | h)
                    · omega
                    · omega
                    · have := (hvlo g2 h).1; omega
                  · rintro (h | h | h)
                    · omega
                    · omega
                    · have := (hvlo g2 h).2; omega
                have hrowc : ∀ (w' : World), w'.ownsRow Wb.heap.size 139 1 (.slice (some ⟨g2, 0, none⟩) (n + 1) cap2) (n + 1) ((ss.map fun k => Value.pointer (some ⟨k, 0, none⟩)) ++ [.pointer (some ⟨sn, 0, none⟩)]) → ∀ (j sj : Nat), (ss ++ [sn])[j]? = some sj → w'.cell? ⟨g2, j, none⟩ = some (.pointer (some ⟨sj, 0, none⟩)) := fun w' h j sj hj => by
                  obtain ⟨ga, cap', hv, hc⟩ := own_slice h
                  injection hv with hv _ _
                  have e : ((ss.map fun k => Value.pointer (some ⟨k, 0, none⟩)) ++ [.pointer (some ⟨sn, 0, none⟩)])[j]? = some (.pointer (some ⟨sj, 0, none⟩)) := by
                    have e2 : ((ss.map fun k => Value.pointer (some ⟨k, 0, none⟩)) ++ [.pointer (some ⟨sn, 0, none⟩)]) = (ss ++ [sn]).map fun k => Value.pointer (some ⟨k, 0, none⟩) := by simp
                    rw [e2, List.getElem?_map, hj]
                    rfl
                  obtain ⟨k, hk, _, _, hcell⟩ := hc j _ e
                  rw [← hv] at hk
                  injection hk with hk
                  injection hk with hk
                  subst hk
                  exact hcell
                have c83 := kc4.cell 8
                simp only [chC, List.getElem?_cons_zero, List.getElem?_cons_succ] at c83
                have hclose := close_calls w3 c sn m g2 cap2 n G.names.length vl X G G.start word gn gt gp (some ⟨go, 0, none⟩) gnu cp G.names.length cnu BY nb ss Xs (HBl.out ▸ chm3) HBn2.out HE.out c83 (hrowc w3 row3) hhn HS.out.sl HS.out.xl (by omega) (st3.stm (fun k h => h.2.1)) set3 HS.out.snd HS.out.nd HS.out.ne (fun j Y y hY hy => HS.out.sp.snd j Y y hY hy)
                have Hclose := hid hclose
                have Hrowc := hid hrowc
                have H3 := hid (And.intro row3 (And.intro st3 (And.intro kpW3 (And.intro kc4 hhn))))
                have hsz3 := hk03.size
                have hg2b : vs.ownBlock = some g2 ∨ wr.heap.size < g2 := hat2.imp id (fun e => by omega)
                have Hg2b := hid hg2b
                have Hvlo := hid hvlo
                clear hg2b
                have hg2l : g2 < w3.heap.size := by rw [hw3]; simpa [World.setCell] using hlt2
                clear hrow2 hgr2 hat2 hlt2 hkc2 hk02 hk23 hk03 kc3 row3 hw3 set3 st3 kpW3 kc4 chm3 hhn hrowc c83 hclose k8 k8A k82 f82 hvm hvlo
                go_upto_region 23 with (go_at_call 85; refine Hclose.out.mono ?_; rintro e w4 ⟨vl2, X2, rfl, hC⟩)
                obtain ⟨row3, st3, kpW3, kc4, hhn⟩ := H3.out
                have hvlo := Hvlo.out
                have hcT : ¬ Tch sn m vl c := by
                  rintro (h | h | h)
                  · omega
                  · omega
                  · have := (hvlo c h).1; omega
                have kcw4 := kc4.kp hC.kp hcT
                have row4 := own_kp row3 hC.kp (fun g hg => by
                  have e : g2 = g := by simpa [Value.ownBlock] using hg
                  rw [← e]; exact hhn)
                have hX2 : ∀ x ∈ X, x ∈ X2 := fun x hx => hC.mem hx
                have hX2n : X2 ≠ [] := fun e => by
                  cases hXc : X with
                  | nil => exact HS.out.ne hXc
                  | cons x r =>
                    have := hX2 x (by rw [hXc]; simp)
                    rw [e] at this
                    cases this
                have hX2l := HE.out.len hC.nd hC.snd
                have hw34 := hC.kp.size
                have hsn4 := hC.set.k.lt
                have st4 : StD w4 (fun k => Wb.heap.size ≤ k ∧ k < w4.heap.size ∧ g2 ≠ k) (ss ++ [sn]) (Xs ++ [X2]) := by
                  refine StD.snoc ((st3.kp hC.kp (fun k h e => ?_)).mono (fun k h => ⟨h.1, by omega, fun e => ?_⟩)) (by rw [HS.out.sl, HS.out.xl]) hC.set hX2n hX2l ⟨by omega, hsn4, fun e => hhn (.inl e)⟩ (fun g hg => ⟨?_, (hC.set.o.lt g hg).2, fun e => ?_⟩)
                  · rcases e with e | e | e
                    · omega
                    · omega
                    · have := (hvlo k e).1; omega
                  · subst e
                    rcases Hg2b.out with e | e
                    · exact h.2.2 e
                    · omega
                  · have := (hC.set.o.lt g hg).1; omega
                  · subst e
                    rcases hC.own g2 hg with e | e
                    · exact hhn (.inr (.inr e))
                    · omega
                have kpW4 : Kp (fun k => k = c) Wb w4 := Kp_tr kpW3 hC.kp (fun k hk e => by
                  rcases e with e | e | e
                  · omega
                  · omega
                  · have := (hvlo k e).1; omega)
                have hbg4 : Below wg.heap.size wg w4 := Hbgr.out.trans (kpW4.to_below (by have := Hbgr.out.size; omega) (fun k e => by have := Hsz0.out; omega))
                have hpush : ∀ Z : List Itm, (∀ x s', x ∈ X2 → nxt G.prods x = some s' → s' < 0 → word[Xs.length]? = some (-1 - s') → stp x ∈ Z) → SetsP G.prods G.start word (Xs ++ [X2]) Z := fun Z hz =>
                  HS.out.sp.push hX2 (by rw [HS.out.xl]; exact hC.snd) (fun x hx => by
                    obtain ⟨j, hj, he⟩ := List.mem_iff_getElem.1 hx
                    rw [HS.out.xl]
                    exact hC.cl j x hj (by rw [List.getElem?_eq_getElem hj, he])) hX2n hC.nd hz
                have hxl1 : (Xs ++ [X2]).length = n + 1 := by rw [List.length_append, HS.out.xl]; rfl
                have hend : ∀ w5, Below w4.heap.size w4 w5 → SetsAre G.prods G.start word (Xs ++ [X2]) → MkYes w G word (.returned (.pointer (some ⟨c, 0, none⟩))) w5 := fun w5 hb hs => by
                  have hk5 : Kp (fun _ => False) w4 w5 := ⟨hb.os, hb.tape, hb.output, hb.size, fun k hk _ => hb.block k hk⟩
                  have hbg5 := hbg4.trans (hb.mono hbg4.size)
                  exact ⟨c, _, rfl, ChS_of ⟨wg, Hst1.out.2.2.1, hbg5⟩ HsI.out (kcw4.below hb kcw4.lt) (Hrowc.out w5 (own_kp row4 hk5 (fun _ _ h => h))) (st4.kp hk5 (fun _ _ h => h)) hxl1, hs, belw Hst1.out.2.2.2.2.2 hbg5⟩
                have HC4 := hid hC
                have Hend := hid hend
                have Hpush := hid hpush
                have Hw4 := hid (And.intro kcw4 (And.intro row4 (And.intro st4 (And.intro kpW4 (And.intro hxl1 hX2n)))))
                by_cases hnw : n = word.length
                · have hnI : ((n : Int) == (word.length : Int)) = true := by simp; omega
                  have hfin := Hend.out w4 (Below.refl _ _) (SetsP.end_ (Z := []) (Hpush.out [] (fun x s' _ _ _ hw => by
                    rw [HS.out.xl, List.getElem?_eq_none (by omega)] at hw
                    cases hw)) Hsg.out.l0 hxl1 HS.out.nl (.inl hnw))
                  have Hfin := hid hfin
                  clear row3 st3 kpW3 kc4 hhn hvlo hcT kcw4 row4 hX2 hX2n hX2l hw34 st4 kpW4 hbg4 hpush hxl1 hend hC hnw hfin
                  go_wp2_with fail
                  go_ret
                  exact Hfin.out
                · have hnI : ((n : Int) == (word.length : Int)) = false := by simp; omega
                  have hltn : n < word.length := by omega
                  have hltnI : (n : Int) < (word.length : Int) := by omega
                  have hn0I : (0 : Int) ≤ (n : Int) := by omega
                  obtain ⟨gw', offw, rfl, hgw', hcw⟩ := (Hst1.out.2.2.2.1.below hbg4).at hltn
                  obtain ⟨t, ht⟩ : ∃ t, t = word[n] := ⟨_, rfl⟩
                  rw [← ht] at hcw
                  have hte : word[n]? = some t := by rw [ht]; exact List.getElem?_eq_getElem hltn
                  have htb : 0 ≤ t ∧ t < (G.terms.length : Int) := by
                    have hb : badT G.terms.length t = false := by
                      cases hb : badT G.terms.length t with
                      | false => rfl
                      | true =>
                        have := List.any_eq_true.2 ⟨t, List.mem_of_getElem? hte, hb⟩
                        rw [Hany.out] at this
                        cases this
                    simp [badT] at hb
                    exact hb
                  have ht1 := Hsg.out.t1
                  have c44 := kcw4.cell 4
                  simp only [chC, List.getElem?_cons_zero, List.getElem?_cons_succ] at c44
                  have hscan := scan_calls w4 c sn m n vl2 X2 G G.start word gn gt gp cp t (Hst1.out.2.2.1.later hbg4) c44 HE.out hC.set hC.snd hC.nd hte htb.1 (by omega)
                  have Hscan := hid hscan
                  have Hte := hid hte
                  clear row3 st3 kpW3 kc4 hhn hvlo hcT kcw4 row4 hX2 hX2n hX2l st4 kpW4 hbg4 hpush hxl1 hend hC hnw hscan ht hte htb c44
                  go_upto_region 25 with (go_at_call 86; refine Hscan.out.mono ?_; rintro e w5 ⟨s5, m5, vl5, Y, rfl, hs5, hm5, hb5, hnd5, hit5, hsc5⟩)
                  clear hcw
                  obtain ⟨ga5, cap5, rfl, -, -⟩ := own_rowE hs5.o
                  have k5 := hs5.k.cell 0
                  simp only [List.getElem?_cons_zero] at k5
                  have hsp := Hpush.out Y (fun x s' hx hn _ hw => by
                    rw [HS.out.xl, Hte.out] at hw
                    injection hw with hw
                    exact hsc5 x hx (by rw [hn]; congr 1; omega))
                  by_cases hY : Y = []
                  · subst hY
                    have hfin := Hend.out w5 hb5 (SetsP.end_ hsp Hsg.out.l0 Hw4.out.2.2.2.2.1 HS.out.nl (.inr rfl))
                    have Hfin := hid hfin
                    simp only [List.length_nil] at k5
                    clear hs5 hm5 hb5 hnd5 hit5 hsc5 hsp hfin
                    go_wp2_with fail
                    go_ret
                    exact Hfin.out
                  · have hYl : 0 < Y.length := List.length_pos_iff.2 hY
                    have hY0 : ((Y.length : Int) == 0) = false := by simp; omega
                    have hY0N : (Y.length == 0) = false := by simp; omega
                    have hk5 : Kp (fun _ => False) w4 w5 := ⟨hb5.os, hb5.tape, hb5.output, hb5.size, fun k hk _ => hb5.block k hk⟩
                    obtain ⟨kcw4, row4, st4, kpW4, hxl1, -⟩ := Hw4.out
                    have hnew : MkS G word Wb c (chC G gn gt gp gv gnu cn ct cp cv cnu s word.length go) w5 (n + 1) s5 m5 (.slice ga5 Y.length cap5) (.slice (some ⟨g2, 0, none⟩) (n + 1) cap2) Y (ss ++ [sn]) (Xs ++ [X2]) := by
                      refine ⟨hltn, hs5, by omega, hit5, hnd5, hY, kcw4.below hb5 kcw4.lt, ?_, by rw [List.length_append, HS.out.sl]; rfl, hxl1, fun g hg => ?_, (st4.kp hk5 (fun _ _ h => h)).mono (fun k h => ⟨h.1, by omega, fun e => h.2.2 ?_⟩), Kp_tr kpW4 hk5 (fun _ _ h => h.elim), hsp⟩
                      · rw [List.map_append]
                        exact own_kp row4 hk5 (fun _ _ h => h)
                      · have e : g2 = g := by simpa [Value.ownBlock] using hg
                        omega
                      · simpa [Value.ownBlock] using e
                    have Hnew2 := hid hnew
                    clear hs5 hm5 hb5 hnd5 hit5 hsc5 hsp kcw4 row4 st4 kpW4 hxl1 hnew hk5
                    go_wp2_with fail
                    go_roundg (word.length - (n + 1))
                    case measure => have := Hk2.out; omega
                    case rel => exact ⟨n + 1, s5, m5, _, _, Y, _, _, rfl, by go_num, Hnew2.out, rfl⟩
end Ed
end Go.Proofs.Ytaehooafdbaomaa
