/- Chapter 14 (tree): TreeTells: walk. -/
import Derived.Test.YtaehooafdbaomaaLaw14a
import Derived.Test.YtaehooafdbaomaaMade14
import Derived.Test.YtaehooafdbaomaaLawArr
import Derived.Test.YtaehooafdbaomaaRefSame
import Derived.Test.YtaehooafdbaomaaMadeArg
import Derived.Test.YtaehooafdbaomaaRefText
import Derived.Test.YtaehooafdbaomaaRefTree1
import Derived.Test.YtaehooafdbaomaaNum14
import Derived.Test.YtaehooafdbaomaaTold
namespace Go.Proofs.Ytaehooafdbaomaa
open Go.RowKit
attribute [local go_sem ↓] Go.wp_at_zero Go.wp_at_succ
attribute [local go_sem] frozen_alloc_lt

theorem GIn.toCh {w : World} {G : Gr} {gn gt gp : Option Addr} (h : GIn w G gn gt gp) (hs : Pl.soundB G = true) : ChIn w G gn gt gp := by
  have hsn := sndG hs
  exact ⟨h, by have := hsn.t1; omega, by have := hsn.p1; omega, fun x hx => by have := hsn.r16 x hx; omega⟩
/-- Two trees in boxes of the document's. -/
structure TwBox (w6 : World) (b11 b12 : Nat) (pt pu : Int) (kt ku : Fo) (Lt Lu : Nat) (ga gb : Option Addr) (ca cb : Nat) (w : World) : Prop where
  a : Bk w b11 50 [.int .i64 pt, .slice ga Lt ca]
  b : Bk w b12 50 [.int .i64 pu, .slice gb Lu cb]
  fa : FoAt w (fun q => q < w.heap.size) ga kt 0
  fb : FoAt w (fun q => q < w.heap.size) gb ku 0
  bw : Below w6.heap.size w6 w
/-- The boxes and the trees on the way there: which boxes are laid, which trees are made. -/
structure StR (w6 : World) (pt pu : Int) (kt ku : Fo) (Lt Lu : Nat) (sa sb : Option Nat) (ta tb : Option (Option Addr)) (W : World) : Prop where
  a : ∀ b, sa = some b → Bk W b 50 [.int .i64 0, .slice none 0 0] ∧ w6.heap.size ≤ b
  b : ∀ b, sb = some b → Bk W b 50 [.int .i64 0, .slice none 0 0] ∧ w6.heap.size ≤ b
  ne : ∀ x y, sa = some x → sb = some y → x ≠ y
  fa : ∀ g, ta = some g → FoAt W (fun q => q < W.heap.size ∧ sa ≠ some q ∧ sb ≠ some q) g kt 0
  fb : ∀ g, tb = some g → FoAt W (fun q => q < W.heap.size ∧ sa ≠ some q ∧ sb ≠ some q) g ku 0
  bw : Below w6.heap.size w6 W
section
variable {w6 : World} {pt pu : Int} {kt ku : Fo} {Lt Lu : Nat} {sa sb : Option Nat} {ta tb : Option (Option Addr)} {W W' : World}
theorem StR.allocA (h : StR w6 pt pu kt ku Lt Lu none sb ta tb W) : StR w6 pt pu kt ku Lt Lu (some W.heap.size) sb ta tb (W.alloc (.cells #[.int .i64 0, .slice none 0 0] 50)) := by
  have h1 := bel_al (bel_id W) (.cells #[.int .i64 0, .slice none 0 0] 50)
  have hs : (W.alloc (.cells #[.int .i64 0, .slice none 0 0] 50)).heap.size = W.heap.size + 1 := by simp
  refine ⟨?_, ?_, ?_, ?_, ?_, bel_al h.bw _⟩
  · rintro b ⟨⟩
    exact ⟨Bk.new _ _ _, h.bw.size⟩
  · intro b e
    exact ⟨(h.b b e).1.alloc _, (h.b b e).2⟩
  · rintro x y ⟨⟩ e
    have := (h.b y e).1.lt
    omega
  · intro g e
    exact ((h.fa g e).below h1 (fun k hk => hk.1)).mono fun k hk => ⟨by omega, fun e => by injection e with e; omega, hk.2.2⟩
  · intro g e
    exact ((h.fb g e).below h1 (fun k hk => hk.1)).mono fun k hk => ⟨by omega, fun e => by injection e with e; omega, hk.2.2⟩
theorem StR.allocB (h : StR w6 pt pu kt ku Lt Lu sa none ta tb W) : StR w6 pt pu kt ku Lt Lu sa (some W.heap.size) ta tb (W.alloc (.cells #[.int .i64 0, .slice none 0 0] 50)) := by
  have h1 := bel_al (bel_id W) (.cells #[.int .i64 0, .slice none 0 0] 50)
  have hs : (W.alloc (.cells #[.int .i64 0, .slice none 0 0] 50)).heap.size = W.heap.size + 1 := by simp
  refine ⟨?_, ?_, ?_, ?_, ?_, bel_al h.bw _⟩
  · intro b e
    exact ⟨(h.a b e).1.alloc _, (h.a b e).2⟩
  · rintro b ⟨⟩
    exact ⟨Bk.new _ _ _, h.bw.size⟩
  · rintro x y e ⟨⟩
    have := (h.a x e).1.lt
    omega
  · intro g e
    exact ((h.fa g e).below h1 (fun k hk => hk.1)).mono fun k hk => ⟨by omega, hk.2.1, fun e => by injection e with e; omega⟩
  · intro g e
    exact ((h.fb g e).below h1 (fun k hk => hk.1)).mono fun k hk => ⟨by omega, hk.2.1, fun e => by injection e with e; omega⟩
theorem StR.callA {g : Option Addr} (h : StR w6 pt pu kt ku Lt Lu sa sb none tb W) (hf : FoAt W' (fun k => W.heap.size ≤ k ∧ k < W'.heap.size) g kt 0) (hb : Below W.heap.size W W') : StR w6 pt pu kt ku Lt Lu sa sb (some g) tb W' :=
  ⟨fun b e => ⟨(h.a b e).1.below hb (h.a b e).1.lt, (h.a b e).2⟩, fun b e => ⟨(h.b b e).1.below hb (h.b b e).1.lt, (h.b b e).2⟩, h.ne,
   fun g' e => by
    cases e
    exact hf.mono fun k hk => ⟨hk.2, fun e => by have := (h.a k e).1.lt; omega, fun e => by have := (h.b k e).1.lt; omega⟩,
   fun g' e => ((h.fb g' e).below hb (fun k hk => hk.1)).mono fun k hk => ⟨Nat.lt_of_lt_of_le hk.1 hb.size, hk.2⟩, belw h.bw hb⟩
theorem StR.callB {g : Option Addr} (h : StR w6 pt pu kt ku Lt Lu sa sb ta none W) (hf : FoAt W' (fun k => W.heap.size ≤ k ∧ k < W'.heap.size) g ku 0) (hb : Below W.heap.size W W') : StR w6 pt pu kt ku Lt Lu sa sb ta (some g) W' :=
  ⟨fun b e => ⟨(h.a b e).1.below hb (h.a b e).1.lt, (h.a b e).2⟩, fun b e => ⟨(h.b b e).1.below hb (h.b b e).1.lt, (h.b b e).2⟩, h.ne,
   fun g' e => ((h.fa g' e).below hb (fun k hk => hk.1)).mono fun k hk => ⟨Nat.lt_of_lt_of_le hk.1 hb.size, hk.2⟩,
   fun g' e => by
    cases e
    exact hf.mono fun k hk => ⟨hk.2, fun e => by have := (h.a k e).1.lt; omega, fun e => by have := (h.b k e).1.lt; omega⟩, belw h.bw hb⟩
variable {ba bb : Nat} {ga gb : Option Addr}
def BoxZ (W : World) (b : Nat) : Prop := (W.cell? ⟨b, 0, none⟩ = some (.int .i64 0) ∧ W.cell? ⟨b, 1, none⟩ = some (.slice none 0 0) ∧ W.frozen? ⟨b, 0, none⟩ = false ∧ W.frozen? ⟨b, 1, none⟩ = false)
theorem BoxZ.of {b : Nat} (h : Bk W b 50 [.int .i64 0, .slice none 0 0]) : BoxZ W b := ⟨h.cell 0, h.cell 1, h.free 0, h.free 1⟩
theorem StR.stA (_h : StR w6 pt pu kt ku Lt Lu (some ba) (some bb) (some ga) (some gb) W) (ca : Nat) : Kp (fun k => k = ba) W ((W.setCell ⟨ba, 0, none⟩ (.int .i64 pt)).setCell ⟨ba, 1, none⟩ (.slice ga Lt ca)) :=
  Kp.set (S := fun q => q = ba) (p := ⟨ba, 1, none⟩) (Kp.set (S := fun q => q = ba) (p := ⟨ba, 0, none⟩) (Kp.refl _ _) (.inl rfl) _) (.inl rfl) _
theorem StR.st1 (h : StR w6 pt pu kt ku Lt Lu (some ba) (some bb) (some ga) (some gb) W) (ca : Nat) : Below w6.heap.size w6 ((W.setCell ⟨ba, 0, none⟩ (.int .i64 pt)).setCell ⟨ba, 1, none⟩ (.slice ga Lt ca)) :=
  h.bw.trans ((h.stA ca).to_below h.bw.size (fun k e => by have := (h.a ba rfl).2; omega))
theorem StR.ahead (h : StR w6 pt pu kt ku Lt Lu (some ba) (some bb) (some ga) (some gb) W) (ca : Nat) : BoxZ ((W.setCell ⟨ba, 0, none⟩ (.int .i64 pt)).setCell ⟨ba, 1, none⟩ (.slice ga Lt ca)) bb :=
  BoxZ.of ((h.b bb rfl).1.kp (h.stA ca) (fun e => h.ne ba bb rfl rfl e.symm))
theorem StR.fin (h : StR w6 pt pu kt ku Lt Lu (some ba) (some bb) (some ga) (some gb) W) (ca cb : Nat) : TwBox w6 ba bb pt pu kt ku Lt Lu ga gb ca cb ((((W.setCell ⟨ba, 0, none⟩ (.int .i64 pt)).setCell ⟨ba, 1, none⟩ (.slice ga Lt ca)).setCell ⟨bb, 0, none⟩ (.int .i64 pu)).setCell ⟨bb, 1, none⟩ (.slice gb Lu cb)) := by
  have hne := h.ne ba bb rfl rfl
  have k1 := h.stA ca
  have k2 : Kp (fun k => k = bb) _ ((((W.setCell ⟨ba, 0, none⟩ (.int .i64 pt)).setCell ⟨ba, 1, none⟩ (.slice ga Lt ca)).setCell ⟨bb, 0, none⟩ (.int .i64 pu)).setCell ⟨bb, 1, none⟩ (.slice gb Lu cb)) := Kp.set (S := fun q => q = bb) (p := ⟨bb, 1, none⟩) (Kp.set (S := fun q => q = bb) (p := ⟨bb, 0, none⟩) (Kp.refl _ _) (.inl rfl) _) (.inl rfl) _
  have k3 : Kp (fun k => k = ba ∨ k = bb) W ((((W.setCell ⟨ba, 0, none⟩ (.int .i64 pt)).setCell ⟨ba, 1, none⟩ (.slice ga Lt ca)).setCell ⟨bb, 0, none⟩ (.int .i64 pu)).setCell ⟨bb, 1, none⟩ (.slice gb Lu cb)) := (k1.mono fun k _ e => .inl e).trans (k2.mono fun k _ e => .inr e)
  have a1 := (((h.a ba rfl).1.set 0 (.int .i64 pt)).set 1 (.slice ga Lt ca)).kp k2 (fun e => hne e)
  have b1 := ((((h.b bb rfl).1.kp k1 (fun e => hne e.symm)).set 0 (.int .i64 pu)).set 1 (.slice gb Lu cb))
  simp only [List.set_cons_zero, List.set_cons_succ] at a1 b1
  refine ⟨a1, b1, ?_, ?_, h.bw.trans (k3.to_below h.bw.size (fun k e => by have := (h.a ba rfl).2; have := (h.b bb rfl).2; omega))⟩
  · exact (FoAt.kp k3 (fun k hk e => by rcases e with rfl | rfl; exact hk.2.1 rfl; exact hk.2.2 rfl) (h.fa ga rfl)).mono fun k hk => Nat.lt_of_lt_of_le hk.1 k3.size
  · exact (FoAt.kp k3 (fun k hk e => by rcases e with rfl | rfl; exact hk.2.1 rfl; exact hk.2.2 rfl) (h.fb gb rfl)).mono fun k hk => Nat.lt_of_lt_of_le hk.1 k3.size
end
/-- All that TreeTells holds in boxes. -/
structure TlS (b5 b6 b9 b10 b11 b12 : Nat) (G : Gr) (gn gt gp gn' gt' gp' : Option Addr) (cn ct cp cn' ct' cp' : Nat) (pt pu : Int) (kt ku : Fo) (Lt Lu : Nat) (gkt gku ga gb : Option Addr) (ckt cku ca cb : Nat) (W : World) : Prop where
  g : Bk W b5 30 [.int .i64 G.start, .int .i64 G.rules, .slice gn G.names.length cn, .slice gt G.terms.length ct, .slice gp G.prods.length cp]
  q : Bk W b6 33 [.int .i64 G.start, .int .i64 G.rules, .slice gn' G.names.length cn', .slice gt' G.terms.length ct', .slice gp' G.prods.length cp']
  t : Bk W b9 45 [.int .i64 pt, .slice gkt Lt ckt]
  u : Bk W b10 45 [.int .i64 pu, .slice gku Lu cku]
  a : Bk W b11 50 [.int .i64 pt, .slice ga Lt ca]
  b : Bk W b12 50 [.int .i64 pu, .slice gb Lu cb]
  i : GIn W G gn gt gp
  j : GIn W G gn' gt' gp'
  ft : FoAt W (fun q => q < W.heap.size) gkt kt 0
  fu : FoAt W (fun q => q < W.heap.size) gku ku 0
  fa : FoAt W (fun q => q < W.heap.size) ga kt 0
  fb : FoAt W (fun q => q < W.heap.size) gb ku 0
theorem TlS.later {b5 b6 b9 b10 b11 b12 : Nat} {G : Gr} {gn gt gp gn' gt' gp' : Option Addr} {cn ct cp cn' ct' cp' : Nat} {pt pu : Int} {kt ku : Fo} {Lt Lu : Nat} {gkt gku ga gb : Option Addr} {ckt cku ca cb : Nat} {W W' : World} (h : TlS b5 b6 b9 b10 b11 b12 G gn gt gp gn' gt' gp' cn ct cp cn' ct' cp' pt pu kt ku Lt Lu gkt gku ga gb ckt cku ca cb W) (hb : Below W.heap.size W W') : TlS b5 b6 b9 b10 b11 b12 G gn gt gp gn' gt' gp' cn ct cp cn' ct' cp' pt pu kt ku Lt Lu gkt gku ga gb ckt cku ca cb W' :=
  ⟨h.g.below hb h.g.lt, h.q.below hb h.q.lt, h.t.below hb h.t.lt, h.u.below hb h.u.lt, h.a.below hb h.a.lt, h.b.below hb h.b.lt, h.i.later hb, h.j.later hb, h.ft.fwd hb, h.fu.fwd hb, h.fa.fwd hb, h.fb.fwd hb⟩
def TlC (b5 b6 b9 b10 b11 b12 : Nat) (G : Gr) (gn gt gp gn' gt' gp' : Option Addr) (cn ct cp cn' ct' cp' : Nat) (pt pu : Int) (Lt Lu : Nat) (gkt gku ga gb : Option Addr) (ckt cku ca cb : Nat) (W : World) : Prop := (W.cell? ⟨b5, 0, none⟩ = some (.int .i64 G.start) ∧ W.cell? ⟨b5, 1, none⟩ = some (.int .i64 G.rules) ∧ W.cell? ⟨b5, 2, none⟩ = some (.slice gn G.names.length cn) ∧ W.cell? ⟨b5, 3, none⟩ = some (.slice gt G.terms.length ct) ∧ W.cell? ⟨b5, 4, none⟩ = some (.slice gp G.prods.length cp)) ∧ (W.cell? ⟨b6, 0, none⟩ = some (.int .i64 G.start) ∧ W.cell? ⟨b6, 1, none⟩ = some (.int .i64 G.rules) ∧ W.cell? ⟨b6, 2, none⟩ = some (.slice gn' G.names.length cn') ∧ W.cell? ⟨b6, 3, none⟩ = some (.slice gt' G.terms.length ct') ∧ W.cell? ⟨b6, 4, none⟩ = some (.slice gp' G.prods.length cp')) ∧ (W.cell? ⟨b9, 0, none⟩ = some (.int .i64 pt) ∧ W.cell? ⟨b9, 1, none⟩ = some (.slice gkt Lt ckt)) ∧ (W.cell? ⟨b10, 0, none⟩ = some (.int .i64 pu) ∧ W.cell? ⟨b10, 1, none⟩ = some (.slice gku Lu cku)) ∧ (W.cell? ⟨b11, 0, none⟩ = some (.int .i64 pt) ∧ W.cell? ⟨b11, 1, none⟩ = some (.slice ga Lt ca)) ∧ (W.cell? ⟨b12, 0, none⟩ = some (.int .i64 pu) ∧ W.cell? ⟨b12, 1, none⟩ = some (.slice gb Lu cb))
theorem TlS.cells {b5 b6 b9 b10 b11 b12 : Nat} {G : Gr} {gn gt gp gn' gt' gp' : Option Addr} {cn ct cp cn' ct' cp' : Nat} {pt pu : Int} {kt ku : Fo} {Lt Lu : Nat} {gkt gku ga gb : Option Addr} {ckt cku ca cb : Nat} {W : World} (h : TlS b5 b6 b9 b10 b11 b12 G gn gt gp gn' gt' gp' cn ct cp cn' ct' cp' pt pu kt ku Lt Lu gkt gku ga gb ckt cku ca cb W) : TlC b5 b6 b9 b10 b11 b12 G gn gt gp gn' gt' gp' cn ct cp cn' ct' cp' pt pu Lt Lu gkt gku ga gb ckt cku ca cb W :=
  ⟨⟨h.g.cell 0, h.g.cell 1, h.g.cell 2, h.g.cell 3, h.g.cell 4⟩, ⟨h.q.cell 0, h.q.cell 1, h.q.cell 2, h.q.cell 3, h.q.cell 4⟩, ⟨h.t.cell 0, h.t.cell 1⟩, ⟨h.u.cell 0, h.u.cell 1⟩, ⟨h.a.cell 0, h.a.cell 1⟩, h.b.cell 0, h.b.cell 1⟩
theorem numbers_any (W : World) (ga gb : Option Addr) (ca cb n : Nat) (zs : List Int) (hn : n = zs.length) (ha : RowI W W.heap.size ga zs) (hb : RowI W W.heap.size gb zs) (hl : zs.length ≤ 9223372036854775807) :
    Calls Try.prog 19 #[.slice ga n ca, .slice gb n cb] W fun e w' => e = .returned (.bool true) ∧ Below W.heap.size W w' := by
  subst hn
  exact numbers_same W ga gb ca cb zs ha hb hl
theorem rowID_I {w' : World} {B : Nat} {ga : Option Addr} {ys : List Int} (h : RowID w' (fun k => B ≤ k ∧ k < w'.heap.size) ga ys) : RowI w' w'.heap.size ga ys := fun i hi => by
  obtain ⟨g, o, u, h1, h2, h3, h4⟩ := h i hi
  exact ⟨g, o, u, h1, h2.2, h3, h4⟩
set_option maxHeartbeats 8000000 in
set_option maxRecDepth 8000 in
theorem tells_calls (x : RawD) (v : Value) (ms1 : List (Int × Int)) (v1 : Value) (ms2 : List (Int × Int)) (v2 : Value) (w : World) (hx : RawAt w x v) (hm1 : MadesV w ms1 v1) (hm2 : MadesV w ms2 v2) : Calls Try.prog 5 #[v, v1, v2] w fun e w' => e = .returned (.bool true) ∧ Below w.heap.size w w' := by
  obtain ⟨gl, gr, cl, cr, rfl, hl, hr, hl1, hr1, hr2⟩ := hx
  obtain ⟨gm1, cm1, rfl, hr1', hl1'⟩ := hm1
  obtain ⟨gm2, cm2, rfl, hr2', hl2'⟩ := hm2
  have hk0 := Bk.new w 25 [.int .i64 x.n, .int .i64 x.t, .int .i64 x.start, .slice gl x.left.length cl, .slice gr x.right.length cr]
  have hb0 : Below w.heap.size w (w.alloc (.cells #[.int .i64 x.n, .int .i64 x.t, .int .i64 x.start, .slice gl x.left.length cl, .slice gr x.right.length cr] 25)) := (Below.refl _ w).alloc (Nat.le_refl _) _
  go_enter Try.func5, Try.ntmps5
  go_upto_region 1 with fail
  obtain ⟨wa, hwa⟩ : ∃ wa, wa = (w.alloc (.cells #[.int .i64 x.n, .int .i64 x.t, .int .i64 x.start, .slice gl x.left.length cl, .slice gr x.right.length cr] 25)) := ⟨_, rfl⟩
  rw [← hwa] at hk0 hb0 ⊢
  clear hwa
  go_upto_region 3 with (go_at_call 15; refine (speaks14_calls _).mono ?_; rintro e w1 ⟨rfl, hb1⟩)
  have hk1 := hk0.below hb1 hk0.lt
  have hbw1 : Below w.heap.size w w1 := hb0.trans (hb1.mono hb0.size)
  have hl2 : RowI w1 w1.heap.size gl x.left := (hl.below hbw1).mono hbw1.size
  have hrr2 : RowII w1 w1.heap.size gr x.right := (hr.below hbw1).mono hbw1.size
  have c0 := hk1.cell 0
  have c1 := hk1.cell 1
  have c2 := hk1.cell 2
  have c3 := hk1.cell 3
  have c4 := hk1.cell 4
  simp only [List.getElem?_cons_zero, List.getElem?_cons_succ] at c0 c1 c2 c3 c4
  clear hk0 hb0 hb1 hl hr
  go_upto_region 4 with (go_at_call 16; refine (made14_calls x gl gr cl cr _ hl2 hrr2 hl1 hr1 hr2).mono ?_; rintro e w2 ⟨N, T, hN1, hN8, hT3, gn, gt, gp, gn', gt', gp', cn, ct, cp, cn', ct', cp', rfl, hg, hg', hb2⟩; unfold gramV)
  obtain ⟨G, hG⟩ : ∃ G, G = Mk.gram N T 14 4 x := ⟨_, rfl⟩
  have hsd : Pl.soundB G = true := by rw [hG]; exact Mk.gram_sound x hN1 (by omega) (by omega) (by omega) (by omega)
  rw [← hG] at hg hg' ⊢
  clear hG hN1 hN8 hT3 hl2 hrr2 hl1 hr1 hr2 c0 c1 c2 c3 c4 hk1
  have Hsd := hid hsd
  clear hsd
  have hbw2 : Below w.heap.size w w2 := hbw1.trans (hb2.mono hbw1.size)
  have hb3 : Below w2.heap.size w2 ((w2.alloc (.cells #[.int .i64 G.start, .int .i64 G.rules, .slice gn G.names.length cn, .slice gt G.terms.length ct, .slice gp G.prods.length cp] 30)).alloc (.cells #[.int .i64 G.start, .int .i64 G.rules, .slice gn' G.names.length cn', .slice gt' G.terms.length ct', .slice gp' G.prods.length cp'] 33)) := bel_al (bel_al (bel_id w2) _) _
  have kp1 := (Bk.new w2 30 [.int .i64 G.start, .int .i64 G.rules, .slice gn G.names.length cn, .slice gt G.terms.length ct, .slice gp G.prods.length cp]).alloc (.cells #[.int .i64 G.start, .int .i64 G.rules, .slice gn' G.names.length cn', .slice gt' G.terms.length ct', .slice gp' G.prods.length cp'] 33)
  have kq1 := bk_at (Bk.new (w2.alloc (.cells #[.int .i64 G.start, .int .i64 G.rules, .slice gn G.names.length cn, .slice gt G.terms.length ct, .slice gp G.prods.length cp] 30)) 33 [.int .i64 G.start, .int .i64 G.rules, .slice gn' G.names.length cn', .slice gt' G.terms.length ct', .slice gp' G.prods.length cp']) (show _ = w2.heap.size + 1 by simp)
  obtain ⟨w3, hw3⟩ : ∃ w3, w3 = ((w2.alloc (.cells #[.int .i64 G.start, .int .i64 G.rules, .slice gn G.names.length cn, .slice gt G.terms.length ct, .slice gp G.prods.length cp] 30)).alloc (.cells #[.int .i64 G.start, .int .i64 G.rules, .slice gn' G.names.length cn', .slice gt' G.terms.length ct', .slice gp' G.prods.length cp'] 33)) := ⟨_, rfl⟩
  obtain ⟨bp, hbp⟩ : ∃ bp, bp = w2.heap.size := ⟨_, rfl⟩
  obtain ⟨bq, hbq⟩ : ∃ bq, bq = bp + 1 := ⟨_, rfl⟩
  rw [← hw3, ← hbp] at kp1 kq1
  rw [← hbq] at kq1
  rw [← hw3] at hb3
  rw [← hw3, ← hbp, ← hbq]
  have hbw3 := belw hbw2 hb3
  have hg3 := hg.later hb3
  have hg3' := hg'.later hb3
  have hrowM : ∀ {gm : Option Addr} {ms : List (Int × Int)} (W : World), RowM w w.heap.size gm ms → Below w.heap.size w W → RowM W W.heap.size gm ms := fun W h hb j x hx => by
    obtain ⟨g, o, e, h1, h2, h3, h4⟩ := h j x hx
    exact ⟨g, o, e, Nat.lt_of_lt_of_le h1 hb.size, (hb.cell (p := ⟨g, _, none⟩) h1).trans h2, (hb.cell (p := ⟨g, _, none⟩) h1).trans h3, h4⟩
  have hbl := built_calls w3 gm1 cm1 ms1 (hrowM w3 hr1' hbw3) hl1'
  have hbm : ∀ W, Below w3.heap.size w3 W → Calls Try.prog 26 #[.slice gm2 ms2.length cm2] W (BuiltSaid W) := fun W hW => built_calls W gm2 cm2 ms2 (hrowM W hr2' (belw hbw3 hW)) hl2'
  have Hbm := hid hbm
  have Hbl := hid hbl
  have Kp1 := hid kp1
  have Kq1 := hid kq1
  have Hg3 := hid (And.intro (hg.later hb3) (hg'.later hb3))
  have Hbw3 := hid hbw3
  clear hw3 hbp hbq hg hg' hb3 hb2 hbw1 hbw2 hbw3 hbl hbm hrowM kp1 kq1 hr1' hr2' hl1' hl2'
  go_upto_region 5 with (first
    | (go_at_call 26; refine (Hbm.out _ Hb4.out).mono ?_; rintro e w5 ⟨pu, ku, gku, cku, rfl, hfu, hnu, hpu, hfiu, hb5⟩)
    | (go_at_call 26; refine Hbl.out.mono ?_; rintro e w4 ⟨pt, kt, gkt, ckt, rfl, hft, hnt, hpt, hfit, hb4⟩; have Hb4 := hid hb4; have Hft := hid (And.intro hft (And.intro hnt (And.intro hpt hfit))); clear hb4 hft hnt hpt hfit))
  obtain ⟨Lt, hLt⟩ : ∃ Lt, Lt = kt.len := ⟨_, rfl⟩
  obtain ⟨Lu, hLu⟩ : ∃ Lu, Lu = ku.len := ⟨_, rfl⟩
  have hk9 := (Bk.new w5 45 [.int .i64 pt, .slice gkt Lt ckt]).alloc (.cells #[.int .i64 pu, .slice gku Lu cku] 45)
  have hk10 := bk_at (Bk.new (w5.alloc (.cells #[.int .i64 pt, .slice gkt Lt ckt] 45)) 45 [.int .i64 pu, .slice gku Lu cku]) (show _ = w5.heap.size + 1 by simp)
  have hal : Below w5.heap.size w5 ((w5.alloc (.cells #[.int .i64 pt, .slice gkt Lt ckt] 45)).alloc (.cells #[.int .i64 pu, .slice gku Lu cku] 45)) := bel_al (bel_al (bel_id w5) _) _
  obtain ⟨w6, hw6⟩ : ∃ w6, w6 = (w5.alloc (.cells #[.int .i64 pt, .slice gkt Lt ckt] 45)).alloc (.cells #[.int .i64 pu, .slice gku Lu cku] 45) := ⟨_, rfl⟩
  obtain ⟨b9, hb9⟩ : ∃ b9, b9 = w5.heap.size := ⟨_, rfl⟩
  obtain ⟨b10, hb10⟩ : ∃ b10, b10 = b9 + 1 := ⟨_, rfl⟩
  rw [← hw6] at hk9 hk10 hal
  rw [← hb9] at hk9 hk10
  rw [← hb10] at hk10
  rw [← hLt, ← hLu, ← hw6, ← hb9, ← hb10]
  have hfit6 : FoAt w6 (fun q => q < w6.heap.size) gkt kt 0 := (Hft.out.1.fwd hb5).fwd hal
  have hfiu6 : FoAt w6 (fun q => q < w6.heap.size) gku ku 0 := hfu.fwd hal
  have htt : ∀ W, Below w6.heap.size w6 W → Calls Try.prog 23 #[.agg #[.int .i64 pt, .slice gkt Lt ckt]] W fun e w' => ∃ gk ck, e = .returned (.agg #[.int .i64 pt, .slice gk Lt ck]) ∧ FoAt w' (fun k => W.heap.size ≤ k ∧ k < w'.heap.size) gk kt 0 ∧ Below W.heap.size W w' := fun W hW => by
    rw [hLt]
    exact told_calls _ pt kt W gkt ckt rfl (by have := Hft.out.2.1; omega) (hfit6.fwd hW)
  have htu : ∀ W, Below w6.heap.size w6 W → Calls Try.prog 23 #[.agg #[.int .i64 pu, .slice gku Lu cku]] W fun e w' => ∃ gk ck, e = .returned (.agg #[.int .i64 pu, .slice gk Lu ck]) ∧ FoAt w' (fun k => W.heap.size ≤ k ∧ k < w'.heap.size) gk ku 0 ∧ Below W.heap.size W w' := fun W hW => by
    rw [hLu]
    exact told_calls _ pu ku W gku cku rfl (by omega) (hfiu6.fwd hW)
  have hto : ∀ W p g (L : Nat) c (k : Fo), Below w6.heap.size w6 W → ((p = pt ∧ g = gkt ∧ L = Lt ∧ c = ckt ∧ k = kt) ∨ (p = pu ∧ g = gku ∧ L = Lu ∧ c = cku ∧ k = ku)) → Calls Try.prog 23 #[.agg #[.int .i64 p, .slice g L c]] W fun e w' => ∃ gk ck, e = .returned (.agg #[.int .i64 p, .slice gk L ck]) ∧ FoAt w' (fun k => W.heap.size ≤ k ∧ k < w'.heap.size) gk k 0 ∧ Below W.heap.size W w' := fun W p g L c k hW h => by
    rcases h with ⟨rfl, rfl, rfl, rfl, rfl⟩ | ⟨rfl, rfl, rfl, rfl, rfl⟩
    · exact htt W hW
    · exact htu W hW
  have Hto := hid hto
  have hS : ∀ W, Below w6.heap.size w6 W → (W.cell? ⟨b9, 0, none⟩ = some (.int .i64 pt) ∧ W.cell? ⟨b9, 1, none⟩ = some (.slice gkt Lt ckt)) ∧ W.cell? ⟨b10, 0, none⟩ = some (.int .i64 pu) ∧ W.cell? ⟨b10, 1, none⟩ = some (.slice gku Lu cku) := fun W hW => ⟨⟨(hk9.below hW hk9.lt).cell 0, (hk9.below hW hk9.lt).cell 1⟩, (hk10.below hW hk10.lt).cell 0, (hk10.below hW hk10.lt).cell 1⟩
  have HS := hid hS
  have hb36 : Below w3.heap.size w3 w6 := belw (belw Hb4.out hb5) hal
  have Hq6 := hid (And.intro (Kp1.out.below hb36 Kp1.out.lt) (And.intro (Kq1.out.below hb36 Kq1.out.lt) (And.intro hk9 (And.intro hk10 (And.intro (Hg3.out.1.later hb36) (And.intro (Hg3.out.2.later hb36) (And.intro hfit6 hfiu6)))))))
  have Hbw6 := hid (belw Hbw3.out hb36)
  have HL6 := hid (And.intro hLt hLu)
  have Hfu := hid hnu
  have HD := hid (show Below w6.heap.size w6 w6.drew from (Below.refl _ _).drew)
  clear hk9 hk10 hal hw6 hb9 hb10 hfit6 hfiu6 htt htu hto hS hLt hLu hfu hb5 hb36 hnu hpu hfiu
  go_cut [11, 12] from 11 to 31 (fun v11 v12 wx => ∃ (b11 b12 : Nat) (ga gb : Option Addr) (ca cb : Nat), v11 = .pointer (some ⟨b11, 0, none⟩) ∧ v12 = .pointer (some ⟨b12, 0, none⟩) ∧ TwBox w6 b11 b12 pt pu kt ku Lt Lu ga gb ca cb wx)
  case first =>
    refine wp_region_held_drew (S := fun W : World => (W.cell? ⟨b9, 0, none⟩ = some (.int .i64 pt) ∧ W.cell? ⟨b9, 1, none⟩ = some (.slice gkt Lt ckt)) ∧ W.cell? ⟨b10, 0, none⟩ = some (.int .i64 pu) ∧ W.cell? ⟨b10, 1, none⟩ = some (.slice gku Lu cku)) (by kernel_rfl) (HS.out _ HD.out) (fun hHeld => ?_)
    refine wpAnyH_take (i := 0) (oi := ({ dst := some 28, op := Op.load 45 (Operand.tmp 9), type := 45, pos := "law.go:108", after := #[], guard := none } : Oper)) (v := ?_) rfl (by kernel_rfl) (by kernel_rfl) (by kernel_rfl) (fun _ _ _ h => h) (Or.inl ⟨by kernel_rfl, ?_⟩) (by assumption) ?_
    rotate_left
    · intro w hSw
      try dsimp only at hSw
      go_simp
      try with_reducible rfl
    try simp only [Act.put, List.setIfInBounds_toArray, List.set_cons_zero, List.set_cons_succ]
    refine wpAnyH_take (i := 2) (oi := ({ dst := some 30, op := Op.load 45 (Operand.tmp 10), type := 45, pos := "law.go:108", after := #[], guard := none } : Oper)) (v := ?_) rfl (by kernel_rfl) (by kernel_rfl) (by kernel_rfl) (fun _ _ _ h => h) (Or.inl ⟨by kernel_rfl, ?_⟩) (by assumption) ?_
    rotate_left
    · intro w hSw
      try dsimp only at hSw
      go_simp
      try with_reducible rfl
    try simp only [Act.put, List.setIfInBounds_toArray, List.set_cons_zero, List.set_cons_succ]
    obtain ⟨W0, hW0⟩ : ∃ W0, W0 = w6.drew := ⟨_, rfl⟩
    have HD0 := HD.out
    rw [← hW0] at hHeld HD0 ⊢
    clear hW0
    have F0 : StR w6 pt pu kt ku Lt Lu none none none none W0 := ⟨fun _ h => (by cases h), fun _ h => (by cases h), fun _ _ h => (by cases h), fun _ h => (by cases h), fun _ h => (by cases h), HD0⟩
    refine wpAnyH_ready (rs := [1, 4, 5]) (by kernel_rfl) (by simp) ?_
    refine AllReadyH.cons (o := ({ dst := some 29, op := Op.call { callee := Callee.value (Operand.func 23), args := #[Operand.tmp 28], argTypes := #[45] }, type := 50, pos := "law.go:108", after := #[{ on := 0, ground := Ground.data }], guard := none } : Oper)) rfl (fun K hK => ?_) ?_
    · go_simp
      go_at_call 23
      refine (Hto.out _ _ _ _ _ kt F0.bw (by exact Or.inl ⟨rfl, rfl, rfl, rfl, rfl⟩)).mono ?_
      rintro e W1 ⟨ga, ca, rfl, hf, hb⟩
      try go_simp
      have F1 := F0.callA hf hb
      refine hK.out _ _ (HS.out _ F1.bw) (fun hH2 => ?_)
      clear hK K hHeld hf hb
      have hHeld := hH2
      clear hH2
      try simp only [Act.put, List.setIfInBounds_toArray, List.set_cons_zero, List.set_cons_succ]
      refine wpAnyH_ready (rs := [3, 4, 5]) (by kernel_rfl) (by simp) ?_
      refine AllReadyH.cons (o := ({ dst := some 31, op := Op.call { callee := Callee.value (Operand.func 23), args := #[Operand.tmp 30], argTypes := #[45] }, type := 50, pos := "law.go:108", after := #[{ on := 2, ground := Ground.data }, { on := 1, ground := Ground.chain }], guard := none } : Oper)) rfl (fun K hK => ?_) ?_
      · go_simp
        go_at_call 23
        refine (Hto.out _ _ _ _ _ ku F1.bw (by exact Or.inr ⟨rfl, rfl, rfl, rfl, rfl⟩)).mono ?_
        rintro e W2 ⟨gb, cb, rfl, hf, hb⟩
        try go_simp
        have F2 := F1.callB hf hb
        refine hK.out _ _ (HS.out _ F2.bw) (fun hH2 => ?_)
        clear hK K hHeld hf hb
        have hHeld := hH2
        clear hH2
        try simp only [Act.put, List.setIfInBounds_toArray, List.set_cons_zero, List.set_cons_succ]
        refine wpAnyH_ready (rs := [4, 5]) (by kernel_rfl) (by simp) ?_
        refine AllReadyH.cons (o := ({ dst := some 11, op := Op.alloc 50, type := 0, pos := "law.go:108", after := #[], guard := none } : Oper)) rfl (fun K hK => ?_) ?_
        · go_simp
          refine hK.out _ _ (HS.out _ (bel_al F2.bw _)) (fun hH2 => ?_)
          have F3 := F2.allocA
          obtain ⟨W3, hW3⟩ : ∃ W, W = W2.alloc (.cells #[.int .i64 0, .slice none 0 0] 50) := ⟨_, rfl⟩
          obtain ⟨ba, hba⟩ : ∃ b, b = W2.heap.size := ⟨_, rfl⟩
          rw [← hW3] at F3 hH2 ⊢
          rw [← hba] at F3 ⊢
          clear hK K hHeld hW3 hba
          have hHeld := hH2
          clear hH2
          try simp only [Act.put, List.setIfInBounds_toArray, List.set_cons_zero, List.set_cons_succ]
          refine wpAnyH_ready (rs := [5]) (by kernel_rfl) (by simp) ?_
          refine AllReadyH.cons (o := ({ dst := some 12, op := Op.alloc 50, type := 0, pos := "law.go:108", after := #[], guard := none } : Oper)) rfl (fun K hK => ?_) ?_
          · go_simp
            refine hK.out _ _ (HS.out _ (bel_al F3.bw _)) (fun hH2 => ?_)
            have F4 := F3.allocB
            obtain ⟨W4, hW4⟩ : ∃ W, W = W3.alloc (.cells #[.int .i64 0, .slice none 0 0] 50) := ⟨_, rfl⟩
            obtain ⟨bb, hbb⟩ : ∃ b, b = W3.heap.size := ⟨_, rfl⟩
            rw [← hW4] at F4 hH2 ⊢
            rw [← hbb] at F4 ⊢
            clear hK K hHeld hW4 hbb
            have hHeld := hH2
            clear hH2
            try simp only [Act.put, List.setIfInBounds_toArray, List.set_cons_zero, List.set_cons_succ]
            have hfin := F4.fin ca cb
            obtain ⟨x0, x1, x2, x3⟩ := BoxZ.of (F4.a ba rfl).1
            refine wpAnyH_ready (rs := [6]) (by kernel_rfl) (by simp) ?_
            refine AllReadyH.cons (o := ({ dst := none, op := Op.store 50 (Operand.tmp 11) (Operand.tmp 29), type := 0, pos := "law.go:108", after := #[{ on := 4, ground := Ground.data }, { on := 1, ground := Ground.data }, { on := 3, ground := Ground.chain }, { on := 0, ground := Ground.phase }, { on := 1, ground := Ground.phase }, { on := 2, ground := Ground.textOnly Departure.lateStores }, { on := 3, ground := Ground.textOnly Departure.lateStoresUnsure }, { on := 4, ground := Ground.phase }, { on := 5, ground := Ground.phase }], guard := none } : Oper)) rfl (fun K hK => ?_) AllReadyH.nil
            go_simp
            refine hK.out _ _ ?_ (fun hH2 => ?_)
            · exact HS.out _ (F4.st1 ca)
            clear hK K hHeld
            have hHeld := hH2
            clear hH2
            try simp only [Act.put, List.setIfInBounds_toArray, List.set_cons_zero, List.set_cons_succ]
            obtain ⟨y0, y1, y2, y3⟩ := F4.ahead ca
            refine wpAnyH_ready (rs := [7]) (by kernel_rfl) (by simp) ?_
            refine AllReadyH.cons (o := ({ dst := none, op := Op.store 50 (Operand.tmp 12) (Operand.tmp 31), type := 0, pos := "law.go:108", after := #[{ on := 5, ground := Ground.data }, { on := 3, ground := Ground.data }, { on := 6, ground := Ground.chain }, { on := 0, ground := Ground.phase }, { on := 1, ground := Ground.phase }, { on := 2, ground := Ground.phase }, { on := 3, ground := Ground.phase }, { on := 4, ground := Ground.phase }, { on := 5, ground := Ground.phase }, { on := 6, ground := Ground.phase }], guard := none } : Oper)) rfl (fun K hK => ?_) AllReadyH.nil
            go_simp
            refine hK.out _ _ ?_ (fun hH2 => ?_)
            · exact HS.out _ hfin.bw
            clear hK K hHeld
            have hHeld := hH2
            clear hH2
            try simp only [Act.put, List.setIfInBounds_toArray, List.set_cons_zero, List.set_cons_succ]
            refine wpAnyH_done (by kernel_rfl) ?_ _
            go_wp2_with fail
            go_meet
            exact ⟨ba, bb, ga, gb, ca, cb, rfl, rfl, hfin⟩
          exact AllReadyH.nil
        refine AllReadyH.cons (o := ({ dst := some 12, op := Op.alloc 50, type := 0, pos := "law.go:108", after := #[], guard := none } : Oper)) rfl (fun K hK => ?_) ?_
        · go_simp
          refine hK.out _ _ (HS.out _ (bel_al F2.bw _)) (fun hH2 => ?_)
          have F3 := F2.allocB
          obtain ⟨W3, hW3⟩ : ∃ W, W = W2.alloc (.cells #[.int .i64 0, .slice none 0 0] 50) := ⟨_, rfl⟩
          obtain ⟨bb, hbb⟩ : ∃ b, b = W2.heap.size := ⟨_, rfl⟩
          rw [← hW3] at F3 hH2 ⊢
          rw [← hbb] at F3 ⊢
          clear hK K hHeld hW3 hbb
          have hHeld := hH2
          clear hH2
          try simp only [Act.put, List.setIfInBounds_toArray, List.set_cons_zero, List.set_cons_succ]
          refine wpAnyH_ready (rs := [4]) (by kernel_rfl) (by simp) ?_
          refine AllReadyH.cons (o := ({ dst := some 11, op := Op.alloc 50, type := 0, pos := "law.go:108", after := #[], guard := none } : Oper)) rfl (fun K hK => ?_) ?_
          · go_simp
            refine hK.out _ _ (HS.out _ (bel_al F3.bw _)) (fun hH2 => ?_)
            have F4 := F3.allocA
            obtain ⟨W4, hW4⟩ : ∃ W, W = W3.alloc (.cells #[.int .i64 0, .slice none 0 0] 50) := ⟨_, rfl⟩
            obtain ⟨ba, hba⟩ : ∃ b, b = W3.heap.size := ⟨_, rfl⟩
            rw [← hW4] at F4 hH2 ⊢
            rw [← hba] at F4 ⊢
            clear hK K hHeld hW4 hba
            have hHeld := hH2
            clear hH2
            try simp only [Act.put, List.setIfInBounds_toArray, List.set_cons_zero, List.set_cons_succ]
            have hfin := F4.fin ca cb
            obtain ⟨x0, x1, x2, x3⟩ := BoxZ.of (F4.a ba rfl).1
            refine wpAnyH_ready (rs := [6]) (by kernel_rfl) (by simp) ?_
            refine AllReadyH.cons (o := ({ dst := none, op := Op.store 50 (Operand.tmp 11) (Operand.tmp 29), type := 0, pos := "law.go:108", after := #[{ on := 4, ground := Ground.data }, { on := 1, ground := Ground.data }, { on := 3, ground := Ground.chain }, { on := 0, ground := Ground.phase }, { on := 1, ground := Ground.phase }, { on := 2, ground := Ground.textOnly Departure.lateStores }, { on := 3, ground := Ground.textOnly Departure.lateStoresUnsure }, { on := 4, ground := Ground.phase }, { on := 5, ground := Ground.phase }], guard := none } : Oper)) rfl (fun K hK => ?_) AllReadyH.nil
            go_simp
            refine hK.out _ _ ?_ (fun hH2 => ?_)
            · exact HS.out _ (F4.st1 ca)
            clear hK K hHeld
            have hHeld := hH2
            clear hH2
            try simp only [Act.put, List.setIfInBounds_toArray, List.set_cons_zero, List.set_cons_succ]
            obtain ⟨y0, y1, y2, y3⟩ := F4.ahead ca
            refine wpAnyH_ready (rs := [7]) (by kernel_rfl) (by simp) ?_
            refine AllReadyH.cons (o := ({ dst := none, op := Op.store 50 (Operand.tmp 12) (Operand.tmp 31), type := 0, pos := "law.go:108", after := #[{ on := 5, ground := Ground.data }, { on := 3, ground := Ground.data }, { on := 6, ground := Ground.chain }, { on := 0, ground := Ground.phase }, { on := 1, ground := Ground.phase }, { on := 2, ground := Ground.phase }, { on := 3, ground := Ground.phase }, { on := 4, ground := Ground.phase }, { on := 5, ground := Ground.phase }, { on := 6, ground := Ground.phase }], guard := none } : Oper)) rfl (fun K hK => ?_) AllReadyH.nil
            go_simp
            refine hK.out _ _ ?_ (fun hH2 => ?_)
            · exact HS.out _ hfin.bw
            clear hK K hHeld
            have hHeld := hH2
            clear hH2
            try simp only [Act.put, List.setIfInBounds_toArray, List.set_cons_zero, List.set_cons_succ]
            refine wpAnyH_done (by kernel_rfl) ?_ _
            go_wp2_with fail
            go_meet
            exact ⟨ba, bb, ga, gb, ca, cb, rfl, rfl, hfin⟩
          exact AllReadyH.nil
        exact AllReadyH.nil
      refine AllReadyH.cons (o := ({ dst := some 11, op := Op.alloc 50, type := 0, pos := "law.go:108", after := #[], guard := none } : Oper)) rfl (fun K hK => ?_) ?_
      · go_simp
        refine hK.out _ _ (HS.out _ (bel_al F1.bw _)) (fun hH2 => ?_)
        have F2 := F1.allocA
        obtain ⟨W2, hW2⟩ : ∃ W, W = W1.alloc (.cells #[.int .i64 0, .slice none 0 0] 50) := ⟨_, rfl⟩
        obtain ⟨ba, hba⟩ : ∃ b, b = W1.heap.size := ⟨_, rfl⟩
        rw [← hW2] at F2 hH2 ⊢
        rw [← hba] at F2 ⊢
        clear hK K hHeld hW2 hba
        have hHeld := hH2
        clear hH2
        try simp only [Act.put, List.setIfInBounds_toArray, List.set_cons_zero, List.set_cons_succ]
        refine wpAnyH_ready (rs := [3, 5]) (by kernel_rfl) (by simp) ?_
        refine AllReadyH.cons (o := ({ dst := some 31, op := Op.call { callee := Callee.value (Operand.func 23), args := #[Operand.tmp 30], argTypes := #[45] }, type := 50, pos := "law.go:108", after := #[{ on := 2, ground := Ground.data }, { on := 1, ground := Ground.chain }], guard := none } : Oper)) rfl (fun K hK => ?_) ?_
        · go_simp
          go_at_call 23
          refine (Hto.out _ _ _ _ _ ku F2.bw (by exact Or.inr ⟨rfl, rfl, rfl, rfl, rfl⟩)).mono ?_
          rintro e W3 ⟨gb, cb, rfl, hf, hb⟩
          try go_simp
          have F3 := F2.callB hf hb
          refine hK.out _ _ (HS.out _ F3.bw) (fun hH2 => ?_)
          clear hK K hHeld hf hb
          have hHeld := hH2
          clear hH2
          try simp only [Act.put, List.setIfInBounds_toArray, List.set_cons_zero, List.set_cons_succ]
          refine wpAnyH_ready (rs := [5]) (by kernel_rfl) (by simp) ?_
          refine AllReadyH.cons (o := ({ dst := some 12, op := Op.alloc 50, type := 0, pos := "law.go:108", after := #[], guard := none } : Oper)) rfl (fun K hK => ?_) ?_
          · go_simp
            refine hK.out _ _ (HS.out _ (bel_al F3.bw _)) (fun hH2 => ?_)
            have F4 := F3.allocB
            obtain ⟨W4, hW4⟩ : ∃ W, W = W3.alloc (.cells #[.int .i64 0, .slice none 0 0] 50) := ⟨_, rfl⟩
            obtain ⟨bb, hbb⟩ : ∃ b, b = W3.heap.size := ⟨_, rfl⟩
            rw [← hW4] at F4 hH2 ⊢
            rw [← hbb] at F4 ⊢
            clear hK K hHeld hW4 hbb
            have hHeld := hH2
            clear hH2
            try simp only [Act.put, List.setIfInBounds_toArray, List.set_cons_zero, List.set_cons_succ]
            have hfin := F4.fin ca cb
            obtain ⟨x0, x1, x2, x3⟩ := BoxZ.of (F4.a ba rfl).1
            refine wpAnyH_ready (rs := [6]) (by kernel_rfl) (by simp) ?_
            refine AllReadyH.cons (o := ({ dst := none, op := Op.store 50 (Operand.tmp 11) (Operand.tmp 29), type := 0, pos := "law.go:108", after := #[{ on := 4, ground := Ground.data }, { on := 1, ground := Ground.data }, { on := 3, ground := Ground.chain }, { on := 0, ground := Ground.phase }, { on := 1, ground := Ground.phase }, { on := 2, ground := Ground.textOnly Departure.lateStores }, { on := 3, ground := Ground.textOnly Departure.lateStoresUnsure }, { on := 4, ground := Ground.phase }, { on := 5, ground := Ground.phase }], guard := none } : Oper)) rfl (fun K hK => ?_) AllReadyH.nil
            go_simp
            refine hK.out _ _ ?_ (fun hH2 => ?_)
            · exact HS.out _ (F4.st1 ca)
            clear hK K hHeld
            have hHeld := hH2
            clear hH2
            try simp only [Act.put, List.setIfInBounds_toArray, List.set_cons_zero, List.set_cons_succ]
            obtain ⟨y0, y1, y2, y3⟩ := F4.ahead ca
            refine wpAnyH_ready (rs := [7]) (by kernel_rfl) (by simp) ?_
            refine AllReadyH.cons (o := ({ dst := none, op := Op.store 50 (Operand.tmp 12) (Operand.tmp 31), type := 0, pos := "law.go:108", after := #[{ on := 5, ground := Ground.data }, { on := 3, ground := Ground.data }, { on := 6, ground := Ground.chain }, { on := 0, ground := Ground.phase }, { on := 1, ground := Ground.phase }, { on := 2, ground := Ground.phase }, { on := 3, ground := Ground.phase }, { on := 4, ground := Ground.phase }, { on := 5, ground := Ground.phase }, { on := 6, ground := Ground.phase }], guard := none } : Oper)) rfl (fun K hK => ?_) AllReadyH.nil
            go_simp
            refine hK.out _ _ ?_ (fun hH2 => ?_)
            · exact HS.out _ hfin.bw
            clear hK K hHeld
            have hHeld := hH2
            clear hH2
            try simp only [Act.put, List.setIfInBounds_toArray, List.set_cons_zero, List.set_cons_succ]
            refine wpAnyH_done (by kernel_rfl) ?_ _
            go_wp2_with fail
            go_meet
            exact ⟨ba, bb, ga, gb, ca, cb, rfl, rfl, hfin⟩
          exact AllReadyH.nil
        refine AllReadyH.cons (o := ({ dst := some 12, op := Op.alloc 50, type := 0, pos := "law.go:108", after := #[], guard := none } : Oper)) rfl (fun K hK => ?_) ?_
        · go_simp
          refine hK.out _ _ (HS.out _ (bel_al F2.bw _)) (fun hH2 => ?_)
          have F3 := F2.allocB
          obtain ⟨W3, hW3⟩ : ∃ W, W = W2.alloc (.cells #[.int .i64 0, .slice none 0 0] 50) := ⟨_, rfl⟩
          obtain ⟨bb, hbb⟩ : ∃ b, b = W2.heap.size := ⟨_, rfl⟩
          rw [← hW3] at F3 hH2 ⊢
          rw [← hbb] at F3 ⊢
          clear hK K hHeld hW3 hbb
          have hHeld := hH2
          clear hH2
          try simp only [Act.put, List.setIfInBounds_toArray, List.set_cons_zero, List.set_cons_succ]
          refine wpAnyH_ready (rs := [3]) (by kernel_rfl) (by simp) ?_
          refine AllReadyH.cons (o := ({ dst := some 31, op := Op.call { callee := Callee.value (Operand.func 23), args := #[Operand.tmp 30], argTypes := #[45] }, type := 50, pos := "law.go:108", after := #[{ on := 2, ground := Ground.data }, { on := 1, ground := Ground.chain }], guard := none } : Oper)) rfl (fun K hK => ?_) ?_
          · go_simp
            go_at_call 23
            refine (Hto.out _ _ _ _ _ ku F3.bw (by exact Or.inr ⟨rfl, rfl, rfl, rfl, rfl⟩)).mono ?_
            rintro e W4 ⟨gb, cb, rfl, hf, hb⟩
            try go_simp
            have F4 := F3.callB hf hb
            refine hK.out _ _ (HS.out _ F4.bw) (fun hH2 => ?_)
            clear hK K hHeld hf hb
            have hHeld := hH2
            clear hH2
            try simp only [Act.put, List.setIfInBounds_toArray, List.set_cons_zero, List.set_cons_succ]
            have hfin := F4.fin ca cb
            obtain ⟨x0, x1, x2, x3⟩ := BoxZ.of (F4.a ba rfl).1
            refine wpAnyH_ready (rs := [6]) (by kernel_rfl) (by simp) ?_
            refine AllReadyH.cons (o := ({ dst := none, op := Op.store 50 (Operand.tmp 11) (Operand.tmp 29), type := 0, pos := "law.go:108", after := #[{ on := 4, ground := Ground.data }, { on := 1, ground := Ground.data }, { on := 3, ground := Ground.chain }, { on := 0, ground := Ground.phase }, { on := 1, ground := Ground.phase }, { on := 2, ground := Ground.textOnly Departure.lateStores }, { on := 3, ground := Ground.textOnly Departure.lateStoresUnsure }, { on := 4, ground := Ground.phase }, { on := 5, ground := Ground.phase }], guard := none } : Oper)) rfl (fun K hK => ?_) AllReadyH.nil
            go_simp
            refine hK.out _ _ ?_ (fun hH2 => ?_)
            · exact HS.out _ (F4.st1 ca)
            clear hK K hHeld
            have hHeld := hH2
            clear hH2
            try simp only [Act.put, List.setIfInBounds_toArray, List.set_cons_zero, List.set_cons_succ]
            obtain ⟨y0, y1, y2, y3⟩ := F4.ahead ca
            refine wpAnyH_ready (rs := [7]) (by kernel_rfl) (by simp) ?_
            refine AllReadyH.cons (o := ({ dst := none, op := Op.store 50 (Operand.tmp 12) (Operand.tmp 31), type := 0, pos := "law.go:108", after := #[{ on := 5, ground := Ground.data }, { on := 3, ground := Ground.data }, { on := 6, ground := Ground.chain }, { on := 0, ground := Ground.phase }, { on := 1, ground := Ground.phase }, { on := 2, ground := Ground.phase }, { on := 3, ground := Ground.phase }, { on := 4, ground := Ground.phase }, { on := 5, ground := Ground.phase }, { on := 6, ground := Ground.phase }], guard := none } : Oper)) rfl (fun K hK => ?_) AllReadyH.nil
            go_simp
            refine hK.out _ _ ?_ (fun hH2 => ?_)
            · exact HS.out _ hfin.bw
            clear hK K hHeld
            have hHeld := hH2
            clear hH2
            try simp only [Act.put, List.setIfInBounds_toArray, List.set_cons_zero, List.set_cons_succ]
            refine wpAnyH_done (by kernel_rfl) ?_ _
            go_wp2_with fail
            go_meet
            exact ⟨ba, bb, ga, gb, ca, cb, rfl, rfl, hfin⟩
          exact AllReadyH.nil
        exact AllReadyH.nil
      refine AllReadyH.cons (o := ({ dst := some 12, op := Op.alloc 50, type := 0, pos := "law.go:108", after := #[], guard := none } : Oper)) rfl (fun K hK => ?_) ?_
      · go_simp
        refine hK.out _ _ (HS.out _ (bel_al F1.bw _)) (fun hH2 => ?_)
        have F2 := F1.allocB
        obtain ⟨W2, hW2⟩ : ∃ W, W = W1.alloc (.cells #[.int .i64 0, .slice none 0 0] 50) := ⟨_, rfl⟩
        obtain ⟨bb, hbb⟩ : ∃ b, b = W1.heap.size := ⟨_, rfl⟩
        rw [← hW2] at F2 hH2 ⊢
        rw [← hbb] at F2 ⊢
        clear hK K hHeld hW2 hbb
        have hHeld := hH2
        clear hH2
        try simp only [Act.put, List.setIfInBounds_toArray, List.set_cons_zero, List.set_cons_succ]
        refine wpAnyH_ready (rs := [3, 4]) (by kernel_rfl) (by simp) ?_
        refine AllReadyH.cons (o := ({ dst := some 31, op := Op.call { callee := Callee.value (Operand.func 23), args := #[Operand.tmp 30], argTypes := #[45] }, type := 50, pos := "law.go:108", after := #[{ on := 2, ground := Ground.data }, { on := 1, ground := Ground.chain }], guard := none } : Oper)) rfl (fun K hK => ?_) ?_
        · go_simp
          go_at_call 23
          refine (Hto.out _ _ _ _ _ ku F2.bw (by exact Or.inr ⟨rfl, rfl, rfl, rfl, rfl⟩)).mono ?_
          rintro e W3 ⟨gb, cb, rfl, hf, hb⟩
          try go_simp
          have F3 := F2.callB hf hb
          refine hK.out _ _ (HS.out _ F3.bw) (fun hH2 => ?_)
          clear hK K hHeld hf hb
          have hHeld := hH2
          clear hH2
          try simp only [Act.put, List.setIfInBounds_toArray, List.set_cons_zero, List.set_cons_succ]
          refine wpAnyH_ready (rs := [4]) (by kernel_rfl) (by simp) ?_
          refine AllReadyH.cons (o := ({ dst := some 11, op := Op.alloc 50, type := 0, pos := "law.go:108", after := #[], guard := none } : Oper)) rfl (fun K hK => ?_) ?_
          · go_simp
            refine hK.out _ _ (HS.out _ (bel_al F3.bw _)) (fun hH2 => ?_)
            have F4 := F3.allocA
            obtain ⟨W4, hW4⟩ : ∃ W, W = W3.alloc (.cells #[.int .i64 0, .slice none 0 0] 50) := ⟨_, rfl⟩
            obtain ⟨ba, hba⟩ : ∃ b, b = W3.heap.size := ⟨_, rfl⟩
            rw [← hW4] at F4 hH2 ⊢
            rw [← hba] at F4 ⊢
            clear hK K hHeld hW4 hba
            have hHeld := hH2
            clear hH2
            try simp only [Act.put, List.setIfInBounds_toArray, List.set_cons_zero, List.set_cons_succ]
            have hfin := F4.fin ca cb
            obtain ⟨x0, x1, x2, x3⟩ := BoxZ.of (F4.a ba rfl).1
            refine wpAnyH_ready (rs := [6]) (by kernel_rfl) (by simp) ?_
            refine AllReadyH.cons (o := ({ dst := none, op := Op.store 50 (Operand.tmp 11) (Operand.tmp 29), type := 0, pos := "law.go:108", after := #[{ on := 4, ground := Ground.data }, { on := 1, ground := Ground.data }, { on := 3, ground := Ground.chain }, { on := 0, ground := Ground.phase }, { on := 1, ground := Ground.phase }, { on := 2, ground := Ground.textOnly Departure.lateStores }, { on := 3, ground := Ground.textOnly Departure.lateStoresUnsure }, { on := 4, ground := Ground.phase }, { on := 5, ground := Ground.phase }], guard := none } : Oper)) rfl (fun K hK => ?_) AllReadyH.nil
            go_simp
            refine hK.out _ _ ?_ (fun hH2 => ?_)
            · exact HS.out _ (F4.st1 ca)
            clear hK K hHeld
            have hHeld := hH2
            clear hH2
            try simp only [Act.put, List.setIfInBounds_toArray, List.set_cons_zero, List.set_cons_succ]
            obtain ⟨y0, y1, y2, y3⟩ := F4.ahead ca
            refine wpAnyH_ready (rs := [7]) (by kernel_rfl) (by simp) ?_
            refine AllReadyH.cons (o := ({ dst := none, op := Op.store 50 (Operand.tmp 12) (Operand.tmp 31), type := 0, pos := "law.go:108", after := #[{ on := 5, ground := Ground.data }, { on := 3, ground := Ground.data }, { on := 6, ground := Ground.chain }, { on := 0, ground := Ground.phase }, { on := 1, ground := Ground.phase }, { on := 2, ground := Ground.phase }, { on := 3, ground := Ground.phase }, { on := 4, ground := Ground.phase }, { on := 5, ground := Ground.phase }, { on := 6, ground := Ground.phase }], guard := none } : Oper)) rfl (fun K hK => ?_) AllReadyH.nil
            go_simp
            refine hK.out _ _ ?_ (fun hH2 => ?_)
            · exact HS.out _ hfin.bw
            clear hK K hHeld
            have hHeld := hH2
            clear hH2
            try simp only [Act.put, List.setIfInBounds_toArray, List.set_cons_zero, List.set_cons_succ]
            refine wpAnyH_done (by kernel_rfl) ?_ _
            go_wp2_with fail
            go_meet
            exact ⟨ba, bb, ga, gb, ca, cb, rfl, rfl, hfin⟩
          exact AllReadyH.nil
        refine AllReadyH.cons (o := ({ dst := some 11, op := Op.alloc 50, type := 0, pos := "law.go:108", after := #[], guard := none } : Oper)) rfl (fun K hK => ?_) ?_
        · go_simp
          refine hK.out _ _ (HS.out _ (bel_al F2.bw _)) (fun hH2 => ?_)
          have F3 := F2.allocA
          obtain ⟨W3, hW3⟩ : ∃ W, W = W2.alloc (.cells #[.int .i64 0, .slice none 0 0] 50) := ⟨_, rfl⟩
          obtain ⟨ba, hba⟩ : ∃ b, b = W2.heap.size := ⟨_, rfl⟩
          rw [← hW3] at F3 hH2 ⊢
          rw [← hba] at F3 ⊢
          clear hK K hHeld hW3 hba
          have hHeld := hH2
          clear hH2
          try simp only [Act.put, List.setIfInBounds_toArray, List.set_cons_zero, List.set_cons_succ]
          refine wpAnyH_ready (rs := [3]) (by kernel_rfl) (by simp) ?_
          refine AllReadyH.cons (o := ({ dst := some 31, op := Op.call { callee := Callee.value (Operand.func 23), args := #[Operand.tmp 30], argTypes := #[45] }, type := 50, pos := "law.go:108", after := #[{ on := 2, ground := Ground.data }, { on := 1, ground := Ground.chain }], guard := none } : Oper)) rfl (fun K hK => ?_) ?_
          · go_simp
            go_at_call 23
            refine (Hto.out _ _ _ _ _ ku F3.bw (by exact Or.inr ⟨rfl, rfl, rfl, rfl, rfl⟩)).mono ?_
            rintro e W4 ⟨gb, cb, rfl, hf, hb⟩
            try go_simp
            have F4 := F3.callB hf hb
            refine hK.out _ _ (HS.out _ F4.bw) (fun hH2 => ?_)
            clear hK K hHeld hf hb
            have hHeld := hH2
            clear hH2
            try simp only [Act.put, List.setIfInBounds_toArray, List.set_cons_zero, List.set_cons_succ]
            have hfin := F4.fin ca cb
            obtain ⟨x0, x1, x2, x3⟩ := BoxZ.of (F4.a ba rfl).1
            refine wpAnyH_ready (rs := [6]) (by kernel_rfl) (by simp) ?_
            refine AllReadyH.cons (o := ({ dst := none, op := Op.store 50 (Operand.tmp 11) (Operand.tmp 29), type := 0, pos := "law.go:108", after := #[{ on := 4, ground := Ground.data }, { on := 1, ground := Ground.data }, { on := 3, ground := Ground.chain }, { on := 0, ground := Ground.phase }, { on := 1, ground := Ground.phase }, { on := 2, ground := Ground.textOnly Departure.lateStores }, { on := 3, ground := Ground.textOnly Departure.lateStoresUnsure }, { on := 4, ground := Ground.phase }, { on := 5, ground := Ground.phase }], guard := none } : Oper)) rfl (fun K hK => ?_) AllReadyH.nil
            go_simp
            refine hK.out _ _ ?_ (fun hH2 => ?_)
            · exact HS.out _ (F4.st1 ca)
            clear hK K hHeld
            have hHeld := hH2
            clear hH2
            try simp only [Act.put, List.setIfInBounds_toArray, List.set_cons_zero, List.set_cons_succ]
            obtain ⟨y0, y1, y2, y3⟩ := F4.ahead ca
            refine wpAnyH_ready (rs := [7]) (by kernel_rfl) (by simp) ?_
            refine AllReadyH.cons (o := ({ dst := none, op := Op.store 50 (Operand.tmp 12) (Operand.tmp 31), type := 0, pos := "law.go:108", after := #[{ on := 5, ground := Ground.data }, { on := 3, ground := Ground.data }, { on := 6, ground := Ground.chain }, { on := 0, ground := Ground.phase }, { on := 1, ground := Ground.phase }, { on := 2, ground := Ground.phase }, { on := 3, ground := Ground.phase }, { on := 4, ground := Ground.phase }, { on := 5, ground := Ground.phase }, { on := 6, ground := Ground.phase }], guard := none } : Oper)) rfl (fun K hK => ?_) AllReadyH.nil
            go_simp
            refine hK.out _ _ ?_ (fun hH2 => ?_)
            · exact HS.out _ hfin.bw
            clear hK K hHeld
            have hHeld := hH2
            clear hH2
            try simp only [Act.put, List.setIfInBounds_toArray, List.set_cons_zero, List.set_cons_succ]
            refine wpAnyH_done (by kernel_rfl) ?_ _
            go_wp2_with fail
            go_meet
            exact ⟨ba, bb, ga, gb, ca, cb, rfl, rfl, hfin⟩
          exact AllReadyH.nil
        exact AllReadyH.nil
      exact AllReadyH.nil
    refine AllReadyH.cons (o := ({ dst := some 11, op := Op.alloc 50, type := 0, pos := "law.go:108", after := #[], guard := none } : Oper)) rfl (fun K hK => ?_) ?_
    · go_simp
      refine hK.out _ _ (HS.out _ (bel_al F0.bw _)) (fun hH2 => ?_)
      have F1 := F0.allocA
      obtain ⟨W1, hW1⟩ : ∃ W, W = W0.alloc (.cells #[.int .i64 0, .slice none 0 0] 50) := ⟨_, rfl⟩
      obtain ⟨ba, hba⟩ : ∃ b, b = W0.heap.size := ⟨_, rfl⟩
      rw [← hW1] at F1 hH2 ⊢
      rw [← hba] at F1 ⊢
      clear hK K hHeld hW1 hba
      have hHeld := hH2
      clear hH2
      try simp only [Act.put, List.setIfInBounds_toArray, List.set_cons_zero, List.set_cons_succ]
      refine wpAnyH_ready (rs := [1, 5]) (by kernel_rfl) (by simp) ?_
      refine AllReadyH.cons (o := ({ dst := some 29, op := Op.call { callee := Callee.value (Operand.func 23), args := #[Operand.tmp 28], argTypes := #[45] }, type := 50, pos := "law.go:108", after := #[{ on := 0, ground := Ground.data }], guard := none } : Oper)) rfl (fun K hK => ?_) ?_
      · go_simp
        go_at_call 23
        refine (Hto.out _ _ _ _ _ kt F1.bw (by exact Or.inl ⟨rfl, rfl, rfl, rfl, rfl⟩)).mono ?_
        rintro e W2 ⟨ga, ca, rfl, hf, hb⟩
        try go_simp
        have F2 := F1.callA hf hb
        refine hK.out _ _ (HS.out _ F2.bw) (fun hH2 => ?_)
        clear hK K hHeld hf hb
        have hHeld := hH2
        clear hH2
        try simp only [Act.put, List.setIfInBounds_toArray, List.set_cons_zero, List.set_cons_succ]
        refine wpAnyH_ready (rs := [3, 5]) (by kernel_rfl) (by simp) ?_
        refine AllReadyH.cons (o := ({ dst := some 31, op := Op.call { callee := Callee.value (Operand.func 23), args := #[Operand.tmp 30], argTypes := #[45] }, type := 50, pos := "law.go:108", after := #[{ on := 2, ground := Ground.data }, { on := 1, ground := Ground.chain }], guard := none } : Oper)) rfl (fun K hK => ?_) ?_
        · go_simp
          go_at_call 23
          refine (Hto.out _ _ _ _ _ ku F2.bw (by exact Or.inr ⟨rfl, rfl, rfl, rfl, rfl⟩)).mono ?_
          rintro e W3 ⟨gb, cb, rfl, hf, hb⟩
          try go_simp
          have F3 := F2.callB hf hb
          refine hK.out _ _ (HS.out _ F3.bw) (fun hH2 => ?_)
          clear hK K hHeld hf hb
          have hHeld := hH2
          clear hH2
          try simp only [Act.put, List.setIfInBounds_toArray, List.set_cons_zero, List.set_cons_succ]
          refine wpAnyH_ready (rs := [5]) (by kernel_rfl) (by simp) ?_
          refine AllReadyH.cons (o := ({ dst := some 12, op := Op.alloc 50, type := 0, pos := "law.go:108", after := #[], guard := none } : Oper)) rfl (fun K hK => ?_) ?_
          · go_simp
            refine hK.out _ _ (HS.out _ (bel_al F3.bw _)) (fun hH2 => ?_)
            have F4 := F3.allocB
            obtain ⟨W4, hW4⟩ : ∃ W, W = W3.alloc (.cells #[.int .i64 0, .slice none 0 0] 50) := ⟨_, rfl⟩
            obtain ⟨bb, hbb⟩ : ∃ b, b = W3.heap.size := ⟨_, rfl⟩
            rw [← hW4] at F4 hH2 ⊢
            rw [← hbb] at F4 ⊢
            clear hK K hHeld hW4 hbb
            have hHeld := hH2
            clear hH2
            try simp only [Act.put, List.setIfInBounds_toArray, List.set_cons_zero, List.set_cons_succ]
            have hfin := F4.fin ca cb
            obtain ⟨x0, x1, x2, x3⟩ := BoxZ.of (F4.a ba rfl).1
            refine wpAnyH_ready (rs := [6]) (by kernel_rfl) (by simp) ?_
            refine AllReadyH.cons (o := ({ dst := none, op := Op.store 50 (Operand.tmp 11) (Operand.tmp 29), type := 0, pos := "law.go:108", after := #[{ on := 4, ground := Ground.data }, { on := 1, ground := Ground.data }, { on := 3, ground := Ground.chain }, { on := 0, ground := Ground.phase }, { on := 1, ground := Ground.phase }, { on := 2, ground := Ground.textOnly Departure.lateStores }, { on := 3, ground := Ground.textOnly Departure.lateStoresUnsure }, { on := 4, ground := Ground.phase }, { on := 5, ground := Ground.phase }], guard := none } : Oper)) rfl (fun K hK => ?_) AllReadyH.nil
            go_simp
            refine hK.out _ _ ?_ (fun hH2 => ?_)
            · exact HS.out _ (F4.st1 ca)
            clear hK K hHeld
            have hHeld := hH2
            clear hH2
            try simp only [Act.put, List.setIfInBounds_toArray, List.set_cons_zero, List.set_cons_succ]
            obtain ⟨y0, y1, y2, y3⟩ := F4.ahead ca
            refine wpAnyH_ready (rs := [7]) (by kernel_rfl) (by simp) ?_
            refine AllReadyH.cons (o := ({ dst := none, op := Op.store 50 (Operand.tmp 12) (Operand.tmp 31), type := 0, pos := "law.go:108", after := #[{ on := 5, ground := Ground.data }, { on := 3, ground := Ground.data }, { on := 6, ground := Ground.chain }, { on := 0, ground := Ground.phase }, { on := 1, ground := Ground.phase }, { on := 2, ground := Ground.phase }, { on := 3, ground := Ground.phase }, { on := 4, ground := Ground.phase }, { on := 5, ground := Ground.phase }, { on := 6, ground := Ground.phase }], guard := none } : Oper)) rfl (fun K hK => ?_) AllReadyH.nil
            go_simp
            refine hK.out _ _ ?_ (fun hH2 => ?_)
            · exact HS.out _ hfin.bw
            clear hK K hHeld
            have hHeld := hH2
            clear hH2
            try simp only [Act.put, List.setIfInBounds_toArray, List.set_cons_zero, List.set_cons_succ]
            refine wpAnyH_done (by kernel_rfl) ?_ _
            go_wp2_with fail
            go_meet
            exact ⟨ba, bb, ga, gb, ca, cb, rfl, rfl, hfin⟩
          exact AllReadyH.nil
        refine AllReadyH.cons (o := ({ dst := some 12, op := Op.alloc 50, type := 0, pos := "law.go:108", after := #[], guard := none } : Oper)) rfl (fun K hK => ?_) ?_
        · go_simp
          refine hK.out _ _ (HS.out _ (bel_al F2.bw _)) (fun hH2 => ?_)
          have F3 := F2.allocB
          obtain ⟨W3, hW3⟩ : ∃ W, W = W2.alloc (.cells #[.int .i64 0, .slice none 0 0] 50) := ⟨_, rfl⟩
          obtain ⟨bb, hbb⟩ : ∃ b, b = W2.heap.size := ⟨_, rfl⟩
          rw [← hW3] at F3 hH2 ⊢
          rw [← hbb] at F3 ⊢
          clear hK K hHeld hW3 hbb
          have hHeld := hH2
          clear hH2
          try simp only [Act.put, List.setIfInBounds_toArray, List.set_cons_zero, List.set_cons_succ]
          refine wpAnyH_ready (rs := [3]) (by kernel_rfl) (by simp) ?_
          refine AllReadyH.cons (o := ({ dst := some 31, op := Op.call { callee := Callee.value (Operand.func 23), args := #[Operand.tmp 30], argTypes := #[45] }, type := 50, pos := "law.go:108", after := #[{ on := 2, ground := Ground.data }, { on := 1, ground := Ground.chain }], guard := none } : Oper)) rfl (fun K hK => ?_) ?_
          · go_simp
            go_at_call 23
            refine (Hto.out _ _ _ _ _ ku F3.bw (by exact Or.inr ⟨rfl, rfl, rfl, rfl, rfl⟩)).mono ?_
            rintro e W4 ⟨gb, cb, rfl, hf, hb⟩
            try go_simp
            have F4 := F3.callB hf hb
            refine hK.out _ _ (HS.out _ F4.bw) (fun hH2 => ?_)
            clear hK K hHeld hf hb
            have hHeld := hH2
            clear hH2
            try simp only [Act.put, List.setIfInBounds_toArray, List.set_cons_zero, List.set_cons_succ]
            have hfin := F4.fin ca cb
            obtain ⟨x0, x1, x2, x3⟩ := BoxZ.of (F4.a ba rfl).1
            refine wpAnyH_ready (rs := [6]) (by kernel_rfl) (by simp) ?_
            refine AllReadyH.cons (o := ({ dst := none, op := Op.store 50 (Operand.tmp 11) (Operand.tmp 29), type := 0, pos := "law.go:108", after := #[{ on := 4, ground := Ground.data }, { on := 1, ground := Ground.data }, { on := 3, ground := Ground.chain }, { on := 0, ground := Ground.phase }, { on := 1, ground := Ground.phase }, { on := 2, ground := Ground.textOnly Departure.lateStores }, { on := 3, ground := Ground.textOnly Departure.lateStoresUnsure }, { on := 4, ground := Ground.phase }, { on := 5, ground := Ground.phase }], guard := none } : Oper)) rfl (fun K hK => ?_) AllReadyH.nil
            go_simp
            refine hK.out _ _ ?_ (fun hH2 => ?_)
            · exact HS.out _ (F4.st1 ca)
            clear hK K hHeld
            have hHeld := hH2
            clear hH2
            try simp only [Act.put, List.setIfInBounds_toArray, List.set_cons_zero, List.set_cons_succ]
            obtain ⟨y0, y1, y2, y3⟩ := F4.ahead ca
            refine wpAnyH_ready (rs := [7]) (by kernel_rfl) (by simp) ?_
            refine AllReadyH.cons (o := ({ dst := none, op := Op.store 50 (Operand.tmp 12) (Operand.tmp 31), type := 0, pos := "law.go:108", after := #[{ on := 5, ground := Ground.data }, { on := 3, ground := Ground.data }, { on := 6, ground := Ground.chain }, { on := 0, ground := Ground.phase }, { on := 1, ground := Ground.phase }, { on := 2, ground := Ground.phase }, { on := 3, ground := Ground.phase }, { on := 4, ground := Ground.phase }, { on := 5, ground := Ground.phase }, { on := 6, ground := Ground.phase }], guard := none } : Oper)) rfl (fun K hK => ?_) AllReadyH.nil
            go_simp
            refine hK.out _ _ ?_ (fun hH2 => ?_)
            · exact HS.out _ hfin.bw
            clear hK K hHeld
            have hHeld := hH2
            clear hH2
            try simp only [Act.put, List.setIfInBounds_toArray, List.set_cons_zero, List.set_cons_succ]
            refine wpAnyH_done (by kernel_rfl) ?_ _
            go_wp2_with fail
            go_meet
            exact ⟨ba, bb, ga, gb, ca, cb, rfl, rfl, hfin⟩
          exact AllReadyH.nil
        exact AllReadyH.nil
      refine AllReadyH.cons (o := ({ dst := some 12, op := Op.alloc 50, type := 0, pos := "law.go:108", after := #[], guard := none } : Oper)) rfl (fun K hK => ?_) ?_
      · go_simp
        refine hK.out _ _ (HS.out _ (bel_al F1.bw _)) (fun hH2 => ?_)
        have F2 := F1.allocB
        obtain ⟨W2, hW2⟩ : ∃ W, W = W1.alloc (.cells #[.int .i64 0, .slice none 0 0] 50) := ⟨_, rfl⟩
        obtain ⟨bb, hbb⟩ : ∃ b, b = W1.heap.size := ⟨_, rfl⟩
        rw [← hW2] at F2 hH2 ⊢
        rw [← hbb] at F2 ⊢
        clear hK K hHeld hW2 hbb
        have hHeld := hH2
        clear hH2
        try simp only [Act.put, List.setIfInBounds_toArray, List.set_cons_zero, List.set_cons_succ]
        refine wpAnyH_ready (rs := [1]) (by kernel_rfl) (by simp) ?_
        refine AllReadyH.cons (o := ({ dst := some 29, op := Op.call { callee := Callee.value (Operand.func 23), args := #[Operand.tmp 28], argTypes := #[45] }, type := 50, pos := "law.go:108", after := #[{ on := 0, ground := Ground.data }], guard := none } : Oper)) rfl (fun K hK => ?_) ?_
        · go_simp
          go_at_call 23
          refine (Hto.out _ _ _ _ _ kt F2.bw (by exact Or.inl ⟨rfl, rfl, rfl, rfl, rfl⟩)).mono ?_
          rintro e W3 ⟨ga, ca, rfl, hf, hb⟩
          try go_simp
          have F3 := F2.callA hf hb
          refine hK.out _ _ (HS.out _ F3.bw) (fun hH2 => ?_)
          clear hK K hHeld hf hb
          have hHeld := hH2
          clear hH2
          try simp only [Act.put, List.setIfInBounds_toArray, List.set_cons_zero, List.set_cons_succ]
          refine wpAnyH_ready (rs := [3]) (by kernel_rfl) (by simp) ?_
          refine AllReadyH.cons (o := ({ dst := some 31, op := Op.call { callee := Callee.value (Operand.func 23), args := #[Operand.tmp 30], argTypes := #[45] }, type := 50, pos := "law.go:108", after := #[{ on := 2, ground := Ground.data }, { on := 1, ground := Ground.chain }], guard := none } : Oper)) rfl (fun K hK => ?_) ?_
          · go_simp
            go_at_call 23
            refine (Hto.out _ _ _ _ _ ku F3.bw (by exact Or.inr ⟨rfl, rfl, rfl, rfl, rfl⟩)).mono ?_
            rintro e W4 ⟨gb, cb, rfl, hf, hb⟩
            try go_simp
            have F4 := F3.callB hf hb
            refine hK.out _ _ (HS.out _ F4.bw) (fun hH2 => ?_)
            clear hK K hHeld hf hb
            have hHeld := hH2
            clear hH2
            try simp only [Act.put, List.setIfInBounds_toArray, List.set_cons_zero, List.set_cons_succ]
            have hfin := F4.fin ca cb
            obtain ⟨x0, x1, x2, x3⟩ := BoxZ.of (F4.a ba rfl).1
            refine wpAnyH_ready (rs := [6]) (by kernel_rfl) (by simp) ?_
            refine AllReadyH.cons (o := ({ dst := none, op := Op.store 50 (Operand.tmp 11) (Operand.tmp 29), type := 0, pos := "law.go:108", after := #[{ on := 4, ground := Ground.data }, { on := 1, ground := Ground.data }, { on := 3, ground := Ground.chain }, { on := 0, ground := Ground.phase }, { on := 1, ground := Ground.phase }, { on := 2, ground := Ground.textOnly Departure.lateStores }, { on := 3, ground := Ground.textOnly Departure.lateStoresUnsure }, { on := 4, ground := Ground.phase }, { on := 5, ground := Ground.phase }], guard := none } : Oper)) rfl (fun K hK => ?_) AllReadyH.nil
            go_simp
            refine hK.out _ _ ?_ (fun hH2 => ?_)
            · exact HS.out _ (F4.st1 ca)
            clear hK K hHeld
            have hHeld := hH2
            clear hH2
            try simp only [Act.put, List.setIfInBounds_toArray, List.set_cons_zero, List.set_cons_succ]
            obtain ⟨y0, y1, y2, y3⟩ := F4.ahead ca
            refine wpAnyH_ready (rs := [7]) (by kernel_rfl) (by simp) ?_
            refine AllReadyH.cons (o := ({ dst := none, op := Op.store 50 (Operand.tmp 12) (Operand.tmp 31), type := 0, pos := "law.go:108", after := #[{ on := 5, ground := Ground.data }, { on := 3, ground := Ground.data }, { on := 6, ground := Ground.chain }, { on := 0, ground := Ground.phase }, { on := 1, ground := Ground.phase }, { on := 2, ground := Ground.phase }, { on := 3, ground := Ground.phase }, { on := 4, ground := Ground.phase }, { on := 5, ground := Ground.phase }, { on := 6, ground := Ground.phase }], guard := none } : Oper)) rfl (fun K hK => ?_) AllReadyH.nil
            go_simp
            refine hK.out _ _ ?_ (fun hH2 => ?_)
            · exact HS.out _ hfin.bw
            clear hK K hHeld
            have hHeld := hH2
            clear hH2
            try simp only [Act.put, List.setIfInBounds_toArray, List.set_cons_zero, List.set_cons_succ]
            refine wpAnyH_done (by kernel_rfl) ?_ _
            go_wp2_with fail
            go_meet
            exact ⟨ba, bb, ga, gb, ca, cb, rfl, rfl, hfin⟩
          exact AllReadyH.nil
        exact AllReadyH.nil
      exact AllReadyH.nil
    refine AllReadyH.cons (o := ({ dst := some 12, op := Op.alloc 50, type := 0, pos := "law.go:108", after := #[], guard := none } : Oper)) rfl (fun K hK => ?_) ?_
    · go_simp
      refine hK.out _ _ (HS.out _ (bel_al F0.bw _)) (fun hH2 => ?_)
      have F1 := F0.allocB
      obtain ⟨W1, hW1⟩ : ∃ W, W = W0.alloc (.cells #[.int .i64 0, .slice none 0 0] 50) := ⟨_, rfl⟩
      obtain ⟨bb, hbb⟩ : ∃ b, b = W0.heap.size := ⟨_, rfl⟩
      rw [← hW1] at F1 hH2 ⊢
      rw [← hbb] at F1 ⊢
      clear hK K hHeld hW1 hbb
      have hHeld := hH2
      clear hH2
      try simp only [Act.put, List.setIfInBounds_toArray, List.set_cons_zero, List.set_cons_succ]
      refine wpAnyH_ready (rs := [1, 4]) (by kernel_rfl) (by simp) ?_
      refine AllReadyH.cons (o := ({ dst := some 29, op := Op.call { callee := Callee.value (Operand.func 23), args := #[Operand.tmp 28], argTypes := #[45] }, type := 50, pos := "law.go:108", after := #[{ on := 0, ground := Ground.data }], guard := none } : Oper)) rfl (fun K hK => ?_) ?_
      · go_simp
        go_at_call 23
        refine (Hto.out _ _ _ _ _ kt F1.bw (by exact Or.inl ⟨rfl, rfl, rfl, rfl, rfl⟩)).mono ?_
        rintro e W2 ⟨ga, ca, rfl, hf, hb⟩
        try go_simp
        have F2 := F1.callA hf hb
        refine hK.out _ _ (HS.out _ F2.bw) (fun hH2 => ?_)
        clear hK K hHeld hf hb
        have hHeld := hH2
        clear hH2
        try simp only [Act.put, List.setIfInBounds_toArray, List.set_cons_zero, List.set_cons_succ]
        refine wpAnyH_ready (rs := [3, 4]) (by kernel_rfl) (by simp) ?_
        refine AllReadyH.cons (o := ({ dst := some 31, op := Op.call { callee := Callee.value (Operand.func 23), args := #[Operand.tmp 30], argTypes := #[45] }, type := 50, pos := "law.go:108", after := #[{ on := 2, ground := Ground.data }, { on := 1, ground := Ground.chain }], guard := none } : Oper)) rfl (fun K hK => ?_) ?_
        · go_simp
          go_at_call 23
          refine (Hto.out _ _ _ _ _ ku F2.bw (by exact Or.inr ⟨rfl, rfl, rfl, rfl, rfl⟩)).mono ?_
          rintro e W3 ⟨gb, cb, rfl, hf, hb⟩
          try go_simp
          have F3 := F2.callB hf hb
          refine hK.out _ _ (HS.out _ F3.bw) (fun hH2 => ?_)
          clear hK K hHeld hf hb
          have hHeld := hH2
          clear hH2
          try simp only [Act.put, List.setIfInBounds_toArray, List.set_cons_zero, List.set_cons_succ]
          refine wpAnyH_ready (rs := [4]) (by kernel_rfl) (by simp) ?_
          refine AllReadyH.cons (o := ({ dst := some 11, op := Op.alloc 50, type := 0, pos := "law.go:108", after := #[], guard := none } : Oper)) rfl (fun K hK => ?_) ?_
          · go_simp
            refine hK.out _ _ (HS.out _ (bel_al F3.bw _)) (fun hH2 => ?_)
            have F4 := F3.allocA
            obtain ⟨W4, hW4⟩ : ∃ W, W = W3.alloc (.cells #[.int .i64 0, .slice none 0 0] 50) := ⟨_, rfl⟩
            obtain ⟨ba, hba⟩ : ∃ b, b = W3.heap.size := ⟨_, rfl⟩
            rw [← hW4] at F4 hH2 ⊢
            rw [← hba] at F4 ⊢
            clear hK K hHeld hW4 hba
            have hHeld := hH2
            clear hH2
            try simp only [Act.put, List.setIfInBounds_toArray, List.set_cons_zero, List.set_cons_succ]
            have hfin := F4.fin ca cb
            obtain ⟨x0, x1, x2, x3⟩ := BoxZ.of (F4.a ba rfl).1
            refine wpAnyH_ready (rs := [6]) (by kernel_rfl) (by simp) ?_
            refine AllReadyH.cons (o := ({ dst := none, op := Op.store 50 (Operand.tmp 11) (Operand.tmp 29), type := 0, pos := "law.go:108", after := #[{ on := 4, ground := Ground.data }, { on := 1, ground := Ground.data }, { on := 3, ground := Ground.chain }, { on := 0, ground := Ground.phase }, { on := 1, ground := Ground.phase }, { on := 2, ground := Ground.textOnly Departure.lateStores }, { on := 3, ground := Ground.textOnly Departure.lateStoresUnsure }, { on := 4, ground := Ground.phase }, { on := 5, ground := Ground.phase }], guard := none } : Oper)) rfl (fun K hK => ?_) AllReadyH.nil
            go_simp
            refine hK.out _ _ ?_ (fun hH2 => ?_)
            · exact HS.out _ (F4.st1 ca)
            clear hK K hHeld
            have hHeld := hH2
            clear hH2
            try simp only [Act.put, List.setIfInBounds_toArray, List.set_cons_zero, List.set_cons_succ]
            obtain ⟨y0, y1, y2, y3⟩ := F4.ahead ca
            refine wpAnyH_ready (rs := [7]) (by kernel_rfl) (by simp) ?_
            refine AllReadyH.cons (o := ({ dst := none, op := Op.store 50 (Operand.tmp 12) (Operand.tmp 31), type := 0, pos := "law.go:108", after := #[{ on := 5, ground := Ground.data }, { on := 3, ground := Ground.data }, { on := 6, ground := Ground.chain }, { on := 0, ground := Ground.phase }, { on := 1, ground := Ground.phase }, { on := 2, ground := Ground.phase }, { on := 3, ground := Ground.phase }, { on := 4, ground := Ground.phase }, { on := 5, ground := Ground.phase }, { on := 6, ground := Ground.phase }], guard := none } : Oper)) rfl (fun K hK => ?_) AllReadyH.nil
            go_simp
            refine hK.out _ _ ?_ (fun hH2 => ?_)
            · exact HS.out _ hfin.bw
            clear hK K hHeld
            have hHeld := hH2
            clear hH2
            try simp only [Act.put, List.setIfInBounds_toArray, List.set_cons_zero, List.set_cons_succ]
            refine wpAnyH_done (by kernel_rfl) ?_ _
            go_wp2_with fail
            go_meet
            exact ⟨ba, bb, ga, gb, ca, cb, rfl, rfl, hfin⟩
          exact AllReadyH.nil
        refine AllReadyH.cons (o := ({ dst := some 11, op := Op.alloc 50, type := 0, pos := "law.go:108", after := #[], guard := none } : Oper)) rfl (fun K hK => ?_) ?_
        · go_simp
          refine hK.out _ _ (HS.out _ (bel_al F2.bw _)) (fun hH2 => ?_)
          have F3 := F2.allocA
          obtain ⟨W3, hW3⟩ : ∃ W, W = W2.alloc (.cells #[.int .i64 0, .slice none 0 0] 50) := ⟨_, rfl⟩
          obtain ⟨ba, hba⟩ : ∃ b, b = W2.heap.size := ⟨_, rfl⟩
          rw [← hW3] at F3 hH2 ⊢
          rw [← hba] at F3 ⊢
          clear hK K hHeld hW3 hba
          have hHeld := hH2
          clear hH2
          try simp only [Act.put, List.setIfInBounds_toArray, List.set_cons_zero, List.set_cons_succ]
          refine wpAnyH_ready (rs := [3]) (by kernel_rfl) (by simp) ?_
          refine AllReadyH.cons (o := ({ dst := some 31, op := Op.call { callee := Callee.value (Operand.func 23), args := #[Operand.tmp 30], argTypes := #[45] }, type := 50, pos := "law.go:108", after := #[{ on := 2, ground := Ground.data }, { on := 1, ground := Ground.chain }], guard := none } : Oper)) rfl (fun K hK => ?_) ?_
          · go_simp
            go_at_call 23
            refine (Hto.out _ _ _ _ _ ku F3.bw (by exact Or.inr ⟨rfl, rfl, rfl, rfl, rfl⟩)).mono ?_
            rintro e W4 ⟨gb, cb, rfl, hf, hb⟩
            try go_simp
            have F4 := F3.callB hf hb
            refine hK.out _ _ (HS.out _ F4.bw) (fun hH2 => ?_)
            clear hK K hHeld hf hb
            have hHeld := hH2
            clear hH2
            try simp only [Act.put, List.setIfInBounds_toArray, List.set_cons_zero, List.set_cons_succ]
            have hfin := F4.fin ca cb
            obtain ⟨x0, x1, x2, x3⟩ := BoxZ.of (F4.a ba rfl).1
            refine wpAnyH_ready (rs := [6]) (by kernel_rfl) (by simp) ?_
            refine AllReadyH.cons (o := ({ dst := none, op := Op.store 50 (Operand.tmp 11) (Operand.tmp 29), type := 0, pos := "law.go:108", after := #[{ on := 4, ground := Ground.data }, { on := 1, ground := Ground.data }, { on := 3, ground := Ground.chain }, { on := 0, ground := Ground.phase }, { on := 1, ground := Ground.phase }, { on := 2, ground := Ground.textOnly Departure.lateStores }, { on := 3, ground := Ground.textOnly Departure.lateStoresUnsure }, { on := 4, ground := Ground.phase }, { on := 5, ground := Ground.phase }], guard := none } : Oper)) rfl (fun K hK => ?_) AllReadyH.nil
            go_simp
            refine hK.out _ _ ?_ (fun hH2 => ?_)
            · exact HS.out _ (F4.st1 ca)
            clear hK K hHeld
            have hHeld := hH2
            clear hH2
            try simp only [Act.put, List.setIfInBounds_toArray, List.set_cons_zero, List.set_cons_succ]
            obtain ⟨y0, y1, y2, y3⟩ := F4.ahead ca
            refine wpAnyH_ready (rs := [7]) (by kernel_rfl) (by simp) ?_
            refine AllReadyH.cons (o := ({ dst := none, op := Op.store 50 (Operand.tmp 12) (Operand.tmp 31), type := 0, pos := "law.go:108", after := #[{ on := 5, ground := Ground.data }, { on := 3, ground := Ground.data }, { on := 6, ground := Ground.chain }, { on := 0, ground := Ground.phase }, { on := 1, ground := Ground.phase }, { on := 2, ground := Ground.phase }, { on := 3, ground := Ground.phase }, { on := 4, ground := Ground.phase }, { on := 5, ground := Ground.phase }, { on := 6, ground := Ground.phase }], guard := none } : Oper)) rfl (fun K hK => ?_) AllReadyH.nil
            go_simp
            refine hK.out _ _ ?_ (fun hH2 => ?_)
            · exact HS.out _ hfin.bw
            clear hK K hHeld
            have hHeld := hH2
            clear hH2
            try simp only [Act.put, List.setIfInBounds_toArray, List.set_cons_zero, List.set_cons_succ]
            refine wpAnyH_done (by kernel_rfl) ?_ _
            go_wp2_with fail
            go_meet
            exact ⟨ba, bb, ga, gb, ca, cb, rfl, rfl, hfin⟩
          exact AllReadyH.nil
        exact AllReadyH.nil
      refine AllReadyH.cons (o := ({ dst := some 11, op := Op.alloc 50, type := 0, pos := "law.go:108", after := #[], guard := none } : Oper)) rfl (fun K hK => ?_) ?_
      · go_simp
        refine hK.out _ _ (HS.out _ (bel_al F1.bw _)) (fun hH2 => ?_)
        have F2 := F1.allocA
        obtain ⟨W2, hW2⟩ : ∃ W, W = W1.alloc (.cells #[.int .i64 0, .slice none 0 0] 50) := ⟨_, rfl⟩
        obtain ⟨ba, hba⟩ : ∃ b, b = W1.heap.size := ⟨_, rfl⟩
        rw [← hW2] at F2 hH2 ⊢
        rw [← hba] at F2 ⊢
        clear hK K hHeld hW2 hba
        have hHeld := hH2
        clear hH2
        try simp only [Act.put, List.setIfInBounds_toArray, List.set_cons_zero, List.set_cons_succ]
        refine wpAnyH_ready (rs := [1]) (by kernel_rfl) (by simp) ?_
        refine AllReadyH.cons (o := ({ dst := some 29, op := Op.call { callee := Callee.value (Operand.func 23), args := #[Operand.tmp 28], argTypes := #[45] }, type := 50, pos := "law.go:108", after := #[{ on := 0, ground := Ground.data }], guard := none } : Oper)) rfl (fun K hK => ?_) ?_
        · go_simp
          go_at_call 23
          refine (Hto.out _ _ _ _ _ kt F2.bw (by exact Or.inl ⟨rfl, rfl, rfl, rfl, rfl⟩)).mono ?_
          rintro e W3 ⟨ga, ca, rfl, hf, hb⟩
          try go_simp
          have F3 := F2.callA hf hb
          refine hK.out _ _ (HS.out _ F3.bw) (fun hH2 => ?_)
          clear hK K hHeld hf hb
          have hHeld := hH2
          clear hH2
          try simp only [Act.put, List.setIfInBounds_toArray, List.set_cons_zero, List.set_cons_succ]
          refine wpAnyH_ready (rs := [3]) (by kernel_rfl) (by simp) ?_
          refine AllReadyH.cons (o := ({ dst := some 31, op := Op.call { callee := Callee.value (Operand.func 23), args := #[Operand.tmp 30], argTypes := #[45] }, type := 50, pos := "law.go:108", after := #[{ on := 2, ground := Ground.data }, { on := 1, ground := Ground.chain }], guard := none } : Oper)) rfl (fun K hK => ?_) ?_
          · go_simp
            go_at_call 23
            refine (Hto.out _ _ _ _ _ ku F3.bw (by exact Or.inr ⟨rfl, rfl, rfl, rfl, rfl⟩)).mono ?_
            rintro e W4 ⟨gb, cb, rfl, hf, hb⟩
            try go_simp
            have F4 := F3.callB hf hb
            refine hK.out _ _ (HS.out _ F4.bw) (fun hH2 => ?_)
            clear hK K hHeld hf hb
            have hHeld := hH2
            clear hH2
            try simp only [Act.put, List.setIfInBounds_toArray, List.set_cons_zero, List.set_cons_succ]
            have hfin := F4.fin ca cb
            obtain ⟨x0, x1, x2, x3⟩ := BoxZ.of (F4.a ba rfl).1
            refine wpAnyH_ready (rs := [6]) (by kernel_rfl) (by simp) ?_
            refine AllReadyH.cons (o := ({ dst := none, op := Op.store 50 (Operand.tmp 11) (Operand.tmp 29), type := 0, pos := "law.go:108", after := #[{ on := 4, ground := Ground.data }, { on := 1, ground := Ground.data }, { on := 3, ground := Ground.chain }, { on := 0, ground := Ground.phase }, { on := 1, ground := Ground.phase }, { on := 2, ground := Ground.textOnly Departure.lateStores }, { on := 3, ground := Ground.textOnly Departure.lateStoresUnsure }, { on := 4, ground := Ground.phase }, { on := 5, ground := Ground.phase }], guard := none } : Oper)) rfl (fun K hK => ?_) AllReadyH.nil
            go_simp
            refine hK.out _ _ ?_ (fun hH2 => ?_)
            · exact HS.out _ (F4.st1 ca)
            clear hK K hHeld
            have hHeld := hH2
            clear hH2
            try simp only [Act.put, List.setIfInBounds_toArray, List.set_cons_zero, List.set_cons_succ]
            obtain ⟨y0, y1, y2, y3⟩ := F4.ahead ca
            refine wpAnyH_ready (rs := [7]) (by kernel_rfl) (by simp) ?_
            refine AllReadyH.cons (o := ({ dst := none, op := Op.store 50 (Operand.tmp 12) (Operand.tmp 31), type := 0, pos := "law.go:108", after := #[{ on := 5, ground := Ground.data }, { on := 3, ground := Ground.data }, { on := 6, ground := Ground.chain }, { on := 0, ground := Ground.phase }, { on := 1, ground := Ground.phase }, { on := 2, ground := Ground.phase }, { on := 3, ground := Ground.phase }, { on := 4, ground := Ground.phase }, { on := 5, ground := Ground.phase }, { on := 6, ground := Ground.phase }], guard := none } : Oper)) rfl (fun K hK => ?_) AllReadyH.nil
            go_simp
            refine hK.out _ _ ?_ (fun hH2 => ?_)
            · exact HS.out _ hfin.bw
            clear hK K hHeld
            have hHeld := hH2
            clear hH2
            try simp only [Act.put, List.setIfInBounds_toArray, List.set_cons_zero, List.set_cons_succ]
            refine wpAnyH_done (by kernel_rfl) ?_ _
            go_wp2_with fail
            go_meet
            exact ⟨ba, bb, ga, gb, ca, cb, rfl, rfl, hfin⟩
          exact AllReadyH.nil
        exact AllReadyH.nil
      exact AllReadyH.nil
    exact AllReadyH.nil
  case rest =>
    obtain ⟨w7, rfl⟩ : ∃ w7 : World, w7 = wc := ⟨_, rfl⟩
    obtain ⟨b11, b12, ga, gb, ca, cb, rfl, rfl, hbx⟩ := hcut
    have hst : TlS bp bq b9 b10 b11 b12 G gn gt gp gn' gt' gp' cn ct cp cn' ct' cp' pt pu kt ku Lt Lu gkt gku ga gb ckt cku ca cb w7 :=
      ⟨Hq6.out.1.below hbx.bw Hq6.out.1.lt, Hq6.out.2.1.below hbx.bw Hq6.out.2.1.lt, Hq6.out.2.2.1.below hbx.bw Hq6.out.2.2.1.lt, Hq6.out.2.2.2.1.below hbx.bw Hq6.out.2.2.2.1.lt, hbx.a, hbx.b, Hq6.out.2.2.2.2.1.later hbx.bw, Hq6.out.2.2.2.2.2.1.later hbx.bw, Hq6.out.2.2.2.2.2.2.1.fwd hbx.bw, Hq6.out.2.2.2.2.2.2.2.fwd hbx.bw, hbx.fa, hbx.fb⟩
    have hbwc : Below w.heap.size w w7 := belw Hbw6.out hbx.bw
    obtain ⟨n, hn⟩ : ∃ n, n = 1 + kt.nodes := ⟨_, rfl⟩
    obtain ⟨d, hd⟩ : ∃ d, d = kt.deep + 1 := ⟨_, rfl⟩
    obtain ⟨ok, hok⟩ : ∃ ok, ok = Tr.chkT G pt kt := ⟨_, rfl⟩
    obtain ⟨sm, hsm⟩ : ∃ sm, sm = Fo.sameT pt kt pu ku := ⟨_, rfl⟩
    obtain ⟨ys, hys⟩ : ∃ ys, ys = Fo.yieldT pt kt := ⟨_, rfl⟩
    obtain ⟨lm, hlm⟩ : ∃ lm, lm = Fo.lmT pt kt := ⟨_, rfl⟩
    obtain ⟨NY, hNY⟩ : ∃ NY, NY = ys.length := ⟨_, rfl⟩
    obtain ⟨LM, hLM⟩ : ∃ LM, LM = lm.length := ⟨_, rfl⟩
    obtain ⟨TX, hTX⟩ : ∃ TX : ByteArray, TX = ⟨(Tr.textS G pt kt).toArray⟩ := ⟨_, rfl⟩
    obtain ⟨PX, hPX⟩ : ∃ PX : ByteArray, PX = ⟨(Oct.putS pt ++ kt.put).toArray⟩ := ⟨_, rfl⟩
    have hnt := Hft.out.2.1
    have hpt := Hft.out.2.2.1
    have hfit := Hft.out.2.2.2
    have hnu := Hfu.out
    have hyl := Fo.yieldT_le pt kt
    have hll := Fo.lmT_le pt kt
    rw [← hys, ← hNY] at hyl
    rw [← hlm, ← hLM] at hll
    have HLt := HL6.out.1
    have HLu := HL6.out.2
    have hsz : ∀ W, Below w7.heap.size w7 W → Calls Try.prog 27 #[.agg #[.int .i64 pt, .slice gkt Lt ckt]] W (SizeSaid n d W) := fun W hW => by
      rw [hn, hd, HLt]
      exact size_calls _ pt kt W gkt ckt rfl (by omega) (hst.later hW).ft
    have hrc : ∀ W, Below w7.heap.size w7 W → Calls Try.prog 28 #[.agg #[.int .i64 G.start, .int .i64 G.rules, .slice gn' G.names.length cn', .slice gt' G.terms.length ct', .slice gp' G.prods.length cp'], .agg #[.int .i64 pt, .slice ga Lt ca]] W (fun e w' => e = .returned (.bool ok) ∧ Below W.heap.size W w') := fun W hW => by
      rw [hok, HLt]
      exact rcheck_calls _ pt kt W ga ca rfl (by omega) hpt hfit ((hst.later hW).j.toCh Hsd.out) (hst.later hW).fa
    have hrt : ok = true → ∀ W, Below w7.heap.size w7 W → Calls Try.prog 29 #[.agg #[.int .i64 G.start, .int .i64 G.rules, .slice gn' G.names.length cn', .slice gt' G.terms.length ct', .slice gp' G.prods.length cp'], .agg #[.int .i64 pt, .slice ga Lt ca]] W (fun e w' => e = .returned (.string TX) ∧ Below W.heap.size W w') := fun hk W hW => by
      have hc := hok.symm.trans hk
      have hc2 := hc
      unfold Tr.chkT at hc2
      simp only [Bool.and_eq_true, decide_eq_true_eq] at hc2
      have h1 := rtext_calls (gn := gn') (gt := gt') (gp := gp') (cn := cn') (ct := ct') (cp := cp') (sndG Hsd.out) (shortG Hsd.out) _ pt kt W ga ca rfl (by omega) hc2.1 (Tr.okF_of G kt _ hc2.2.1.symm hc2.2.2) ((hst.later hW).j.toCh Hsd.out) (hst.later hW).fa
      have h2 : Tr.textS G pt kt = Tr.txtT G pt (Tr.txtF G kt) := by unfold Tr.textS; rw [if_pos (by rw [Hsd.out, hc]; rfl)]
      rw [hTX, h2, HLt]
      exact h1
    have hno : ok = false → TX = ⟨#[]⟩ := fun hk => by
      rw [hTX]
      unfold Tr.textS
      rw [if_neg (by rw [← hok, hk]; simp)]
    have hck : ∀ W, Below w7.heap.size w7 W → Calls Try.prog 24 #[.agg #[.int .i64 G.start, .int .i64 G.rules, .slice gn G.names.length cn, .slice gt G.terms.length ct, .slice gp G.prods.length cp], .agg #[.int .i64 pt, .slice gkt Lt ckt]] W (fun e w' => e = .returned (.bool ok) ∧ Below W.heap.size W w') := fun W hW => by
      have h1 := tcheck_all W G gn gt gp cn ct cp (hst.later hW).i pt kt gkt ckt (by omega) (hst.later hW).ft
      rw [Hsd.out, Bool.true_and, ← hok, ← HLt] at h1
      exact h1
    have htx : ∀ W, Below w7.heap.size w7 W → Calls Try.prog 30 #[.agg #[.int .i64 G.start, .int .i64 G.rules, .slice gn G.names.length cn, .slice gt G.terms.length ct, .slice gp G.prods.length cp], .agg #[.int .i64 pt, .slice gkt Lt ckt]] W (fun e w' => e = .returned (.string TX) ∧ Below W.heap.size W w') := fun W hW => by
      rw [hTX, HLt]
      exact treeText_calls W G gn gt gp cn ct cp (hst.later hW).i pt kt gkt ckt (by omega) (hst.later hW).ft
    have hsa : ∀ W p g (L : Nat) c b, Below w7.heap.size w7 W → ((p = pu ∧ g = gku ∧ L = Lu ∧ c = cku ∧ b = sm) ∨ (p = pt ∧ g = gkt ∧ L = Lt ∧ c = ckt ∧ b = true)) → Calls Try.prog 31 #[.agg #[.int .i64 pt, .slice gkt Lt ckt], .agg #[.int .i64 p, .slice g L c]] W (fun e w' => e = .returned (.bool b) ∧ Below W.heap.size W w') := fun W p g L c b hW h => by
      rcases h with ⟨h1, h2, h3, h4, h5⟩ | ⟨h1, h2, h3, h4, h5⟩
      · rw [h1, h2, h3, h4, h5, hsm, HLt, HLu]
        exact same_calls _ pt pu kt ku W gkt gku ckt cku rfl (by omega) (by omega) (hst.later hW).ft (hst.later hW).fu
      · have k1 := same_calls _ pt pt kt kt W gkt gkt ckt ckt rfl (by omega) (by omega) (hst.later hW).ft (hst.later hW).ft
        rw [Fo.sameT_refl] at k1
        rw [h1, h2, h3, h4, h5, HLt]
        exact k1
    have hrs : ∀ W, Below w7.heap.size w7 W → Calls Try.prog 22 #[.agg #[.int .i64 pt, .slice ga Lt ca], .agg #[.int .i64 pu, .slice gb Lu cb]] W (fun e w' => e = .returned (.bool sm) ∧ Below W.heap.size W w') := fun W hW => by
      rw [hsm, HLt, HLu]
      exact rsame_calls _ pt pu kt ku W ga gb ca cb rfl (by omega) (by omega) (hst.later hW).fa (hst.later hW).fb
    have hy : ∀ W, Below w7.heap.size w7 W → Calls Try.prog 32 #[.agg #[.int .i64 pt, .slice gkt Lt ckt]] W (fun e w' => ∃ g c, e = .returned (.slice g NY c) ∧ RowI w' w'.heap.size g ys ∧ Below W.heap.size W w') := fun W hW => by
      rw [hNY, hys, HLt]
      refine (yield_calls _ pt kt W gkt ckt rfl (by omega) hpt hfit (hst.later hW).ft).mono ?_
      rintro e w' ⟨g, c, rfl, h1, h2⟩
      exact ⟨g, c, rfl, rowID_I h1, h2⟩
    have hry : ∀ W, Below w7.heap.size w7 W → Calls Try.prog 33 #[.agg #[.int .i64 pt, .slice ga Lt ca]] W (fun e w' => ∃ g c, e = .returned (.slice g NY c) ∧ RowI w' w'.heap.size g ys ∧ Below W.heap.size W w') := fun W hW => by
      rw [hNY, hys, HLt]
      refine (ryield_calls _ pt kt W ga ca rfl (by omega) hpt hfit (hst.later hW).fa).mono ?_
      rintro e w' ⟨g, c, rfl, h1, h2⟩
      exact ⟨g, c, rfl, rowID_I h1, h2⟩
    have hrn : ∀ W, Below w7.heap.size w7 W → Calls Try.prog 34 #[.agg #[.int .i64 pt, .slice ga Lt ca]] W (fun e w' => e = .returned (.int .i64 (n : Int)) ∧ Below W.heap.size W w') := fun W hW => by
      rw [hn, HLt]
      exact rnodes_calls _ pt kt W ga ca rfl (by omega) (hst.later hW).fa
    have hrd : ∀ W, Below w7.heap.size w7 W → Calls Try.prog 35 #[.agg #[.int .i64 pt, .slice ga Lt ca]] W (fun e w' => e = .returned (.int .i64 (d : Int)) ∧ Below W.heap.size W w') := fun W hW => by
      rw [hd, HLt]
      exact rdeep_calls _ pt kt W ga ca rfl (by omega) (hst.later hW).fa
    have hl : ∀ W, Below w7.heap.size w7 W → Calls Try.prog 36 #[.agg #[.int .i64 pt, .slice gkt Lt ckt]] W (fun e w' => ∃ g c, e = .returned (.slice g LM c) ∧ RowI w' w'.heap.size g lm ∧ Below W.heap.size W w') := fun W hW => by
      rw [hLM, hlm, HLt]
      refine (left_calls _ pt kt W gkt ckt rfl (by omega) (hst.later hW).ft).mono ?_
      rintro e w' ⟨g, c, rfl, h1, h2⟩
      exact ⟨g, c, rfl, rowID_I h1, h2⟩
    have hrl : ∀ W, Below w7.heap.size w7 W → Calls Try.prog 37 #[.agg #[.int .i64 pt, .slice ga Lt ca]] W (fun e w' => ∃ g c, e = .returned (.slice g LM c) ∧ RowI w' w'.heap.size g lm ∧ Below W.heap.size W w') := fun W hW => by
      rw [hLM, hlm, HLt]
      refine (rleft_calls _ pt kt W ga ca rfl (by omega) (hst.later hW).fa).mono ?_
      rintro e w' ⟨g, c, rfl, h1, h2⟩
      exact ⟨g, c, rfl, rowID_I h1, h2⟩
    have hp : ∀ W, Below w7.heap.size w7 W → Calls Try.prog 25 #[.agg #[.int .i64 pt, .slice gkt Lt ckt]] W (fun e w' => e = .returned (.string PX) ∧ Below W.heap.size W w') := fun W hW => by
      rw [hPX, HLt]
      exact treePut_calls pt kt W gkt ckt (hst.later hW).ft (by omega)
    have hrp : ∀ W, Below w7.heap.size w7 W → Calls Try.prog 38 #[.agg #[.int .i64 pt, .slice ga Lt ca]] W (fun e w' => e = .returned (.string PX) ∧ Below W.heap.size W w') := fun W hW => by
      rw [hPX, HLt]
      exact rputT_calls _ pt kt W ga ca rfl (by omega) (hst.later hW).fa
    have Hszq := hid hsz
    have Hrcq := hid hrc
    have Hrtq := hid hrt
    have Hnoq := hid hno
    have Hckq := hid hck
    have Htxq := hid htx
    have Hsaq := hid hsa
    have Hrsq := hid hrs
    have Hyq := hid hy
    have Hryq := hid hry
    have Hrnq := hid hrn
    have Hrdq := hid hrd
    have Hlq := hid hl
    have Hrlq := hid hrl
    have Hpq := hid hp
    have Hrpq := hid hrp
    have HS2 := hid (fun W (hb : Below w7.heap.size w7 W) => (hst.later hb).cells)
    have Hbwc := hid hbwc
    have HNYq := hid (And.intro hNY (show ys.length ≤ 9223372036854775807 by omega))
    have HLMq := hid (And.intro hLM (show lm.length ≤ 9223372036854775807 by omega))
    clear hbx hst hbwc hn hd hok hsm hys hlm hNY hLM hTX hPX hnt hpt hfit hnu hyl hll HLt HLu hsz hrc hrt hno hck htx hsa hrs hy hry hrn hrd hl hrl hp hrp
    obtain ⟨-, -, ⟨t0, t1⟩, -, -, -⟩ := HS2.out _ (bel_id w7)
    go_upto_region 7 with (go_at_call 27; refine (Hszq.out _ (bel_id w7)).mono ?_; rintro e wa1 ⟨rfl, hb1⟩)
    clear t0 t1
    obtain ⟨-, ⟨q0, q1, q2, q3, q4⟩, -, -, ⟨a0, a1⟩, -⟩ := HS2.out _ hb1
    have Hb1 := hid hb1
    clear hb1
    go_upto_region 9 with (go_at_call 28; refine (Hrcq.out _ Hb1.out).mono ?_; rintro e wa2 ⟨rfl, hb2⟩)
    clear q0 q1 q2 q3 q4 a0 a1
    have Hb2 := hid (belw Hb1.out hb2)
    clear hb2
    go_upto_if 40 with fail
    go_cut [16] from 16 to 43 (fun v16 wx => v16 = .string TX ∧ Below w7.heap.size w7 wx)
    case first =>
      cases ok with
      | false =>
        go_wp2_with fail
        go_meet
        exact ⟨by rw [Hnoq.out (by simp)], Hb2.out⟩
      | true =>
        obtain ⟨-, ⟨q0, q1, q2, q3, q4⟩, -, -, ⟨a0, a1⟩, -⟩ := HS2.out _ Hb2.out
        go_wp2_with (go_at_call 29; refine (Hrtq.out rfl _ Hb2.out).mono ?_; rintro e wa3 ⟨rfl, hb3⟩)
        go_meet
        exact ⟨rfl, belw Hb2.out hb3⟩
    case rest =>
      obtain ⟨rfl, hbd⟩ := hcut
      go_upto_region 11 with fail
      have HrA := hid (show Below w7.heap.size w7 wc.drew from hbd.drew)
      have hok2 : (ok == ok) = true := by simp
      have hsm2 : (sm == sm) = true := by simp
      clear hbd Hb1 Hb2 Hszq Hrcq Hrtq Hnoq
      go_region_held3 (fun W : World => (W.cell? ⟨bp, 0, none⟩ = some (.int .i64 G.start) ∧ W.cell? ⟨bp, 1, none⟩ = some (.int .i64 G.rules) ∧ W.cell? ⟨bp, 2, none⟩ = some (.slice gn G.names.length cn) ∧ W.cell? ⟨bp, 3, none⟩ = some (.slice gt G.terms.length ct) ∧ W.cell? ⟨bp, 4, none⟩ = some (.slice gp G.prods.length cp)) ∧ (W.cell? ⟨bq, 0, none⟩ = some (.int .i64 G.start) ∧ W.cell? ⟨bq, 1, none⟩ = some (.int .i64 G.rules) ∧ W.cell? ⟨bq, 2, none⟩ = some (.slice gn' G.names.length cn') ∧ W.cell? ⟨bq, 3, none⟩ = some (.slice gt' G.terms.length ct') ∧ W.cell? ⟨bq, 4, none⟩ = some (.slice gp' G.prods.length cp')) ∧ (W.cell? ⟨b9, 0, none⟩ = some (.int .i64 pt) ∧ W.cell? ⟨b9, 1, none⟩ = some (.slice gkt Lt ckt)) ∧ (W.cell? ⟨b10, 0, none⟩ = some (.int .i64 pu) ∧ W.cell? ⟨b10, 1, none⟩ = some (.slice gku Lu cku)) ∧ (W.cell? ⟨b11, 0, none⟩ = some (.int .i64 pt) ∧ W.cell? ⟨b11, 1, none⟩ = some (.slice ga Lt ca)) ∧ (W.cell? ⟨b12, 0, none⟩ = some (.int .i64 pu) ∧ W.cell? ⟨b12, 1, none⟩ = some (.slice gb Lu cb))) (first | exact HS2.out _ HrA.out | exact HS2.out _ HrB.out | exact HS2.out _ HrC.out | exact HS2.out _ HrD.out | exact HS2.out _ HrE.out | exact HS2.out _ HrF.out | exact HS2.out _ HrG.out | exact HS2.out _ HrH.out | exact HS2.out _ HrI.out | exact HS2.out _ HrJ.out | exact HS2.out _ HrK.out | exact HS2.out _ HrL.out | exact HS2.out _ HrM.out | exact HS2.out _ HrN.out | exact HS2.out _ HrO.out | exact HS2.out _ HrP.out)
        (first
          | (go_at_call 38; refine (Hrpq.out _ (by exact HrO.out)).mono ?_; rintro e wrP ⟨rfl, hb⟩; have HrP := hid (belw HrO.out hb); clear hb)
          | (go_at_call 25; refine (Hpq.out _ (by exact HrN.out)).mono ?_; rintro e wrO ⟨rfl, hb⟩; have HrO := hid (belw HrN.out hb); clear hb)
          | (go_at_call 19; refine (numbers_any _ _ _ _ _ _ lm (by exact HLMq.out.1) (by exact RL2.out.1) (by exact RL2.out.2) (by exact HLMq.out.2)).mono ?_; rintro e wrN ⟨rfl, hb⟩; have HrN := hid (belw HrM.out hb); clear hb)
          | (go_at_call 37; refine (Hrlq.out _ (by exact HrL.out)).mono ?_; rintro e wrM ⟨g2, c2, rfl, hr, hb⟩; have HrM := hid (belw HrL.out hb); have RL2 := hid (And.intro ((RL1.out.below hb).mono hb.size) hr); clear hb hr)
          | (go_at_call 36; refine (Hlq.out _ (by exact HrK.out)).mono ?_; rintro e wrL ⟨g1, c1, rfl, hr, hb⟩; have HrL := hid (belw HrK.out hb); have RL1 := hid hr; clear hb hr)
          | (go_at_call 35; refine (Hrdq.out _ (by exact HrJ.out)).mono ?_; rintro e wrK ⟨rfl, hb⟩; have HrK := hid (belw HrJ.out hb); clear hb)
          | (go_at_call 34; refine (Hrnq.out _ (by exact HrI.out)).mono ?_; rintro e wrJ ⟨rfl, hb⟩; have HrJ := hid (belw HrI.out hb); clear hb)
          | (go_at_call 19; refine (numbers_any _ _ _ _ _ _ ys (by exact HNYq.out.1) (by exact RY2.out.1) (by exact RY2.out.2) (by exact HNYq.out.2)).mono ?_; rintro e wrI ⟨rfl, hb⟩; have HrI := hid (belw HrH.out hb); clear hb)
          | (go_at_call 33; refine (Hryq.out _ (by exact HrG.out)).mono ?_; rintro e wrH ⟨g2, c2, rfl, hr, hb⟩; have HrH := hid (belw HrG.out hb); have RY2 := hid (And.intro ((RY1.out.below hb).mono hb.size) hr); clear hb hr)
          | (go_at_call 32; refine (Hyq.out _ (by exact HrF.out)).mono ?_; rintro e wrG ⟨g1, c1, rfl, hr, hb⟩; have HrG := hid (belw HrF.out hb); have RY1 := hid hr; clear hb hr)
          | (go_at_call 31; refine (Hsaq.out _ _ _ _ _ true (by exact HrE.out) (by exact Or.inr ⟨rfl, rfl, rfl, rfl, rfl⟩)).mono ?_; rintro e wrF ⟨rfl, hb⟩; have HrF := hid (belw HrE.out hb); clear hb)
          | (go_at_call 22; refine (Hrsq.out _ (by exact HrD.out)).mono ?_; rintro e wrE ⟨rfl, hb⟩; have HrE := hid (belw HrD.out hb); clear hb)
          | (go_at_call 31; refine (Hsaq.out _ _ _ _ _ sm (by exact HrC.out) (by exact Or.inl ⟨rfl, rfl, rfl, rfl, rfl⟩)).mono ?_; rintro e wrD ⟨rfl, hb⟩; have HrD := hid (belw HrC.out hb); clear hb)
          | (go_at_call 30; refine (Htxq.out _ (by exact HrB.out)).mono ?_; rintro e wrC ⟨rfl, hb⟩; have HrC := hid (belw HrB.out hb); clear hb)
          | (go_at_call 24; refine (Hckq.out _ (by exact HrA.out)).mono ?_; rintro e wrB ⟨rfl, hb⟩; have HrB := hid (belw HrA.out hb); clear hb))
      go_wp2_with fail
      go_ret
      exact ⟨rfl, belw Hbwc.out HrP.out⟩
end Go.Proofs.Ytaehooafdbaomaa
