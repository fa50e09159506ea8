/- Chapter 14 (tree): grown: any tree of a grammar's, told by choices. -/
import Derived.Test.YtaehooafdbaomaaTreeB
import Derived.Test.YtaehooafdbaomaaGrow
namespace Go.Proofs.Ytaehooafdbaomaa
open Go.RowKit
attribute [local go_sem ↓] Go.wp_at_zero Go.wp_at_succ
attribute [local go_sem] frozen_alloc_lt

/-- Trees of a grammar's, of a row of symbols. -/
def Fo.Dv (ps : List (Int × List Int)) : Fo → List Int → Prop
  | .nil, xs => xs = []
  | .cons p k r, xs => ∃ (s : Int) (ys : List Int), xs = s :: ys ∧ ((s < 0 ∧ p = s ∧ k = .nil) ∨ (0 ≤ s ∧ ∃ (q : Nat) (R : List Int), p = (q : Int) ∧ ps[q]? = some (s, R) ∧ Fo.Dv ps k R)) ∧ Fo.Dv ps r ys
theorem Fo.Dv.app {ps : List (Int × List Int)} : ∀ {f g : Fo} {xs ys : List Int}, Fo.Dv ps f xs → Fo.Dv ps g ys → Fo.Dv ps (f.app g) (xs ++ ys)
  | .nil, g, xs, ys, h, h2 => by
    unfold Fo.Dv at h
    subst h
    exact h2
  | .cons p k r, g, xs, ys, h, h2 => by
    unfold Fo.Dv at h
    obtain ⟨s, zs, rfl, h1, h3⟩ := h
    rw [Fo.app, List.cons_append, Fo.Dv]
    exact ⟨s, zs ++ ys, rfl, h1, Fo.Dv.app h3 h2⟩
structure GrIn (w : World) (B ba : Nat) (ps : List (Int × List Int)) (gp gc : Option Addr) (ch : List Int) (a : Nat) : Prop where
  p : RowP w B gp ps
  c : RowI w B gc ch
  hB : B ≤ ba
  a : Bk w ba 3 [.int .i64 a]
  pl : ps.length ≤ 1000
  r16 : ∀ x ∈ ps, x.2.length ≤ 16
  cl : ch.length ≤ 9223372036854775807
theorem GrIn.kp {w w' : World} {B ba : Nat} {ps : List (Int × List Int)} {gp gc : Option Addr} {ch : List Int} {a a' : Nat} {S : Nat → Prop} (h : GrIn w B ba ps gp gc ch a) (hk : Kp S w w') (hS : ∀ k, S k → ba ≤ k) (ha : Bk w' ba 3 [.int .i64 a']) : GrIn w' B ba ps gp gc ch a' := by
  have hb : Below B w w' := hk.to_below (by have := h.a.lt; have := h.hB; omega) (fun k e => by have := hS k e; have := h.hB; omega)
  exact ⟨h.p.below hb, h.c.below hb, h.hB, ha, h.pl, h.r16, h.cl⟩
theorem GrIn.later {w w' : World} {B ba : Nat} {ps : List (Int × List Int)} {gp gc : Option Addr} {ch : List Int} {a : Nat} (h : GrIn w B ba ps gp gc ch a) (hb : Below w.heap.size w w') : GrIn w' B ba ps gp gc ch a := by
  have hb2 : Below B w w' := hb.mono (by have := h.a.lt; have := h.hB; omega)
  exact ⟨h.p.below hb2, h.c.below hb2, h.hB, h.a.below hb h.a.lt, h.pl, h.r16, h.cl⟩
def GrownPost (w : World) (ba : Nat) (ps : List (Int × List Int)) (s : Int) (a : Nat) (e : Ending) (w' : World) : Prop :=
  ∃ (p : Int) (kids : Fo) (gk : Option Addr) (ck : Nat) (ok : Bool) (a' : Nat), e = .returned (.tuple #[.agg #[.int .i64 p, .slice gk kids.len ck], .bool ok]) ∧ FoAt w' (fun k => w.heap.size ≤ k ∧ k < w'.heap.size) gk kids 0 ∧ Bk w' ba 3 [.int .i64 a'] ∧ a ≤ a' ∧ a' ≤ 61 ∧ Kp (fun k => k = ba) w w' ∧
    (ok = true → Fo.Dv ps (.cons p kids .nil) [s] ∧ kids.nodes ≤ 16 * (a' - a))
def GrownSays (B ba : Nat) (ps : List (Int × List Int)) (gp gc : Option Addr) (ch : List Int) (v0 v1 v2 v3 : Value) (cp cc : Nat) (m : Nat) : Prop :=
  ∀ (w : World) (a : Nat) (s : Int), GrIn w B ba ps gp gc ch a → a ≤ 61 → 61 - a = m →
    Calls Try.prog 39 #[.agg #[v0, v1, v2, v3, .slice gp ps.length cp], .int .i64 s, .slice gc ch.length cc, .pointer (some ⟨ba, 0, none⟩)] w (GrownPost w ba ps s a)
/-- The productions of a symbol. -/
def ownP (ps : List (Int × List Int)) (s : Int) (i : Nat) : List Int := ((List.range i).filter fun q => (ps.getD q (0, [])).1 == s).map fun q : Nat => (q : Int)
theorem ownP_yes {ps : List (Int × List Int)} {s : Int} {i : Nat} (h : (ps.getD i (0, [])).1 = s) : ownP ps s (i + 1) = ownP ps s i ++ [(i : Int)] := by
  rw [ownP, ownP, List.range_succ, List.filter_append, List.map_append, List.filter_cons, h]
  simp
theorem ownP_no {ps : List (Int × List Int)} {s : Int} {i : Nat} (h : (ps.getD i (0, [])).1 ≠ s) : ownP ps s (i + 1) = ownP ps s i := by
  have h' : ((ps.getD i (0, [])).1 == s) = false := by simpa using h
  rw [ownP, ownP, List.range_succ, List.filter_append, List.map_append, List.filter_cons, h']
  simp
theorem ownP_le (ps : List (Int × List Int)) (s : Int) (i : Nat) : (ownP ps s i).length ≤ i := by
  have := List.length_filter_le (fun q => (ps.getD q (0, [])).1 == s) (List.range i)
  simpa [ownP] using this
theorem ownP_mem {ps : List (Int × List Int)} {s x : Int} (h : x ∈ ownP ps s ps.length) : ∃ (q : Nat) (R : List Int), x = (q : Int) ∧ ps[q]? = some (s, R) := by
  unfold ownP at h
  obtain ⟨q, hq, rfl⟩ := List.mem_map.1 h
  obtain ⟨h1, h2⟩ := List.mem_filter.1 hq
  rw [List.mem_range] at h1
  have h3 : ps.getD q (0, []) = ps[q] := by rw [List.getD, List.getElem?_eq_getElem h1]; rfl
  rw [h3] at h2
  have h4 : ps[q].1 = s := by simpa using h2
  exact ⟨q, ps[q].2, rfl, by rw [List.getElem?_eq_getElem h1, ← h4]⟩
theorem treeInfoD : (Try.prog.info? 45).map (fun i => (i.zero, i.size, i.bytes)) = some (some (.agg #[.int .i64 0, .slice none 0 0]), 2, 32) := by kernel_rfl
theorem kp_bel {S : Nat → Prop} {w w' : World} (h : Below w.heap.size w w') : Kp S w w' := ⟨h.os, h.tape, h.output, h.size, fun k hk _ => h.block k hk⟩
/-- The answer's box, written. -/
theorem grown_end {w w' : World} {ba b8 : Nat} {u0 u1 : Value} (hk : Kp (fun k => k = ba) w w') (hb8 : Bk w' b8 45 [u0, u1]) (hw : w.heap.size ≤ b8) (hba : ba < w.heap.size) {a' : Nat} (ha : Bk w' ba 3 [.int .i64 a']) (x0 x1 : Value) :
    Bk ((w'.setCell ⟨b8, 0, none⟩ x0).setCell ⟨b8, 1, none⟩ x1) b8 45 [x0, x1] ∧ Bk ((w'.setCell ⟨b8, 0, none⟩ x0).setCell ⟨b8, 1, none⟩ x1) ba 3 [.int .i64 a'] ∧ Kp (fun k => k = ba) w ((w'.setCell ⟨b8, 0, none⟩ x0).setCell ⟨b8, 1, none⟩ x1) ∧ Kp (fun k => k = b8) w' ((w'.setCell ⟨b8, 0, none⟩ x0).setCell ⟨b8, 1, none⟩ x1) := by
  have h1 := (hb8.set 0 x0).set 1 x1
  simp only [List.set_cons_zero, List.set_cons_succ] at h1
  exact ⟨h1, (ha.far (p := ⟨b8, 0, none⟩) (by show ba ≠ b8; omega) _).far (p := ⟨b8, 1, none⟩) (by show ba ≠ b8; omega) _, Kp.set (p := ⟨b8, 1, none⟩) (Kp.set (p := ⟨b8, 0, none⟩) hk (.inr hw) _) (.inr hw) _, Kp.set (S := fun k => k = b8) (p := ⟨b8, 1, none⟩) (Kp.set (S := fun k => k = b8) (p := ⟨b8, 0, none⟩) (Kp.refl _ _) (.inl rfl) _) (.inl rfl) _⟩
def GO1 (wl : World) (ps : List (Int × List Int)) (s : Int) (k : Nat) (v11 v12 : Value) (w : World) : Prop :=
  ∃ (q : Nat) (vo : Value), v12 = .int .i64 q ∧ vo = v11 ∧ q ≤ ps.length ∧ w.ownsRow wl.heap.size 3 1 vo (ownP ps s q).length ((ownP ps s q).map (Value.int .i64)) ∧ k = ps.length - q ∧ Below wl.heap.size wl w

def GO2 (wl : World) (ba b13 : Nat) (ps : List (Int × List Int)) (R : List Int) (qx a1 : Nat) (k : Nat) (v15 : Value) (w : World) : Prop :=
  ∃ (z az : Nat) (F : Fo) (vr : Value), v15 = .int .i64 z ∧ z ≤ R.length ∧ Fo.Dv ps F (R.take z) ∧ F.len = z ∧ F.nodes ≤ z + 16 * (az - a1) ∧ a1 ≤ az ∧ az ≤ 61 ∧ Bk w ba 3 [.int .i64 az] ∧ Bk w b13 45 [.int .i64 qx, vr] ∧ KidsOwn w (b13 + 1) 45 vr F ∧ k = R.length - z ∧ Kp (fun k => k = ba ∨ b13 ≤ k) wl w
/-- Behind the call of itself: the kid in its box. -/
def GCut (wr : World) (ba : Nat) (ps : List (Int × List Int)) (s : Int) (az : Nat) (v16 v17 : Value) (w : World) : Prop :=
  ∃ (b16 : Nat) (p : Int) (k : Fo) (gk : Option Addr) (ck : Nat) (ok : Bool) (a' : Nat), v16 = .pointer (some ⟨b16, 0, none⟩) ∧ v17 = .bool ok ∧ Bk w b16 45 [.int .i64 p, .slice gk k.len ck] ∧ FoAt w (fun q => wr.heap.size ≤ q ∧ q < w.heap.size) gk k 0 ∧ Bk w ba 3 [.int .i64 a'] ∧ az ≤ a' ∧ a' ≤ 61 ∧ Kp (fun k => k = ba) wr w ∧
    (ok = true → Fo.Dv ps (.cons p k .nil) [s] ∧ k.nodes ≤ 16 * (a' - az))

set_option maxHeartbeats 8000000 in
set_option maxRecDepth 8000 in
theorem grown_step {B ba : Nat} {ps : List (Int × List Int)} {gp gc : Option Addr} {ch : List Int} {v0 v1 v2 v3 : Value} {cp cc : Nat} (m : Nat) (ih : ∀ m', m' < m → GrownSays B ba ps gp gc ch v0 v1 v2 v3 cp cc m') : GrownSays B ba ps gp gc ch v0 v1 v2 v3 cp cc m := by
  intro w a s h ha hm
  obtain ⟨i2, hi2, z0, z1, z2⟩ := info_parts treeInfoD
  obtain ⟨i3, hi3, y0, y1, y2⟩ := info_parts intInfoT
  have Hih := hid ih
  have Hm := hid hm
  have hk4 := (Bk.new w 33 [v0, v1, v2, v3, .slice gp ps.length cp]).alloc (.cells #[.int .i64 0, .slice none 0 0] 45)
  have hk8 := bk_at (Bk.new (w.alloc (.cells #[v0, v1, v2, v3, .slice gp ps.length cp] 33)) 45 [.int .i64 0, .slice none 0 0]) (show _ = w.heap.size + 1 by simp)
  have hb0 : Below w.heap.size w ((w.alloc (.cells #[v0, v1, v2, v3, .slice gp ps.length cp] 33)).alloc (.cells #[.int .i64 0, .slice none 0 0] 45)) := bel_al (bel_al (bel_id w) _) _
  have hin := h.later hb0
  have hbaw := h.a.lt
  have Hbaw := hid hbaw
  have hpl := h.pl
  have hcl := h.cl
  clear ih hm h
  go_enter Try.func39, Try.ntmps39
  go_upto_region 1 with fail
  obtain ⟨wa, hwa⟩ : ∃ wa, wa = ((w.alloc (.cells #[v0, v1, v2, v3, .slice gp ps.length cp] 33)).alloc (.cells #[.int .i64 0, .slice none 0 0] 45)) := ⟨_, rfl⟩
  obtain ⟨b4, hb4⟩ : ∃ b4, b4 = w.heap.size := ⟨_, rfl⟩
  obtain ⟨b8, hb8⟩ : ∃ b8, b8 = b4 + 1 := ⟨_, rfl⟩
  rw [← hwa] at hk4 hk8 hb0 hin ⊢
  rw [← hb4] at hk4 hk8 ⊢
  rw [← hb8] at hk8 ⊢
  have Hb4 := hid hb4
  have Hb8 := hid hb8
  clear hwa hb4 hb8
  have Hb0 := hid hb0
  have Hin := hid hin
  have d0 := hk8.cell 0
  have d1 := hk8.cell 1
  have f0 := hk8.free 0
  have f1 := hk8.free 1
  have ca := hin.a.cell 0
  have fa := hin.a.free 0
  simp only [List.getElem?_cons_zero, List.getElem?_cons_succ] at d0 d1 ca
  by_cases hs : s < 0
  · have hsb : decide (s < 0) = true := by simp [hs]
    have hend := grown_end (kp_bel Hb0.out) hk8 (by have := Hb4.out; have := Hb8.out; omega) Hbaw.out Hin.out.a (.int .i64 s) (.slice none 0 0)
    have Hend := hid hend
    clear hend
    go_wp2_with fail
    obtain ⟨W, hW⟩ : ∃ W, W = ((wa.setCell ⟨b8, 0, none⟩ (.int .i64 s)).setCell ⟨b8, 1, none⟩ (.slice none 0 0)) := ⟨_, rfl⟩
    obtain ⟨h1, h2, h3, -⟩ := Hend.out
    rw [← hW] at h1 h2 h3 ⊢
    have r0 := h1.cell 0
    have r1 := h1.cell 1
    simp only [List.getElem?_cons_zero, List.getElem?_cons_succ] at r0 r1
    refine bodyPost_ret (v := .tuple #[.agg #[.int .i64 s, .slice none 0 0], .bool true]) (by simp [results, Try.results39, go_sem, r0, r1]) rfl ?_
    exact ⟨s, .nil, none, 0, true, a, rfl, trivial, h2, Nat.le_refl _, ha, h3, fun _ => ⟨⟨s, [], rfl, .inl ⟨hs, rfl, rfl⟩, rfl⟩, by simp [Fo.nodes]⟩⟩
  · have hsb : decide (s < 0) = false := by simp; omega
    have ha0 : (0 : Int) ≤ (a : Int) := by omega
    have ha61 : (a : Int) ≤ 61 := by omega
    by_cases hstop : ch.length ≤ a ∨ 60 < a
    · have hend := grown_end (kp_bel Hb0.out) hk8 (by have := Hb4.out; have := Hb8.out; omega) Hbaw.out Hin.out.a (.int .i64 0) (.slice none 0 0)
      have Hend := hid hend
      clear hend
      by_cases hl : ch.length ≤ a
      · have hl1 : decide ((ch.length : Int) ≤ (a : Int)) = true := by simp; omega
        have hl3 : decide (ch.length ≤ a) = true := by simp; omega
        clear hstop
        go_wp2_with fail
        obtain ⟨W, hW⟩ : ∃ W, W = ((wa.setCell ⟨b8, 0, none⟩ (.int .i64 0)).setCell ⟨b8, 1, none⟩ (.slice none 0 0)) := ⟨_, rfl⟩
        obtain ⟨h1, h2, h3, -⟩ := Hend.out
        rw [← hW] at h1 h2 h3 ⊢
        have r0 := h1.cell 0
        have r1 := h1.cell 1
        simp only [List.getElem?_cons_zero, List.getElem?_cons_succ] at r0 r1
        refine bodyPost_ret (v := .tuple #[.agg #[.int .i64 0, .slice none 0 0], .bool false]) (by simp [results, Try.results39, go_sem, r0, r1]) rfl ?_
        exact ⟨0, .nil, none, 0, false, a, rfl, trivial, h2, Nat.le_refl _, ha, h3, fun h => by cases h⟩
      · have hl1 : decide ((ch.length : Int) ≤ (a : Int)) = false := by simp; omega
        have hl3 : decide (ch.length ≤ a) = false := by simp; omega
        have ha60 : 60 < a := by omega
        have hl2 : decide (60 < (a : Int)) = true := by simp; omega
        have hl4 : decide (60 < a) = true := by simp; omega
        clear hstop
        go_wp2_with fail
        obtain ⟨W, hW⟩ : ∃ W, W = ((wa.setCell ⟨b8, 0, none⟩ (.int .i64 0)).setCell ⟨b8, 1, none⟩ (.slice none 0 0)) := ⟨_, rfl⟩
        obtain ⟨h1, h2, h3, -⟩ := Hend.out
        rw [← hW] at h1 h2 h3 ⊢
        have r0 := h1.cell 0
        have r1 := h1.cell 1
        simp only [List.getElem?_cons_zero, List.getElem?_cons_succ] at r0 r1
        refine bodyPost_ret (v := .tuple #[.agg #[.int .i64 0, .slice none 0 0], .bool false]) (by simp [results, Try.results39, go_sem, r0, r1]) rfl ?_
        exact ⟨0, .nil, none, 0, false, a, rfl, trivial, h2, Nat.le_refl _, ha, h3, fun h => by cases h⟩
    · have hal : a < ch.length := by omega
      have ha60 : ¬ 60 < a := by omega
      have hl1 : decide ((ch.length : Int) ≤ (a : Int)) = false := by simp; omega
      have hl2 : decide (60 < (a : Int)) = false := by simp; omega
      obtain ⟨gcb, ofc, hgc, hlc, cc1⟩ := hin.c.at hal
      have hai : (a : Int) < (ch.length : Int) := by omega
      rw [hgc]
      have hl3 : decide (ch.length ≤ a) = false := by simp; omega
      go_upto_region 8 with fail
      obtain ⟨pick, hpick⟩ : ∃ pick, pick = ch[a] := ⟨_, rfl⟩
      rw [← hgc, ← hpick]
      have Hgc := hid hgc
      clear hgc
      have hkp1 : Kp (fun k => k = ba) wa (wa.setCell ⟨ba, 0, none⟩ (.int .i64 ((a : Int) + 1))) := Kp.set (S := fun k => k = ba) (p := ⟨ba, 0, none⟩) (Kp.refl _ _) (.inl rfl) _
      have hka1 := hin.a.set 0 (.int .i64 ((a : Int) + 1))
      simp only [List.set_cons_zero] at hka1
      obtain ⟨wl, hwl⟩ : ∃ wl, wl = wa.setCell ⟨ba, 0, none⟩ (.int .i64 ((a : Int) + 1)) := ⟨_, rfl⟩
      rw [← hwl] at hkp1 hka1 ⊢
      have hin1 : GrIn wl B ba ps gp gc ch (a + 1) := hin.kp hkp1 (fun k e => by omega) (hka1.of (by rw [show ((a + 1 : Nat) : Int) = (a : Int) + 1 by omega]))
      have hb4w : w.heap.size = b4 := Hb4.out.symm
      have hb8w : b8 = b4 + 1 := Hb8.out
      have hk4l := hk4.kp hkp1 (fun e => by have := Hbaw.out; omega)
      have hk8l := hk8.kp hkp1 (fun e => by have := Hbaw.out; omega)
      have Hin1 := hid hin1
      have Hk4l := hid hk4l
      have Hk8l := hid hk8l
      have Hkp1 := hid hkp1
      have Hpick := hid hpick
      have t4 := hk4l.cell 4
      simp only [List.getElem?_cons_zero, List.getElem?_cons_succ] at t4
      clear hwl hkp1 hka1 hin1 hk4l hk8l hin cc1 hl1 hl2 hl3 hai hk4 hk8 hb0 d0 d1 f0 f1 ca fa hpick hb4w hb8w
      go_wp2_with fail
      clear t4
      go_loopg [11, 12] ps.length (fun k v11 v12 wr => GO1 wl ps s k v11 v12 wr)
      case atStart => exact ⟨0, _, rfl, rfl, by omega, by simpa [ownP] using World.ownsRow_nil _ _ _ _, rfl, Below.refl _ _⟩
      case round =>
        obtain ⟨q, vo, rfl, rfl, hq, hown, hk, hb⟩ := hrel
        have Hk := hid hk
        have Hb := hid hb
        have t4 := (Hk4l.out.below hb Hk4l.out.lt).cell 4
        simp only [List.getElem?_cons_zero, List.getElem?_cons_succ] at t4
        by_cases hlt : q < ps.length
        · have hlt' : (q : Int) < (ps.length : Int) := by omega
          have hq0 : (0 : Int) ≤ (q : Int) := by omega
          obtain ⟨x, hx⟩ : ∃ x, x = ps[q] := ⟨_, rfl⟩
          have hxi : ps[q]? = some x := by rw [hx]; exact List.getElem?_eq_getElem hlt
          have hxd : (ps.getD q (0, [])).1 = x.1 := by rw [List.getD, hxi]; rfl
          obtain ⟨l, r⟩ := x
          obtain ⟨g, off, gr, cr, hgp, hg, hc0, hc1, hri⟩ := Hin1.out.p q _ hxi
          simp only at hc0 hc1 hri hxd
          have hbl : B ≤ wl.heap.size := by have h1 := Hin1.out.a.lt; have h2 := Hin1.out.hB; omega
          have e0 := (Hb.out.cell (p := ⟨g, _, none⟩) (Nat.lt_of_lt_of_le hg hbl)).trans hc0
          have Hxd := hid hxd
          clear hx hxi hc0 hc1 hri hk hb hxd
          have hzl := ownP_le ps s q
          by_cases hls : l = s
          · subst hls
            have hlb : (l == l) = true := by simp
            obtain ⟨g2, cap2, w4, hrun, hown4, hk4', hg4, hl4⟩ := int_app (P := Try.prog) hown 22 22 i3 Try.underlying22 hi3 y0 y1 y2 Hb.out.size (by omega) (q : Int) 0
            have hsn : (ownP ps l q).length ≤ 1000 := by omega
            have hb4 : Below wl.heap.size wr w4 := hk4'.to_below (by exact Hb.out.size) (fun k e => (World.ownsRow.lt hown k e).1)
            have Hown4 := hid hown4
            have Hb4' := hid (Hb.out.trans hb4)
            have hrun' : (Builtin.append_ #[22, 22] 22 #[vo, .slice (some ⟨wr.heap.size, 0, none⟩) 1 1]).run Try.prog (wr.alloc (.cells #[.int .i64 (q : Int)] 3)) = .ok (.slice (some ⟨g2, 0, none⟩) ((ownP ps l q).length + 1) cap2) w4 := hrun
            have Hrun := hid hrun'
            clear hown hrun hown4 hk4' hg4 hl4 hb4 hrun'
            rw [hgp]
            go_wp2_with (at_builtin; refine wpList_append_run rfl _ _ _ rfl vo (.slice (some ⟨wr.heap.size, 0, none⟩) 1 1) (.slice (some ⟨g2, 0, none⟩) ((ownP ps l q).length + 1) cap2) w4 (by rfl) (by rfl) (by exact Hrun.out) ?_)
            rw [← hgp]
            go_roundg (ps.length - (q + 1))
            case measure => have hk := Hk.out; omega
            case rel =>
              have h9 := Hown4.out
              rw [List.length_append] at h9
              exact ⟨q + 1, _, by go_num, rfl, by omega, by rw [ownP_yes Hxd.out, List.length_append]; exact h9, rfl, Hb4'.out⟩
          · have hlb : (l == s) = false := by simp [hls]
            have Hown := hid hown
            clear hown
            rw [hgp]
            go_wp2_with fail
            rw [← hgp]
            go_roundg (ps.length - (q + 1))
            case measure => have hk := Hk.out; omega
            case rel => exact ⟨q + 1, _, by go_num, rfl, by omega, by rw [ownP_no (by rw [Hxd.out]; exact hls)]; exact Hown.out, rfl, Hb.out⟩
        · have hge : ¬ (q : Int) < (ps.length : Int) := by omega
          have hqe : q = ps.length := by omega
          clear hk hb
          subst hqe
          by_cases hne : ownP ps s ps.length = []
          · rw [hne] at hown
            obtain ⟨ga, cap, rfl, -⟩ := own_rowI (zs := []) hown
            have hk8r := Hk8l.out.below Hb.out Hk8l.out.lt
            have e0 := hk8r.cell 0
            have e1 := hk8r.cell 1
            have x0 := hk8r.free 0
            have x1 := hk8r.free 1
            simp only [List.getElem?_cons_zero, List.getElem?_cons_succ] at e0 e1
            have Hk8r := hid hk8r
            have hend := grown_end ((kp_bel Hb0.out).trans (Hkp1.out.trans (kp_bel Hb.out))) hk8r (by have := Hb4.out; have := Hb8.out; omega) Hbaw.out (Hin1.out.a.below Hb.out Hin1.out.a.lt) (.int .i64 0) (.slice none 0 0)
            have Hend := hid hend
            clear hown hne hk8r hend
            go_wp2_with fail
            obtain ⟨W, hW⟩ : ∃ W, W = ((wr.setCell ⟨b8, 0, none⟩ (.int .i64 0)).setCell ⟨b8, 1, none⟩ (.slice none 0 0)) := ⟨_, rfl⟩
            obtain ⟨h1, h2, h3, -⟩ := Hend.out
            rw [← hW] at h1 h2 h3 ⊢
            have r0 := h1.cell 0
            have r1 := h1.cell 1
            simp only [List.getElem?_cons_zero, List.getElem?_cons_succ] at r0 r1
            refine bodyPost_ret (v := .tuple #[.agg #[.int .i64 0, .slice none 0 0], .bool false]) (by simp [results, Try.results39, go_sem, r0, r1]) rfl ?_
            exact ⟨0, .nil, none, 0, false, a + 1, rfl, trivial, h2, by omega, by omega, h3, fun h => by cases h⟩
          · have hpos : 0 < (ownP ps s ps.length).length := List.length_pos_iff.2 hne
            have hzl := ownP_le ps s ps.length
            obtain ⟨ga, cap, rfl, hrow⟩ := own_rowI hown
            obtain ⟨n, hn⟩ : ∃ n, n = (ownP ps s ps.length).length := ⟨_, rfl⟩
            rw [← hn] at hpos hzl ⊢
            have hn0 : (0 : Int) < (n : Int) := by omega
            have hn1 : (n : Int) ≤ 1000 := by omega
            have hne0 : ((n : Int) == 0) = false := by simp; omega
            have hnz : ¬ (n : Int) = 0 := by omega
            have ht1 : pick.tmod (n : Int) < (n : Int) := Int.tmod_lt_of_pos pick hn0
            have ht2 : -(n : Int) < pick.tmod (n : Int) := by have := Int.lt_tmod_of_pos pick hn0; omega
            have ht3 := Int.tmod_lt_of_pos (pick.tmod (n : Int) + (n : Int)) hn0
            have ht4 := Int.tmod_nonneg (a := pick.tmod (n : Int) + (n : Int)) (n : Int) (by omega)
            obtain ⟨ix, hix⟩ : ∃ ix : Nat, (pick.tmod (n : Int) + (n : Int)).tmod (n : Int) = (ix : Int) := ⟨_, (Int.toNat_of_nonneg ht4).symm⟩
            rw [hix] at ht3
            have hixn : ix < (ownP ps s ps.length).length := by omega
            obtain ⟨g, off, rfl, hg, hcx⟩ := hrow.at hixn
            obtain ⟨qx, R, hqx, hqR⟩ := ownP_mem (List.getElem_mem hixn)
            rw [hqx] at hcx
            clear ht4 hqx hrow hown hne hixn hn
            go_upto_region 16 with fail
            have hk13 := Bk.new wr 45 [.int .i64 qx, .slice none 0 0]
            have hb13 : Below wr.heap.size wr (wr.alloc (.cells #[.int .i64 qx, .slice none 0 0] 45)) := bel_al (bel_id wr) _
            obtain ⟨wx, hwx⟩ : ∃ wx, wx = wr.alloc (.cells #[.int .i64 qx, .slice none 0 0] 45) := ⟨_, rfl⟩
            obtain ⟨b13, hb13e⟩ : ∃ b13, b13 = wr.heap.size := ⟨_, rfl⟩
            rw [← hwx] at hk13 hb13 ⊢
            rw [← hb13e] at hk13 ⊢
            have hlbx : Below wl.heap.size wl wx := belw Hb.out hb13
            have hinx := Hin1.out.later hlbx
            have hk4x := Hk4l.out.below hlbx Hk4l.out.lt
            have hk8x := Hk8l.out.below hlbx Hk8l.out.lt
            have hkwx : Kp (fun k => k = ba) w wx := (kp_bel Hb0.out).trans (Hkp1.out.trans (kp_bel hlbx))
            have hx13 : wl.heap.size ≤ b13 := by rw [hb13e]; exact Hb.out.size
            have hx13' : b8 < b13 := by have := Hk8l.out.lt; omega
            have hR16 : R.length ≤ 16 := hinx.r16 _ (List.mem_of_getElem? hqR)
            obtain ⟨gq, oq, gr, cr, hgq, hlq, hq0', hq1, hrr⟩ := hinx.p qx _ hqR
            simp only at hq0' hq1 hrr
            have hqlt : qx < ps.length := (List.getElem?_eq_some_iff.1 hqR).1
            have hqlt' : (qx : Int) < (ps.length : Int) := by omega
            have hqx0 : (0 : Int) ≤ (qx : Int) := by omega
            have t4x := hk4x.cell 4
            have n0 := hk13.cell 0
            simp only [List.getElem?_cons_zero, List.getElem?_cons_succ] at t4x n0
            have Hinx := hid hinx
            have Hk4x := hid hk4x
            have Hk8x := hid hk8x
            have Hkwx := hid hkwx
            have Hk13 := hid hk13
            have HqR := hid hqR
            have Hrr := hid hrr
            have Hb13e := hid hb13e
            have Hix := hid hix
            clear hwx hb13e hlbx hinx hk4x hk8x hkwx hk13 hb13 hqR hrr hq0' hcx ht1 ht2 ht3 hix t4
            go_upto_region 17 with (rw [hgq])
            rw [← hgq]
            clear t4x n0 hq1 hgq
            obtain ⟨wo, rfl⟩ : ∃ wo : World, wo = wr := ⟨_, rfl⟩
            go_wp2_with fail
            go_loopg [15] R.length (fun k v15 wq => GO2 wx ba b13 ps R qx (a + 1) k v15 wq)
            case atStart => exact ⟨0, a + 1, .nil, .slice none 0 0, rfl, by omega, by rw [List.take_zero]; rfl, rfl, by simp [Fo.nodes], Nat.le_refl _, by omega, Hinx.out.a, Hk13.out, KidsOwn.nil _ _ _, rfl, Kp.refl _ _⟩
            case round =>
              obtain ⟨z, az, F, vr, rfl, hz, hdv, hFl, hFn, haz1, haz2, hbka, hbk13, hko, hkz, hkpz⟩ := hrel
              have hinz := Hinx.out.kp hkpz (fun k e => by have := Hin1.out.a.lt; omega) hbka
              have hba13 : ba < b13 := by have := Hin1.out.a.lt; omega
              have HFl := hid hFl
              have hF16 : F.len ≤ 16 := by omega
              clear hFl
              by_cases hltz : z < R.length
              · have hltz' : (z : Int) < (R.length : Int) := by omega
                have hz0 : (0 : Int) ≤ (z : Int) := by omega
                obtain ⟨s2, hs2⟩ : ∃ s2, s2 = R[z] := ⟨_, rfl⟩
                have hz5 : B ≤ wx.heap.size := by have h1 := Hinx.out.a.lt; have h2 := Hinx.out.hB; omega
                have hbB : Below B wx wr := hkpz.to_below hz5 (fun k e => by have h2 := Hinx.out.hB; omega)
                obtain ⟨gs, os, rfl, hgs, hcs⟩ := (Hrr.out.below hbB).at hltz
                rw [← hs2] at hcs
                have hk4z := Hk4x.out.kp hkpz (fun e => by have h1 := Hbaw.out; have h2 := Hb4.out; have h3 := Hb8.out; omega)
                have q0 := hk4z.cell 0
                have q1 := hk4z.cell 1
                have q2 := hk4z.cell 2
                have q3 := hk4z.cell 3
                have q4 := hk4z.cell 4
                simp only [List.getElem?_cons_zero, List.getElem?_cons_succ] at q0 q1 q2 q3 q4
                have hzba : ba < wr.heap.size := hbka.lt
                have hb4n : ¬ b4 = ba := by have h1 := Hbaw.out; have h2 := Hb4.out; omega
                have hwrn : ¬ wr.drew.heap.size = ba := by show ¬ wr.heap.size = ba; omega
                have hb4w : ¬ b4 = wr.heap.size := by have h1 := hk4z.lt; omega
                have hb4w' : ¬ wr.heap.size = b4 := fun e => hb4w e.symm
                have hgsw : ¬ gs = wr.heap.size := by have h2 := hinz.hB; omega
                have hgsw' : ¬ wr.heap.size = gs := fun e => hgsw e.symm
                have hgsn : ¬ gs = ba := by have h2 := hinz.hB; omega
                have hih : ∀ wy : World, Below wr.heap.size wr wy → Calls Try.prog 39 #[.agg #[v0, v1, v2, v3, .slice gp ps.length cp], .int .i64 s2, .slice gc ch.length cc, .pointer (some ⟨ba, 0, none⟩)] wy (GrownPost wy ba ps s2 az) := fun wy hwy =>
                  Hih.out (61 - az) (by have := Hm.out; omega) wy az s2 (hinz.later hwy) haz2 rfl
                have hkww : Kp (fun k => k = ba) w wr := ((Hkwx.out.mono (S' := fun k => k = ba ∨ b13 ≤ k) (fun k _ e => .inl e)).trans hkpz).mono (fun k hk e => e.resolve_right (by have h2 := Hb4.out; have h3 := Hb8.out; omega))
                have Hkww := hid hkww
                clear hkww
                have Hih2 := hid hih
                have Hbka := hid hbka
                have Hbk13 := hid hbk13
                have Hko := hid hko
                have Hinz := hid hinz
                have Hkpz := hid hkpz
                have Hkz := hid hkz
                have Hs2 := hid hs2
                have hz13 : b13 < wr.heap.size := hbk13.lt
                clear hih hbka hbk13 hko hinz hkpz hkz hs2 hbB hk4z
                go_wp2_with fail
                go_cut [16, 17] from 96 to 106 (fun v16 v17 wy => GCut wr ba ps s2 az v16 v17 wy)
                case first =>
                  go_region_held3 (fun w' => w'.cell? ⟨b4, 0, none⟩ = some v0 ∧ w'.cell? ⟨b4, 1, none⟩ = some v1 ∧ w'.cell? ⟨b4, 2, none⟩ = some v2 ∧ w'.cell? ⟨b4, 3, none⟩ = some v3 ∧ w'.cell? ⟨b4, 4, none⟩ = some (.slice gp ps.length cp) ∧ w'.cell? ⟨gs, os + z, none⟩ = some (.int .i64 s2))
                    (go_keep)
                    ((go_at_call 39; refine (Hih2.out _ (by first | exact below_drewN (bel_id wr) 1 | exact bel_al (below_drewN (bel_id wr) 1) _)).mono ?_; rintro e w5 ⟨p5, k5, gk5, ck5, ok5, a5, rfl, hfo5, hba5, ha51, ha52, hkp5, hok5⟩; have hkp6 : Kp (fun k => k = ba) wr w5 := (by first | exact (kp_bel (below_drewN (bel_id wr) 1)).trans hkp5 | exact (kp_bel (bel_al (below_drewN (bel_id wr) 1) _)).trans hkp5); have r0 := hkp6.cell q0 hb4n; have r1 := hkp6.cell q1 hb4n; have r2 := hkp6.cell q2 hb4n; have r3 := hkp6.cell q3 hb4n; have r4 := hkp6.cell q4 hb4n; have r5 := hkp6.cell hcs hgsn; (try (have kt : Bk w5 wr.heap.size 45 [.int .i64 0, .slice none 0 0] := Bk.kp (Bk.new wr.drew 45 [.int .i64 0, .slice none 0 0]) hkp5 hwrn; have m0 := kt.cell 0; have m1 := kt.cell 1; have m2 := kt.free 0; have m3 := kt.free 1; simp only [List.getElem?_cons_zero, List.getElem?_cons_succ] at m0 m1; have Hkt := hid kt; clear kt)); have Hkp5 := hid hkp5; have Hkp6 := hid hkp6; have Hfo5 := hid hfo5; have Hba5 := hid hba5; have Hok5 := hid hok5; clear hkp5 hkp6 hfo5 hba5 hok5))
                  · go_wp2_with fail
                    go_meet
                    case rel =>
                      have hal : Below w5.heap.size w5 (w5.alloc (.cells #[.int .i64 p5, .slice gk5 k5.len ck5] 45)) := bel_al (bel_id w5) _
                      exact ⟨w5.heap.size, p5, k5, gk5, ck5, ok5, a5, rfl, rfl, Bk.new w5 _ _, (Hfo5.out.below hal (fun k hk => hk.2)).mono fun k hk => ⟨hk.1, Nat.lt_of_lt_of_le hk.2 hal.size⟩, Hba5.out.alloc _, ha51, ha52, Hkp6.out.alloc _, Hok5.out⟩
                  · go_wp2_with fail
                    go_meet
                    case rel =>
                      have hks : Kp (fun k => k = wr.heap.size) w5 ((w5.setCell ⟨wr.heap.size, 0, none⟩ (.int .i64 p5)).setCell ⟨wr.heap.size, 1, none⟩ (.slice gk5 k5.len ck5)) := Kp.set (S := fun k => k = wr.heap.size) (p := ⟨wr.heap.size, 1, none⟩) (Kp.set (S := fun k => k = wr.heap.size) (p := ⟨wr.heap.size, 0, none⟩) (Kp.refl _ _) (.inl rfl) _) (.inl rfl) _
                      have hb16 := (Hkt.out.set 0 (.int .i64 p5)).set 1 (.slice gk5 k5.len ck5)
                      simp only [List.set_cons_zero, List.set_cons_succ] at hb16
                      have hszd : (wr.alloc (.cells #[.int .i64 0, .slice none 0 0] 45)).drew.heap.size = wr.heap.size + 1 := by show (wr.alloc (.cells #[.int .i64 0, .slice none 0 0] 45)).heap.size = _; simp
                      have hfo6 : FoAt w5 (fun q => wr.heap.size + 1 ≤ q ∧ q < w5.heap.size) gk5 k5 0 := Hfo5.out.mono fun q hq => ⟨by have h1 := hq.1; rw [hszd] at h1; exact h1, hq.2⟩
                      exact ⟨wr.heap.size, p5, k5, gk5, ck5, ok5, a5, rfl, rfl, hb16, (hfo6.kp hks (fun k hk e => absurd e (by have h1 := hk.1; show ¬ k = wr.heap.size; omega))).mono fun k hk => ⟨Nat.le_of_succ_le hk.1, Nat.lt_of_lt_of_le hk.2 hks.size⟩, Hba5.out.kp hks (fun e => hwrn e.symm), ha51, ha52, Kp.set (p := ⟨wr.heap.size, 1, none⟩) (Kp.set (p := ⟨wr.heap.size, 0, none⟩) Hkp6.out (.inr (Nat.le_refl _)) _) (.inr (Nat.le_refl _)) _, Hok5.out⟩
                case rest =>
                  obtain ⟨b16, p5, k5, gk5, ck5, ok5, a5, rfl, rfl, hb16, hfo5, hba5, ha51, ha52, hkp5, hok5⟩ := hcut
                  clear q0 q1 q2 q3 q4 hcs
                  have x0 := hb16.cell 0
                  have x1 := hb16.cell 1
                  simp only [List.getElem?_cons_zero, List.getElem?_cons_succ] at x0 x1
                  cases ok5 with
                  | false =>
                    have hk8c := (Hk8x.out.kp Hkpz.out (fun e => by have h1 := Hbaw.out; have h2 := Hb4.out; have h3 := Hb8.out; rcases e with e | e <;> omega)).kp hkp5 (fun e => by have h1 := Hbaw.out; have h2 := Hb4.out; have h3 := Hb8.out; omega)
                    have e0 := hk8c.cell 0
                    have e1 := hk8c.cell 1
                    have y0 := hk8c.free 0
                    have y1 := hk8c.free 1
                    simp only [List.getElem?_cons_zero, List.getElem?_cons_succ] at e0 e1
                    have hend := grown_end (Hkww.out.trans hkp5) hk8c (by have := Hb4.out; have := Hb8.out; omega) Hbaw.out hba5 (.int .i64 0) (.slice none 0 0)
                    have Hend := hid hend
                    clear hend hk8c hb16 hfo5 hba5 hkp5 hok5
                    go_wp2_with fail
                    obtain ⟨W, hW⟩ : ∃ W, W = ((wc.setCell ⟨b8, 0, none⟩ (.int .i64 0)).setCell ⟨b8, 1, none⟩ (.slice none 0 0)) := ⟨_, rfl⟩
                    obtain ⟨h1, h2, h3, -⟩ := Hend.out
                    rw [← hW] at h1 h2 h3 ⊢
                    have r0 := h1.cell 0
                    have r1 := h1.cell 1
                    simp only [List.getElem?_cons_zero, List.getElem?_cons_succ] at r0 r1
                    refine bodyPost_ret (v := .tuple #[.agg #[.int .i64 0, .slice none 0 0], .bool false]) (by simp [results, Try.results39, go_sem, r0, r1]) rfl ?_
                    exact ⟨0, .nil, none, 0, false, a5, rfl, trivial, h2, by omega, by omega, h3, fun h => by cases h⟩
                  | true =>
                    obtain ⟨hdv5, hn5⟩ := hok5 rfl
                    have hko5 := Hko.out.kp hkp5 (fun k hk1 hk2 e => by omega)
                    have hbk5 := Hbk13.out.kp hkp5 (fun e => by omega)
                    have hne : ∀ k, vr.ownBlock = some k → b13 + 1 ≤ k ∧ k < wr.heap.size := Hko.out.lt
                    have hfo6 := hfo5.mono (D' := fun q => b13 + 1 ≤ q ∧ q < wc.heap.size ∧ vr.ownBlock ≠ some q) (fun k hk => ⟨Nat.le_trans hz13 hk.1, hk.2, fun e => absurd (hne k e).2 (Nat.not_lt.2 hk.1)⟩)
                    obtain ⟨g7, cap7, w7, hrun, hko7, hk7, hg7, hl7⟩ := hko5.app (P := Try.prog) 43 43 i2 Try.underlying43 hi2 z0 z1 z2 hbk5.lt (by omega) p5 k5 gk5 ck5 hfo6 0
                    have hbk7 := hbk5.kp hk7 (fun e => absurd (hne b13 e).1 (Nat.not_succ_le_self _))
                    have hba7 := hba5.kp hk7 (fun e => by have h1 := (hne ba e).1; omega)
                    have c5 := hbk5.cell 1
                    have c6 := (hbk5.alloc (.cells #[.int .i64 p5, .slice gk5 k5.len ck5] 45)).cell 1
                    have c7 := hbk7.cell 1
                    have f7 := hbk7.free 1
                    simp only [List.getElem?_cons_zero, List.getElem?_cons_succ] at c5 c6 c7
                    have hrun' : (Builtin.append_ #[43, 43] 43 #[vr, .slice (some ⟨wc.heap.size, 0, none⟩) 1 1]).run Try.prog (wc.alloc (.cells #[.int .i64 p5, .slice gk5 k5.len ck5] 45)) = .ok (.slice (some ⟨g7, 0, none⟩) (F.len + 1) cap7) w7 := hrun
                    have Hrun := hid hrun'
                    have Hko7 := hid hko7
                    have Hk7 := hid hk7
                    have Hbk7 := hid hbk7
                    have Hba7 := hid hba7
                    have Hkp5 := hid hkp5
                    have Hdv5 := hid hdv5
                    clear hrun hrun' hko7 hk7 hbk7 hba7 hko5 hbk5 hfo6 hfo5 hba5 hkp5 hok5 hg7 hb16 hdv5
                    go_wp2_with (at_builtin; refine wpList_append_run rfl _ _ _ rfl vr (.slice (some ⟨wc.heap.size, 0, none⟩) 1 1) (.slice (some ⟨g7, 0, none⟩) (F.len + 1) cap7) w7 (by rfl) (by rfl) (by exact Hrun.out) ?_)
                    go_roundg (R.length - (z + 1))
                    case measure => have hk := Hkz.out; omega
                    case rel =>
                      have hkS : Kp (fun x => x = b13) w7 (w7.setCell ⟨b13, 1, none⟩ (.slice (some ⟨g7, 0, none⟩) (F.len + 1) cap7)) := Kp.set (S := fun x => x = b13) (p := ⟨b13, 1, none⟩) (Kp.refl _ _) (.inl rfl) _
                      refine ⟨z + 1, a5, F.app (.cons p5 k5 .nil), .slice (some ⟨g7, 0, none⟩) (F.len + 1) cap7, by go_num, by omega, ?_, ?_, ?_, by omega, ha52, Hba7.out.kp hkS (Nat.ne_of_lt hba13), Hbk7.out.set 1 _, ?_, rfl, ?_⟩
                      · rw [List.take_add_one, List.getElem?_eq_getElem hltz, ← Hs2.out]
                        exact hdv.app Hdv5.out
                      · rw [Fo.len_app, HFl.out]; rfl
                      · rw [Fo.nodes_app]
                        simp only [Fo.nodes]
                        omega
                      · exact Hko7.out.kp hkS (fun k h1 _ h3 => absurd h3 (by show ¬ k = b13; omega))
                      · exact Kp.set (p := ⟨b13, 1, none⟩) ((Hkpz.out.trans (Hkp5.out.mono (fun k _ e => .inl e))).trans (Hk7.out.mono (fun k _ e => .inr (by have h1 := (hne k e).1; show b13 ≤ k; omega)))) (.inl (.inr (Nat.le_refl _))) _
              · have hgez : ¬ (z : Int) < (R.length : Int) := by omega
                have hzr : z = R.length := by omega
                rw [hzr, List.take_length] at hdv
                obtain ⟨gk, ck, rfl, hlies⟩ := hko.lies
                have hk8c := Hk8x.out.kp hkpz (fun e => by have h1 := Hbaw.out; have h2 := Hb4.out; have h3 := Hb8.out; rcases e with e | e <;> omega)
                have hkww : Kp (fun k => k = ba) w wr := ((Hkwx.out.mono (S' := fun k => k = ba ∨ b13 ≤ k) (fun k _ e => .inl e)).trans hkpz).mono (fun k hk e => e.resolve_right (by have h2 := Hb4.out; have h3 := Hb8.out; omega))
                have e0 := hk8c.cell 0
                have e1 := hk8c.cell 1
                have y0 := hk8c.free 0
                have y1 := hk8c.free 1
                have m0 := hbk13.cell 0
                have m1 := hbk13.cell 1
                simp only [List.getElem?_cons_zero, List.getElem?_cons_succ] at e0 e1 m0 m1
                have hend := grown_end hkww hk8c (by have := Hb4.out; have := Hb8.out; omega) Hbaw.out hbka (.int .i64 qx) (.slice gk F.len ck)
                have Hend := hid hend
                have Hlies := hid hlies
                have Hdv := hid hdv
                clear hend hk8c hbk13 hlies hdv hkww hko hkpz hbka hzr hinz hkz
                go_wp2_with fail
                obtain ⟨W, hW⟩ : ∃ W, W = ((wr.setCell ⟨b8, 0, none⟩ (.int .i64 qx)).setCell ⟨b8, 1, none⟩ (.slice gk F.len ck)) := ⟨_, rfl⟩
                obtain ⟨h1, h2, h3, h4⟩ := Hend.out
                rw [← hW] at h1 h2 h3 h4 ⊢
                have r0 := h1.cell 0
                have r1 := h1.cell 1
                simp only [List.getElem?_cons_zero, List.getElem?_cons_succ] at r0 r1
                refine bodyPost_ret (v := .tuple #[.agg #[.int .i64 qx, .slice gk F.len ck], .bool true]) (by simp [results, Try.results39, go_sem, r0, r1]) rfl ?_
                refine ⟨qx, F, gk, ck, true, az, rfl, ?_, h2, by omega, haz2, h3, fun _ => ⟨⟨s, [], rfl, .inr ⟨hs, qx, R, rfl, HqR.out, Hdv.out⟩, rfl⟩, by omega⟩⟩
                exact (Hlies.out.kp h4 (fun k hk e => absurd e (by have h5 := hk.1; show ¬ k = b8; omega))).mono fun k hk => ⟨by have h5 := hk.1; have h6 := Hb4.out; have h7 := Hb8.out; omega, Nat.lt_of_lt_of_le hk.2 h4.size⟩
theorem grown_calls {B ba : Nat} {ps : List (Int × List Int)} {gp gc : Option Addr} {ch : List Int} {v0 v1 v2 v3 : Value} {cp cc : Nat} (m : Nat) : GrownSays B ba ps gp gc ch v0 v1 v2 v3 cp cc m := by
  induction m using Nat.strongRecOn with
  | ind m ih => exact grown_step m ih
end Go.Proofs.Ytaehooafdbaomaa
