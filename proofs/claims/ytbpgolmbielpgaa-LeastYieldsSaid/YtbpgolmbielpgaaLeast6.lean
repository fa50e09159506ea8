/- Chapter 15 (least): tree. -/
import Derived.Test.YtbpgolmbielpgaaLeast5
import Derived.Test.YtbpgolmbielpgaaKids0
namespace Go.Proofs.Ytbpgolmbielpgaa
open Go.RowKit
attribute [local go_sem ↓] Go.wp_at_zero Go.wp_at_succ
attribute [local go_sem] frozen_alloc_lt

theorem treeInfo : (Try.prog.info? 45).map (fun i => (i.zero, i.size, i.bytes)) = some (some (.agg #[.int .i64 0, .slice none 0 0]), 2, 32) := by kernel_rfl
/-- What tree stands on. -/
structure TrIn (w : World) (V : GV) (bt bn n cb : Nat) (gw : Option Addr) (cw : Nat) (word : List Int) (R : Nat → Nat) (C : Nat → Nat → Nat) (N : Nat → Nat → Nat → Int) (ps : List (Int × List Int)) : Prop where
  tab : Tab w V bt bn n cb gw cw word R C N
  wd : RowI w w.heap.size gw word
  len : word.length ≤ 64
  prods : RowP w w.heap.size V.gp ps
  lp : V.lp = ps.length
  pl : ps.length ≤ 65536
  sy : ∀ x ∈ ps, x.2.length ≤ 16 ∧ 0 ≤ x.1 ∧ x.1 < (n : Int) ∧ ∀ s ∈ x.2, s < (n : Int) ∧ -65536 ≤ s
  L : Le.LeastN ps word N
theorem TrIn.later {w w' : World} {V : GV} {bt bn n cb : Nat} {gw : Option Addr} {cw : Nat} {word : List Int} {R : Nat → Nat} {C : Nat → Nat → Nat} {N : Nat → Nat → Nat → Int} {ps : List (Int × List Int)} (h : TrIn w V bt bn n cb gw cw word R C N ps) (hb : Below w.heap.size w w') : TrIn w' V bt bn n cb gw cw word R C N ps :=
  ⟨h.tab.later hb, (h.wd.below hb).mono hb.size, h.len, (h.prods.below hb).mono hb.size, h.lp, h.pl, h.sy, h.L⟩
/-- What tree answers: a least tree of the symbol and the part, its root the first production that has one. -/
def TreePost (w : World) (ps : List (Int × List Int)) (word : List Int) (N : Nat → Nat → Nat → Int) (s : Int) (fr en : Nat) (v : Int) (e : Ending) (w' : World) : Prop :=
  ∃ (p : Int) (kids : Fo) (gk : Option Addr) (ck : Nat), e = .returned (.agg #[.int .i64 p, .slice gk kids.len ck]) ∧ FoAt w' (fun k => w.heap.size ≤ k ∧ k < w'.heap.size) gk kids 0 ∧ Fo.Of ps word (.cons p kids .nil) [s] fr en ∧ ((1 + kids.nodes : Nat) : Int) = v ∧
    (0 ≤ s → ∀ (q : Nat) (R : List Int), ps[q]? = some (s, R) → Le.tl (Le.ofT N word) en R fr ≠ -1 → Le.tl (Le.ofT N word) en R fr + 1 = v → p ≤ (q : Int)) ∧ Below w.heap.size w w'
def TreeSays (V : GV) (bt bn n cb : Nat) (gw : Option Addr) (cw : Nat) (word : List Int) (R : Nat → Nat) (C : Nat → Nat → Nat) (N : Nat → Nat → Nat → Int) (ps : List (Int × List Int)) (m : Nat) : Prop :=
  ∀ (w : World), TrIn w V bt bn n cb gw cw word R C N ps → ∀ (s : Int) (fr en : Nat) (v : Int), fr ≤ en → en ≤ word.length → s < (n : Int) → -65536 ≤ s → Le.ofT N word s fr en = v → v ≠ -1 → v < Le.cap → v.toNat = m →
    Calls Try.prog 54 #[.pointer (some ⟨bt, 0, none⟩), .int .i64 s, .int .i64 fr, .int .i64 en] w (TreePost w ps word N s fr en v)
/-- A production that gives the least tree. -/
def Good (N : Nat → Nat → Nat → Int) (word : List Int) (fr en : Nat) (v : Int) (r : List Int) : Prop := Le.tl (Le.ofT N word) en r fr ≠ -1 ∧ Le.tl (Le.ofT N word) en r fr + 1 = v
def TR1 (w0 : World) (b8 : Nat) (N : Nat → Nat → Nat → Int) (word : List Int) (ps : List (Int × List Int)) (a : Int) (fr en : Nat) (v : Int) (k : Nat) (v42 : Value) (w : World) : Prop :=
  ∃ q : Nat, v42 = .int .i64 q ∧ q ≤ ps.length ∧ (∀ (q' : Nat) (R : List Int), q' < q → ps[q']? = some (a, R) → ¬ Good N word fr en v R) ∧ Bk w b8 45 [.int .i64 0, .slice none 0 0] ∧ k = ps.length - q ∧ Below w0.heap.size w0 w
def TR2 (wl : World) (b14 : Nat) (N : Nat → Nat → Nat → Int) (word : List Int) (ps : List (Int × List Int)) (r : List Int) (fr en qi : Nat) (t0 : Int) (k : Nat) (v15 v77 : Value) (w : World) : Prop :=
  ∃ (z i : Nat) (F : Fo) (vr : Value), v15 = .int .i64 i ∧ v77 = .int .i64 z ∧ z ≤ r.length ∧ fr ≤ i ∧ i ≤ en ∧ Fo.Of ps word F (r.take z) fr i ∧ F.len = z ∧ (F.nodes : Int) + Le.tl (Le.ofT N word) en (r.drop z) i = t0 ∧ Le.tl (Le.ofT N word) en (r.drop z) i ≠ -1 ∧
    Bk w b14 45 [.int .i64 qi, vr] ∧ KidsOwn w (b14 + 1) 45 vr F ∧ k = r.length - z ∧ Below b14 wl w

/-- A kid that was made beside the row is appended. -/
theorem kid_app {P : Program} {w w5 : World} {b14 : Nat} {TP : TypeId} {u vr : Value} {f : Fo} (hko : KidsOwn w (b14 + 1) TP vr f) (hbk : Bk w b14 TP [u, vr]) (hb5 : Below w.heap.size w w5) (t ty : TypeId) (i : TypeInfo) (ht : P.underlying t = some (.slice TP)) (hi : P.info? TP = some i)
    (hz : i.zero = some (.agg #[.int .i64 0, .slice none 0 0])) (hsize : i.size = 2) (hby : i.bytes = 32) (hl : f.len ≤ 1000000) (p : Int) (k : Fo) (gk : Option Addr) (ck : Nat) (hk : FoAt w5 (fun q => w.heap.size ≤ q ∧ q < w5.heap.size) gk k 0) (q : Nat) :
    w5.cell? ⟨b14, 1, none⟩ = some vr ∧ (w5.alloc (.cells #[.int .i64 p, .slice gk k.len ck] TP)).cell? ⟨b14, 1, none⟩ = some vr ∧ ∃ g2 cap2 w2, (Builtin.append_ #[t, t] ty #[vr, .slice (some ⟨w5.heap.size, 0, none⟩) 1 1]).run P ((w5.alloc (.cells #[.int .i64 p, .slice gk k.len ck] TP)).drewN q) = .ok (.slice (some ⟨g2, 0, none⟩) (f.len + 1) cap2) w2 ∧
      w2.cell? ⟨b14, 1, none⟩ = some vr ∧ w2.frozen? ⟨b14, 1, none⟩ = false ∧
      Hid (KidsOwn w2 (b14 + 1) TP (.slice (some ⟨g2, 0, none⟩) (f.len + 1) cap2) (f.app (.cons p k .nil))) ∧ Hid (Bk w2 b14 TP [u, vr]) ∧ Hid (Below b14 w5 w2) := by
  have hlt := hbk.lt
  have hz5 := hb5.size
  have hko5 := hko.later hb5
  have hbk5 := hbk.below hb5 hlt
  have hne : ∀ k, vr.ownBlock = some k → b14 + 1 ≤ k ∧ k < w.heap.size := hko.lt
  have hfo3 := hk.mono (D' := fun q => b14 + 1 ≤ q ∧ q < w5.heap.size ∧ vr.ownBlock ≠ some q) (fun k hk => ⟨Nat.le_trans hlt hk.1, hk.2, fun e => absurd (hne k e).2 (Nat.not_lt.2 hk.1)⟩)
  obtain ⟨g7, cap7, w7, hrun, hko7, hk7, hg7, hl7⟩ := hko5.app (P := P) t ty i ht hi hz hsize hby (Nat.le_trans hlt hz5) hl p k gk ck hfo3 q
  have hbk7 := hbk5.kp hk7 (fun e => absurd (hne b14 e).1 (Nat.not_succ_le_self _))
  have c7 := hbk7.cell 1
  have c5 := hbk5.cell 1
  have c6 := (hbk5.alloc (.cells #[.int .i64 p, .slice gk k.len ck] TP)).cell 1
  simp only [List.getElem?_cons_zero, List.getElem?_cons_succ] at c7 c5 c6
  exact ⟨c5, c6, g7, cap7, w7, hrun, c7, hbk7.free 1, hid hko7, hid hbk7, hid (hk7.to_below (B := b14) (by omega) (fun k e => by have := (hne k e).1; omega))⟩

set_option maxHeartbeats 8000000 in
set_option maxRecDepth 8000 in
theorem tree_step {V : GV} {bt bn n cb : Nat} {gw : Option Addr} {cw : Nat} {word : List Int} {R : Nat → Nat} {C : Nat → Nat → Nat} {N : Nat → Nat → Nat → Int} {ps : List (Int × List Int)} (m : Nat)
    (ih : ∀ m', m' < m → TreeSays V bt bn n cb gw cw word R C N ps m') : TreeSays V bt bn n cb gw cw word R C N ps m := by
  intro w h s fr en v hfe hen hs hs0 hv hv0 hvc hm
  obtain ⟨i2, hi2, z0, z1, z2⟩ := info_parts treeInfo
  have H := hid h
  have Hih := hid ih
  have Hm := hid hm
  have Hv := hid hv
  have Hvc := hid hvc
  have hk8 := Bk.new w 45 [.int .i64 0, .slice none 0 0]
  have hb8 : Below w.heap.size w (w.alloc (.cells #[.int .i64 0, .slice none 0 0] 45)) := (Below.refl _ _).alloc (Nat.le_refl _) _
  by_cases h0 : 0 ≤ s
  · obtain ⟨a, rfl⟩ := Int.eq_ofNat_of_zero_le h0
    have han : a < n := by omega
    have hNv : N a fr en = v := by
      rw [← hv]; unfold Le.ofT; rw [if_pos h0, Int.toNat_natCast]
    obtain ⟨hv1, qe, Re, hqe, hqe1, hqe2⟩ := h.L.prod hen hNv hv0 hvc
    have Hqe : Hid (ps[qe]? = some ((a : Int), Re) ∧ Good N word fr en v Re) := hid ⟨hqe, hqe1, hqe2⟩
    have hH := h.later hb8
    have k6 := hH.tab.k.cell 6
    have k4 := hH.tab.k.cell 4
    simp only [List.getElem?_cons_zero, List.getElem?_cons_succ] at k6 k4
    rw [hH.lp] at k4
    obtain ⟨c, c1⟩ := hH.tab.rn a han
    have c2 := hH.tab.rr a fr han (by omega)
    have c3 := hH.tab.cell han (show fr ≤ word.length by omega) hen
    rw [hNv] at c3
    unfold rowI at c2
    have hd1 : (a : Int) < (n : Int) := hs
    have hi1 : (fr : Int) < ((word.length + 1 : Nat) : Int) := by omega
    have hj1 : (en : Int) < ((word.length + 1 : Nat) : Int) := by omega
    have ha0 : (0 : Int) ≤ (a : Int) := by omega
    have hi0 : (0 : Int) ≤ (fr : Int) := by omega
    have hj0 : (0 : Int) ≤ (en : Int) := by omega
    have hpl := h.pl
    have hwl := h.len
    obtain ⟨L, hL⟩ : ∃ L, L = word.length + 1 := ⟨_, rfl⟩
    rw [← hL] at c1 c2 hi1 hj1
    clear hL h ih hm hv hH hqe hqe1 hqe2 hs hNv hvc
    go_enter Try.func54, Try.ntmps54
    go_upto_region 1 with fail
    obtain ⟨wd, hwd⟩ : ∃ wd, wd = w.alloc (.cells #[.int .i64 0, .slice none 0 0] 45) := ⟨_, rfl⟩
    obtain ⟨b8, hb8e⟩ : ∃ b8, b8 = w.heap.size := ⟨_, rfl⟩
    rw [← hwd] at hk8 hb8 k6 k4 c1 c2 c3 ⊢
    rw [← hb8e] at hk8 ⊢
    have Hb8e := hid hb8e
    clear hwd hb8e
    go_wp2_with fail
    clear k4 k6 c1 c2 c3 hi1 hj1
    go_loopg [42] ps.length (fun k v42 wq => TR1 w b8 N word ps a fr en v k v42 wq)
    case atStart => exact ⟨0, rfl, by omega, fun q' R h1 => by omega, hk8, rfl, hb8⟩
    case round =>
      clear hk8 hb8
      obtain ⟨q, rfl, hq, hno, hbk8, hk, hb⟩ := hrel
      have Hk := hid hk
      have Hno := hid hno
      have Hbk8 := hid hbk8
      have Hb := hid hb
      clear hk hno hb
      by_cases hlt : q < ps.length
      · have hlt' : (q : Int) < (ps.length : Int) := by omega
        have hq0 : (0 : Int) ≤ (q : Int) := by omega
        obtain ⟨x, hx⟩ : ∃ x, x = ps[q] := ⟨_, rfl⟩
        have hxi : ps[q]? = some x := by rw [hx]; exact List.getElem?_eq_getElem hlt
        obtain ⟨hx16, hx0, hx1, hxs⟩ := H.out.sy x (by rw [hx]; exact List.getElem_mem hlt)
        have hTr := H.out.later Hb.out
        obtain ⟨l, r⟩ := x
        simp only at hx16 hx0 hx1 hxs
        obtain ⟨g, off, gr, cr, hgp, hg, hc0, hc1, hri⟩ := hTr.prods q _ hxi
        simp only at hc0 hc1 hri
        have HTr := hid hTr
        have Hxi := hid hxi
        clear hx hTr hxi
        have hbx : Below wr.heap.size wr (wr.alloc (.cells #[.int .i64 l, .slice gr r.length cr] 35)) := (Below.refl _ _).alloc (Nat.le_refl _) _
        have hxk : Bk (wr.alloc (.cells #[.int .i64 l, .slice gr r.length cr] 35)) wr.heap.size 35 [.int .i64 l, .slice gr r.length cr] := Bk.new wr _ _
        rw [hgp]
        go_upto_region 7 with fail
        obtain ⟨wx, hwx⟩ : ∃ wx, wx = wr.alloc (.cells #[.int .i64 l, .slice gr r.length cr] 35) := ⟨_, rfl⟩
        obtain ⟨cx, hcx⟩ : ∃ cx, cx = wr.heap.size := ⟨_, rfl⟩
        rw [← hwx] at hbx hxk ⊢
        rw [← hcx] at hxk ⊢
        have hcw : w.heap.size ≤ cx := by rw [hcx]; exact Hb.out.size
        clear hwx hcx
        have hbwx : Below w.heap.size w wx := Hb.out.trans (hbx.mono Hb.out.size)
        have hTx := HTr.out.later hbx
        have hk8x := Hbk8.out.below hbx Hbk8.out.lt
        have hrx := (hri.below hbx).mono hbx.size
        have x0 := hxk.cell 0
        have x1 := hxk.cell 1
        simp only [List.getElem?_cons_zero, List.getElem?_cons_succ] at x0 x1
        clear hbk8 hbx hri hc0 hc1
        by_cases hla : l = (a : Int)
        · subst hla
          have hlb : ((a : Int) == (a : Int)) = true := by simp
          have hwx2 := hTx.wd
          have htail := tails_calls hTx.tab hwx2 hTx.len (fun w' hb' => hTx.tab.later hb') gr cr r hrx hx16 hxs hTx.L.range fr en hfe hen
          obtain ⟨m1, hm1⟩ : ∃ m1, m1 = r.length + 1 := ⟨_, rfl⟩
          obtain ⟨t1, ht1⟩ : ∃ t1, t1 = en + 1 := ⟨_, rfl⟩
          unfold TailPost at htail
          rw [← hm1, ← ht1] at htail
          have Htail := hid htail
          have HTx := hid hTx
          have Hxk := hid hxk
          have Hbwx := hid hbwx
          have Hk8x := hid hk8x
          have Hrx := hid hrx
          have hm0 : (0 : Int) < (m1 : Int) := by omega
          have hft : (fr : Int) < (t1 : Int) := by omega
          have hf0 : (0 : Int) ≤ (fr : Int) := by omega
          have Hm1 := hid hm1
          have Ht1 := hid ht1
          have hm17 : m1 ≤ 17 := by omega
          have ht65 : t1 ≤ 65 := by omega
          clear htail hTx hxk hbwx hrx hwx2 hk8x hm1 ht1
          go_upto_region 10 with (go_at_call 72; refine (Htail.out).mono ?_; rintro e w3 ⟨bo, gs, F, rfl, hbo1, hbo2, hBI, hFl, hFr, htv, hb3⟩; obtain ⟨g1, l1, hg1, hl1, c1, c2, f1, hBg1⟩ := hBI.at hFr (a := 0) (z := fr) (by omega) (by omega); rw [htv 0 (by omega) fr (by omega) hfe, List.drop_zero] at c2)
          have hTr3 := HTx.out.later hb3
          have hx3 := Hxk.out.below hb3 Hxk.out.lt
          have hk83 := Hk8x.out.below hb3 Hk8x.out.lt
          have hbw3 := Hbwx.out.trans (hb3.mono Hbwx.out.size)
          have hrx3 := (Hrx.out.below hb3).mono hb3.size
          have hcx3 : cx < w3.heap.size := hx3.lt
          obtain ⟨t0, ht0⟩ : ∃ t0, t0 = Le.tl (Le.ofT N word) en r fr := ⟨_, rfl⟩
          have htr := Le.tl_range (Le.of_range (word := word) hTr3.L.range) en r fr
          rw [← ht0] at c2 htr ⊢
          unfold Le.cap at htr
          have Ht0 := hid ht0
          have HTr3 := hid hTr3
          have Hx3 := hid hx3
          have Hk83 := hid hk83
          have Hbw3 := hid hbw3
          have Hrx3 := hid hrx3
          have HBI := hid hBI
          have HFl := hid hFl
          have HFr := hid hFr
          have Htv := hid htv
          clear ht0 hTr3 hx3 hk83 hbw3 hrx3 hBI hFl hFr htv hg1 hl1 f1 hBg1 hb3 hbo1
          by_cases hgood : Good N word fr en v r
          · have hg0 := hgood.1
            have hg1 := hgood.2
            rw [← Ht0.out] at hg0 hg1
            have hvb : (t0 == -1) = false := by simp [hg0]
            have hwr : IntKind.i64.wrap (t0 + 1) = t0 + 1 := by rw [IntKind.wrap_i64] <;> omega
            have hneb : (t0 + 1 != v) = false := by simp [hg1]
            have Hgood := hid hgood
            have Hg1 := hid hg1
            clear hgood hg1
            go_upto_region 12 with fail
            have hk14 := Bk.new w3 45 [.int .i64 q, .slice none 0 0]
            have hb14 : Below w3.heap.size w3 (w3.alloc (.cells #[.int .i64 q, .slice none 0 0] 45)) := (Below.refl _ _).alloc (Nat.le_refl _) _
            obtain ⟨wl, hwle⟩ : ∃ wl, wl = w3.alloc (.cells #[.int .i64 q, .slice none 0 0] 45) := ⟨_, rfl⟩
            obtain ⟨b14, hb14e⟩ : ∃ b14, b14 = w3.heap.size := ⟨_, rfl⟩
            rw [← hwle] at hk14 hb14 ⊢
            rw [← hb14e] at hk14 ⊢
            have xl1 := (Hx3.out.below hb14 Hx3.out.lt).cell 1
            simp only [List.getElem?_cons_zero, List.getElem?_cons_succ] at xl1
            have Hb14e := hid hb14e
            have Hb14 := hid hb14
            clear hwle hb14e hb14
            go_wp2_with fail
            clear xl1
            go_loopg [15, 77] r.length (fun k v15 v77 wq => TR2 wl b14 N word ps r fr en q t0 k v15 v77 wq)
            case atStart => exact ⟨0, fr, .nil, .slice none 0 0, rfl, rfl, by omega, by omega, hfe, ⟨by rw [List.take_zero], rfl⟩, rfl, by rw [List.drop_zero, ← Ht0.out]; simp [Fo.nodes], by rw [List.drop_zero, ← Ht0.out]; exact hg0, hk14, KidsOwn.nil _ _ _, rfl, Below.refl _ _⟩
            case round =>
              clear hk14
              obtain ⟨z, i, F2, vr, rfl, rfl, hz, hfi, hie, hof, hFn, hnd, hne, hbk14, hko, hkz, hbz⟩ := hrel
              have Hkz := hid hkz
              have hb3r : Below w3.heap.size w3 wr := Hb14.out.trans (by rw [← Hb14e.out]; exact hbz)
              have hTrr := HTr3.out.later hb3r
              have Hbz := hid hbz
              have Hof := hid hof
              have HFn := hid hFn
              have HTrr := hid hTrr
              have hBr : b14 + 1 ≤ wr.heap.size := hbk14.lt
              clear hkz hbz hTrr hof hFn
              by_cases hltz : z < r.length
              · have hm1 := Hm1.out
                have ht1 := Ht1.out
                have hltz' : (z : Int) < (r.length : Int) := by omega
                have hz0 : (0 : Int) ≤ (z : Int) := by omega
                obtain ⟨s, hse⟩ : ∃ s, s = r[z] := ⟨_, rfl⟩
                have hdrop : r.drop z = s :: r.drop (z + 1) := by rw [hse]; exact List.drop_eq_getElem_cons hltz
                have htake : r.take (z + 1) = r.take z ++ [s] := by rw [List.take_add_one, List.getElem?_eq_getElem hltz, hse]; rfl
                obtain ⟨hs1, hs2⟩ := hxs s (by rw [hse]; exact List.getElem_mem hltz)
                rw [hdrop] at hnd hne
                obtain ⟨t, ht⟩ : ∃ t, t = Le.tl (Le.ofT N word) en (s :: r.drop (z + 1)) i := ⟨_, rfl⟩
                have htr2 := Le.tl_range (Le.of_range (word := word) HTrr.out.L.range) en (s :: r.drop (z + 1)) i
                rw [← ht] at hnd hne htr2
                unfold Le.cap at htr2
                have hv1' : t0 + 1 = v := Hg1.out
                have hvc' := Hvc.out
                unfold Le.cap at hvc'
                obtain ⟨j, hj1, hj2, hje, hjl⟩ := Le.tl_end ht.symm hne (by unfold Le.cap; omega)
                have hBIr := HBI.out.below hbo2 hb3r
                obtain ⟨ga, la, hga, hla, ca1, ca2, -, -⟩ := hBIr.at HFr.out (a := z) (z := i) (by rw [HFl.out]; omega) (by omega)
                rw [Htv.out z (by omega) i hfi hie, hdrop, ← ht] at ca2
                obtain ⟨gb, lb, hgb, hlb, cb1, -, -, -⟩ := hBIr.at HFr.out (a := z + 1) (z := j) (by rw [HFl.out]; omega) (by omega)
                have hrow := hBIr.row (z + 1) gb lb hgb hlb
                have hrl := HFr.out lb (List.mem_of_getElem? hlb)
                have hgd : ∀ y, fr ≤ y → y ≤ en → lb.getD y 0 = Le.tl (Le.ofT N word) en (r.drop (z + 1)) y := fun y h1 h2 => by
                  have := Htv.out (z + 1) (by omega) y h1 h2
                  rw [← this, ti, List.getD, List.getD, List.getD, hlb]
                  rfl
                have hje2 : Le.EndIs (Le.ofT N word s i) (fun j => lb.getD j 0) t j := by
                  unfold Le.EndIs at hje ⊢
                  simp only
                  rw [hgd j (by omega) hj2]
                  exact hje
                have hjl2 : ∀ y, i ≤ y → y < j → ¬ Le.EndIs (Le.ofT N word s i) (fun j => lb.getD j 0) t y := fun y h1 h2 h3 => by
                  refine hjl y h1 h2 ?_
                  unfold Le.EndIs at h3 ⊢
                  simp only at h3
                  rw [hgd y (by omega) (by omega)] at h3
                  exact h3
                have hrr : ∀ y, i ≤ y → y ≤ en → -1 ≤ lb.getD y 0 ∧ lb.getD y 0 ≤ Le.cap := fun y h1 h2 => by
                  rw [hgd y (by omega) h2]
                  exact Le.tl_range (Le.of_range (word := word) HTrr.out.L.range) en _ y
                have hend := fun nq => end_calls (w := wr.drewN nq) (HTrr.out.later (below_drewN (Below.refl _ _) nq)).tab (HTrr.out.later (below_drewN (Below.refl _ _) nq)).wd HTrr.out.len HTrr.out.L.range s hs1 hs2 i j en hj1 hj2 hen t gb lb (hrow.below (below_drewN (Below.refl _ _) nq) hrow.lt) (by rw [hrl]; exact ht1) hrr hje2 hjl2
                rw [← Ht1.out] at hend
                obtain ⟨hown, hrest, hsum⟩ := hje
                obtain ⟨own, howne⟩ : ∃ own, own = Le.ofT N word s i j := ⟨_, rfl⟩
                rw [← howne] at hown hsum
                have hor := Le.of_range (word := word) HTrr.out.L.range s i j
                have hrr2 := Le.tl_range (Le.of_range (word := word) HTrr.out.L.range) en (r.drop (z + 1)) j
                rw [← howne] at hor
                have hIH : ∀ wx : World, Below wr.heap.size wr wx ∧ wx.heap.size = wr.heap.size → Calls Try.prog 54 #[.pointer (some ⟨bt, 0, none⟩), .int .i64 s, .int .i64 i, .int .i64 j] wx fun e w' =>
                    ∃ (p : Int) (kids : Fo) (gk : Option Addr) (ck : Nat), e = .returned (.agg #[.int .i64 p, .slice gk kids.len ck]) ∧ FoAt w' (fun k => wr.heap.size ≤ k ∧ k < w'.heap.size) gk kids 0 ∧ Fo.Of ps word (.cons p kids .nil) [s] i j ∧ ((1 + kids.nodes : Nat) : Int) = own ∧ Below wr.heap.size wr w' := fun wx hwx => by
                  refine (Hih.out own.toNat (by have := Hm.out; omega) wx (HTrr.out.later hwx.1) s i j own hj1 (by omega) hs1 hs2 howne.symm hown (by unfold Le.cap; omega) rfl).mono ?_
                  rintro e w' ⟨p, kids, gk, ck, h1, h2, h3, h4, -, h6⟩
                  rw [hwx.2] at h2 h6
                  exact ⟨p, kids, gk, ck, h1, h2, h3, h4, hwx.1.trans h6⟩
                obtain ⟨gq, oq, rfl, hgq, hcq⟩ := (Hrx3.out.below hb3r).at hltz
                rw [← hse] at hcq
                have hwz : IntKind.i64.wrap ((z : Int) + 1) = (z : Int) + 1 := by rw [IntKind.wrap_i64] <;> omega
                have hznm : (z : Int) + 1 < (m1 : Int) := by omega
                have hzn0 : (0 : Int) ≤ (z : Int) + 1 := by omega
                have hzm : (z : Int) < (m1 : Int) := by omega
                have hi0' : (0 : Int) ≤ (i : Int) := by omega
                have hit : (i : Int) < (t1 : Int) := by have := Ht1.out; omega
                have v14 := hbk14.cell 1
                simp only [List.getElem?_cons_zero, List.getElem?_cons_succ] at v14
                have Hend := hid hend
                have HIH := hid hIH
                have Hdrop := hid hdrop
                have Htake := hid htake
                have Hnd := hid hnd
                have Hsum := hid hsum
                have Hrest := hid hrest
                clear hend hIH hdrop htake hnd hsum hrest hse ht hBIr hga hla hgb hlb hrow hrl hgd hje2 hjl2 hrr hjl howne hown hor hrr2 htr2 hne hv1' hvc' hb3r hm1 ht1
                go_wp2_with fail
                go_quiet ((go_at_call 73; refine Calls.quiet_of_same (Hend.out _)))
                obtain ⟨wq, hwq⟩ : ∃ wq, wq = wr.drewN nq := ⟨_, rfl⟩
                have hbq : Below wr.heap.size wr wq.drew ∧ wq.drew.heap.size = wr.heap.size := by rw [hwq]; exact ⟨below_drewN (below_drewN (Below.refl _ _) _) 1, rfl⟩
                rw [← hwq]
                have v14q : wq.drew.cell? ⟨b14, 1, none⟩ = _ := (hbk14.below hbq.1 hbk14.lt).cell 1
                simp only [List.getElem?_cons_zero, List.getElem?_cons_succ] at v14q
                have Hbk14 := hid hbk14
                have Hko := hid hko
                have Hbq := hid hbq
                have hF1m : F2.len ≤ 1000000 := by rw [HFn.out]; omega
                clear hwq hbk14 hko hbq
                go_wp2_with fail
                go_region_law
                  (first
                    | (have hrun0 := hrun; refine step_append_run (by rfl) _ _ _ (by rfl) vr (.slice (some ⟨w5.heap.size, 0, none⟩) 1 1) _ w7 (by go_simp) (by go_simp) (by exact hrun) ?_)
                    | (go_simp; go_at_call 54; refine (HIH.out _ Hbq.out).mono ?_; rintro e w5 ⟨p2, k2, gk2, ck2, rfl, hfo2, hof2, hnd2, hb5⟩; obtain ⟨c5, c6, g7, cap7, w7, hrun, c7, f7, Hko7, Hbk7, Hb7⟩ := kid_app (P := Try.prog) Hko.out Hbk14.out hb5 43 43 i2 Try.underlying43 hi2 z0 z1 z2 hF1m p2 k2 gk2 ck2 hfo2 0; have Hfo2 := hid hof2; have Hnd2 := hid hnd2; have Hb5 := hid hb5; clear hof2 hnd2 hb5 hfo2))
                all_goals
                  go_wp2_with fail
                  go_roundg (r.length - (z + 1))
                  case measure => have hk := Hkz.out; omega
                  case rel =>
                    refine ⟨z + 1, j, F2.app (.cons p2 k2 .nil), .slice (some ⟨g7, 0, none⟩) (F2.len + 1) cap7, rfl, by go_num, by omega, by omega, hj2, ?_, ?_, ?_, Hrest.out, Hbk7.out.set 1 _, ?_, rfl, ?_⟩
                    · rw [Htake.out]; exact Hof.out.app Hfo2.out
                    · rw [Fo.len_app, HFn.out]; rfl
                    · have h1 := Hnd.out
                      have h2 := Hnd2.out
                      have h3 := Hsum.out
                      rw [Fo.nodes_app]
                      simp only [Fo.nodes]
                      omega
                    · have hkS : Kp (fun x => x = b14) w7 (w7.setCell ⟨b14, 1, none⟩ (.slice (some ⟨g7, 0, none⟩) (F2.len + 1) cap7)) := Kp.set (S := fun x => x = b14) (p := ⟨b14, 1, none⟩) (Kp.refl _ _) (.inl rfl) _
                      exact Hko7.out.kp hkS (fun k h1 _ h3 => by omega)
                    · exact ((Hbz.out.trans (Hb5.out.mono (by omega))).trans Hb7.out).setCell (p := ⟨b14, 1, none⟩) (Nat.le_refl _) _
              · have hgez : ¬ (z : Int) < (r.length : Int) := by omega
                have hzr : z = r.length := by omega
                rw [hzr, List.drop_length] at hnd hne
                have hien : i = en := by
                  rw [Le.tl] at hne
                  by_cases e : i = en
                  · exact e
                  · exact absurd (if_neg e) hne
                rw [Le.tl, if_pos hien] at hnd
                have hof := Hof.out
                rw [hzr, List.take_length, hien] at hof
                obtain ⟨gk, ck, rfl, hlies⟩ := hko.lies
                have hk8r := Hk83.out.below hb3r Hk83.out.lt
                have e80 := hk8r.cell 0
                have e81 := hk8r.cell 1
                have f80 := hk8r.free 0
                have f81 := hk8r.free 1
                have v0 := hbk14.cell 0
                have v1 := hbk14.cell 1
                simp only [List.getElem?_cons_zero, List.getElem?_cons_succ] at e80 e81 v0 v1
                have hs1 := (hk8r.set 0 (.int .i64 q)).set 1 (.slice gk F2.len ck)
                simp only [List.set_cons_zero, List.set_cons_succ] at hs1
                have Hs1 := hid hs1
                have Hko := hid hko
                have Hnd := hid hnd
                have Hof2 := hid hof
                have Hlies := hid hlies
                have Hhk8r := hid hk8r
                have Hb3r := hid hb3r
                clear hs1 hko hnd hof hlies hne hzr hien hbk14 hk8r hb3r
                go_wp2_with fail
                obtain ⟨W, hW⟩ : ∃ W, W = ((wr.setCell ⟨b8, 0, none⟩ (.int .i64 q)).setCell ⟨b8, 1, none⟩ (.slice gk F2.len ck)) := ⟨_, rfl⟩
                have hs1 := Hs1.out
                have hkS : Kp (fun x => x = b8) wr ((wr.setCell ⟨b8, 0, none⟩ (.int .i64 q)).setCell ⟨b8, 1, none⟩ (.slice gk F2.len ck)) := Kp.set (S := fun x => x = b8) (p := ⟨b8, 1, none⟩) (Kp.set (S := fun x => x = b8) (p := ⟨b8, 0, none⟩) (Kp.refl _ _) (.inl rfl) _) (.inl rfl) _
                rw [← hW] at hs1 hkS ⊢
                have r0 := hs1.cell 0
                have r1 := hs1.cell 1
                simp only [List.getElem?_cons_zero, List.getElem?_cons_succ] at r0 r1
                have hbe := Hb8e.out
                have h14 := Hb14e.out
                have h83 := Hk83.out.lt
                have hw3z := Hbw3.out.size
                have hwrz := Hb3r.out.size
                refine bodyPost_ret (v := .agg #[.int .i64 q, .slice gk F2.len ck]) (by simp [results, Try.results54, go_sem, r0, r1]) rfl ?_
                refine ⟨q, F2, gk, ck, rfl, ?_, ⟨(a : Int), [], en, rfl, .inr ⟨by omega, q, r, rfl, Hxi.out, Hof2.out⟩, ⟨rfl, rfl⟩⟩, ?_, ?_, ?_⟩
                · exact (Hlies.out.kp hkS (fun k hk e => by have := hk.1; omega)).mono fun k hk => ⟨by have := hk.1; omega, Nat.lt_of_lt_of_le hk.2 hkS.size⟩
                · have h1 := Hnd.out
                  have h2 := Hg1.out
                  omega
                · intro _ q' R' h1 h2 h3
                  rcases Nat.lt_or_ge q' q with h4 | h4
                  · exact absurd ⟨h2, h3⟩ (Hno.out q' R' h4 h1)
                  · omega
                · exact (Hbw3.out.trans (Hb3r.out.mono hw3z)).trans (hkS.to_below (B := w.heap.size) (by omega) (fun k e => by omega))
          · have Hno2 : Hid (∀ (q' : Nat) (R : List Int), q' < q + 1 → ps[q']? = some ((a : Int), R) → ¬ Good N word fr en v R) := hid fun q' R h1 h2 => by
              by_cases e : q' = q
              · subst e
                rw [Hxi.out] at h2
                injection h2 with h2
                injection h2 with _ h2
                rw [← h2]
                exact hgood
              · exact Hno.out q' R (by omega) h2
            have hcase : t0 = -1 ∨ t0 ≠ -1 ∧ t0 + 1 ≠ v := by
              by_cases e : t0 = -1
              · exact .inl e
              · exact .inr ⟨e, fun e2 => hgood ⟨by rw [← Ht0.out]; exact e, by rw [← Ht0.out]; exact e2⟩⟩
            clear hgood
            rcases hcase with ht | ⟨ht, hne⟩
            · have hvb : (t0 == -1) = true := by simp [ht]
              go_wp2_with fail
              rw [← hgp]
              go_roundg (ps.length - (q + 1))
              case measure => have hk := Hk.out; omega
              case rel => exact ⟨q + 1, by go_num, by omega, Hno2.out, Hk83.out, rfl, Hbw3.out⟩
            · have hvb : (t0 == -1) = false := by simp [ht]
              have hwr : IntKind.i64.wrap (t0 + 1) = t0 + 1 := by rw [IntKind.wrap_i64] <;> omega
              have hneb : (t0 + 1 != v) = true := by simp [hne]
              go_wp2_with fail
              rw [← hgp]
              go_roundg (ps.length - (q + 1))
              case measure => have hk := Hk.out; omega
              case rel => exact ⟨q + 1, by go_num, by omega, Hno2.out, Hk83.out, rfl, Hbw3.out⟩
        · have hlb : (l == (a : Int)) = false := by simp [hla]
          have Hno2 : Hid (∀ (q' : Nat) (R : List Int), q' < q + 1 → ps[q']? = some ((a : Int), R) → ¬ Good N word fr en v R) := hid fun q' R h1 h2 => by
            by_cases e : q' = q
            · subst e
              rw [Hxi.out] at h2
              injection h2 with h2
              injection h2 with h2
              exact absurd h2 hla
            · exact Hno.out q' R (by omega) h2
          have Hbwx := hid hbwx
          have Hk8x := hid hk8x
          clear hbwx hk8x hTx hrx hxk
          go_wp2_with fail
          rw [← hgp]
          go_roundg (ps.length - (q + 1))
          case measure => have hk := Hk.out; omega
          case rel => exact ⟨q + 1, by go_num, by omega, Hno2.out, Hk8x.out, rfl, Hbwx.out⟩
      · exact absurd (Hqe.out.2) (Hno.out qe Re (by have := (List.getElem?_eq_some_iff.1 Hqe.out.1).1; omega) Hqe.out.1)
  · have hs1 : s < 0 := by omega
    have hge : decide (s < 0) = true := by simp; omega
    unfold Le.ofT at hv
    rw [if_neg h0] at hv
    by_cases h1 : en = fr + 1 ∧ word.getD fr 0 = -1 - s
    · rw [if_pos h1] at hv
      have hfo : Fo.Of ps word (.cons s .nil .nil) [s] fr en := ⟨s, [], fr + 1, rfl, .inl ⟨by omega, rfl, rfl, rfl, by rw [← h1.2, List.getD, List.getElem?_eq_getElem (by omega)]; rfl⟩, ⟨rfl, h1.1.symm⟩⟩
      have Hfo := hid hfo
      have Hv1 := hid hv
      clear h1 hfo h ih hm hv hvc hk8 hb8
      go_enter Try.func54, Try.ntmps54
      go_upto_region 1 with fail
      go_wp2_with fail
      have hk9 := Bk.new w 45 [.int .i64 s, .slice none 0 0]
      have hb9 : Below w.heap.size w (w.alloc (.cells #[.int .i64 s, .slice none 0 0] 45)) := (Below.refl _ _).alloc (Nat.le_refl _) _
      obtain ⟨W, hW⟩ : ∃ W, W = w.alloc (.cells #[.int .i64 s, .slice none 0 0] 45) := ⟨_, rfl⟩
      rw [← hW] at hk9 hb9 ⊢
      have r0 := hk9.cell 0
      have r1 := hk9.cell 1
      simp only [List.getElem?_cons_zero, List.getElem?_cons_succ] at r0 r1
      refine bodyPost_ret (v := .agg #[.int .i64 s, .slice none 0 0]) (by simp [results, Try.results54, go_sem, r0, r1]) rfl ?_
      exact ⟨s, .nil, none, 0, rfl, trivial, Hfo.out, by have := Hv1.out; simp only [Fo.nodes]; omega, fun h => absurd h (by omega), hb9⟩
    · rw [if_neg h1] at hv
      exact absurd hv.symm hv0
end Go.Proofs.Ytbpgolmbielpgaa
