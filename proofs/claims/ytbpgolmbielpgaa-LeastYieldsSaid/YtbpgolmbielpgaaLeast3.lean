/- Chapter 15 (least): round. -/
import Derived.Test.YtbpgolmbielpgaaLeast2
namespace Go.Proofs.Ytbpgolmbielpgaa
open Go.RowKit
attribute [local go_sem ↓] Go.wp_at_zero Go.wp_at_succ
attribute [local go_sem] frozen_alloc_lt

namespace Le
def updN (N : Nat → Nat → Nat → Int) (a i j : Nat) (v : Int) : Nat → Nat → Nat → Int := fun a' i' j' => if a' = a ∧ i' = i ∧ j' = j then v else N a' i' j'
def stepR (word : List Int) (fr en : Nat) (x : Int × List Int) (s : (Nat → Nat → Nat → Int) × Bool) : (Nat → Nat → Nat → Int) × Bool :=
  if tl (ofT s.1 word) en x.2 fr = -1 then s
  else if s.1 x.1.toNat fr en = -1 ∨ min (tl (ofT s.1 word) en x.2 fr + 1) cap < s.1 x.1.toNat fr en then (updN s.1 x.1.toNat fr en (min (tl (ofT s.1 word) en x.2 fr + 1) cap), true) else s
def roundS (word : List Int) (fr en : Nat) : List (Int × List Int) → (Nat → Nat → Nat → Int) × Bool → (Nat → Nat → Nat → Int) × Bool
  | [], s => s
  | x :: ps, s => roundS word fr en ps (stepR word fr en x s)
end Le

section
variable {w w' : World} {V : GV} {bt bn n cb : Nat} {gw : Option Addr} {cw : Nat} {word : List Int} {R : Nat → Nat} {C : Nat → Nat → Nat} {N : Nat → Nat → Nat → Int}
theorem Tab.later (h : Tab w V bt bn n cb gw cw word R C N) (hb : Below w.heap.size w w') : Tab w' V bt bn n cb gw cw word R C N := by
  refine ⟨h.k.below hb h.k.lt, fun a ha => ?_, fun a i ha hi => ?_, fun a i ha hi => ?_⟩
  · obtain ⟨c, hc⟩ := h.rn a ha
    exact ⟨c, (hb.cell (World.block_lt_of_cell? w _ hc)).trans hc⟩
  · have hc := h.rr a i ha hi
    exact (hb.cell (World.block_lt_of_cell? w _ hc)).trans hc
  · obtain ⟨l, h1, h2, h3⟩ := h.rc a i ha hi
    exact ⟨l, h1.below hb h1.lt, h2, h3⟩
/-- The table is the call's own, its rows lie apart. -/
structure TabO (w : World) (B : Nat) (V : GV) (bt bn n cb : Nat) (gw : Option Addr) (cw : Nat) (word : List Int) (R : Nat → Nat) (C : Nat → Nat → Nat) (N : Nat → Nat → Nat → Int) : Prop where
  t : Tab w V bt bn n cb gw cw word R C N
  lo : ∀ a i, a < n → i ≤ word.length → B ≤ C a i
  ap : ∀ a i a' i', a < n → i ≤ word.length → a' < n → i' ≤ word.length → C a i = C a' i' → a = a' ∧ i = i'
  nt : ∀ a i, a < n → i ≤ word.length → C a i ≠ bt ∧ C a i ≠ bn ∧ ∀ a', a' < n → C a i ≠ R a'
theorem TabO.later {B : Nat} (h : TabO w B V bt bn n cb gw cw word R C N) (hb : Below w.heap.size w w') : TabO w' B V bt bn n cb gw cw word R C N := ⟨h.t.later hb, h.lo, h.ap, h.nt⟩
theorem TabO.put {B : Nat} (h : TabO w B V bt bn n cb gw cw word R C N) {a i j : Nat} (ha : a < n) (hi : i ≤ word.length) (hj : j ≤ word.length) (v : Int) : TabO (w.setCell ⟨C a i, j, none⟩ (.int .i64 v)) B V bt bn n cb gw cw word R C (Le.updN N a i j v) := by
  obtain ⟨n1, n2, n3⟩ := h.nt a i ha hi
  have hk : Kp (fun x => x = C a i) w (w.setCell ⟨C a i, j, none⟩ (.int .i64 v)) := Kp.set (S := fun x => x = C a i) (p := ⟨C a i, j, none⟩) (Kp.refl _ _) (.inl rfl) _
  refine ⟨⟨h.t.k.kp hk (fun e => n1 e.symm), fun a' ha' => ?_, fun a' i' ha' hi' => ?_, fun a' i' ha' hi' => ?_⟩, h.lo, h.ap, h.nt⟩
  · obtain ⟨c, hc⟩ := h.t.rn a' ha'
    exact ⟨c, hk.cell hc (fun e => n2 e.symm)⟩
  · exact hk.cell (h.t.rr a' i' ha' hi') (fun e => n3 a' ha' e.symm)
  · obtain ⟨l, h1, h2, h3⟩ := h.t.rc a' i' ha' hi'
    by_cases e : C a' i' = C a i
    · obtain ⟨rfl, rfl⟩ := h.ap _ _ _ _ ha' hi' ha hi e
      refine ⟨l.set j v, by rw [List.map_set]; exact h1.set j _, by rw [List.length_set]; exact h2, fun j' hj' => ?_⟩
      unfold Le.updN
      by_cases e2 : j' = j
      · subst e2
        rw [List.getElem?_set_self (by omega), if_pos ⟨rfl, rfl, rfl⟩]
      · rw [List.getElem?_set_ne (fun e => e2 e.symm), if_neg (fun e => e2 e.2.2)]
        exact h3 j' hj'
    · refine ⟨l, h1.kp hk e, h2, fun j' hj' => ?_⟩
      unfold Le.updN
      rw [if_neg (fun e' => e (by rw [e'.1, e'.2.1]))]
      exact h3 j' hj'
end
def LR (w0 : World) (B : Nat) (V : GV) (bt bn n cb : Nat) (gw : Option Addr) (cw : Nat) (word : List Int) (R : Nat → Nat) (C : Nat → Nat → Nat) (fr en : Nat) (ps : List (Int × List Int)) (res : (Nat → Nat → Nat → Int) × Bool) (k : Nat) (v7 v18 : Value) (w : World) : Prop :=
  ∃ (q : Nat) (N : Nat → Nat → Nat → Int) (less : Bool), v18 = .int .i64 q ∧ v7 = .bool less ∧ q ≤ ps.length ∧ Le.roundS word fr en (ps.drop q) (N, less) = res ∧ TabO w B V bt bn n cb gw cw word R C N ∧ (∀ a i j, -1 ≤ N a i j ∧ N a i j ≤ Le.cap) ∧ k = ps.length - q ∧ Below B w0 w
def RoundPost (w : World) (B : Nat) (V : GV) (bt bn n cb : Nat) (gw : Option Addr) (cw : Nat) (word : List Int) (R : Nat → Nat) (C : Nat → Nat → Nat) (res : (Nat → Nat → Nat → Int) × Bool) (e : Ending) (w' : World) : Prop :=
  e = .returned (.bool res.2) ∧ TabO w' B V bt bn n cb gw cw word R C res.1 ∧ (∀ a i j, -1 ≤ res.1 a i j ∧ res.1 a i j ≤ Le.cap) ∧ Below B w w'
theorem upd_range {N : Nat → Nat → Nat → Int} (hN : ∀ a i j, -1 ≤ N a i j ∧ N a i j ≤ Le.cap) {v : Int} (hv : -1 ≤ v ∧ v ≤ Le.cap) (a i j : Nat) : ∀ a' i' j', -1 ≤ Le.updN N a i j v a' i' j' ∧ Le.updN N a i j v a' i' j' ≤ Le.cap := fun a' i' j' => by
  unfold Le.updN
  split
  · exact hv
  · exact hN _ _ _

set_option maxHeartbeats 8000000 in
set_option maxRecDepth 8000 in
theorem round_calls {w : World} {B : Nat} {V : GV} {bt bn n cb : Nat} {gw : Option Addr} {cw : Nat} {word : List Int} {R : Nat → Nat} {C : Nat → Nat → Nat} {N : Nat → Nat → Nat → Int} (h : TabO w B V bt bn n cb gw cw word R C N) (hB : B ≤ w.heap.size) (hw : RowI w B gw word) (hl : word.length ≤ 64)
    (ps : List (Int × List Int)) (hp : RowP w B V.gp ps) (hV : V.lp = ps.length) (hpl : ps.length ≤ 65536) (hps : ∀ x ∈ ps, x.2.length ≤ 16 ∧ 0 ≤ x.1 ∧ x.1 < (n : Int) ∧ ∀ s ∈ x.2, s < (n : Int) ∧ -65536 ≤ s) (hN : ∀ a i j, -1 ≤ N a i j ∧ N a i j ≤ Le.cap)
    (fr en : Nat) (hft : fr ≤ en) (hen : en ≤ word.length) :
    Calls Try.prog 71 #[.pointer (some ⟨bt, 0, none⟩), .int .i64 fr, .int .i64 en] w (RoundPost w B V bt bn n cb gw cw word R C (Le.roundS word fr en ps (N, false))) := by
  have H := hid h
  have Hw := hid hw
  have Hp := hid hp
  have Hps := hid hps
  have HN := hid hN
  have k4 := h.t.k.cell 4
  simp only [List.getElem?_cons_zero, List.getElem?_cons_succ] at k4
  rw [hV] at k4
  have HV := hid hV
  obtain ⟨res, hres⟩ : ∃ res, res = Le.roundS word fr en ps (N, false) := ⟨_, rfl⟩
  rw [← hres]
  have Hres := hid hres
  clear h hw hp hps hN hV hres
  go_enter Try.func71, Try.ntmps71
  go_wp2_with fail
  clear k4
  go_loopg [7, 18] ps.length (fun k v7 v18 wq => LR w B V bt bn n cb gw cw word R C fr en ps res k v7 v18 wq)
  case atStart => exact ⟨0, N, false, rfl, rfl, by omega, by rw [List.drop_zero]; exact Hres.out.symm, H.out, HN.out, rfl, Below.refl _ _⟩
  case round =>
    obtain ⟨q, N, less, rfl, rfl, hq, hr, hT, hN, hk, hb⟩ := hrel
    have Hk := hid hk
    have HT := hid hT
    have HN2 := hid hN
    have Hb := hid hb
    clear hk hT hN
    by_cases hlt : q < ps.length
    · have hlt' : (q : Int) < (ps.length : Int) := by omega
      have hq0 : (0 : Int) ≤ (q : Int) := by omega
      obtain ⟨x, hx⟩ : ∃ x, x = ps[q] := ⟨_, rfl⟩
      have hxi : ps[q]? = some x := by rw [hx]; exact List.getElem?_eq_getElem hlt
      obtain ⟨hx16, hx0, hx1, hxs⟩ := Hps.out x (by rw [hx]; exact List.getElem_mem hlt)
      rw [List.drop_eq_getElem_cons hlt, ← hx, Le.roundS] at hr
      obtain ⟨l, r⟩ := x
      simp only at hx16 hx0 hx1 hxs
      obtain ⟨a, rfl⟩ := Int.eq_ofNat_of_zero_le hx0
      have han : a < n := by omega
      obtain ⟨g, off, gr, cr, hgp, hg, hc0, hc1, hri⟩ := (Hp.out.below hb) q _ hxi
      simp only at hc0 hc1 hri
      have Hr := hid hr
      clear hr hx hxi hb
      have hbx : Below wr.heap.size wr (wr.alloc (.cells #[.int .i64 a, .slice gr r.length cr] 35)) := (Below.refl _ _).alloc (Nat.le_refl _) _
      have hxk : Bk (wr.alloc (.cells #[.int .i64 a, .slice gr r.length cr] 35)) wr.heap.size 35 [.int .i64 a, .slice gr r.length cr] := Bk.new wr _ _
      rw [hgp]
      go_upto_region 5 with fail
      obtain ⟨wx, hwx⟩ : ∃ wx, wx = wr.alloc (.cells #[.int .i64 a, .slice gr r.length cr] 35) := ⟨_, rfl⟩
      obtain ⟨cx, hcx⟩ : ∃ cx, cx = wr.heap.size := ⟨_, rfl⟩
      rw [← hwx] at hbx hxk ⊢
      rw [← hcx] at hxk ⊢
      clear hwx hcx
      have hBr : B ≤ wr.heap.size := Nat.le_trans hB Hb.out.size
      have hbwx : Below B w wx := Hb.out.trans (hbx.mono hBr)
      have hTx := HT.out.later hbx
      have hBx : B ≤ wx.heap.size := Nat.le_trans hBr hbx.size
      have hrx := (hri.below (hbx.mono hBr)).mono hBx
      have hwx2 := (Hw.out.below hbwx).mono hBx
      have htail := tails_calls hTx.t hwx2 hl (fun w' hb' => hTx.t.later hb') gr cr r hrx hx16 hxs HN2.out fr en hft hen
      have x0 := hxk.cell 0
      have x1 := hxk.cell 1
      simp only [List.getElem?_cons_zero, List.getElem?_cons_succ] at x0 x1
      have Htail := hid htail
      have HTx := hid hTx
      have Hxk := hid hxk
      have Hbwx := hid hbwx
      have hrl1 : (0 : Int) < ((r.length + 1 : Nat) : Int) := by omega
      have hrl2 : (0 : Int) < (r.length : Int) + 1 := by omega
      have hfe1 : (fr : Int) < ((en + 1 : Nat) : Int) := by omega
      have hfe2 : (fr : Int) < (en : Int) + 1 := by omega
      have hfr0 : (0 : Int) ≤ (fr : Int) := by omega
      clear htail hTx hxk hbx hbwx hrx hwx2 hri hc0 hc1
      go_upto_region 6 with (go_at_call 72; refine (Htail.out).mono ?_; rintro e w3 ⟨bo, gs, F, rfl, hbo1, hbo2, hBI, hFl, hFr, htv, hb3⟩; obtain ⟨g1, l1, hg1, hl1, c1, c2, f1, hBg1⟩ := hBI.at hFr (a := 0) (z := fr) (by omega) (by omega); rw [htv 0 (by omega) fr (by omega) hft, List.drop_zero] at c2)
      have hofr : ∀ s i j, -1 ≤ Le.ofT N word s i j ∧ Le.ofT N word s i j ≤ Le.cap := fun s i j => by
        unfold Le.ofT
        split
        · exact HN2.out _ _ _
        · unfold Le.cap; split <;> omega
      have hvr := Le.tl_range hofr en r fr
      unfold Le.cap at hvr
      have hT3 := HTx.out.later hb3
      have hx3 := Hxk.out.below hb3 Hxk.out.lt
      have hbw3 : Below B w w3 := Hbwx.out.trans (hb3.mono hBx)
      have hB3 : B ≤ w3.heap.size := Nat.le_trans hBx hb3.size
      have hneC : C a fr ≠ cx := fun e => by
        obtain ⟨lq, hq1, _, _⟩ := hT3.t.rc a fr han (by omega)
        have h1 := hx3
        rw [← e] at h1
        unfold Bk at hq1 h1
        rw [hq1] at h1
        injection h1 with h1
        injection h1 with _ h1
        exact absurd h1 (by decide)
      have HT3 := hid hT3
      have Hx3 := hid hx3
      have Hbw3 := hid hbw3
      have HB3 := hid hB3
      have HneC := hid hneC
      have hst : Le.stepR word fr en ((a : Int), r) (N, less) = if Le.tl (Le.ofT N word) en r fr = -1 then (N, less) else if N a fr en = -1 ∨ min (Le.tl (Le.ofT N word) en r fr + 1) Le.cap < N a fr en then (Le.updN N a fr en (min (Le.tl (Le.ofT N word) en r fr + 1) Le.cap), true) else (N, less) := by
        unfold Le.stepR
        simp only [Int.toNat_natCast]
      obtain ⟨v, hv⟩ : ∃ v, v = Le.tl (Le.ofT N word) en r fr := ⟨_, rfl⟩
      rw [← hv] at c2 hvr hst ⊢
      have hstr := Hr.out
      rw [hst] at hstr
      clear hst hv hofr hg1 hl1 hBg1 hBI hFl hFr htv hneC hbw3 hT3 f1 hb3
      by_cases hv0 : v = -1
      · have hvb : (v == -1) = true := by simp [hv0]
        rw [if_pos hv0] at hstr
        have Hstep := hid hstr
        clear hstr hx3
        go_wp2_with fail
        rw [← hgp]
        go_roundg (ps.length - (q + 1))
        case measure => have hk := Hk.out; omega
        case rel => exact ⟨q + 1, N, less, by go_num, rfl, by omega, Hstep.out, HT3.out, HN2.out, rfl, Hbw3.out⟩
      · have hvb : (v == -1) = false := by simp [hv0]
        rw [if_neg hv0] at hstr
        obtain ⟨nv, hnv⟩ : ∃ nv, nv = min (v + 1) Le.cap := ⟨_, rfl⟩
        have hif : (if (1099511627776 : Int) < v + 1 then (1099511627776 : Int) else v + 1) = nv := by rw [hnv]; unfold Le.cap; split <;> omega
        have hnv0 : 0 ≤ nv ∧ nv ≤ 1099511627776 := by rw [hnv]; unfold Le.cap; omega
        rw [← hnv] at hstr
        obtain ⟨cq0, e1⟩ := HT3.out.t.rn a han
        have e0 := HT3.out.t.k.cell 6
        have e2 := HT3.out.t.rr a fr han (by omega)
        have e3 := HT3.out.t.cell han (show fr ≤ word.length by omega) hen
        have e4 := hx3.cell 0
        simp only [List.getElem?_cons_zero, List.getElem?_cons_succ] at e0 e4
        unfold rowI at e2
        have hf1 : (fr : Int) < ((word.length + 1 : Nat) : Int) := by omega
        have hf2 : (fr : Int) < (word.length : Int) + 1 := by omega
        have hn1 : (en : Int) < ((word.length + 1 : Nat) : Int) := by omega
        have hn2 : (en : Int) < (word.length : Int) + 1 := by omega
        have he0 : (0 : Int) ≤ (en : Int) := by omega
        have ha0 : (0 : Int) ≤ (a : Int) := by omega
        have hf0 : (0 : Int) ≤ (fr : Int) := by omega
        obtain ⟨old, hold⟩ : ∃ old, old = N a fr en := ⟨_, rfl⟩
        rw [← hold] at e3 hstr
        clear hnv hold x0 x1 c1 c2 hx3
        by_cases ho : old = -1
        · have hob : (old == -1) = true := by simp [ho]
          rw [if_pos (.inl ho)] at hstr
          have Hstep := hid hstr
          clear hstr
          go_upto_region 8 with fail
          go_quiet (fail)
          obtain ⟨wq, hwq⟩ : ∃ wq, wq = w3.drewN nq := ⟨_, rfl⟩
          have hbq : Below w3.heap.size w3 wq := by rw [hwq]; exact below_drewN (Below.refl _ _) _
          rw [← hwq]
          clear hwq
          have hTq : TabO wq.drew B V bt bn n cb gw cw word R C N := (HT3.out.later hbq).later (below_drewN (Below.refl _ _) 1)
          have hxq : Bk wq.drew cx 35 [.int .i64 a, .slice gr r.length cr] := (Hx3.out.below hbq Hx3.out.lt).below (below_drewN (Below.refl _ _) 1) (Hx3.out.below hbq Hx3.out.lt).lt
          have hput := hTq.put han (show fr ≤ word.length by omega) hen nv
          have hcxC : C a fr ≠ cx := HneC.out
          have hkC : Kp (fun x => x = C a fr) wq.drew (wq.drew.setCell ⟨C a fr, en, none⟩ (.int .i64 nv)) := Kp.set (S := fun x => x = C a fr) (p := ⟨C a fr, en, none⟩) (Kp.refl _ _) (.inl rfl) _
          have hfz : wq.drew.frozen? ⟨C a fr, en, none⟩ = false := by
            obtain ⟨lq, hq1, _, _⟩ := hTq.t.rc a fr han (by omega)
            exact hq1.free en
          obtain ⟨cq, q1⟩ := hTq.t.rn a han
          have q0 := hTq.t.k.cell 6
          have q2 := hTq.t.rr a fr han (by omega)
          have q3 := hTq.t.cell han (show fr ≤ word.length by omega) hen
          have q4 := hxq.cell 0
          simp only [List.getElem?_cons_zero, List.getElem?_cons_succ] at q0 q4
          unfold rowI at q2
          obtain ⟨n1, n2, n3⟩ := hTq.nt a fr han (by omega)
          have p0 := hkC.cell q0 (fun e => n1 e.symm)
          have p1 := hkC.cell q1 (fun e => n2 e.symm)
          have p2 := hkC.cell q2 (fun e => n3 a han e.symm)
          have p4 := hkC.cell q4 (fun e => hcxC e.symm)
          have hb7 : Below B w (wq.drew.setCell ⟨C a fr, en, none⟩ (.int .i64 nv)) := ((Hbw3.out.trans (hbq.mono HB3.out)).trans (below_drewN (Below.refl _ _) 1)).setCell (p := ⟨C a fr, en, none⟩) (by exact hTq.lo a fr han (by omega)) _
          have Hput := hid hput
          have Hb7 := hid hb7
          obtain ⟨cA, hcA⟩ : ∃ cA, cA = C a fr := ⟨_, rfl⟩
          rw [← hcA] at hfz q2 q3 p0 p1 p2 p4
          have HcA := hid hcA
          obtain ⟨L1, hL1⟩ : ∃ L1, L1 = word.length + 1 := ⟨_, rfl⟩
          rw [← hL1] at q1 q2 p1 p2
          have hfL : (fr : Int) < (L1 : Int) := by omega
          have heL : (en : Int) < (L1 : Int) := by omega
          obtain ⟨rA, hrA⟩ : ∃ rA, rA = R a := ⟨_, rfl⟩
          rw [← hrA] at q1 q2 p1 p2
          obtain ⟨od, hod⟩ : ∃ od, od = N a fr en := ⟨_, rfl⟩
          rw [← hod] at q3
          clear hTq hxq hput hcxC hkC n1 n2 n3 hb7 hcA hL1 hrA hod hbq e0 e1 e2 e3 e4
          go_upto_region 10 with fail
          go_region_held3 (fun w' => w'.cell? ⟨bt, 6, none⟩ = some (.slice (some ⟨bn, 0, none⟩) n cb) ∧ w'.cell? ⟨cx, 0, none⟩ = some (.int .i64 a) ∧ w'.cell? ⟨bn, a, none⟩ = some (.slice (some ⟨rA, 0, none⟩) L1 cq) ∧ w'.cell? ⟨rA, fr, none⟩ = some (.slice (some ⟨cA, 0, none⟩) L1 L1))
            (first | exact ⟨‹_›, ‹_›, ‹_›, ‹_›⟩)
            (fail)
          all_goals
            go_wp2_with fail
            rw [← hgp]
            go_roundg (ps.length - (q + 1))
            case measure => have hk := Hk.out; omega
            case rel => exact ⟨q + 1, _, true, by go_num, rfl, by omega, Hstep.out, by rw [HcA.out]; exact Hput.out, upd_range HN2.out (by unfold Le.cap; omega) a fr en, rfl, by rw [HcA.out]; exact Hb7.out⟩
        · have hob : (old == -1) = false := by simp [ho]
          by_cases hlo : nv < old
          · have hlb : decide (nv < old) = true := by simp [hlo]
            rw [if_pos (.inr hlo)] at hstr
            have Hstep := hid hstr
            clear hstr
            go_upto_region 8 with fail
            go_quiet (fail)
            obtain ⟨wq, hwq⟩ : ∃ wq, wq = w3.drewN nq := ⟨_, rfl⟩
            have hbq : Below w3.heap.size w3 wq := by rw [hwq]; exact below_drewN (Below.refl _ _) _
            rw [← hwq]
            clear hwq
            have hTq : TabO wq.drew B V bt bn n cb gw cw word R C N := (HT3.out.later hbq).later (below_drewN (Below.refl _ _) 1)
            have hxq : Bk wq.drew cx 35 [.int .i64 a, .slice gr r.length cr] := (Hx3.out.below hbq Hx3.out.lt).below (below_drewN (Below.refl _ _) 1) (Hx3.out.below hbq Hx3.out.lt).lt
            have hput := hTq.put han (show fr ≤ word.length by omega) hen nv
            have hcxC : C a fr ≠ cx := HneC.out
            have hkC : Kp (fun x => x = C a fr) wq.drew (wq.drew.setCell ⟨C a fr, en, none⟩ (.int .i64 nv)) := Kp.set (S := fun x => x = C a fr) (p := ⟨C a fr, en, none⟩) (Kp.refl _ _) (.inl rfl) _
            have hfz : wq.drew.frozen? ⟨C a fr, en, none⟩ = false := by
              obtain ⟨lq, hq1, _, _⟩ := hTq.t.rc a fr han (by omega)
              exact hq1.free en
            obtain ⟨cq, q1⟩ := hTq.t.rn a han
            have q0 := hTq.t.k.cell 6
            have q2 := hTq.t.rr a fr han (by omega)
            have q3 := hTq.t.cell han (show fr ≤ word.length by omega) hen
            have q4 := hxq.cell 0
            simp only [List.getElem?_cons_zero, List.getElem?_cons_succ] at q0 q4
            unfold rowI at q2
            obtain ⟨n1, n2, n3⟩ := hTq.nt a fr han (by omega)
            have p0 := hkC.cell q0 (fun e => n1 e.symm)
            have p1 := hkC.cell q1 (fun e => n2 e.symm)
            have p2 := hkC.cell q2 (fun e => n3 a han e.symm)
            have p4 := hkC.cell q4 (fun e => hcxC e.symm)
            have hb7 : Below B w (wq.drew.setCell ⟨C a fr, en, none⟩ (.int .i64 nv)) := ((Hbw3.out.trans (hbq.mono HB3.out)).trans (below_drewN (Below.refl _ _) 1)).setCell (p := ⟨C a fr, en, none⟩) (by exact hTq.lo a fr han (by omega)) _
            have Hput := hid hput
            have Hb7 := hid hb7
            obtain ⟨cA, hcA⟩ : ∃ cA, cA = C a fr := ⟨_, rfl⟩
            rw [← hcA] at hfz q2 q3 p0 p1 p2 p4
            have HcA := hid hcA
            obtain ⟨L1, hL1⟩ : ∃ L1, L1 = word.length + 1 := ⟨_, rfl⟩
            rw [← hL1] at q1 q2 p1 p2
            have hfL : (fr : Int) < (L1 : Int) := by omega
            have heL : (en : Int) < (L1 : Int) := by omega
            obtain ⟨rA, hrA⟩ : ∃ rA, rA = R a := ⟨_, rfl⟩
            rw [← hrA] at q1 q2 p1 p2
            obtain ⟨od, hod⟩ : ∃ od, od = N a fr en := ⟨_, rfl⟩
            rw [← hod] at q3
            clear hTq hxq hput hcxC hkC n1 n2 n3 hb7 hcA hL1 hrA hod hbq e0 e1 e2 e3 e4
            go_upto_region 10 with fail
            go_region_held3 (fun w' => w'.cell? ⟨bt, 6, none⟩ = some (.slice (some ⟨bn, 0, none⟩) n cb) ∧ w'.cell? ⟨cx, 0, none⟩ = some (.int .i64 a) ∧ w'.cell? ⟨bn, a, none⟩ = some (.slice (some ⟨rA, 0, none⟩) L1 cq) ∧ w'.cell? ⟨rA, fr, none⟩ = some (.slice (some ⟨cA, 0, none⟩) L1 L1))
              (first | exact ⟨‹_›, ‹_›, ‹_›, ‹_›⟩)
              (fail)
            all_goals
              go_wp2_with fail
              rw [← hgp]
              go_roundg (ps.length - (q + 1))
              case measure => have hk := Hk.out; omega
              case rel => exact ⟨q + 1, _, true, by go_num, rfl, by omega, Hstep.out, by rw [HcA.out]; exact Hput.out, upd_range HN2.out (by unfold Le.cap; omega) a fr en, rfl, by rw [HcA.out]; exact Hb7.out⟩
          · have hlb : decide (nv < old) = false := by simp; omega
            rw [if_neg (by omega)] at hstr
            have Hstep := hid hstr
            clear hstr
            go_upto_region 8 with fail
            go_quiet (fail)
            go_wp2_with fail
            rw [← hgp]
            go_roundg (ps.length - (q + 1))
            case measure => have hk := Hk.out; omega
            case rel => exact ⟨q + 1, N, less, by go_num, rfl, by omega, Hstep.out, HT3.out.later (below_drewN (Below.refl _ _) _), HN2.out, rfl, below_drewN Hbw3.out _⟩
    · have hge : ¬ (q : Int) < (ps.length : Int) := by omega
      rw [List.drop_eq_nil_of_le (by omega), Le.roundS] at hr
      have Hr := hid hr
      clear hr hb
      go_wp2_with fail
      go_ret
      have e := Hr.out
      subst e
      exact ⟨rfl, HT.out, HN2.out, Hb.out⟩
end Go.Proofs.Ytbpgolmbielpgaa
