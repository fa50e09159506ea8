/- Chapter 5 (syntax): Same of any grammars. -/
import Derived.Test.YtjaampgpihicmaaSyn15
namespace Go.Proofs.Ytjaampgpihicmaa.Syn
def eqL {α : Type} (g : α → α → Bool) : List α → List α → Bool
  | a :: r, b :: s => g a b && eqL g r s
  | _, _ => true
def sameR (x y : List UInt8 × Nod) : Bool := x.1 == y.1 && sameN x.2 y.2
def sameG (x y : List UInt8 × List (List UInt8 × Nod)) : Bool := x.1 == y.1 && (decide (x.2.length = y.2.length) && eqL sameR x.2 y.2)
theorem eqL_iff : ∀ r s : List (List UInt8 × Nod), r.length = s.length → (eqL sameR r s = true ↔ r = s)
  | [], [], _ => by simp [eqL]
  | [], _ :: _, h => by simp at h
  | _ :: _, [], h => by simp at h
  | a :: r, b :: s, h => by
    rw [eqL, Bool.and_eq_true, eqL_iff r s (by simpa using h), sameR, Bool.and_eq_true, beq_iff_eq, sameN_iff, List.cons.injEq, Prod.ext_iff]
theorem sameG_iff (x y : List UInt8 × List (List UInt8 × Nod)) : sameG x y = true ↔ x = y := by
  unfold sameG
  rw [Bool.and_eq_true, Bool.and_eq_true, decide_eq_true_eq, beq_iff_eq, Prod.ext_iff]
  constructor
  · rintro ⟨h1, h2, h3⟩
    exact ⟨h1, (eqL_iff _ _ h2).1 h3⟩
  · rintro ⟨h1, h2⟩
    exact ⟨h1, by rw [h2], (eqL_iff _ _ (by rw [h2])).2 h2⟩
end Go.Proofs.Ytjaampgpihicmaa.Syn
namespace Go.Proofs.Ytjaampgpihicmaa
open Go.RowKit
attribute [local go_sem ↓] Go.wp_at_zero Go.wp_at_succ
attribute [local go_sem] frozen_alloc_lt
open Syn (Nd Nod)

/-- Rules that lie in a world. -/
def RulesIn (w : World) (ga : Option Addr) (rs : List (List UInt8 × Nod)) : Prop := RulesM w (fun k => k < w.heap.size) ga rs
theorem RulesIn.later {w w' : World} {ga : Option Addr} {rs : List (List UInt8 × Nod)} (h : RulesIn w ga rs) (hb : Below w.heap.size w w') : RulesIn w' ga rs :=
  (RulesM.kp h (below_kp hb) (fun _ _ e => e)).mono fun k (hk : k < w.heap.size) => Nat.lt_of_lt_of_le hk hb.size
theorem RulesIn.of {w : World} {b : Nat} {ga : Option Addr} {rs : List (List UInt8 × Nod)} (h : RulesM w (From b w) ga rs) : RulesIn w ga rs := h.mono fun _ hk => hk.2
def ruleV (x : List UInt8 × Nod) (gk : Option Addr) (ck : Nat) : Value := .agg #[.string ⟨x.1.toArray⟩, .int .i64 x.2.kind, .string ⟨x.2.text.toArray⟩, .slice gk x.2.kids.len ck]
set_option maxRecDepth 8000 in
set_option maxHeartbeats 4000000 in
theorem sameRule_calls {M : Nat} (hM : M ≤ 1000000000) (w : World) (x y : List UInt8 × Nod) (ga gb : Option Addr) (ca cb : Nat) (ha : NdIn w ga x.2.kids 0) (hb : NdIn w gb y.2.kids 0) (hfa : x.2.fits M) (hfb : y.2.fits M) :
    Calls Try.prog 73 #[ruleV x ga ca, ruleV y gb cb] w fun e w' => e = .returned (.bool (Syn.sameR x y)) ∧ Below w.heap.size w w' := by
  have hbel := bel_trans (bel_new w (.cells #[.string ⟨x.1.toArray⟩, .int .i64 x.2.kind, .string ⟨x.2.text.toArray⟩, .slice ga x.2.kids.len ca] 51)) (bel_new _ (.cells #[.string ⟨y.1.toArray⟩, .int .i64 y.2.kind, .string ⟨y.2.text.toArray⟩, .slice gb y.2.kids.len cb] 51))
  have hcall := sameNode_calls hM x.2.kids.nodes _ x.2 y.2 ga gb ca cb rfl (ha.later hbel) (hb.later hbel) hfa hfb
  obtain ⟨ka, hka⟩ : ∃ ka : Int, ka = x.2.kind := ⟨_, rfl⟩
  obtain ⟨kb, hkb⟩ : ∃ kb : Int, kb = y.2.kind := ⟨_, rfl⟩
  simp only [ruleV, nodeV, ← hka, ← hkb] at hcall hbel ⊢
  have Hbel := hid hbel
  have Hcall := hid hcall
  unfold Syn.sameR
  by_cases h1 : x.1 = y.1
  · rw [h1] at Hcall Hbel ⊢
    have e : (y.1 == y.1 && Syn.sameN x.2 y.2) = Syn.sameN x.2 y.2 := by simp
    rw [e]
    clear h1 e hka hkb hbel hcall ha hb hfa hfb
    go_enter Try.func73, Try.ntmps73
    go_wp2_with (go_at_call 21; refine Hcall.out.mono ?_; rintro e w2 ⟨rfl, hb2⟩)
    go_ret
    exact ⟨rfl, bel_trans Hbel.out hb2⟩
  · have h1' : (x.1 == y.1) = false := by simpa using h1
    rw [h1', Bool.false_and]
    clear h1 hka hkb hbel hcall ha hb hfa hfb Hcall
    go_enter Try.func73, Try.ntmps73
    go_wp2_with fail
    go_ret
    exact ⟨rfl, Hbel.out⟩
def EqRAt (w0 : World) (rs rs' : List (List UInt8 × Nod)) (res : Bool) (k : Nat) (v17 : Value) (w : World) : Prop :=
  ∃ i : Nat, v17 = .int .i64 i ∧ k = rs.length - i ∧ i ≤ rs.length ∧ Syn.eqL Syn.sameR (rs.drop i) (rs'.drop i) = res ∧ Below w0.heap.size w0 w
set_option maxRecDepth 8000 in
set_option maxHeartbeats 4000000 in
theorem eqRules_calls {M : Nat} (hM : M ≤ 1000000000) (w : World) (ga gb : Option Addr) (ca cb : Nat) (rs rs' : List (List UInt8 × Nod)) (ha : RulesIn w ga rs) (hb : RulesIn w gb rs') (hla : rs.length ≤ 1000000000) (hlb : rs'.length ≤ 1000000000) (hfa : ∀ x ∈ rs, x.2.fits M) (hfb : ∀ x ∈ rs', x.2.fits M) :
    Calls Try.prog 72 #[.slice ga rs.length ca, .slice gb rs'.length cb, .func (.func 73) #[] #[]] w fun e w' => e = .returned (.bool (decide (rs.length = rs'.length) && Syn.eqL Syn.sameR rs rs')) ∧ Below w.heap.size w w' := by
  have heg : ∀ (args : Array Value) (w : World), (callFunc 73 args).run Try.prog w = .ok (.enter 73 args) w := fun _ _ => by kernel_rfl
  obtain ⟨L, hL⟩ : ∃ L, L = rs.length := ⟨_, rfl⟩
  obtain ⟨L', hL'⟩ : ∃ L', L' = rs'.length := ⟨_, rfl⟩
  have hL1 : L ≤ 1000000000 := by omega
  have hL2 : L' ≤ 1000000000 := by omega
  by_cases hne : rs.length = rs'.length
  · rw [decide_eq_true hne, Bool.true_and]
    obtain ⟨res, hres⟩ : ∃ res, res = Syn.eqL Syn.sameR rs rs' := ⟨_, rfl⟩
    rw [← hres]
    have hll : L' = L := by omega
    rw [← hL, ← hL', hll]
    have Hres := hid hres
    have HL := hid hL
    have Hne := hid hne
    have Ha := hid ha
    have Hb := hid hb
    have Hfa := hid hfa
    have Hfb := hid hfb
    clear hres hL hL' hne hll hL2 ha hb hfa hfb hla hlb
    go_enter Try.func72, Try.ntmps72
    go_wp2_with fail
    go_loopg [17] L (fun k v17 wr => EqRAt w rs rs' res k v17 wr)
    case atStart => exact ⟨0, rfl, by rw [HL.out]; omega, Nat.zero_le _, by rw [List.drop_zero, List.drop_zero]; exact Hres.out.symm, Below.refl _ _⟩
    case round =>
      obtain ⟨i, rfl, hk, hi, hx, hbw⟩ := hrel
      have Hk := hid hk
      have Hbw := hid hbw
      have Hi := hid hi
      clear hk hi hbw
      rcases Nat.lt_or_ge i rs.length with hlt | hge
      · have hlt' : i < rs'.length := by have := Hne.out; omega
        have hltL : (i : Int) < (L : Int) := by have := HL.out; omega
        have hi0 : (0 : Int) ≤ (i : Int) := by omega
        obtain ⟨x, hxx⟩ : ∃ x, x = rs[i] := ⟨_, rfl⟩
        obtain ⟨y, hyy⟩ : ∃ y, y = rs'[i] := ⟨_, rfl⟩
        obtain ⟨g1, o1, gk, ck, rfl, hg1, a0, a1, a2, a3, hk1⟩ := Ha.out i x (by rw [hxx]; exact List.getElem?_eq_getElem hlt)
        obtain ⟨g2, o2, gl, cl, rfl, hg2, b0, b1, b2, b3, hk2⟩ := Hb.out i y (by rw [hyy]; exact List.getElem?_eq_getElem hlt')
        have hx2 : (Syn.sameR x y && Syn.eqL Syn.sameR (rs.drop (i + 1)) (rs'.drop (i + 1))) = res := by
          rw [← hx, List.drop_eq_getElem_cons hlt, List.drop_eq_getElem_cons hlt', ← hxx, ← hyy]
          rfl
        have hfx := Hfa.out x (by rw [hxx]; exact List.getElem_mem hlt)
        have hfy := Hfb.out y (by rw [hyy]; exact List.getElem_mem hlt')
        have c0 := (Hbw.out.cell (p := ⟨g1, _, none⟩) hg1).trans a0
        have c1 := (Hbw.out.cell (p := ⟨g1, _, none⟩) hg1).trans a1
        have c2 := (Hbw.out.cell (p := ⟨g1, _, none⟩) hg1).trans a2
        have c3 := (Hbw.out.cell (p := ⟨g1, _, none⟩) hg1).trans a3
        have d0 := (Hbw.out.cell (p := ⟨g2, _, none⟩) hg2).trans b0
        have d1 := (Hbw.out.cell (p := ⟨g2, _, none⟩) hg2).trans b1
        have d2 := (Hbw.out.cell (p := ⟨g2, _, none⟩) hg2).trans b2
        have d3 := (Hbw.out.cell (p := ⟨g2, _, none⟩) hg2).trans b3
        have hl1 : g1 < wr.heap.size := Nat.lt_of_lt_of_le hg1 Hbw.out.size
        have hl2 : g2 < wr.heap.size := Nat.lt_of_lt_of_le hg2 Hbw.out.size
        have hk1' : NdIn wr gk x.2.kids 0 := NdIn.later hk1 Hbw.out
        have hk2' : NdIn wr gl y.2.kids 0 := NdIn.later hk2 Hbw.out
        have hpc := fun wy (hy : Below wr.heap.size wr wy) => sameRule_calls hM wy x y gk gl ck cl (hk1'.later hy) (hk2'.later hy) hfx hfy
        simp only [ruleV] at hpc
        have Hpc := hid hpc
        have Hx := hid hx2
        have Hlt := hid hlt
        clear hx hx2 a0 a1 a2 a3 b0 b1 b2 b3 hk1 hk2 hk1' hk2' hpc hxx hyy hfx hfy hlt hlt'
        cases hg : Syn.sameR x y with
        | false =>
          rw [hg] at Hx Hpc
          clear hg
          go_wp2_with ((with_reducible refine ((Hid.out Hpc) _ (bel_trans (bel_new _ _) (bel_new _ _))).mono ?_); rintro e w2 ⟨rfl, hb2⟩)
          go_ret
          rw [← Hx.out]
          exact ⟨rfl, bel_trans Hbw.out (bel_trans (bel_trans (bel_new _ _) (bel_new _ _)) hb2)⟩
        | true =>
          rw [hg] at Hx Hpc
          clear hg
          go_wp2_with ((with_reducible refine ((Hid.out Hpc) _ (bel_trans (bel_new _ _) (bel_new _ _))).mono ?_); rintro e w2 ⟨rfl, hb2⟩)
          go_roundg (rs.length - (i + 1))
          case measure => have hk := Hk.out; have := Hlt.out; omega
          case rel => exact ⟨i + 1, by go_num, rfl, Hlt.out, Hx.out, bel_trans Hbw.out (bel_trans (bel_trans (bel_new _ _) (bel_new _ _)) hb2)⟩
      · have hgeL : ¬ (i : Int) < (L : Int) := by have := HL.out; omega
        have hx2 : res = true := by
          rw [← hx, List.drop_eq_nil_of_le hge]
          rfl
        have Hx := hid hx2
        clear hx hx2 hge
        go_wp2_with fail
        go_ret
        rw [Hx.out]
        exact ⟨rfl, Hbw.out⟩
  · rw [decide_eq_false hne, Bool.false_and]
    rw [← hL, ← hL'] at hne ⊢
    have hneb : ((L : Int) != (L' : Int)) = true := by simp; omega
    have hneb2 : (L != L') = true := by simp [hne]
    clear hne hL hL'
    go_enter Try.func72, Try.ntmps72
    go_wp2_with fail
    go_ret
    exact ⟨rfl, Below.refl _ _⟩
set_option maxRecDepth 8000 in
set_option maxHeartbeats 4000000 in
theorem same_calls {M : Nat} (hM : M ≤ 1000000000) (w : World) (x y : List UInt8 × List (List UInt8 × Nod)) (ga gb : Option Addr) (ca cb : Nat) (ha : RulesIn w ga x.2) (hb : RulesIn w gb y.2) (hla : x.2.length ≤ 1000000000) (hlb : y.2.length ≤ 1000000000) (hfa : ∀ z ∈ x.2, z.2.fits M) (hfb : ∀ z ∈ y.2, z.2.fits M) :
    Calls Try.prog 24 #[.agg #[.string ⟨x.1.toArray⟩, .slice ga x.2.length ca], .agg #[.string ⟨y.1.toArray⟩, .slice gb y.2.length cb]] w fun e w' => e = .returned (.bool (Syn.sameG x y)) ∧ Below w.heap.size w w' := by
  have hbel := bel_trans (bel_new w (.cells #[.string ⟨x.1.toArray⟩, .slice ga x.2.length ca] 25)) (bel_new _ (.cells #[.string ⟨y.1.toArray⟩, .slice gb y.2.length cb] 25))
  have hcall := eqRules_calls hM _ ga gb ca cb x.2 y.2 (ha.later hbel) (hb.later hbel) hla hlb hfa hfb
  have Hbel := hid hbel
  have Hcall := hid hcall
  unfold Syn.sameG
  by_cases h1 : x.1 = y.1
  · rw [h1] at Hcall Hbel ⊢
    have e : ∀ q, (y.1 == y.1 && q) = q := fun q => by simp
    rw [e]
    clear h1 e hbel hcall ha hb hfa hfb hla hlb
    go_enter Try.func24, Try.ntmps24
    go_wp2_with (go_at_call 72; refine Hcall.out.mono ?_; rintro e w2 ⟨rfl, hb2⟩)
    go_ret
    exact ⟨rfl, bel_trans Hbel.out hb2⟩
  · have h1' : (x.1 == y.1) = false := by simpa using h1
    rw [h1', Bool.false_and]
    clear h1 hbel hcall ha hb hfa hfb Hcall hla hlb
    go_enter Try.func24, Try.ntmps24
    go_wp2_with fail
    go_ret
    exact ⟨rfl, Hbel.out⟩
end Go.Proofs.Ytjaampgpihicmaa
