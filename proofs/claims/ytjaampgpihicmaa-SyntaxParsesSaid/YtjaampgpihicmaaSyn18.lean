/- Chapter 5 (syntax): Proper of any grammar. -/
import Derived.Test.YtjaampgpihicmaaSyn17
namespace Go.Proofs.Ytjaampgpihicmaa.Syn
def properR (x : List UInt8 × Nod) : Bool := goodL x.1 && x.2.proper
def properG (x : List UInt8 × List (List UInt8 × Nod)) : Bool := (goodL x.1 && decide (0 < x.2.length)) && x.2.all properR
/-- Names and texts are not long. -/
def shortR (x : List UInt8 × Nod) : Prop := x.1.length ≤ 1000000 ∧ x.2.short
end Go.Proofs.Ytjaampgpihicmaa.Syn
namespace Go.Proofs.Ytjaampgpihicmaa
open Go.RowKit
attribute [local go_sem ↓] Go.wp_at_zero Go.wp_at_succ
attribute [local go_sem] frozen_alloc_lt
open Syn (Nd Nod)

set_option maxRecDepth 8000 in
set_option maxHeartbeats 4000000 in
theorem properRule_calls {M : Nat} (hM : M ≤ 1000000000) (w : World) (x : List UInt8 × Nod) (ga : Option Addr) (ca : Nat) (ha : NdIn w ga x.2.kids 0) (hf : x.2.fits M) (hs : Syn.shortR x) :
    Calls Try.prog 62 #[ruleV x ga ca] w fun e w' => e = .returned (.bool (!Syn.properR x)) ∧ Below w.heap.size w w' := by
  have hbel := bel_new w (.cells #[.string ⟨x.1.toArray⟩, .int .i64 x.2.kind, .string ⟨x.2.text.toArray⟩, .slice ga x.2.kids.len ca] 51)
  have hcall := proper_calls hM x.2.kids.nodes _ x.2 ga ca rfl (ha.later hbel) hf hs.2
  have hgood := good_at x.1 (w.alloc (.cells #[.string ⟨x.1.toArray⟩, .int .i64 x.2.kind, .string ⟨x.2.text.toArray⟩, .slice ga x.2.kids.len ca] 51)) hs.1
  obtain ⟨ka, hka⟩ : ∃ ka : Int, ka = x.2.kind := ⟨_, rfl⟩
  simp only [ruleV, nodeV, ← hka] at hcall hbel hgood ⊢
  have Hbel := hid hbel
  have Hcall := hid hcall
  unfold Syn.properR
  cases hg : Syn.goodL x.1 with
  | false =>
    rw [hg] at hgood
    clear hg hka hbel hcall ha hf hs
    go_enter Try.func62, Try.ntmps62
    go_wp2_with (go_at_call 23; refine hgood.mono ?_; rintro e w2 ⟨rfl, rfl⟩)
    go_ret
    exact ⟨rfl, Hbel.out⟩
  | true =>
    rw [hg] at hgood
    clear hg hka hbel hcall ha hf hs
    go_enter Try.func62, Try.ntmps62
    go_wp2_with (first
      | (go_at_call 23; refine hgood.mono ?_; rintro e w2 ⟨rfl, rfl⟩)
      | (go_at_call 63; refine Hcall.out.mono ?_; rintro e w2 ⟨rfl, hb2⟩))
    go_ret
    exact ⟨by simp, bel_trans Hbel.out hb2⟩
def IdxRAt (w0 : World) (rs : List (List UInt8 × Nod)) (res : Bool) (k : Nat) (v8 : Value) (w : World) : Prop :=
  ∃ i : Nat, v8 = .int .i64 i ∧ k = rs.length - i ∧ i ≤ rs.length ∧ (!(rs.drop i).all Syn.properR) = res ∧ Below w0.heap.size w0 w
set_option maxRecDepth 8000 in
set_option maxHeartbeats 4000000 in
theorem indexRules_calls {M : Nat} (hM : M ≤ 1000000000) (w : World) (ga : Option Addr) (ca : Nat) (rs : List (List UInt8 × Nod)) (ha : RulesIn w ga rs) (hla : rs.length ≤ 1000000000) (hfa : ∀ x ∈ rs, x.2.fits M) (hsa : ∀ x ∈ rs, Syn.shortR x) :
    Calls Try.prog 105 #[.slice ga rs.length ca, .func (.func 62) #[] #[]] w fun e w' => ∃ r : Int, e = .returned (.int .i64 r) ∧ decide (0 ≤ r) = (!rs.all Syn.properR) ∧ Below w.heap.size w w' := by
  have heg : ∀ (args : Array Value) (w : World), (callFunc 62 args).run Try.prog w = .ok (.enter 62 args) w := fun _ _ => by kernel_rfl
  obtain ⟨L, hL⟩ : ∃ L, L = rs.length := ⟨_, rfl⟩
  have hL1 : L ≤ 1000000000 := by omega
  obtain ⟨res, hres⟩ : ∃ res, res = (!rs.all Syn.properR) := ⟨_, rfl⟩
  rw [← hres, ← hL]
  have Hres := hid hres
  have HL := hid hL
  have Ha := hid ha
  have Hfa := hid hfa
  have Hsa := hid hsa
  clear hres hL ha hfa hla hsa
  go_enter Try.func105, Try.ntmps105
  go_wp2_with fail
  go_loopg [8] L (fun k v8 wr => IdxRAt w rs res k v8 wr)
  case atStart => exact ⟨0, rfl, by rw [HL.out]; omega, Nat.zero_le _, by rw [List.drop_zero]; exact Hres.out.symm, Below.refl _ _⟩
  case round =>
    obtain ⟨i, rfl, hk, hi, hx, hbw⟩ := hrel
    have Hk := hid hk
    have Hbw := hid hbw
    have Hi := hid hi
    clear hk hi hbw
    rcases Nat.lt_or_ge i rs.length with hlt | hge
    · have hltL : (i : Int) < (L : Int) := by have := HL.out; omega
      have hi0 : (0 : Int) ≤ (i : Int) := by omega
      obtain ⟨x, hxx⟩ : ∃ x, x = rs[i] := ⟨_, rfl⟩
      obtain ⟨g1, o1, gk, ck, rfl, hg1, a0, a1, a2, a3, hk1⟩ := Ha.out i x (by rw [hxx]; exact List.getElem?_eq_getElem hlt)
      have hx2 : (!(Syn.properR x && (rs.drop (i + 1)).all Syn.properR)) = res := by
        rw [← hx, List.drop_eq_getElem_cons hlt, ← hxx]
        rfl
      have hfx := Hfa.out x (by rw [hxx]; exact List.getElem_mem hlt)
      have hsx := Hsa.out x (by rw [hxx]; exact List.getElem_mem hlt)
      have c0 := (Hbw.out.cell (p := ⟨g1, _, none⟩) hg1).trans a0
      have c1 := (Hbw.out.cell (p := ⟨g1, _, none⟩) hg1).trans a1
      have c2 := (Hbw.out.cell (p := ⟨g1, _, none⟩) hg1).trans a2
      have c3 := (Hbw.out.cell (p := ⟨g1, _, none⟩) hg1).trans a3
      have hl1 : g1 < wr.heap.size := Nat.lt_of_lt_of_le hg1 Hbw.out.size
      have hk1' : NdIn wr gk x.2.kids 0 := NdIn.later hk1 Hbw.out
      have hpc := properRule_calls hM wr x gk ck hk1' hfx hsx
      simp only [ruleV] at hpc
      have Hpc := hid hpc
      have Hx := hid hx2
      have Hlt := hid hlt
      clear hx hx2 a0 a1 a2 a3 hk1 hk1' hpc hxx hfx hsx hlt
      cases hg : Syn.properR x with
      | false =>
        rw [hg] at Hx Hpc
        clear hg
        go_wp2_with ((with_reducible refine (Hid.out Hpc).mono ?_); rintro e w2 ⟨rfl, hb2⟩)
        go_ret
        exact ⟨_, rfl, by rw [← Hx.out]; simp, bel_trans Hbw.out hb2⟩
      | true =>
        rw [hg] at Hx Hpc
        clear hg
        go_wp2_with ((with_reducible refine (Hid.out Hpc).mono ?_); rintro e w2 ⟨rfl, hb2⟩)
        go_roundg (rs.length - (i + 1))
        case measure => have hk := Hk.out; have := Hlt.out; omega
        case rel => exact ⟨i + 1, by go_num, rfl, Hlt.out, by have := Hx.out; simpa using this, bel_trans Hbw.out hb2⟩
    · have hgeL : ¬ (i : Int) < (L : Int) := by have := HL.out; omega
      have hx2 : res = false := by
        rw [← hx, List.drop_eq_nil_of_le hge]
        rfl
      have Hx := hid hx2
      clear hx hx2 hge
      go_wp2_with fail
      go_ret
      exact ⟨_, rfl, by rw [Hx.out]; decide, Hbw.out⟩
set_option maxRecDepth 8000 in
set_option maxHeartbeats 4000000 in
theorem containsRules_calls {M : Nat} (hM : M ≤ 1000000000) (w : World) (ga : Option Addr) (ca : Nat) (rs : List (List UInt8 × Nod)) (ha : RulesIn w ga rs) (hla : rs.length ≤ 1000000000) (hfa : ∀ x ∈ rs, x.2.fits M) (hsa : ∀ x ∈ rs, Syn.shortR x) :
    Calls Try.prog 61 #[.slice ga rs.length ca, .func (.func 62) #[] #[]] w fun e w' => e = .returned (.bool (!rs.all Syn.properR)) ∧ Below w.heap.size w w' := by
  have hcall := indexRules_calls hM w ga ca rs ha hla hfa hsa
  obtain ⟨L, hL⟩ : ∃ L, L = rs.length := ⟨_, rfl⟩
  rw [← hL] at hcall ⊢
  have Hcall := hid hcall
  clear hcall hL ha hla hfa hsa
  go_enter Try.func61, Try.ntmps61
  go_wp2_with (go_at_call 105; refine Hcall.out.mono ?_; rintro e w2 ⟨r, rfl, hr, hb2⟩)
  go_ret
  rw [← hr]
  exact ⟨rfl, hb2⟩
set_option maxRecDepth 8000 in
set_option maxHeartbeats 4000000 in
theorem properG_calls {M : Nat} (hM : M ≤ 1000000000) (w : World) (x : List UInt8 × List (List UInt8 × Nod)) (ga : Option Addr) (ca : Nat) (ha : RulesIn w ga x.2) (hst : x.1.length ≤ 1000000) (hla : x.2.length ≤ 1000000000) (hfa : ∀ z ∈ x.2, z.2.fits M) (hsa : ∀ z ∈ x.2, Syn.shortR z) :
    Calls Try.prog 19 #[.agg #[.string ⟨x.1.toArray⟩, .slice ga x.2.length ca]] w fun e w' => e = .returned (.bool (Syn.properG x)) ∧ Below w.heap.size w w' := by
  have hbel := bel_new w (.cells #[.string ⟨x.1.toArray⟩, .slice ga x.2.length ca] 25)
  have hcall := containsRules_calls hM _ ga ca x.2 (ha.later hbel) hla hfa hsa
  have hgood := good_at x.1 (w.alloc (.cells #[.string ⟨x.1.toArray⟩, .slice ga x.2.length ca] 25)) hst
  obtain ⟨L, hL⟩ : ∃ L, L = x.2.length := ⟨_, rfl⟩
  have hL1 : L ≤ 1000000000 := by omega
  unfold Syn.properG
  rw [← hL] at hcall hbel hgood ⊢
  have Hbel := hid hbel
  have Hcall := hid hcall
  cases hg : Syn.goodL x.1 with
  | false =>
    rw [hg] at hgood
    clear hg hL hbel hcall ha hst hla hfa hsa
    go_enter Try.func19, Try.ntmps19
    go_wp2_with (go_at_call 23; refine hgood.mono ?_; rintro e w2 ⟨rfl, rfl⟩)
    go_ret
    exact ⟨rfl, Hbel.out⟩
  | true =>
    rw [hg] at hgood
    clear hg hL hbel hcall ha hst hla hfa hsa
    by_cases h0 : 0 < L
    · have h0' : (0 : Int) < (L : Int) := by omega
      rw [decide_eq_true h0]
      clear h0
      go_enter Try.func19, Try.ntmps19
      go_wp2_with (first
        | (go_at_call 23; refine hgood.mono ?_; rintro e w2 ⟨rfl, rfl⟩)
        | (go_at_call 61; refine Hcall.out.mono ?_; rintro e w2 ⟨rfl, hb2⟩))
      go_ret
      exact ⟨by simp, bel_trans Hbel.out hb2⟩
    · have h0' : ¬ (0 : Int) < (L : Int) := by omega
      rw [decide_eq_false h0]
      clear h0
      go_enter Try.func19, Try.ntmps19
      go_wp2_with (go_at_call 23; refine hgood.mono ?_; rintro e w2 ⟨rfl, rfl⟩)
      go_ret
      exact ⟨by first | rfl | simp [*], Hbel.out⟩
end Go.Proofs.Ytjaampgpihicmaa
