/- Chapter 5 (syntax): SameNode of any nodes. -/
import Derived.Test.YtjaampgpihicmaaSynLaw5
import Derived.Test.YtjaampgpihicmaaSyn14
namespace Go.Proofs.Ytjaampgpihicmaa
open Go.RowKit
attribute [local go_sem ↓] Go.wp_at_zero Go.wp_at_succ
attribute [local go_sem] frozen_alloc_lt
open Syn (Nd Nod)

/-- Nodes that lie in a world. -/
def NdIn (w : World) (ga : Option Addr) (f : Nd) (i : Nat) : Prop := NdAt w (fun k => k < w.heap.size) ga f i
theorem NdIn.later {w w' : World} {ga : Option Addr} {f : Nd} {i : Nat} (h : NdIn w ga f i) (hb : Below w.heap.size w w') : NdIn w' ga f i :=
  (NdAt.kp (below_kp hb) (fun _ _ e => e) h).mono fun k (hk : k < w.heap.size) => Nat.lt_of_lt_of_le hk hb.size
theorem bel_trans {w w' w'' : World} (h : Below w.heap.size w w') (k : Below w'.heap.size w' w'') : Below w.heap.size w w'' := h.trans (k.mono h.size)
theorem bel_new (w : World) (o : Obj) : Below w.heap.size w (w.alloc o) := (Below.refl _ _).alloc (Nat.le_refl _) _
def EqNAt (w0 : World) (ga gb : Option Addr) (g : Nod → Nod → Bool) (L : Nat) (res : Bool) (N : Nat) (M : Nat) (k : Nat) (v17 : Value) (w : World) : Prop :=
  ∃ (i : Nat) (r r' : Nd), v17 = .int .i64 i ∧ i + r.len = L ∧ r'.len = r.len ∧ r.nodes ≤ N ∧ r.fits M ∧ r'.fits M ∧ NdIn w0 ga r i ∧ NdIn w0 gb r' i ∧ Syn.all2 g r r' = res ∧ k = r.len ∧ Below w0.heap.size w0 w
set_option maxRecDepth 8000 in
set_option maxHeartbeats 4000000 in
theorem eqNodes_calls (w : World) (ga gb : Option Addr) (ca cb : Nat) (f f' : Nd) (F M : Nat) (g : Nod → Nod → Bool) (ha : NdIn w ga f 0) (hb : NdIn w gb f' 0) (hM : M ≤ 1000000000) (hla : f.len ≤ M) (hlb : f'.len ≤ M) (hfa : f.fits M) (hfb : f'.fits M)
    (eg : ∀ args w, (callFunc F args).run Try.prog w = .ok (.enter F args) w)
    (hp : ∀ (wy : World) (a b : Nod) (gk gl : Option Addr) (ck cl : Nat), Below w.heap.size w wy → 1 + a.kids.nodes ≤ f.nodes → NdIn wy gk a.kids 0 → NdIn wy gl b.kids 0 → a.fits M → b.fits M → Calls Try.prog F #[nodeV a gk ck, nodeV b gl cl] wy fun e w' => e = .returned (.bool (g a b)) ∧ Below wy.heap.size wy w') :
    Calls Try.prog 68 #[.slice ga f.len ca, .slice gb f'.len cb, .func (.func F) #[] #[]] w fun e w' => e = .returned (.bool (Syn.eqB g f f')) ∧ Below w.heap.size w w' := by
  have Hp := hid hp
  have Heg := eg
  clear hp eg
  obtain ⟨L, hL⟩ : ∃ L, L = f.len := ⟨_, rfl⟩
  obtain ⟨L', hL'⟩ : ∃ L', L' = f'.len := ⟨_, rfl⟩
  have hL1 : L ≤ 1000000000 := by omega
  have hL2 : L' ≤ 1000000000 := by omega
  have hN := Nat.le_refl f.nodes
  by_cases hne : f.len = f'.len
  · have he : Syn.eqB g f f' = Syn.all2 g f f' := by unfold Syn.eqB; rw [decide_eq_true hne]; rfl
    rw [he]
    clear he
    obtain ⟨res, hres⟩ : ∃ res, res = Syn.all2 g f f' := ⟨_, rfl⟩
    rw [← hres]
    have hll : L' = L := by omega
    rw [← hL, ← hL', hll]
    have Hres := hid hres
    have HL := hid hL
    have Hne := hid hne
    have Ha := hid ha
    have Hb := hid hb
    have Hfa := hid hfa
    have Hfb := hid hfb
    clear hres hL hL' hne hll hL2 ha hb hfa hfb hla hlb
    go_enter Try.func68, Try.ntmps68
    go_wp2_with fail
    go_loopg [17] L (fun k v17 wr => EqNAt w ga gb g L res f.nodes M k v17 wr)
    case atStart => exact ⟨0, f, f', rfl, by rw [HL.out]; omega, Hne.out.symm, Nat.le_refl _, Hfa.out, Hfb.out, Ha.out, Hb.out, Hres.out.symm, HL.out, Below.refl _ _⟩
    case round =>
      obtain ⟨i, r, r', rfl, hi, hrl, hnd, hf1, hf2, hi1, hi2, hx, hk, hbw⟩ := hrel
      have Hk := hid hk
      have Hbw := hid hbw
      have Hi := hid hi
      clear hk hi hbw
      cases r with
      | nil =>
        have hge : ¬ (i : Int) < (L : Int) := by have h1 := Hi.out; simp only [Nd.len] at h1; omega
        have hx2 : res = true := by rw [← hx, Syn.all2]
        have Hx := hid hx2
        clear hx hx2
        go_wp2_with fail
        go_ret
        rw [Hx.out]
        exact ⟨rfl, Hbw.out⟩
      | cons a t k r1 =>
        cases r' with
        | nil => simp [Nd.len] at hrl
        | cons b u l r2 =>
          have hlt : (i : Int) < (L : Int) := by have h1 := Hi.out; simp only [Nd.len] at h1; omega
          have hi0 : (0 : Int) ≤ (i : Int) := by omega
          rw [Syn.all2] at hx
          unfold NdIn NdAt at hi1 hi2
          obtain ⟨⟨g1, o1, gk, ck, rfl, hg1, a0, a1, a2, hk1⟩, hr1⟩ := hi1
          obtain ⟨⟨g2, o2, gl, cl, rfl, hg2, b0, b1, b2, hk2⟩, hr2⟩ := hi2
          simp only [Nd.nodes] at hnd
          simp only [Syn.Nd.fits] at hf1 hf2
          have al := (Hbw.out.cell (p := ⟨g1, _, none⟩) hg1).trans a0
          have al1 := (Hbw.out.cell (p := ⟨g1, _, none⟩) hg1).trans a1
          have al2 := (Hbw.out.cell (p := ⟨g1, _, none⟩) hg1).trans a2
          have bl := (Hbw.out.cell (p := ⟨g2, _, none⟩) hg2).trans b0
          have bl1 := (Hbw.out.cell (p := ⟨g2, _, none⟩) hg2).trans b1
          have bl2 := (Hbw.out.cell (p := ⟨g2, _, none⟩) hg2).trans b2
          have hl1 : g1 < wr.heap.size := Nat.lt_of_lt_of_le hg1 Hbw.out.size
          have hl2 : g2 < wr.heap.size := Nat.lt_of_lt_of_le hg2 Hbw.out.size
          have hk1' : NdIn wr gk k 0 := NdIn.later hk1 Hbw.out
          have hk2' : NdIn wr gl l 0 := NdIn.later hk2 Hbw.out
          have hpc := fun wy (hy : Below wr.heap.size wr wy) => Hp.out wy ⟨a, t, k⟩ ⟨b, u, l⟩ gk gl ck cl (bel_trans Hbw.out hy) (by simp only; omega) (hk1'.later hy) (hk2'.later hy) ⟨hf1.1, hf1.2.1⟩ ⟨hf2.1, hf2.2.1⟩
          simp only [nodeV] at hpc
          have Hpc := hid hpc
          have Hr1 := hid hr1
          have Hr2 := hid hr2
          have hn2 : r1.nodes ≤ f.nodes := by omega
          have hrl2 : r2.len = r1.len := by simpa [Nd.len] using hrl
          have Hx := hid hx
          have Hf := hid (And.intro hf1.2.2 hf2.2.2)
          have Hn2 := hid hn2
          have Hrl2 := hid hrl2
          clear hx a0 a1 a2 b0 b1 b2 hk1 hk2 hr1 hr2 hk1' hk2' hpc hnd hn2 hrl hrl2 hf1 hf2
          cases hg : g ⟨a, t, k⟩ ⟨b, u, l⟩ with
          | false =>
            rw [hg] at Hx Hpc
            clear hg
            go_wp2_with ((with_reducible refine ((Hid.out Hpc) _ (bel_trans (bel_new _ _) (bel_new _ _))).mono ?_); rintro e w2 ⟨rfl, hb2⟩)
            go_ret
            rw [← Hx.out]
            exact ⟨rfl, bel_trans Hbw.out (bel_trans (bel_trans (bel_new _ _) (bel_new _ _)) hb2)⟩
          | true =>
            rw [hg] at Hx Hpc
            clear hg
            go_wp2_with ((with_reducible refine ((Hid.out Hpc) _ (bel_trans (bel_new _ _) (bel_new _ _))).mono ?_); rintro e w2 ⟨rfl, hb2⟩)
            go_roundg r1.len
            case measure => have hk := Hk.out; simp only [Nd.len] at hk; omega
            case rel => exact ⟨i + 1, r1, r2, by go_num, by have := Hi.out; simp only [Nd.len] at this; omega, Hrl2.out, Hn2.out, Hf.out.1, Hf.out.2, Hr1.out, Hr2.out, Hx.out, rfl, bel_trans Hbw.out (bel_trans (bel_trans (bel_new _ _) (bel_new _ _)) hb2)⟩
  · have he : Syn.eqB g f f' = false := by unfold Syn.eqB; rw [decide_eq_false hne]; rfl
    rw [he]
    rw [← hL, ← hL'] at hne ⊢
    have hneb : ((L : Int) != (L' : Int)) = true := by simp; omega
    have hneb2 : (L != L') = true := by simp [hne]
    clear he hne hL hL'
    go_enter Try.func68, Try.ntmps68
    go_wp2_with fail
    go_ret
    exact ⟨rfl, Below.refl _ _⟩
def SameSays (M m : Nat) : Prop := ∀ (w : World) (a b : Nod) (ga gb : Option Addr) (ca cb : Nat), a.kids.nodes = m → NdIn w ga a.kids 0 → NdIn w gb b.kids 0 → a.fits M → b.fits M →
  Calls Try.prog 21 #[nodeV a ga ca, nodeV b gb cb] w fun e w' => e = .returned (.bool (Syn.sameN a b)) ∧ Below w.heap.size w w'
set_option maxRecDepth 8000 in
set_option maxHeartbeats 4000000 in
theorem same_step {M : Nat} (hM : M ≤ 1000000000) (m : Nat) (ih : ∀ m', m' < m → SameSays M m') : SameSays M m := by
  intro w a b ga gb ca cb hm ha hb hfa hfb
  have heg : ∀ (args : Array Value) (w : World), (callFunc 21 args).run Try.prog w = .ok (.enter 21 args) w := fun _ _ => by kernel_rfl
  have hbel := bel_trans (bel_new w (.cells #[.int .i64 a.kind, .string ⟨a.text.toArray⟩, .slice ga a.kids.len ca] 49)) (bel_new _ (.cells #[.int .i64 b.kind, .string ⟨b.text.toArray⟩, .slice gb b.kids.len cb] 49))
  have hcall := eqNodes_calls _ ga gb ca cb a.kids b.kids 21 M Syn.sameN (ha.later hbel) (hb.later hbel) hM hfa.1 hfb.1 hfa.2 hfb.2 heg (fun wy a' b' gk gl ck cl hy hn h1 h2 h3 h4 => ih a'.kids.nodes (by omega) wy a' b' gk gl ck cl rfl h1 h2 h3 h4)
  have hs := Syn.sameN_eq a b
  have Hbel := hid hbel
  have Hs := hid hs
  have Hcall := hid hcall
  obtain ⟨ka, hka⟩ : ∃ ka : Int, ka = a.kind := ⟨_, rfl⟩
  obtain ⟨kb, hkb⟩ : ∃ kb : Int, kb = b.kind := ⟨_, rfl⟩
  simp only [nodeV, ← hka, ← hkb] at Hcall Hbel ⊢
  by_cases h1 : ka = kb
  · by_cases h2 : a.text = b.text
    · have e : Syn.sameN a b = Syn.eqB Syn.sameN a.kids b.kids := by
        rw [hs, h2, show a.kind = b.kind by omega]
        simp
      rw [e]
      subst h1
      rw [h2] at Hcall Hbel ⊢
      clear hs h2 e hka hkb ih hm ha hb hfa hfb hbel hcall Hs
      go_enter Try.func21, Try.ntmps21
      go_wp2_with (go_at_call 68; refine Hcall.out.mono ?_; rintro e w2 ⟨rfl, hb2⟩)
      go_ret
      exact ⟨rfl, bel_trans Hbel.out hb2⟩
    · have e : Syn.sameN a b = false := by
        rw [hs]
        simp [h2]
      rw [e]
      have h2' : (a.text == b.text) = false := by simpa using h2
      subst h1
      clear hs h2 e hka hkb ih hm ha hb hfa hfb hbel hcall Hs Hcall
      go_enter Try.func21, Try.ntmps21
      go_wp2_with fail
      go_ret
      exact ⟨rfl, Hbel.out⟩
  · have e : Syn.sameN a b = false := by
      rw [hs]
      have : ¬ a.kind = b.kind := by omega
      simp [this]
    rw [e]
    have h1' : (ka == kb) = false := by simpa using h1
    clear hs e hka hkb ih hm ha hb hfa hfb hbel hcall Hs Hcall
    go_enter Try.func21, Try.ntmps21
    go_wp2_with fail
    go_ret
    exact ⟨rfl, Hbel.out⟩
theorem sameNode_calls {M : Nat} (hM : M ≤ 1000000000) (m : Nat) : SameSays M m := by
  induction m using Nat.strongRecOn with
  | ind m ih => exact same_step hM m ih
end Go.Proofs.Ytjaampgpihicmaa
/- Chapter 5 (syntax): Same of any grammars. -/
namespace Go.Proofs.Ytjaampgpihicmaa.Syn
def eqL {α : Type} (g : α → α → Bool) : List α → List α → Bool
  | a :: r, b :: s => g a b && eqL g r s
  | _, _ => true
def sameR (x y : List UInt8 × Nod) : Bool := x.1 == y.1 && sameN x.2 y.2
def sameG (x y : List UInt8 × List (List UInt8 × Nod)) : Bool := x.1 == y.1 && (decide (x.2.length = y.2.length) && eqL sameR x.2 y.2)
theorem eqL_iff : ∀ r s : List (List UInt8 × Nod), r.length = s.length → (eqL sameR r s = true ↔ r = s)
  | [], [], _ => by simp [eqL]
  | [], _ :: _, h => by simp at h
  | _ :: _, [], h => by simp at h
  | a :: r, b :: s, h => by
    rw [eqL, Bool.and_eq_true, eqL_iff r s (by simpa using h), sameR, Bool.and_eq_true, beq_iff_eq, sameN_iff, List.cons.injEq, Prod.ext_iff]
theorem sameG_iff (x y : List UInt8 × List (List UInt8 × Nod)) : sameG x y = true ↔ x = y := by
  unfold sameG
  rw [Bool.and_eq_true, Bool.and_eq_true, decide_eq_true_eq, beq_iff_eq, Prod.ext_iff]
  constructor
  · rintro ⟨h1, h2, h3⟩
    exact ⟨h1, (eqL_iff _ _ h2).1 h3⟩
  · rintro ⟨h1, h2⟩
    exact ⟨h1, by rw [h2], (eqL_iff _ _ (by rw [h2])).2 h2⟩
end Go.Proofs.Ytjaampgpihicmaa.Syn
namespace Go.Proofs.Ytjaampgpihicmaa
open Go.RowKit
attribute [local go_sem ↓] Go.wp_at_zero Go.wp_at_succ
attribute [local go_sem] frozen_alloc_lt
open Syn (Nd Nod)

/-- Rules that lie in a world. -/
def RulesIn (w : World) (ga : Option Addr) (rs : List (List UInt8 × Nod)) : Prop := RulesM w (fun k => k < w.heap.size) ga rs
theorem RulesIn.later {w w' : World} {ga : Option Addr} {rs : List (List UInt8 × Nod)} (h : RulesIn w ga rs) (hb : Below w.heap.size w w') : RulesIn w' ga rs :=
  (RulesM.kp h (below_kp hb) (fun _ _ e => e)).mono fun k (hk : k < w.heap.size) => Nat.lt_of_lt_of_le hk hb.size
theorem RulesIn.of {w : World} {b : Nat} {ga : Option Addr} {rs : List (List UInt8 × Nod)} (h : RulesM w (From b w) ga rs) : RulesIn w ga rs := h.mono fun _ hk => hk.2
def ruleV (x : List UInt8 × Nod) (gk : Option Addr) (ck : Nat) : Value := .agg #[.string ⟨x.1.toArray⟩, .int .i64 x.2.kind, .string ⟨x.2.text.toArray⟩, .slice gk x.2.kids.len ck]
set_option maxRecDepth 8000 in
set_option maxHeartbeats 4000000 in
theorem sameRule_calls {M : Nat} (hM : M ≤ 1000000000) (w : World) (x y : List UInt8 × Nod) (ga gb : Option Addr) (ca cb : Nat) (ha : NdIn w ga x.2.kids 0) (hb : NdIn w gb y.2.kids 0) (hfa : x.2.fits M) (hfb : y.2.fits M) :
    Calls Try.prog 73 #[ruleV x ga ca, ruleV y gb cb] w fun e w' => e = .returned (.bool (Syn.sameR x y)) ∧ Below w.heap.size w w' := by
  have hbel := bel_trans (bel_new w (.cells #[.string ⟨x.1.toArray⟩, .int .i64 x.2.kind, .string ⟨x.2.text.toArray⟩, .slice ga x.2.kids.len ca] 51)) (bel_new _ (.cells #[.string ⟨y.1.toArray⟩, .int .i64 y.2.kind, .string ⟨y.2.text.toArray⟩, .slice gb y.2.kids.len cb] 51))
  have hcall := sameNode_calls hM x.2.kids.nodes _ x.2 y.2 ga gb ca cb rfl (ha.later hbel) (hb.later hbel) hfa hfb
  obtain ⟨ka, hka⟩ : ∃ ka : Int, ka = x.2.kind := ⟨_, rfl⟩
  obtain ⟨kb, hkb⟩ : ∃ kb : Int, kb = y.2.kind := ⟨_, rfl⟩
  simp only [ruleV, nodeV, ← hka, ← hkb] at hcall hbel ⊢
  have Hbel := hid hbel
  have Hcall := hid hcall
  unfold Syn.sameR
  by_cases h1 : x.1 = y.1
  · rw [h1] at Hcall Hbel ⊢
    have e : (y.1 == y.1 && Syn.sameN x.2 y.2) = Syn.sameN x.2 y.2 := by simp
    rw [e]
    clear h1 e hka hkb hbel hcall ha hb hfa hfb
    go_enter Try.func73, Try.ntmps73
    go_wp2_with (go_at_call 21; refine Hcall.out.mono ?_; rintro e w2 ⟨rfl, hb2⟩)
    go_ret
    exact ⟨rfl, bel_trans Hbel.out hb2⟩
  · have h1' : (x.1 == y.1) = false := by simpa using h1
    rw [h1', Bool.false_and]
    clear h1 hka hkb hbel hcall ha hb hfa hfb Hcall
    go_enter Try.func73, Try.ntmps73
    go_wp2_with fail
    go_ret
    exact ⟨rfl, Hbel.out⟩
def EqRAt (w0 : World) (rs rs' : List (List UInt8 × Nod)) (res : Bool) (k : Nat) (v17 : Value) (w : World) : Prop :=
  ∃ i : Nat, v17 = .int .i64 i ∧ k = rs.length - i ∧ i ≤ rs.length ∧ Syn.eqL Syn.sameR (rs.drop i) (rs'.drop i) = res ∧ Below w0.heap.size w0 w
set_option maxRecDepth 8000 in
set_option maxHeartbeats 4000000 in
theorem eqRules_calls {M : Nat} (hM : M ≤ 1000000000) (w : World) (ga gb : Option Addr) (ca cb : Nat) (rs rs' : List (List UInt8 × Nod)) (ha : RulesIn w ga rs) (hb : RulesIn w gb rs') (hla : rs.length ≤ 1000000000) (hlb : rs'.length ≤ 1000000000) (hfa : ∀ x ∈ rs, x.2.fits M) (hfb : ∀ x ∈ rs', x.2.fits M) :
    Calls Try.prog 72 #[.slice ga rs.length ca, .slice gb rs'.length cb, .func (.func 73) #[] #[]] w fun e w' => e = .returned (.bool (decide (rs.length = rs'.length) && Syn.eqL Syn.sameR rs rs')) ∧ Below w.heap.size w w' := by
  have heg : ∀ (args : Array Value) (w : World), (callFunc 73 args).run Try.prog w = .ok (.enter 73 args) w := fun _ _ => by kernel_rfl
  obtain ⟨L, hL⟩ : ∃ L, L = rs.length := ⟨_, rfl⟩
  obtain ⟨L', hL'⟩ : ∃ L', L' = rs'.length := ⟨_, rfl⟩
  have hL1 : L ≤ 1000000000 := by omega
  have hL2 : L' ≤ 1000000000 := by omega
  by_cases hne : rs.length = rs'.length
  · rw [decide_eq_true hne, Bool.true_and]
    obtain ⟨res, hres⟩ : ∃ res, res = Syn.eqL Syn.sameR rs rs' := ⟨_, rfl⟩
    rw [← hres]
    have hll : L' = L := by omega
    rw [← hL, ← hL', hll]
    have Hres := hid hres
    have HL := hid hL
    have Hne := hid hne
    have Ha := hid ha
    have Hb := hid hb
    have Hfa := hid hfa
    have Hfb := hid hfb
    clear hres hL hL' hne hll hL2 ha hb hfa hfb hla hlb
    go_enter Try.func72, Try.ntmps72
    go_wp2_with fail
    go_loopg [17] L (fun k v17 wr => EqRAt w rs rs' res k v17 wr)
    case atStart => exact ⟨0, rfl, by rw [HL.out]; omega, Nat.zero_le _, by rw [List.drop_zero, List.drop_zero]; exact Hres.out.symm, Below.refl _ _⟩
    case round =>
      obtain ⟨i, rfl, hk, hi, hx, hbw⟩ := hrel
      have Hk := hid hk
      have Hbw := hid hbw
      have Hi := hid hi
      clear hk hi hbw
      rcases Nat.lt_or_ge i rs.length with hlt | hge
      · have hlt' : i < rs'.length := by have := Hne.out; omega
        have hltL : (i : Int) < (L : Int) := by have := HL.out; omega
        have hi0 : (0 : Int) ≤ (i : Int) := by omega
        obtain ⟨x, hxx⟩ : ∃ x, x = rs[i] := ⟨_, rfl⟩
        obtain ⟨y, hyy⟩ : ∃ y, y = rs'[i] := ⟨_, rfl⟩
        obtain ⟨g1, o1, gk, ck, rfl, hg1, a0, a1, a2, a3, hk1⟩ := Ha.out i x (by rw [hxx]; exact List.getElem?_eq_getElem hlt)
        obtain ⟨g2, o2, gl, cl, rfl, hg2, b0, b1, b2, b3, hk2⟩ := Hb.out i y (by rw [hyy]; exact List.getElem?_eq_getElem hlt')
        have hx2 : (Syn.sameR x y && Syn.eqL Syn.sameR (rs.drop (i + 1)) (rs'.drop (i + 1))) = res := by
          rw [← hx, List.drop_eq_getElem_cons hlt, List.drop_eq_getElem_cons hlt', ← hxx, ← hyy]
          rfl
        have hfx := Hfa.out x (by rw [hxx]; exact List.getElem_mem hlt)
        have hfy := Hfb.out y (by rw [hyy]; exact List.getElem_mem hlt')
        have c0 := (Hbw.out.cell (p := ⟨g1, _, none⟩) hg1).trans a0
        have c1 := (Hbw.out.cell (p := ⟨g1, _, none⟩) hg1).trans a1
        have c2 := (Hbw.out.cell (p := ⟨g1, _, none⟩) hg1).trans a2
        have c3 := (Hbw.out.cell (p := ⟨g1, _, none⟩) hg1).trans a3
        have d0 := (Hbw.out.cell (p := ⟨g2, _, none⟩) hg2).trans b0
        have d1 := (Hbw.out.cell (p := ⟨g2, _, none⟩) hg2).trans b1
        have d2 := (Hbw.out.cell (p := ⟨g2, _, none⟩) hg2).trans b2
        have d3 := (Hbw.out.cell (p := ⟨g2, _, none⟩) hg2).trans b3
        have hl1 : g1 < wr.heap.size := Nat.lt_of_lt_of_le hg1 Hbw.out.size
        have hl2 : g2 < wr.heap.size := Nat.lt_of_lt_of_le hg2 Hbw.out.size
        have hk1' : NdIn wr gk x.2.kids 0 := NdIn.later hk1 Hbw.out
        have hk2' : NdIn wr gl y.2.kids 0 := NdIn.later hk2 Hbw.out
        have hpc := fun wy (hy : Below wr.heap.size wr wy) => sameRule_calls hM wy x y gk gl ck cl (hk1'.later hy) (hk2'.later hy) hfx hfy
        simp only [ruleV] at hpc
        have Hpc := hid hpc
        have Hx := hid hx2
        have Hlt := hid hlt
        clear hx hx2 a0 a1 a2 a3 b0 b1 b2 b3 hk1 hk2 hk1' hk2' hpc hxx hyy hfx hfy hlt hlt'
        cases hg : Syn.sameR x y with
        | false =>
          rw [hg] at Hx Hpc
          clear hg
          go_wp2_with ((with_reducible refine ((Hid.out Hpc) _ (bel_trans (bel_new _ _) (bel_new _ _))).mono ?_); rintro e w2 ⟨rfl, hb2⟩)
          go_ret
          rw [← Hx.out]
          exact ⟨rfl, bel_trans Hbw.out (bel_trans (bel_trans (bel_new _ _) (bel_new _ _)) hb2)⟩
        | true =>
          rw [hg] at Hx Hpc
          clear hg
          go_wp2_with ((with_reducible refine ((Hid.out Hpc) _ (bel_trans (bel_new _ _) (bel_new _ _))).mono ?_); rintro e w2 ⟨rfl, hb2⟩)
          go_roundg (rs.length - (i + 1))
          case measure => have hk := Hk.out; have := Hlt.out; omega
          case rel => exact ⟨i + 1, by go_num, rfl, Hlt.out, Hx.out, bel_trans Hbw.out (bel_trans (bel_trans (bel_new _ _) (bel_new _ _)) hb2)⟩
      · have hgeL : ¬ (i : Int) < (L : Int) := by have := HL.out; omega
        have hx2 : res = true := by
          rw [← hx, List.drop_eq_nil_of_le hge]
          rfl
        have Hx := hid hx2
        clear hx hx2 hge
        go_wp2_with fail
        go_ret
        rw [Hx.out]
        exact ⟨rfl, Hbw.out⟩
  · rw [decide_eq_false hne, Bool.false_and]
    rw [← hL, ← hL'] at hne ⊢
    have hneb : ((L : Int) != (L' : Int)) = true := by simp; omega
    have hneb2 : (L != L') = true := by simp [hne]
    clear hne hL hL'
    go_enter Try.func72, Try.ntmps72
    go_wp2_with fail
    go_ret
    exact ⟨rfl, Below.refl _ _⟩
set_option maxRecDepth 8000 in
set_option maxHeartbeats 4000000 in
theorem same_calls {M : Nat} (hM : M ≤ 1000000000) (w : World) (x y : List UInt8 × List (List UInt8 × Nod)) (ga gb : Option Addr) (ca cb : Nat) (ha : RulesIn w ga x.2) (hb : RulesIn w gb y.2) (hla : x.2.length ≤ 1000000000) (hlb : y.2.length ≤ 1000000000) (hfa : ∀ z ∈ x.2, z.2.fits M) (hfb : ∀ z ∈ y.2, z.2.fits M) :
    Calls Try.prog 24 #[.agg #[.string ⟨x.1.toArray⟩, .slice ga x.2.length ca], .agg #[.string ⟨y.1.toArray⟩, .slice gb y.2.length cb]] w fun e w' => e = .returned (.bool (Syn.sameG x y)) ∧ Below w.heap.size w w' := by
  have hbel := bel_trans (bel_new w (.cells #[.string ⟨x.1.toArray⟩, .slice ga x.2.length ca] 25)) (bel_new _ (.cells #[.string ⟨y.1.toArray⟩, .slice gb y.2.length cb] 25))
  have hcall := eqRules_calls hM _ ga gb ca cb x.2 y.2 (ha.later hbel) (hb.later hbel) hla hlb hfa hfb
  have Hbel := hid hbel
  have Hcall := hid hcall
  unfold Syn.sameG
  by_cases h1 : x.1 = y.1
  · rw [h1] at Hcall Hbel ⊢
    have e : ∀ q, (y.1 == y.1 && q) = q := fun q => by simp
    rw [e]
    clear h1 e hbel hcall ha hb hfa hfb hla hlb
    go_enter Try.func24, Try.ntmps24
    go_wp2_with (go_at_call 72; refine Hcall.out.mono ?_; rintro e w2 ⟨rfl, hb2⟩)
    go_ret
    exact ⟨rfl, bel_trans Hbel.out hb2⟩
  · have h1' : (x.1 == y.1) = false := by simpa using h1
    rw [h1', Bool.false_and]
    clear h1 hbel hcall ha hb hfa hfb Hcall hla hlb
    go_enter Try.func24, Try.ntmps24
    go_wp2_with fail
    go_ret
    exact ⟨rfl, Hbel.out⟩
end Go.Proofs.Ytjaampgpihicmaa
