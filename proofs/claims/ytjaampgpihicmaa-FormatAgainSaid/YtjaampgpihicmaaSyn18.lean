/- Chapter 5 (syntax): proper of any node. -/
import Derived.Test.YtjaampgpihicmaaSyn16
import Derived.Test.YtjaampgpihicmaaLexGood
namespace Go.Proofs.Ytjaampgpihicmaa.Syn
/-- No text is long. -/
def Nd.short : Nd → Prop
  | .nil => True
  | .cons _ t k r => t.length ≤ 1000000 ∧ k.short ∧ r.short
def Nod.short (n : Nod) : Prop := n.text.length ≤ 1000000 ∧ n.kids.short
def anyN (p : Nod → Bool) : Nd → Bool
  | .nil => false
  | .cons a t k r => p ⟨a, t, k⟩ || anyN p r
theorem any_proper : ∀ f : Nd, anyN (fun n => !n.proper) f = !f.proper
  | .nil => rfl
  | .cons a t k r => by
    rw [anyN, any_proper r, Nd.proper, Nod.proper]
    cases (fitN a t k.len && k.proper) <;> cases r.proper <;> rfl
theorem fit_short {k n : Nat} {t : List UInt8} (h : fitN k t n = true) : t.length ≤ 1000000 := by
  unfold fitN at h
  split at h
  · unfold goodL at h
    simp at h
    omega
  · split at h
    · simp at h
      omega
    · simp at h
      rw [h.2]
      simp
theorem proper_short : ∀ {f : Nd}, f.proper = true → f.short
  | .nil, _ => trivial
  | .cons a t k r, h => by
    rw [Nd.proper, Bool.and_eq_true, Bool.and_eq_true] at h
    exact ⟨fit_short h.1.1, proper_short h.1.2, proper_short h.2⟩
theorem Nod.proper_short {n : Nod} (h : n.proper = true) : n.short := by
  rw [Nod.proper, Bool.and_eq_true] at h
  exact ⟨fit_short h.1, Syn.proper_short h.2⟩
end Go.Proofs.Ytjaampgpihicmaa.Syn
namespace Go.Proofs.Ytjaampgpihicmaa
open Go.RowKit
attribute [local go_sem ↓] Go.wp_at_zero Go.wp_at_succ
attribute [local go_sem] frozen_alloc_lt
open Syn (Nd Nod)

def IdxAt (w0 : World) (ga : Option Addr) (p : Nod → Bool) (L : Nat) (res : Bool) (N M : Nat) (k : Nat) (v8 : Value) (w : World) : Prop :=
  ∃ (i : Nat) (r : Nd), v8 = .int .i64 i ∧ i + r.len = L ∧ r.nodes ≤ N ∧ r.fits M ∧ r.short ∧ NdIn w0 ga r i ∧ Syn.anyN p r = res ∧ k = r.len ∧ Below w0.heap.size w0 w
set_option maxRecDepth 8000 in
set_option maxHeartbeats 4000000 in
theorem indexNodes_calls (w : World) (ga : Option Addr) (ca : Nat) (f : Nd) (F M : Nat) (p : Nod → Bool) (ha : NdIn w ga f 0) (hM : M ≤ 1000000000) (hla : f.len ≤ M) (hfa : f.fits M) (hsh : f.short)
    (eg : ∀ args w, (callFunc F args).run Try.prog w = .ok (.enter F args) w)
    (hp : ∀ (wy : World) (a : Nod) (gk : Option Addr) (ck : Nat), Below w.heap.size w wy → 1 + a.kids.nodes ≤ f.nodes → NdIn wy gk a.kids 0 → a.fits M → a.short → Calls Try.prog F #[nodeV a gk ck] wy fun e w' => e = .returned (.bool (p a)) ∧ Below wy.heap.size wy w') :
    Calls Try.prog 130 #[.slice ga f.len ca, .func (.func F) #[] #[]] w fun e w' => ∃ r : Int, e = .returned (.int .i64 r) ∧ decide (0 ≤ r) = Syn.anyN p f ∧ Below w.heap.size w w' := by
  have Hp := hid hp
  have Heg := eg
  clear hp eg
  obtain ⟨L, hL⟩ : ∃ L, L = f.len := ⟨_, rfl⟩
  have hL1 : L ≤ 1000000000 := by omega
  obtain ⟨res, hres⟩ : ∃ res, res = Syn.anyN p f := ⟨_, rfl⟩
  rw [← hres, ← hL]
  have Hres := hid hres
  have HL := hid hL
  have Ha := hid ha
  have Hfa := hid hfa
  have Hsh := hid hsh
  clear hres hL ha hfa hla hsh
  go_enter Try.func130, Try.ntmps130
  go_wp2_with fail
  go_loopg [8] L (fun k v8 wr => IdxAt w ga p L res f.nodes M k v8 wr)
  case atStart => exact ⟨0, f, rfl, by rw [HL.out]; omega, Nat.le_refl _, Hfa.out, Hsh.out, Ha.out, Hres.out.symm, HL.out, Below.refl _ _⟩
  case round =>
    obtain ⟨i, r, rfl, hi, hnd, hf1, hs1, hi1, hx, hk, hbw⟩ := hrel
    have Hk := hid hk
    have Hbw := hid hbw
    have Hi := hid hi
    clear hk hi hbw
    cases r with
    | nil =>
      have hge : ¬ (i : Int) < (L : Int) := by have h1 := Hi.out; simp only [Nd.len] at h1; omega
      have hx2 : res = false := by rw [← hx, Syn.anyN]
      have Hx := hid hx2
      clear hx hx2
      go_wp2_with fail
      go_ret
      exact ⟨_, rfl, by rw [Hx.out]; decide, Hbw.out⟩
    | cons a t k r1 =>
      have hlt : (i : Int) < (L : Int) := by have h1 := Hi.out; simp only [Nd.len] at h1; omega
      have hi0 : (0 : Int) ≤ (i : Int) := by omega
      rw [Syn.anyN] at hx
      unfold NdIn NdAt at hi1
      obtain ⟨⟨g1, o1, gk, ck, rfl, hg1, a0, a1, a2, hk1⟩, hr1⟩ := hi1
      simp only [Nd.nodes] at hnd
      simp only [Syn.Nd.fits] at hf1
      simp only [Syn.Nd.short] at hs1
      have al := (Hbw.out.cell (p := ⟨g1, _, none⟩) hg1).trans a0
      have al1 := (Hbw.out.cell (p := ⟨g1, _, none⟩) hg1).trans a1
      have al2 := (Hbw.out.cell (p := ⟨g1, _, none⟩) hg1).trans a2
      have hl1 : g1 < wr.heap.size := Nat.lt_of_lt_of_le hg1 Hbw.out.size
      have hk1' : NdIn wr gk k 0 := NdIn.later hk1 Hbw.out
      have hpc := fun wy (hy : Below wr.heap.size wr wy) => Hp.out wy ⟨a, t, k⟩ gk ck (bel_trans Hbw.out hy) (by simp only; omega) (hk1'.later hy) ⟨hf1.1, hf1.2.1⟩ ⟨hs1.1, hs1.2.1⟩
      simp only [nodeV] at hpc
      have Hpc := hid hpc
      have Hr1 := hid hr1
      have hn2 : r1.nodes ≤ f.nodes := by omega
      have Hx := hid hx
      have Hf := hid (And.intro hf1.2.2 hs1.2.2)
      have Hn2 := hid hn2
      clear hx a0 a1 a2 hk1 hr1 hk1' hpc hnd hn2 hf1 hs1
      cases hg : p ⟨a, t, k⟩ with
      | true =>
        rw [hg] at Hx Hpc
        clear hg
        go_wp2_with ((with_reducible refine ((Hid.out Hpc) _ (Below.refl _ _)).mono ?_); rintro e w2 ⟨rfl, hb2⟩)
        go_ret
        exact ⟨_, rfl, by rw [← Hx.out]; simp, bel_trans Hbw.out hb2⟩
      | false =>
        rw [hg] at Hx Hpc
        clear hg
        go_wp2_with ((with_reducible refine ((Hid.out Hpc) _ (Below.refl _ _)).mono ?_); rintro e w2 ⟨rfl, hb2⟩)
        go_roundg r1.len
        case measure => have hk := Hk.out; simp only [Nd.len] at hk; omega
        case rel => exact ⟨i + 1, r1, by go_num, by have := Hi.out; simp only [Nd.len] at this; omega, Hn2.out, Hf.out.1, Hf.out.2, Hr1.out, by have := Hx.out; simpa using this, rfl, bel_trans Hbw.out hb2⟩
def ProperSays (M m : Nat) : Prop := ∀ (w : World) (a : Nod) (ga : Option Addr) (ca : Nat), a.kids.nodes = m → NdIn w ga a.kids 0 → a.fits M → a.short →
  Calls Try.prog 63 #[nodeV a ga ca] w fun e w' => e = .returned (.bool a.proper) ∧ Below w.heap.size w w'
set_option maxRecDepth 8000 in
set_option maxHeartbeats 4000000 in
theorem proper1_calls {M : Nat} (w : World) (a : Nod) (ga : Option Addr) (ca : Nat) (ih : ProperSays M a.kids.nodes) (ha : NdIn w ga a.kids 0) (hf : a.fits M) (hs : a.short) :
    Calls Try.prog 107 #[nodeV a ga ca] w fun e w' => e = .returned (.bool (!a.proper)) ∧ Below w.heap.size w w' := by
  have hbel := bel_new w (.cells #[.int .i64 a.kind, .string ⟨a.text.toArray⟩, .slice ga a.kids.len ca] 49)
  have hcall := ih _ a ga ca rfl (ha.later hbel) hf hs
  obtain ⟨ka, hka⟩ : ∃ ka : Int, ka = a.kind := ⟨_, rfl⟩
  simp only [nodeV, ← hka] at hcall hbel ⊢
  have Hbel := hid hbel
  have Hcall := hid hcall
  clear hbel hcall hka ih ha hf hs
  go_enter Try.func107, Try.ntmps107
  go_wp2_with (go_at_call 63; refine Hcall.out.mono ?_; rintro e w2 ⟨rfl, hb2⟩)
  go_ret
  exact ⟨rfl, bel_trans Hbel.out hb2⟩
set_option maxRecDepth 8000 in
set_option maxHeartbeats 4000000 in
theorem containsNodes_calls {M : Nat} (hM : M ≤ 1000000000) (w : World) (ga : Option Addr) (ca : Nat) (f : Nd) (ih : ∀ m, m < f.nodes → ProperSays M m) (ha : NdIn w ga f 0) (hla : f.len ≤ M) (hfa : f.fits M) (hsh : f.short) :
    Calls Try.prog 106 #[.slice ga f.len ca, .func (.func 107) #[] #[]] w fun e w' => e = .returned (.bool (!f.proper)) ∧ Below w.heap.size w w' := by
  have heg : ∀ (args : Array Value) (w : World), (callFunc 107 args).run Try.prog w = .ok (.enter 107 args) w := fun _ _ => by kernel_rfl
  have hcall := indexNodes_calls w ga ca f 107 M (fun n => !n.proper) ha hM hla hfa hsh heg (fun wy a gk ck hy hn h1 h2 h3 => proper1_calls wy a gk ck (ih a.kids.nodes (by omega)) h1 h2 h3)
  rw [Syn.any_proper] at hcall
  obtain ⟨L, hL⟩ : ∃ L, L = f.len := ⟨_, rfl⟩
  rw [← hL] at hcall ⊢
  have Hcall := hid hcall
  clear hcall hL ha hla hfa hsh ih
  go_enter Try.func106, Try.ntmps106
  go_wp2_with (go_at_call 130; refine Hcall.out.mono ?_; rintro e w2 ⟨r, rfl, hr, hb2⟩)
  go_ret
  rw [← hr]
  exact ⟨rfl, hb2⟩
theorem good_at (t : List UInt8) (w : World) (h : t.length ≤ 1000000) : Calls Try.prog 23 #[.string ⟨t.toArray⟩] w fun e w' => e = .returned (.bool (Syn.goodL t)) ∧ w' = w := by
  refine (good_calls ⟨t.toArray⟩ w (by show t.toArray.size ≤ _; simp; omega)).mono ?_
  rintro e w' ⟨rfl, rfl⟩
  exact ⟨rfl, rfl⟩
set_option maxRecDepth 8000 in
set_option maxHeartbeats 8000000 in
theorem proper_step {M : Nat} (hM : M ≤ 1000000000) (m : Nat) (ih : ∀ m', m' < m → ProperSays M m') : ProperSays M m := by
  intro w a ga ca hm ha hf hs
  have hbel := bel_new w (.cells #[.int .i64 a.kind, .string ⟨a.text.toArray⟩, .slice ga a.kids.len ca] 49)
  have hcall := containsNodes_calls hM _ ga ca a.kids (fun m' h' => ih m' (by omega)) (ha.later hbel) hf.1 hf.2 hs.2
  have hgood := good_at a.text (w.alloc (.cells #[.int .i64 a.kind, .string ⟨a.text.toArray⟩, .slice ga a.kids.len ca] 49)) hs.1
  obtain ⟨k, hk⟩ : ∃ k : Int, k = a.kind := ⟨_, rfl⟩
  obtain ⟨t, ht⟩ : ∃ t, t = a.text := ⟨_, rfl⟩
  obtain ⟨L, hL⟩ : ∃ L, L = a.kids.len := ⟨_, rfl⟩
  have hL1 : L ≤ 1000000000 := by have := hf.1; omega
  have htl : t.length ≤ 1000000 := by rw [ht]; exact hs.1
  have hp : a.proper = (Syn.fitN a.kind t L && a.kids.proper) := by rw [ht, hL]; rfl
  rw [hp]
  simp only [nodeV, ← hk, ← ht, ← hL] at hcall hbel hgood ⊢
  have Hbel := hid hbel
  have Hcall := hid hcall
  have Hgood := hid hgood
  have Hk := hid hk
  obtain ⟨q, hq⟩ : ∃ q, q = a.kids.proper := ⟨_, rfl⟩
  rw [← hq] at Hcall ⊢
  have hkn : (Syn.goodL t && L == 0) = true → a.kids = .nil := fun h => by
    simp at h
    have h2 := h.2
    rw [hL] at h2
    cases hh : a.kids with
    | nil => rfl
    | cons _ _ _ _ => rw [hh] at h2; simp [Nd.len] at h2
  have hqn : L = 0 → q = true := fun h => by
    rw [hL] at h
    cases hh : a.kids with
    | nil => rw [hq, hh]; rfl
    | cons _ _ _ _ => rw [hh] at h; simp [Nd.len] at h
  have Hqn := hid hqn
  clear hkn hqn hp hbel hcall hgood ih hm ha hf hs ht hL hq
  by_cases k1 : k = 1
  · have e : Syn.fitN a.kind t L = (Syn.goodL t && L == 0) := by unfold Syn.fitN; rw [if_pos (by omega)]
    rw [e]
    subst k1
    clear e hk Hk
    cases hg : Syn.goodL t with
    | false =>
      rw [hg] at Hgood
      clear hg
      go_enter Try.func63, Try.ntmps63
      go_wp2_with (go_at_call 23; refine Hgood.out.mono ?_; rintro e w2 ⟨rfl, rfl⟩)
      go_ret
      refine ⟨by first | rfl | (simp [*]; done) | (cases q <;> simp [*]), Hbel.out⟩
    | true =>
      rw [hg] at Hgood
      clear hg
      by_cases h0 : L = 0
      · have hq1 := Hqn.out h0
        subst h0
        subst hq1
        go_enter Try.func63, Try.ntmps63
        go_wp2_with (go_at_call 23; refine Hgood.out.mono ?_; rintro e w2 ⟨rfl, rfl⟩)
        go_ret
        refine ⟨by first | rfl | (simp [*]; done) | (cases q <;> simp [*]), Hbel.out⟩
      · have h0' : ¬ (L : Int) = 0 := by omega
        have h0b : (L == 0) = false := by simpa using h0
        rw [h0b]
        clear h0b
        go_enter Try.func63, Try.ntmps63
        go_wp2_with (go_at_call 23; refine Hgood.out.mono ?_; rintro e w2 ⟨rfl, rfl⟩)
        go_ret
        refine ⟨by first | rfl | (simp [*]; done) | (cases q <;> simp [*]), Hbel.out⟩
  by_cases k2 : k = 2
  · have e : Syn.fitN a.kind t L = ((t != [] && decide (t.length ≤ 16)) && L == 0) := by unfold Syn.fitN; rw [if_neg (by omega), if_pos (by omega)]
    rw [e]
    subst k2
    clear e hk Hk k1 Hgood
    by_cases h1 : t = []
    · subst h1
      go_enter Try.func63, Try.ntmps63
      go_wp2_with fail
      go_ret
      refine ⟨by first | rfl | (simp [*]; done) | (cases q <;> simp [*]), Hbel.out⟩
    · have h1' : (t != []) = true := by simpa using h1
      have h1'' : (t == []) = false := by simpa using h1
      rw [h1']
      by_cases h2 : t.length ≤ 16
      · have h2' : (t.length : Int) ≤ 16 := by omega
        rw [decide_eq_true h2]
        clear h1 h2
        by_cases h0 : L = 0
        · have hq1 := Hqn.out h0
          subst h0
          subst hq1
          go_enter Try.func63, Try.ntmps63
          go_wp2_with fail
          go_ret
          refine ⟨by first | rfl | (simp [*]; done) | (cases q <;> simp [*]), Hbel.out⟩
        · have h0' : ¬ (L : Int) = 0 := by omega
          have h0b : (L == 0) = false := by simpa using h0
          rw [h0b]
          clear h0b
          go_enter Try.func63, Try.ntmps63
          go_wp2_with fail
          go_ret
          refine ⟨by first | rfl | (simp [*]; done) | (cases q <;> simp [*]), Hbel.out⟩
      · have h2' : ¬ (t.length : Int) ≤ 16 := by omega
        rw [decide_eq_false h2]
        clear h1 h2
        go_enter Try.func63, Try.ntmps63
        go_wp2_with fail
        go_ret
        refine ⟨by first | rfl | (simp [*]; done) | (cases q <;> simp [*]), Hbel.out⟩
  clear Hgood Hqn
  by_cases k3 : k = 3
  · have e : Syn.fitN a.kind t L = (L != 1 && t == []) := by unfold Syn.fitN; rw [if_neg (by omega)]; rw [if_neg (by omega)]; rw [if_pos (by omega)]
    rw [e]
    subst k3
    clear e hk Hk k1 k2
    by_cases ok : ¬ L = 1
    · have c : ¬ (L : Int) = 1 := by omega
      have ob : (L != 1) = true := by simpa using ok
      rw [ob]
      clear ok ob
      by_cases h1 : t = []
      · subst h1
        go_enter Try.func63, Try.ntmps63
        go_wp2_with (go_at_call 106; refine Hcall.out.mono ?_; rintro e w2 ⟨rfl, hb2⟩)
        go_ret
        refine ⟨by first | rfl | (simp [*]; done) | (cases q <;> simp [*]), bel_trans Hbel.out hb2⟩
      · have h1' : (t == []) = false := by simpa using h1
        rw [h1']
        clear h1
        go_enter Try.func63, Try.ntmps63
        go_wp2_with fail
        go_ret
        refine ⟨by first | rfl | (simp [*]; done) | (cases q <;> simp [*]), Hbel.out⟩
    · have c : (L : Int) = 1 := by omega
      have ob : (L != 1) = false := by simpa using ok
      rw [ob]
      clear ok ob
      go_enter Try.func63, Try.ntmps63
      go_wp2_with fail
      go_ret
      refine ⟨by first | rfl | (simp [*]; done) | (cases q <;> simp [*]), Hbel.out⟩
  by_cases k4 : k = 4
  · have e : Syn.fitN a.kind t L = (decide (1 < L) && t == []) := by unfold Syn.fitN; rw [if_neg (by omega)]; rw [if_neg (by omega)]; rw [if_neg (by omega), if_pos (by omega)]
    rw [e]
    subst k4
    clear e hk Hk k1 k2 k3
    by_cases ok : 1 < L
    · have c : (1 : Int) < (L : Int) := by omega
      have ob : decide (1 < L) = true := by simpa using ok
      rw [ob]
      clear ok ob
      by_cases h1 : t = []
      · subst h1
        go_enter Try.func63, Try.ntmps63
        go_wp2_with (go_at_call 106; refine Hcall.out.mono ?_; rintro e w2 ⟨rfl, hb2⟩)
        go_ret
        refine ⟨by first | rfl | (simp [*]; done) | (cases q <;> simp [*]), bel_trans Hbel.out hb2⟩
      · have h1' : (t == []) = false := by simpa using h1
        rw [h1']
        clear h1
        go_enter Try.func63, Try.ntmps63
        go_wp2_with fail
        go_ret
        refine ⟨by first | rfl | (simp [*]; done) | (cases q <;> simp [*]), Hbel.out⟩
    · have c : ¬ (1 : Int) < (L : Int) := by omega
      have ob : decide (1 < L) = false := by simpa using ok
      rw [ob]
      clear ok ob
      go_enter Try.func63, Try.ntmps63
      go_wp2_with fail
      go_ret
      refine ⟨by first | rfl | (simp [*]; done) | (cases q <;> simp [*]), Hbel.out⟩
  by_cases k5 : k = 5
  · have e : Syn.fitN a.kind t L = (L == 1 && t == []) := by unfold Syn.fitN; rw [if_neg (by omega)]; rw [if_neg (by omega)]; rw [if_neg (by omega), if_neg (by omega), show a.kind = 5 by omega]; rfl
    rw [e]
    subst k5
    clear e hk Hk k1 k2 k3 k4
    by_cases ok : L = 1
    · have c : (L : Int) = 1 := by omega
      have ob : (L == 1) = true := by simpa using ok
      rw [ob]
      clear ok ob
      by_cases h1 : t = []
      · subst h1
        go_enter Try.func63, Try.ntmps63
        go_wp2_with (go_at_call 106; refine Hcall.out.mono ?_; rintro e w2 ⟨rfl, hb2⟩)
        go_ret
        refine ⟨by first | rfl | (simp [*]; done) | (cases q <;> simp [*]), bel_trans Hbel.out hb2⟩
      · have h1' : (t == []) = false := by simpa using h1
        rw [h1']
        clear h1
        go_enter Try.func63, Try.ntmps63
        go_wp2_with fail
        go_ret
        refine ⟨by first | rfl | (simp [*]; done) | (cases q <;> simp [*]), Hbel.out⟩
    · have c : ¬ (L : Int) = 1 := by omega
      have ob : (L == 1) = false := by simpa using ok
      rw [ob]
      clear ok ob
      go_enter Try.func63, Try.ntmps63
      go_wp2_with fail
      go_ret
      refine ⟨by first | rfl | (simp [*]; done) | (cases q <;> simp [*]), Hbel.out⟩
  by_cases k6 : k = 6
  · have e : Syn.fitN a.kind t L = (L == 1 && t == []) := by unfold Syn.fitN; rw [if_neg (by omega)]; rw [if_neg (by omega)]; rw [if_neg (by omega), if_neg (by omega), show a.kind = 6 by omega]; rfl
    rw [e]
    subst k6
    clear e hk Hk k1 k2 k3 k4 k5
    by_cases ok : L = 1
    · have c : (L : Int) = 1 := by omega
      have ob : (L == 1) = true := by simpa using ok
      rw [ob]
      clear ok ob
      by_cases h1 : t = []
      · subst h1
        go_enter Try.func63, Try.ntmps63
        go_wp2_with (go_at_call 106; refine Hcall.out.mono ?_; rintro e w2 ⟨rfl, hb2⟩)
        go_ret
        refine ⟨by first | rfl | (simp [*]; done) | (cases q <;> simp [*]), bel_trans Hbel.out hb2⟩
      · have h1' : (t == []) = false := by simpa using h1
        rw [h1']
        clear h1
        go_enter Try.func63, Try.ntmps63
        go_wp2_with fail
        go_ret
        refine ⟨by first | rfl | (simp [*]; done) | (cases q <;> simp [*]), Hbel.out⟩
    · have c : ¬ (L : Int) = 1 := by omega
      have ob : (L == 1) = false := by simpa using ok
      rw [ob]
      clear ok ob
      go_enter Try.func63, Try.ntmps63
      go_wp2_with fail
      go_ret
      refine ⟨by first | rfl | (simp [*]; done) | (cases q <;> simp [*]), Hbel.out⟩
  by_cases k7 : k = 7
  · have e : Syn.fitN a.kind t L = (L == 1 && t == []) := by unfold Syn.fitN; rw [if_neg (by omega)]; rw [if_neg (by omega)]; rw [if_neg (by omega), if_neg (by omega), show a.kind = 7 by omega]; rfl
    rw [e]
    subst k7
    clear e hk Hk k1 k2 k3 k4 k5 k6
    by_cases ok : L = 1
    · have c : (L : Int) = 1 := by omega
      have ob : (L == 1) = true := by simpa using ok
      rw [ob]
      clear ok ob
      by_cases h1 : t = []
      · subst h1
        go_enter Try.func63, Try.ntmps63
        go_wp2_with (go_at_call 106; refine Hcall.out.mono ?_; rintro e w2 ⟨rfl, hb2⟩)
        go_ret
        refine ⟨by first | rfl | (simp [*]; done) | (cases q <;> simp [*]), bel_trans Hbel.out hb2⟩
      · have h1' : (t == []) = false := by simpa using h1
        rw [h1']
        clear h1
        go_enter Try.func63, Try.ntmps63
        go_wp2_with fail
        go_ret
        refine ⟨by first | rfl | (simp [*]; done) | (cases q <;> simp [*]), Hbel.out⟩
    · have c : ¬ (L : Int) = 1 := by omega
      have ob : (L == 1) = false := by simpa using ok
      rw [ob]
      clear ok ob
      go_enter Try.func63, Try.ntmps63
      go_wp2_with fail
      go_ret
      refine ⟨by first | rfl | (simp [*]; done) | (cases q <;> simp [*]), Hbel.out⟩
  have e : Syn.fitN a.kind t L = false := by
    unfold Syn.fitN
    rw [if_neg (by omega), if_neg (by omega), if_neg (by omega), if_neg (by omega)]
    have : (a.kind == 5) = false ∧ (a.kind == 6) = false ∧ (a.kind == 7) = false := ⟨by simp; omega, by simp; omega, by simp; omega⟩
    simp [this.1, this.2.1, this.2.2]
  rw [e]
  clear e hk Hk
  go_enter Try.func63, Try.ntmps63
  go_wp2_with fail
  go_ret
  refine ⟨by first | rfl | (simp [*]; done) | (cases q <;> simp [*]), Hbel.out⟩
theorem proper_calls {M : Nat} (hM : M ≤ 1000000000) (m : Nat) : ProperSays M m := by
  induction m using Nat.strongRecOn with
  | ind m ih => exact proper_step hM m ih
end Go.Proofs.Ytjaampgpihicmaa
/- Chapter 5 (syntax): Proper of any grammar. -/
namespace Go.Proofs.Ytjaampgpihicmaa.Syn
def properR (x : List UInt8 × Nod) : Bool := goodL x.1 && x.2.proper
def properG (x : List UInt8 × List (List UInt8 × Nod)) : Bool := (goodL x.1 && decide (0 < x.2.length)) && x.2.all properR
/-- Names and texts are not long. -/
def shortR (x : List UInt8 × Nod) : Prop := x.1.length ≤ 1000000 ∧ x.2.short
end Go.Proofs.Ytjaampgpihicmaa.Syn
namespace Go.Proofs.Ytjaampgpihicmaa
open Go.RowKit
attribute [local go_sem ↓] Go.wp_at_zero Go.wp_at_succ
attribute [local go_sem] frozen_alloc_lt
open Syn (Nd Nod)

set_option maxRecDepth 8000 in
set_option maxHeartbeats 4000000 in
theorem properRule_calls {M : Nat} (hM : M ≤ 1000000000) (w : World) (x : List UInt8 × Nod) (ga : Option Addr) (ca : Nat) (ha : NdIn w ga x.2.kids 0) (hf : x.2.fits M) (hs : Syn.shortR x) :
    Calls Try.prog 62 #[ruleV x ga ca] w fun e w' => e = .returned (.bool (!Syn.properR x)) ∧ Below w.heap.size w w' := by
  have hbel := bel_new w (.cells #[.string ⟨x.1.toArray⟩, .int .i64 x.2.kind, .string ⟨x.2.text.toArray⟩, .slice ga x.2.kids.len ca] 51)
  have hcall := proper_calls hM x.2.kids.nodes _ x.2 ga ca rfl (ha.later hbel) hf hs.2
  have hgood := good_at x.1 (w.alloc (.cells #[.string ⟨x.1.toArray⟩, .int .i64 x.2.kind, .string ⟨x.2.text.toArray⟩, .slice ga x.2.kids.len ca] 51)) hs.1
  obtain ⟨ka, hka⟩ : ∃ ka : Int, ka = x.2.kind := ⟨_, rfl⟩
  simp only [ruleV, nodeV, ← hka] at hcall hbel hgood ⊢
  have Hbel := hid hbel
  have Hcall := hid hcall
  unfold Syn.properR
  cases hg : Syn.goodL x.1 with
  | false =>
    rw [hg] at hgood
    clear hg hka hbel hcall ha hf hs
    go_enter Try.func62, Try.ntmps62
    go_wp2_with (go_at_call 23; refine hgood.mono ?_; rintro e w2 ⟨rfl, rfl⟩)
    go_ret
    exact ⟨rfl, Hbel.out⟩
  | true =>
    rw [hg] at hgood
    clear hg hka hbel hcall ha hf hs
    go_enter Try.func62, Try.ntmps62
    go_wp2_with (first
      | (go_at_call 23; refine hgood.mono ?_; rintro e w2 ⟨rfl, rfl⟩)
      | (go_at_call 63; refine Hcall.out.mono ?_; rintro e w2 ⟨rfl, hb2⟩))
    go_ret
    exact ⟨by simp, bel_trans Hbel.out hb2⟩
def IdxRAt (w0 : World) (rs : List (List UInt8 × Nod)) (res : Bool) (k : Nat) (v8 : Value) (w : World) : Prop :=
  ∃ i : Nat, v8 = .int .i64 i ∧ k = rs.length - i ∧ i ≤ rs.length ∧ (!(rs.drop i).all Syn.properR) = res ∧ Below w0.heap.size w0 w
set_option maxRecDepth 8000 in
set_option maxHeartbeats 4000000 in
theorem indexRules_calls {M : Nat} (hM : M ≤ 1000000000) (w : World) (ga : Option Addr) (ca : Nat) (rs : List (List UInt8 × Nod)) (ha : RulesIn w ga rs) (hla : rs.length ≤ 1000000000) (hfa : ∀ x ∈ rs, x.2.fits M) (hsa : ∀ x ∈ rs, Syn.shortR x) :
    Calls Try.prog 105 #[.slice ga rs.length ca, .func (.func 62) #[] #[]] w fun e w' => ∃ r : Int, e = .returned (.int .i64 r) ∧ decide (0 ≤ r) = (!rs.all Syn.properR) ∧ Below w.heap.size w w' := by
  have heg : ∀ (args : Array Value) (w : World), (callFunc 62 args).run Try.prog w = .ok (.enter 62 args) w := fun _ _ => by kernel_rfl
  obtain ⟨L, hL⟩ : ∃ L, L = rs.length := ⟨_, rfl⟩
  have hL1 : L ≤ 1000000000 := by omega
  obtain ⟨res, hres⟩ : ∃ res, res = (!rs.all Syn.properR) := ⟨_, rfl⟩
  rw [← hres, ← hL]
  have Hres := hid hres
  have HL := hid hL
  have Ha := hid ha
  have Hfa := hid hfa
  have Hsa := hid hsa
  clear hres hL ha hfa hla hsa
  go_enter Try.func105, Try.ntmps105
  go_wp2_with fail
  go_loopg [8] L (fun k v8 wr => IdxRAt w rs res k v8 wr)
  case atStart => exact ⟨0, rfl, by rw [HL.out]; omega, Nat.zero_le _, by rw [List.drop_zero]; exact Hres.out.symm, Below.refl _ _⟩
  case round =>
    obtain ⟨i, rfl, hk, hi, hx, hbw⟩ := hrel
    have Hk := hid hk
    have Hbw := hid hbw
    have Hi := hid hi
    clear hk hi hbw
    rcases Nat.lt_or_ge i rs.length with hlt | hge
    · have hltL : (i : Int) < (L : Int) := by have := HL.out; omega
      have hi0 : (0 : Int) ≤ (i : Int) := by omega
      obtain ⟨x, hxx⟩ : ∃ x, x = rs[i] := ⟨_, rfl⟩
      obtain ⟨g1, o1, gk, ck, rfl, hg1, a0, a1, a2, a3, hk1⟩ := Ha.out i x (by rw [hxx]; exact List.getElem?_eq_getElem hlt)
      have hx2 : (!(Syn.properR x && (rs.drop (i + 1)).all Syn.properR)) = res := by
        rw [← hx, List.drop_eq_getElem_cons hlt, ← hxx]
        rfl
      have hfx := Hfa.out x (by rw [hxx]; exact List.getElem_mem hlt)
      have hsx := Hsa.out x (by rw [hxx]; exact List.getElem_mem hlt)
      have c0 := (Hbw.out.cell (p := ⟨g1, _, none⟩) hg1).trans a0
      have c1 := (Hbw.out.cell (p := ⟨g1, _, none⟩) hg1).trans a1
      have c2 := (Hbw.out.cell (p := ⟨g1, _, none⟩) hg1).trans a2
      have c3 := (Hbw.out.cell (p := ⟨g1, _, none⟩) hg1).trans a3
      have hl1 : g1 < wr.heap.size := Nat.lt_of_lt_of_le hg1 Hbw.out.size
      have hk1' : NdIn wr gk x.2.kids 0 := NdIn.later hk1 Hbw.out
      have hpc := properRule_calls hM wr x gk ck hk1' hfx hsx
      simp only [ruleV] at hpc
      have Hpc := hid hpc
      have Hx := hid hx2
      have Hlt := hid hlt
      clear hx hx2 a0 a1 a2 a3 hk1 hk1' hpc hxx hfx hsx hlt
      cases hg : Syn.properR x with
      | false =>
        rw [hg] at Hx Hpc
        clear hg
        go_wp2_with ((with_reducible refine (Hid.out Hpc).mono ?_); rintro e w2 ⟨rfl, hb2⟩)
        go_ret
        exact ⟨_, rfl, by rw [← Hx.out]; simp, bel_trans Hbw.out hb2⟩
      | true =>
        rw [hg] at Hx Hpc
        clear hg
        go_wp2_with ((with_reducible refine (Hid.out Hpc).mono ?_); rintro e w2 ⟨rfl, hb2⟩)
        go_roundg (rs.length - (i + 1))
        case measure => have hk := Hk.out; have := Hlt.out; omega
        case rel => exact ⟨i + 1, by go_num, rfl, Hlt.out, by have := Hx.out; simpa using this, bel_trans Hbw.out hb2⟩
    · have hgeL : ¬ (i : Int) < (L : Int) := by have := HL.out; omega
      have hx2 : res = false := by
        rw [← hx, List.drop_eq_nil_of_le hge]
        rfl
      have Hx := hid hx2
      clear hx hx2 hge
      go_wp2_with fail
      go_ret
      exact ⟨_, rfl, by rw [Hx.out]; decide, Hbw.out⟩
set_option maxRecDepth 8000 in
set_option maxHeartbeats 4000000 in
theorem containsRules_calls {M : Nat} (hM : M ≤ 1000000000) (w : World) (ga : Option Addr) (ca : Nat) (rs : List (List UInt8 × Nod)) (ha : RulesIn w ga rs) (hla : rs.length ≤ 1000000000) (hfa : ∀ x ∈ rs, x.2.fits M) (hsa : ∀ x ∈ rs, Syn.shortR x) :
    Calls Try.prog 61 #[.slice ga rs.length ca, .func (.func 62) #[] #[]] w fun e w' => e = .returned (.bool (!rs.all Syn.properR)) ∧ Below w.heap.size w w' := by
  have hcall := indexRules_calls hM w ga ca rs ha hla hfa hsa
  obtain ⟨L, hL⟩ : ∃ L, L = rs.length := ⟨_, rfl⟩
  rw [← hL] at hcall ⊢
  have Hcall := hid hcall
  clear hcall hL ha hla hfa hsa
  go_enter Try.func61, Try.ntmps61
  go_wp2_with (go_at_call 105; refine Hcall.out.mono ?_; rintro e w2 ⟨r, rfl, hr, hb2⟩)
  go_ret
  rw [← hr]
  exact ⟨rfl, hb2⟩
set_option maxRecDepth 8000 in
set_option maxHeartbeats 4000000 in
theorem properG_calls {M : Nat} (hM : M ≤ 1000000000) (w : World) (x : List UInt8 × List (List UInt8 × Nod)) (ga : Option Addr) (ca : Nat) (ha : RulesIn w ga x.2) (hst : x.1.length ≤ 1000000) (hla : x.2.length ≤ 1000000000) (hfa : ∀ z ∈ x.2, z.2.fits M) (hsa : ∀ z ∈ x.2, Syn.shortR z) :
    Calls Try.prog 19 #[.agg #[.string ⟨x.1.toArray⟩, .slice ga x.2.length ca]] w fun e w' => e = .returned (.bool (Syn.properG x)) ∧ Below w.heap.size w w' := by
  have hbel := bel_new w (.cells #[.string ⟨x.1.toArray⟩, .slice ga x.2.length ca] 25)
  have hcall := containsRules_calls hM _ ga ca x.2 (ha.later hbel) hla hfa hsa
  have hgood := good_at x.1 (w.alloc (.cells #[.string ⟨x.1.toArray⟩, .slice ga x.2.length ca] 25)) hst
  obtain ⟨L, hL⟩ : ∃ L, L = x.2.length := ⟨_, rfl⟩
  have hL1 : L ≤ 1000000000 := by omega
  unfold Syn.properG
  rw [← hL] at hcall hbel hgood ⊢
  have Hbel := hid hbel
  have Hcall := hid hcall
  cases hg : Syn.goodL x.1 with
  | false =>
    rw [hg] at hgood
    clear hg hL hbel hcall ha hst hla hfa hsa
    go_enter Try.func19, Try.ntmps19
    go_wp2_with (go_at_call 23; refine hgood.mono ?_; rintro e w2 ⟨rfl, rfl⟩)
    go_ret
    exact ⟨rfl, Hbel.out⟩
  | true =>
    rw [hg] at hgood
    clear hg hL hbel hcall ha hst hla hfa hsa
    by_cases h0 : 0 < L
    · have h0' : (0 : Int) < (L : Int) := by omega
      rw [decide_eq_true h0]
      clear h0
      go_enter Try.func19, Try.ntmps19
      go_wp2_with (first
        | (go_at_call 23; refine hgood.mono ?_; rintro e w2 ⟨rfl, rfl⟩)
        | (go_at_call 61; refine Hcall.out.mono ?_; rintro e w2 ⟨rfl, hb2⟩))
      go_ret
      exact ⟨by simp, bel_trans Hbel.out hb2⟩
    · have h0' : ¬ (0 : Int) < (L : Int) := by omega
      rw [decide_eq_false h0]
      clear h0
      go_enter Try.func19, Try.ntmps19
      go_wp2_with (go_at_call 23; refine hgood.mono ?_; rintro e w2 ⟨rfl, rfl⟩)
      go_ret
      exact ⟨by first | rfl | simp [*], Hbel.out⟩
end Go.Proofs.Ytjaampgpihicmaa
