/- The document's chapter 10: Less, Alike: walks. -/
import Derived.Test.YtaehooafdbaomaaGin
namespace Go.Proofs.Ytaehooafdbaomaa
open Go.RowKit
attribute [local go_sem ↓] Go.wp_at_zero Go.wp_at_succ
attribute [local go_sem] frozen_alloc_lt

def lexI : List Int → List Int → Bool
  | a :: r, b :: s => if a = b then lexI r s else decide (a < b)
  | _, _ => false
/-- One word ahead of another one. -/
def lessI (a b : List Int) : Bool := if a.length = b.length then lexI a b else decide (a.length < b.length)
theorem lexI_eq : ∀ {a b : List Int}, a.length = b.length → lexI a b = false → lexI b a = false → a = b
  | [], [], _, _, _ => rfl
  | x :: a, y :: b, hl, h, k => by
    unfold lexI at h k
    by_cases e : x = y
    · subst e
      rw [if_pos rfl] at h k
      rw [lexI_eq (by simpa using hl) h k]
    · rw [if_neg e] at h
      rw [if_neg (fun e' => e e'.symm)] at k
      simp at h k
      omega
theorem lexI_self : ∀ a : List Int, lexI a a = false
  | [] => rfl
  | x :: a => by unfold lexI; rw [if_pos rfl]; exact lexI_self a
theorem lessI_self (a : List Int) : lessI a a = false := by unfold lessI; rw [if_pos rfl, lexI_self]
theorem alikeI (a b : List Int) : ((!lessI a b) && !lessI b a) = decide (a = b) := by
  rw [Bool.eq_iff_iff]
  simp only [Bool.and_eq_true, Bool.not_eq_true', decide_eq_true_eq]
  constructor
  · rintro ⟨h, k⟩
    unfold lessI at h k
    by_cases e : a.length = b.length
    · rw [if_pos e] at h
      rw [if_pos e.symm] at k
      exact lexI_eq e h k
    · rw [if_neg e] at h
      rw [if_neg (fun e' => e e'.symm)] at k
      simp at h k
      omega
  · rintro rfl
    exact ⟨lessI_self _, lessI_self _⟩
def LeAt (w0 : World) (xs ys : List Int) (res : Bool) (k : Nat) (v5 : Value) (w : World) : Prop := ∃ i : Nat, v5 = .int .i64 i ∧ i ≤ xs.length ∧ lexI (xs.drop i) (ys.drop i) = res ∧ k = xs.length - i ∧ Below w0.heap.size w0 w
set_option maxHeartbeats 2000000 in
theorem less_calls (w : World) (ga gb : Option Addr) (ca cb : Nat) (xs ys : List Int) (ha : RowI w w.heap.size ga xs) (hb : RowI w w.heap.size gb ys) (hx : xs.length ≤ 1000000000) (_hy : ys.length ≤ 1000000000) :
    Calls Try.prog 57 #[.slice ga xs.length ca, .slice gb ys.length cb] w fun e w' => e = .returned (.bool (lessI xs ys)) ∧ Below w.heap.size w w' := by
  by_cases hl : xs.length = ys.length
  · obtain ⟨L, hL⟩ : ∃ L, L = xs.length := ⟨_, rfl⟩
    have hLy : ys.length = L := by omega
    have hne : ((L : Int) != (L : Int)) = false := by simp
    obtain ⟨res, hres⟩ : ∃ res, res = lexI xs ys := ⟨_, rfl⟩
    have e1 : lessI xs ys = res := by unfold lessI; rw [if_pos hl, hres]
    rw [e1, hLy, ← hL]
    have Hres := hid hres
    have HL := hid (And.intro hL hLy)
    have hLI : (L : Int) ≤ 1000000000 := by omega
    clear hl hres e1 hL hLy hx _hy
    go_enter Try.func57, Try.ntmps57
    go_wp2_with fail
    go_loopg [5] L (fun k v5 wr => LeAt w xs ys res k v5 wr)
    case atStart => exact ⟨0, rfl, Nat.zero_le _, by rw [List.drop_zero, List.drop_zero]; exact Hres.out.symm, by have := HL.out; omega, Below.refl _ _⟩
    case round =>
      obtain ⟨i, rfl, hi, hr, hk, hbw⟩ := hrel
      have Hk := hid hk
      have Hbw := hid hbw
      by_cases hlt : i < L
      · have c1 : i < xs.length := by rw [← HL.out.1]; exact hlt
        have c2 : i < ys.length := by rw [HL.out.2]; exact hlt
        have hlt' : (i : Int) < (L : Int) := by omega
        have hi0 : (0 : Int) ≤ (i : Int) := by omega
        obtain ⟨x, hxe⟩ : ∃ x, x = xs[i] := ⟨_, rfl⟩
        obtain ⟨y, hye⟩ : ∃ y, y = ys[i] := ⟨_, rfl⟩
        obtain ⟨g1, o1, rfl, hg1, hc1⟩ := ((ha.below hbw).mono hbw.size).at c1
        obtain ⟨g2, o2, rfl, hg2, hc2⟩ := ((hb.below hbw).mono hbw.size).at c2
        rw [← hxe] at hc1
        rw [← hye] at hc2
        rw [List.drop_eq_getElem_cons c1, List.drop_eq_getElem_cons c2, ← hxe, ← hye] at hr
        unfold lexI at hr
        have Hr := hid hr
        have Hlt := hid hlt
        by_cases exy : x = y
        · have hb1 : (x != y) = false := by simp [exy]
          have Hxy := hid exy
          clear hr hxe hye hk hi c1 c2 hg1 hg2 hlt exy hbw
          go_upto_region 6 with fail
          go_region
          go_wp2_with fail
          go_roundg (L - (i + 1))
          case measure => have := Hk.out; have := Hlt.out; have := HL.out.1; omega
          case rel => exact ⟨i + 1, by go_num, by have := Hlt.out; have := HL.out.1; omega, by have h := Hr.out; rw [if_pos Hxy.out] at h; exact h, by have := HL.out.1; omega, Hbw.out.drew⟩
        · have hb1 : (x != y) = true := by simp [exy]
          have Hxy := hid exy
          clear hr hxe hye hk hi c1 c2 hg1 hg2 hlt exy hbw
          go_upto_region 6 with fail
          go_region
          go_upto_region 7 with fail
          go_region
          go_wp2_with fail
          go_ret
          have h := Hr.out
          rw [if_neg Hxy.out] at h
          exact ⟨by rw [← h]; rfl, Hbw.out.drew.drew⟩
      · have hge : ¬ (i : Int) < (L : Int) := by omega
        have hd : xs.drop i = [] := List.drop_eq_nil_of_le (by have := HL.out.1; omega)
        have hf : res = false := by rw [← hr, hd]; rfl
        have Hf := hid hf
        clear hr hk hi hd hlt hf hbw
        go_wp2_with fail
        go_ret
        exact ⟨by rw [Hf.out]; rfl, Hbw.out⟩
  · have hne : ((xs.length : Int) != (ys.length : Int)) = true := by simp; omega
    have e1 : lessI xs ys = decide ((xs.length : Int) < (ys.length : Int)) := by unfold lessI; rw [if_neg hl]; simp
    have E1 := hid e1
    clear e1 hl
    go_enter Try.func57, Try.ntmps57
    go_wp2_with fail
    go_ret
    exact ⟨by rw [E1.out]; simp, Below.refl _ _⟩
theorem alike_calls (w : World) (ga gb : Option Addr) (ca cb : Nat) (xs ys : List Int) (ha : RowI w w.heap.size ga xs) (hb : RowI w w.heap.size gb ys) (hx : xs.length ≤ 1000000000) (hy : ys.length ≤ 1000000000) :
    Calls Try.prog 55 #[.slice ga xs.length ca, .slice gb ys.length cb] w fun e w' => e = .returned (.bool (decide (xs = ys))) ∧ Below w.heap.size w w' := by
  have h1 : ∀ W, Below w.heap.size w W → Calls Try.prog 57 #[.slice ga xs.length ca, .slice gb ys.length cb] W fun e w' => e = .returned (.bool (lessI xs ys)) ∧ Below W.heap.size W w' := fun W h => less_calls W ga gb ca cb xs ys ((ha.below h).mono h.size) ((hb.below h).mono h.size) hx hy
  have h2 : ∀ W, Below w.heap.size w W → Calls Try.prog 57 #[.slice gb ys.length cb, .slice ga xs.length ca] W fun e w' => e = .returned (.bool (lessI ys xs)) ∧ Below W.heap.size W w' := fun W h => less_calls W gb ga cb ca ys xs ((hb.below h).mono h.size) ((ha.below h).mono h.size) hy hx
  rw [← alikeI]
  obtain ⟨p, hp⟩ : ∃ p, p = lessI xs ys := ⟨_, rfl⟩
  obtain ⟨q, hq⟩ : ∃ q, q = lessI ys xs := ⟨_, rfl⟩
  rw [← hp] at h1 ⊢
  rw [← hq] at h2 ⊢
  obtain ⟨n, hn⟩ : ∃ n, n = xs.length := ⟨_, rfl⟩
  obtain ⟨m, hm⟩ : ∃ m, m = ys.length := ⟨_, rfl⟩
  rw [← hn, ← hm] at h1 h2 ⊢
  have H1 := hid h1
  have H2 := hid h2
  clear h1 h2 hp hq ha hb hx hy hn hm
  go_enter Try.func55, Try.ntmps55
  cases p with
  | true =>
    go_wp2_with (go_at_call 57; refine (H1.out _ (bel_id _)).mono ?_; rintro e w1 ⟨rfl, hb1⟩)
    go_ret
    exact ⟨rfl, hb1⟩
  | false =>
    go_wp2_with (first
      | (go_at_call 57; refine (H2.out _ Hb1.out).mono ?_; rintro e w2 ⟨rfl, hb2⟩)
      | (go_at_call 57; refine (H1.out _ (bel_id _)).mono ?_; rintro e w1 ⟨rfl, hb1⟩; have Hb1 := hid hb1; clear hb1))
    go_ret
    exact ⟨by simp, Hb1.out.trans (hb2.mono Hb1.out.size)⟩
end Go.Proofs.Ytaehooafdbaomaa
