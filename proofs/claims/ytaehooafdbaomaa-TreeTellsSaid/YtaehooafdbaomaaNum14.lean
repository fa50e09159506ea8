/- Chapter 14: numbers, at rows that are alike. -/
import Derived.Test.YtaehooafdbaomaaGin
namespace Go.Proofs.Ytaehooafdbaomaa
open Go.RowKit
attribute [local go_sem ↓] Go.wp_at_zero Go.wp_at_succ
attribute [local go_sem] frozen_alloc_lt
def NumAt (w0 : World) (L : Nat) (k : Nat) (v5 : Value) (w : World) : Prop := ∃ i : Nat, v5 = .int .i64 i ∧ i ≤ L ∧ k = L - i ∧ Below w0.heap.size w0 w
set_option maxHeartbeats 2000000 in
theorem numbers_same (w : World) (ga gb : Option Addr) (ca cb : Nat) (zs : List Int) (ha : RowI w w.heap.size ga zs) (hb : RowI w w.heap.size gb zs) (hl : zs.length ≤ 9223372036854775807) :
    Calls Try.prog 19 #[.slice ga zs.length ca, .slice gb zs.length cb] w fun e w' => e = .returned (.bool true) ∧ Below w.heap.size w w' := by
  obtain ⟨L, hL⟩ : ∃ L, L = zs.length := ⟨_, rfl⟩
  rw [← hL] at hl ⊢
  have HL := hid hL
  have Ha := hid ha
  have Hb := hid hb
  have hne : ((L : Int) != (L : Int)) = false := by simp
  have hne2 : (L != L) = false := by simp
  clear hL ha hb
  go_enter Try.func19, Try.ntmps19
  go_wp2_with fail
  go_loopg [5] L (fun k v5 wr => NumAt w L k v5 wr)
  case atStart => exact ⟨0, rfl, Nat.zero_le _, rfl, Below.refl _ _⟩
  case round =>
    obtain ⟨i, rfl, hi, hk, hbr⟩ := hrel
    have Hk := hid hk
    have Hbr := hid hbr
    clear hk hbr
    by_cases hlt : i < L
    · have hlt' : (i : Int) < (L : Int) := by omega
      have hi0 : (0 : Int) ≤ (i : Int) := by omega
      have hlz : i < zs.length := by have := HL.out; omega
      obtain ⟨z, hz⟩ : ∃ z, z = zs[i] := ⟨_, rfl⟩
      obtain ⟨g, o, rfl, hg, hc⟩ := Ha.out.at hlz
      obtain ⟨g2, o2, rfl, hg2, hc2⟩ := Hb.out.at hlz
      rw [← hz] at hc hc2
      have d0 := (Hbr.out.cell (p := ⟨g, _, none⟩) hg).trans hc
      have d1 := (Hbr.out.cell (p := ⟨g2, _, none⟩) hg2).trans hc2
      have hzz : (z != z) = false := by simp
      have Hlt := hid hlt
      clear hz hc hc2 hlz hlt hi
      go_upto_region 6 with fail
      go_quiet (fail)
      go_wp2_with fail
      go_roundg (L - (i + 1))
      case measure => have := Hk.out; have := Hlt.out; omega
      case rel => exact ⟨i + 1, by go_num, Hlt.out, rfl, below_drewN Hbr.out _⟩
    · have hge : ¬ (i : Int) < (L : Int) := by omega
      clear hlt
      go_wp2_with fail
      go_ret
      exact ⟨rfl, Hbr.out⟩
end Go.Proofs.Ytaehooafdbaomaa
