/- Orders of ints: cmp.Compare, cmp.Or. -/
import Derived.Test.YtaehooafdbaomaaOrders
import Derived.Test.YtaehooafdbaomaaProds
import Derived.Test.YtaehooafdbaomaaGin
namespace Go.Proofs.Ytaehooafdbaomaa
open Go.RowKit
attribute [local go_sem ↓] Go.wp_at_zero Go.wp_at_succ
attribute [local go_sem] frozen_alloc_lt

def cmpI (a b : Int) : Int := if a < b then -1 else if b < a then 1 else 0
def cmpL : List Int → List Int → Int
  | [], [] => 0
  | [], _ :: _ => -1
  | _ :: _, [] => 1
  | a :: r, b :: s => if cmpI a b = 0 then cmpL r s else cmpI a b
def orI (x y : Int) : Int := if x = 0 then y else x
def ordP (x y : Int × List Int) : Int := orI (cmpI x.1 y.1) (cmpL x.2 y.2)
theorem cmpI_range (a b : Int) : -1 ≤ cmpI a b ∧ cmpI a b ≤ 1 := by
  unfold cmpI
  split
  · omega
  · split <;> omega

theorem nan_calls (w : World) (x : Int) : Calls Try.prog 172 #[.int .i64 x] w fun e w' => e = .returned (.bool false) ∧ w' = w := by
  go_enter Try.func172, Try.ntmps172
  go_wp2_with fail
  go_ret
  exact ⟨rfl, rfl⟩
theorem cmp_calls (w : World) (x y : Int) : Calls Try.prog 147 #[.int .i64 x, .int .i64 y] w fun e w' => e = .returned (.int .i64 (cmpI x y)) ∧ w' = w := by
  obtain ⟨c, hc⟩ : ∃ c, c = cmpI x y := ⟨_, rfl⟩
  rw [← hc]
  unfold cmpI at hc
  have Hc := hid hc
  clear hc
  go_enter Try.func147, Try.ntmps147
  by_cases h1 : x < y
  · have e := Hc.out
    rw [if_pos h1] at e
    have He := hid e
    clear e
    go_wp2_with (go_at_call 172; refine (nan_calls _ _).mono ?_; rintro e w1 ⟨rfl, rfl⟩)
    go_ret
    exact ⟨by rw [He.out]; rfl, rfl⟩
  · by_cases h2 : y < x
    · have e := Hc.out
      rw [if_neg h1, if_pos h2] at e
      have He := hid e
      clear e
      go_wp2_with (go_at_call 172; refine (nan_calls _ _).mono ?_; rintro e w1 ⟨rfl, rfl⟩)
      go_ret
      exact ⟨by rw [He.out]; rfl, rfl⟩
    · have e := Hc.out
      rw [if_neg h1, if_neg h2] at e
      have He := hid e
      clear e
      go_wp2_with (go_at_call 172; refine (nan_calls _ _).mono ?_; rintro e w1 ⟨rfl, rfl⟩)
      go_ret
      exact ⟨by rw [He.out]; rfl, rfl⟩

set_option maxHeartbeats 1000000 in
theorem or2_calls (w : World) (g : Nat) (x y : Int) (h0 : w.cell? ⟨g, 0, none⟩ = some (.int .i64 x)) (h1 : w.cell? ⟨g, 1, none⟩ = some (.int .i64 y)) :
    Calls Try.prog 146 #[.slice (some ⟨g, 0, none⟩) 2 2] w fun e w' => e = .returned (.int .i64 (orI x y)) ∧ w' = w := by
  obtain ⟨c, hc⟩ : ∃ c, c = orI x y := ⟨_, rfl⟩
  rw [← hc]
  unfold orI at hc
  have Hc := hid hc
  clear hc
  go_enter Try.func146, Try.ntmps146
  go_wp2_with fail
  go_loopg [8] 2 (fun (k : Nat) v wq => ∃ i : Nat, v = .int .i64 i ∧ i ≤ 2 ∧ k = 2 - i ∧ wq = w ∧ (0 < i → x = 0) ∧ (1 < i → y = 0))
  case atStart => exact ⟨0, rfl, by omega, rfl, rfl, (fun h => by omega), fun h => by omega⟩
  case round =>
    obtain ⟨i, rfl, hi, hk, rfl, hx, hy⟩ := hrel
    have Hk := hid hk
    clear hk
    rcases (show i = 0 ∨ i = 1 ∨ i = 2 by omega) with rfl | rfl | rfl
    · by_cases hz : x = 0
      · have hz2 : (x == 0) = true := by simp [hz]
        have Hz := hid hz
        clear hx hy hz
        go_wp2_with fail
        go_roundg 1
        case measure => have hk := Hk.out; omega
        case rel => exact ⟨1, rfl, by omega, rfl, rfl, (fun _ => Hz.out), fun h => by omega⟩
      · have hz2 : (x == 0) = false := by simp [hz]
        have Hz := hid hz
        clear hx hy hz
        go_wp2_with fail
        go_ret
        exact ⟨by rw [Hc.out, if_neg Hz.out]; rfl, rfl⟩
    · have hx0 := hid (hx (by omega))
      by_cases hz : y = 0
      · have hz2 : (y == 0) = true := by simp [hz]
        have Hz := hid hz
        clear hx hy hz
        go_wp2_with fail
        go_roundg 0
        case measure => have hk := Hk.out; omega
        case rel => exact ⟨2, rfl, by omega, rfl, rfl, (fun _ => hx0.out), fun _ => Hz.out⟩
      · have hz2 : (y == 0) = false := by simp [hz]
        have Hz := hid hz
        clear hx hy hz
        go_wp2_with fail
        go_ret
        exact ⟨by rw [Hc.out, if_pos hx0.out]; rfl, rfl⟩
    · have hx0 := hid (hx (by omega))
      have hy0 := hid (hy (by omega))
      clear hx hy
      go_wp2_with fail
      go_ret
      exact ⟨by rw [Hc.out, if_pos hx0.out, hy0.out]; rfl, rfl⟩

end Go.Proofs.Ytaehooafdbaomaa
