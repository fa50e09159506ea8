/- Chapter 13 (cyk): the document's Times. -/
import Derived.Test.YtbpgolmbielpgaaCyk5
namespace Go.Proofs.Ytbpgolmbielpgaa
open Go.RowKit
attribute [local go_sem ↓] Go.wp_at_zero Go.wp_at_succ
attribute [local go_sem] frozen_alloc_lt

theorem pow_pos2 (i : Nat) : (0 : Int) < 2 ^ i := by
  have : 0 < 2 ^ i := Nat.two_pow_pos i
  exact_mod_cast this
theorem emod_step (b : Int) (h1 : 0 ≤ b) (i : Nat) : b % 2 ^ (i + 1) = b % 2 ^ i + 2 ^ i * (b / 2 ^ i % 2) := by
  obtain ⟨B, rfl⟩ := Int.eq_ofNat_of_zero_le h1
  have h := Nat.mod_mul (x := B) (a := 2 ^ i) (b := 2)
  rw [← Nat.pow_succ] at h
  exact_mod_cast h
theorem bit_two (b : Int) (h1 : 0 ≤ b) (i : Nat) : (b / 2 ^ i).tmod 2 = b / 2 ^ i % 2 := Int.tmod_eq_emod_of_nonneg (Int.ediv_nonneg h1 (Int.le_of_lt (pow_pos2 i)))
def TimAt (w0 : World) (a b : Int) (k : Nat) (v5 v6 : Value) (w : World) : Prop := ∃ (i : Nat) (n : Int), v6 = .int .i64 i ∧ i ≤ 41 ∧ v5 = .int .i64 n ∧ n = a * (b % 2 ^ i) ∧ n ≤ 1099511627776 ∧ k = 41 - i ∧ w = w0
set_option maxHeartbeats 2000000 in
theorem rtimes_calls (w : World) (a b : Int) (h0 : 0 ≤ a) (h1 : 0 ≤ b) (_h2 : a ≤ Ck.cap) (h3 : b ≤ Ck.cap) : Calls Try.prog 17 #[.int .i64 a, .int .i64 b] w fun e w' => e = .returned (.int .i64 (min (a * b) Ck.cap)) ∧ w' = w := by
  unfold Ck.cap at *
  obtain ⟨res, hres⟩ : ∃ res, res = min (a * b) 1099511627776 := ⟨_, rfl⟩
  rw [← hres]
  have Hres := hid hres
  clear hres
  go_enter Try.func17, Try.ntmps17
  go_wp2_with fail
  go_loopg [5, 6] 41 (fun k v5 v6 wq => TimAt w a b k v5 v6 wq)
  case atStart => exact ⟨0, 0, rfl, by omega, rfl, by simp [Int.emod_one], by omega, rfl, rfl⟩
  case round =>
    obtain ⟨i, n, rfl, hi, rfl, hn, hnc, hk, rfl⟩ := hrel
    have Hk := hid hk
    have Hn := hid hn
    clear hk hn
    by_cases hlt : i < 41
    · have hlt' : (i : Int) < 41 := by omega
      have hi0 : (0 : Int) ≤ (i : Int) := by omega
      have hp := pow_pos2 i
      have hst := emod_step b h1 i
      have hbt := bit_two b h1 i
      have hle : b % 2 ^ (i + 1) ≤ b := by
        have e := Int.emod_add_mul_ediv b (2 ^ (i + 1))
        have := Int.mul_nonneg (Int.le_of_lt (pow_pos2 (i + 1))) (Int.ediv_nonneg h1 (Int.le_of_lt (pow_pos2 (i + 1))))
        omega
      have hn0 : 0 ≤ n := by rw [Hn.out]; exact Int.mul_nonneg h0 (Int.emod_nonneg _ (by omega))
      have hq0 : 0 ≤ b / 2 ^ i := Int.ediv_nonneg h1 (Int.le_of_lt hp)
      by_cases hb : (b / 2 ^ i).tmod 2 = 1
      · have hb' : ((b / 2 ^ i).tmod 2 == 1) = true := by simp [hb]
        rw [hbt] at hb
        rw [hb, Int.mul_one] at hst
        have hge : n + a * 2 ^ i ≤ a * b := by
          rw [Hn.out, ← Int.mul_add, ← hst]
          exact Int.mul_le_mul_of_nonneg_left hle h0
        by_cases ha : 1099511627776 / 2 ^ i < a
        · have hr : res = 1099511627776 := by
            have := (Int.ediv_lt_iff_lt_mul hp).1 ha
            rw [Hres.out]; omega
          have had : decide (1099511627776 / 2 ^ i < a) = true := by simp [ha]
          have Hr := hid hr
          clear hr hb hst hbt hge hle hn0 hq0 hp
          go_wp2_with fail
          go_ret
          exact ⟨by rw [Hr.out]; rfl, rfl⟩
        · have ha2 : a ≤ 1099511627776 / 2 ^ i := by omega
          have hx := (Int.le_ediv_iff_mul_le hp).1 ha2
          have hx0 : 0 ≤ a * 2 ^ i := Int.mul_nonneg h0 (Int.le_of_lt hp)
          obtain ⟨x, hxe⟩ : ∃ x, x = a * 2 ^ i := ⟨_, rfl⟩
          have hw1 : wrap64 (a * 2 ^ i) = x := by rw [← hxe]; unfold wrap64; omega
          have hw2 : wrap64 (n + x) = n + x := by unfold wrap64; omega
          rw [← hxe] at hx hx0 hge
          have hnn : n + x = a * (b % 2 ^ (i + 1)) := by rw [hst, Int.mul_add, ← Hn.out, hxe]
          have Hnn := hid hnn
          by_cases hc : 1099511627776 < n + x
          · have hr : res = 1099511627776 := by rw [Hres.out]; omega
            have Hr := hid hr
            clear hr hb hst hbt hge hle hn0 hq0 hp hnn hxe hx hx0
            go_wp2_with fail
            go_ret
            exact ⟨by rw [Hr.out]; rfl, rfl⟩
          · have hc2 : n + x ≤ 1099511627776 := by omega
            clear hb hst hbt hge hle hn0 hq0 hp hnn hxe hx hx0
            go_wp2_with fail
            go_roundg (41 - (i + 1))
            case measure => have hk := Hk.out; omega
            case rel => exact ⟨i + 1, n + x, by go_num, by omega, rfl, Hnn.out, hc2, rfl, rfl⟩
      · have hb' : ((b / 2 ^ i).tmod 2 == 1) = false := by simp [hb]
        rw [hbt] at hb
        have hz : b / 2 ^ i % 2 = 0 := by omega
        rw [hz, Int.mul_zero, Int.add_zero] at hst
        have Hst := hid hst
        clear hb hst hbt hle hn0 hq0 hp hz
        go_wp2_with fail
        go_roundg (41 - (i + 1))
        case measure => have hk := Hk.out; omega
        case rel => exact ⟨i + 1, n, by go_num, by omega, rfl, by rw [Hst.out]; exact Hn.out, hnc, rfl, rfl⟩
    · have hge : ¬ (i : Int) < 41 := by omega
      have hi41 : i = 41 := by omega
      have hr : n = res := by
        have h := Hn.out
        rw [hi41, Int.emod_eq_of_lt h1 (by omega)] at h
        rw [Hres.out, ← h]; omega
      have Hr := hid hr
      clear hr hi41
      go_wp2_with fail
      go_ret
      exact ⟨by rw [← Hr.out]; rfl, rfl⟩
end Go.Proofs.Ytbpgolmbielpgaa
