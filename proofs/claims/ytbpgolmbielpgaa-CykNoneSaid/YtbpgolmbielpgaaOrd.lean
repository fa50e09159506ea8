/- Orders of ints, of rows of ints and of productions: cmp.Compare, slices.Compare, cmp.Or, cnf.order. -/
import Derived.Test.YtbpgolmbielpgaaOrders
import Derived.Test.YtbpgolmbielpgaaLaw09a
import Derived.Test.YtbpgolmbielpgaaProds
import Derived.Test.YtbpgolmbielpgaaFacts8
namespace Go.Proofs.Ytbpgolmbielpgaa
open Go.RowKit
attribute [local go_sem ↓] Go.wp_at_zero Go.wp_at_succ
attribute [local go_sem] frozen_alloc_lt

def cmpI (a b : Int) : Int := if a < b then -1 else if b < a then 1 else 0
def cmpL : List Int → List Int → Int
  | [], [] => 0
  | [], _ :: _ => -1
  | _ :: _, [] => 1
  | a :: r, b :: s => if cmpI a b = 0 then cmpL r s else cmpI a b
def orI (x y : Int) : Int := if x = 0 then y else x
def ordP (x y : Int × List Int) : Int := orI (cmpI x.1 y.1) (cmpL x.2 y.2)
theorem cmpI_range (a b : Int) : -1 ≤ cmpI a b ∧ cmpI a b ≤ 1 := by
  unfold cmpI
  split
  · omega
  · split <;> omega

theorem nan_calls (w : World) (x : Int) : Calls Try.prog 109 #[.int .i64 x] w fun e w' => e = .returned (.bool false) ∧ w' = w := by
  go_enter Try.func109, Try.ntmps109
  go_wp2_with fail
  go_ret
  exact ⟨rfl, rfl⟩
theorem cmp_calls (w : World) (x y : Int) : Calls Try.prog 96 #[.int .i64 x, .int .i64 y] w fun e w' => e = .returned (.int .i64 (cmpI x y)) ∧ w' = w := by
  obtain ⟨c, hc⟩ : ∃ c, c = cmpI x y := ⟨_, rfl⟩
  rw [← hc]
  unfold cmpI at hc
  have Hc := hid hc
  clear hc
  go_enter Try.func96, Try.ntmps96
  by_cases h1 : x < y
  · have e := Hc.out
    rw [if_pos h1] at e
    have He := hid e
    clear e
    go_wp2_with (go_at_call 109; refine (nan_calls _ _).mono ?_; rintro e w1 ⟨rfl, rfl⟩)
    go_ret
    exact ⟨by rw [He.out]; rfl, rfl⟩
  · by_cases h2 : y < x
    · have e := Hc.out
      rw [if_neg h1, if_pos h2] at e
      have He := hid e
      clear e
      go_wp2_with (go_at_call 109; refine (nan_calls _ _).mono ?_; rintro e w1 ⟨rfl, rfl⟩)
      go_ret
      exact ⟨by rw [He.out]; rfl, rfl⟩
    · have e := Hc.out
      rw [if_neg h1, if_neg h2] at e
      have He := hid e
      clear e
      go_wp2_with (go_at_call 109; refine (nan_calls _ _).mono ?_; rintro e w1 ⟨rfl, rfl⟩)
      go_ret
      exact ⟨by rw [He.out]; rfl, rfl⟩

def ScAt (w0 : World) (xs ys : List Int) (res : Int) (k : Nat) (v : Value) (w : World) : Prop := ∃ i : Nat, v = .int .i64 i ∧ i ≤ xs.length ∧ i ≤ ys.length ∧ cmpL (xs.drop i) (ys.drop i) = res ∧ k = xs.length - i ∧ w = w0
set_option maxHeartbeats 1000000 in
theorem slcmp_calls (w : World) (ga gb : Option Addr) (ca cb : Nat) (xs ys : List Int) (ha : RowI w w.heap.size ga xs) (hb : RowI w w.heap.size gb ys) (hx : xs.length ≤ 9223372036854775807) (hy : ys.length ≤ 9223372036854775807) :
    Calls Try.prog 97 #[.slice ga xs.length ca, .slice gb ys.length cb] w fun e w' => e = .returned (.int .i64 (cmpL xs ys)) ∧ w' = w := by
  obtain ⟨res, hres⟩ : ∃ res, res = cmpL xs ys := ⟨_, rfl⟩
  rw [← hres]
  have Hres := hid hres
  clear hres
  go_enter Try.func97, Try.ntmps97
  go_wp2_with fail
  go_loopg [11] xs.length (fun k v wq => ScAt w xs ys res k v wq)
  case atStart => exact ⟨0, rfl, by omega, by omega, by rw [List.drop_zero, List.drop_zero]; exact Hres.out.symm, rfl, rfl⟩
  case round =>
    obtain ⟨i, rfl, hi, hi2, hr, hk, rfl⟩ := hrel
    have Hk := hid hk
    clear hk
    by_cases hlt : i < xs.length
    · have hlt' : (i : Int) < (xs.length : Int) := by omega
      have hi0 : (0 : Int) ≤ (i : Int) := by omega
      obtain ⟨g1, o1, rfl, h1, c1⟩ := ha.at hlt
      rw [List.drop_eq_getElem_cons hlt] at hr
      by_cases hly : i < ys.length
      · have hly' : (i : Int) < (ys.length : Int) := by omega
        have hn1 : decide ((ys.length : Int) ≤ (i : Int)) = false := by simp; omega
        obtain ⟨g2, o2, rfl, h2, c2⟩ := hb.at hly
        rw [List.drop_eq_getElem_cons hly, cmpL] at hr
        obtain ⟨x, hx'⟩ : ∃ x, x = xs[i] := ⟨_, rfl⟩
        obtain ⟨y, hy'⟩ : ∃ y, y = ys[i] := ⟨_, rfl⟩
        rw [← hx'] at c1 hr
        rw [← hy'] at c2 hr
        obtain ⟨c, hc⟩ : ∃ c, c = cmpI x y := ⟨_, rfl⟩
        rw [← hc] at hr
        have Hc := hid hc
        by_cases h0 : c = 0
        · rw [if_pos h0] at hr
          have Hr := hid hr
          clear hr hx' hy' h1 h2 hc
          have hz : (c == 0) = true := by simp [h0]
          go_wp2_with (go_at_call 96; refine (cmp_calls _ _ _).mono ?_; rintro e w1 ⟨rfl, rfl⟩; rw [← Hc.out])
          go_roundg (xs.length - (i + 1))
          case measure => have hk := Hk.out; omega
          case rel => exact ⟨i + 1, by go_num, by omega, by omega, Hr.out, rfl, rfl⟩
        · rw [if_neg h0] at hr
          have Hr := hid hr
          clear hr hx' hy' h1 h2 hc
          have hz : (c == 0) = false := by simp [h0]
          go_wp2_with (go_at_call 96; refine (cmp_calls _ _ _).mono ?_; rintro e w1 ⟨rfl, rfl⟩; rw [← Hc.out])
          go_ret
          exact ⟨by rw [← Hr.out]; rfl, rfl⟩
      · have hly' : ¬ (i : Int) < (ys.length : Int) := by omega
        have hn1 : decide ((ys.length : Int) ≤ (i : Int)) = true := by simp; omega
        have hn2 : (ys.length : Int) ≤ (i : Int) := by omega
        rw [show ys.drop i = [] from List.drop_eq_nil_of_le (by omega), cmpL] at hr
        have Hr := hid hr
        clear hr h1
        go_wp2_with fail
        go_ret
        exact ⟨by rw [← Hr.out]; rfl, rfl⟩
    · have hge : ¬ (i : Int) < (xs.length : Int) := by omega
      rw [show xs.drop i = [] from List.drop_eq_nil_of_le (by omega)] at hr
      by_cases hly : i < ys.length
      · have hly' : (xs.length : Int) < (ys.length : Int) := by omega
        rw [List.drop_eq_getElem_cons hly, cmpL] at hr
        have Hr := hid hr
        clear hr
        go_wp2_with fail
        go_ret
        exact ⟨by rw [← Hr.out]; rfl, rfl⟩
      · have hly' : ¬ (xs.length : Int) < (ys.length : Int) := by omega
        rw [show ys.drop i = [] from List.drop_eq_nil_of_le (by omega), cmpL] at hr
        have Hr := hid hr
        clear hr
        go_wp2_with fail
        go_ret
        exact ⟨by rw [← Hr.out]; rfl, rfl⟩

set_option maxHeartbeats 1000000 in
theorem or2_calls (w : World) (g : Nat) (x y : Int) (h0 : w.cell? ⟨g, 0, none⟩ = some (.int .i64 x)) (h1 : w.cell? ⟨g, 1, none⟩ = some (.int .i64 y)) :
    Calls Try.prog 95 #[.slice (some ⟨g, 0, none⟩) 2 2] w fun e w' => e = .returned (.int .i64 (orI x y)) ∧ w' = w := by
  obtain ⟨c, hc⟩ : ∃ c, c = orI x y := ⟨_, rfl⟩
  rw [← hc]
  unfold orI at hc
  have Hc := hid hc
  clear hc
  go_enter Try.func95, Try.ntmps95
  go_wp2_with fail
  go_loopg [8] 2 (fun (k : Nat) v wq => ∃ i : Nat, v = .int .i64 i ∧ i ≤ 2 ∧ k = 2 - i ∧ wq = w ∧ (0 < i → x = 0) ∧ (1 < i → y = 0))
  case atStart => exact ⟨0, rfl, by omega, rfl, rfl, (fun h => by omega), fun h => by omega⟩
  case round =>
    obtain ⟨i, rfl, hi, hk, rfl, hx, hy⟩ := hrel
    have Hk := hid hk
    clear hk
    rcases (show i = 0 ∨ i = 1 ∨ i = 2 by omega) with rfl | rfl | rfl
    · by_cases hz : x = 0
      · have hz2 : (x == 0) = true := by simp [hz]
        have Hz := hid hz
        clear hx hy hz
        go_wp2_with fail
        go_roundg 1
        case measure => have hk := Hk.out; omega
        case rel => exact ⟨1, rfl, by omega, rfl, rfl, (fun _ => Hz.out), fun h => by omega⟩
      · have hz2 : (x == 0) = false := by simp [hz]
        have Hz := hid hz
        clear hx hy hz
        go_wp2_with fail
        go_ret
        exact ⟨by rw [Hc.out, if_neg Hz.out]; rfl, rfl⟩
    · have hx0 := hid (hx (by omega))
      by_cases hz : y = 0
      · have hz2 : (y == 0) = true := by simp [hz]
        have Hz := hid hz
        clear hx hy hz
        go_wp2_with fail
        go_roundg 0
        case measure => have hk := Hk.out; omega
        case rel => exact ⟨2, rfl, by omega, rfl, rfl, (fun _ => hx0.out), fun _ => Hz.out⟩
      · have hz2 : (y == 0) = false := by simp [hz]
        have Hz := hid hz
        clear hx hy hz
        go_wp2_with fail
        go_ret
        exact ⟨by rw [Hc.out, if_pos hx0.out]; rfl, rfl⟩
    · have hx0 := hid (hx (by omega))
      have hy0 := hid (hy (by omega))
      clear hx hy
      go_wp2_with fail
      go_ret
      exact ⟨by rw [Hc.out, if_pos hx0.out, hy0.out]; rfl, rfl⟩

set_option maxHeartbeats 2000000 in
/-- cnf.order. -/
theorem order_calls (w : World) (l l' : Int) (gr gr' : Option Addr) (cr cr' : Nat) (r r' : List Int) (ha : RowI w w.heap.size gr r) (hb : RowI w w.heap.size gr' r') (hx : r.length ≤ 9223372036854775807) (hy : r'.length ≤ 9223372036854775807) :
    Calls Try.prog 89 #[.agg #[.int .i64 l, .slice gr r.length cr], .agg #[.int .i64 l', .slice gr' r'.length cr']] w fun e w' => e = .returned (.int .i64 (ordP (l, r) (l', r'))) ∧ Below w.heap.size w w' := by
  have hk1 := (Bk.new w 35 [.int .i64 l, .slice gr r.length cr]).alloc (.cells #[.int .i64 l', .slice gr' r'.length cr'] 35)
  have hk2 : Bk ((w.alloc (.cells #[.int .i64 l, .slice gr r.length cr] 35)).alloc (.cells #[.int .i64 l', .slice gr' r'.length cr'] 35)) (w.heap.size + 1) 35 [.int .i64 l', .slice gr' r'.length cr'] := bk_at (Bk.new (w.alloc (.cells #[.int .i64 l, .slice gr r.length cr] 35)) 35 [.int .i64 l', .slice gr' r'.length cr']) (by simp)
  have hb0 : Below w.heap.size w ((w.alloc (.cells #[.int .i64 l, .slice gr r.length cr] 35)).alloc (.cells #[.int .i64 l', .slice gr' r'.length cr'] 35)) := ((Below.refl _ _).alloc (Nat.le_refl _) _).alloc (by simp) _
  go_enter Try.func89, Try.ntmps89
  go_upto_region 1 with fail
  obtain ⟨b2, hb2⟩ : ∃ b2, b2 = w.heap.size + 1 := ⟨_, rfl⟩
  obtain ⟨b1, hb1⟩ : ∃ b1, b1 = w.heap.size := ⟨_, rfl⟩
  obtain ⟨wd, hwd⟩ : ∃ wd, wd = ((w.alloc (.cells #[.int .i64 l, .slice gr r.length cr] 35)).alloc (.cells #[.int .i64 l', .slice gr' r'.length cr'] 35)) := ⟨_, rfl⟩
  have hb0 : Below w.heap.size w wd := by rw [hwd]; exact hb0
  have hk1 : Bk wd b1 35 [.int .i64 l, .slice gr r.length cr] := by rw [hwd, hb1]; exact hk1
  have hk2 : Bk wd b2 35 [.int .i64 l', .slice gr' r'.length cr'] := by rw [hwd, hb2]; exact hk2
  have ha' : RowI wd wd.heap.size gr r := (ha.below hb0).mono hb0.size
  have hb' : RowI wd wd.heap.size gr' r' := (hb.below hb0).mono hb0.size
  have hS : ∀ W, Below wd.heap.size wd W → W.cell? ⟨b1, 0, none⟩ = some (.int .i64 l) ∧ W.cell? ⟨b1, 1, none⟩ = some (.slice gr r.length cr) ∧ W.cell? ⟨b2, 0, none⟩ = some (.int .i64 l') ∧ W.cell? ⟨b2, 1, none⟩ = some (.slice gr' r'.length cr') := fun W h => by
    have k1 := hk1.below h hk1.lt
    have k2 := hk2.below h hk2.lt
    exact ⟨k1.cell 0, k1.cell 1, k2.cell 0, k2.cell 1⟩
  have hdr : Below wd.heap.size wd wd.drew := below_drewN (Below.refl _ _) 1
  obtain ⟨e0, e1, e2, e3⟩ := hS wd.drew hdr
  have hnw := fun (c d : Int) => Bk.new wd.drew 3 [.int .i64 c, .int .i64 d]
  have HS := hid hS
  have ha' : RowI wd.drew wd.drew.heap.size gr r := ha'
  have hb' : RowI wd.drew wd.drew.heap.size gr' r' := hb'
  have Ha := hid ha'
  have Hdr := hid hdr
  have Hb := hid hb'
  have Hb0 := hid hb0
  have Hnw := hid hnw
  rw [← hwd, ← hb2, ← hb1]
  clear hwd hb1 hb2 hb0 hk1 hk2 ha hb ha' hb' hS hnw hdr
  go_region_held3 (fun w' => w'.cell? ⟨b1, 0, none⟩ = some (.int .i64 l) ∧ w'.cell? ⟨b1, 1, none⟩ = some (.slice gr r.length cr) ∧ w'.cell? ⟨b2, 0, none⟩ = some (.int .i64 l') ∧ w'.cell? ⟨b2, 1, none⟩ = some (.slice gr' r'.length cr'))
    (first | exact ⟨‹_›, ‹_›, ‹_›, ‹_›⟩ | (refine HS.out _ ?_; exact Hdr.out.alloc Hdr.out.size _))
    (first | (go_at_call 96; refine (cmp_calls _ _ _).mono ?_; rintro e w1 ⟨rfl, rfl⟩) | (go_at_call 97; refine (slcmp_calls _ gr gr' cr cr' r r' Ha.out Hb.out hx hy).mono ?_; rintro e w1 ⟨rfl, rfl⟩) | (go_at_call 95; refine (or2_calls _ _ _ _ ((Hnw.out _ _).cell 0) ((Hnw.out _ _).cell 1)).mono ?_; rintro e w1 ⟨rfl, rfl⟩))
  go_wp2_with fail
  go_ret
  exact ⟨rfl, Hb0.out.trans ((Hdr.out.alloc Hdr.out.size _).mono Hb0.out.size)⟩
end Go.Proofs.Ytbpgolmbielpgaa
