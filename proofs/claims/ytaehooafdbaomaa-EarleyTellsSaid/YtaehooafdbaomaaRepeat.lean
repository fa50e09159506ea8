/- slices.Repeat of one int. -/
import Derived.Test.YtaehooafdbaomaaGin
import Derived.Laws.CopyOwn
namespace Go.Proofs.Ytaehooafdbaomaa
open Go.RowKit
attribute [local go_sem ↓] Go.wp_at_zero Go.wp_at_succ
attribute [local go_sem] frozen_alloc_lt

theorem u64w (n : Int) (h0 : 0 ≤ n) (h1 : n ≤ 1000000) : IntKind.u64.wrap n = n := by
  rw [IntKind.wrap_u64]; omega
theorem and32 (n : Int) (h0 : 0 ≤ n) (h1 : n ≤ 1000000) : bits .and .u64 n 4294967295 = n := by
  obtain ⟨m, rfl⟩ := Int.eq_ofNat_of_zero_le h0
  have h : (BitVec.ofInt 64 (m : Int) &&& BitVec.ofInt 64 4294967295).toNat = m := by
    rw [BitVec.toNat_and]
    have e1 : (BitVec.ofInt 64 (m : Int)).toNat = m := by
      rw [BitVec.toNat_ofInt]
      omega
    have e2 : (BitVec.ofInt 64 (4294967295 : Int)).toNat = 2 ^ 32 - 1 := by decide
    rw [e1, e2, Nat.and_two_pow_sub_one_eq_mod]
    omega
  show IntKind.u64.wrap ((BitVec.ofInt 64 (m : Int) &&& BitVec.ofInt 64 4294967295).toNat : Int) = _
  rw [h]
  rw [u64w _ (by omega) (by omega)]

set_option maxHeartbeats 1000000 in
theorem mul64_calls (w : World) (n : Int) (h0 : 0 ≤ n) (h1 : n ≤ 1000000) :
    Calls Try.prog 150 #[.int .u64 1, .int .u64 n] w fun e w' => e = .returned (.tuple #[.int .u64 0, .int .u64 n]) ∧ w = w' := by
  have ha := and32 n h0 h1
  have ha1 := and32 1 (by omega) (by omega)
  have ha0 := and32 0 (by omega) (by omega)
  have hw := u64w n h0 h1
  have hw0 := u64w 0 (by omega) (by omega)
  have hd : n / 4294967296 = 0 := by omega
  go_enter Try.func150, Try.ntmps150
  go_wp2_with fail
  go_ret2
  exact ⟨rfl, rfl⟩

set_option maxHeartbeats 1000000 in
theorem mul_calls (w : World) (n : Int) (h0 : 0 ≤ n) (h1 : n ≤ 1000000) :
    Calls Try.prog 130 #[.int .u64 1, .int .u64 n] w fun e w' => e = .returned (.tuple #[.int .u64 0, .int .u64 n]) ∧ w = w' := by
  go_enter Try.func130, Try.ntmps130
  go_wp2_with (go_at_call 150; refine (mul64_calls w n h0 h1).mono ?_; rintro e w1 ⟨rfl, rfl⟩)
  go_ret2
  exact ⟨rfl, rfl⟩

/-- j places filled of n. -/
def reps (n : Nat) (x : Int) (j : Nat) : List Value := List.replicate j (.int .i64 x) ++ List.replicate (n - j) (.int .i64 0)

theorem reps_splice (n : Nat) (x : Int) (j m : Nat) (_hm : j + m ≤ n) : splice (reps n x j) j (List.replicate m (.int .i64 x)) = reps n x (j + m) := by
  unfold splice reps
  have h1 : (List.replicate j (Value.int .i64 x) ++ List.replicate (n - j) (Value.int .i64 0)).take j = List.replicate j (Value.int .i64 x) := by
    rw [List.take_append_of_le_length (by simp), List.take_replicate, Nat.min_self]
  have h2 : (List.replicate j (Value.int .i64 x) ++ List.replicate (n - j) (Value.int .i64 0)).drop (j + (List.replicate m (Value.int .i64 x)).length) = List.replicate (n - (j + m)) (Value.int .i64 0) := by
    rw [List.length_replicate, ← List.drop_drop, List.drop_left' (by simp), List.drop_replicate]
    congr 1
    omega
  rw [h1, h2, ← List.append_assoc, List.replicate_append_replicate]

def RepAt (w0 : World) (g n : Nat) (x : Int) (k : Nat) (v8 : Value) (w : World) : Prop :=
  ∃ j : Nat, v8 = .int .i64 j ∧ 1 ≤ j ∧ j ≤ n ∧ Bk w g 3 (reps n x j) ∧ k = n - j ∧ Below w0.heap.size w0 w

def RepPost (w : World) (n : Nat) (x : Int) (e : Ending) (w' : World) : Prop :=
  ∃ g : Nat, e = .returned (.slice (some ⟨g, 0, none⟩) n n) ∧ w.heap.size ≤ g ∧ Bk w' g 3 ((List.replicate n x).map (Value.int .i64)) ∧ Below w.heap.size w w'

theorem sizeInt : (Try.prog.info? 3).map (·.size) = some 1 := by kernel_rfl

set_option maxHeartbeats 2000000 in
set_option maxRecDepth 8000 in
theorem repeat_calls (w : World) (gx cx : Nat) (x : Int) (n : Nat) (hx : w.cell? ⟨gx, 0, none⟩ = some (.int .i64 x)) (h1 : 1 ≤ n) (hn : n ≤ 100000) :
    Calls Try.prog 99 #[.slice (some ⟨gx, 0, none⟩) 1 cx, .int .i64 n] w (RepPost w n x) := by
  obtain ⟨i3, hi3, z0, z1, z2⟩ := info_parts intInfo
  have hu := u64w n (by omega) (by omega)
  have hlx : gx < w.heap.size := World.block_lt_of_cell? w _ hx
  go_enter Try.func99, Try.ntmps99
  go_upto_region 7 with (first | (go_at_call 130; refine (mul_calls w n (by omega) (by omega)).mono ?_; rintro e w1 ⟨rfl, rfl⟩) | (at_make; refine wpList_make_bk _ rfl _ _ _ rfl 3 i3 _ Try.underlying22 hi3 z0 z1 rfl _ _ n rfl rfl rfl rfl (by rw [z2]; omega) (by omega) ?_; intro w1 hbk hk1))
  have hb1 : Below w.heap.size w w1 := hk1.to_below (Nat.le_refl _) (fun k hk => hk.elim)
  have hx1 := hk1.cell hx (fun h => h)
  obtain ⟨g, hge⟩ : ∃ g, g = w.heap.size := ⟨_, rfl⟩
  rw [← hge] at hbk ⊢
  have Hge := hid hge
  have hbk0 : Bk w1 g 3 (reps n x 0) := hbk.of (by simp [reps])
  clear hbk hk1 hx hge
  have hfill : ∀ (j m : Nat), j + m ≤ n → splice (reps n x j) j (List.replicate m (.int .i64 x)) = reps n x (j + m) := reps_splice n x
  have Hfill := hid hfill
  clear hfill
  iterate 7 go_step
  refine wpList_copy_splice rfl _ _ _ _ rfl 3 Try.underlying22 sizeInt (some ⟨g, 0, none⟩) (some ⟨gx, 0, none⟩) n n 1 cx rfl rfl g 0 (reps n x 0) 3 hbk0 [.int .i64 x] (Nat.min_eq_left h1).symm (fun _ => ⟨rfl, _, rfl, ?c1⟩) (by simp [reps]; omega) (by simp [Value.oneCell']) w.heap.size w hb1 (by rw [Hge.out]; exact Nat.le_refl _) ?_
  case c1 =>
    intro j v hj
    match j, hj with
    | 0, hj =>
      simp at hj
      subst hj
      rw [add_off0 _ rfl]
      exact hx1
  intro w2 hbk2 hb2
  have hbk2 : Bk w2 g 3 (reps n x 1) := by
    have h := hbk2.out
    have e := Hfill.out 0 1 (by omega)
    simp only [List.replicate_one] at e
    rw [e] at h
    exact h
  clear hbk0 hx1 hb1
  go_wp2_with fail
  have hjc : (0 : Int) ≤ (n : Int) := by omega
  go_loopg [8] (n - 1) (fun k v8 wr => RepAt w g n x k v8 wr)
  case atStart => exact ⟨1, rfl, by omega, h1, hbk2, rfl, hb2⟩
  case round =>
    clear hbk2 hb2
    obtain ⟨j, rfl, hj1, hjn, hbk, hk, hb⟩ := hrel
    have Hk := hid hk
    clear hk
    by_cases hlt : j < n
    · have hlt' : (j : Int) < (n : Int) := by omega
      have hj0 : (0 : Int) ≤ (j : Int) := by omega
      have hnj : ¬ n = j := by omega
      obtain ⟨m, hm⟩ : ∃ m, m = Nat.min j (n - j) := ⟨_, rfl⟩
      have hm2 : m ≤ n - j := by rw [hm]; exact Nat.min_le_right _ _
      have hm3 : m ≤ j := by rw [hm]; exact Nat.min_le_left _ _
      have hm1 : 1 ≤ m := by rw [hm]; exact Nat.le_min.2 ⟨hj1, by omega⟩
      have hsum : IntKind.i64.wrap ((j : Int) + (m : Int)) = (j : Int) + (m : Int) := by rw [IntKind.wrap_i64]; omega
      have hcells : ∀ i v, (List.replicate m (Value.int .i64 x))[i]? = some v → wr.cell? ((⟨g, 0, none⟩ : Addr).add i) = some v := by
        intro i v hv
        rw [add_off0 _ rfl]
        simp only [Nat.zero_add]
        rw [hbk.cell]
        unfold reps
        rw [List.getElem?_replicate] at hv
        split at hv
        · rw [List.getElem?_append_left (by simp; omega), List.getElem?_replicate, if_pos (by omega)]
          exact hv
        · cases hv
      have hlen : (reps n x j).length = n := by simp [reps]; omega
      have hone : ∀ v ∈ List.replicate m (Value.int .i64 x), v.oneCell' = true := by
        intro v hv
        rw [(List.mem_replicate.1 hv).2]
        rfl
      have hcp : (Builtin.copy_ #[22, 22] 3 #[.slice (some ⟨g, j, none⟩) (n - j) (n - j), .slice (some ⟨g, 0, none⟩) j n]).run Try.prog wr.drew = .ok (.int .i64 m) (wr.drew.setRow g (reps n x (j + m)).toArray) := by
        have h := run_copy_row (P := Try.prog) wr.drew 22 22 3 3 g j (n - j) (n - j) ⟨g, 0, none⟩ j n (reps n x j).toArray 3 (List.replicate m (.int .i64 x)) Try.underlying22 sizeInt hbk (by rw [List.length_replicate]; exact hm) (by simpa using hcells) (by simp [hlen]; omega) hone
        have e := Hfill.out j m (by omega)
        unfold splice at e
        rw [List.length_replicate] at h e
        rw [List.append_assoc, e] at h
        exact h
      have hbkn : Bk (wr.drew.setRow g (reps n x (j + m)).toArray) g 3 (reps n x (j + m)) := setRow_heap wr.drew g _ _ 3 _ hbk
      have hbn : Below w.heap.size w (wr.drew.setRow g (reps n x (j + m)).toArray) := below_setRow (w := wr.drew) (below_drewN hb 1) (by rw [Hge.out]; exact Nat.le_refl _) _
      clear hm hcells hlen hone
      go_wp2_with fail
      go_region
      go_wp2_with fail
      go_roundg (n - (j + m))
      case measure => have hk := Hk.out; omega
      case rel => exact ⟨j + m, by rw [Int.natCast_add], by omega, by omega, hbkn, rfl, hbn⟩
    · have hge : ¬ (j : Int) < (n : Int) := by omega
      have hje : j = n := by omega
      rw [hje] at hbk
      clear hje
      go_wp2_with fail
      go_ret
      exact ⟨g, rfl, by rw [Hge.out]; exact Nat.le_refl _, hbk.of (by simp [reps]), hb⟩
end Go.Proofs.Ytaehooafdbaomaa
