/- Chapter 13 (cyk): a chart in memory; at, Has, Trees, Yes, Ambiguous, add, times. -/
import Derived.Test.YtbpgolmbielpgaaMapV
import Derived.Test.YtbpgolmbielpgaaNormal
namespace Go.Proofs.Ytbpgolmbielpgaa
open Go.RowKit
attribute [local go_sem ↓] Go.wp_at_zero Go.wp_at_succ
attribute [local go_sem] frozen_alloc_lt

namespace Ck
abbrev cap : Int := 1099511627776
def cellF (t : Int → Int) (z : Int) : Option Value := if t z = 0 then none else some (.int .i64 (t z))
/-- The place of a part's cell. -/
def ix (n i j : Nat) : Nat := i * n + j - 1
end Ck
/-- A cell of the chart that reads as t: by nonterminals, how many; 0: not there. -/
def CellT (w : World) (v : Value) (t : Int → Int) : Prop := (v = .map none ∧ ∀ z, t z = 0) ∨ ∃ m k, v = .map (some m) ∧ MapV w m k (Ck.cellF t)
def chartL (st cnt te : Int) (em : Bool) (gp : Option Addr) (lp cp n bc : Nat) : List Value := [.int .i64 st, .int .i64 cnt, .int .i64 te, .bool em, .slice gp lp cp, .int .i64 n, .slice (some ⟨bc, 0, none⟩) ((n * n : Nat) : Int).toNat ((n * n : Nat) : Int).toNat]
structure Chart (w : World) (b bc n : Nat) (st cnt te : Int) (em : Bool) (gp : Option Addr) (lp cp : Nat) (ms : List Value) (T : Nat → Int → Int) : Prop where
  k : Bk w b 85 (chartL st cnt te em gp lp cp n bc)
  c : Bk w bc 91 ms
  l : ms.length = n * n
  t : ∀ (i : Nat) v, ms[i]? = some v → CellT w v (T i)
  ne : b ≠ bc

theorem CellT.get {w : World} {v : Value} {t : Int → Int} (h : CellT w v t) (a : Int) (h0 : -9223372036854775808 ≤ a) (h1 : a ≤ 9223372036854775807) : (Instr.lookup 91 v (.int .i64 a) false).run Try.prog w = .ok (.int .i64 (t a)) w := by
  have hz : (zeroValue 3).run Try.prog w = .ok (.int .i64 0) w := by kernel_rfl
  rcases h with ⟨rfl, h⟩ | ⟨m, k, rfl, h⟩
  · rw [mapNil_get w a h0 h1 _ _ Try.underlying91 hz, h a]
  · rw [h.get a h0 h1 _ _ Try.underlying91 hz]
    unfold Ck.cellF
    split
    · simp [*]
    · rfl
theorem Chart.lt {w : World} {b bc n : Nat} {st cnt te : Int} {em : Bool} {gp : Option Addr} {lp cp : Nat} {ms : List Value} {T : Nat → Int → Int} (_h : Chart w b bc n st cnt te em gp lp cp ms T) {i j : Nat} (hij : i < j) (hj : j ≤ n) : Ck.ix n i j < n * n := by
  unfold Ck.ix
  have h1 : (i + 1) * n ≤ n * n := Nat.mul_le_mul_right n (by omega)
  rw [Nat.add_mul, Nat.one_mul] at h1
  omega

section
variable (w : World)
theorem cadd_calls (a b : Int) (h0 : 0 ≤ a) (h1 : 0 ≤ b) (h2 : a ≤ Ck.cap) (h3 : b ≤ Ck.cap) : Calls Try.prog 68 #[.int .i64 a, .int .i64 b] w fun e w' => e = .returned (.int .i64 (min (a + b) Ck.cap)) ∧ w' = w := by
  unfold Ck.cap at *
  by_cases hle : a + b ≤ 1099511627776
  · have e : min (a + b) 1099511627776 = a + b := by omega
    rw [e]
    have hn : ¬ 1099511627776 < a + b := by omega
    clear e
    go_enter Try.func68, Try.ntmps68
    go_wp2_with fail
    go_ret
    exact ⟨rfl, rfl⟩
  · have e : min (a + b) 1099511627776 = 1099511627776 := by omega
    rw [e]
    have hn : 1099511627776 < a + b := by omega
    clear e
    go_enter Try.func68, Try.ntmps68
    go_wp2_with fail
    go_ret
    exact ⟨rfl, rfl⟩
theorem ctimes_calls (a b : Int) (h0 : 0 < a) (h1 : 0 ≤ b) (h2 : a ≤ Ck.cap) (_h3 : b ≤ Ck.cap) : Calls Try.prog 69 #[.int .i64 a, .int .i64 b] w fun e w' => e = .returned (.int .i64 (min (a * b) Ck.cap)) ∧ w' = w := by
  unfold Ck.cap at *
  have hq : Int.tdiv 1099511627776 a = 1099511627776 / a := Int.tdiv_eq_ediv_of_nonneg (by omega)
  have hq1 : 0 ≤ 1099511627776 / a := Int.ediv_nonneg (by omega) (by omega)
  have hq2 : 1099511627776 / a ≤ 1099511627776 := Int.ediv_le_self _ (by omega)
  obtain ⟨q, hqe⟩ : ∃ q, q = Int.tdiv 1099511627776 a := ⟨_, rfl⟩
  have ha0 : ¬ a = 0 := by omega
  have hab : (a == 0) = false := by simp; omega
  have hiff : b ≤ q ↔ a * b ≤ 1099511627776 := by
    rw [hqe, hq, Int.le_ediv_iff_mul_le h0, Int.mul_comm]
  have hqw : IntKind.i64.wrap q = q := by rw [IntKind.wrap_i64] <;> omega
  by_cases hb : b ≤ q
  · have hle := hiff.1 hb
    have h00 : 0 ≤ a * b := Int.mul_nonneg (by omega) h1
    have hm : min (a * b) 1099511627776 = a * b := by omega
    have hbw : IntKind.i64.wrap (a * b) = a * b := by rw [IntKind.wrap_i64] <;> omega
    rw [hm]
    have hn1 : decide (q < b) = false := by simp; omega
    have hn2 : ¬ q < b := by omega
    rw [hqe] at hn1 hn2 hqw
    have Hm := hid hm
    clear hm hiff hq hqe hq1 hq2 hb
    go_enter Try.func69, Try.ntmps69
    go_wp2_with fail
    go_ret
    exact ⟨rfl, rfl⟩
  · have hm : min (a * b) 1099511627776 = 1099511627776 := by
      have := mt hiff.2 hb
      omega
    rw [hm]
    have hn1 : decide (q < b) = true := by simp; omega
    have hn2 : q < b := by omega
    rw [hqe] at hn1 hn2 hqw
    clear hm hiff hq hqe hq1 hq2 hb
    go_enter Try.func69, Try.ntmps69
    go_wp2_with fail
    go_ret
    exact ⟨rfl, rfl⟩

theorem at_yes (b n i j : Nat) (hc : w.cell? ⟨b, 5, none⟩ = some (.int .i64 n)) (hij : i < j) (hj : j ≤ n) (hn : n ≤ 64) : Calls Try.prog 49 #[.pointer (some ⟨b, 0, none⟩), .int .i64 i, .int .i64 j] w fun e w' => e = .returned (.tuple #[.int .i64 (Ck.ix n i j), .bool true]) ∧ w' = w := by
  obtain ⟨m, hm⟩ : ∃ m, m = Ck.ix n i j := ⟨_, rfl⟩
  obtain ⟨p, hp⟩ : ∃ p, p = i * n := ⟨_, rfl⟩
  have hp4 : p ≤ 4096 := by rw [hp]; exact Nat.mul_le_mul (by omega : i ≤ 64) hn
  rw [← hm]
  unfold Ck.ix at hm
  rw [← hp] at hm
  have hw1 : IntKind.i64.wrap ((i : Int) * (n : Int)) = (p : Int) := by
    have e : (i : Int) * (n : Int) = (p : Int) := by rw [hp]; push_cast; rfl
    rw [e, IntKind.wrap_i64] <;> omega
  have hw2 : IntKind.i64.wrap ((p : Int) + (j : Int) - 1) = (m : Int) := by rw [IntKind.wrap_i64] <;> omega
  have d1 : ¬ (i : Int) < 0 := by omega
  have d1' : decide ((i : Int) < 0) = false := by simp
  have d2 : decide ((n : Int) < (j : Int)) = false := by simp; omega
  have d3 : decide ((j : Int) ≤ (i : Int)) = false := by simp; omega
  have d2' : decide (n < j) = false := by simp; omega
  have d3' : decide (j ≤ i) = false := by simp; omega
  clear hp hm
  go_enter Try.func49, Try.ntmps49
  go_wp2_with fail
  go_ret2
  exact ⟨rfl, rfl⟩
theorem at_nil (x y : Int) : Calls Try.prog 49 #[.pointer none, .int .i64 x, .int .i64 y] w fun e w' => e = .returned (.tuple #[.int .i64 0, .bool false]) ∧ w' = w := by
  go_enter Try.func49, Try.ntmps49
  go_wp2_with fail
  go_ret2
  exact ⟨rfl, rfl⟩
theorem at_no (b n : Nat) (x y : Int) (hc : w.cell? ⟨b, 5, none⟩ = some (.int .i64 n)) (h : ¬ (0 ≤ x ∧ x < y ∧ y ≤ n)) : Calls Try.prog 49 #[.pointer (some ⟨b, 0, none⟩), .int .i64 x, .int .i64 y] w fun e w' => e = .returned (.tuple #[.int .i64 0, .bool false]) ∧ w' = w := by
  by_cases d1 : x < 0
  · have d1' : decide (x < 0) = true := by simp [d1]
    go_enter Try.func49, Try.ntmps49
    go_wp2_with fail
    go_ret2
    exact ⟨rfl, rfl⟩
  have d1' : decide (x < 0) = false := by simp; omega
  by_cases d2 : (n : Int) < y
  · have d2' : decide ((n : Int) < y) = true := by simp [d2]
    go_enter Try.func49, Try.ntmps49
    go_wp2_with fail
    go_ret2
    exact ⟨rfl, rfl⟩
  have d2' : decide ((n : Int) < y) = false := by simp; omega
  have d3 : y ≤ x := by omega
  have d3' : decide (y ≤ x) = true := by simp [d3]
  clear h
  go_enter Try.func49, Try.ntmps49
  go_wp2_with fail
  go_ret2
  exact ⟨rfl, rfl⟩
end

section
variable {w : World} {b bc n : Nat} {st cnt te : Int} {em : Bool} {gp : Option Addr} {lp cp : Nat} {ms : List Value} {T : Nat → Int → Int}
theorem has_yes (h : Chart w b bc n st cnt te em gp lp cp ms T) (hn : n ≤ 64) (i j : Nat) (a : Int) (h0 : -9223372036854775808 ≤ a) (h1 : a ≤ 9223372036854775807) (hij : i < j) (hj : j ≤ n) :
    Calls Try.prog 20 #[.pointer (some ⟨b, 0, none⟩), .int .i64 a, .int .i64 i, .int .i64 j] w fun e w' => e = .returned (.bool (decide (0 < T (Ck.ix n i j) a))) ∧ w' = w := by
  have hix := h.lt hij hj
  have hil : Ck.ix n i j < ms.length := by rw [h.l]; exact hix
  have hrun := (h.t _ _ (List.getElem?_eq_getElem hil)).get a h0 h1
  have c5 := h.k.cell 5
  have c6 := h.k.cell 6
  have cm := h.c.cell (Ck.ix n i j)
  rw [List.getElem?_eq_getElem hil] at cm
  unfold chartL at c5 c6
  simp only [List.getElem?_cons_zero, List.getElem?_cons_succ, Int.toNat_natCast] at c5 c6
  obtain ⟨x, hx⟩ : ∃ x, x = Ck.ix n i j := ⟨_, rfl⟩
  obtain ⟨v, hv⟩ : ∃ v, v = ms[Ck.ix n i j] := ⟨_, rfl⟩
  obtain ⟨t, ht⟩ : ∃ t, t = T (Ck.ix n i j) a := ⟨_, rfl⟩
  obtain ⟨nn, hnn⟩ : ∃ nn, nn = n * n := ⟨_, rfl⟩
  rw [← hv, ← ht] at hrun
  rw [← hv, ← hx] at cm
  rw [← hnn] at c6
  rw [← hx, ← hnn] at hix
  have hx0 : (0 : Int) ≤ (x : Int) := by omega
  have hxn : (x : Int) < (nn : Int) := by omega
  rw [← ht]
  have Hx := hid hx
  clear hx hv ht hnn hil h0 h1 hix
  go_enter Try.func20, Try.ntmps20
  go_wp2_with (go_at_call 49; refine (at_yes _ b n i j c5 hij hj hn).mono ?_; rintro e w1 ⟨rfl, rfl⟩; rw [← Hx.out])
  go_ret
  exact ⟨rfl, rfl⟩
theorem has_no (h : Chart w b bc n st cnt te em gp lp cp ms T) (x y a : Int) (hxy : ¬ (0 ≤ x ∧ x < y ∧ y ≤ n)) :
    Calls Try.prog 20 #[.pointer (some ⟨b, 0, none⟩), .int .i64 a, .int .i64 x, .int .i64 y] w fun e w' => e = .returned (.bool false) ∧ w' = w := by
  have c5 := h.k.cell 5
  unfold chartL at c5
  simp only [List.getElem?_cons_zero, List.getElem?_cons_succ] at c5
  have Hxy := hid hxy
  clear hxy
  go_enter Try.func20, Try.ntmps20
  go_wp2_with (go_at_call 49; refine (at_no _ b n x y c5 Hxy.out).mono ?_; rintro e w1 ⟨rfl, rfl⟩)
  go_ret
  exact ⟨rfl, rfl⟩
/-- The number of trees that is told. -/
def treesT (n : Nat) (st : Int) (em : Bool) (T : Nat → Int → Int) : Int := if 0 < n then T (Ck.ix n 0 n) st else if em then 1 else 0
theorem trees_calls (h : Chart w b bc n st cnt te em gp lp cp ms T) (hn : n ≤ 64) (h0 : -9223372036854775808 ≤ st) (h1 : st ≤ 9223372036854775807) :
    Calls Try.prog 18 #[.pointer (some ⟨b, 0, none⟩)] w fun e w' => e = .returned (.int .i64 (treesT n st em T)) ∧ Below w.heap.size w w' := by
  have c5 := h.k.cell 5
  have c6 := h.k.cell 6
  have c3 := h.k.cell 3
  have c0 := h.k.cell 0
  unfold chartL at c5 c6 c3 c0
  simp only [List.getElem?_cons_zero, List.getElem?_cons_succ, Int.toNat_natCast] at c5 c6 c3 c0
  unfold treesT
  by_cases hz : 0 < n
  · rw [if_pos hz]
    have hix := h.lt hz (Nat.le_refl n)
    have hil : Ck.ix n 0 n < ms.length := by rw [h.l]; exact hix
    have hcell := h.t _ _ (List.getElem?_eq_getElem hil)
    have hrun : ∀ k, (Instr.lookup 91 ms[Ck.ix n 0 n] (.int .i64 st) false).run Try.prog (w.drewN k) = .ok (.int .i64 (T (Ck.ix n 0 n) st)) (w.drewN k) := fun k => CellT.get (w := w.drewN k) hcell st h0 h1
    have cm := h.c.cell (Ck.ix n 0 n)
    rw [List.getElem?_eq_getElem hil] at cm
    obtain ⟨x, hx⟩ : ∃ x, x = Ck.ix n 0 n := ⟨_, rfl⟩
    obtain ⟨v, hv⟩ : ∃ v, v = ms[Ck.ix n 0 n] := ⟨_, rfl⟩
    obtain ⟨t, ht⟩ : ∃ t, t = T (Ck.ix n 0 n) st := ⟨_, rfl⟩
    obtain ⟨nn, hnn⟩ : ∃ nn, nn = n * n := ⟨_, rfl⟩
    rw [← hv, ← ht] at hrun
    rw [← hv, ← hx] at cm
    rw [← hnn] at c6
    rw [← hx, ← hnn] at hix
    have hx0 : (0 : Int) ≤ (x : Int) := by omega
    have hxn : (x : Int) < (nn : Int) := by omega
    rw [← ht]
    have Hx := hid hx
    clear hx hv ht hnn hil h0 h1 hix hcell
    go_enter Try.func18, Try.ntmps18
    go_upto_region 5 with (go_at_call 49; refine (at_yes _ b n 0 n c5 hz (Nat.le_refl n) hn).mono ?_; rintro e w1 ⟨rfl, rfl⟩; rw [← Hx.out])
    go_quiet (fail)
    go_wp2_with fail
    go_ret
    exact ⟨rfl, below_drewN (Below.refl _ _) _⟩
  · rw [if_neg hz]
    have hn0 : n = 0 := by omega
    subst hn0
    clear h0 h1
    cases em with
    | true =>
      go_enter Try.func18, Try.ntmps18
      go_wp2_with (go_at_call 49; refine (at_no _ b 0 0 0 c5 (by omega)).mono ?_; rintro e w1 ⟨rfl, rfl⟩)
      go_ret
      exact ⟨rfl, Below.refl _ _⟩
    | false =>
      go_enter Try.func18, Try.ntmps18
      go_wp2_with (go_at_call 49; refine (at_no _ b 0 0 0 c5 (by omega)).mono ?_; rintro e w1 ⟨rfl, rfl⟩)
      go_ret
      exact ⟨rfl, Below.refl _ _⟩
end
end Go.Proofs.Ytbpgolmbielpgaa
