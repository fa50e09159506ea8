/- Chapter 4 (lex), the document's answer: places, faults. -/
import Derived.Test.YtjaampgpihicmaaLexWalk9
namespace Go.Proofs.Ytjaampgpihicmaa
open Go.RowKit
attribute [local go_sem ↓] Go.wp_at_zero Go.wp_at_succ
attribute [local go_sem] frozen_alloc_lt

namespace Lex
/-- Line and column behind a text. -/
def plL : List UInt8 → Nat → Nat → Nat × Nat
  | [], li, co => (li, co)
  | c :: r, li, co => plL r (advL c li) (advC c co)
theorem plL_snoc (c : UInt8) : ∀ (l : List UInt8) (li co : Nat), plL (l ++ [c]) li co = (advL c (plL l li co).1, advC c (plL l li co).2)
  | [], _, _ => rfl
  | d :: l, li, co => by simp only [List.cons_append, plL]; exact plL_snoc c l _ _
theorem plL_le : ∀ (l : List UInt8) (li co n : Nat), li ≤ n + 1 → co ≤ n + 1 → (plL l li co).1 ≤ n + l.length + 1 ∧ (plL l li co).2 ≤ n + l.length + 1
  | [], li, co, n, h1, h2 => by simp [plL]; omega
  | c :: l, li, co, n, h1, h2 => by
    have := plL_le l (advL c li) (advC c co) (n + 1) (by unfold advL; split <;> omega) (by unfold advC; split <;> omega)
    simp only [plL, List.length_cons]
    omega
end Lex

/-- The place of a byte of a text. -/
def place (s : ByteArray) (p : Nat) : Nat × Nat := Lex.plL (s.data.toList.take p) 1 1
theorem take_next (s : ByteArray) (p : Nat) (h : p < s.size) : s.data.toList.take (p + 1) = s.data.toList.take p ++ [s[p]] := by
  rw [List.take_succ_eq_append_getElem (by simpa using h)]; rfl
theorem place_next (s : ByteArray) (p : Nat) (h : p < s.size) : place s (p + 1) = (Lex.advL s[p] (place s p).1, Lex.advC s[p] (place s p).2) := by
  unfold place; rw [take_next s p h, Lex.plL_snoc]
theorem place_zero (s : ByteArray) : place s 0 = (1, 1) := rfl
theorem place_le (s : ByteArray) (p : Nat) : (place s p).1 ≤ p + 1 ∧ (place s p).2 ≤ p + 1 := by
  have h := Lex.plL_le (s.data.toList.take p) 1 1 0 (by omega) (by omega)
  have : (s.data.toList.take p).length ≤ p := List.length_take_le _ _
  unfold place
  omega

set_option maxRecDepth 8000 in
set_option maxHeartbeats 2000000 in
theorem place_calls (s : ByteArray) (p : Nat) (w : World) (hs : s.size ≤ 1000000) (hp : p ≤ s.size) :
    Calls Try.prog 99 #[.string s, .int .i64 p] w fun e w' => e = .returned (.tuple #[.int .i64 (place s p).1, .int .i64 (place s p).2]) ∧ w = w' := by
  have hp' : (p : Int) ≤ (s.size : Int) := by omega
  go_enter Try.func99, Try.ntmps99
  go_wp2_with fail
  go_loopg [6, 7, 8] p (fun k l c i wr => ∃ j : Nat, i = .int .i64 j ∧ j ≤ p ∧ k = p - j ∧ l = .int .i64 (place s j).1 ∧ c = .int .i64 (place s j).2 ∧ wr = w)
  case atStart => exact ⟨0, rfl, by omega, rfl, rfl, rfl, rfl⟩
  case round =>
    obtain ⟨j, rfl, hj, hk, rfl, rfl, rfl⟩ := hrel
    have Hk := hid hk
    clear hk
    obtain ⟨li, hli⟩ : ∃ li, li = (place s j).1 := ⟨_, rfl⟩
    obtain ⟨co, hco⟩ : ∃ co, co = (place s j).2 := ⟨_, rfl⟩
    have hb := place_le s j
    rw [← hli, ← hco] at hb ⊢
    have Hli := hid hli
    have Hco := hid hco
    clear hli hco
    obtain ⟨hb1, hb2⟩ := hb
    by_cases hlt : j < p
    · have hlt' : (j : Int) < (p : Int) := by omega
      have hls : j < s.size := by omega
      have hls' : (j : Int) < (s.size : Int) := by omega
      by_cases c10 : s[j] = 10
      · have hb : ((s[j].toNat : Int) == 10) = true := tob s[j] 10 (by omega) c10
        have Hc := hid c10
        clear c10
        go_wp2_with fail
        go_roundg (p - (j + 1))
        case measure => have hk := Hk.out; omega
        case rel =>
          refine ⟨j + 1, by go_num, by omega, rfl, ?_, ?_, rfl⟩
          · rw [place_next s j hls, ← Hli.out]; simp [Lex.advL, Hc.out]
          · rw [place_next s j hls]; simp [Lex.advC, Hc.out]
      · have hb : ((s[j].toNat : Int) == 10) = false := tobf s[j] 10 (by omega) c10
        have Hc := hid c10
        clear c10
        go_wp2_with fail
        go_roundg (p - (j + 1))
        case measure => have hk := Hk.out; omega
        case rel =>
          refine ⟨j + 1, by go_num, by omega, rfl, ?_, ?_, rfl⟩
          · rw [place_next s j hls, ← Hli.out]; simp [Lex.advL, Hc.out]
          · rw [place_next s j hls, ← Hco.out]; simp [Lex.advC, Hc.out]
    · have hge : ¬ (j : Int) < (p : Int) := by omega
      have hjp : Hid (j = p) := show j = p by omega
      go_wp2_with fail
      go_ret2
      rw [← hjp.out, ← Hli.out, ← Hco.out]
      exact ⟨rfl, rfl⟩

set_option maxRecDepth 8000 in
set_option maxHeartbeats 2000000 in
theorem rfault_calls (s : ByteArray) (p : Nat) (k : Int) (w : World) (hs : s.size ≤ 1000000) (hp : p ≤ s.size) :
    Calls Try.prog 103 #[.string s, .int .i64 p, .int .i64 k] w fun e w' => e = .returned (.agg #[.int .i64 (place s p).1, .int .i64 (place s p).2, .int .i64 k]) ∧ Below w.heap.size w w' := by
  go_enter Try.func103, Try.ntmps103
  go_wp2_with (go_at_call 99; refine (place_calls s p _ hs hp).mono ?_; rintro e w' ⟨rfl, rfl⟩)
  exact bodyPost_ret (v := .agg #[.int .i64 (place s p).1, .int .i64 (place s p).2, .int .i64 k]) (by simp [results, Try.results103, go_sem]) rfl ⟨rfl, (Below.refl _ _).alloc (Nat.le_refl _) _⟩
end Go.Proofs.Ytjaampgpihicmaa
