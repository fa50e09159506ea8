/- Chapter 4 (lex): LexLong: a text of MaxText blanks is scanned, a longer one is rejected. -/
import Derived.Test.YtjhhibnjegnpmaaLexLaw0
import Derived.OwnWalk
namespace Go.Proofs.Ytjhhibnjegnpmaa
open Go.RowKit
attribute [local go_sem ↓] Go.wp_at_zero Go.wp_at_succ
attribute [local go_sem] frozen_alloc_lt

theorem and15 (n : Int) : ∃ m : Nat, m ≤ 15 ∧ bits .and .i64 n 15 = (m : Int) := by
  have h : (BitVec.ofInt 64 n &&& BitVec.ofInt 64 15).toNat ≤ 15 := by
    rw [BitVec.toNat_and]
    exact Nat.and_le_right
  refine ⟨(BitVec.ofInt 64 n &&& BitVec.ofInt 64 15).toNat, h, ?_⟩
  show IntKind.i64.wrap ((BitVec.ofInt 64 n &&& BitVec.ofInt 64 15).toNat : Int) = _
  rw [IntKind.wrap_i64]
  omega

theorem skip_blanks : ∀ (N li co : Nat), Lex.skipS false (List.replicate N 32) li co = ([], li, co + N)
  | 0, _, _ => rfl
  | N + 1, li, co => by
    rw [List.replicate_succ]
    rw [skip_blank _ _ (by decide), skip_blanks N]
    simp [Lex.advL, Lex.advC]
    omega

theorem scan_blanks (N : Nat) : Lex.scan (List.replicate N 32) = if 65536 < N then .bad ⟨0, 0, 6⟩ else .good [⟨4, [], 1, 1 + N⟩] := by
  unfold Lex.scan
  rw [List.length_replicate]
  split
  · rfl
  · rw [Lex.scanS_eq, skip_blanks]
    rfl

/-- Blanks written up to place j. -/
def blanks (N j : Nat) : List Value := List.replicate j (.int .u8 32) ++ List.replicate (N - j) (.int .u8 0)
theorem blanks_set (N j : Nat) (h : j < N) : (blanks N j).set j (.int .u8 32) = blanks N (j + 1) := by
  unfold blanks
  rw [List.set_append_right _ _ (by simp), List.length_replicate, Nat.sub_self, show N - j = (N - (j + 1)) + 1 by omega, List.replicate_succ, List.set_cons_zero, List.replicate_succ' (n := j)]
  simp
theorem blanks_get (N j : Nat) (h : j < N) : (blanks N j)[j]? = some (.int .u8 0) := by
  unfold blanks
  rw [List.getElem?_append_right (by simp), List.length_replicate, Nat.sub_self, show N - j = (N - (j + 1)) + 1 by omega, List.replicate_succ]
  rfl

theorem bk_of_full {w : World} {base e n g : Nat} {xs : List Value} (h : w.ownsRow base e 1 (.slice (some ⟨g, 0, none⟩) n n) n xs) : Bk w g e xs := by
  rcases h.2 with ⟨h0, _⟩ | ⟨g', cap, cur, hv, _, hh, _, _, hsz, htk⟩
  · cases h0
  · injection hv with ha _ hc
    injection ha with ha
    injection ha with hg
    subst hg
    subst hc
    have : cur.toList = xs := by
      rw [← htk, List.take_of_length_le]
      simp; omega
    unfold Bk
    rw [hh, ← this]

set_option maxHeartbeats 4000000 in
theorem long_calls (n : Int) (w : World) : Calls Try.prog 5 #[.int .i64 n] w fun e w' => e = .returned (.bool true) ∧ Below w.heap.size w w' := by
  obtain ⟨m, hm, hand⟩ := and15 n
  have hm0 : (0 : Int) ≤ (m : Int) := by omega
  have hm1 : (m : Int) ≤ 15 := by omega
  obtain ⟨i8, hi8, hz0, hz1, hz2⟩ := info_parts u8Info
  go_enter Try.func5, Try.ntmps5
  go_wp2_with (first | (go_at_call 9; refine (speaks_calls _).mono ?_; rintro e w1 ⟨rfl, hb1⟩) | (at_make; refine wpList_make_full _ rfl _ _ 33 rfl w.heap.size 5 i8 _ 1 Try.underlying33 hi8 hz0 hz1 _ _ _ _ (65530 + m) rfl rfl (by omega) (by omega) (by rw [hz2]; omega) (by unfold maxLen; omega) hb1.size ?_; intro w2 hown2 hgrow2))
  have hbk : Bk w2 w1.heap.size 5 (blanks (65530 + m) 0) := by
    have h := bk_of_full hown2
    have e : (madeCells (Value.int .u8 0).cells ((65530 + m) * 1)).toList = blanks (65530 + m) 0 := by
      simp [madeCells, blanks, Value.cells, Nat.mod_one, List.map_const']
    rwa [e] at h
  have hb2 : Below w.heap.size w w2 := hb1.trans (below_of_gb' hgrow2 hb1.size (fun k hk => by cases hk))
  have hz9 : w.heap.size ≤ w1.heap.size := hb1.size
  obtain ⟨g, hg⟩ : ∃ g, g = w1.heap.size := ⟨_, rfl⟩
  rw [← hg] at hbk hz9 ⊢
  clear hg hown2 hgrow2 hand
  go_wp2_with fail
  go_loopg [4] (65530 + m) (fun k i wr => ∃ j : Nat, i = .int .i64 j ∧ j ≤ 65530 + m ∧ k = 65530 + m - j ∧ Bk wr g 5 (blanks (65530 + m) j) ∧ Below w.heap.size w wr)
  case atStart => exact ⟨0, rfl, by omega, rfl, hbk, hb2⟩
  case round =>
    clear hbk hb2
    obtain ⟨j, rfl, hj, hk, hbk, hb2⟩ := hrel
    have Hk := hid hk
    clear hk
    by_cases hlt : j < 65530 + m
    · have hlt' : (j : Int) < 65530 + (m : Int) := by omega
      have c0 : wr.cell? ⟨g, j, none⟩ = some (.int .u8 0) := (hbk.cell j).trans (blanks_get _ j hlt)
      have f0 := hbk.free j
      go_wp2
      go_roundg (65530 + m - (j + 1))
      case measure => have hk := Hk.out; omega
      case rel => exact ⟨j + 1, by go_num, by omega, rfl, (hbk.set j _).of (blanks_set _ j hlt), hb2.setCell (p := ⟨g, j, none⟩) hz9 _⟩
    · have hj' : j = 65530 + m := by omega
      have hlt' : ¬ (j : Int) < 65530 + (m : Int) := by omega
      have hcv : (convert 33 9 (.slice (some ⟨g, 0, none⟩) (65530 + m) (65530 + m))).run Try.prog wr = .ok (.string ⟨(List.replicate (65530 + m) 32).toArray⟩) wr := by
        have h := run_convert_bytes_back (P := Try.prog) wr 33 9 _ ⟨g, 0, none⟩ (65530 + m) (List.replicate (65530 + m) 32) Try.underlying33 Try.underlying5 Try.underlying9 (fun i hi => by
          rw [List.length_replicate] at hi
          rw [add_zero_off, hbk.cell, hj', blanks, Nat.sub_self]
          simp [hi])
        rwa [List.length_replicate] at h
      have Hj := hid hj'
      clear hj'
      by_cases hm6 : m ≤ 6
      · have hsc : Lex.scan (⟨(List.replicate (65530 + m) 32).toArray⟩ : ByteArray).data.toList = .good [⟨4, [], 1, 1 + (65530 + m)⟩] := by
          show Lex.scan (List.replicate (65530 + m) 32) = _
          rw [scan_blanks, if_neg (by omega)]
        have Hsc := hid hsc
        clear hsc
        have hm7 : (m : Int) ≤ 6 := by omega
        go_wp2_with (go_at_call 11; refine (scan_at Hsc.out (scan_calls _ _ (by simp [ByteArray.size]; omega))).mono ?_; rintro e w3 ⟨v, rfl, hown, hb3⟩; obtain ⟨g3, cap3, rfl, -, hg3⟩ := hown.form (by simp); have c0 := own_cells hown 0 _ rfl; have c3 := own_cells hown 3 _ rfl; have hne := World.new_ne w3 _ c0)
        go_ret
        refine ⟨congrArg (fun b => Ending.returned (.bool b)) ?_, (hb2.trans (hb3.mono hb2.size)).alloc (Nat.le_trans hb2.size hb3.size) _⟩
        show (1 + (65530 + (m : Int)) == 65530 + (m : Int) + 1) = true
        rw [beq_iff_eq]
        omega
      · have hsc : Lex.scan (⟨(List.replicate (65530 + m) 32).toArray⟩ : ByteArray).data.toList = .bad ⟨0, 0, 6⟩ := by
          show Lex.scan (List.replicate (65530 + m) 32) = _
          rw [scan_blanks, if_pos (by omega)]
        have Hsc := hid hsc
        clear hsc
        have hm7 : (7 : Int) ≤ (m : Int) := by omega
        go_wp2_with (go_at_call 11; refine (scan_at Hsc.out (scan_calls _ _ (by simp [ByteArray.size]; omega))).mono ?_; rintro e w3 ⟨rfl, hb3⟩)
        go_ret
        exact ⟨rfl, (hb2.trans (hb3.mono hb2.size)).alloc (Nat.le_trans hb2.size hb3.size) _⟩
end Go.Proofs.Ytjhhibnjegnpmaa
