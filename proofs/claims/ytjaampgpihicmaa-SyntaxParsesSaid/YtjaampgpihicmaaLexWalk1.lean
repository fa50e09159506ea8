/- Chapter 4 (lex): what the small functions compute: letters, places, the scanner's steps. -/
import Derived.Test.YtjaampgpihicmaaBase
import Derived.Test.YtjaampgpihicmaaLexSpec
import Derived.RegionTactic
import Derived.BigRegion
import Derived.ChangeAlike
import Derived.Deep.QuietTactic
import Derived.BigQuiet
import Derived.Deep.RegionHeld3
import Derived.Deep.DrawnRows
import Derived.Lib.Bytealg
namespace Go.Proofs.Ytjaampgpihicmaa
open Go.RowKit
attribute [local go_sem ↓] Go.wp_at_zero Go.wp_at_succ

set_option maxHeartbeats 400000 in
theorem letter_calls (c : Int) (w : World) :
    Calls Try.prog 70 #[.int .u8 c] w fun e w' => e = .returned (.bool (Lex.letterZ c)) ∧ w = w' := by
  go_enter Try.func70, Try.ntmps70
  go_wp2
  all_goals go_ret
  all_goals refine ⟨?_, rfl⟩
  all_goals (refine congrArg (fun b => Ending.returned (.bool b)) ?_; rw [Bool.eq_iff_iff]; simp [Lex.letterZ, *]; try omega)

set_option maxHeartbeats 400000 in
theorem rletter_calls (c : Int) (w : World) :
    Calls Try.prog 100 #[.int .u8 c] w fun e w' => e = .returned (.bool (Lex.letterZ c)) ∧ w = w' := by
  go_enter Try.func100, Try.ntmps100
  go_wp2
  all_goals go_ret
  all_goals refine ⟨?_, rfl⟩
  all_goals (refine congrArg (fun b => Ending.returned (.bool b)) ?_; rw [Bool.eq_iff_iff]; simp [Lex.letterZ, *]; try omega)

set_option maxHeartbeats 400000 in
theorem inName_calls (c : Int) (w : World) :
    Calls Try.prog 71 #[.int .u8 c] w fun e w' => e = .returned (.bool (Lex.restZ c)) ∧ w = w' := by
  go_enter Try.func71, Try.ntmps71
  go_wp2_with (go_at_call 70; refine (letter_calls _ _).mono ?_; rintro e w' ⟨rfl, rfl⟩)
  all_goals go_ret
  all_goals refine ⟨?_, rfl⟩
  all_goals (refine congrArg (fun b => Ending.returned (.bool b)) ?_; rw [Bool.eq_iff_iff]; simp [Lex.restZ, *]; try omega)

set_option maxHeartbeats 400000 in
theorem rest_calls (c : Int) (w : World) :
    Calls Try.prog 101 #[.int .u8 c] w fun e w' => e = .returned (.bool (Lex.restZ c)) ∧ w = w' := by
  go_enter Try.func101, Try.ntmps101
  go_wp2_with (go_at_call 100; refine (rletter_calls _ _).mono ?_; rintro e w' ⟨rfl, rfl⟩)
  all_goals go_ret
  all_goals refine ⟨?_, rfl⟩
  all_goals (refine congrArg (fun b => Ending.returned (.bool b)) ?_; rw [Bool.eq_iff_iff]; simp [Lex.restZ, *]; try omega)

set_option maxHeartbeats 400000 in
theorem hex_calls (c : Int) (w : World) (h0 : 0 ≤ c) (h1 : c ≤ 255) :
    Calls Try.prog 129 #[.int .u8 c] w fun e w' => e = .returned (.int .i64 (Lex.hexZ c)) ∧ w = w' := by
  go_enter Try.func129, Try.ntmps129
  go_wp2
  all_goals go_ret
  all_goals refine ⟨?_, rfl⟩
  all_goals (refine congrArg (fun b => Ending.returned (.int .i64 b)) ?_; unfold Lex.hexZ; repeat' split)
  all_goals omega

set_option maxHeartbeats 400000 in
set_option maxRecDepth 8000 in
theorem indexByte_calls (s : ByteArray) (c : Int) (w : World) :
    Calls Try.prog 111 #[.string s, .int .u8 c] w fun e w' => e = .returned (.int .i64 (Lib.indexByte s.data.toList c.toNat.toUInt8)) ∧ w = w' := by
  go_enter Try.func111, Try.ntmps111
  go_wp2
  rw [run_callFunc_extern Try.func143 (by kernel_rfl) (by kernel_rfl) (by kernel_rfl) (e := Extern.BytealgIndexByte.indexByte) (by kernel_rfl), Lib.run_indexByteString]
  simp only [Result.andThen]
  rw [Oper.upon_value]
  go_wp2
  go_ret
  exact ⟨rfl, rfl⟩

/-- The scanner behind a pointer, its block known whole. -/
def Sc (w : World) (b : Nat) (s : ByteArray) (p li co : Nat) (tv : Value) (f0 f1 f2 : Int) : Prop :=
  Bk w b 122 [.string s, .int .i64 p, .int .i64 li, .int .i64 co, tv, .int .i64 f0, .int .i64 f1, .int .i64 f2]

theorem Sc.cells {w : World} {b : Nat} {s : ByteArray} {p li co : Nat} {tv : Value} {f0 f1 f2 : Int} (h : Sc w b s p li co tv f0 f1 f2) :
    w.cell? ⟨b, 0, none⟩ = some (.string s) ∧ w.cell? ⟨b, 1, none⟩ = some (.int .i64 p) ∧ w.cell? ⟨b, 2, none⟩ = some (.int .i64 li) ∧ w.cell? ⟨b, 3, none⟩ = some (.int .i64 co) ∧
    w.cell? ⟨b, 4, none⟩ = some tv ∧ w.cell? ⟨b, 5, none⟩ = some (.int .i64 f0) ∧ w.cell? ⟨b, 6, none⟩ = some (.int .i64 f1) ∧ w.cell? ⟨b, 7, none⟩ = some (.int .i64 f2) :=
  ⟨Bk.cell h 0, Bk.cell h 1, Bk.cell h 2, Bk.cell h 3, Bk.cell h 4, Bk.cell h 5, Bk.cell h 6, Bk.cell h 7⟩

set_option maxHeartbeats 400000 in
theorem more_calls (b : Nat) (w : World) (s : ByteArray) (p li co : Nat) (tv : Value) (f0 f1 f2 : Int) (h : Sc w b s p li co tv f0 f1 f2) :
    Calls Try.prog 65 #[.pointer (some ⟨b, 0, none⟩)] w fun e w' => e = .returned (.bool (decide (p < s.size))) ∧ ∃ n, w' = w.drewN n := by
  obtain ⟨h0, h1, h2, h3, h4, h5, h6, h7⟩ := h.cells
  go_enter Try.func65, Try.ntmps65
  go_wp2
  go_quiet (fail)
  go_wp2
  go_ret
  exact ⟨by simp, _, rfl⟩

set_option maxHeartbeats 400000 in
theorem here_exact (b : Nat) (w : World) (k : Int) (li co : Nat) (h2 : w.cell? ⟨b, 2, none⟩ = some (.int .i64 li)) (h3 : w.cell? ⟨b, 3, none⟩ = some (.int .i64 co)) :
    Calls Try.prog 67 #[.pointer (some ⟨b, 0, none⟩), .int .i64 k] w fun e w' =>
      e = .returned (.agg #[.int .i64 k, .string ⟨#[]⟩, .int .i64 li, .int .i64 co]) ∧ (w.alloc (.cells #[.int .i64 k, .string ⟨#[]⟩, .int .i64 li, .int .i64 co] 46)).drew = w' := by
  have lb : b < w.heap.size := World.block_lt_of_cell? w _ h2
  have hne := World.new_ne w _ h2
  have hne := World.new_ne w _ h3
  go_enter Try.func67, Try.ntmps67
  go_wp2
  go_region
  go_wp2
  exact bodyPost_ret (v := .agg #[.int .i64 k, .string ⟨#[]⟩, .int .i64 li, .int .i64 co]) (by simp [results, Try.results67, go_sem]) rfl ⟨rfl, rfl⟩

theorem here_calls (b : Nat) (w : World) (k : Int) (s : ByteArray) (p li co : Nat) (tv : Value) (f0 f1 f2 : Int) (h : Sc w b s p li co tv f0 f1 f2) :
    Calls Try.prog 67 #[.pointer (some ⟨b, 0, none⟩), .int .i64 k] w fun e w' =>
      e = .returned (.agg #[.int .i64 k, .string ⟨#[]⟩, .int .i64 li, .int .i64 co]) ∧ (w.alloc (.cells #[.int .i64 k, .string ⟨#[]⟩, .int .i64 li, .int .i64 co] 46)).drew = w' :=
  here_exact b w k li co h.cells.2.2.1 h.cells.2.2.2.1

end Go.Proofs.Ytjaampgpihicmaa
