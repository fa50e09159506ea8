/- Chapter 4 (lex): what the small functions compute: letters, places, the scanner's steps. -/
import Derived.Test.YtjaampgpihicmaaLexQ0
import Derived.Test.YtjaampgpihicmaaBase
import Derived.RegionTactic
import Derived.BigRegion
import Derived.ChangeAlike
import Derived.Deep.QuietTactic
import Derived.BigQuiet
import Derived.Deep.RegionHeld3
import Derived.Deep.DrawnRows
import Derived.Lib.Bytealg
import Derived.Deep.LoopGhost
import Derived.Deep.DeepCutAuto
import Derived.Deep.CutBlock
import Derived.Lib.Strings
import Derived.Deep.RegionLaw
namespace Go.Proofs.Ytjaampgpihicmaa
open Go.RowKit
attribute [local go_sem ↓] Go.wp_at_zero Go.wp_at_succ

set_option maxHeartbeats 400000 in
theorem letter_calls (c : Int) (w : World) :
    Calls Try.prog 70 #[.int .u8 c] w fun e w' => e = .returned (.bool (Lex.letterZ c)) ∧ w = w' := by
  go_enter Try.func70, Try.ntmps70
  go_wp2
  all_goals go_ret
  all_goals refine ⟨?_, rfl⟩
  all_goals (refine congrArg (fun b => Ending.returned (.bool b)) ?_; rw [Bool.eq_iff_iff]; simp [Lex.letterZ, *]; try omega)

set_option maxHeartbeats 400000 in
theorem rletter_calls (c : Int) (w : World) :
    Calls Try.prog 100 #[.int .u8 c] w fun e w' => e = .returned (.bool (Lex.letterZ c)) ∧ w = w' := by
  go_enter Try.func100, Try.ntmps100
  go_wp2
  all_goals go_ret
  all_goals refine ⟨?_, rfl⟩
  all_goals (refine congrArg (fun b => Ending.returned (.bool b)) ?_; rw [Bool.eq_iff_iff]; simp [Lex.letterZ, *]; try omega)

set_option maxHeartbeats 400000 in
theorem inName_calls (c : Int) (w : World) :
    Calls Try.prog 71 #[.int .u8 c] w fun e w' => e = .returned (.bool (Lex.restZ c)) ∧ w = w' := by
  go_enter Try.func71, Try.ntmps71
  go_wp2_with (go_at_call 70; refine (letter_calls _ _).mono ?_; rintro e w' ⟨rfl, rfl⟩)
  all_goals go_ret
  all_goals refine ⟨?_, rfl⟩
  all_goals (refine congrArg (fun b => Ending.returned (.bool b)) ?_; rw [Bool.eq_iff_iff]; simp [Lex.restZ, *]; try omega)

set_option maxHeartbeats 400000 in
theorem rest_calls (c : Int) (w : World) :
    Calls Try.prog 101 #[.int .u8 c] w fun e w' => e = .returned (.bool (Lex.restZ c)) ∧ w = w' := by
  go_enter Try.func101, Try.ntmps101
  go_wp2_with (go_at_call 100; refine (rletter_calls _ _).mono ?_; rintro e w' ⟨rfl, rfl⟩)
  all_goals go_ret
  all_goals refine ⟨?_, rfl⟩
  all_goals (refine congrArg (fun b => Ending.returned (.bool b)) ?_; rw [Bool.eq_iff_iff]; simp [Lex.restZ, *]; try omega)

set_option maxHeartbeats 400000 in
theorem hex_calls (c : Int) (w : World) (h0 : 0 ≤ c) (h1 : c ≤ 255) :
    Calls Try.prog 129 #[.int .u8 c] w fun e w' => e = .returned (.int .i64 (Lex.hexZ c)) ∧ w = w' := by
  go_enter Try.func129, Try.ntmps129
  go_wp2
  all_goals go_ret
  all_goals refine ⟨?_, rfl⟩
  all_goals (refine congrArg (fun b => Ending.returned (.int .i64 b)) ?_; unfold Lex.hexZ; repeat' split)
  all_goals omega

set_option maxHeartbeats 400000 in
set_option maxRecDepth 8000 in
theorem indexByte_calls (s : ByteArray) (c : Int) (w : World) :
    Calls Try.prog 111 #[.string s, .int .u8 c] w fun e w' => e = .returned (.int .i64 (Lib.indexByte s.data.toList c.toNat.toUInt8)) ∧ w = w' := by
  go_enter Try.func111, Try.ntmps111
  go_wp2
  rw [run_callFunc_extern Try.func143 (by kernel_rfl) (by kernel_rfl) (by kernel_rfl) (e := Extern.BytealgIndexByte.indexByte) (by kernel_rfl), Lib.run_indexByteString]
  simp only [Result.andThen]
  rw [Oper.upon_value]
  go_wp2
  go_ret
  exact ⟨rfl, rfl⟩

/-- The scanner behind a pointer, its block known whole. -/
def Sc (w : World) (b : Nat) (s : ByteArray) (p li co : Nat) (tv : Value) (f0 f1 f2 : Int) : Prop :=
  Bk w b 122 [.string s, .int .i64 p, .int .i64 li, .int .i64 co, tv, .int .i64 f0, .int .i64 f1, .int .i64 f2]

theorem Sc.cells {w : World} {b : Nat} {s : ByteArray} {p li co : Nat} {tv : Value} {f0 f1 f2 : Int} (h : Sc w b s p li co tv f0 f1 f2) :
    w.cell? ⟨b, 0, none⟩ = some (.string s) ∧ w.cell? ⟨b, 1, none⟩ = some (.int .i64 p) ∧ w.cell? ⟨b, 2, none⟩ = some (.int .i64 li) ∧ w.cell? ⟨b, 3, none⟩ = some (.int .i64 co) ∧
    w.cell? ⟨b, 4, none⟩ = some tv ∧ w.cell? ⟨b, 5, none⟩ = some (.int .i64 f0) ∧ w.cell? ⟨b, 6, none⟩ = some (.int .i64 f1) ∧ w.cell? ⟨b, 7, none⟩ = some (.int .i64 f2) :=
  ⟨Bk.cell h 0, Bk.cell h 1, Bk.cell h 2, Bk.cell h 3, Bk.cell h 4, Bk.cell h 5, Bk.cell h 6, Bk.cell h 7⟩

set_option maxHeartbeats 400000 in
theorem more_calls (b : Nat) (w : World) (s : ByteArray) (p li co : Nat) (tv : Value) (f0 f1 f2 : Int) (h : Sc w b s p li co tv f0 f1 f2) :
    Calls Try.prog 65 #[.pointer (some ⟨b, 0, none⟩)] w fun e w' => e = .returned (.bool (decide (p < s.size))) ∧ ∃ n, w' = w.drewN n := by
  obtain ⟨h0, h1, h2, h3, h4, h5, h6, h7⟩ := h.cells
  go_enter Try.func65, Try.ntmps65
  go_wp2
  go_quiet (fail)
  go_wp2
  go_ret
  exact ⟨by simp, _, rfl⟩

set_option maxHeartbeats 400000 in
theorem here_exact (b : Nat) (w : World) (k : Int) (li co : Nat) (h2 : w.cell? ⟨b, 2, none⟩ = some (.int .i64 li)) (h3 : w.cell? ⟨b, 3, none⟩ = some (.int .i64 co)) :
    Calls Try.prog 67 #[.pointer (some ⟨b, 0, none⟩), .int .i64 k] w fun e w' =>
      e = .returned (.agg #[.int .i64 k, .string ⟨#[]⟩, .int .i64 li, .int .i64 co]) ∧ (w.alloc (.cells #[.int .i64 k, .string ⟨#[]⟩, .int .i64 li, .int .i64 co] 46)).drew = w' := by
  have lb : b < w.heap.size := World.block_lt_of_cell? w _ h2
  have hne := World.new_ne w _ h2
  have hne := World.new_ne w _ h3
  go_enter Try.func67, Try.ntmps67
  go_wp2
  go_region
  go_wp2
  exact bodyPost_ret (v := .agg #[.int .i64 k, .string ⟨#[]⟩, .int .i64 li, .int .i64 co]) (by simp [results, Try.results67, go_sem]) rfl ⟨rfl, rfl⟩

theorem here_calls (b : Nat) (w : World) (k : Int) (s : ByteArray) (p li co : Nat) (tv : Value) (f0 f1 f2 : Int) (h : Sc w b s p li co tv f0 f1 f2) :
    Calls Try.prog 67 #[.pointer (some ⟨b, 0, none⟩), .int .i64 k] w fun e w' =>
      e = .returned (.agg #[.int .i64 k, .string ⟨#[]⟩, .int .i64 li, .int .i64 co]) ∧ (w.alloc (.cells #[.int .i64 k, .string ⟨#[]⟩, .int .i64 li, .int .i64 co] 46)).drew = w' :=
  here_exact b w k li co h.cells.2.2.1 h.cells.2.2.2.1

end Go.Proofs.Ytjaampgpihicmaa
/- Chapter 4 (lex): the scanner's steps that write. -/
namespace Go.Proofs.Ytjaampgpihicmaa
open Go.RowKit
attribute [local go_sem ↓] Go.wp_at_zero Go.wp_at_succ
attribute [local go_sem] frozen_alloc_lt

theorem Sc.free {w : World} {b : Nat} {s : ByteArray} {p li co : Nat} {tv : Value} {f0 f1 f2 : Int} (h : Sc w b s p li co tv f0 f1 f2) :
    w.frozen? ⟨b, 1, none⟩ = false ∧ w.frozen? ⟨b, 2, none⟩ = false ∧ w.frozen? ⟨b, 3, none⟩ = false ∧ w.frozen? ⟨b, 4, none⟩ = false ∧
    w.frozen? ⟨b, 5, none⟩ = false ∧ w.frozen? ⟨b, 6, none⟩ = false ∧ w.frozen? ⟨b, 7, none⟩ = false :=
  ⟨Bk.free h 1, Bk.free h 2, Bk.free h 3, Bk.free h 4, Bk.free h 5, Bk.free h 6, Bk.free h 7⟩

/-- What a step leaves. -/
def Stepped (w : World) (b : Nat) (s : ByteArray) (p li co : Nat) (tv : Value) (f0 f1 f2 : Int) (e : Ending) (w' : World) : Prop :=
  e = .returned (.tuple #[]) ∧ Sc w' b s p li co tv f0 f1 f2 ∧ w.grownBy w' (some b)

set_option maxHeartbeats 400000 in
theorem step_nl (b : Nat) (w : World) (s : ByteArray) (p li co : Nat) (tv : Value) (f0 f1 f2 : Int) (h : Sc w b s p li co tv f0 f1 f2) (hp : p < s.size)
    (hs : s.size ≤ 65536) (hli : li ≤ 70000) (hb : ((s[p].toNat : Int) == 10) = true) :
    Calls Try.prog 108 #[.pointer (some ⟨b, 0, none⟩)] w (Stepped w b s (p + 1) (li + 1) 1 tv f0 f1 f2) := by
  obtain ⟨h0, h1, h2, h3, -⟩ := h.cells
  obtain ⟨g1, g2, g3, -⟩ := h.free
  have hp' : (p : Int) < (s.size : Int) := by omega
  go_enter Try.func108, Try.ntmps108
  go_wp2
  go_quiet (fail)
  go_wp2
  go_end0
  refine ⟨rfl, ?_, gb_setb (gb_setb (gb_setb (gb_setb (gb_drewN (World.grownBy.refl w _) nq))))⟩
  refine Bk.of (Bk.set (Bk.set (Bk.set (Bk.set (Bk.drewN h nq) 2 _) 3 _) 1 _) 3 _) ?_
  simp

set_option maxHeartbeats 400000 in
theorem step_no (b : Nat) (w : World) (s : ByteArray) (p li co : Nat) (tv : Value) (f0 f1 f2 : Int) (h : Sc w b s p li co tv f0 f1 f2) (hp : p < s.size)
    (hs : s.size ≤ 65536) (hco : co ≤ 70000) (hb : ((s[p].toNat : Int) == 10) = false) :
    Calls Try.prog 108 #[.pointer (some ⟨b, 0, none⟩)] w (Stepped w b s (p + 1) li (co + 1) tv f0 f1 f2) := by
  obtain ⟨h0, h1, -, h3, -⟩ := h.cells
  obtain ⟨g1, -, g3, -⟩ := h.free
  have hp' : (p : Int) < (s.size : Int) := by omega
  go_enter Try.func108, Try.ntmps108
  go_wp2
  go_quiet (fail)
  go_wp2
  go_end0
  refine ⟨rfl, ?_, gb_setb (gb_setb (gb_drewN (World.grownBy.refl w _) nq))⟩
  refine Bk.of (Bk.set (Bk.set (Bk.drewN h nq) 1 _) 3 _) ?_
  simp

theorem step_calls (b : Nat) (w : World) (s : ByteArray) (p li co : Nat) (tv : Value) (f0 f1 f2 : Int) (h : Sc w b s p li co tv f0 f1 f2) (hp : p < s.size)
    (hs : s.size ≤ 65536) (hli : li ≤ 70000) (hco : co ≤ 70000) :
    Calls Try.prog 108 #[.pointer (some ⟨b, 0, none⟩)] w (Stepped w b s (p + 1) (Lex.advL s[p] li) (Lex.advC s[p] co) tv f0 f1 f2) := by
  by_cases hc : s[p] = 10
  · have hb : ((s[p].toNat : Int) == 10) = true := by rw [hc]; rfl
    have e1 : Lex.advL s[p] li = li + 1 := by simp [Lex.advL, hc]
    have e2 : Lex.advC s[p] co = 1 := by simp [Lex.advC, hc]
    rw [e1, e2]
    exact step_nl b w s p li co tv f0 f1 f2 h hp hs hli hb
  · have hb : ((s[p].toNat : Int) == 10) = false := by
      rw [show (10 : Int) = ((10 : Nat) : Int) from rfl, byte_eq _ 10 (by omega)]; simpa using hc
    have e1 : Lex.advL s[p] li = li := by simp [Lex.advL, hc]
    have e2 : Lex.advC s[p] co = co + 1 := by simp [Lex.advC, hc]
    rw [e1, e2]
    exact step_no b w s p li co tv f0 f1 f2 h hp hs hco hb

set_option maxHeartbeats 400000 in
theorem fail_calls (b : Nat) (w : World) (s : ByteArray) (p li co : Nat) (tv : Value) (f0 f1 f2 : Int) (h : Sc w b s p li co tv f0 f1 f2) (k l c e : Int) (t : ByteArray) :
    Calls Try.prog 112 #[.pointer (some ⟨b, 0, none⟩), .agg #[.int .i64 k, .string t, .int .i64 l, .int .i64 c], .int .i64 e] w
      fun en w' => en = .returned (.bool false) ∧ Sc w' b s p li co tv l c e ∧ w.grownBy w' (some b) := by
  obtain ⟨-, -, -, -, -, h5, h6, h7⟩ := h.cells
  obtain ⟨-, -, -, -, g5, g6, g7⟩ := h.free
  have hne := World.new_ne w _ h5
  have lb := h.lt
  go_enter Try.func112, Try.ntmps112
  go_wp2
  go_ret
  refine ⟨rfl, ?_, gb_alloc (gb_setb (gb_setb (gb_setb (World.grownBy.refl w _)))) _⟩
  refine Bk.of (Bk.alloc (Bk.set (Bk.set (Bk.set h 5 _) 6 _) 7 _) _) ?_
  simp
end Go.Proofs.Ytjaampgpihicmaa
/- Chapter 4 (lex): skip. -/
namespace Go.Proofs.Ytjaampgpihicmaa
open Go.RowKit
attribute [local go_sem ↓] Go.wp_at_zero Go.wp_at_succ
attribute [local go_sem] frozen_alloc_lt

section
variable {b : Nat} {w : World} {s : ByteArray} {p li co : Nat} {tv : Value} {f0 f1 f2 : Int}
theorem more_yes (h : Sc w b s p li co tv f0 f1 f2) (hlt : p < s.size) :
    Calls Try.prog 65 #[.pointer (some ⟨b, 0, none⟩)] w fun e w' => e = .returned (.bool true) ∧ ∃ n, w' = w.drewN n :=
  (more_calls b w s p li co tv f0 f1 f2 h).mono fun e w' ⟨he, hn⟩ => ⟨by simpa [hlt] using he, hn⟩
theorem more_no (h : Sc w b s p li co tv f0 f1 f2) (hlt : ¬ p < s.size) :
    Calls Try.prog 65 #[.pointer (some ⟨b, 0, none⟩)] w fun e w' => e = .returned (.bool false) ∧ ∃ n, w' = w.drewN n :=
  (more_calls b w s p li co tv f0 f1 f2 h).mono fun e w' ⟨he, hn⟩ => ⟨by simpa [hlt] using he, hn⟩

theorem skip_quit : Lex.skipS true [] li co = Lex.skipS false [] li co := rfl
theorem skip_nl (r : List UInt8) : Lex.skipS true (10 :: r) li co = Lex.skipS false (10 :: r) li co := by simp [Lex.skipS, Lex.isBlank]
theorem skip_cm (c : UInt8) (r : List UInt8) (h : c ≠ 10) : Lex.skipS true (c :: r) li co = Lex.skipS true r (Lex.advL c li) (Lex.advC c co) := by simp [Lex.skipS, h]
theorem skip_hash (r : List UInt8) : Lex.skipS false (35 :: r) li co = Lex.skipS true (35 :: r) li co := by simp [Lex.skipS, Lex.isBlank]
theorem skip_blank (c : UInt8) (r : List UInt8) (h : Lex.isBlank c = true) : Lex.skipS false (c :: r) li co = Lex.skipS false r (Lex.advL c li) (Lex.advC c co) := by simp [Lex.skipS, h]
theorem skip_stop (c : UInt8) (r : List UInt8) (h : Lex.isBlank c = false) (h' : c ≠ 35) : Lex.skipS false (c :: r) li co = (c :: r, li, co) := by simp [Lex.skipS, h, h']

/-- Where the scanner stands, seen from the place to which it will skip. -/
def SkipAt (w0 : World) (b : Nat) (s : ByteArray) (tv : Value) (f0 f1 f2 : Int) (cm : Bool) (tgt : List UInt8 × Nat × Nat) (k : Nat) (w : World) : Prop :=
  ∃ p li co : Nat, Sc w b s p li co tv f0 f1 f2 ∧ p ≤ s.size ∧ li ≤ p + 1 ∧ co ≤ p + 1 ∧ Lex.skipS cm (s.data.toList.drop p) li co = tgt ∧ w0.grownBy w (some b) ∧ k = s.size - p

/-- .. within a comment that begins at place p0. -/
def CommAt (w0 : World) (b : Nat) (s : ByteArray) (tv : Value) (f0 f1 f2 : Int) (p0 : Nat) (tgt : List UInt8 × Nat × Nat) (k : Nat) (w : World) : Prop :=
  ∃ p li co : Nat, Sc w b s p li co tv f0 f1 f2 ∧ p ≤ s.size ∧ p0 ≤ p ∧ li ≤ p + 1 ∧ co ≤ p + 1 ∧ Lex.skipS true (s.data.toList.drop p) li co = tgt ∧ w0.grownBy w (some b) ∧ k = s.size - p

def Skipped (w0 : World) (b : Nat) (s : ByteArray) (tv : Value) (f0 f1 f2 : Int) (tgt : List UInt8 × Nat × Nat) (e : Ending) (w : World) : Prop :=
  e = .returned (.tuple #[]) ∧ ∃ p li co : Nat, Sc w b s p li co tv f0 f1 f2 ∧ p ≤ s.size ∧ li ≤ p + 1 ∧ co ≤ p + 1 ∧ (s.data.toList.drop p, li, co) = tgt ∧ w0.grownBy w (some b)
end

theorem advL_le (c : UInt8) (li p : Nat) (h : li ≤ p + 1) : Lex.advL c li ≤ (p + 1) + 1 := by unfold Lex.advL; split <;> omega
theorem advC_le (c : UInt8) (co p : Nat) (h : co ≤ p + 1) : Lex.advC c co ≤ (p + 1) + 1 := by unfold Lex.advC; split <;> omega

set_option maxHeartbeats 1000000 in
theorem skip_calls (b : Nat) (w : World) (s : ByteArray) (p li co : Nat) (tv : Value) (f0 f1 f2 : Int) (h : Sc w b s p li co tv f0 f1 f2) (hp : p ≤ s.size)
    (hs : s.size ≤ 65536) (hli : li ≤ p + 1) (hco : co ≤ p + 1) :
    Calls Try.prog 64 #[.pointer (some ⟨b, 0, none⟩)] w (Skipped w b s tv f0 f1 f2 (Lex.skipS false (s.data.toList.drop p) li co)) := by
  generalize htg : Lex.skipS false (s.data.toList.drop p) li co = tgt
  have Htg := hid htg
  clear htg
  go_enter Try.func64, Try.ntmps64
  go_wp2
  go_loopg [] (s.size - p) (fun k wr => SkipAt w b s tv f0 f1 f2 false tgt k wr)
  case atStart => exact ⟨p, li, co, h, hp, hli, hco, Htg.out, World.grownBy.refl w _, rfl⟩
  case round =>
    clear Htg h hp hli hco
    obtain ⟨p, li, co, h, hp, hli, hco, htg, hg, hk⟩ := hrel
    have Htg := hid htg
    have Hk := hid hk
    clear htg hk
    by_cases hlt : p < s.size
    · obtain ⟨h0, h1, -⟩ := h.cells
      have hlt' : (p : Int) < (s.size : Int) := by omega
      by_cases c35 : s[p] = 35
      · have hb := tob s[p] 35 (by omega) c35
        go_wp2_with (go_at_call 65; refine (more_yes h hlt).mono ?_; rintro e w' ⟨rfl, n1, rfl⟩)
        go_quiet (fail)
        go_wp2_with fail
        have Hs := h.drewN (n1 + nq)
        have hg1 := gb_drewN hg (n1 + nq)
        obtain ⟨wo, hwo⟩ : ∃ wo, wo = wr.drewN (n1 + nq) := ⟨_, rfl⟩
        rw [← hwo] at Hs hg1 ⊢
        clear hwo h hg h0 h1 hb
        have htg := Htg.out
        rw [str_ext hlt, c35, skip_hash, ← c35, ← str_ext hlt] at htg
        have Hc := hid c35
        have Htg := hid htg
        clear c35 htg
        go_loopg [] (s.size - p) (fun k wq => CommAt w b s tv f0 f1 f2 p tgt k wq)
        case atStart => exact ⟨p, li, co, Hs, hp, Nat.le_refl _, hli, hco, Htg.out, hg1, rfl⟩
        case round =>
          clear Htg Hs hg1 hli hco hlt'
          obtain ⟨q, li, co, h, hq, hpq, hli, hco, htg, hg, hk⟩ := hrel
          have Htg := hid htg
          have Hkq := hid hk
          clear htg hk
          by_cases hlq : q < s.size
          · obtain ⟨h0, h1, -⟩ := h.cells
            have hlq' : (q : Int) < (s.size : Int) := by omega
            by_cases c10 : s[q] = 10
            · have hb := tob s[q] 10 (by omega) c10
              have hb' : ((s[q].toNat : Int) != 10) = false := by simpa using hb
              have Hc10 := hid c10
              clear c10
              go_wp2_with fail
              go_quiet ((go_at_call 65; exact Calls.quiet_of (more_yes (h.drewN _) hlq)))
              go_wp2_with fail
              go_roundg (s.size - q)
              case measure =>
                have hk := Hk.out
                have hne : p ≠ q := by
                  rintro rfl
                  have e1 := Hc.out
                  have e2 := Hc10.out
                  rw [e1] at e2
                  exact absurd e2 (by decide)
                omega
              case rel =>
                refine ⟨q, li, co, h.drewN _, hq, hli, hco, ?_, gb_drewN hg _, rfl⟩
                have htg := Htg.out
                rw [str_ext hlq, Hc10.out] at htg ⊢
                rw [← skip_nl]
                exact htg
            · have hb := tobf s[q] 10 (by omega) c10
              have hb' : ((s[q].toNat : Int) != 10) = true := by simpa using hb
              have Hc10 := hid c10
              clear c10
              go_wp2_with fail
              go_quiet ((go_at_call 65; exact Calls.quiet_of (more_yes (h.drewN _) hlq)))
              go_wp2_with (go_at_call 108; refine (step_calls b _ s q li co tv f0 f1 f2 (h.drewN _) hlq hs (by omega) (by omega)).mono ?_; rintro e w1 ⟨rfl, h', hg'⟩)
              go_roundg (s.size - (q + 1))
              case measure => have hk := Hkq.out; omega
              case rel =>
                refine ⟨q + 1, _, _, h', by omega, by omega, advL_le _ _ _ hli, advC_le _ _ _ hco, ?_, gb_trans (gb_drewN hg _) hg', rfl⟩
                have htg := Htg.out
                rw [str_ext hlq, skip_cm _ _ Hc10.out] at htg
                exact htg
          · go_wp2_with fail
            go_quiet ((go_at_call 65; exact Calls.quiet_of (more_no (h.drewN _) hlq)))
            go_wp2_with fail
            go_roundg (s.size - q)
            case measure => have hk := Hk.out; omega
            case rel =>
              refine ⟨q, li, co, h.drewN _, hq, hli, hco, ?_, gb_drewN hg _, rfl⟩
              have htg := Htg.out
              rw [str_end (by omega)] at htg ⊢
              exact htg
      · have hb := tobf s[p] 35 (by omega) c35
        by_cases cb : Lex.isBlank s[p] = true
        · have Hstep : Hid (Lex.skipS false (s.data.toList.drop (p + 1)) (Lex.advL s[p] li) (Lex.advC s[p] co) = tgt) := by
            have htg := Htg.out
            rw [str_ext hlt, skip_blank _ _ cb] at htg
            exact htg
          have Hcb := hid cb
          clear cb c35
          by_cases c1 : s[p] = 32
          · have hb1 := tob s[p] 32 (by omega) c1
            clear c1 Hcb
            go_wp2_with (go_at_call 65; refine (more_yes h hlt).mono ?_; rintro e w' ⟨rfl, n1, rfl⟩)
            go_quiet (fail)
            go_wp2_with (go_at_call 108; refine (step_calls b _ s p li co tv f0 f1 f2 (h.drewN _) hlt hs (by omega) (by omega)).mono ?_; rintro e w1 ⟨rfl, h', hg'⟩)
            go_roundg (s.size - (p + 1))
            case measure => have hk := Hk.out; omega
            case rel => exact ⟨p + 1, _, _, h', by omega, advL_le _ _ _ hli, advC_le _ _ _ hco, Hstep.out, gb_trans (gb_drewN hg _) hg', rfl⟩
          · have hb1 := tobf s[p] 32 (by omega) c1
            by_cases c2 : s[p] = 9
            · have hb2 := tob s[p] 9 (by omega) c2
              clear c1 c2 Hcb
              go_wp2_with (go_at_call 65; refine (more_yes h hlt).mono ?_; rintro e w' ⟨rfl, n1, rfl⟩)
              go_quiet (fail)
              go_wp2_with (go_at_call 108; refine (step_calls b _ s p li co tv f0 f1 f2 (h.drewN _) hlt hs (by omega) (by omega)).mono ?_; rintro e w1 ⟨rfl, h', hg'⟩)
              go_roundg (s.size - (p + 1))
              case measure => have hk := Hk.out; omega
              case rel => exact ⟨p + 1, _, _, h', by omega, advL_le _ _ _ hli, advC_le _ _ _ hco, Hstep.out, gb_trans (gb_drewN hg _) hg', rfl⟩
            · have hb2 := tobf s[p] 9 (by omega) c2
              by_cases c3 : s[p] = 10
              · have hb3 := tob s[p] 10 (by omega) c3
                clear c1 c2 c3 Hcb
                go_wp2_with (go_at_call 65; refine (more_yes h hlt).mono ?_; rintro e w' ⟨rfl, n1, rfl⟩)
                go_quiet (fail)
                go_wp2_with (go_at_call 108; refine (step_calls b _ s p li co tv f0 f1 f2 (h.drewN _) hlt hs (by omega) (by omega)).mono ?_; rintro e w1 ⟨rfl, h', hg'⟩)
                go_roundg (s.size - (p + 1))
                case measure => have hk := Hk.out; omega
                case rel => exact ⟨p + 1, _, _, h', by omega, advL_le _ _ _ hli, advC_le _ _ _ hco, Hstep.out, gb_trans (gb_drewN hg _) hg', rfl⟩
              · have hb3 := tobf s[p] 10 (by omega) c3
                have c4 : s[p] = 13 := by
                  have := Hcb.out
                  simp [Lex.isBlank, c1, c2, c3] at this
                  exact this
                have hb4 := tob s[p] 13 (by omega) c4
                clear c1 c2 c3 c4 Hcb
                go_wp2_with (go_at_call 65; refine (more_yes h hlt).mono ?_; rintro e w' ⟨rfl, n1, rfl⟩)
                go_quiet (fail)
                go_wp2_with (go_at_call 108; refine (step_calls b _ s p li co tv f0 f1 f2 (h.drewN _) hlt hs (by omega) (by omega)).mono ?_; rintro e w1 ⟨rfl, h', hg'⟩)
                go_roundg (s.size - (p + 1))
                case measure => have hk := Hk.out; omega
                case rel => exact ⟨p + 1, _, _, h', by omega, advL_le _ _ _ hli, advC_le _ _ _ hco, Hstep.out, gb_trans (gb_drewN hg _) hg', rfl⟩
        · have Hst : Hid ((s.data.toList.drop p, li, co) = tgt) := by
            have htg := Htg.out
            rw [str_ext hlt, skip_stop _ _ (by simpa using cb) c35, ← str_ext hlt] at htg
            exact htg
          have cb' : ¬ Lex.isBlank s[p] = true := cb
          simp [Lex.isBlank] at cb'
          have hb1 := tobf s[p] 32 (by omega) (fun e => cb'.1.1.1 e)
          have hb2 := tobf s[p] 9 (by omega) (fun e => cb'.1.1.2 e)
          have hb3 := tobf s[p] 10 (by omega) (fun e => cb'.1.2 e)
          have hb4 := tobf s[p] 13 (by omega) (fun e => cb'.2 e)
          clear cb cb' c35
          go_wp2_with (go_at_call 65; refine (more_yes h hlt).mono ?_; rintro e w' ⟨rfl, n1, rfl⟩)
          go_quiet (fail)
          go_wp2_with fail
          refine bodyPost_ret (results_none rfl _ _ _) rfl ?_
          exact ⟨rfl, p, li, co, Bk.drewN h _, hp, hli, hco, Hst.out, gb_drewN hg _⟩
    · go_wp2_with (go_at_call 65; refine (more_no h hlt).mono ?_; rintro e w' ⟨rfl, n1, rfl⟩)
      go_end0
      refine ⟨rfl, p, li, co, Bk.drewN h _, hp, hli, hco, ?_, gb_drewN hg _⟩
      have htg := Htg.out
      rw [str_end (by omega)] at htg ⊢
      exact htg

end Go.Proofs.Ytjaampgpihicmaa
/- Chapter 4 (lex): name. -/
namespace Go.Proofs.Ytjaampgpihicmaa
open Go.RowKit
attribute [local go_sem ↓] Go.wp_at_zero Go.wp_at_succ
attribute [local go_sem] frozen_alloc_lt

/-- The cells of a token. -/
def tokV (t : Lex.Tok) : List Value := [.int .i64 t.kind, .string ⟨t.text.toArray⟩, .int .i64 t.line, .int .i64 t.col]

theorem tokInfo : (Try.prog.info? 46).map (fun i => (i.zero, i.size, i.bytes)) = some (some (.agg #[.int .i64 0, .string ⟨#[]⟩, .int .i64 0, .int .i64 0]), 4, 40) := by kernel_rfl

/-- What token, name and literal leave. -/
def TokPost (w0 : World) (base b : Nat) (s : ByteArray) (f0 f1 f2 : Int) (n : Nat) (xs : List Value) (e : Ending) (w : World) : Lex.TokRes → Prop
  | .bad f => e = .returned (.bool false) ∧ (∃ (p li co : Nat) (tv : Value), Sc w b s p li co tv f.line f.col f.code) ∧ Below base w0 w
  | .good t rest li co => e = .returned (.bool true) ∧ ∃ (p : Nat) (tv : Value), rest = s.data.toList.drop p ∧ p ≤ s.size ∧ li ≤ p + 1 ∧ co ≤ p + 1 ∧ Sc w b s p li co tv f0 f1 f2 ∧
      w.ownsRow base 46 4 tv (n + 1) (xs ++ tokV t) ∧ Below base w0 w

theorem cells_below {W w : World} {B : Nat} (h : Below B W w) : ∀ (b o : Nat), b < B → w.cell? ⟨b, o, none⟩ = W.cell? ⟨b, o, none⟩ := fun b o hb => h.cell (p := ⟨b, o, none⟩) hb

theorem frozen_below {W w : World} {B : Nat} (h : Below B W w) : ∀ (b o : Nat), b < B → w.frozen? ⟨b, o, none⟩ = W.frozen? ⟨b, o, none⟩ := fun b o hb => h.frozen (p := ⟨b, o, none⟩) hb


theorem bk_new {W : World} {g : Nat} {t : TypeId} {cs : List Value} (hz : W.heap.size = g) : Bk (W.alloc (.cells cs.toArray t)) g t cs := by subst hz; exact Bk.new W t cs

theorem quiet_left {P : Program} {f : FuncId} {args : Array Value} {w : World} {n : Nat} {v : Value}
    (h : Calls P f args (w.drewN n) fun e w' => e = .returned v ∧ w.drewN n = w') : Calls P f args (w.drewN n) fun e w'' => e = .returned v ∧ ∃ m, w'' = w.drewN m :=
  h.mono fun _ _ ⟨he, hm⟩ => ⟨he, n, hm.symm⟩

theorem adv_rest (c : UInt8) (li co : Nat) (h : Lex.isRest c = true) : Lex.advL c li = li ∧ Lex.advC c co = co + 1 := by
  have hne : c ≠ 10 := by rintro rfl; revert h; decide
  simp [Lex.advL, Lex.advC, hne]

/-- The scanner within a name that began at place p0. -/
def NameAt (w0 : World) (b : Nat) (s : ByteArray) (tv : Value) (f0 f1 f2 : Int) (p0 li co : Nat) (k : Nat) (w : World) : Prop :=
  ∃ q : Nat, Sc w b s q li (co + (q - p0)) tv f0 f1 f2 ∧ p0 ≤ q ∧ q ≤ s.size ∧ (s.data.toList.drop p0).takeWhile Lex.isRest = (s.data.toList.drop p0).take (q - p0) ++ (s.data.toList.drop q).takeWhile Lex.isRest ∧
    (s.data.toList.drop p0).dropWhile Lex.isRest = (s.data.toList.drop q).dropWhile Lex.isRest ∧ w0.grownBy w (some b) ∧ k = s.size - q

def NameEnd (w0 : World) (b : Nat) (s : ByteArray) (tv : Value) (f0 f1 f2 : Int) (p0 li co : Nat) (w : World) : Prop :=
  ∃ q : Nat, Sc w b s q li (co + (q - p0)) tv f0 f1 f2 ∧ p0 ≤ q ∧ q ≤ s.size ∧ (s.data.toList.drop p0).takeWhile Lex.isRest = (s.data.toList.drop p0).take (q - p0) ∧
    (s.data.toList.drop p0).dropWhile Lex.isRest = s.data.toList.drop q ∧ w0.grownBy w (some b)

theorem take_step (s : ByteArray) (p q : Nat) (hpq : p ≤ q) (hq : q < s.size) : (s.data.toList.drop p).take (q + 1 - p) = (s.data.toList.drop p).take (q - p) ++ [s[q]] := by
  rw [show q + 1 - p = (q - p) + 1 by omega, List.take_succ_eq_append_getElem (by simp; omega)]
  congr 1
  simp only [List.getElem_drop]
  simp [show p + (q - p) = q by omega]
  rfl

theorem gb_undrew {W w : World} {r : Option Nat} (h : W.drew.grownBy w r) : W.grownBy w r := ⟨h.os, h.tape, h.output, h.size, h.block⟩

theorem gb_below {a W w : World} {r : Option Nat} (h : Below a.heap.size a W) (k : W.grownBy w r) : a.grownBy w r :=
  gb_trans (gb_of_below h r) k

/-- A token pushed: behind the append and the store of the field. -/
theorem push_close {w wd W w2 : World} {base b n : Nat} {s : ByteArray} {q li co : Nat} {tv tv' : Value} {f0 f1 f2 : Int} {xs' : List Value} (hd1 : Sc wd b s q li co tv f0 f1 f2) (hd4 : Below base w wd)
    (hbb : base ≤ b) (hbw : base ≤ wd.heap.size) (hnb2 : tv.ownBlock ≠ some b) (hrow : ∀ k, tv.ownBlock = some k → base ≤ k) (hW : Below wd.heap.size wd W) (hgrow : W.grownBy w2 tv.ownBlock)
    (hown3 : w2.ownsRow base 46 4 tv' (n + 1) xs') :
    Sc (w2.setCell ⟨b, 4, none⟩ tv') b s q li co tv' f0 f1 f2 ∧ (w2.setCell ⟨b, 4, none⟩ tv').ownsRow base 46 4 tv' (n + 1) xs' ∧ Below base w (w2.setCell ⟨b, 4, none⟩ tv') := by
  have hg : wd.grownBy w2 tv.ownBlock := gb_below hW hgrow
  have hsc : Sc w2 b s q li co tv f0 f1 f2 := Bk.grown hd1 hg (Ne.symm hnb2)
  have hb2 : Bk w2 b 122 _ := hsc
  refine ⟨Bk.set hsc 4 tv', own_set hown3 (Bk.own_ne hb2 hown3 (by decide)) tv', ?_⟩
  exact (hd4.trans (below_of_gb' hg hbw hrow)).setCell (p := ⟨b, 4, none⟩) hbb tv'

theorem extract_list (s : ByteArray) (p q : Nat) : s.extract p q = ⟨((s.data.toList.drop p).take (q - p)).toArray⟩ := by
  apply ByteArray.ext
  apply Array.toList_inj.1
  rw [Lib.extract_data]

set_option maxHeartbeats 1000000 in
theorem name_calls (base b : Nat) (w : World) (s : ByteArray) (p li co : Nat) (tv : Value) (f0 f1 f2 : Int) (n : Nat) (xs : List Value) (h : Sc w b s p li co tv f0 f1 f2) (hp : p ≤ s.size)
    (hs : s.size ≤ 65536) (hli : li ≤ p + 1) (hco : co ≤ p + 1) (hown : w.ownsRow base 46 4 tv n xs) (hbase : base ≤ w.heap.size) (hbb : base ≤ b) (hn : n ≤ 70000) :
    Calls Try.prog 109 #[.pointer (some ⟨b, 0, none⟩)] w fun e w' => TokPost w base b s f0 f1 f2 n xs e w'
      (if 32 < ((s.data.toList.drop p).takeWhile Lex.isRest).length then .bad ⟨li, co, 6⟩
       else .good ⟨1, (s.data.toList.drop p).takeWhile Lex.isRest, li, co⟩ ((s.data.toList.drop p).dropWhile Lex.isRest) li (co + ((s.data.toList.drop p).takeWhile Lex.isRest).length)) := by
  generalize hres : (if 32 < ((s.data.toList.drop p).takeWhile Lex.isRest).length then Lex.TokRes.bad ⟨li, co, 6⟩
       else Lex.TokRes.good ⟨1, (s.data.toList.drop p).takeWhile Lex.isRest, li, co⟩ ((s.data.toList.drop p).dropWhile Lex.isRest) li (co + ((s.data.toList.drop p).takeWhile Lex.isRest).length)) = res
  have Hres := hid hres
  clear hres
  have lb := h.lt
  have lb' : b < w.heap.size + 1 := by omega
  obtain ⟨-, h1, h2, h3, -⟩ := h.cells
  have hne := World.new_ne w _ h1
  have hne := World.new_ne w _ h2
  have hne := World.new_ne w _ h3
  go_enter Try.func109, Try.ntmps109
  go_upto_region 1 with fail
  go_cut [3, 4] (fun s3 s4 wx => ∃ bt : Nat, s3 = .pointer (some ⟨bt, 0, none⟩) ∧ s4 = .int .i64 p ∧ Bk wx bt 46 [.int .i64 1, .string ⟨#[]⟩, .int .i64 li, .int .i64 co] ∧ w.heap.size ≤ bt ∧ Below w.heap.size w wx)
  case first =>
    go_region_held3 (fun w' => w'.cell? ⟨b, 1, none⟩ = some (.int .i64 p) ∧ w'.cell? ⟨b, 2, none⟩ = some (.int .i64 li) ∧ w'.cell? ⟨b, 3, none⟩ = some (.int .i64 co)) (go_keep)
      (first | (go_at_call 67; refine (here_exact b _ 1 li co ?_ ?_).mono ?_; (simp [*]); (simp [*]); rintro e w1 ⟨rfl, rfl⟩))
    all_goals (go_wp2_with fail; go_meet; refine ⟨_, rfl, rfl, ?_, by omega, (((Below.refl _ _).alloc (Nat.le_refl _) _).alloc (by simp) _).drew.drew⟩; first | (refine Bk.drew (Bk.drew (bk_new ?_)); simp; done) | exact Bk.drew (Bk.drew (Bk.alloc (bk_new rfl) _)))
  case rest =>
    obtain ⟨w1, rfl⟩ : ∃ w1, w1 = wc := ⟨_, rfl⟩
    obtain ⟨bt, rfl, rfl, hbt, hge, hb⟩ := hcut
    have hsc : Sc w1 b s p li co tv f0 f1 f2 := Bk.below h hb lb
    have hown1 := own_below hown hb
    have hnt : tv.ownBlock ≠ some bt := fun e => by have := (hown.lt bt e).2; omega
    have hnb2 : tv.ownBlock ≠ some b := Bk.own_ne h hown (by decide)
    have hrow : ∀ k, tv.ownBlock = some k → base ≤ k := fun k e => (hown.lt k e).1
    have hnb : bt ≠ b := by omega
    clear h1 h2 h3 hne lb' h hown
    go_upto_block 0 with fail
    go_cut [] (fun wx => NameEnd w1 b s tv f0 f1 f2 p li co wx)
    case rest =>
      obtain ⟨q, h, hpq, hq, htk, hdr, hg⟩ := hcut
      have Htk := hid htk
      have Hdr := hid hdr
      clear htk hdr hsc
      have hbt' : Bk wc bt 46 [.int .i64 1, .string ⟨#[]⟩, .int .i64 li, .int .i64 co] := hbt.grown hg (by simpa using hnb)
      have hown2 : wc.ownsRow base 46 4 tv n xs := own_gb hown1 hg (fun k hk => by cases hk; exact hnb2)
      obtain ⟨i0, hi0, hz0, hz1, hz2⟩ := info_parts tokInfo
      obtain ⟨h0, h1, -, -, h4, -⟩ := h.cells
      obtain ⟨-, -, -, g4, -⟩ := h.free
      have t0 := hbt'.cell 0
      have t1 := hbt'.cell 1
      have t2 := hbt'.cell 2
      have t3 := hbt'.cell 3
      have z1 := hbt'.free 1
      have lt0 : bt < wc.heap.size := hbt'.lt
      have ltb : b < wc.heap.size := h.lt
      have hnb' : b ≠ bt := Ne.symm hnb
      have hq0 : (0 : Int) ≤ (p : Int) := by omega
      have hq1 : (p : Int) ≤ (q : Int) := by omega
      have hq2 : (q : Int) ≤ (s.size : Int) := by omega
      have hm1 := World.new_ne wc _ h4
      have hm2 := World.new_ne wc _ t0
      go_wp2_with fail
      go_region
      have hsz : wc.heap.size = (wc.setCell ⟨bt, 1, none⟩ (.string (s.extract p q))).drew.heap.size := by simp [World.setCell]
      have hd1 : Sc (wc.setCell ⟨bt, 1, none⟩ (.string (s.extract p q))).drew b s q li (co + (q - p)) tv f0 f1 f2 := Bk.drew (Bk.far h hnb' _)
      have hd2 : Bk (wc.setCell ⟨bt, 1, none⟩ (.string (s.extract p q))).drew bt 46 [.int .i64 1, .string (s.extract p q), .int .i64 li, .int .i64 co] := Bk.drew (Bk.set hbt' 1 _)
      have hd3 : (wc.setCell ⟨bt, 1, none⟩ (.string (s.extract p q))).drew.ownsRow base 46 4 tv n xs := own_set hown2 hnt _
      have hd4 : Below base w (wc.setCell ⟨bt, 1, none⟩ (.string (s.extract p q))).drew :=
        (((hb.mono hbase).trans (below_of_gb' hg (Nat.le_trans hbase hb.size) (fun k hk => by cases hk; exact hbb))).setCell (p := ⟨bt, 1, none⟩) (Nat.le_trans hbase hge) _).drew
      obtain ⟨wd, hwd⟩ : ∃ wd, wd = (wc.setCell ⟨bt, 1, none⟩ (.string (s.extract p q))).drew := ⟨_, rfl⟩
      rw [← hwd] at hsz hd1 hd2 hd3 hd4 ⊢
      clear hwd h0 h1 h4 g4 t0 t1 t2 t3 z1 hm1 hm2 hown1 hown2 hbt hbt' h hg hb lt0 ltb
      obtain ⟨-, -, -, -, h4, -⟩ := hd1.cells
      obtain ⟨-, -, -, g4, -⟩ := hd1.free
      have t0 := hd2.cell 0
      have t1 := hd2.cell 1
      have t2 := hd2.cell 2
      have t3 := hd2.cell 3
      have lt0 : bt < wd.heap.size := hd2.lt
      have ltb : b < wd.heap.size := hd1.lt
      have hm1 := World.new_ne wd _ h4
      have hm2 := World.new_ne wd _ t0
      have hbw : base ≤ wd.heap.size := by have := hd4.size; omega
      have hfr : ∀ o, (wd.alloc o).frozen? ⟨b, 4, none⟩ = false := fun o => (frozen_alloc_lt wd o ⟨b, 4, none⟩ ltb).trans g4
      have hfc : ∀ o, (wd.alloc o).cell? ⟨b, 4, none⟩ = some tv := fun o => (World.cell?_alloc_lt wd o ⟨b, 4, none⟩ ltb).trans h4
      have hfr' : ∀ o, (wd.alloc o).drew.frozen? ⟨b, 4, none⟩ = false := hfr
      by_cases hL : 32 < q - p
      · have hd : decide ((32 : Int) < ((q - p : Nat) : Int)) = true := by simp; omega
        go_wp2_with (go_at_call 112; refine (fail_calls b _ s q li (co + (q - p)) tv f0 f1 f2 hd1 1 li co 6 _).mono ?_; rintro e w2 ⟨rfl, hsc, hg2⟩)
        go_ret
        have hr := Hres.out
        rw [Htk.out, if_pos (by rw [List.length_take]; simp; omega)] at hr
        rw [← hr]
        exact ⟨rfl, ⟨_, _, _, _, hsc⟩, hd4.trans (below_of_gb' hg2 hbw (fun k hk => by cases hk; exact hbb))⟩
      · have hd : decide ((32 : Int) < ((q - p : Nat) : Int)) = false := by simp; omega
        go_wp2_with fail
        go_region_law (first | (refine step_append_lies _ (by rfl) _ _ _ (by rfl) base 46 i0 _ 4 40 Try.underlying42 hi0 hz0 hz1 hz2 rfl (by omega) tv n xs (by rfl) (hd3.alloc _) ⟨wd.heap.size, 0, none⟩ 1 1 [.int .i64 1, .string (s.extract p q), .int .i64 li, .int .i64 co] (by rfl) (by rfl) (World.news_of_block (cs := #[.int .i64 1, .string (s.extract p q), .int .i64 li, .int .i64 co]) (t := 46) (fr := (0, 0)) (heap_alloc_new _ _)) (by simp [Value.oneCell']) (by omega) (by unfold maxLen; omega) (by omega) (by simp; omega) (wd.heap.size + 1) (by simp) ?_; intro gg cap w2 hown3 hgrow hat hlt; have hw2 : w2.cell? ⟨b, 4, none⟩ = some tv := (hgrow.cell_far ⟨b, 4, none⟩ (by simp; omega) (Ne.symm hnb2)).trans (hfc _); have hw3 : w2.frozen? ⟨b, 4, none⟩ = false := (hgrow.frozen_far ⟨b, 4, none⟩ (by simp; omega) (Ne.symm hnb2)).trans (hfr _)))
        all_goals
          go_wp2_with fail
          go_ret
          obtain ⟨e1, e2, e3⟩ := push_close hd1 hd4 hbb hbw hnb2 hrow (((Below.refl _ _).alloc (Nat.le_refl _) _).drew) hgrow hown3
          have hr := Hres.out
          rw [Htk.out, if_neg (by rw [List.length_take]; simp; omega), Hdr.out] at hr
          rw [← hr]
          have hlen : ((s.data.toList.drop p).take (q - p)).length = q - p := by rw [List.length_take]; simp; omega
          rw [hlen]
          rw [extract_list] at e2
          exact ⟨rfl, q, .slice (some ⟨gg, 0, none⟩) (n + 1) cap, rfl, hq, by omega, by omega, e1, e2, e3⟩
    go_wp2_with fail
    go_loopg [] (s.size - p) (fun k wq => NameAt w1 b s tv f0 f1 f2 p li co k wq)
    case atStart => exact ⟨p, by rw [Nat.sub_self]; exact hsc, Nat.le_refl _, hp, by simp, rfl, World.grownBy.refl _ _, rfl⟩
    case round =>
      obtain ⟨q, h, hpq, hq, htk, hdr, hg, hk⟩ := hrel
      have Htk := hid htk
      have Hdr := hid hdr
      have Hk := hid hk
      clear htk hdr hk hsc
      obtain ⟨h0, h1, -⟩ := h.cells
      by_cases hlq : q < s.size
      · have hlq' : (q : Int) < (s.size : Int) := by omega
        by_cases hr : Lex.isRest s[q] = true
        · have hr' : Lex.restZ (s[q].toNat : Int) = true := hr
          have Hr := hid hr
          clear hr
          go_wp2_with fail
          go_quiet ((first | (go_at_call 65; exact Calls.quiet_of (more_yes (h.drewN _) hlq)) | (go_at_call 71; exact quiet_left (inName_calls _ _))))
          go_wp2_with (go_at_call 108; refine (step_calls b _ s q li _ tv f0 f1 f2 (h.drewN _) hlq hs (by omega) (by omega)).mono ?_; rintro e w1 ⟨rfl, h', hg'⟩)
          go_roundg (s.size - (q + 1))
          case measure => have hk := Hk.out; omega
          case rel =>
            have ha := adv_rest s[q] li (co + (q - p)) Hr.out
            rw [ha.1, ha.2] at h'
            refine ⟨q + 1, by rw [show co + (q + 1 - p) = co + (q - p) + 1 by omega]; exact h', by omega, by omega, ?_, ?_, gb_trans (gb_drewN hg _) hg', rfl⟩
            · rw [Htk.out, take_step s p q hpq hlq, str_ext hlq, List.takeWhile_cons, if_pos Hr.out]; simp
            · rw [Hdr.out, str_ext hlq, List.dropWhile_cons, if_pos Hr.out]
        · have hr' : Lex.restZ (s[q].toNat : Int) = false := Bool.eq_false_iff.2 hr
          have hfin : (s.data.toList.drop q).takeWhile Lex.isRest = [] ∧ (s.data.toList.drop q).dropWhile Lex.isRest = s.data.toList.drop q := by
            rw [str_ext hlq, List.takeWhile_cons, List.dropWhile_cons, if_neg hr, if_neg hr]; exact ⟨rfl, rfl⟩
          have Hfin := hid hfin
          clear hr hfin
          go_wp2_with fail
          go_quiet ((first | (go_at_call 65; exact Calls.quiet_of (more_yes (h.drewN _) hlq)) | (go_at_call 71; exact quiet_left (inName_calls _ _))))
          go_wp2_with fail
          go_meet
          exact ⟨q, h.drewN _, hpq, hq, by rw [Htk.out, Hfin.out.1, List.append_nil], by rw [Hdr.out, Hfin.out.2], gb_drewN hg _⟩
      · have hfin : (s.data.toList.drop q).takeWhile Lex.isRest = [] ∧ (s.data.toList.drop q).dropWhile Lex.isRest = s.data.toList.drop q := by
          rw [str_end (by omega)]; exact ⟨rfl, rfl⟩
        have Hfin := hid hfin
        clear hfin
        go_wp2_with fail
        go_quiet ((go_at_call 65; exact Calls.quiet_of (more_no (h.drewN _) hlq)))
        go_wp2_with fail
        go_meet
        exact ⟨q, h.drewN _, hpq, hq, by rw [Htk.out, Hfin.out.1, List.append_nil], by rw [Hdr.out, Hfin.out.2], gb_drewN hg _⟩
end Go.Proofs.Ytjaampgpihicmaa
