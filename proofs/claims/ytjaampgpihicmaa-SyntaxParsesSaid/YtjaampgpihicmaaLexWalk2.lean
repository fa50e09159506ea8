/- Chapter 4 (lex): the scanner's steps that write. -/
import Derived.Test.YtjaampgpihicmaaLexWalk1
namespace Go.Proofs.Ytjaampgpihicmaa
open Go.RowKit
attribute [local go_sem ↓] Go.wp_at_zero Go.wp_at_succ
attribute [local go_sem] frozen_alloc_lt

theorem Sc.free {w : World} {b : Nat} {s : ByteArray} {p li co : Nat} {tv : Value} {f0 f1 f2 : Int} (h : Sc w b s p li co tv f0 f1 f2) :
    w.frozen? ⟨b, 1, none⟩ = false ∧ w.frozen? ⟨b, 2, none⟩ = false ∧ w.frozen? ⟨b, 3, none⟩ = false ∧ w.frozen? ⟨b, 4, none⟩ = false ∧
    w.frozen? ⟨b, 5, none⟩ = false ∧ w.frozen? ⟨b, 6, none⟩ = false ∧ w.frozen? ⟨b, 7, none⟩ = false :=
  ⟨Bk.free h 1, Bk.free h 2, Bk.free h 3, Bk.free h 4, Bk.free h 5, Bk.free h 6, Bk.free h 7⟩

/-- What a step leaves. -/
def Stepped (w : World) (b : Nat) (s : ByteArray) (p li co : Nat) (tv : Value) (f0 f1 f2 : Int) (e : Ending) (w' : World) : Prop :=
  e = .returned (.tuple #[]) ∧ Sc w' b s p li co tv f0 f1 f2 ∧ w.grownBy w' (some b)

set_option maxHeartbeats 400000 in
theorem step_nl (b : Nat) (w : World) (s : ByteArray) (p li co : Nat) (tv : Value) (f0 f1 f2 : Int) (h : Sc w b s p li co tv f0 f1 f2) (hp : p < s.size)
    (hs : s.size ≤ 65536) (hli : li ≤ 70000) (hb : ((s[p].toNat : Int) == 10) = true) :
    Calls Try.prog 108 #[.pointer (some ⟨b, 0, none⟩)] w (Stepped w b s (p + 1) (li + 1) 1 tv f0 f1 f2) := by
  obtain ⟨h0, h1, h2, h3, -⟩ := h.cells
  obtain ⟨g1, g2, g3, -⟩ := h.free
  have hp' : (p : Int) < (s.size : Int) := by omega
  go_enter Try.func108, Try.ntmps108
  go_wp2
  go_quiet (fail)
  go_wp2
  go_end0
  refine ⟨rfl, ?_, gb_setb (gb_setb (gb_setb (gb_setb (gb_drewN (World.grownBy.refl w _) nq))))⟩
  refine Bk.of (Bk.set (Bk.set (Bk.set (Bk.set (Bk.drewN h nq) 2 _) 3 _) 1 _) 3 _) ?_
  simp

set_option maxHeartbeats 400000 in
theorem step_no (b : Nat) (w : World) (s : ByteArray) (p li co : Nat) (tv : Value) (f0 f1 f2 : Int) (h : Sc w b s p li co tv f0 f1 f2) (hp : p < s.size)
    (hs : s.size ≤ 65536) (hco : co ≤ 70000) (hb : ((s[p].toNat : Int) == 10) = false) :
    Calls Try.prog 108 #[.pointer (some ⟨b, 0, none⟩)] w (Stepped w b s (p + 1) li (co + 1) tv f0 f1 f2) := by
  obtain ⟨h0, h1, -, h3, -⟩ := h.cells
  obtain ⟨g1, -, g3, -⟩ := h.free
  have hp' : (p : Int) < (s.size : Int) := by omega
  go_enter Try.func108, Try.ntmps108
  go_wp2
  go_quiet (fail)
  go_wp2
  go_end0
  refine ⟨rfl, ?_, gb_setb (gb_setb (gb_drewN (World.grownBy.refl w _) nq))⟩
  refine Bk.of (Bk.set (Bk.set (Bk.drewN h nq) 1 _) 3 _) ?_
  simp

theorem step_calls (b : Nat) (w : World) (s : ByteArray) (p li co : Nat) (tv : Value) (f0 f1 f2 : Int) (h : Sc w b s p li co tv f0 f1 f2) (hp : p < s.size)
    (hs : s.size ≤ 65536) (hli : li ≤ 70000) (hco : co ≤ 70000) :
    Calls Try.prog 108 #[.pointer (some ⟨b, 0, none⟩)] w (Stepped w b s (p + 1) (Lex.advL s[p] li) (Lex.advC s[p] co) tv f0 f1 f2) := by
  by_cases hc : s[p] = 10
  · have hb : ((s[p].toNat : Int) == 10) = true := by rw [hc]; rfl
    have e1 : Lex.advL s[p] li = li + 1 := by simp [Lex.advL, hc]
    have e2 : Lex.advC s[p] co = 1 := by simp [Lex.advC, hc]
    rw [e1, e2]
    exact step_nl b w s p li co tv f0 f1 f2 h hp hs hli hb
  · have hb : ((s[p].toNat : Int) == 10) = false := by
      rw [show (10 : Int) = ((10 : Nat) : Int) from rfl, byte_eq _ 10 (by omega)]; simpa using hc
    have e1 : Lex.advL s[p] li = li := by simp [Lex.advL, hc]
    have e2 : Lex.advC s[p] co = co + 1 := by simp [Lex.advC, hc]
    rw [e1, e2]
    exact step_no b w s p li co tv f0 f1 f2 h hp hs hco hb

set_option maxHeartbeats 400000 in
theorem fail_calls (b : Nat) (w : World) (s : ByteArray) (p li co : Nat) (tv : Value) (f0 f1 f2 : Int) (h : Sc w b s p li co tv f0 f1 f2) (k l c e : Int) (t : ByteArray) :
    Calls Try.prog 112 #[.pointer (some ⟨b, 0, none⟩), .agg #[.int .i64 k, .string t, .int .i64 l, .int .i64 c], .int .i64 e] w
      fun en w' => en = .returned (.bool false) ∧ Sc w' b s p li co tv l c e ∧ w.grownBy w' (some b) := by
  obtain ⟨-, -, -, -, -, h5, h6, h7⟩ := h.cells
  obtain ⟨-, -, -, -, g5, g6, g7⟩ := h.free
  have hne := World.new_ne w _ h5
  have lb := h.lt
  go_enter Try.func112, Try.ntmps112
  go_wp2
  go_ret
  refine ⟨rfl, ?_, gb_alloc (gb_setb (gb_setb (gb_setb (World.grownBy.refl w _)))) _⟩
  refine Bk.of (Bk.alloc (Bk.set (Bk.set (Bk.set h 5 _) 6 _) 7 _) _) ?_
  simp
end Go.Proofs.Ytjaampgpihicmaa
