/- Chapter 9 (facts): Nullable, Generating; the contracts where the grammar is sound, and where it is not. -/
import Derived.Test.YtaehooafdbaomaaFacts6
import Derived.Test.YtaehooafdbaomaaGin
namespace Go.Proofs.Ytaehooafdbaomaa
open Go.RowKit
attribute [local go_sem ↓] Go.wp_at_zero Go.wp_at_succ
attribute [local go_sem] frozen_alloc_lt

/-- A row of bools: which nonterminals p holds of. -/
def BPost (w : World) (n : Nat) (p : Int → Prop) (e : Ending) (w' : World) : Prop :=
  ∃ (ga : Option Addr) (cap : Nat) (bs : List Bool), e = .returned (.slice ga n cap) ∧ bs.length = n ∧ RowB w' w'.heap.size ga bs ∧ (∀ a : Int, 0 ≤ a → (Facts.inB bs a = true ↔ p a)) ∧ Below w.heap.size w w'
def NoPost (w : World) (e : Ending) (w' : World) : Prop := e = .returned (.slice none 0 0) ∧ Below w.heap.size w w'

section
variable (w : World) (G : Gr) (gn gt gp : Option Addr) (cn ct cp : Nat) (h : GIn w G gn gt gp)
include h
theorem close_yes (T : Bool) (hs : Pl.soundB G = true) : Calls Try.prog 118 #[.agg #[.int .i64 G.start, .int .i64 G.rules, .slice gn G.names.length cn, .slice gt G.terms.length ct, .slice gp G.prods.length cp], .bool T] w (BPost w G.names.length (Facts.Gen G.prods T)) :=
  (close_calls w G gn gt gp cn ct cp T h.n h.t h.p h.h1 h.h2 h.h3 h.h4).mono fun e w' ⟨hb, h5⟩ => by
    rcases h5 with ⟨h6, _⟩ | ⟨_, ga, cap, bs, h6, h7, h8, h9⟩
    · rw [hs] at h6; cases h6
    · exact ⟨ga, cap, bs, h6, h7, h8, h9, hb⟩
theorem close_no (T : Bool) (hs : Pl.soundB G = false) : Calls Try.prog 118 #[.agg #[.int .i64 G.start, .int .i64 G.rules, .slice gn G.names.length cn, .slice gt G.terms.length ct, .slice gp G.prods.length cp], .bool T] w (NoPost w) :=
  (close_calls w G gn gt gp cn ct cp T h.n h.t h.p h.h1 h.h2 h.h3 h.h4).mono fun e w' ⟨hb, h5⟩ => by
    rcases h5 with ⟨_, h6⟩ | ⟨h6, _⟩
    · exact ⟨h6, hb⟩
    · rw [hs] at h6; cases h6
def ShoYes (w : World) (G : Gr) (e : Ending) (w' : World) : Prop :=
  ∃ (g cap : Nat) (ks : List Int), e = .returned (.slice (some ⟨g, 0, none⟩) G.names.length cap) ∧ w.heap.size ≤ g ∧ Bk w' g 3 (ks.map (Value.int .i64)) ∧ Facts.Sho G.prods G.names.length ks ∧ Facts.fixS G.prods ks ∧ Below w.heap.size w w'
theorem short_yes (hs : Pl.soundB G = true) : Calls Try.prog 58 #[.agg #[.int .i64 G.start, .int .i64 G.rules, .slice gn G.names.length cn, .slice gt G.terms.length ct, .slice gp G.prods.length cp]] w (ShoYes w G) :=
  (shortest_calls w G gn gt gp cn ct cp h.n h.t h.p h.h1 h.h2 h.h3 h.h4).mono fun e w' ⟨hb, h5⟩ => by
    rcases h5 with ⟨h6, _⟩ | ⟨_, g, cap, ks, h6, h7, h8, h9, h10⟩
    · rw [hs] at h6; cases h6
    · exact ⟨g, cap, ks, h6, h7, h8, h9, h10, hb⟩
theorem short_no (hs : Pl.soundB G = false) : Calls Try.prog 58 #[.agg #[.int .i64 G.start, .int .i64 G.rules, .slice gn G.names.length cn, .slice gt G.terms.length ct, .slice gp G.prods.length cp]] w (NoPost w) :=
  (shortest_calls w G gn gt gp cn ct cp h.n h.t h.p h.h1 h.h2 h.h3 h.h4).mono fun e w' ⟨hb, h5⟩ => by
    rcases h5 with ⟨_, h6⟩ | ⟨h6, _⟩
    · exact ⟨h6, hb⟩
    · rw [hs] at h6; cases h6
end

set_option maxHeartbeats 1000000 in
theorem null_yes (w : World) (G : Gr) (gn gt gp : Option Addr) (cn ct cp : Nat) (h : GIn w G gn gt gp) (hs : Pl.soundB G = true) :
    Calls Try.prog 82 #[.agg #[.int .i64 G.start, .int .i64 G.rules, .slice gn G.names.length cn, .slice gt G.terms.length ct, .slice gp G.prods.length cp]] w (BPost w G.names.length (Facts.Gen G.prods false)) := by
  have hb0 : Below w.heap.size w (w.alloc (.cells #[.int .i64 G.start, .int .i64 G.rules, .slice gn G.names.length cn, .slice gt G.terms.length ct, .slice gp G.prods.length cp] 30)) := (Below.refl _ _).alloc (Nat.le_refl _) _
  have h1 := h.later hb0
  have Hs := hid hs
  clear hs
  go_enter Try.func82, Try.ntmps82
  go_wp2_with (go_at_call 118; refine (close_yes _ G gn gt gp cn ct cp h1 false Hs.out).mono ?_; rintro e w1 ⟨ga, cap, bs, rfl, h7, h8, h9, hb1⟩)
  go_ret
  exact ⟨ga, cap, bs, rfl, h7, h8, h9, hb0.trans (hb1.mono hb0.size)⟩
set_option maxHeartbeats 1000000 in
theorem null_no (w : World) (G : Gr) (gn gt gp : Option Addr) (cn ct cp : Nat) (h : GIn w G gn gt gp) (hs : Pl.soundB G = false) :
    Calls Try.prog 82 #[.agg #[.int .i64 G.start, .int .i64 G.rules, .slice gn G.names.length cn, .slice gt G.terms.length ct, .slice gp G.prods.length cp]] w (NoPost w) := by
  have hb0 : Below w.heap.size w (w.alloc (.cells #[.int .i64 G.start, .int .i64 G.rules, .slice gn G.names.length cn, .slice gt G.terms.length ct, .slice gp G.prods.length cp] 30)) := (Below.refl _ _).alloc (Nat.le_refl _) _
  have h1 := h.later hb0
  have Hs := hid hs
  clear hs
  go_enter Try.func82, Try.ntmps82
  go_wp2_with (go_at_call 118; refine (close_no _ G gn gt gp cn ct cp h1 false Hs.out).mono ?_; rintro e w1 ⟨rfl, hb1⟩)
  go_ret
  exact ⟨rfl, hb0.trans (hb1.mono hb0.size)⟩

set_option maxHeartbeats 1000000 in
theorem gen_yes (w : World) (G : Gr) (gn gt gp : Option Addr) (cn ct cp : Nat) (h : GIn w G gn gt gp) (hs : Pl.soundB G = true) :
    Calls Try.prog 80 #[.agg #[.int .i64 G.start, .int .i64 G.rules, .slice gn G.names.length cn, .slice gt G.terms.length ct, .slice gp G.prods.length cp]] w (BPost w G.names.length (Facts.Gen G.prods true)) := by
  have hb0 : Below w.heap.size w (w.alloc (.cells #[.int .i64 G.start, .int .i64 G.rules, .slice gn G.names.length cn, .slice gt G.terms.length ct, .slice gp G.prods.length cp] 30)) := (Below.refl _ _).alloc (Nat.le_refl _) _
  have h1 := h.later hb0
  have Hs := hid hs
  clear hs
  go_enter Try.func80, Try.ntmps80
  go_wp2_with (go_at_call 118; refine (close_yes _ G gn gt gp cn ct cp h1 true Hs.out).mono ?_; rintro e w1 ⟨ga, cap, bs, rfl, h7, h8, h9, hb1⟩)
  go_ret
  exact ⟨ga, cap, bs, rfl, h7, h8, h9, hb0.trans (hb1.mono hb0.size)⟩
set_option maxHeartbeats 1000000 in
theorem gen_no (w : World) (G : Gr) (gn gt gp : Option Addr) (cn ct cp : Nat) (h : GIn w G gn gt gp) (hs : Pl.soundB G = false) :
    Calls Try.prog 80 #[.agg #[.int .i64 G.start, .int .i64 G.rules, .slice gn G.names.length cn, .slice gt G.terms.length ct, .slice gp G.prods.length cp]] w (NoPost w) := by
  have hb0 : Below w.heap.size w (w.alloc (.cells #[.int .i64 G.start, .int .i64 G.rules, .slice gn G.names.length cn, .slice gt G.terms.length ct, .slice gp G.prods.length cp] 30)) := (Below.refl _ _).alloc (Nat.le_refl _) _
  have h1 := h.later hb0
  have Hs := hid hs
  clear hs
  go_enter Try.func80, Try.ntmps80
  go_wp2_with (go_at_call 118; refine (close_no _ G gn gt gp cn ct cp h1 true Hs.out).mono ?_; rintro e w1 ⟨rfl, hb1⟩)
  go_ret
  exact ⟨rfl, hb0.trans (hb1.mono hb0.size)⟩
end Go.Proofs.Ytaehooafdbaomaa
