/- Chapter 14 (tree), the document's side: There, Root. -/
import Derived.Test.YtaehooafdbaomaaTreeC
namespace Go.Proofs.Ytaehooafdbaomaa
open Go.RowKit
attribute [local go_sem ↓] Go.wp_at_zero Go.wp_at_succ
attribute [local go_sem] frozen_alloc_lt
section
variable (w : World) (G : Gr) (gn gt gp : Option Addr) (cn ct cp : Nat) (h : ChIn w G gn gt gp)
include h
set_option maxHeartbeats 1000000 in
theorem rthere_calls (p : Int) (hp : -9223372036854775808 ≤ p) : Calls Try.prog 72 #[.agg #[.int .i64 G.start, .int .i64 G.rules, .slice gn G.names.length cn, .slice gt G.terms.length ct, .slice gp G.prods.length cp], .int .i64 p] w fun e w' => e = .returned (.bool (Tr.thereB G p)) ∧ Below w.heap.size w w' := by
  have hb0 : Below w.heap.size w (w.alloc (.cells #[.int .i64 G.start, .int .i64 G.rules, .slice gn G.names.length cn, .slice gt G.terms.length ct, .slice gp G.prods.length cp] 33)) := bel_al (bel_id w) _
  have h2 := h.h2
  have h3 := h.h3
  by_cases c0 : p < 0
  · by_cases c : -1 - p < (G.terms.length : Int)
    · have e : Tr.thereB G p = true := by simp [Tr.thereB]; omega
      have c2 : decide (-1 - p < (G.terms.length : Int)) = true := by simpa using c
      rw [e]
      clear e h
      go_enter Try.func72, Try.ntmps72
      go_wp2
      go_ret
      exact ⟨rfl, hb0⟩
    · have e : Tr.thereB G p = false := by simp [Tr.thereB]; omega
      have c2 : decide (-1 - p < (G.terms.length : Int)) = false := by simpa using c
      rw [e]
      clear e h
      go_enter Try.func72, Try.ntmps72
      go_wp2
      go_ret
      exact ⟨rfl, hb0⟩
  · by_cases c : p < (G.prods.length : Int)
    · have e : Tr.thereB G p = true := by simp [Tr.thereB]; omega
      have c2 : decide (p < (G.prods.length : Int)) = true := by simpa using c
      rw [e]
      clear e h
      go_enter Try.func72, Try.ntmps72
      go_wp2
      go_ret
      exact ⟨rfl, hb0⟩
    · have e : Tr.thereB G p = false := by simp [Tr.thereB]; omega
      have c2 : decide (p < (G.prods.length : Int)) = false := by simpa using c
      rw [e]
      clear e h
      go_enter Try.func72, Try.ntmps72
      go_wp2
      go_ret
      exact ⟨rfl, hb0⟩
set_option maxHeartbeats 1000000 in
theorem rroot_calls (p : Int) (hp : p < (G.prods.length : Int)) : Calls Try.prog 73 #[.agg #[.int .i64 G.start, .int .i64 G.rules, .slice gn G.names.length cn, .slice gt G.terms.length ct, .slice gp G.prods.length cp], .int .i64 p] w fun e w' => e = .returned (.int .i64 (Tr.rootS G p)) ∧ Below w.heap.size w w' := by
  have hb0 : Below w.heap.size w (w.alloc (.cells #[.int .i64 G.start, .int .i64 G.rules, .slice gn G.names.length cn, .slice gt G.terms.length ct, .slice gp G.prods.length cp] 33)) := bel_al (bel_id w) _
  by_cases c : p < 0
  · have e : Tr.rootS G p = p := by unfold Tr.rootS; rw [if_pos c]
    have E := hid e
    clear e h
    go_enter Try.func73, Try.ntmps73
    go_wp2
    go_ret
    rw [E.out]
    exact ⟨rfl, hb0⟩
  · obtain ⟨q, rfl⟩ := Int.eq_ofNat_of_zero_le (show 0 ≤ p by omega)
    have hq : q < G.prods.length := by omega
    have hx : G.prods[q]? = some G.prods[q] := List.getElem?_eq_getElem hq
    have e : Tr.rootS G (q : Int) = G.prods[q].1 := by unfold Tr.rootS; rw [if_neg c, Int.toNat_natCast, List.getD, hx]; rfl
    obtain ⟨g, off, gr, cr, rfl, hg, e0, e1, hr⟩ := h.g.p q _ hx
    obtain ⟨l, hl⟩ : ∃ l, l = G.prods[q].1 := ⟨_, rfl⟩
    rw [← hl] at e e0
    have E := hid e
    have e0' := (hb0.cell (p := ⟨g, _, none⟩) hg).trans e0
    have h3 := h.h3
    clear e h hx hr e1 hl e0
    go_enter Try.func73, Try.ntmps73
    go_wp2
    go_ret
    rw [E.out]
    exact ⟨rfl, hb0⟩
end
end Go.Proofs.Ytaehooafdbaomaa
