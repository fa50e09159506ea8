/- Chapter 17 (earley): Yes: walks; contracts of all a chart's readers, at a pointer that may be nil. -/
import Derived.Test.YtaehooafdbaomaaEar11
namespace Go.Proofs.Ytaehooafdbaomaa
open Go.RowKit
attribute [local go_sem ↓] Go.wp_at_zero Go.wp_at_succ
attribute [local go_sem] frozen_alloc_lt
namespace Ed

set_option maxHeartbeats 1000000 in
theorem yes_none (w : World) : Calls Try.prog 48 #[.pointer none] w fun e w' => e = .returned (.bool false) ∧ w = w' := by
  go_enter Try.func48, Try.ntmps48
  go_wp2_with fail
  go_ret
  exact ⟨rfl, rfl⟩
/-- What Yes answers. -/
def YesSaid (w : World) (ps : List (Int × List Int)) (st : Int) (word : List Int) (e : Ending) (w' : World) : Prop := ∃ b : Bool, e = .returned (.bool b) ∧ (b = true ↔ Dw ps [st] word) ∧ Below w.heap.size w w'
set_option maxHeartbeats 2000000 in
theorem yes_some (w : World) (c : Nat) (G : Gr) (word : List Int) (Xs : List (List Itm)) (h : ChS w c G word Xs) (hS : SetsAre G.prods G.start word Xs) (E : Env G.prods word) (hst : 0 ≤ G.start) :
    Calls Try.prog 48 #[.pointer (some ⟨c, 0, none⟩)] w (YesSaid w G.prods G.start word) := by
  have hends := ends_some w c G word Xs (word.length : Int) h hS E hst
  obtain ⟨gw, cw, c5⟩ := h.c5
  have hw := E.w
  have Hends := hid hends
  clear hends h hS E
  go_enter Try.func48, Try.ntmps48
  go_wp2_with (go_at_call 45; refine Hends.out.mono ?_; rintro e w1 ⟨b, rfl, hb, hb1⟩; have H1 := hid (And.intro hb hb1); clear hb hb1)
  go_ret
  refine ⟨b, rfl, ?_, H1.out.2⟩
  rw [H1.out.1]
  constructor
  · rintro ⟨m, h1, _, h2⟩
    obtain rfl : word.length = m := by omega
    rwa [List.take_length] at h2
  · intro h
    exact ⟨word.length, rfl, Nat.le_refl _, by rwa [List.take_length]⟩
end Ed
end Go.Proofs.Ytaehooafdbaomaa
