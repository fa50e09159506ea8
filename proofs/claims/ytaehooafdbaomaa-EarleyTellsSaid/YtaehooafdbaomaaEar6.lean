/- Chapter 17 (earley): Make's closures: walks; what derives a word, and what generates. -/
import Derived.Test.YtaehooafdbaomaaEar5
import Derived.Test.YtaehooafdbaomaaShoGen
import Derived.Test.YtaehooafdbaomaaClone5
namespace Go.Proofs.Ytaehooafdbaomaa
open Go.RowKit
attribute [local go_sem ↓] Go.wp_at_zero Go.wp_at_succ
attribute [local go_sem] frozen_alloc_lt
namespace Ed

/-- A terminal that a grammar of t terminals has not. -/
def badT (t : Nat) (s : Int) : Bool := decide (s < 0) || decide ((t : Int) ≤ s)
set_option maxHeartbeats 1000000 in
theorem mk1_calls (w : World) (b : Nat) (t : Nat) (gt : Option Addr) (ct : Nat) (z : Int) (ht : w.cell? ⟨b, 3, none⟩ = some (.slice gt t ct)) :
    Calls Try.prog 79 #[.int .i64 z, .pointer (some ⟨b, 0, none⟩)] w fun e w' => e = .returned (.bool (badT t z)) ∧ w = w' := by
  by_cases c1 : z < 0
  · have e1 : badT t z = true := by simp [badT, c1]
    have E1 := hid e1
    clear e1
    go_enter Try.func79, Try.ntmps79
    go_wp2_with fail
    all_goals go_ret
    all_goals (rw [E1.out]; exact ⟨rfl, rfl⟩)
  · by_cases c2 : (t : Int) ≤ z
    · have e1 : badT t z = true := by simp [badT, c2]
      have E1 := hid e1
      clear e1
      go_enter Try.func79, Try.ntmps79
      go_wp2_with fail
      all_goals go_ret
      all_goals (rw [E1.out]; exact ⟨rfl, rfl⟩)
    · have e1 : badT t z = false := by simp [badT]; omega
      have E1 := hid e1
      clear e1
      go_enter Try.func79, Try.ntmps79
      go_wp2_with fail
      all_goals go_ret
      all_goals (rw [E1.out]; exact ⟨rfl, rfl⟩)
/-- A nonterminal out of which no word comes. -/
def badG (gen : Int → Bool) (s : Int) : Bool := decide (0 ≤ s) && !gen s
set_option maxHeartbeats 1000000 in
theorem mk2_calls (w : World) (bb n : Nat) (gg : Option Addr) (cg : Nat) (gb : List Bool) (z : Int) (hc : w.cell? ⟨bb, 0, none⟩ = some (.slice gg n cg)) (hg : RowB w w.heap.size gg gb) (hl : gb.length = n) (hz : z < n) :
    Calls Try.prog 83 #[.int .i64 z, .pointer (some ⟨bb, 0, none⟩)] w fun e w' => e = .returned (.bool (badG (Facts.inB gb) z)) ∧ w = w' := by
  by_cases c1 : 0 ≤ z
  · obtain ⟨m, rfl⟩ := Int.eq_ofNat_of_zero_le c1
    have hm : m < gb.length := by omega
    obtain ⟨g, off, rfl, hgl, hcl⟩ := hg.at hm
    have e1 : Facts.inB gb m = gb[m] := by simp [Facts.inB, List.getD, List.getElem?_eq_getElem hm]
    obtain ⟨v, hv⟩ : ∃ v, v = gb[m] := ⟨_, rfl⟩
    rw [← hv] at hcl e1
    have e2 : badG (Facts.inB gb) (m : Int) = !v := by simp [badG, e1]
    have E2 := hid e2
    clear e1 e2 hv hl hm
    go_enter Try.func83, Try.ntmps83
    go_wp2_with fail
    all_goals go_ret
    all_goals (rw [E2.out]; exact ⟨rfl, rfl⟩)
  · have e2 : badG (Facts.inB gb) z = false := by simp [badG]; omega
    have E2 := hid e2
    have hneg : z < 0 := by omega
    clear e2
    go_enter Try.func83, Try.ntmps83
    go_wp2_with fail
    all_goals go_ret
    all_goals (rw [E2.out]; exact ⟨rfl, rfl⟩)

section
variable {ps : List (Int × List Int)}
theorem one_term {s : Int} (h : s < 0) : Dw ps [s] [-1 - s] := .term h .nil
theorem gen_dw {a : Int} (h0 : ∀ x ∈ ps, 0 ≤ x.1) (h : Facts.Gen ps true a) : ∃ z, Dw ps [a] z := by
  induction h with
  | mk x hx _ _ ih =>
    obtain ⟨z, hz⟩ := Dw.all (ps := ps) (xs := x.2) (fun s hs => by
      by_cases hn : s < 0
      · exact ⟨_, one_term hn⟩
      · exact ih s hs (by omega))
    exact ⟨z, Dw.one (h0 x hx) hx hz⟩
theorem dw_gen {xs z : List Int} (h : Dw ps xs z) : ∀ s ∈ xs, 0 ≤ s → Facts.Gen ps true s := by
  induction h with
  | nil => intro s hs; cases hs
  | @term t xs z ht _ ih =>
    intro s hs h0
    rcases List.mem_cons.1 hs with rfl | hs
    · omega
    · exact ih s hs h0
  | @prod t R xs z1 z2 _ hp _ _ ih1 ih2 =>
    intro s hs h0
    rcases List.mem_cons.1 hs with rfl | hs
    · exact Facts.Gen.mk (s, R) hp (fun _ _ _ => rfl) (fun s' h1 h2 => ih1 s' h1 h2)
    · exact ih2 s hs h0
theorem gen_iff (h0 : ∀ x ∈ ps, 0 ≤ x.1) {a : Int} (ha : 0 ≤ a) : Facts.Gen ps true a ↔ ∃ z, Dw ps [a] z :=
  ⟨gen_dw h0, fun ⟨_, hz⟩ => dw_gen hz a (by simp) ha⟩
theorem Dw.nils : ∀ {xs : List Int}, (∀ s ∈ xs, Dw ps [s] []) → Dw ps xs []
  | [], _ => .nil
  | s :: xs, h => by
    have := (h s (List.mem_cons_self ..)).app (Dw.nils (xs := xs) (fun t ht => h t (List.mem_cons_of_mem _ ht)))
    simpa using this
theorem null_dw {a : Int} (h0 : ∀ x ∈ ps, 0 ≤ x.1) (h : Facts.Gen ps false a) : Dw ps [a] [] := by
  induction h with
  | mk x hx hn _ ih =>
    refine Dw.one (h0 x hx) hx (Dw.nils fun s hs => ?_)
    by_cases hneg : s < 0
    · have := hn s hs hneg
      cases this
    · exact ih s hs (by omega)
theorem dw_null {xs z : List Int} (h : Dw ps xs z) : z = [] → ∀ s ∈ xs, 0 ≤ s ∧ Facts.Gen ps false s := by
  induction h with
  | nil => intro _ s hs; cases hs
  | @term t xs z ht _ ih => intro h; cases h
  | @prod t R xs z1 z2 h0 hp _ _ ih1 ih2 =>
    intro hz s hs
    rw [List.append_eq_nil_iff] at hz
    rcases List.mem_cons.1 hs with rfl | hs
    · refine ⟨h0, Facts.Gen.mk (s, R) hp (fun s' h1 h2 => ?_) (fun s' h1 _ => (ih1 hz.1 s' h1).2)⟩
      have := (ih1 hz.1 s' h1).1
      omega
    · exact ih2 hz.2 s hs
theorem null_iff (h0 : ∀ x ∈ ps, 0 ≤ x.1) {a : Int} : Facts.Gen ps false a ↔ Dw ps [a] [] :=
  ⟨null_dw h0, fun h => (dw_null h rfl a (by simp)).2⟩
theorem fine_iff (h0 : ∀ x ∈ ps, 0 ≤ x.1) {gen : Int → Bool} (hg : ∀ a : Int, 0 ≤ a → (gen a = true ↔ Facts.Gen ps true a)) (R : List Int) : Fine ps R ↔ R.any (badG gen) = false := by
  constructor
  · intro h
    cases hc : R.any (badG gen) with
    | false => rfl
    | true =>
      obtain ⟨s, hs, hb⟩ := List.any_eq_true.1 hc
      unfold badG at hb
      rw [Bool.and_eq_true, decide_eq_true_eq, Bool.not_eq_true'] at hb
      have := (hg s hb.1).2 ((gen_iff h0 hb.1).2 (h s hs))
      rw [hb.2] at this
      cases this
  · intro h s hs
    by_cases hn : s < 0
    · exact ⟨_, one_term hn⟩
    · refine (gen_iff h0 (by omega)).1 ((hg s (by omega)).1 ?_)
      cases hc : gen s with
      | true => rfl
      | false =>
        have : R.any (badG gen) = true := List.any_eq_true.2 ⟨s, hs, by unfold badG; rw [hc]; simp; omega⟩
        rw [h] at this
        cases this
end
end Ed
end Go.Proofs.Ytaehooafdbaomaa
