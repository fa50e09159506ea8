/- Chapter 9 (facts): First: what it computes, the closure, the row of maps. -/
import Derived.Test.YtbpgolmbielpgaaFacts8
import Derived.Test.YtbpgolmbielpgaaCopyI
namespace Go.Proofs.Ytbpgolmbielpgaa
open Go.RowKit
attribute [local go_sem ↓] Go.wp_at_zero Go.wp_at_succ
attribute [local go_sem] frozen_alloc_lt

namespace Facts
/-- The nonterminals that may come first in a right side. -/
def preS (nul : Int → Bool) : List Int → List Int
  | [] => []
  | s :: r => if s < 0 then [] else if nul s then s :: preS nul r else [s]
/-- The terminal that comes first in it, behind such as may be empty. -/
def terS (nul : Int → Bool) : List Int → Option Int
  | [] => none
  | s :: r => if s < 0 then some (-1 - s) else if nul s then terS nul r else none
def badS (gen : Int → Bool) (s : Int) : Bool := decide (0 ≤ s) && !gen s
def stepF (nul gen : Int → Bool) (r : List Int) : List Int := if r.any (badS gen) then [] else preS nul r
def terF (nul gen : Int → Bool) (r : List Int) : Option Int := if r.any (badS gen) then none else terS nul r
def putT (fs : List (List Int)) (a : Nat) : Option Int → List (List Int)
  | none => fs
  | some t => fs.set a (t :: fs.getD a [])
def firT (f : List Int → Option Int) : List (List Int) → List (Int × List Int) → List (List Int)
  | fs, [] => fs
  | fs, x :: r => firT f (putT fs x.1.toNat (f x.2)) r

theorem putT_length (fs : List (List Int)) (a : Nat) (t : Option Int) : (putT fs a t).length = fs.length := by
  cases t <;> simp [putT]
theorem preS_mem {nul : Int → Bool} : ∀ {r : List Int} {s : Int}, s ∈ preS nul r → 0 ≤ s ∧ s ∈ r
  | [], s, h => by simp [preS] at h
  | x :: r, s, h => by
    unfold preS at h
    split at h
    · cases h
    · split at h
      · rcases List.mem_cons.1 h with rfl | h
        · exact ⟨by omega, by simp⟩
        · have := preS_mem h
          exact ⟨this.1, List.mem_cons_of_mem _ this.2⟩
      · simp at h
        subst h
        exact ⟨by omega, by simp⟩
theorem preS_length {nul : Int → Bool} : ∀ (r : List Int), (preS nul r).length ≤ r.length
  | [] => by simp [preS]
  | x :: r => by
    unfold preS
    have := preS_length (nul := nul) r
    split
    · simp
    · split <;> simp <;> omega
theorem stepF_mem {nul gen : Int → Bool} {r : List Int} {s : Int} (h : s ∈ stepF nul gen r) : 0 ≤ s ∧ s ∈ r := by
  unfold stepF at h
  split at h
  · cases h
  · exact preS_mem h
theorem stepF_length {nul gen : Int → Bool} (r : List Int) : (stepF nul gen r).length ≤ r.length := by
  unfold stepF
  split
  · simp
  · exact preS_length r
end Facts

set_option maxHeartbeats 1000000 in
theorem first1_calls (w : World) (bb n : Nat) (gg : Option Addr) (cg : Nat) (gb : List Bool) (z : Int) (hc : w.cell? ⟨bb, 0, none⟩ = some (.slice gg n cg)) (hg : RowB w w.heap.size gg gb) (hl : gb.length = n) (hz : z < n) :
    Calls Try.prog 61 #[.int .i64 z, .pointer (some ⟨bb, 0, none⟩)] w fun e w' => e = .returned (.bool (Facts.badS (Facts.inB gb) z)) ∧ w = w' := by
  by_cases c1 : 0 ≤ z
  · obtain ⟨m, rfl⟩ := Int.eq_ofNat_of_zero_le c1
    have hm : m < gb.length := by omega
    obtain ⟨g, off, rfl, hgl, hcl⟩ := hg.at hm
    have e1 : Facts.inB gb m = gb[m] := by simp [Facts.inB, List.getD, List.getElem?_eq_getElem hm]
    obtain ⟨v, hv⟩ : ∃ v, v = gb[m] := ⟨_, rfl⟩
    rw [← hv] at hcl e1
    have e2 : Facts.badS (Facts.inB gb) (m : Int) = !v := by simp [Facts.badS, e1]
    have E2 := hid e2
    clear e1 e2 hv hl hm
    go_enter Try.func61, Try.ntmps61
    go_wp2_with fail
    all_goals go_ret
    all_goals (rw [E2.out]; exact ⟨rfl, rfl⟩)
  · have e2 : Facts.badS (Facts.inB gb) z = false := by simp [Facts.badS]; omega
    have E2 := hid e2
    have hneg : z < 0 := by omega
    clear e2
    go_enter Try.func61, Try.ntmps61
    go_wp2_with fail
    all_goals go_ret
    all_goals (rw [E2.out]; exact ⟨rfl, rfl⟩)

/-- Block bf holds maps, one for each list of fs, each in a block of its own from base on. -/
structure FirM (w : World) (base bf : Nat) (T : TypeId) (ms : List Value) (fs : List (List Int)) (m : Nat) : Prop where
  k : Bk w bf T ms
  len : ms.length = fs.length
  row : ∀ (a : Nat) l, fs[a]? = some l → ∃ b n, ms[a]? = some (.map (some b)) ∧ base ≤ b ∧ n ≤ m ∧ SetI w b n l
  inj : ∀ (a a' : Nat) b, ms[a]? = some (.map (some b)) → ms[a']? = some (.map (some b)) → a = a'

section
variable {w w' : World} {base bf : Nat} {T : TypeId} {ms : List Value} {fs : List (List Int)} {m : Nat}
theorem FirM.mono (h : FirM w base bf T ms fs m) {m' : Nat} (hm : m ≤ m') : FirM w base bf T ms fs m' :=
  ⟨h.k, h.len, fun a l hl => by
    obtain ⟨b, n, h1, h2, h3, h4⟩ := h.row a l hl
    exact ⟨b, n, h1, h2, by omega, h4⟩, h.inj⟩
theorem FirM.kp {S : Nat → Prop} (h : FirM w base bf T ms fs m) (hk : Kp S w w') (h1 : ¬ S bf) (h2 : ∀ k, S k → ∀ es c, w.heap[k]? ≠ some (.map es c)) : FirM w' base bf T ms fs m :=
  ⟨h.k.kp hk h1, h.len, fun a l hl => by
    obtain ⟨b, n, h3, h4, h5, h6⟩ := h.row a l hl
    obtain ⟨es, c, h7⟩ := h6.block
    exact ⟨b, n, h3, h4, h5, h6.kp hk fun e => h2 b e es c h7⟩, h.inj⟩
theorem FirM.new {S : Nat → Prop} (h : FirM w base bf T ms fs m) (hk : Kp S w w') (hS : ∀ k, S k → w.heap.size ≤ k) : FirM w' base bf T ms fs m :=
  ⟨h.k.kp hk (fun e => by have := hS _ e; have := h.k.lt; omega), h.len, fun a l hl => by
    obtain ⟨b, n, h3, h4, h5, h6⟩ := h.row a l hl
    exact ⟨b, n, h3, h4, h5, h6.kp hk fun e => by have := hS _ e; have := h6.lt; omega⟩, h.inj⟩
/-- One map is written. -/
theorem FirM.put (h : FirM w base bf T ms fs m) {a b n : Nat} {l l' : List Int} (hl : fs[a]? = some l) (ha : ms[a]? = some (.map (some b))) (hb : base ≤ b) (hbf : bf < base) (hn : n ≤ m + 1) (hs : SetI w' b n l') (hg : w.grownBy w' (some b)) : FirM w' base bf T ms (fs.set a l') (m + 1) := by
  have hk : Kp (fun k => k = b) w w' := (Kp.refl _ w).grown hg (fun k e _ => by injection e with e; exact e.symm)
  refine ⟨h.k.kp hk (by omega), by rw [List.length_set]; exact h.len, fun c l2 hc => ?_, h.inj⟩
  have hal : a < fs.length := (List.getElem?_eq_some_iff.1 hl).1
  by_cases hca : c = a
  · subst hca
    rw [List.getElem?_set_self hal] at hc
    cases hc
    exact ⟨b, n, ha, hb, hn, hs⟩
  · rw [List.getElem?_set_ne (fun e => hca e.symm)] at hc
    obtain ⟨b2, n2, h3, h4, h5, h6⟩ := h.row c l2 hc
    exact ⟨b2, n2, h3, h4, by omega, h6.kp hk fun e => hca (h.inj c a b (by rw [← e]; exact h3) ha)⟩
end
end Go.Proofs.Ytbpgolmbielpgaa
