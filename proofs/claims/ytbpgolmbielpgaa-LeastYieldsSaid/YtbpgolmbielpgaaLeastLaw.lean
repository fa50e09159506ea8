/- Chapter 15 (least): the plain law of tails. No program. -/
import Derived.Test.YtbpgolmbielpgaaRep
namespace Go.Proofs.Ytbpgolmbielpgaa
namespace Le
abbrev cap : Int := 1099511627776
/-- Of two counts the lesser one; -1: none. -/
def better (b n : Int) : Int := if n = -1 then b else if b = -1 ∨ n < b then n else b
def comb (own rest : Int) : Int := if rest = -1 ∨ own = -1 then -1 else min (own + rest) cap
/-- The best of f at i, i + 1, .. -/
def bestF (f : Nat → Int) (i : Nat) : Nat → Int
  | 0 => -1
  | c + 1 => better (bestF f i c) (f (i + c))
/-- The nodes of what stands in a right side from a symbol on, from i to the end. -/
def tl (of : Int → Nat → Nat → Int) (to : Nat) : List Int → Nat → Int
  | [], i => if i = to then 0 else -1
  | s :: r, i => bestF (fun j => comb (of s i j) (tl of to r j)) i (to + 1 - i)
/-- The nodes of a symbol and a part. -/
def ofT (N : Nat → Nat → Nat → Int) (word : List Int) (s : Int) (i j : Nat) : Int := if 0 ≤ s then N s.toNat i j else if j = i + 1 ∧ word.getD i 0 = -1 - s then 1 else -1
theorem better_range {b n : Int} (hb : -1 ≤ b ∧ b ≤ cap) (hn : -1 ≤ n ∧ n ≤ cap) : -1 ≤ better b n ∧ better b n ≤ cap := by
  unfold better
  split
  · exact hb
  · split
    · exact hn
    · exact hb
theorem comb_range {o r : Int} (ho : -1 ≤ o ∧ o ≤ cap) (hr : -1 ≤ r ∧ r ≤ cap) : -1 ≤ comb o r ∧ comb o r ≤ cap := by
  unfold comb cap at *
  split <;> omega
theorem bestF_range {f : Nat → Int} (hf : ∀ j, -1 ≤ f j ∧ f j ≤ cap) (i : Nat) : ∀ c, -1 ≤ bestF f i c ∧ bestF f i c ≤ cap
  | 0 => by unfold bestF cap; omega
  | c + 1 => better_range (bestF_range hf i c) (hf _)
theorem tl_range {of : Int → Nat → Nat → Int} (hof : ∀ s i j, -1 ≤ of s i j ∧ of s i j ≤ cap) (to : Nat) : ∀ (xs : List Int) (i : Nat), -1 ≤ tl of to xs i ∧ tl of to xs i ≤ cap
  | [], i => by unfold tl cap; split <;> omega
  | s :: r, i => bestF_range (fun j => comb_range (hof s i j) (tl_range hof to r j)) i _
end Le
end Go.Proofs.Ytbpgolmbielpgaa
