/- Bytes in rows; a text quoted, in plain Lean. No program but its types' numbers. -/
import Derived.Test.YtaehooafdbaomaaBase
import Derived.Test.YtaehooafdbaomaaLexSpec
import Derived.Laws.OwnMore
namespace Go.Proofs.Ytaehooafdbaomaa.Lex

def hexD (n : Nat) : UInt8 := hexes.getD n 0
def quoteB (q c : UInt8) : List UInt8 :=
  if c = q ∨ c = 92 then [92, c] else if c = 10 then [92, 110] else if c = 9 then [92, 116] else if c < 32 ∨ 126 < c then [92, 120, hexD (c.toNat / 16), hexD (c.toNat % 16)] else [c]
def quoteQ (l : List UInt8) : UInt8 := if l.count 34 < l.count 39 then 34 else 39
def quoteS (l : List UInt8) : List UInt8 := quoteQ l :: (l.flatMap (quoteB (quoteQ l)) ++ [quoteQ l])

theorem quoteQ_or (l : List UInt8) : quoteQ l = 39 ∨ quoteQ l = 34 := by unfold quoteQ; split <;> simp
theorem quoteB_len (q c : UInt8) : 1 ≤ (quoteB q c).length ∧ (quoteB q c).length ≤ 4 := by unfold quoteB; constructor <;> (repeat' split) <;> simp
theorem quoteF_len (q : UInt8) : ∀ l : List UInt8, (l.flatMap (quoteB q)).length ≤ 4 * l.length
  | [] => by simp
  | c :: l => by
    have h1 := quoteB_len q c
    have h2 := quoteF_len q l
    simp only [List.flatMap_cons, List.length_append, List.length_cons]
    omega
theorem quoteS_len (l : List UInt8) : (quoteS l).length ≤ 4 * l.length + 2 := by
  have := quoteF_len (quoteQ l) l
  simp only [quoteS, List.length_cons, List.length_append, List.length_nil]
  omega

end Go.Proofs.Ytaehooafdbaomaa.Lex
namespace Go.Proofs.Ytaehooafdbaomaa
open Go.RowKit

theorem tob (c : UInt8) (n : Nat) (hn : n < 256) (h : c = UInt8.ofNat n) : ((c.toNat : Int) == (n : Int)) = true := by rw [byte_eq c n hn, h]; simp
theorem tobf (c : UInt8) (n : Nat) (hn : n < 256) (h : c ≠ UInt8.ofNat n) : ((c.toNat : Int) == (n : Int)) = false := by rw [byte_eq c n hn]; simpa using h

def u8s (l : List UInt8) : List Value := l.map fun c => .int .u8 c.toNat

theorem own_own_ne {w : World} {base base' : Nat} {e e' : TypeId} {size size' n n' : Nat} {v v' : Value} {xs xs' : List Value} (h : w.ownsRow base e size v n xs) (h' : w.ownsRow base' e' size' v' n' xs') (hne : e ≠ e') :
    ∀ k, v.ownBlock = some k → v'.ownBlock ≠ some k := by
  intro k hk
  rcases h.2 with ⟨rfl, _⟩ | ⟨g, cap, cur, rfl, _, hh, _⟩
  · simp [Value.ownBlock] at hk
  · have hg : g = k := by simpa [Value.ownBlock] using hk
    subst hg
    have hb : Bk w g e cur.toList := by unfold Bk; simpa using hh
    exact hb.own_ne h' (Ne.symm hne)

theorem conv_own {w : World} {base n : Nat} {v : Value} {l : List UInt8} (h : w.ownsRow base 5 1 v n (u8s l)) (hn : n = l.length) :
    (convert 102 9 v).run Try.prog w = .ok (.string ⟨l.toArray⟩) w := by
  rcases h.2 with ⟨rfl, h0⟩ | ⟨g, cap, cur, rfl, _, _⟩
  · have : l = [] := List.eq_nil_of_length_eq_zero (by omega)
    subst this
    exact run_convert_bytes_nil w _ _ Try.underlying102 Try.underlying5 0 0 _ Try.underlying9
  · subst hn
    refine run_convert_bytes_back w _ _ _ ⟨g, 0, none⟩ cap l Try.underlying102 Try.underlying5 Try.underlying9 (fun j hj => ?_)
    exact h.cells (g := g) rfl j _ (by simp [u8s, List.getElem?_eq_getElem hj])

theorem u8Info : (Try.prog.info? 5).map (fun i => (i.zero, i.size, i.bytes)) = some (some (.int .u8 0), 1, 1) := by kernel_rfl

end Go.Proofs.Ytaehooafdbaomaa
