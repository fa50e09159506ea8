/- Chapter 17 (earley): a set of items as a map keyed by them. No walk. -/
import Derived.Test.YtaehooafdbaomaaRep
import Derived.Test.YtaehooafdbaomaaEd1
import Derived.Maps.OwnOps
import Derived.Maps.OwnSet
import Derived.Maps.Views
import Derived.Maps.Keyed
import Derived.DeepKeys4
namespace Go.Proofs.Ytaehooafdbaomaa
open Go.RowKit
namespace Ed

theorem item_row : 146 < Try.prog.types.size := of_decide_eq_true (by kernel_rfl)
theorem item_law : WideMaps.KeyLaw Try.prog 146 := deep_law_laid (by kernel_rfl) (m := 3) (by omega) item_row (by kernel_rfl) (by kernel_rfl)
theorem item_kt : Try.prog.keyType 146 = true := by kernel_rfl
theorem item_cells : Try.prog.cellsOf 146 = 3 := by kernel_rfl
theorem item_int_cells : Try.prog.cellsOf 3 = 1 := by kernel_rfl
theorem item_size : ∃ m, Try.prog.types.size = m + 1 := ⟨_, rfl⟩
theorem item_keyed : Maps.Keyed Try.prog 146 := Maps.Keyed.of_law item_law
theorem item_key {a b c : Int} (wa : (Lit.int .i64 a).wf = true) (wb : (Lit.int .i64 b).wf = true) (wc : (Lit.int .i64 c).wf = true) : keyOf Try.prog 146 (.agg #[.int .i64 a, .int .i64 b, .int .i64 c]) = some (.string (keyBytes [.int .i64 a, .int .i64 b, .int .i64 c])) := by
  obtain ⟨m, hm⟩ := item_size
  unfold keyOf
  simp only [Try.underlying146]
  rw [if_pos (by simp [item_kt, Value.formed, Try.underlying146, item_cells]), hm]
  unfold Program.keyLits
  simp only [Try.underlying146, Value.cells]
  rw [if_pos (by simp [item_cells])]
  simp [Program.keyLits, Try.underlying3, item_int_cells, wa, wb, wc]
/-- An item's value, its cells, its key. -/
def itC (x : Itm) : List Value := [.int .i64 x.1, .int .i64 x.2.1, .int .i64 x.2.2]
def itV (x : Itm) : Value := .agg #[.int .i64 x.1, .int .i64 x.2.1, .int .i64 x.2.2]
def itK (x : Itm) : Lit := .string (keyBytes [.int .i64 (x.1 : Int), .int .i64 (x.2.1 : Int), .int .i64 (x.2.2 : Int)])
/-- Such as there may be. -/
def InR (x : Itm) : Prop := x.1 ≤ 1000000 ∧ x.2.1 ≤ 1000000 ∧ x.2.2 ≤ 1000000
theorem nat_wf {n : Nat} (h : n ≤ 1000000) : (Lit.int .i64 (n : Int)).wf = true := by
  show (decide (IntKind.i64.min ≤ (n : Int)) && decide ((n : Int) ≤ IntKind.i64.max)) = true
  rw [Bool.and_eq_true, decide_eq_true_eq, decide_eq_true_eq]
  have e1 : IntKind.i64.min = -9223372036854775808 := by decide
  have e2 : IntKind.i64.max = 9223372036854775807 := by decide
  omega
theorem InR.key {x : Itm} (h : InR x) : keyOf Try.prog 146 (itV x) = some (itK x) := item_key (nat_wf h.1) (nat_wf h.2.1) (nat_wf h.2.2)
theorem itV_inj {x y : Itm} (h : itV x = itV y) : x = y := by
  unfold itV at h
  obtain ⟨a, b, c⟩ := x
  obtain ⟨a', b', c'⟩ := y
  simp only [Value.agg.injEq, Array.mk.injEq, List.cons.injEq, Value.int.injEq, true_and, and_true] at h
  obtain ⟨h1, h2, h3⟩ := h
  rw [show a = a' by omega, show b = b' by omega, show c = c' by omega]
theorem itK_inj {x y : Itm} (hx : InR x) (hy : InR y) (h : itK x = itK y) : x = y := itV_inj (item_law.inj hx.key (h ▸ hy.key))
def ViewE (D : DataW Value) (l : List Itm) : Prop := (∀ x, InR x → Maps.has D (itK x) = decide (x ∈ l)) ∧ ∀ x, InR x → x ∈ l → ∀ zd, D.atKey (itK x) zd = .held (.bool true)
def anyE (v : Value) : Option (DataW Value × List MemPlace) := some (.held v, [])
/-- The set in block b. -/
def SetE (w : World) (b n : Nat) (l : List Itm) : Prop := ∃ D : DataW Value, w.ownsMap Try.prog 146 anyE b n D ∧ ViewE D l
section
variable {w w' : World} {b n : Nat} {l : List Itm}
theorem SetE.made (w : World) : SetE (w.alloc (.map #[] 0)) w.heap.size 0 [] := ⟨.map [], World.ownsMap_made _ _ _ _, fun x _ => by simp [Maps.has], fun x _ h => by cases h⟩
theorem SetE.lt (h : SetE w b n l) : b < w.heap.size := by
  obtain ⟨D, h1, h2⟩ := h
  exact h1.lt
theorem SetE.at (h : SetE w b n l) (hb : w'.heap[b]? = w.heap[b]?) : SetE w' b n l := by
  obtain ⟨D, ⟨es, c, h1, h2⟩, h3⟩ := h
  exact ⟨D, ⟨es, c, hb.trans h1, h2⟩, h3⟩
theorem SetE.kp {S : Nat → Prop} (h : SetE w b n l) (hk : Kp S w w') (hn : ¬ S b) : SetE w' b n l := h.at (hk.block b h.lt hn)
theorem SetE.block (h : SetE w b n l) : ∃ es c, w.heap[b]? = some (.map es c) := by
  obtain ⟨D, ⟨es, c, hb, -⟩, -⟩ := h
  exact ⟨es, c, hb⟩
theorem SetE.put (h : SetE w b n l) (x : Itm) (hx : InR x) (hn : n < maxLen) :
    ∃ w', (Instr.mapUpdate 140 (.map (some b)) (itV x) (.bool true)).run Try.prog w = .ok () w' ∧ SetE w' b (n + 1) (l ++ [x]) ∧ w.grownBy w' (some b) := by
  obtain ⟨D, h2, h3, h4⟩ := h
  have hm := h2.isMap
  obtain ⟨w', hrun, h5, hg⟩ := h2.update item_keyed Try.underlying140 hn hx.key (d := .held (.bool true)) (ps := []) (val := .bool true) rfl
  refine ⟨w', hrun, ⟨_, h5, fun t ht => ?_, fun t ht hu zd => ?_⟩, hg⟩
  · by_cases e : t = x
    · subst e
      rw [Maps.has_put_same hm (by trivial)]
      simp
    · rw [Maps.has_put_other (fun e' => e (itK_inj ht hx e')), h3 t ht]
      simp [e]
  · by_cases e : t = x
    · subst e
      rw [Maps.atKey_put_same hm (by trivial)]
    · rw [Maps.atKey_put_other (fun e' => e (itK_inj ht hx e'))]
      refine h4 t ht ?_ zd
      simp [e] at hu
      exact hu
theorem SetE.get (h : SetE w b n l) (x : Itm) (hx : InR x) {zw : World} (hz : (zeroValue 4).run Try.prog w = .ok (.bool false) zw) (hzw : zw = w) :
    (Instr.lookup 140 (.map (some b)) (itV x) false).run Try.prog w = .ok (.bool (decide (x ∈ l))) w := by
  subst hzw
  obtain ⟨D, h2, h3, h4⟩ := h
  obtain ⟨v, ps, hrun, hv⟩ := h2.lookup item_keyed Try.underlying140 hz (zd := .held (.bool false)) (zp := []) rfl hx.key
  rw [hrun]
  unfold anyE at hv
  rw [Option.some.injEq, Prod.mk.injEq] at hv
  obtain ⟨hv, -⟩ := hv
  by_cases e : x ∈ l
  · rw [h4 x hx e, DataW.held.injEq] at hv
    rw [hv, decide_eq_true e]
  · have hh := h3 x hx
    rw [decide_eq_false e] at hh
    rw [Maps.atKey_of_not_has hh, DataW.held.injEq] at hv
    rw [hv, decide_eq_false e]
end
end Ed
end Go.Proofs.Ytaehooafdbaomaa
