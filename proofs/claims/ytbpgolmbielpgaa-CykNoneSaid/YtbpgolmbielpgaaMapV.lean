/- Maps from ints to values of any type, as functions. No program beyond its types. -/
import Derived.Test.YtbpgolmbielpgaaRep
import Derived.Maps.OwnOps
import Derived.Maps.OwnSet
import Derived.Maps.Views
import Derived.Maps.Keyed
import Derived.Maps.RangeWalk
namespace Go.Proofs.Ytbpgolmbielpgaa
open Go.RowKit

/-- An element is held as it is. -/
def anyR (v : Value) : Option (DataW Value × List MemPlace) := some (.held v, [])
def ViewV (D : DataW Value) (f : Int → Option Value) : Prop := (∀ z : Int, Maps.has D (.int .i64 z) = (f z).isSome) ∧ ∀ (z : Int) v, f z = some v → ∀ zd, D.atKey (.int .i64 z) zd = .held v
/-- The map in block b. -/
def MapV (w : World) (b n : Nat) (f : Int → Option Value) : Prop := ∃ D : DataW Value, w.ownsMap Try.prog 3 anyR b n D ∧ ViewV D f
def RangeV (w : World) (b r n : Nat) (f : Int → Option Value) (left : Int → Bool) (cnt : Nat) : Prop := ∃ (D : DataW Value) (lf : Lit → Bool), w.ranges Try.prog 3 anyR b r n D lf cnt ∧ ViewV D f ∧ ∀ z : Int, left z = lf (.int .i64 z)

theorem lit_wf {z : Int} (h0 : -9223372036854775808 ≤ z) (h1 : z ≤ 9223372036854775807) : (Lit.int .i64 z).wf = true := by
  show (decide (IntKind.i64.min ≤ z) && decide (z ≤ IntKind.i64.max)) = true
  rw [Bool.and_eq_true, decide_eq_true_eq, decide_eq_true_eq]
  exact ⟨h0, h1⟩

section
variable {w w' : World} {b n : Nat} {f : Int → Option Value}
theorem MapV.made (w : World) : MapV (w.alloc (.map #[] 0)) w.heap.size 0 (fun _ => none) := ⟨.map [], World.ownsMap_made _ _ _ _, fun z => by simp [Maps.has], fun z v h => by cases h⟩
theorem MapV.lt (h : MapV w b n f) : b < w.heap.size := by
  obtain ⟨D, h1, h2⟩ := h
  exact h1.lt
theorem MapV.mono (h : MapV w b n f) {n' : Nat} (hn : n ≤ n') : MapV w b n' f := by
  obtain ⟨D, h1, h2⟩ := h
  exact ⟨D, h1.mono hn, h2⟩
theorem MapV.same (h : MapV w b n f) {g : Int → Option Value} (hg : ∀ z, f z = g z) : MapV w b n g := by
  have : f = g := funext hg
  rw [← this]; exact h
theorem MapV.block (h : MapV w b n f) : ∃ es c, w.heap[b]? = some (.map es c) := by
  obtain ⟨D, ⟨es, c, hb, -⟩, -⟩ := h
  exact ⟨es, c, hb⟩
theorem MapV.at (h : MapV w b n f) (hb : w'.heap[b]? = w.heap[b]?) : MapV w' b n f := by
  obtain ⟨D, ⟨es, c, h1, h2⟩, h3⟩ := h
  exact ⟨D, ⟨es, c, hb.trans h1, h2⟩, h3⟩
theorem MapV.kp {S : Nat → Prop} (h : MapV w b n f) (hk : Kp S w w') (hn : ¬ S b) : MapV w' b n f := h.at (hk.block b h.lt hn)
theorem MapV.kept {row : Option Nat} (h : MapV w b n f) (hg : w.grownBy w' row) (hn : some b ≠ row) : MapV w' b n f := by
  obtain ⟨D, h1, h2⟩ := h
  exact ⟨D, h1.kept hg hn, h2⟩
theorem MapV.put (h : MapV w b n f) (z : Int) (v : Value) (h0 : -9223372036854775808 ≤ z) (h1 : z ≤ 9223372036854775807) (hn : n < maxLen) (T e : TypeId) (hT : Try.prog.underlying T = some (.map 3 e)) :
    ∃ w', (Instr.mapUpdate T (.map (some b)) (.int .i64 z) v).run Try.prog w = .ok () w' ∧ MapV w' b (n + 1) (fun t => if t = z then some v else f t) ∧ w.grownBy w' (some b) := by
  obtain ⟨D, h2, h3, h4⟩ := h
  have hm := h2.isMap
  obtain ⟨w', hrun, h5, hg⟩ := h2.update (Maps.int_keyed Try.underlying3) hT hn (Maps.keyOf_int_mk Try.underlying3 (lit_wf h0 h1)) (d := .held v) (ps := []) (val := v) rfl
  refine ⟨w', hrun, ⟨_, h5, fun t => ?_, fun t u hu zd => ?_⟩, hg⟩
  · by_cases ht : t = z
    · subst ht
      rw [Maps.has_put_same hm (by trivial)]
      simp
    · rw [Maps.has_put_other (fun e => ht (by injection e)), h3 t]
      simp [ht]
  · by_cases ht : t = z
    · subst ht
      rw [Maps.atKey_put_same hm (by trivial)]
      simp at hu
      rw [hu]
    · rw [Maps.atKey_put_other (fun e => ht (by injection e))]
      simp [ht] at hu
      exact h4 t u hu zd
theorem ViewV.at_some {D : DataW Value} (h : ViewV D f) {z : Int} {u zd : Value} {ps : List MemPlace} {v : Value} (e : anyR v = some (D.atKey (.int .i64 z) (.held zd), ps)) (hu : (f z).getD zd = u) : v = u := by
  obtain ⟨h1, h2⟩ := h
  unfold anyR at e
  injection e with e
  injection e with e _
  cases hf : f z with
  | none =>
    have := h1 z
    rw [hf] at this
    rw [Maps.atKey_of_not_has this] at e
    rw [hf] at hu
    injection e with e
    rw [e]; exact hu
  | some x =>
    rw [h2 z x hf] at e
    rw [hf] at hu
    injection e with e
    rw [e]; exact hu
theorem MapV.get (h : MapV w b n f) (z : Int) (h0 : -9223372036854775808 ≤ z) (h1 : z ≤ 9223372036854775807) (T e : TypeId) (hT : Try.prog.underlying T = some (.map 3 e)) {zd : Value} (hz : (zeroValue e).run Try.prog w = .ok zd w) :
    (Instr.lookup T (.map (some b)) (.int .i64 z) false).run Try.prog w = .ok ((f z).getD zd) w := by
  obtain ⟨D, h2, h3⟩ := h
  obtain ⟨v, ps, hrun, hv⟩ := h2.lookup (Maps.int_keyed Try.underlying3) hT hz (zd := .held zd) (zp := []) rfl (Maps.keyOf_int_mk Try.underlying3 (lit_wf h0 h1))
  rw [hrun, h3.at_some hv rfl]
theorem MapV.look (h : MapV w b n f) (z : Int) (h0 : -9223372036854775808 ≤ z) (h1 : z ≤ 9223372036854775807) (T e : TypeId) (hT : Try.prog.underlying T = some (.map 3 e)) {zd : Value} (hz : (zeroValue e).run Try.prog w = .ok zd w) :
    (Instr.lookup T (.map (some b)) (.int .i64 z) true).run Try.prog w = .ok (.tuple #[(f z).getD zd, .bool (f z).isSome]) w := by
  obtain ⟨D, h2, h3⟩ := h
  obtain ⟨v, ps, hrun, hv⟩ := h2.look_ok (Maps.int_keyed Try.underlying3) hT hz (zd := .held zd) (zp := []) rfl (Maps.keyOf_int_mk Try.underlying3 (lit_wf h0 h1))
  rw [hrun, h3.at_some hv rfl, h3.1 z]
theorem mapNil_get (w : World) (z : Int) (h0 : -9223372036854775808 ≤ z) (h1 : z ≤ 9223372036854775807) (T e : TypeId) (hT : Try.prog.underlying T = some (.map 3 e)) {zd : Value} (hz : (zeroValue e).run Try.prog w = .ok zd w) :
    (Instr.lookup T (.map none) (.int .i64 z) false).run Try.prog w = .ok zd w := by
  have := Maps.look_nil (w := w) false (Maps.int_keyed Try.underlying3) hT hz (Maps.keyOf_int_mk Try.underlying3 (lit_wf h0 h1))
  simpa using this
theorem MapV.range (h : MapV w b n f) (T e : TypeId) (hT : Try.prog.underlying T = some (.map 3 e)) :
    ∃ w' cnt, (Instr.range T (.map (some b))).run Try.prog w = .ok (.pointer (some ⟨w.heap.size, 0, none⟩)) w' ∧ RangeV w' b w.heap.size n f (fun z => (f z).isSome) cnt ∧ w.grownBy w' none ∧ w'.heap.size = w.heap.size + 1 := by
  obtain ⟨D, h2, h3⟩ := h
  obtain ⟨w', hrun, hr, hg, hs⟩ := h2.range (Maps.int_keyed Try.underlying3) hT
  exact ⟨w', _, hrun, ⟨D, _, hr, h3, fun z => (h3.1 z).symm⟩, hg, hs⟩
end

section
variable {w w' : World} {b r n cnt : Nat} {f : Int → Option Value} {left : Int → Bool}
theorem RangeV.owns (h : RangeV w b r n f left cnt) : MapV w b n f := by
  obtain ⟨D, lf, h1, h2, -⟩ := h
  exact ⟨D, h1.owns, h2⟩
theorem RangeV.kept {row : Option Nat} (h : RangeV w b r n f left cnt) (hg : w.grownBy w' row) (hb : some b ≠ row) (hr : some r ≠ row) : RangeV w' b r n f left cnt := by
  obtain ⟨D, lf, h1, h2⟩ := h
  exact ⟨D, lf, h1.kept hg hb hr, h2⟩
theorem RangeV.lt (h : RangeV w b r n f left cnt) : r < w.heap.size := by
  obtain ⟨D, lf, h1, h2⟩ := h
  exact h1.lt
theorem RangeV.next (h : RangeV w b r n f left cnt) (ty : TypeId) :
    (cnt = 0 ∧ (∀ z, left z = false) ∧ (Instr.next (.pointer (some ⟨r, 0, none⟩)) false ty).run Try.prog w = .ok (.tuple #[.bool false]) w) ∨
    ∃ z v w' cnt', -9223372036854775808 ≤ z ∧ z ≤ 9223372036854775807 ∧ left z = true ∧ f z = some v ∧ (Instr.next (.pointer (some ⟨r, 0, none⟩)) false ty).run Try.prog w = .ok (.tuple #[.bool true, .int .i64 z, v]) w' ∧
      RangeV w' b r n f (fun x => left x && !(x == z)) cnt' ∧ cnt' < cnt ∧ w.grownBy w' (some r) ∧ w'.heap.size = w.heap.size ∧ (Instr.entry (.pointer (some ⟨r, 0, none⟩))).run Try.prog w' = .ok (.tuple #[.int .i64 z, v]) w' := by
  obtain ⟨D, lf, h1, h2, h3⟩ := h
  rcases h1.next (Maps.int_keyed Try.underlying3) ty with ⟨h4, h5, h6⟩ | ⟨key, v, kl, y, w', cnt', hkey, hl, hv, hat, hrun, hrg, hlt, hg, hs, hen⟩
  · exact .inl ⟨h4, fun z => (h3 z).trans (h5 _), h6⟩
  · obtain ⟨x, rfl, rfl, hw⟩ := Maps.keyOf_int_inv Try.underlying3 hkey
    have hw2 : (decide (IntKind.i64.min ≤ x) && decide (x ≤ IntKind.i64.max)) = true := hw
    rw [Bool.and_eq_true, decide_eq_true_eq, decide_eq_true_eq] at hw2
    unfold anyR at hv
    injection hv with hv
    have hhas := Maps.has_true_of_atKey hat
    rw [h2.1 x] at hhas
    obtain ⟨u, hu⟩ := Option.isSome_iff_exists.1 hhas
    have e := h2.2 x u hu (.held u)
    rw [hat, ← hv] at e
    injection e with e
    refine .inr ⟨x, v, w', cnt', hw2.1, hw2.2, (h3 x).trans hl, by rw [e]; exact hu, hrun, ⟨D, _, hrg, h2, fun z => ?_⟩, hlt, hg, hs, hen⟩
    have e2 : (Lit.int IntKind.i64 z).sameKey (Lit.int IntKind.i64 x) = (z == x) := by
      show decide (IntKind.i64 = IntKind.i64 ∧ z = x) = (z == x)
      rw [Bool.eq_iff_iff]; simp
    show (left z && !(z == x)) = _
    rw [h3 z, e2]
end
end Go.Proofs.Ytbpgolmbielpgaa
