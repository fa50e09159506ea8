/- Maps from strings to values of any type, as functions. No program beyond its types. -/
import Derived.Test.YtjaampgpihicmaaRep
import Derived.Maps.OwnOps
import Derived.Maps.OwnSet
import Derived.Maps.Views
import Derived.Maps.Keyed
import Derived.StringKeys
namespace Go.Proofs.Ytjaampgpihicmaa
open Go.RowKit

/-- An element is held as it is. -/
def anyS (v : Value) : Option (DataW Value × List MemPlace) := some (.held v, [])
def ViewS (D : DataW Value) (f : List UInt8 → Option Value) : Prop := (∀ z : List UInt8, Maps.has D (.string z) = (f z).isSome) ∧ ∀ (z : List UInt8) v, f z = some v → ∀ zd, D.atKey (.string z) zd = .held v
/-- The map in block b. -/
def MapS (w : World) (b n : Nat) (f : List UInt8 → Option Value) : Prop := ∃ D : DataW Value, w.ownsMap Try.prog 9 anyS b n D ∧ ViewS D f

theorem keyS {z : List UInt8} (h : z.length ≤ maxLen) : keyOf Try.prog 9 (.string ⟨z.toArray⟩) = some (.string z) := by
  have := Go.WideMaps.keyOf_string_mk (P := Try.prog) Try.underlying9 (s := ⟨z.toArray⟩) (by show z.toArray.size ≤ maxLen; simpa using h)
  simpa using this
section
variable {w w' : World} {b n : Nat} {f : List UInt8 → Option Value}
theorem MapS.made (w : World) : MapS (w.alloc (.map #[] 0)) w.heap.size 0 (fun _ => none) := ⟨.map [], World.ownsMap_made _ _ _ _, fun z => by simp [Maps.has], fun z v h => by cases h⟩
theorem MapS.lt (h : MapS w b n f) : b < w.heap.size := by
  obtain ⟨D, h1, h2⟩ := h
  exact h1.lt
theorem MapS.mono (h : MapS w b n f) {n' : Nat} (hn : n ≤ n') : MapS w b n' f := by
  obtain ⟨D, h1, h2⟩ := h
  exact ⟨D, h1.mono hn, h2⟩
theorem MapS.same (h : MapS w b n f) {g : List UInt8 → Option Value} (hg : ∀ z, f z = g z) : MapS w b n g := by
  have : f = g := funext hg
  rw [← this]; exact h
theorem MapS.block (h : MapS w b n f) : ∃ es c, w.heap[b]? = some (.map es c) := by
  obtain ⟨D, ⟨es, c, hb, -⟩, -⟩ := h
  exact ⟨es, c, hb⟩
theorem MapS.at (h : MapS w b n f) (hb : w'.heap[b]? = w.heap[b]?) : MapS w' b n f := by
  obtain ⟨D, ⟨es, c, h1, h2⟩, h3⟩ := h
  exact ⟨D, ⟨es, c, hb.trans h1, h2⟩, h3⟩
theorem MapS.kp {S : Nat → Prop} (h : MapS w b n f) (hk : Kp S w w') (hn : ¬ S b) : MapS w' b n f := h.at (hk.block b h.lt hn)
theorem MapS.kept {row : Option Nat} (h : MapS w b n f) (hg : w.grownBy w' row) (hn : some b ≠ row) : MapS w' b n f := by
  obtain ⟨D, h1, h2⟩ := h
  exact ⟨D, h1.kept hg hn, h2⟩
theorem MapS.put (h : MapS w b n f) (z : List UInt8) (v : Value) (hz0 : z.length ≤ maxLen) (hn : n < maxLen) (T e : TypeId) (hT : Try.prog.underlying T = some (.map 9 e)) :
    ∃ w', (Instr.mapUpdate T (.map (some b)) (.string ⟨z.toArray⟩) v).run Try.prog w = .ok () w' ∧ MapS w' b (n + 1) (fun t => if t = z then some v else f t) ∧ w.grownBy w' (some b) := by
  obtain ⟨D, h2, h3, h4⟩ := h
  have hm := h2.isMap
  obtain ⟨w', hrun, h5, hg⟩ := h2.update (Maps.string_keyed Try.underlying9) hT hn (keyS hz0) (d := .held v) (ps := []) (val := v) rfl
  refine ⟨w', hrun, ⟨_, h5, fun t => ?_, fun t u hu zd => ?_⟩, hg⟩
  · by_cases ht : t = z
    · subst ht
      rw [Maps.has_put_same hm (by trivial)]
      simp
    · rw [Maps.has_put_other (fun e => ht (by injection e)), h3 t]
      simp [ht]
  · by_cases ht : t = z
    · subst ht
      rw [Maps.atKey_put_same hm (by trivial)]
      simp at hu
      rw [hu]
    · rw [Maps.atKey_put_other (fun e => ht (by injection e))]
      simp [ht] at hu
      exact h4 t u hu zd
theorem ViewS.at_some {D : DataW Value} (h : ViewS D f) {z : List UInt8} {u zd : Value} {ps : List MemPlace} {v : Value} (e : anyS v = some (D.atKey (.string z) (.held zd), ps)) (hu : (f z).getD zd = u) : v = u := by
  obtain ⟨h1, h2⟩ := h
  unfold anyS at e
  injection e with e
  injection e with e _
  cases hf : f z with
  | none =>
    have := h1 z
    rw [hf] at this
    rw [Maps.atKey_of_not_has this] at e
    rw [hf] at hu
    injection e with e
    rw [e]; exact hu
  | some x =>
    rw [h2 z x hf] at e
    rw [hf] at hu
    injection e with e
    rw [e]; exact hu
theorem MapS.get (h : MapS w b n f) (z : List UInt8) (hz0 : z.length ≤ maxLen) (T e : TypeId) (hT : Try.prog.underlying T = some (.map 9 e)) {zd : Value} (hz : (zeroValue e).run Try.prog w = .ok zd w) :
    (Instr.lookup T (.map (some b)) (.string ⟨z.toArray⟩) false).run Try.prog w = .ok ((f z).getD zd) w := by
  obtain ⟨D, h2, h3⟩ := h
  obtain ⟨v, ps, hrun, hv⟩ := h2.lookup (Maps.string_keyed Try.underlying9) hT hz (zd := .held zd) (zp := []) rfl (keyS hz0)
  rw [hrun, h3.at_some hv rfl]
theorem MapS.look (h : MapS w b n f) (z : List UInt8) (hz0 : z.length ≤ maxLen) (T e : TypeId) (hT : Try.prog.underlying T = some (.map 9 e)) {zd : Value} (hz : (zeroValue e).run Try.prog w = .ok zd w) :
    (Instr.lookup T (.map (some b)) (.string ⟨z.toArray⟩) true).run Try.prog w = .ok (.tuple #[(f z).getD zd, .bool (f z).isSome]) w := by
  obtain ⟨D, h2, h3⟩ := h
  obtain ⟨v, ps, hrun, hv⟩ := h2.look_ok (Maps.string_keyed Try.underlying9) hT hz (zd := .held zd) (zp := []) rfl (keyS hz0)
  rw [hrun, h3.at_some hv rfl, h3.1 z]
theorem mapNilS_get (w : World) (z : List UInt8) (hz0 : z.length ≤ maxLen) (T e : TypeId) (hT : Try.prog.underlying T = some (.map 9 e)) {zd : Value} (hz : (zeroValue e).run Try.prog w = .ok zd w) :
    (Instr.lookup T (.map none) (.string ⟨z.toArray⟩) false).run Try.prog w = .ok zd w := by
  have := Maps.look_nil (w := w) false (Maps.string_keyed Try.underlying9) hT hz (keyS hz0)
  simpa using this
end
end Go.Proofs.Ytjaampgpihicmaa
