/- Maps from ints to bools that hold a set of ints. -/
import Derived.Test.YtaehooafdbaomaaRep
import Derived.Maps.OwnOps
import Derived.Maps.OwnSet
import Derived.Maps.Views
import Derived.Maps.Keyed
import Derived.Lib.SlMapMerge
import Derived.Lib.SlKeysI
import Derived.Shelf.Abstract
namespace Go.Proofs.Ytaehooafdbaomaa
open Go.RowKit

/-- The map in block b has the keys of l, each with an element. -/
def SetI (w : World) (b n : Nat) (l : List Int) : Prop :=
  ∃ D : DataW Unit, w.ownsMap Try.prog 3 (plainElem Try.prog 4) b n D ∧ ∀ z : Int, Maps.has D (.int .i64 z) = decide (z ∈ l)

theorem int_lit_wf {z : Int} (h0 : -9223372036854775808 ≤ z) (h1 : z ≤ 9223372036854775807) : (Lit.int .i64 z).wf = true := by
  show (decide (IntKind.i64.min ≤ z) && decide (z ≤ IntKind.i64.max)) = true
  rw [Bool.and_eq_true, decide_eq_true_eq, decide_eq_true_eq]
  exact ⟨h0, h1⟩

section
variable {w w' : World} {b n : Nat} {l : List Int}
theorem SetI.made (w : World) : SetI (w.alloc (.map #[] 0)) w.heap.size 0 [] := ⟨.map [], World.ownsMap_made _ _ _ _, fun s => by simp [Maps.has]⟩
theorem SetI.lt (h : SetI w b n l) : b < w.heap.size := by
  obtain ⟨D, h1, h2⟩ := h
  exact h1.lt
theorem SetI.mono (h : SetI w b n l) {n' : Nat} (hn : n ≤ n') : SetI w b n' l := by
  obtain ⟨D, h1, h2⟩ := h
  exact ⟨D, h1.mono hn, h2⟩
theorem SetI.same (h : SetI w b n l) {l' : List Int} (hl : ∀ z, z ∈ l ↔ z ∈ l') : SetI w b n l' := by
  obtain ⟨D, h1, h2⟩ := h
  exact ⟨D, h1, fun z => by rw [h2 z]; simp [hl z]⟩
theorem SetI.block (h : SetI w b n l) : ∃ es c, w.heap[b]? = some (.map es c) := by
  obtain ⟨D, ⟨es, c, hb, _⟩, _⟩ := h
  exact ⟨es, c, hb⟩
theorem SetI.at (h : SetI w b n l) (hb : w'.heap[b]? = w.heap[b]?) : SetI w' b n l := by
  obtain ⟨D, ⟨es, c, h1, h3⟩, h2⟩ := h
  exact ⟨D, ⟨es, c, hb.trans h1, h3⟩, h2⟩
theorem SetI.kp {S : Nat → Prop} (h : SetI w b n l) (hk : Kp S w w') (hn : ¬ S b) : SetI w' b n l := h.at (hk.block b h.lt hn)
theorem SetI.kept {row : Option Nat} (h : SetI w b n l) (hg : w.grownBy w' row) (hn : some b ≠ row) : SetI w' b n l := by
  obtain ⟨D, h1, h2⟩ := h
  exact ⟨D, h1.kept hg hn, h2⟩
theorem SetI.put (h : SetI w b n l) (z : Int) (h0 : -9223372036854775808 ≤ z) (h1 : z ≤ 9223372036854775807) (hn : n < maxLen) (T : TypeId) (hT : Try.prog.underlying T = some (.map 3 4)) :
    ∃ w', (Instr.mapUpdate T (.map (some b)) (.int .i64 z) (.bool true)).run Try.prog w = .ok () w' ∧ SetI w' b (n + 1) (z :: l) ∧ w.grownBy w' (some b) := by
  obtain ⟨D, h2, h3⟩ := h
  have hm := h2.isMap
  obtain ⟨w', hrun, h4, hg⟩ := h2.update (Maps.int_keyed Try.underlying3) hT hn (Maps.keyOf_int_mk Try.underlying3 (int_lit_wf h0 h1)) (plainElem_bool Try.underlying4 true)
  refine ⟨w', hrun, ⟨_, h4, fun t => ?_⟩, hg⟩
  by_cases ht : t = z
  · subst ht
    rw [Maps.has_put_same hm (by trivial)]
    simp
  · rw [Maps.has_put_other (fun e => ht (by injection e)), h3 t]
    simp [ht]

theorem has_merge_fold {H : Type} (k : Lit) : ∀ (es : List (Lit × DataW H)) (D : DataW H), Maps.IsMap D → (∀ p ∈ es, WideAt.IsKeyLit p.1) → Maps.has (es.foldl (fun D p => D.put p.1 p.2) D) k = (Maps.has D k || es.any (fun p => p.1.sameKey k))
  | [], D, _, _ => by simp
  | p :: es, D, hm, hk => by
    rw [List.foldl_cons, has_merge_fold k es _ (hm.put p.1 p.2) (fun q hq => hk q (List.mem_cons_of_mem _ hq)), List.any_cons]
    have hp := hk p (List.mem_cons_self ..)
    by_cases e : k = p.1
    · subst e
      have h1 := Maps.has_put_same hm hp p.2
      rw [h1]
      have h2 : p.1.sameKey p.1 = true := by
        have := Maps.has_put_same (D := (.map [] : DataW H)) Maps.isMap_empty hp p.2
        simpa [Maps.has, DataW.put, DataW.insert] using this
      simp [h2]
    · rw [Maps.has_put_other e, Maps.sameKey_ne (fun h => e h.symm)]
      simp
end
end Go.Proofs.Ytaehooafdbaomaa
