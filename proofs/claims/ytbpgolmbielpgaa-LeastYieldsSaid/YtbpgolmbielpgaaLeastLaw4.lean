/- Chapter 15 (least): what Nodes and Tree tell, in plain lists. No program. -/
import Derived.Test.YtbpgolmbielpgaaLeastLaw3
namespace Go.Proofs.Ytbpgolmbielpgaa
namespace Le
/-- The nodes of the least tree of a symbol and a word; -1. -/
def Least (ps : List (Int × List Int)) (word : List Int) (s : Int) (v : Int) : Prop :=
  (v = -1 ∧ ∀ f, ¬ Fo.Of ps word f [s] 0 word.length) ∨ (0 ≤ v ∧ ∃ f, Fo.Of ps word f [s] 0 word.length ∧ v = min (f.nodes : Int) cap ∧ ∀ g, Fo.Of ps word g [s] 0 word.length → v ≤ min (g.nodes : Int) cap)
/-- A least tree; its root is the least one of the least trees'. -/
def TreeIs (ps : List (Int × List Int)) (word : List Int) (s v p : Int) (kids : Fo) : Prop :=
  Fo.Of ps word (.cons p kids .nil) [s] 0 word.length ∧ ((1 + kids.nodes : Nat) : Int) = v ∧ ∀ (q : Int) (k : Fo), Fo.Of ps word (.cons q k .nil) [s] 0 word.length → ((1 + k.nodes : Nat) : Int) = v → p ≤ q
theorem LeastN.tells {ps : List (Int × List Int)} {word : List Int} {N : Nat → Nat → Nat → Int} (h : LeastN ps word N) (a : Nat) : Least ps word (a : Int) (N a 0 word.length) := by
  have hone := tl_one (word := word) h.range (a := a) (i := 0) (j := word.length) (Nat.zero_le _)
  by_cases e : N a 0 word.length = -1
  · refine .inl ⟨e, fun f hf => ?_⟩
    have := h.least hf (Nat.le_refl _)
    rw [hone] at this
    exact this.1 e
  · obtain ⟨f, hf1, hf2⟩ := h.one e
    refine .inr ⟨by have := (h.range a 0 word.length).1; omega, f, hf1, hf2.symm, fun g hg => ?_⟩
    have := h.least hg (Nat.le_refl _)
    rw [hone] at this
    exact this.2
theorem Least.uniq {ps : List (Int × List Int)} {word : List Int} {s v v' : Int} (h : Least ps word s v) (h' : Least ps word s v') : v = v' := by
  rcases h with ⟨rfl, h1⟩ | ⟨h0, f, hf, rfl, hm⟩
  · rcases h' with ⟨rfl, _⟩ | ⟨_, f', hf', _⟩
    · rfl
    · exact absurd hf' (h1 f')
  · rcases h' with ⟨rfl, h2⟩ | ⟨_, f', hf', rfl, hm'⟩
    · exact absurd hf (h2 f)
    · have := hm f' hf'
      have := hm' f hf
      omega
theorem LeastN.isTree {ps : List (Int × List Int)} {word : List Int} {N : Nat → Nat → Nat → Int} (h : LeastN ps word N) {a : Nat} {p : Int} {kids : Fo} {v : Int} (hv : N a 0 word.length = v) (hcap : v < cap) (hof : Fo.Of ps word (.cons p kids .nil) [(a : Int)] 0 word.length)
    (hn : ((1 + kids.nodes : Nat) : Int) = v) (hp : ∀ (q : Nat) (R : List Int), ps[q]? = some ((a : Int), R) → tl (ofT N word) word.length R 0 ≠ -1 → tl (ofT N word) word.length R 0 + 1 = v → p ≤ (q : Int)) : TreeIs ps word (a : Int) v p kids := by
  refine ⟨hof, hn, fun q k hq hk => ?_⟩
  obtain ⟨q', R, k', e, h1, h2⟩ := of_one hq (by omega)
  injection e with e1 e2
  subst e1 e2
  have hl := h.least h2 (Nat.le_refl _)
  have hx := h.fix 0 word.length (Nat.zero_le _) (Nat.le_refl _) _ (List.mem_of_getElem? h1)
  unfold FixR at hx
  simp only [Int.toNat_natCast, hv] at hx
  refine hp q' R h1 hl.1 ?_
  rcases hx with hx | ⟨_, hx⟩
  · exact absurd hx hl.1
  · have := hl.2
    unfold cap at *
    omega
end Le
end Go.Proofs.Ytbpgolmbielpgaa
