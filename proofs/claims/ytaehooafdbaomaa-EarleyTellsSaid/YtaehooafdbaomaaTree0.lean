/- Trees as forests: first child, next one. Plain lists; and how they lie in a world. -/
import Derived.Test.YtaehooafdbaomaaRep
namespace Go.Proofs.Ytaehooafdbaomaa
open Go.RowKit
/-- A forest: a tree's Prod, its Kids, the trees behind it. -/
inductive Fo where
  | nil : Fo
  | cons (p : Int) (kids : Fo) (rest : Fo) : Fo
namespace Fo
def len : Fo → Nat
  | nil => 0
  | cons _ _ r => r.len + 1
def nodes : Fo → Nat
  | nil => 0
  | cons _ k r => 1 + k.nodes + r.nodes
def app : Fo → Fo → Fo
  | nil, g => g
  | cons p k r, g => cons p k (r.app g)
/-- Trees of a grammar's, of a row of symbols, over the part of a word from i to j. -/
def Of (ps : List (Int × List Int)) (word : List Int) : Fo → List Int → Nat → Nat → Prop
  | nil, xs, i, j => xs = [] ∧ i = j
  | cons p k r, xs, i, j => ∃ (s : Int) (ys : List Int) (m : Nat), xs = s :: ys ∧
      ((s < 0 ∧ p = s ∧ k = nil ∧ m = i + 1 ∧ word[i]? = some (-1 - s)) ∨ (0 ≤ s ∧ ∃ (q : Nat) (R : List Int), p = (q : Int) ∧ ps[q]? = some (s, R) ∧ Of ps word k R i m)) ∧ Of ps word r ys m j
theorem len_app : ∀ f g : Fo, (f.app g).len = f.len + g.len
  | nil, g => by simp [app, len]
  | cons p k r, g => by rw [app, len, len, len_app r g]; omega
theorem nodes_app : ∀ f g : Fo, (f.app g).nodes = f.nodes + g.nodes
  | nil, g => by simp [app, nodes]
  | cons p k r, g => by rw [app, nodes, nodes, nodes_app r g]; omega
theorem Of.le {ps : List (Int × List Int)} {word : List Int} : ∀ {f : Fo} {xs : List Int} {i j : Nat}, Of ps word f xs i j → i ≤ j
  | nil, xs, i, j, h => by unfold Of at h; omega
  | cons p k r, xs, i, j, h => by
    unfold Of at h
    obtain ⟨s, ys, m, rfl, h1, h2⟩ := h
    have := Of.le h2
    rcases h1 with ⟨_, _, _, rfl, _⟩ | ⟨_, q, R, _, _, h3⟩
    · omega
    · have := Of.le h3
      omega
theorem Of.app {ps : List (Int × List Int)} {word : List Int} : ∀ {f : Fo} {g : Fo} {xs ys : List Int} {i j l : Nat}, Of ps word f xs i j → Of ps word g ys j l → Of ps word (f.app g) (xs ++ ys) i l
  | nil, g, xs, ys, i, j, l, h, h2 => by
    unfold Of at h
    obtain ⟨rfl, rfl⟩ := h
    exact h2
  | cons p k r, g, xs, ys, i, j, l, h, h2 => by
    unfold Of at h
    obtain ⟨s, zs, m, rfl, h1, h3⟩ := h
    rw [Fo.app, List.cons_append, Of]
    exact ⟨s, zs ++ ys, m, rfl, h1, Of.app h3 h2⟩
end Fo

/-- A forest lies in blocks of which D holds, from place i of a row on. -/
def FoAt (w : World) (D : Nat → Prop) (ga : Option Addr) : Fo → Nat → Prop
  | .nil, _ => True
  | .cons p k r, i => (∃ (g off : Nat) (gk : Option Addr) (ck : Nat), ga = some ⟨g, off, none⟩ ∧ D g ∧ w.cell? ⟨g, off + i * 2, none⟩ = some (.int .i64 p) ∧ w.cell? ⟨g, off + i * 2 + 1, none⟩ = some (.slice gk k.len ck) ∧ FoAt w D gk k 0) ∧ FoAt w D ga r (i + 1)
theorem FoAt.mono {w : World} {D D' : Nat → Prop} (hD : ∀ k, D k → D' k) : ∀ {f : Fo} {ga : Option Addr} {i : Nat}, FoAt w D ga f i → FoAt w D' ga f i
  | .nil, _, _, _ => trivial
  | .cons p k r, ga, i, h => by
    unfold FoAt at h ⊢
    obtain ⟨⟨g, off, gk, ck, h1, h2, h3, h4, h5⟩, h6⟩ := h
    exact ⟨⟨g, off, gk, ck, h1, hD g h2, h3, h4, FoAt.mono hD h5⟩, FoAt.mono hD h6⟩
theorem FoAt.kp {w w' : World} {D S : Nat → Prop} (hk : Kp S w w') (hd : ∀ k, D k → ¬ S k) : ∀ {f : Fo} {ga : Option Addr} {i : Nat}, FoAt w D ga f i → FoAt w' D ga f i
  | .nil, _, _, _ => trivial
  | .cons p k r, ga, i, h => by
    unfold FoAt at h ⊢
    obtain ⟨⟨g, off, gk, ck, h1, h2, h3, h4, h5⟩, h6⟩ := h
    exact ⟨⟨g, off, gk, ck, h1, h2, hk.cell h3 (hd g h2), hk.cell h4 (hd g h2), FoAt.kp hk hd h5⟩, FoAt.kp hk hd h6⟩
theorem FoAt.below {w w' : World} {B : Nat} {D : Nat → Prop} (hb : Below B w w') (hd : ∀ k, D k → k < B) {f : Fo} {ga : Option Addr} {i : Nat} (h : FoAt w D ga f i) : FoAt w' D ga f i := by
  induction f generalizing ga i with
  | nil => trivial
  | cons p k r ihk ihr =>
    unfold FoAt at h ⊢
    obtain ⟨⟨g, off, gk, ck, h1, h2, h3, h4, h5⟩, h6⟩ := h
    exact ⟨⟨g, off, gk, ck, h1, h2, (hb.cell (p := ⟨g, _, none⟩) (hd g h2)).trans h3, (hb.cell (p := ⟨g, _, none⟩) (hd g h2)).trans h4, ihk h5⟩, ihr h6⟩
end Go.Proofs.Ytaehooafdbaomaa
