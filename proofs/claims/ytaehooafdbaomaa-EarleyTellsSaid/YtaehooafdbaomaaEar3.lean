/- Chapter 17 (earley): what close keeps. No walk. -/
import Derived.Test.YtaehooafdbaomaaEar2
namespace Go.Proofs.Ytaehooafdbaomaa
open Go.RowKit
namespace Ed

theorem nat_sub : ∀ {l m : List Nat}, l.Nodup → (∀ z ∈ l, z ∈ m) → l.length ≤ m.length
  | [], m, _, _ => Nat.zero_le _
  | z :: l, m, hn, h => by
    obtain ⟨h1, h2⟩ := List.nodup_cons.1 hn
    have hz := h z (by simp)
    have h3 := nat_sub (l := l) (m := m.erase z) h2 (fun y hy => (List.mem_erase_of_ne (fun e => h1 (by rw [← e]; exact hy))).2 (h y (by simp [hy])))
    rw [List.length_erase_of_mem hz] at h3
    have : 0 < m.length := List.length_pos_of_mem hz
    simp only [List.length_cons]
    omega
theorem box_len {X : List Itm} (hn : X.Nodup) (h : ∀ x ∈ X, x.1 < 256 ∧ x.2.1 ≤ 16 ∧ x.2.2 ≤ 64) : X.length ≤ 282880 := by
  have h1 : (X.map fun x : Itm => (x.1 * 17 + x.2.1) * 65 + x.2.2).Nodup := by
    unfold List.Nodup
    rw [List.pairwise_map]
    refine List.Pairwise.imp_of_mem (fun {a b} ha hb hab e => hab ?_) hn
    have h1 := h a ha
    have h2 := h b hb
    obtain ⟨a1, a2, a3⟩ := a
    obtain ⟨b1, b2, b3⟩ := b
    simp only at h1 h2 e
    have e3 : a3 = b3 := by omega
    have e2 : a2 = b2 := by omega
    have e1 : a1 = b1 := by omega
    rw [e1, e2, e3]
  have h2 := nat_sub h1 (m := List.range 282880) (fun z hz => by
    obtain ⟨x, hx, rfl⟩ := List.mem_map.1 hz
    have := h x hx
    rw [List.mem_range]
    omega)
  rwa [List.length_map, List.length_range] at h2

/-- What is known of the grammar and the word. -/
structure Env (ps : List (Int × List Int)) (word : List Int) : Prop where
  h0 : ∀ x ∈ ps, 0 ≤ x.1
  r16 : ∀ x ∈ ps, x.2.length ≤ 16
  p : ps.length ≤ 256
  w : word.length ≤ 64
def Tch (s m : Nat) (vl : Value) (k : Nat) : Prop := k = s ∨ k = m ∨ vl.ownBlock = some k
/-- What close keeps. -/
structure Cs (ps : List (Int × List Int)) (st : Int) (word : List Int) (Xs : List (List Itm)) (n s m : Nat) (w0 : World) (vl0 : Value) (X0 : List Itm) (i : Nat) (w : World) (vl : Value) (X : List Itm) : Prop where
  set : SetM w s m vl X
  kp : Kp (Tch s m vl0) w0 w
  own : ∀ g, vl.ownBlock = some g → vl0.ownBlock = some g ∨ w0.heap.size ≤ g
  pre : ∃ r, X = X0 ++ r
  snd : ∀ x ∈ X, It ps st word n x.1 x.2.1 x.2.2
  nd : X.Nodup
  cl : ∀ j x, j < i → X[j]? = some x → Cl ps Xs X n x
section
variable {ps : List (Int × List Int)} {st : Int} {word : List Int} {Xs : List (List Itm)} {n s m : Nat} {w0 w w' w1 w2 : World} {vl0 vl vl' vl1 vl2 : Value} {X0 X X1 X2 : List Itm} {i : Nat} {x : Itm}
theorem addS_pre (X : List Itm) (x : Itm) : ∃ r, addS X x = X ++ r := by
  unfold addS
  split
  · exact ⟨[], by simp⟩
  · exact ⟨[x], rfl⟩
theorem Cs.add (h : Cs ps st word Xs n s m w0 vl0 X0 i w vl X) (ha : SetM w' s m vl' (addS X x)) (hk : Kp (Tch s m vl) w w') (ho : ∀ g, vl'.ownBlock = some g → vl.ownBlock = some g ∨ w.heap.size ≤ g) (hi : i ≤ X.length) (hx : It ps st word n x.1 x.2.1 x.2.2) :
    Cs ps st word Xs n s m w0 vl0 X0 i w' vl' (addS X x) := by
  refine ⟨ha, ⟨hk.os.trans h.kp.os, hk.tape.trans h.kp.tape, hk.output.trans h.kp.output, Nat.le_trans h.kp.size hk.size, fun k hk1 hk2 => ?_⟩, fun g hg => ?_, ?_, fun y hy => ?_, addS_nodup x h.nd, fun j y hj hy => ?_⟩
  · refine (hk.block k (Nat.lt_of_lt_of_le hk1 h.kp.size) (fun e => hk2 ?_)).trans (h.kp.block k hk1 hk2)
    rcases e with e | e | e
    · exact .inl e
    · exact .inr (.inl e)
    · rcases h.own k e with e | e
      · exact .inr (.inr e)
      · omega
  · rcases ho g hg with e | e
    · exact h.own g e
    · exact .inr (Nat.le_trans h.kp.size e)
  · obtain ⟨r, hr⟩ := h.pre
    obtain ⟨r2, hr2⟩ := addS_pre X x
    exact ⟨r ++ r2, by rw [hr2, hr, List.append_assoc]⟩
  · rcases (addS_mem X x y).1 hy with hy | rfl
    · exact h.snd y hy
    · exact hx
  · obtain ⟨r2, hr2⟩ := addS_pre X x
    rw [hr2, List.getElem?_append_left (by omega)] at hy
    exact (h.cl j y hj hy).mono fun z hz => (addS_mem X x z).2 (.inl hz)
theorem Cs.below (h : Cs ps st word Xs n s m w0 vl0 X0 i w vl X) (hb : Below w.heap.size w w') : Cs ps st word Xs n s m w0 vl0 X0 i w' vl X :=
  ⟨h.set.later hb, h.kp.below hb (fun _k hk _ => Nat.lt_of_lt_of_le hk h.kp.size), h.own, h.pre, h.snd, h.nd, h.cl⟩
theorem Cs.join (h : Cs ps st word Xs n s m w0 vl0 X0 i w1 vl1 X1) (k : Cs ps st word Xs n s m w1 vl1 X1 i w2 vl2 X2) : Cs ps st word Xs n s m w0 vl0 X0 i w2 vl2 X2 := by
  refine ⟨k.set, ⟨k.kp.os.trans h.kp.os, k.kp.tape.trans h.kp.tape, k.kp.output.trans h.kp.output, Nat.le_trans h.kp.size k.kp.size, fun b hk1 hk2 => ?_⟩, fun g hg => ?_, ?_, k.snd, k.nd, k.cl⟩
  · refine (k.kp.block b (Nat.lt_of_lt_of_le hk1 h.kp.size) (fun e => hk2 ?_)).trans (h.kp.block b hk1 hk2)
    rcases e with e | e | e
    · exact .inl e
    · exact .inr (.inl e)
    · rcases h.own b e with e | e
      · exact .inr (.inr e)
      · omega
  · rcases k.own g hg with e | e
    · exact h.own g e
    · exact .inr (Nat.le_trans h.kp.size e)
  · obtain ⟨r, hr⟩ := h.pre
    obtain ⟨r2, hr2⟩ := k.pre
    exact ⟨r ++ r2, by rw [hr2, hr, List.append_assoc]⟩
theorem Cs.again (h : Cs ps st word Xs n s m w0 vl0 X0 i w vl X) : Cs ps st word Xs n s m w vl X i w vl X :=
  ⟨h.set, Kp.refl _ _, fun _ hg => .inl hg, ⟨[], by simp⟩, h.snd, h.nd, h.cl⟩
theorem Cs.step (h : Cs ps st word Xs n s m w0 vl0 X0 i w vl X) (hx : X[i]? = some x) (hc : Cl ps Xs X n x) : Cs ps st word Xs n s m w0 vl0 X0 (i + 1) w vl X :=
  ⟨h.set, h.kp, h.own, h.pre, h.snd, h.nd, fun j y hj hy => by
    by_cases e : j = i
    · subst e
      rw [hx] at hy
      injection hy with hy
      subst hy
      exact hc
    · exact h.cl j y (by omega) hy⟩
theorem Cs.at (h : Cs ps st word Xs n s m w0 vl0 X0 i w vl X) {j : Nat} (hx : X0[j]? = some x) : X[j]? = some x := by
  obtain ⟨r, hr⟩ := h.pre
  rw [hr, List.getElem?_append_left (List.getElem?_eq_some_iff.1 hx).1]
  exact hx
theorem Cs.mem (h : Cs ps st word Xs n s m w0 vl0 X0 i w vl X) {y : Itm} (hy : y ∈ X0) : y ∈ X := by
  obtain ⟨r, hr⟩ := h.pre
  rw [hr]
  exact List.mem_append_left _ hy
theorem Env.box (E : Env ps word) {p d f : Nat} (h : It ps st word n p d f) : ∃ l R, ps[p]? = some (l, R) ∧ 0 ≤ l ∧ d ≤ R.length ∧ R.length ≤ 16 ∧ f ≤ n ∧ n ≤ 64 ∧ p < 256 := by
  obtain ⟨l, R, hs⟩ := h.says E.h0
  have hm := List.mem_of_getElem? hs.at_
  have h1 := (List.getElem?_eq_some_iff.1 hs.at_).1
  have h2 := E.r16 _ hm
  have h3 := E.p
  have h4 := E.w
  have h5 := hs.to_
  exact ⟨l, R, hs.at_, E.h0 _ hm, hs.dot, h2, hs.from_, by omega, by omega⟩
theorem Env.inr (E : Env ps word) {p d f : Nat} (h : It ps st word n p d f) : InR (p, d, f) := by
  obtain ⟨l, R, _, _, h1, h2, h3, h4, h5⟩ := E.box h
  exact ⟨by simp; omega, by simp; omega, by simp; omega⟩
theorem Env.len (E : Env ps word) (hn : X.Nodup) (h : ∀ x ∈ X, It ps st word n x.1 x.2.1 x.2.2) : X.length ≤ 282880 :=
  box_len hn fun x hx => by
    obtain ⟨l, R, _, _, h1, h2, h3, h4, h5⟩ := E.box (h x hx)
    exact ⟨h5, by omega, by omega⟩
theorem Cs.to_below (h : Cs ps st word Xs n s m w0 vl0 X0 i w vl X) (ho : ∀ g, vl0.ownBlock = some g → m ≤ g) (hm : m ≤ w0.heap.size) : Below m w0 w :=
  h.kp.to_below hm (fun k e => by
    rcases e with e | e | e
    · have := h.set.ms; omega
    · omega
    · exact ho k e)
end
theorem RowE.keep {w w' : World} {ga : Option Addr} {X : List Itm} {m : Nat} (h : RowE w ga X) (hb : Below m w w') (hg : ∀ g, ga = some ⟨g, 0, none⟩ → g < m) : RowE w' ga X := fun i x hx => by
  obtain ⟨g, h1, h2, h3, h4, h5⟩ := h i x hx
  have hm := hg g h1
  exact ⟨g, h1, Nat.lt_of_lt_of_le h2 hb.size, (hb.cell (p := ⟨g, _, none⟩) hm).trans h3, (hb.cell (p := ⟨g, _, none⟩) hm).trans h4, (hb.cell (p := ⟨g, _, none⟩) hm).trans h5⟩
theorem RowE.kp {w w' : World} {g : Nat} {X : List Itm} {S : Nat → Prop} (h : RowE w (some ⟨g, 0, none⟩) X) (hk : Kp S w w') (hg : ¬ S g) : RowE w' (some ⟨g, 0, none⟩) X := fun i x hx => by
  obtain ⟨g', h1, h2, h3, h4, h5⟩ := h i x hx
  have e := h1
  injection e with e
  injection e with e
  subst e
  exact ⟨g, h1, Nat.lt_of_lt_of_le h2 hk.size, hk.cell h3 hg, hk.cell h4 hg, hk.cell h5 hg⟩
/-- The chart, as close reads it: all of it lies below m. -/
structure ChM (w : World) (m c : Nat) (G : Gr) (gn gt gp : Option Addr) (cp : Nat) (gby gnu : Option Addr) (cby cnu : Nat) (BY : List (List Int)) (nb : List Bool) : Prop where
  g : ∃ wG : World, GIn wG G gn gt gp ∧ wG.heap.size ≤ m ∧ Below wG.heap.size wG w
  clt : c < m
  c4 : w.cell? ⟨c, 4, none⟩ = some (.slice gp G.prods.length cp)
  c6 : w.cell? ⟨c, 6, none⟩ = some (.slice gby BY.length cby)
  c7 : w.cell? ⟨c, 7, none⟩ = some (.slice gnu nb.length cnu)
  by_ : RowII w m gby BY
  nu : RowB w m gnu nb
section
variable {w w' : World} {m c : Nat} {G : Gr} {gn gt gp gby gnu : Option Addr} {cp cby cnu : Nat} {BY : List (List Int)} {nb : List Bool}
theorem ChM.later (h : ChM w m c G gn gt gp cp gby gnu cby cnu BY nb) (hb : Below m w w') : ChM w' m c G gn gt gp cp gby gnu cby cnu BY nb := by
  obtain ⟨wG, h1, h2, h3⟩ := h.g
  exact ⟨⟨wG, h1, h2, h3.trans (hb.mono h2)⟩, h.clt, (hb.cell (p := ⟨c, 4, none⟩) h.clt).trans h.c4, (hb.cell (p := ⟨c, 6, none⟩) h.clt).trans h.c6, (hb.cell (p := ⟨c, 7, none⟩) h.clt).trans h.c7, h.by_.below hb, h.nu.below hb⟩
theorem ChM.gin (h : ChM w m c G gn gt gp cp gby gnu cby cnu BY nb) : GIn w G gn gt gp := by
  obtain ⟨wG, h1, h2, h3⟩ := h.g
  exact h1.later h3
end
/-- What the rows of productions and the empties say. -/
structure ByNu (ps : List (Int × List Int)) (k : Nat) (BY : List (List Int)) (nb : List Bool) : Prop where
  bl : BY.length = k
  nl : nb.length = k
  low : ∀ x ∈ ps, ∀ s ∈ x.2, s < k
  lft : ∀ x ∈ ps, x.1 < k
  by_ : ∀ (a : Nat) (row : List Int), BY[a]? = some row → ∀ v, v ∈ row ↔ ∃ (q : Nat) (R : List Int), v = q ∧ ps[q]? = some ((a : Int), R) ∧ Fine ps R
  nu : ∀ (a : Nat) (b : Bool), nb[a]? = some b → (b = true ↔ Dw ps [(a : Int)] [])
  few : ∀ row ∈ BY, row.length ≤ 1000000
/-- The sets that are closed. -/
def StM (w : World) (m : Nat) (ss : List Nat) (Xs : List (List Itm)) : Prop := ∀ (j : Nat) (Y : List Itm), Xs[j]? = some Y → ∃ (sj ga cap : Nat), ss[j]? = some sj ∧ sj < m ∧ w.cell? ⟨sj, 0, none⟩ = some (.slice (some ⟨ga, 0, none⟩) Y.length cap) ∧ RowE w (some ⟨ga, 0, none⟩) Y ∧ ga < m ∧ Y ≠ [] ∧ Y.length ≤ 282880
theorem StM.later {w w' : World} {m : Nat} {ss : List Nat} {Xs : List (List Itm)} (h : StM w m ss Xs) (hb : Below m w w') : StM w' m ss Xs := fun j Y hY => by
  obtain ⟨sj, ga, cap, h1, h2, h3, h4, h5, h6, h7⟩ := h j Y hY
  exact ⟨sj, ga, cap, h1, h2, (hb.cell (p := ⟨sj, 0, none⟩) h2).trans h3, h4.keep hb (fun g e => by injection e with e; injection e with e; omega), h5, h6, h7⟩
end Ed
end Go.Proofs.Ytaehooafdbaomaa
