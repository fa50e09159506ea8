/- Chapter 10 (lang): the finder in memory; round: walk. -/
import Derived.Test.YtaehooafdbaomaaLang2
import Derived.Test.YtaehooafdbaomaaProds
namespace Go.Proofs.Ytaehooafdbaomaa
open Go.RowKit
attribute [local go_sem ↓] Go.wp_at_zero Go.wp_at_succ
attribute [local go_sem] frozen_alloc_lt

/-- Right sides have room for what they hold. -/
def CapP (W : World) (ga : Option Addr) (ps : List (Int × List Int)) : Prop :=
  ∀ i x, ps[i]? = some x → ∃ (g off : Nat) (ga' : Option Addr) (cap : Nat), ga = some ⟨g, off, none⟩ ∧ g < W.heap.size ∧ W.cell? ⟨g, off + i * 2 + 1, none⟩ = some (.slice ga' x.2.length cap) ∧ x.2.length ≤ cap
theorem CapP.later {W W' : World} {ga : Option Addr} {ps : List (Int × List Int)} (h : CapP W ga ps) (hb : Below W.heap.size W W') : CapP W' ga ps := fun i x hx => by
  obtain ⟨g, o, a, c, h1, h2, h3, h4⟩ := h i x hx
  exact ⟨g, o, a, c, h1, Nat.lt_of_lt_of_le h2 hb.size, (hb.cell (p := ⟨g, _, none⟩) h2).trans h3, h4⟩
theorem PrOwn.caps {w : World} {B : Nat} {TP TI : TypeId} {v : Value} {ps : List (Int × List Int)} (h : PrOwn w B TP TI v ps) : ∀ ga cap, v = .slice ga ps.length cap → CapP w ga ps := by
  intro ga0 cap0 hv0
  obtain ⟨rs, h1, h2, h3⟩ := h
  obtain ⟨ga, cap, hv, hc⟩ := own_slice h2
  rw [hv0] at hv
  injection hv with hv _ _
  subst hv
  intro i x hx
  have hi : i < rs.length := by rw [← h1]; exact (List.getElem?_eq_some_iff.1 hx).1
  have hr : rs[i]? = some rs[i] := List.getElem?_eq_getElem hi
  obtain ⟨c0, c1⟩ := prCells_at ps rs i x _ hx hr
  obtain ⟨g', hg', _, hlt, hc1⟩ := hc _ _ c1
  have hown := h3 i x _ hx hr
  rcases hown.2 with ⟨e1, e2⟩ | ⟨g2, cap2, cur, e1, _, _, hle, _⟩
  · rw [e1] at hc1
    exact ⟨g', 0, none, 0, hg', hlt, by rw [Nat.zero_add, hc1, e2], by omega⟩
  · rw [e1] at hc1
    exact ⟨g', 0, _, cap2, hg', hlt, by rw [Nat.zero_add, hc1], hle⟩
/-- What a finder is made of. -/
structure FP where
  w0 : World
  G : Gr
  gn : Option Addr
  gt : Option Addr
  gp : Option Addr
  cn : Nat
  ct : Nat
  cp : Nat
  most : Nat
  ks : List Int
  gk : Nat
  ck : Nat
structure FP.Ok (F : FP) : Prop where
  snd : SndG F.G
  sho : Facts.Sho F.G.prods F.G.names.length F.ks
  fix : Facts.fixS F.G.prods F.ks
  m : F.most ≤ 64
  i : GIn F.w0 F.G F.gn F.gt F.gp
  c : CapP F.w0 F.gp F.G.prods
def FP.cells (F : FP) (lv wv : Value) (many : Bool) : List Value :=
  [.int .i64 F.G.start, .int .i64 F.G.rules, .slice F.gn F.G.names.length F.cn, .slice F.gt F.G.terms.length F.ct, .slice F.gp F.G.prods.length F.cp, .int .i64 (F.most : Int), .slice (some ⟨F.gk, 0, none⟩) F.G.names.length F.ck, lv, wv, .bool many]
structure Fnd (F : FP) (bf : Nat) (lv wv : Value) (many : Bool) (w : World) : Prop where
  f : Bk w bf 196 (F.cells lv wv many)
  k : Bk w F.gk 3 (F.ks.map (Value.int .i64))
  k0 : F.w0.heap.size ≤ F.gk
  kf : F.gk < bf
  bw : Below F.w0.heap.size F.w0 w
section
variable {F : FP} {bf : Nat} {lv wv : Value} {many : Bool} {w w' : World}
theorem Fnd.kp {S : Nat → Prop} (h : Fnd F bf lv wv many w) (hk : Kp S w w') (hS : ∀ k, S k → bf < k) : Fnd F bf lv wv many w' :=
  ⟨h.f.kp hk (fun e => by have := hS _ e; omega), h.k.kp hk (fun e => by have := hS _ e; have := h.kf; omega), h.k0, h.kf, h.bw.trans (hk.to_below h.bw.size (fun k e => by have := hS _ e; have := h.kf; have := h.k0; omega))⟩
theorem Fnd.later (h : Fnd F bf lv wv many w) (hb : Below w.heap.size w w') : Fnd F bf lv wv many w' := h.kp (S := fun _ => False) ⟨hb.os, hb.tape, hb.output, hb.size, fun k hk _ => hb.block k hk⟩ (fun _ e => e.elim)
/-- A field that is written. -/
theorem Fnd.setMany (h : Fnd F bf lv wv many w) (b : Bool) : Fnd F bf lv wv b (w.setCell ⟨bf, 9, none⟩ (.bool b)) := by
  have h1 := h.f.set 9 (.bool b)
  have hk : Kp (fun k => k = bf) w (w.setCell ⟨bf, 9, none⟩ (.bool b)) := (Kp.refl (fun k => k = bf) w).set (p := ⟨bf, 9, none⟩) (.inl rfl) _
  exact ⟨h1, h.k.kp hk (fun e => by have := h.kf; omega), h.k0, h.kf, h.bw.trans (hk.to_below h.bw.size (fun k e => by have := h.kf; have := h.k0; omega))⟩
theorem Fnd.row (h : Fnd F bf lv wv many w) : RowI w w.heap.size (some ⟨F.gk, 0, none⟩) F.ks := fun i hi => by
  have h1 := h.k.cell i
  refine ⟨F.gk, 0, .int .i64 F.ks[i], rfl, h.k.lt, ?_, ?_⟩
  · rw [Nat.zero_add, h1]; simp [List.getElem?_eq_getElem hi]
  · simp [List.getD, List.getElem?_eq_getElem hi]
end
/-- The words that are known, in maps; those that stand in a derivation. -/
structure Wds (bf gl gw : Nat) (bs : List Bool) (ms : List Nat) (W : Lg.Tab) (n : Nat) (w : World) : Prop where
  l : Bk w gl 4 (bs.map Value.bool)
  lf : bf < gl
  v : Bk w gw 201 (ms.map fun m => Value.map (some m))
  vf : gl < gw
  m : ∀ (a m : Nat), ms[a]? = some m → SetX w m (W a) ∧ gw < m
  nd : ms.Nodup
  n1 : ms.length = n
  n2 : bs.length = n
section
variable {bf gl gw : Nat} {bs : List Bool} {ms : List Nat} {W : Lg.Tab} {n : Nat} {w w' : World}
theorem Wds.kp {S : Nat → Prop} (h : Wds bf gl gw bs ms W n w) (hk : Kp S w w') (hS : ∀ k, S k → k ≠ gl ∧ k ≠ gw ∧ k ∉ ms) : Wds bf gl gw bs ms W n w' :=
  ⟨h.l.kp hk (fun e => (hS _ e).1 rfl), h.lf, h.v.kp hk (fun e => (hS _ e).2.1 rfl), h.vf, fun a m hm => ⟨(h.m a m hm).1.kp hk (fun e => (hS _ e).2.2 (List.mem_of_getElem? hm)), (h.m a m hm).2⟩, h.nd, h.n1, h.n2⟩
theorem Wds.at (h : Wds bf gl gw bs ms W n w) {a : Nat} (ha : a < n) : ∃ m, ms[a]? = some m ∧ w.cell? ⟨gw, a, none⟩ = some (.map (some m)) ∧ SetX w m (W a) ∧ gw < m := by
  have hl : a < ms.length := by rw [h.n1]; exact ha
  refine ⟨ms[a], List.getElem?_eq_getElem hl, ?_, h.m a _ (List.getElem?_eq_getElem hl)⟩
  rw [h.v.cell a]
  simp [List.getElem?_eq_getElem hl]
end
theorem mrgT_le {a l : List (List UInt8)} : l.length ≤ (mrgT a l).length := by
  induction a with
  | nil => exact Nat.le_refl _
  | cons z a ih =>
    show l.length ≤ (insT z (mrgT a l)).length
    unfold insT
    split
    · exact ih
    · simp only [List.length_cons]; omega
theorem mrgT_same {a l : List (List UInt8)} (h : (mrgT a l).length ≤ l.length) : mrgT a l = l := by
  induction a with
  | nil => rfl
  | cons z a ih =>
    have h1 : (insT z (mrgT a l)).length ≤ l.length := h
    show insT z (mrgT a l) = l
    have h2 := mrgT_le (a := a) (l := l)
    unfold insT at h1 ⊢
    split at h1
    · rename_i hz
      rw [if_pos hz]; exact ih h1
    · simp only [List.length_cons] at h1; omega
theorem row_drop {W : World} {B : Nat} {ga ga3 : Option Addr} {R : List Int} {k cap : Nat} (h : RowI W B ga R) (hc : R.length ≤ cap) (he : (if cap = k then ga else Option.map (fun x => Addr.add x k) ga) = ga3) : RowI W B ga3 (R.drop k) := fun i hi => by
  rw [List.length_drop] at hi
  obtain ⟨g, o, u, h1, h2, h3, h4⟩ := h (k + i) (by omega)
  rw [if_neg (by omega), h1, Option.map_some, add_off0 _ rfl] at he
  refine ⟨g, o + k, u, he.symm, h2, by rw [← h3, Nat.add_assoc], ?_⟩
  rw [h4]
  simp [List.getD, List.getElem?_drop]
end Go.Proofs.Ytaehooafdbaomaa
