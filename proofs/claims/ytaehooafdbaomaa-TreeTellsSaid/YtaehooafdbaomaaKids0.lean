/- Kids of a tree, appended one by one: a row of the call's own. -/
import Derived.Test.YtaehooafdbaomaaTree0
import Derived.Test.YtaehooafdbaomaaProds
namespace Go.Proofs.Ytaehooafdbaomaa
open Go.RowKit

/-- Trees' cells: Prod and Kids. -/
def kCells : List (Int × Value) → List Value
  | [] => []
  | x :: r => .int .i64 x.1 :: x.2 :: kCells r
theorem kCells_snoc (x : Int × Value) : ∀ xs : List (Int × Value), kCells (xs ++ [x]) = kCells xs ++ [.int .i64 x.1, x.2]
  | [] => rfl
  | y :: r => by simp only [List.cons_append, kCells]; rw [kCells_snoc x r]
theorem kCells_length : ∀ xs : List (Int × Value), (kCells xs).length = xs.length * 2
  | [] => rfl
  | y :: r => by simp only [kCells, List.length_cons]; rw [kCells_length r]; omega
/-- A forest whose first row is still a list. -/
def KAt (w : World) (D : Nat → Prop) : Fo → List (Int × Value) → Prop
  | .nil, xs => xs = []
  | .cons p k r, xs => ∃ (ga : Option Addr) (c : Nat) (ys : List (Int × Value)), xs = (p, .slice ga k.len c) :: ys ∧ FoAt w D ga k 0 ∧ KAt w D r ys
theorem KAt.len {w : World} {D : Nat → Prop} : ∀ {f : Fo} {xs : List (Int × Value)}, KAt w D f xs → xs.length = f.len
  | .nil, xs, h => by unfold KAt at h; subst h; rfl
  | .cons p k r, xs, h => by
    unfold KAt at h
    obtain ⟨ga, c, ys, rfl, _, h2⟩ := h
    rw [List.length_cons, KAt.len h2, Fo.len]
theorem KAt.mono {w : World} {D D' : Nat → Prop} (hD : ∀ k, D k → D' k) : ∀ {f : Fo} {xs : List (Int × Value)}, KAt w D f xs → KAt w D' f xs
  | .nil, xs, h => h
  | .cons p k r, xs, h => by
    unfold KAt at h ⊢
    obtain ⟨ga, c, ys, e, h1, h2⟩ := h
    exact ⟨ga, c, ys, e, h1.mono hD, KAt.mono hD h2⟩
theorem KAt.kp {w w' : World} {D S : Nat → Prop} (hk : Kp S w w') (hd : ∀ k, D k → ¬ S k) : ∀ {f : Fo} {xs : List (Int × Value)}, KAt w D f xs → KAt w' D f xs
  | .nil, xs, h => h
  | .cons p k r, xs, h => by
    unfold KAt at h ⊢
    obtain ⟨ga, c, ys, e, h1, h2⟩ := h
    exact ⟨ga, c, ys, e, h1.kp hk hd, KAt.kp hk hd h2⟩
theorem KAt.snoc {w : World} {D : Nat → Prop} {p : Int} {k : Fo} {ga : Option Addr} {c : Nat} (hk : FoAt w D ga k 0) : ∀ {f : Fo} {xs : List (Int × Value)}, KAt w D f xs → KAt w D (f.app (.cons p k .nil)) (xs ++ [(p, .slice ga k.len c)])
  | .nil, xs, h => by
    unfold KAt at h
    subst h
    exact ⟨ga, c, [], rfl, hk, rfl⟩
  | .cons p' k' r, xs, h => by
    unfold KAt at h
    obtain ⟨ga', c', ys, rfl, h1, h2⟩ := h
    exact ⟨ga', c', _, rfl, h1, KAt.snoc hk h2⟩
theorem KAt.lies {w : World} {D D' : Nat → Prop} (hD : ∀ k, D k → D' k) {ga : Option Addr} : ∀ {f : Fo} {xs : List (Int × Value)} (j : Nat), KAt w D f xs → (∀ i u, (kCells xs)[i]? = some u → ∃ g, ga = some ⟨g, 0, none⟩ ∧ D' g ∧ w.cell? ⟨g, j * 2 + i, none⟩ = some u) → FoAt w D' ga f j
  | .nil, xs, j, _, _ => trivial
  | .cons p k r, xs, j, h, hc => by
    unfold KAt at h
    obtain ⟨gk, c, ys, rfl, h1, h2⟩ := h
    unfold FoAt
    refine ⟨?_, KAt.lies hD (j + 1) h2 (fun i u hu => ?_)⟩
    · obtain ⟨g, e1, d1, c1⟩ := hc 0 _ rfl
      obtain ⟨g', e2, _, c2⟩ := hc 1 _ rfl
      rw [e1] at e2
      injection e2 with e2
      injection e2 with e2
      subst e2
      exact ⟨g, 0, gk, c, e1, d1, by rw [Nat.zero_add]; exact c1, by rw [Nat.zero_add]; exact c2, h1.mono hD⟩
    · obtain ⟨g, e1, d1, c1⟩ := hc (i + 2) u (by simpa [kCells] using hu)
      exact ⟨g, e1, d1, by rw [show (j + 1) * 2 + i = j * 2 + (i + 2) by omega]; exact c1⟩

/-- v owns kids: its own row; and all below lies in new blocks beside it. -/
def KidsOwn (w : World) (B : Nat) (TP : TypeId) (v : Value) (f : Fo) : Prop :=
  ∃ xs : List (Int × Value), w.ownsRow B TP 2 v f.len (kCells xs) ∧ KAt w (fun k => B ≤ k ∧ k < w.heap.size ∧ v.ownBlock ≠ some k) f xs
section
variable {w w' : World} {B : Nat} {TP : TypeId} {v : Value} {f : Fo}
theorem KidsOwn.nil (w : World) (B : Nat) (TP : TypeId) : KidsOwn w B TP (.slice none 0 0) .nil := ⟨[], World.ownsRow_nil _ _ _ _, rfl⟩
theorem KidsOwn.slice (h : KidsOwn w B TP v f) : ∃ ga cap, v = .slice ga f.len cap := by
  obtain ⟨xs, h1, _⟩ := h
  obtain ⟨ga, cap, h3, _⟩ := own_slice h1
  exact ⟨ga, cap, h3⟩
theorem KidsOwn.kp {S : Nat → Prop} (h : KidsOwn w B TP v f) (hk : Kp S w w') (hs : ∀ k, B ≤ k → k < w.heap.size → ¬ S k) : KidsOwn w' B TP v f := by
  obtain ⟨xs, h1, h2⟩ := h
  refine ⟨xs, own_kp h1 hk (fun g hg => ?_), (h2.kp hk (fun k hk' => hs k hk'.1 hk'.2.1)).mono fun k hk' => ⟨hk'.1, Nat.lt_of_lt_of_le hk'.2.1 hk.size, hk'.2.2⟩⟩
  have := World.ownsRow.lt h1 g hg
  exact hs g this.1 this.2
theorem KidsOwn.later (h : KidsOwn w B TP v f) (hb : Below w.heap.size w w') : KidsOwn w' B TP v f :=
  h.kp (S := fun _ => False) ⟨hb.os, hb.tape, hb.output, hb.size, fun k hk _ => hb.block k hk⟩ (fun _ _ _ h => h)
theorem KidsOwn.alloc (h : KidsOwn w B TP v f) (o : Obj) : KidsOwn (w.alloc o) B TP v f := h.kp (S := fun _ => False) ((Kp.refl _ w).alloc o) (fun _ _ _ h => h)
theorem KidsOwn.drewN (h : KidsOwn w B TP v f) (n : Nat) : KidsOwn (w.drewN n) B TP v f := h.kp (S := fun _ => False) ((Kp.refl _ w).drewN n) (fun _ _ _ h => h)
theorem KidsOwn.lt (h : KidsOwn w B TP v f) : ∀ g, v.ownBlock = some g → B ≤ g ∧ g < w.heap.size := fun g hg => by
  obtain ⟨xs, h1, _⟩ := h
  exact World.ownsRow.lt h1 g hg
/-- At the end: the forest read. -/
theorem KidsOwn.lies (h : KidsOwn w B TP v f) : ∃ ga cap, v = .slice ga f.len cap ∧ FoAt w (fun k => B ≤ k ∧ k < w.heap.size) ga f 0 := by
  obtain ⟨xs, h1, h2⟩ := h
  obtain ⟨ga, cap, hv, hc⟩ := own_slice h1
  refine ⟨ga, cap, hv, h2.lies (fun k hk => ⟨hk.1, hk.2.1⟩) 0 fun i u hu => ?_⟩
  obtain ⟨g, e, h3, h4, h5⟩ := hc i u hu
  exact ⟨g, e, ⟨h3, h4⟩, by rw [Nat.zero_mul, Nat.zero_add]; exact h5⟩
/-- One more. -/
theorem KidsOwn.app {P : Program} (h : KidsOwn w B TP v f) (t ty : TypeId) (i : TypeInfo) (ht : P.underlying t = some (.slice TP)) (hi : P.info? TP = some i) (hz : i.zero = some (.agg #[.int .i64 0, .slice none 0 0])) (hsize : i.size = 2) (hby : i.bytes = 32)
    (hB : B ≤ w.heap.size) (hl : f.len ≤ 1000000) (p : Int) (k : Fo) (gk : Option Addr) (ck : Nat) (hk : FoAt w (fun q => B ≤ q ∧ q < w.heap.size ∧ v.ownBlock ≠ some q) gk k 0) (q : Nat) :
    ∃ g2 cap2 w2, (Builtin.append_ #[t, t] ty #[v, .slice (some ⟨w.heap.size, 0, none⟩) 1 1]).run P ((w.alloc (.cells #[.int .i64 p, .slice gk k.len ck] TP)).drewN q) = .ok (.slice (some ⟨g2, 0, none⟩) (f.len + 1) cap2) w2 ∧
      KidsOwn w2 B TP (.slice (some ⟨g2, 0, none⟩) (f.len + 1) cap2) (f.app (.cons p k .nil)) ∧ Kp (fun k => v.ownBlock = some k) w w2 ∧ (v.ownBlock = some g2 ∨ w.heap.size < g2) ∧ g2 < w2.heap.size := by
  obtain ⟨xs, h2, h3⟩ := h
  obtain ⟨g2, cap2, w2, hrun, h5, h6, h7, h8⟩ := run_append_lies (P := P) ((w.alloc (.cells #[.int .i64 p, .slice gk k.len ck] TP)).drewN q) t ty B TP i (.agg #[.int .i64 0, .slice none 0 0]) 2 32 ht hi hz hsize hby rfl (by omega) v f.len (kCells xs) (own_drewN (h2.alloc _) q) ⟨w.heap.size, 0, none⟩ 1 1 [.int .i64 p, .slice gk k.len ck] rfl
    (fun j u hj => by
      have hb := Bk.new w TP [.int .i64 p, .slice gk k.len ck]
      rw [add_off0 _ rfl]
      have := hb.cell j
      simp only [Nat.zero_add]
      exact this.trans hj) (fun u hu => by
        simp at hu
        rcases hu with rfl | rfl
        · rfl
        · rfl) (by omega) (by unfold maxLen; omega) (by omega) (by show B ≤ (w.alloc (.cells #[.int .i64 p, .slice gk k.len ck] TP)).heap.size; simp; omega) (w.heap.size + 1) (by show (w.alloc (.cells #[.int .i64 p, .slice gk k.len ck] TP)).heap.size = _; simp)
  have hk0 : Kp (fun k => v.ownBlock = some k) w ((w.alloc (.cells #[.int .i64 p, .slice gk k.len ck] TP)).drewN q) := ((Kp.refl _ w).alloc _).drewN q
  have hk2 : Kp (fun k => v.ownBlock = some k) w w2 := hk0.grown h6 (fun k hk _ => hk)
  have hD : ∀ q, (B ≤ q ∧ q < w.heap.size ∧ v.ownBlock ≠ some q) → B ≤ q ∧ q < w2.heap.size ∧ (Value.slice (some ⟨g2, 0, none⟩) (f.len + 1) cap2).ownBlock ≠ some q := fun q hq => by
    refine ⟨hq.1, Nat.lt_of_lt_of_le hq.2.1 hk2.size, fun e => ?_⟩
    have e : g2 = q := by simpa [Value.ownBlock] using e
    subst e
    rcases h7 with h7 | h7
    · exact hq.2.2 h7
    · omega
  refine ⟨g2, cap2, w2, hrun, ⟨xs ++ [(p, .slice gk k.len ck)], ?_, ?_⟩, hk2, h7.imp id (fun e => by omega), h8⟩
  · rw [kCells_snoc, Fo.len_app]
    exact h5
  · exact KAt.snoc ((hk.kp hk2 (fun k hk' e => hk'.2.2 e)).mono hD) ((h3.kp hk2 (fun k hk' e => hk'.2.2 e)).mono hD)
end
end Go.Proofs.Ytaehooafdbaomaa
