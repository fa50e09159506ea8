/- Chapter 14: rows of trees that are copied: append(v, row...), row[k:], row[:k]. -/
import Derived.Test.YtaehooafdbaomaaTreeRead
import Derived.Test.YtaehooafdbaomaaTreeRep
import Derived.Test.YtaehooafdbaomaaTreeB
import Derived.Test.YtaehooafdbaomaaTreeSame
import Derived.Test.YtaehooafdbaomaaLawArr
import Derived.Deep.SlicePairs
namespace Go.Proofs.Ytaehooafdbaomaa
open Go.RowKit
section
variable {α : Type} {R : World → (Nat → Prop) → α → List Value → Prop} {c : Nat} {w w' : World} {B : Nat} {T : TypeId} {v : Value} {ls : List α} {D : Nat → Prop}
theorem AllA.append : ∀ {ls zs : List α} {xs ys : List (List Value)}, AllA R w D ls xs → AllA R w D zs ys → AllA R w D (ls ++ zs) (xs ++ ys)
  | [], _, _, _, h1, h2 => by unfold AllA at h1; subst h1; exact h2
  | _ :: _, _, _, _, ⟨x, xs, e, h1, h2⟩, h3 => by subst e; exact ⟨x, _, rfl, h1, AllA.append h2 h3⟩
/-- A row of elements: their cells in one list. -/
theorem rowAll (hR : FitA R c) {ga : Option Addr} : ∀ (zs : List α) (s : Nat), (∀ (j : Nat) (a : α), zs[j]? = some a → ∃ g o x, ga = some ⟨g, o, none⟩ ∧ R w D a x ∧ ∀ k u, x[k]? = some u → w.cell? ⟨g, o + ((s + j) * c + k), none⟩ = some u) →
    ∃ ys, AllA R w D zs ys ∧ ∀ (j : Nat) (u : Value), ys.flatten[j]? = some u → ∃ g o, ga = some ⟨g, o, none⟩ ∧ w.cell? ⟨g, o + (s * c + j), none⟩ = some u
  | [], s, _ => ⟨[], rfl, fun j u h => by simp at h⟩
  | a :: zs, s, h => by
    obtain ⟨g, o, x, e, h1, h2⟩ := h 0 a rfl
    obtain ⟨ys, h3, h4⟩ := rowAll hR zs (s + 1) fun j b hj => by
      obtain ⟨g, o, x, e, h1, h2⟩ := h (j + 1) b (by simpa using hj)
      exact ⟨g, o, x, e, h1, fun k u hu => by rw [show s + 1 + j = s + (j + 1) by omega]; exact h2 k u hu⟩
    refine ⟨x :: ys, ⟨x, ys, rfl, h1, h3⟩, fun j u hu => ?_⟩
    have hl := hR.len h1
    rw [List.flatten_cons] at hu
    by_cases hj : j < c
    · rw [List.getElem?_append_left (by omega)] at hu
      exact ⟨g, o, e, by simpa using h2 j u hu⟩
    · rw [List.getElem?_append_right (by omega), hl] at hu
      obtain ⟨g', o', e', h5⟩ := h4 _ _ hu
      exact ⟨g', o', e', by rw [show s * c + j = (s + 1) * c + (j - c) by rw [Nat.succ_mul]; omega]; exact h5⟩
theorem AllA.one (hR : FitA R c) : ∀ {ls : List α} {xs : List (List Value)}, AllA R w D ls xs → ∀ u ∈ xs.flatten, u.oneCell' = true
  | [], _, h, u, hu => by unfold AllA at h; subst h; simp at hu
  | _ :: _, _, ⟨x, xs, e, h1, h2⟩, u, hu => by
    subst e
    rw [List.flatten_cons, List.mem_append] at hu
    exact hu.elim (hR.one h1 u) (AllA.one hR h2 u)
/-- append(v, row...). -/
theorem OwnA.appRow {P : Program} (hR : FitA R c) (h : OwnA R c w B T v ls) (t ty : TypeId) (i : TypeInfo) (z : Value) (bytes : Nat) (ht : P.underlying t = some (.slice T)) (hi : P.info? T = some i) (hz : i.zero = some z) (hsize : i.size = c) (hby : i.bytes = bytes) (hzs : z.cells.size = c) (hc : 0 < c) (hbb : bytes ≤ 64)
    (hB : B ≤ w.heap.size) (ga : Option Addr) (cs : Nat) (zs : List α)
    (hrow : ∀ (j : Nat) (a : α), zs[j]? = some a → ∃ g o x, ga = some ⟨g, o, none⟩ ∧ R w (fun q => B ≤ q ∧ q < w.heap.size ∧ v.ownBlock ≠ some q) a x ∧ ∀ k u, x[k]? = some u → w.cell? ⟨g, o + (j * c + k), none⟩ = some u)
    (hl : ls.length + zs.length ≤ 1000000) :
    ∃ gv cap w2, (Builtin.append_ #[t, t] ty #[v, .slice ga zs.length cs]).run P w = .ok (.slice gv (ls.length + zs.length) cap) w2 ∧
      OwnA R c w2 B T (.slice gv (ls.length + zs.length) cap) (ls ++ zs) ∧ Kp (fun k => v.ownBlock = some k) w w2 ∧ ((Value.slice gv (ls.length + zs.length) cap).ownBlock = v.ownBlock ∨ (Value.slice gv (ls.length + zs.length) cap).ownBlock = some w.heap.size) := by
  obtain ⟨xs, h2, h3⟩ := h
  obtain ⟨ys, h4, h5⟩ := rowAll hR zs 0 fun j a hj => by
    obtain ⟨g, o, x, e, h1, h2⟩ := hrow j a hj
    exact ⟨g, o, x, e, h1, fun k u hu => by rw [Nat.zero_add]; exact h2 k u hu⟩
  have hyl := AllA.flat hR h4
  cases ga with
  | none =>
    have hnil : zs = [] := by
      cases zs with
      | nil => rfl
      | cons u r => obtain ⟨g, o, x, e, _⟩ := hrow 0 u rfl; cases e
    subst hnil
    obtain ⟨ga', cap, rfl, -⟩ := own_slice h2
    refine ⟨ga', cap, w, ?_, ⟨xs, by simpa using h2, by simpa using h3⟩, Kp.refl _ _, .inl rfl⟩
    rcases h2.2 with ⟨h0, h1⟩ | ⟨g, cap', cur, h0, _, _, hnc, _⟩
    · injection h0 with e1 e2 e3
      subst e1
      subst e3
      simp [Builtin.append_, run_underlying ht, sizeOf, typeInfo, hi, Builtin.lenOf, Builtin.firstCells, h1]
    · cases h0
      simp [Builtin.append_, run_underlying ht, sizeOf, typeInfo, hi, Builtin.lenOf, Builtin.firstCells, hnc, storeCells]
  | some ad =>
    have had : zs ≠ [] → ∃ g o, ad = ⟨g, o, none⟩ := fun hne => by
      cases zs with
      | nil => exact absurd rfl hne
      | cons u r => obtain ⟨g, o, x, e, _⟩ := hrow 0 u rfl; injection e with e; exact ⟨g, o, e⟩
    have hb2 : (ls.length + zs.length) * bytes ≤ 1000000 * 64 := Nat.mul_le_mul hl hbb
    obtain ⟨v', w2, hrun, k2, k3, -, k5⟩ := run_append_own_at (P := P) w B t ty T i z c bytes ht hi hz hsize hby hzs hc v ls.length xs.flatten h2 ad zs.length cs ys.flatten hyl (fun j u hu => by
      obtain ⟨g, o, e, h6⟩ := h5 j u hu
      injection e with e
      subst e
      rw [add_off0 _ rfl]
      simpa using h6) (AllA.one hR h4) (by unfold maxLen; omega) (by omega) hB
    obtain ⟨gv, cap, rfl, -⟩ := own_slice k2
    have hk2 : Kp (fun k => v.ownBlock = some k) w w2 := (Kp.refl _ w).grown k3 (fun k hk _ => hk)
    have hD : ∀ q, (B ≤ q ∧ q < w.heap.size ∧ v.ownBlock ≠ some q) → B ≤ q ∧ q < w2.heap.size ∧ (Value.slice gv (ls.length + zs.length) cap).ownBlock ≠ some q := fun q hq => by
      refine ⟨hq.1, Nat.lt_of_lt_of_le hq.2.1 hk2.size, fun e => ?_⟩
      rcases k5 with k5 | k5
      · exact hq.2.2 (k5 ▸ e)
      · rw [k5] at e
        injection e with e
        omega
    refine ⟨gv, cap, w2, hrun, ⟨xs ++ ys, by rw [List.flatten_append, List.length_append]; exact k2, ?_⟩, hk2, k5⟩
    exact ((h3.append h4).kp hR hk2 (fun k hk' e => hk'.2.2 e)).mono hR hD
end
/-- The trees of a row, one by one. -/
theorem FoAt.el {w : World} {D : Nat → Prop} {ga : Option Addr} : ∀ {ls : List (Int × Fo)} {s : Nat}, FoAt w D ga (Fo.ofList ls) s → ∀ (j : Nat) (a : Int × Fo), ls[j]? = some a → ∃ g o x, ga = some ⟨g, o, none⟩ ∧ D g ∧ TreR w D a x ∧ ∀ k u, x[k]? = some u → w.cell? ⟨g, o + ((s + j) * 2 + k), none⟩ = some u
  | [], _, _, j, a, hj => by simp at hj
  | b :: r, s, h, j, a, hj => by
    unfold Fo.ofList FoAt at h
    obtain ⟨⟨g, o, gk, ck, e, hg, c0, c1, hk⟩, hr⟩ := h
    cases j with
    | zero =>
      simp at hj
      subst hj
      refine ⟨g, o, _, e, hg, ⟨gk, ck, rfl, hk⟩, fun k u hu => ?_⟩
      match k, hu with
      | 0, hu => simp at hu; subst hu; simpa using c0
      | 1, hu => simp at hu; subst hu; simpa [Nat.add_assoc] using c1
    | succ j =>
      obtain ⟨g', o', x, e1, e2, e3, e4⟩ := FoAt.el hr j a (by simpa using hj)
      exact ⟨g', o', x, e1, e2, e3, fun k u hu => by rw [show s + (j + 1) = s + 1 + j by omega]; exact e4 k u hu⟩
theorem elem_treesS : Try.prog.elem 43 = 45 := by kernel_rfl
theorem und_treesS : Try.prog.underlying 43 = some (.slice (Try.prog.elem 43)) := by rw [elem_treesS]; exact Try.underlying43
theorem size_treeS : ∀ W, (sizeOf 45).run Try.prog W = .ok 2 W := by
  obtain ⟨i0, hi0, y0, y1, y2⟩ := info_parts treeInfoR
  intro W
  simp [sizeOf, typeInfo, hi0, y1]
/-- row[k:]. -/
theorem tslice_from {ga : Option Addr} {n k ca : Nat} (hk : k ≤ n) (hc : n ≤ ca) (hm : ca ≤ 9223372036854775807) (hga : ∀ a, ga = some a → a.spot = none) : ∃ ga3 c3, (∀ W : World, (Instr.slice 43 (.slice ga n ca) (some (.int .i64 (k : Int))) none none).run Try.prog W = .ok (.slice ga3 (n - k) c3) W) ∧
    (k < n → ∀ g o, ga = some ⟨g, o, none⟩ → ga3 = some ⟨g, o + k * 2, none⟩) := by
  cases ga with
  | none =>
    refine ⟨none, ca - k, fun W => ?_, fun _ g o e => by cases e⟩
    rw [run_slice_l W _ _ _ _ und_treesS .i64 _ (by omega) (by omega), elem_treesS, size_treeS W]
    simp [sliced, Result.andThen]
  | some a =>
    have h0 := hga a rfl
    obtain ⟨g, o, s⟩ := a
    simp only at h0
    subst h0
    by_cases hcap : ca = k
    · refine ⟨some ⟨g, o, none⟩, ca - k, fun W => ?_, fun h => by omega⟩
      rw [run_slice_l W _ _ _ _ und_treesS .i64 _ (by omega) (by omega), elem_treesS, size_treeS W]
      simp [sliced, Result.andThen, hcap]
    · refine ⟨some ⟨g, o + k * 2, none⟩, ca - k, fun W => ?_, fun _ g o e => by cases e; rfl⟩
      rw [run_slice_l W _ _ _ _ und_treesS .i64 _ (by omega) (by omega), elem_treesS, size_treeS W]
      simp [sliced, Result.andThen, hcap, add_off0]
/-- row[:k]. -/
theorem tslice_to {ga : Option Addr} {M k ca : Nat} (hk : k ≤ ca) (hga : ∀ a, ga = some a → a.spot = none) : ∀ W : World, (Instr.slice 43 (.slice ga M ca) none (some (.int .i64 (k : Int))) none).run Try.prog W = .ok (.slice ga k ca) W := by
  intro W
  rw [run_slice_h W _ _ _ _ und_treesS .i64 _ (by omega) (by omega), elem_treesS, size_treeS W]
  cases ga with
  | none => simp [sliced, Result.andThen]
  | some a =>
    have := hga a rfl
    obtain ⟨b, o, s⟩ := a
    simp only at this
    subst this
    simp [sliced, Result.andThen, add_off0]
theorem own_emptyT (w : World) {B : Nat} (hB : B ≤ w.heap.size) : OwnA TreR 2 (w.alloc (.cells #[] 45)) B 45 (.slice (some ⟨w.heap.size, 0, none⟩) 0 0) [] :=
  ⟨[], ⟨rfl, .inr ⟨w.heap.size, 0, #[], rfl, hB, heap_alloc_new _ _, Nat.le_refl _, by unfold maxLen; omega, by simp, by simp⟩⟩, rfl⟩
/-- append(v, row...) of trees. -/
theorem tapp_row {w : World} {B : Nat} {v : Value} {ls : List (Int × Fo)} (h : OwnA TreR 2 w B 45 v ls) (hB : B ≤ w.heap.size) (ga : Option Addr) (cs : Nat) (zs : List (Int × Fo))
    (hrow : ∀ (j : Nat) (a : Int × Fo), zs[j]? = some a → ∃ g o x, ga = some ⟨g, o, none⟩ ∧ TreR w (fun q => B ≤ q ∧ q < w.heap.size ∧ v.ownBlock ≠ some q) a x ∧ ∀ k u, x[k]? = some u → w.cell? ⟨g, o + (j * 2 + k), none⟩ = some u)
    (hl : ls.length + zs.length ≤ 1000000) :
    ∃ gv cap w2, (Builtin.append_ #[43, 43] 43 #[v, .slice ga zs.length cs]).run Try.prog w = .ok (.slice gv (ls.length + zs.length) cap) w2 ∧
      OwnA TreR 2 w2 B 45 (.slice gv (ls.length + zs.length) cap) (ls ++ zs) ∧ Kp (fun k => v.ownBlock = some k) w w2 ∧ ((Value.slice gv (ls.length + zs.length) cap).ownBlock = v.ownBlock ∨ (Value.slice gv (ls.length + zs.length) cap).ownBlock = some w.heap.size) := by
  obtain ⟨i0, hi0, y0, y1, y2⟩ := info_parts treeInfoR
  exact h.appRow (P := Try.prog) TreR.fit 43 43 i0 _ 32 Try.underlying43 hi0 y0 y1 y2 rfl (by omega) (by omega) hB ga cs zs hrow hl
/-- append(v, t). -/
theorem tapp_one {w : World} {B : Nat} {v : Value} {ls : List (Int × Fo)} (h : OwnA TreR 2 w B 45 v ls) (hB : B ≤ w.heap.size) {b : Nat} {p : Int} {k : Fo} {gk : Option Addr} {ck : Nat} (hX : Bk w b 45 [.int .i64 p, .slice gk k.len ck])
    (hk : FoAt w (fun q => B ≤ q ∧ q < w.heap.size ∧ v.ownBlock ≠ some q) gk k 0) (hl : ls.length ≤ 1000) :
    ∃ gv cap w2, (Builtin.append_ #[43, 43] 43 #[v, .slice (some ⟨b, 0, none⟩) 1 1]).run Try.prog w = .ok (.slice gv (ls.length + 1) cap) w2 ∧
      OwnA TreR 2 w2 B 45 (.slice gv (ls.length + 1) cap) (ls ++ [(p, k)]) ∧ Kp (fun k => v.ownBlock = some k) w w2 := by
  obtain ⟨gv, cap, w2, h1, h2, h3, -⟩ := tapp_row h hB (some ⟨b, 0, none⟩) 1 [(p, k)] (fun j a hj => by
    cases j with
    | zero =>
      simp at hj
      subst hj
      refine ⟨b, 0, _, rfl, ⟨gk, ck, rfl, hk⟩, fun q u hu => ?_⟩
      have h4 := (hX.cell q).trans hu
      simpa using h4
    | succ j => simp at hj) (by simp; omega)
  exact ⟨gv, cap, w2, h1, h2, h3⟩
/-- A stack of trees: a row that is read. -/
structure StkAt (B : Nat) (gs : Option Addr) (cs : Nat) (ls : List (Int × Fo)) (w : World) : Prop where
  at' : FoAt w (fun k => B ≤ k ∧ k < w.heap.size) gs (Fo.ofList ls) 0
  cap : ls.length ≤ cs ∧ cs ≤ 9223372036854775807
  spot : ∀ a, gs = some a → a.spot = none
theorem StkAt.of {w : World} {B n cs : Nat} {gs : Option Addr} {ls : List (Int × Fo)} (h : OwnA TreR 2 w B 45 (.slice gs n cs) ls) (hn : n = ls.length) : StkAt B gs cs ls w := by
  subst hn
  obtain ⟨ga, ca, e, hlies⟩ := h.lies TreR.fit
  injection e with e1 e2 e3
  subst e1 e3
  refine ⟨FoAt.row fun j a hj => ?_, ?_, ?_⟩
  · obtain ⟨g, x, e, h1, h2, h3, h4⟩ := hlies j a hj
    exact ⟨g, x, e, ⟨h1, h2⟩, h3, fun q u hu => by rw [Nat.zero_add]; exact h4 q u hu⟩
  · obtain ⟨xs, h1, -⟩ := h
    rcases h1.2 with ⟨h0, h2⟩ | ⟨g, c, cur, h0, _, _, h2, h3, _⟩
    · injection h0 with _ _ e; omega
    · injection h0 with _ _ e; unfold maxLen at h3; omega
  · obtain ⟨xs, h1, -⟩ := h
    rcases h1.2 with ⟨h0, h2⟩ | ⟨g, c, cur, h0, _, _, h2, h3, _⟩
    · injection h0 with e _ _; intro a ha; rw [e] at ha; cases ha
    · injection h0 with e _ _; intro a ha; rw [e] at ha; cases ha; rfl
theorem StkAt.later {w w' : World} {B cs : Nat} {gs : Option Addr} {ls : List (Int × Fo)} (h : StkAt B gs cs ls w) (hb : Below w.heap.size w w') : StkAt B gs cs ls w' :=
  ⟨(h.at'.below hb (fun _ hk => hk.2)).mono fun _k hk => ⟨hk.1, Nat.lt_of_lt_of_le hk.2 hb.size⟩, h.cap, h.spot⟩
theorem ofList_nodes_app : ∀ (a b : List (Int × Fo)), (Fo.ofList (a ++ b)).nodes = (Fo.ofList a).nodes + (Fo.ofList b).nodes
  | [], b => by simp [Fo.ofList, Fo.nodes]
  | x :: r, b => by simp only [List.cons_append, Fo.ofList, Fo.nodes, ofList_nodes_app r b]; omega
theorem ofList_fits_app : ∀ (a b : List (Int × Fo)), (Fo.ofList (a ++ b)).fits ↔ (Fo.ofList a).fits ∧ (Fo.ofList b).fits
  | [], b => by simp [Fo.ofList, Fo.fits]
  | x :: r, b => by simp only [List.cons_append, Fo.ofList, Fo.fits, ofList_fits_app r b]; exact ⟨fun ⟨h1, h2, h3, h4⟩ => ⟨⟨h1, h2, h3⟩, h4⟩, fun ⟨⟨h1, h2, h3⟩, h4⟩ => ⟨h1, h2, h3, h4⟩⟩
end Go.Proofs.Ytaehooafdbaomaa
/- Chapter 14: built: the tree of a row of hand-made nodes. -/
namespace Go.Proofs.Ytaehooafdbaomaa
open Go.RowKit
attribute [local go_sem ↓] Go.wp_at_zero Go.wp_at_succ
attribute [local go_sem] frozen_alloc_lt

/-- A row of hand-made nodes. -/
def RowM (w : World) (B : Nat) (gm : Option Addr) (ms : List (Int × Int)) : Prop := ∀ (j : Nat) (x : Int × Int), ms[j]? = some x → ∃ g o, gm = some ⟨g, o, none⟩ ∧ g < B ∧ w.cell? ⟨g, o + j * 2, none⟩ = some (.int .i64 x.1) ∧ w.cell? ⟨g, o + j * 2 + 1, none⟩ = some (.int .i64 x.2) ∧ -9223372036854775808 ≤ x.1
def BuiltSaid (w : World) (e : Ending) (w' : World) : Prop := ∃ (p : Int) (k : Fo) (gk : Option Addr) (ck : Nat), e = .returned (.agg #[.int .i64 p, .slice gk k.len ck]) ∧ FoAt w' (fun q => q < w'.heap.size) gk k 0 ∧ k.nodes ≤ 30 ∧ -9223372036854775808 ≤ p ∧ k.fits ∧ Below w.heap.size w w'
def BuAt (w0 : World) (n : Nat) (mm : Nat) (v3 v4 : Value) (w : World) : Prop := ∃ (i : Nat) (gs : Option Addr) (cs : Nat) (ls : List (Int × Fo)), v4 = .int .i64 i ∧ i ≤ n ∧ v3 = .slice gs ls.length cs ∧ StkAt w0.heap.size gs cs ls w ∧ (Fo.ofList ls).nodes ≤ i ∧ (Fo.ofList ls).fits ∧ Below w0.heap.size w0 w ∧ mm = n - i
/-- What the last append of a round leaves. -/
def Pushed (B : Nat) (w9 : World) (n : Nat) (ls : List (Int × Fo)) (v3 : Value) (w : World) : Prop := ∃ gs cs, v3 = .slice gs n cs ∧ StkAt B gs cs ls w ∧ Below w9.heap.size w9 w
theorem below_of_kp {S : Nat → Prop} {w w' : World} {B : Nat} (h : Kp S w w') (hB : B ≤ w.heap.size) (hS : ∀ k, S k → B ≤ k) : Below B w w' := h.to_below hB hS
theorem ofList_len_le : ∀ l : List (Int × Fo), l.length ≤ (Fo.ofList l).nodes
  | [] => Nat.zero_le _
  | x :: r => by have := ofList_len_le r; simp only [Fo.ofList, Fo.nodes, List.length_cons]; omega
theorem FoAt.takeL {w : World} {D : Nat → Prop} {ga : Option Addr} : ∀ (ls : List (Int × Fo)) (s m : Nat), FoAt w D ga (Fo.ofList ls) s → FoAt w D ga (Fo.ofList (ls.take m)) s
  | [], s, m, h => by rw [List.take_nil]; trivial
  | x :: r, s, 0, h => trivial
  | x :: r, s, m + 1, h => by
    rw [List.take_succ_cons]
    unfold Fo.ofList FoAt at h ⊢
    exact ⟨h.1, FoAt.takeL r (s + 1) m h.2⟩
/-- A tree whose blocks are in D0. -/
def TreRD (D0 : Nat → Prop) (w : World) (D : Nat → Prop) (a : Int × Fo) (x : List Value) : Prop := TreR w D0 a x ∧ ∀ k, D0 k → D k
theorem TreRD.fit (D0 : Nat → Prop) : FitA (TreRD D0) 2 where
  len := fun h => TreR.fit.len h.1
  mono := fun hD h => ⟨h.1, fun k hk => hD k (h.2 k hk)⟩
  kp := fun hk hd h => ⟨TreR.fit.kp hk (fun k h0 => hd k (h.2 k h0)) h.1, h.2⟩
  one := fun h => TreR.fit.one h.1
/-- append([]T(nil), row...), of trees older than b. -/
theorem tapp_kids {w : World} {B b : Nat} (hB : B ≤ b) (hb : b < w.heap.size) (ga : Option Addr) (cs : Nat) (zs : List (Int × Fo))
    (hrow : ∀ (j : Nat) (a : Int × Fo), zs[j]? = some a → ∃ g o x, ga = some ⟨g, o, none⟩ ∧ TreR w (fun q => B ≤ q ∧ q < b) a x ∧ ∀ k u, x[k]? = some u → w.cell? ⟨g, o + (j * 2 + k), none⟩ = some u) {n : Nat} (hn : zs.length = n) (hl : n ≤ 900) :
    ∃ gv cap w2, (Builtin.append_ #[43, 43] 43 #[.slice none 0 0, .slice ga n cs]).run Try.prog w = .ok (.slice gv n cap) w2 ∧
      FoAt w2 (fun q => B ≤ q ∧ q < w2.heap.size ∧ q ≠ b) gv (Fo.ofList zs) 0 ∧ Kp (fun _ => False) w w2 := by
  subst hn
  obtain ⟨i0, hi0, y0, y1, y2⟩ := info_parts treeInfoR
  obtain ⟨gv, cap, w2, h1, h2, h3, h4⟩ := (OwnA.nil (TreRD (fun q => B ≤ q ∧ q < b)) 2 w B 45).appRow (P := Try.prog) (TreRD.fit _) 43 43 i0 _ 32 Try.underlying43 hi0 y0 y1 y2 rfl (by omega) (by omega) (by omega) ga cs zs (fun j a hj => by
    obtain ⟨g, o, x, e, h1, h2⟩ := hrow j a hj
    exact ⟨g, o, x, e, ⟨h1, fun k hk => ⟨hk.1, by have := hk.2; omega, fun e => by cases e⟩⟩, h2⟩) (by simp; omega)
  simp only [List.length_nil, Nat.zero_add, List.nil_append] at h1 h2 h4
  have hk : Kp (fun _ => False) w w2 := h3.mono fun q _ e => by cases e
  refine ⟨gv, cap, w2, h1, ?_, hk⟩
  obtain ⟨ga', ca', e, hlies⟩ := h2.lies (TreRD.fit _)
  injection e with e1 e2 e3
  subst e1 e3
  refine FoAt.row fun j a hj => ?_
  obtain ⟨g, x, e, g1, g2, g3, g4⟩ := hlies j a hj
  subst e
  have hgb : g ≠ b := by
    rcases h4 with h4 | h4
    · cases h4
    · have h5 : some g = some w.heap.size := h4
      injection h5 with h5
      omega
  refine ⟨g, x, rfl, ⟨g1, g2, hgb⟩, TreR.fit.mono (fun q hq => ⟨hq.1, by have := hk.size; have := hq.2; omega, by have := hq.2; omega⟩) g3.1, fun q u hu => by rw [Nat.zero_add]; exact g4 q u hu⟩
/-- append(append([]T{}, stack[:m]...), t): three orders. -/
theorem push_one {W w9 : World} {B b0 : Nat} {gs : Option Addr} {cs : Nat} {zs : List (Int × Fo)}
    (h0 : OwnA TreR 2 W B 45 (.slice (some ⟨b0, 0, none⟩) 0 0) []) (hB : B ≤ w9.heap.size) (hb0 : w9.heap.size ≤ b0) (hW : Below w9.heap.size w9 W) (hst : FoAt w9 (fun q => B ≤ q ∧ q < w9.heap.size) gs (Fo.ofList zs) 0) (hl : zs.length ≤ 900) :
    ∃ g1 c1 w1, (Builtin.append_ #[43, 43] 43 #[.slice (some ⟨b0, 0, none⟩) 0 0, .slice gs zs.length cs]).run Try.prog W = .ok (.slice g1 zs.length c1) w1 ∧ OwnA TreR 2 w1 B 45 (.slice g1 zs.length c1) zs ∧ Below w9.heap.size w9 w1 ∧ Kp (fun q => q = b0) W w1 ∧
      (∀ q, q < W.heap.size → q ≠ b0 → (Value.slice g1 zs.length c1).ownBlock ≠ some q) ∧ (∀ q, (Value.slice g1 zs.length c1).ownBlock = some q → w9.heap.size ≤ q) := by
  have hsz := hW.size
  obtain ⟨gv, cap, w1, hrun, hown, hkp, hob⟩ := tapp_row h0 (Nat.le_trans hB hsz) gs cs zs (fun j a hj => by
    obtain ⟨g, o, x, e, hD, h1, h2⟩ := FoAt.el hst j a hj
    refine ⟨g, o, x, e, TreR.fit.mono (fun q hq => ⟨hq.1, Nat.lt_of_lt_of_le hq.2 hsz, fun e => ?_⟩) (TreR.fit.kp (S := fun q => w9.heap.size ≤ q) ⟨hW.os, hW.tape, hW.output, hW.size, fun q hq _ => hW.block q hq⟩ (fun q hq e => by have := hq.2; omega) h1), fun q u hu => ?_⟩
    · have e2 : some b0 = some q := e
      injection e2 with e2
      have := hq.2
      omega
    · have h3 := h2 q u hu
      rw [Nat.zero_add] at h3
      exact (hW.cell (p := ⟨g, _, none⟩) hD.2).trans h3) (by simp; omega)
  simp only [List.length_nil, Nat.zero_add, List.nil_append] at hrun hown hob
  have hk2 : Kp (fun q => q = b0) W w1 := hkp.mono fun q _ e => (show b0 = q by simpa [Value.ownBlock] using e).symm
  refine ⟨gv, cap, w1, hrun, hown, hW.trans (hk2.to_below hsz fun q e => by have : q = b0 := e; omega), hk2, fun q hq hq0 e => ?_, fun q e => ?_⟩
  · rcases hob with hob | hob
    · have e2 : some b0 = some q := hob.symm.trans e
      injection e2 with e2
      exact hq0 e2.symm
    · have e2 : some W.heap.size = some q := hob.symm.trans e
      injection e2 with e2
      omega
  · rcases hob with hob | hob
    · have e2 : some b0 = some q := hob.symm.trans e
      injection e2 with e2
      omega
    · have e2 : some W.heap.size = some q := hob.symm.trans e
      injection e2 with e2
      omega
theorem push_two {W w9 : World} {B bX : Nat} {p : Int} {k : Fo} {gk : Option Addr} {ck n : Nat} {v1 : Value} {zs : List (Int × Fo)}
    (h1 : OwnA TreR 2 W B 45 v1 zs) (hB : B ≤ w9.heap.size) (hW : Below w9.heap.size w9 W) (hX : Bk W bX 45 [.int .i64 p, .slice gk k.len ck]) (hk : FoAt w9 (fun q => B ≤ q ∧ q < w9.heap.size) gk k 0) (hv : ∀ q, v1.ownBlock = some q → w9.heap.size ≤ q) (hn : zs.length = n) (hl : n ≤ 900) :
    ∃ g2 c2 w2, (Builtin.append_ #[43, 43] 43 #[v1, .slice (some ⟨bX, 0, none⟩) 1 1]).run Try.prog W = .ok (.slice g2 (n + 1) c2) w2 ∧ Hid (Pushed B w9 (n + 1) (zs ++ [(p, k)]) (.slice g2 (n + 1) c2) w2) := by
  subst hn
  have hsz := hW.size
  obtain ⟨g2, c2, w2, hrun, hown, hkp⟩ := tapp_one h1 (Nat.le_trans hB hsz) hX (((hk.below hW (fun _ h => h.2)).mono fun q hq => ⟨hq.1, Nat.lt_of_lt_of_le hq.2 hsz, fun e => by have := hv q e; have := hq.2; omega⟩)) (by omega)
  exact ⟨g2, c2, w2, hrun, g2, c2, rfl, StkAt.of hown (by simp), hW.trans (hkp.to_below hsz hv)⟩
set_option maxRecDepth 8000 in
set_option maxHeartbeats 4000000 in
theorem built_calls (w : World) (gm : Option Addr) (cm : Nat) (ms : List (Int × Int)) (hr : RowM w w.heap.size gm ms) (hl : ms.length ≤ 9223372036854775807) : Calls Try.prog 26 #[.slice gm ms.length cm] w (BuiltSaid w) := by
  have hb0 : Below w.heap.size w (w.alloc (.cells #[.int .i64 0, .slice none 0 0] 45)) := bel_al (bel_id w) _
  have hk2 := Bk.new w 45 [.int .i64 0, .slice none 0 0]
  obtain ⟨w0, hw0⟩ : ∃ w0, w0 = w.alloc (.cells #[.int .i64 0, .slice none 0 0] 45) := ⟨_, rfl⟩
  obtain ⟨b2, hb2⟩ : ∃ b2, b2 = w.heap.size := ⟨_, rfl⟩
  rw [← hw0] at hb0 hk2
  rw [← hb2] at hk2
  obtain ⟨L, hL⟩ : ∃ L, L = ms.length := ⟨_, rfl⟩
  rw [← hL] at hl ⊢
  obtain ⟨n, hn⟩ : ∃ n, n = min L 30 := ⟨_, rfl⟩
  have hn30 : n ≤ 30 := by omega
  have Hw0 := hid (And.intro hw0 hb2)
  have Hb0 := hid hb0
  have Hk2 := hid hk2
  have Hr := hid hr
  have HL := hid hL
  have Hn := hid (And.intro hn hn30)
  have hLm : (L : Int) ≤ 9223372036854775807 := by omega
  clear hw0 hb2 hb0 hk2 hr hL hn hn30 hl
  go_enter Try.func26, Try.ntmps26
  go_upto_region 1 with fail
  rw [← Hw0.out.1, ← Hw0.out.2]
  go_wp2_with fail
  go_loopg [3, 4] n (fun mm v3 v4 wr => BuAt w0 n mm v3 v4 wr)
  case atStart => exact ⟨0, none, 0, [], rfl, Nat.zero_le _, rfl, ⟨trivial, by simp, fun a e => by cases e⟩, Nat.zero_le _, trivial, Below.refl _ _, by omega⟩
  case round =>
    obtain ⟨i, gs, cs, ls, rfl, hi, rfl, hst, hnn, hfit, hbw, hmm⟩ := hrel
    obtain ⟨nl, hnl⟩ : ∃ nl, nl = ls.length := ⟨_, rfl⟩
    have hnl30 : nl ≤ 30 := by have := ofList_len_le ls; have := Hn.out.2; omega
    rw [← hnl]
    have Hst := hid hst
    have Hnn := hid (And.intro hnn hfit)
    have Hbw := hid hbw
    have Hmm := hid (And.intro hmm hi)
    have Hnl := hid (And.intro hnl hnl30)
    have hnl2 : (nl : Int) ≤ 30 := by omega
    by_cases hlt : i < n
    · have hlt1 : (i : Int) < (L : Int) := by have := Hn.out.1; omega
      have hlt2 : (i : Int) < 30 := by have := Hn.out.2; omega
      have hi0 : (0 : Int) ≤ (i : Int) := by omega
      have hil : i < ms.length := by have := Hn.out.1; have := HL.out; omega
      obtain ⟨x, hx⟩ : ∃ x, ms[i]? = some x := ⟨_, List.getElem?_eq_getElem hil⟩
      obtain ⟨gx, ox, hgm, hgb, hx0, hx1, hxp⟩ := Hr.out i x hx
      have hgw : gx < w0.heap.size := Nat.lt_of_lt_of_le hgb Hb0.out.size
      have c0 := ((hbw.cell (p := ⟨gx, _, none⟩) hgw).trans (Hb0.out.cell (p := ⟨gx, _, none⟩) hgb)).trans hx0
      have c1 := ((hbw.cell (p := ⟨gx, _, none⟩) hgw).trans (Hb0.out.cell (p := ⟨gx, _, none⟩) hgb)).trans hx1
      obtain ⟨m, hm3, hand⟩ := and3 x.2
      have Hxp := hid hxp
      have Hlt := hid hlt
      have hm0 : (m : Int) ≤ 3 := by omega
      subst hgm
      clear hst hnn hfit hbw hmm hi hnl hlt hil hx hgb hx0 hx1 hxp hgw hnl30 hm3
      obtain ⟨k, hk⟩ : ∃ k, k = min m nl := ⟨_, rfl⟩
      have Hk := hid hk
      clear hk
      go_upto_if 26 with fail
      go_cut [5] from 26 to 28 (fun v5 wx => v5 = .int .i64 (k : Int) ∧ wx = wr)
      case first =>
        by_cases hmn : nl < m
        · have hd : (nl : Int) < (m : Int) := by omega
          have Hmin := hid (show min m nl = nl by omega)
          clear hmn
          go_wp2_with fail
          go_meet
          exact ⟨by rw [Hk.out, Hmin.out], rfl⟩
        · have hd : ¬ (nl : Int) < (m : Int) := by omega
          have Hmin := hid (show min m nl = m by omega)
          clear hmn
          go_wp2_with fail
          go_meet
          exact ⟨by rw [Hk.out, Hmin.out], rfl⟩
      case rest =>
        obtain ⟨rfl, rfl⟩ := hcut
        have hk := Hk.out
        obtain ⟨d, hd⟩ : ∃ d, d = nl - k := ⟨_, rfl⟩
        have hdk : d + k = nl := by omega
        have hdn : d ≤ nl := by omega
        have hkn1 : (k : Int) ≤ (nl : Int) := by omega
        have hsub : ((nl : Int) - (k : Int)) = (d : Int) := by omega
        have hk2' := Bk.new wc 45 [.int .i64 x.1, .slice none 0 0]
        have hal : Below wc.heap.size wc (wc.alloc (.cells #[.int .i64 x.1, .slice none 0 0] 45)) := bel_al (bel_id wc) _
        obtain ⟨w8, hw8⟩ : ∃ w8, w8 = wc.alloc (.cells #[.int .i64 x.1, .slice none 0 0] 45) := ⟨_, rfl⟩
        obtain ⟨b6, hb6⟩ : ∃ b6, b6 = wc.heap.size := ⟨_, rfl⟩
        rw [← hw8] at hk2' hal
        rw [← hb6] at hk2'
        have Hw8 := hid (And.intro hw8 hb6)
        have hbD : Below wc.heap.size wc w8.drew := hal.drew
        have hfD : FoAt w8.drew (fun q => w0.heap.size ≤ q ∧ q < b6) gs (Fo.ofList ls) 0 := (Hst.out.at'.below hbD (fun _ h => h.2)).mono fun q hq => ⟨hq.1, by rw [hb6]; exact hq.2⟩
        have hcs0 : nl ≤ cs := by have := Hst.out.cap.1; have := Hnl.out.1; omega
        obtain ⟨ga3, hga0⟩ : ∃ ga3, (if cs = d then gs else Option.map (fun x => Addr.add x (d * 2)) gs) = ga3 := ⟨_, rfl⟩
        have hga3 : d < nl → ∀ g o, gs = some ⟨g, o, none⟩ → ga3 = some ⟨g, o + d * 2, none⟩ := fun h g o e => by
          rw [← hga0, if_neg (by omega), e, Option.map_some, add_off0 _ rfl]
        obtain ⟨c3, hc3⟩ : ∃ c3, cs - d = c3 := ⟨_, rfl⟩
        have hnd : nl - d = k := by omega
        have hwd : IntKind.i64.wrap (d : Int) = (d : Int) := by rw [IntKind.wrap_i64]; omega
        have hd0 : (0 : Int) ≤ (d : Int) := by omega
        have hd1 : (d : Int) ≤ (nl : Int) := by omega
        have hd2 : (d : Int) ≤ (cs : Int) := by omega
        have hdl : (ls.drop d).length = k := by rw [List.length_drop]; have := Hnl.out.1; omega
        have hb8 : w0.heap.size ≤ b6 := by rw [Hw8.out.2]; exact Hbw.out.size
        obtain ⟨gk, ck, w9a, hrun9, hfo9, hkp9⟩ := tapp_kids (w := w8.drew) (B := w0.heap.size) (b := b6) hb8 hk2'.lt ga3 c3 (ls.drop d) (fun j a hj => by
          rw [List.getElem?_drop] at hj
          obtain ⟨g, o, y, e, hD, h1, h2⟩ := FoAt.el hfD _ a hj
          have hjl := (List.getElem?_eq_some_iff.1 hj).1
          refine ⟨g, o + d * 2, y, hga3 (by have := Hnl.out.1; omega) g o e, h1, fun q u hu => ?_⟩
          have h3 := h2 q u hu
          rw [show o + d * 2 + (j * 2 + q) = o + ((0 + (d + j)) * 2 + q) by omega]
          exact h3) hdl (by have := Hnl.out.2; omega)
        have hb6a : Bk w9a b6 45 [.int .i64 x.1, .slice none 0 0] := (hk2'.below ((Below.refl _ _).drew) hk2'.lt).kp hkp9 (fun e => e)
        obtain ⟨w9, hw9⟩ : ∃ w9, w9 = w9a.setCell ⟨b6, 1, none⟩ (.slice gk k ck) := ⟨_, rfl⟩
        have hb69 : Bk w9 b6 45 [.int .i64 x.1, .slice gk k ck] := by
          have h1 := hb6a.set 1 (.slice gk k ck)
          simp only [List.set_cons_zero, List.set_cons_succ] at h1
          rw [hw9]
          exact h1
        have hkS : Kp (fun q => q = b6) w9a w9 := by rw [hw9]; exact (Kp.refl (fun q => q = b6) w9a).set (p := ⟨b6, 1, none⟩) (.inl rfl) _
        have hfo9' : FoAt w9 (fun q => w0.heap.size ≤ q ∧ q < w9.heap.size) gk (Fo.ofList (ls.drop d)) 0 := (hfo9.kp hkS (fun q hq e => hq.2.2 e)).mono fun q hq => ⟨hq.1, Nat.lt_of_lt_of_le hq.2.1 hkS.size⟩
        have hbc9 : Below wc.heap.size wc w9 := (hbD.trans (hkp9.to_below (by have := hbD.size; exact this) (fun q e => e.elim))).trans (hkS.to_below (by have := hbD.size; have := hkp9.size; omega) (fun q e => by have : q = b6 := e; omega))
        have hB9 : w0.heap.size ≤ w9.heap.size := Nat.le_trans Hbw.out.size hbc9.size
        have hst9 : FoAt w9 (fun q => w0.heap.size ≤ q ∧ q < w9.heap.size) gs (Fo.ofList (ls.take d)) 0 := FoAt.takeL ls 0 d ((Hst.out.at'.below hbc9 (fun _ h => h.2)).mono fun q hq => ⟨hq.1, Nat.lt_of_lt_of_le hq.2 hbc9.size⟩)
        have htl : (ls.take d).length = d := by rw [List.length_take]; have := Hnl.out.1; omega
        have hsl2 := tslice_to (ga := gs) (M := nl) (k := d) (ca := cs) (by have := Hst.out.cap.1; have := Hnl.out.1; omega) Hst.out.spot
        have Hhb := hid (And.intro hbc9 hB9)
        have z0 := hk2'.cell 0
        have z1 := hk2'.cell 1
        have y1 := hb6a.cell 1
        have f1 := hb6a.free 1
        have yl := hb6a.lt
        have zl := hk2'.lt
        simp only [List.getElem?_cons_zero, List.getElem?_cons_succ] at z0 z1 y1
        have Hw9 := hid hw9
        have Hst9 := hid hst9
        have Hfo9 := hid hfo9'
        have Hb69 := hid hb69
        have Hdk := hid (And.intro hdk (And.intro hdl htl))
        clear hw8 hb6 hbD hfD hfo9 hkp9 hkS hfo9' hbc9 hB9 hst9 hw9 hk2' hal hb6a hb69 hga3 hdl htl hd hdk hb8 hk
        go_upto_region 9 with fail
        rw [← Hw8.out.1, ← Hw8.out.2]
        go_cut [5] from 35 to 44 (fun v5 wx => v5 = .int .i64 (k : Int) ∧ wx = w9)
        case first =>
          go_region_law (refine step_app (by rfl) _ _ _ (by rfl) (.slice none 0 0) (.slice ga3 k c3) _ w9a (by go_simp) (by go_simp) (by exact hrun9) ?_)
          all_goals
            go_wp2_with fail
            go_meet
            exact ⟨rfl, Hw9.out.symm⟩
        case rest =>
          obtain ⟨rfl, hwc⟩ := hcut
          have hB9 : w0.heap.size ≤ wc.heap.size := by rw [hwc]; exact Hhb.out.2
          have hst9 : FoAt wc (fun q => w0.heap.size ≤ q ∧ q < wc.heap.size) gs (Fo.ofList (ls.take d)) 0 := by rw [hwc]; exact Hst9.out
          have hfo9 : FoAt wc (fun q => w0.heap.size ≤ q ∧ q < wc.heap.size) gk (Fo.ofList (ls.drop d)) 0 := by rw [hwc]; exact Hfo9.out
          have hb69 : Bk wc b6 45 [.int .i64 x.1, .slice gk k ck] := by rw [hwc]; exact Hb69.out
          have hbw9 : Below w0.heap.size w0 wc := by rw [hwc]; exact belw Hbw.out Hhb.out.1
          obtain ⟨hdk, hdl, htl⟩ := Hdk.out
          have hd900 : d ≤ 900 := by have := Hnl.out.2; omega
          have hlen : (Fo.ofList (ls.drop d)).len = k := by rw [Fo.ofList_len, hdl]
          have hD0 : Below wc.heap.size wc wc.drew := (Below.refl _ _).drew
          have e1 : OwnA TreR 2 (wc.drew.alloc (.cells #[] 45)) w0.heap.size 45 (.slice (some ⟨wc.heap.size, 0, none⟩) 0 0) [] := own_emptyT wc.drew hB9
          have e2 := e1.alloc TreR.fit (.cells #[.int .i64 x.1, .slice gk k ck] 45)
          have e3 : OwnA TreR 2 ((wc.drew.alloc (.cells #[.int .i64 x.1, .slice gk k ck] 45)).alloc (.cells #[] 45)) w0.heap.size 45 (.slice (some ⟨wc.heap.size + 1, 0, none⟩) 0 0) [] := by
            have hsz : (wc.drew.alloc (.cells #[.int .i64 x.1, .slice gk k ck] 45)).heap.size = wc.heap.size + 1 := by simp
            have h := own_emptyT (B := w0.heap.size) (wc.drew.alloc (.cells #[.int .i64 x.1, .slice gk k ck] 45)) (by omega)
            rwa [hsz] at h
          obtain ⟨g1, c1', wA1, r1, o1, bA1, -, -, ov1⟩ := push_one (cs := cs) e1 hB9 (Nat.le_refl _) (bel_al hD0 _) hst9 (by rw [htl]; exact hd900)
          obtain ⟨g2, c2, wA2, r2, o2, bA2, k2, -, ov2⟩ := push_one (cs := cs) e2 hB9 (Nat.le_refl _) (bel_al (bel_al hD0 _) _) hst9 (by rw [htl]; exact hd900)
          obtain ⟨g3, c3', wA3, r3, o3, bA3, k3, -, ov3⟩ := push_one (cs := cs) e3 hB9 (Nat.le_succ _) (bel_al (bel_al hD0 _) _) hst9 (by rw [htl]; exact hd900)
          rw [htl] at r1 r2 r3 o1 o2 o3 ov1 ov2 ov3
          have hX1 : Bk (wA1.alloc (.cells #[.int .i64 x.1, .slice gk k ck] 45)) wA1.heap.size 45 [.int .i64 x.1, .slice gk (Fo.ofList (ls.drop d)).len ck] := by rw [hlen]; exact Bk.new _ _ _
          have hX2 : Bk wA2 (wc.heap.size + 1) 45 [.int .i64 x.1, .slice gk (Fo.ofList (ls.drop d)).len ck] := by
            rw [hlen]
            exact (bk_at (Bk.new (wc.drew.alloc (.cells #[] 45)) 45 [.int .i64 x.1, .slice gk k ck]) (show _ = wc.heap.size + 1 by simp)).kp k2 (fun e => by have : wc.heap.size + 1 = wc.heap.size := e; omega)
          have hX3 : Bk wA3 wc.heap.size 45 [.int .i64 x.1, .slice gk (Fo.ofList (ls.drop d)).len ck] := by
            rw [hlen]
            exact ((bk_at (Bk.new wc.drew 45 [.int .i64 x.1, .slice gk k ck]) (show _ = wc.heap.size from rfl)).alloc (.cells #[] 45)).kp k3 (fun e => by have : wc.heap.size = wc.heap.size + 1 := e; omega)
          obtain ⟨h1, i1, wB1, s1, P1⟩ := push_two (o1.alloc TreR.fit (.cells #[.int .i64 x.1, .slice gk k ck] 45)) hB9 (bel_al bA1 _) hX1 hfo9 ov1 htl hd900
          obtain ⟨h2, i2, wB2, s2, P2⟩ := push_two o2 hB9 bA2 hX2 hfo9 ov2 htl hd900
          obtain ⟨h3, i3, wB3, s3, P3⟩ := push_two o3 hB9 bA3 hX3 hfo9 ov3 htl hd900
          have q0 := hb69.cell 0
          have q1 := hb69.cell 1
          have ql := hb69.lt
          have hbA := hb69.below bA1 hb69.lt
          have q2 := hbA.cell 0
          have q3 := hbA.cell 1
          simp only [List.getElem?_cons_zero, List.getElem?_cons_succ] at q0 q1 q2 q3
          have Hbw9 := hid hbw9
          clear hbA hX1 hX2 hX3 e1 e2 e3 o1 o2 o3 k2 k3 bA1 bA2 bA3 ov1 ov2 ov3 hst9 hfo9 hb69 hbw9 hD0 hlen hdk hdl htl hwc z0 z1 y1 f1 yl zl hB9
          have hrel : ∀ v3 v4 wx, Pushed w0.heap.size wc (d + 1) (ls.take d ++ [(x.1, Fo.ofList (ls.drop d))]) v3 wx → v4 = .int .i64 ((i + 1 : Nat) : Int) → BuAt w0 n (n - (i + 1)) v3 v4 wx := by
            rintro v3 v4 wx ⟨gs', cs', rfl, hst', hb'⟩ rfl
            have hc1 := ofList_nodes_app (ls.take d) (ls.drop d)
            have hc2 := ofList_fits_app (ls.take d) (ls.drop d)
            rw [List.take_append_drop] at hc1 hc2
            have hll : (ls.take d ++ [(x.1, Fo.ofList (ls.drop d))]).length = d + 1 := by rw [List.length_append, (Hdk.out).2.2]; rfl
            refine ⟨i + 1, gs', cs', ls.take d ++ [(x.1, Fo.ofList (ls.drop d))], rfl, Hlt.out, by rw [hll], hst', ?_, ?_, belw Hbw9.out hb', rfl⟩
            · rw [ofList_nodes_app]
              have := Hnn.out.1
              simp only [Fo.ofList, Fo.nodes]
              omega
            · rw [ofList_fits_app]
              have h := hc2.1 Hnn.out.2
              exact ⟨h.1, Hxp.out, h.2, trivial⟩
          have Hrel := hid hrel
          clear hrel
          go_upto_region 10 with fail
          go_region_law (first
            | refine step_app (by rfl) _ _ _ (by rfl) (.slice (some ⟨wc.heap.size, 0, none⟩) 0 0) (.slice gs d cs) _ wA1 (by go_simp) (by go_simp) (by exact r1) ?_
            | refine step_app (by rfl) _ _ _ (by rfl) (.slice g1 d c1') (.slice (some ⟨wA1.heap.size, 0, none⟩) 1 1) _ wB1 (by go_simp) (by go_simp) (by exact s1) ?_
            | refine step_app (by rfl) _ _ _ (by rfl) (.slice (some ⟨wc.heap.size, 0, none⟩) 0 0) (.slice gs d cs) _ wA2 (by go_simp) (by go_simp) (by exact r2) ?_
            | refine step_app (by rfl) _ _ _ (by rfl) (.slice g2 d c2) (.slice (some ⟨wc.heap.size + 1, 0, none⟩) 1 1) _ wB2 (by go_simp) (by go_simp) (by exact s2) ?_
            | refine step_app (by rfl) _ _ _ (by rfl) (.slice (some ⟨wc.heap.size + 1, 0, none⟩) 0 0) (.slice gs d cs) _ wA3 (by go_simp) (by go_simp) (by exact r3) ?_
            | refine step_app (by rfl) _ _ _ (by rfl) (.slice g3 d c3') (.slice (some ⟨wc.heap.size, 0, none⟩) 1 1) _ wB3 (by go_simp) (by go_simp) (by exact s3) ?_)
          all_goals
            go_wp2_with fail
            go_roundg (n - (i + 1))
            case measure => have := Hmm.out.1; have := Hlt.out; omega
            case rel => first | exact Hrel.out _ _ _ P1.out (by go_num) | exact Hrel.out _ _ _ P2.out (by go_num) | exact Hrel.out _ _ _ P3.out (by go_num)
    · have hin : i = n := by have := Hmm.out.2; omega
      have Hin := hid hin
      have hb2' := Hk2.out.below hbw Hk2.out.lt
      have s0 := hb2'.cell 0
      have s1 := hb2'.cell 1
      have t0 := hb2'.free 0
      have t1 := hb2'.free 1
      have tl := hb2'.lt
      simp only [List.getElem?_cons_zero, List.getElem?_cons_succ] at s0 s1
      have Hb2' := hid hb2'
      have hwb : w.heap.size ≤ b2 := by rw [Hw0.out.2]; exact Nat.le_refl _
      have Hwb := hid hwb
      have hstop : ¬ (i : Int) < (L : Int) ∨ ((i : Int) < (L : Int) ∧ ¬ (i : Int) < 30) := by have := Hn.out.1; omega
      have hks : ∀ (p : Int) (gk : Option Addr) (c ck : Nat), Kp (fun q => q = b2) wr ((wr.setCell ⟨b2, 0, none⟩ (.int .i64 p)).setCell ⟨b2, 1, none⟩ (.slice gk c ck)) := fun p gk c ck => ((Kp.refl (fun q => q = b2) wr).set (p := ⟨b2, 0, none⟩) (.inl rfl) _).set (p := ⟨b2, 1, none⟩) (.inl rfl) _
      have Hks := hid hks
      have hbk : ∀ (p : Int) (gk : Option Addr) (c ck : Nat), Bk ((wr.setCell ⟨b2, 0, none⟩ (.int .i64 p)).setCell ⟨b2, 1, none⟩ (.slice gk c ck)) b2 45 [.int .i64 p, .slice gk c ck] := fun p gk c ck => by
        have h1 := (Hb2'.out.set 0 (.int .i64 p)).set 1 (.slice gk c ck)
        simp only [List.set_cons_zero, List.set_cons_succ] at h1
        exact h1
      have Hbk := hid hbk
      have hres : ∀ (p : Int) (gk : Option Addr) (c ck : Nat), Below w.heap.size w ((wr.setCell ⟨b2, 0, none⟩ (.int .i64 p)).setCell ⟨b2, 1, none⟩ (.slice gk c ck)) := fun p gk c ck => (belw Hb0.out Hbw.out).trans ((Hks.out p gk c ck).to_below (by have := Hb0.out.size; have := Hbw.out.size; omega) (fun q e => by have : q = b2 := e; have := Hwb.out; omega))
      have Hres := hid hres
      clear hst hnn hfit hbw hmm hi hb2' hwb hks hbk hres hin hnl
      by_cases hls : nl = 0
      · have hlse : ((nl : Int) == 0) = true := by rw [hls]; rfl
        clear hnl30
        rcases hstop with hstop | ⟨hst1, hst2⟩ <;>
        · go_wp2_with fail
          have h1 := Hbk.out 0 none 0 0
          have r0 := h1.cell 0
          have r1 := h1.cell 1
          simp only [List.getElem?_cons_zero, List.getElem?_cons_succ] at r0 r1
          exact bodyPost_ret (v := .agg #[.int .i64 0, .slice none 0 0]) (by simp [results, Try.results26, go_sem, r0, r1]) rfl ⟨0, .nil, none, 0, rfl, trivial, Nat.zero_le _, by omega, trivial, Hres.out _ _ _ _⟩
      · have hlse : ((nl : Int) == 0) = false := by simp; omega
        obtain ⟨j, hj⟩ : ∃ j, nl = j + 1 := ⟨nl - 1, by omega⟩
        have hjl : j < ls.length := by have := Hnl.out.1; omega
        obtain ⟨y, hy⟩ : ∃ y, ls[j]? = some y := ⟨_, List.getElem?_eq_getElem hjl⟩
        obtain ⟨g, o, z, e, hD, ⟨gk, ck, rfl, hk⟩, hz⟩ := FoAt.el Hst.out.at' j y hy
        have z0 := hz 0 _ rfl
        have z1 := hz 1 _ rfl
        simp only [Nat.zero_add, Nat.add_zero, ← Nat.add_assoc] at z0 z1
        have hsub : ((nl : Int) - 1) = (j : Int) := by omega
        have hj0 : (0 : Int) ≤ (j : Int) := by omega
        have hj1 : (j : Int) < (nl : Int) := by omega
        have hgl : g < wr.heap.size := hD.2
        have hy2 : y.2.nodes ≤ 30 ∧ -9223372036854775808 ≤ y.1 ∧ y.2.fits := by
          have h1 := ofList_nodes_app (ls.take j) (ls.drop j)
          have h2 := ofList_fits_app (ls.take j) (ls.drop j)
          rw [List.take_append_drop] at h1 h2
          have h3 : ls.drop j = y :: ls.drop (j + 1) := by
            rw [List.drop_eq_getElem_cons hjl, (List.getElem?_eq_some_iff.1 hy).2]
          rw [h3] at h1 h2
          have h4 := (h2.1 Hnn.out.2).2
          simp only [Fo.ofList, Fo.nodes] at h1
          have h5 := Hnn.out.1
          have h6 := Hn.out.2
          have h7 := Hin.out
          exact ⟨by omega, h4.1, h4.2.1⟩
        have Hy2 := hid hy2
        have Hk := hid hk
        subst e
        have hgb2 : ¬ g = b2 := by have h1 := hD.1; have h2 := Hk2.out.lt; omega
        have hgb2' : ¬ b2 = g := by omega
        obtain ⟨kl, hkl⟩ : ∃ kl, kl = y.2.len := ⟨_, rfl⟩
        rw [← hkl] at z1
        have Hkl := hid hkl
        have HD := hid hD
        clear hy hz hk hy2 hls hjl hnl30 hkl hD hj
        rcases hstop with hstop | ⟨hst1, hst2⟩ <;>
        · go_wp2_with fail
          have h1 := Hbk.out y.1 gk kl ck
          have r0 := h1.cell 0
          have r1 := h1.cell 1
          simp only [List.getElem?_cons_zero, List.getElem?_cons_succ] at r0 r1
          refine bodyPost_ret (v := .agg #[.int .i64 y.1, .slice gk kl ck]) (by simp [results, Try.results26, go_sem, r0, r1]) rfl ?_
          rw [Hkl.out]
          exact ⟨y.1, y.2, gk, ck, rfl, (Hk.out.kp (Hks.out _ _ _ _) (fun q hq e => by have h1 := hq.1; have h2 := Hk2.out.lt; have : q = b2 := e; omega)).mono (fun q hq => Nat.lt_of_lt_of_le hq.2 (Hks.out _ _ _ _).size), Hy2.out.1, Hy2.out.2.1, Hy2.out.2.2, Hres.out _ _ _ _⟩
end Go.Proofs.Ytaehooafdbaomaa
/- A row of hand-made nodes, as an argument. -/
namespace Go.Proofs.Ytaehooafdbaomaa
open Go.ChangeShapes Go.WideShapes Go.ChangeAt Go.RowKit
section
variable {H : Type} {enc : TypeId × Value → H} {P : Program} {W : World}
def MadesV (W : World) (ms : List (Int × Int)) (v : Value) : Prop := ∃ (gm : Option Addr) (cm : Nat), v = .slice gm ms.length cm ∧ RowM W W.heap.size gm ms ∧ ms.length ≤ 9223372036854775807
theorem mades_arg {r : Reach} {b0 : Nat} {t e ti : TypeId} {f0 f1 : Field} {v : Value} {d : DataW H} {p : List MemPlace} (ht : P.underlying t = some (.slice e)) (he : P.underlying e = some (.struct #[f0, f1])) (ce : P.cellsOf e = 2) (o0 : f0.offset = 0) (o1 : f1.offset = 1) (t0 : f0.type = ti) (t1 : f1.type = ti)
    (ci : P.cellsOf ti = 1) (hi : P.underlying ti = some (.int .i64)) (hv : Value.okWide P W r b0 t v) (h : DataW.Trod enc P W 0 (fun _ => true) true t v d p) : ∃ ms, MadesV W ms v := by
  obtain ⟨a0, len0, cap0, rfl⟩ := okWide_slice ht hv
  obtain ⟨fuel, hf⟩ := h
  have hf' : DataW.trod enc P W 0 (fun _ => true) true fuel t [.slice a0 len0 cap0] = some (d, p) := by simpa [Value.cells] using hf
  rcases Go.Deep.open_slice_pairs ht he ce o0 o1 (by rw [t0]; exact ci) (by rw [t1]; exact ci) hf' with ⟨hcs, _⟩ | ⟨a, len, cap, m, n, V0, V1, D0, D1, P0, P1, hcs, _, hl, hm, hmm, _, hx⟩
  · simp at hcs
    obtain ⟨rfl, rfl, rfl⟩ := hcs
    exact ⟨[], none, 0, rfl, fun j x hj => by simp at hj, by simp⟩
  · simp at hcs
    obtain ⟨rfl, rfl, rfl⟩ := hcs
    simp only [if_true] at hmm
    have each : ∀ i, i < len0 → ∃ q : Int × Int, W.cell? (a.add (i * 2)) = some (.int .i64 q.1) ∧ W.cell? (a.add (i * 2 + 1)) = some (.int .i64 q.2) ∧ -9223372036854775808 ≤ q.1 := fun i hil => by
      obtain ⟨c0, c1, d0, d1⟩ := hx i (by omega)
      rw [t0] at d0
      rw [t1] at d1
      obtain ⟨n0, e0, _, w0⟩ := DataW.trod_int hi d0
      obtain ⟨n1, e1, _, _⟩ := DataW.trod_int hi d1
      simp at e0 e1
      rw [e0] at c0
      rw [e1] at c1
      have hw : (decide (IntKind.i64.min ≤ n0) && decide (n0 ≤ IntKind.i64.max)) = true := w0
      rw [Bool.and_eq_true, decide_eq_true_eq, decide_eq_true_eq] at hw
      exact ⟨(n0, n1), c0, c1, hw.1⟩
    obtain ⟨ms, hml, hms⟩ : ∃ ms : List (Int × Int), ms.length = len0 ∧ ∀ i x, ms[i]? = some x → W.cell? (a.add (i * 2)) = some (.int .i64 x.1) ∧ W.cell? (a.add (i * 2 + 1)) = some (.int .i64 x.2) ∧ -9223372036854775808 ≤ x.1 := by
      refine ⟨(List.range len0).pmap (fun i hi => Classical.choose (each i hi)) (fun i hi => by simpa using hi), by simp, fun i x hi => ?_⟩
      obtain ⟨hil, rfl⟩ := List.getElem?_eq_some_iff.1 hi
      simp only [List.length_pmap, List.length_range] at hil
      simp only [List.getElem_pmap, List.getElem_range]
      exact Classical.choose_spec (each i hil)
    refine ⟨ms, some a, cap0, by rw [hml], fun j x hj => ?_, by unfold maxLen at hm; omega⟩
    obtain ⟨c0, c1, hw⟩ := hms j x hj
    obtain ⟨b, off, spot⟩ := a
    have hspot : spot = none := by
      obtain ⟨c, _, _⟩ := hx 0 (by have := (List.getElem?_eq_some_iff.1 hj).1; omega)
      simpa [Addr.add] using World.cell?_spot c
    subst hspot
    have hadd : ∀ q, (⟨b, off, none⟩ : Addr).add q = ⟨b, off + q, none⟩ := fun q => by unfold Addr.add; split <;> simp_all
    rw [hadd] at c0 c1
    exact ⟨b, off, rfl, World.block_lt_of_cell? W _ c0, c0, by rw [Nat.add_assoc]; exact c1, hw⟩
end
end Go.Proofs.Ytaehooafdbaomaa
