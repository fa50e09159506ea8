/- make and append at one-cell elements, in this seat's own words. No program. -/
import Derived.Test.YtaehooafdbaomaaRep
import Derived.OwnWalk
import Derived.Deep.AppendLies
import Derived.Maps.AppendAt
namespace Go.Proofs.Ytaehooafdbaomaa
open Go.RowKit

theorem bk_full {w : World} {base e n g : Nat} {xs : List Value} (h : w.ownsRow base e 1 (.slice (some ⟨g, 0, none⟩) n n) n xs) : Bk w g e xs := by
  rcases h.2 with ⟨h0, _⟩ | ⟨g', cap, cur, hv, _, hh, _, _, hsz, htk⟩
  · cases h0
  · injection hv with ha _ hc
    injection ha with ha
    injection ha with hg
    subst hg
    subst hc
    have : cur.toList = xs := by
      rw [← htk, List.take_of_length_le]
      simp; omega
    unfold Bk
    rw [hh, ← this]

/-- 'make([]T, n)' of one-cell elements: a new block known whole. -/
theorem wpList_make_bk {P : Program} (w : World) {ops : Array Oper} {rest : List Oper} {o : Oper} {a : Act} {Q : Exit → Act → World → Prop}
    (hg : o.guard = none) (l c : Operand) (t : TypeId) (hop : o.op = Op.makeSlice t l c)
    (e : TypeId) (i : TypeInfo) (z : Value) (h1 : P.underlying t = some (.slice e)) (h2 : P.info? e = some i) (h3 : i.zero = some z) (h4 : i.size = 1) (hz : z.cells = #[z])
    (L C : Int) (n : Nat) (hl : a.eval l = .int .i64 L) (hc : a.eval c = .int .i64 C) (hL : L = (n : Int)) (hC : C = (n : Int)) (b2 : i.bytes * n ≤ 281474976710656) (b3 : n ≤ 9223372036854775807)
    (hK : ∀ w', Bk w' w.heap.size e (List.replicate n z) → Kp (fun _ => False) w w' → wpList P ops Q rest (a.put o.dst (.slice (some ⟨w.heap.size, 0, none⟩) n n)) w') :
    wpList P ops Q (o :: rest) a w := by
  refine wpList_make_full w hg l c t hop w.heap.size e i z 1 h1 h2 h3 h4 .i64 .i64 L C n hl hc hL hC b2 (by unfold maxLen; omega) (Nat.le_refl _) fun w' hown hgr => hK w' ?_ ((Kp.refl _ w).grown hgr fun k hk => by cases hk)
  have h := bk_full hown
  have e1 : (madeCells z.cells (n * 1)).toList = List.replicate n z := by
    simp [madeCells, hz, Nat.mod_one, List.map_const']
  rwa [e1] at h

/-- 'append(s, x)' of one one-cell element. -/
theorem wpList_append_one {P : Program} (w : World) {ops : Array Oper} {rest : List Oper} {o : Oper} {a : Act} {Q : Exit → Act → World → Prop} (hgd : o.guard = none) (s x : Operand) (t : TypeId)
    (ho : o.op = .call { callee := .builtin .append, args := #[s, x], argTypes := #[t, t] })
    (base : Nat) (e : TypeId) (i : TypeInfo) (z : Value) (ht : P.underlying t = some (.slice e)) (hi : P.info? e = some i) (hz : i.zero = some z)
    (hsize : i.size = 1) (hby : i.bytes ≤ 64) (hzs : z.cells.size = 1)
    (v : Value) (n : Nat) (xs : List Value) (hs : a.eval s = v) (hown : w.ownsRow base e 1 v n xs)
    (ad : Addr) (u : Value) (hx : a.eval x = .slice (some ad) 1 1) (hcell : w.cell? ad = some u) (h1 : u.oneCell' = true) (hn : n ≤ 1000000000000) (hbase : base ≤ w.heap.size) (H : Nat) (hH : w.heap.size = H)
    (h : ∀ g cap w', w'.ownsRow base e 1 (.slice (some ⟨g, 0, none⟩) (n + 1) cap) (n + 1) (xs ++ [u]) → w.grownBy w' v.ownBlock → (v.ownBlock = some g ∨ g = H) → g < w'.heap.size → wpList P ops Q rest (a.put o.dst (.slice (some ⟨g, 0, none⟩) (n + 1) cap)) w') :
    wpList P ops Q (o :: rest) a w := by
  refine wpList_append_lies w hgd s x t ho base e i z 1 i.bytes ht hi hz hsize rfl hzs (by omega) v n xs hs hown ad 1 1 [u] hx rfl (fun j u' hj => ?_) (fun u' hu => by simp at hu; subst hu; exact h1) (by omega) (by unfold maxLen; omega) ?_ hbase H hH h
  · match j, hj with
    | 0, hj =>
      simp at hj
      subst hj
      have : ad.add 0 = ad := by unfold Addr.add; split <;> simp_all
      rw [this]; exact hcell
  · have : (n + 1) * i.bytes ≤ (n + 1) * 64 := Nat.mul_le_mul_left _ hby
    omega

theorem add_off0 (ga : Addr) (h : ga.spot = none) (i : Nat) : ga.add i = ⟨ga.block, ga.off + i, none⟩ := by
  obtain ⟨b, o, s⟩ := ga
  simp only at h
  subst h
  unfold Addr.add
  split <;> simp_all

/-- 'append(v, xs...)', xs a row of one-cell elements read in this world, nil or not. -/
theorem run_append_cells {P : Program} (w : World) (base : Nat) (t ty e : TypeId) (i : TypeInfo) (z : Value) (ht : P.underlying t = some (.slice e)) (hi : P.info? e = some i) (hz : i.zero = some z)
    (hsize : i.size = 1) (hby : i.bytes ≤ 64) (hzs : z.cells.size = 1) (v : Value) (n : Nat) (xs : List Value) (hown : w.ownsRow base e 1 v n xs)
    (D : Nat → Prop) (ga : Option Addr) (c : Nat) (news : List Value) (hr : CellsD w D ga news.length fun i u => news[i]? = some u) (h1 : ∀ u ∈ news, u.oneCell' = true) (hn : n + news.length ≤ 1000000000000) (hbase : base ≤ w.heap.size) :
    ∃ gv cap w', (Builtin.append_ #[t, t] ty #[v, .slice ga news.length c]).run P w = .ok (.slice gv (n + news.length) cap) w' ∧ w'.ownsRow base e 1 (.slice gv (n + news.length) cap) (n + news.length) (xs ++ news) ∧ w.grownBy w' v.ownBlock ∧
      ((Value.slice gv (n + news.length) cap).ownBlock = v.ownBlock ∨ (Value.slice gv (n + news.length) cap).ownBlock = some w.heap.size) := by
  have hb64 : (n + news.length) * i.bytes ≤ (n + news.length) * 64 := Nat.mul_le_mul_left _ hby
  cases ga with
  | none =>
    have hnil : news = [] := by
      cases news with
      | nil => rfl
      | cons u r => obtain ⟨g, off, _, h, _⟩ := hr 0 (by simp); cases h
    subst hnil
    obtain ⟨ga', cap, rfl, -⟩ := own_slice hown
    refine ⟨ga', cap, w, ?_, by simpa using hown, World.grownBy.refl w _, .inl rfl⟩
    rcases hown.2 with ⟨h0, rfl⟩ | ⟨g, cap', cur, h0, _, _, hnc, _⟩
    · cases h0
      simp [Builtin.append_, run_underlying ht, sizeOf, typeInfo, hi, Builtin.lenOf, Builtin.firstCells]
    · cases h0
      simp [Builtin.append_, run_underlying ht, sizeOf, typeInfo, hi, Builtin.lenOf, Builtin.firstCells, hnc, storeCells]
  | some ad =>
    obtain ⟨v', w', hrun, h2, h3, _, h5⟩ := run_append_own_at (P := P) w base t ty e i z 1 i.bytes ht hi hz hsize rfl hzs (by omega) v n xs hown ad news.length c news (by omega) (fun j u hu => by
      have hj : j < news.length := (List.getElem?_eq_some_iff.1 hu).1
      obtain ⟨g, off, u', h4, _, h6, h7⟩ := hr j hj
      injection h4 with h4
      subst h4
      rw [hu] at h7
      cases h7
      rw [add_off0 _ rfl]
      exact h6) h1 (by unfold maxLen; omega) (by omega) hbase
    obtain ⟨gv, cap, rfl, -⟩ := own_slice h2
    exact ⟨gv, cap, w', hrun, h2, h3, h5⟩

theorem wpList_append_cells {P : Program} (w : World) {ops : Array Oper} {rest : List Oper} {o : Oper} {a : Act} {Q : Exit → Act → World → Prop} (hgd : o.guard = none) (s x : Operand) (t : TypeId)
    (ho : o.op = .call { callee := .builtin .append, args := #[s, x], argTypes := #[t, t] })
    (base : Nat) (e : TypeId) (i : TypeInfo) (z : Value) (ht : P.underlying t = some (.slice e)) (hi : P.info? e = some i) (hz : i.zero = some z)
    (hsize : i.size = 1) (hby : i.bytes ≤ 64) (hzs : z.cells.size = 1)
    (v : Value) (n : Nat) (xs : List Value) (hs : a.eval s = v) (hown : w.ownsRow base e 1 v n xs)
    (D : Nat → Prop) (ga : Option Addr) (m c : Nat) (news : List Value) (hx : a.eval x = .slice ga m c) (hm : m = news.length) (hr : CellsD w D ga news.length fun i u => news[i]? = some u) (h1 : ∀ u ∈ news, u.oneCell' = true) (hn : n + news.length ≤ 1000000000000) (hbase : base ≤ w.heap.size)
    (h : ∀ gv cap w', w'.ownsRow base e 1 (.slice gv (n + news.length) cap) (n + news.length) (xs ++ news) → w.grownBy w' v.ownBlock →
      ((Value.slice gv (n + news.length) cap).ownBlock = v.ownBlock ∨ (Value.slice gv (n + news.length) cap).ownBlock = some w.heap.size) → wpList P ops Q rest (a.put o.dst (.slice gv (n + news.length) cap)) w') :
    wpList P ops Q (o :: rest) a w := by
  refine wpList_plain hgd fun K hK => ?_
  subst hm
  obtain ⟨gv, cap, w', hrun, h2, h3, h4⟩ := run_append_cells (P := P) w base t o.type e i z ht hi hz hsize hby hzs v n xs hown D ga c news hr h1 hn hbase
  unfold Oper.wp execOp
  simp only [ho, resolve, invoke, builtin, Sem.run_bind, Sem.run_pure, Result.andThen_ok, List.map_toArray, List.map_cons, List.map_nil, hs, hx, hrun]
  exact hK _ _ (h gv cap w' h2 h3 h4)
end Go.Proofs.Ytaehooafdbaomaa
