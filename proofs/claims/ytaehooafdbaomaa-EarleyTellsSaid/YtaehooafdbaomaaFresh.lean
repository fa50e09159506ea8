/- append onto an empty slice of whatever block. No program. -/
import Derived.Test.YtaehooafdbaomaaSteps
namespace Go.Proofs.Ytaehooafdbaomaa
open Go.RowKit

/-- 'append([]T{}, xs...)', xs a row of one-cell elements read in this world: a new row, or none. -/
theorem run_append_fresh {P : Program} (w : World) (t ty e : TypeId) (i : TypeInfo) (z : Value) (ht : P.underlying t = some (.slice e)) (hi : P.info? e = some i) (hz : i.zero = some z)
    (hsize : i.size = 1) (hby : i.bytes ≤ 64) (hzs : z.cells.size = 1) (ad : Addr) (D : Nat → Prop) (ga : Option Addr) (c : Nat) (news : List Value) (hr : CellsD w D ga news.length fun i u => news[i]? = some u) (h1 : ∀ u ∈ news, u.oneCell' = true) (hn : news.length ≤ 1000000) :
    ∃ gv cap w', (Builtin.append_ #[t, t] ty #[.slice (some ad) 0 0, .slice ga news.length c]).run P w = .ok (.slice gv news.length cap) w' ∧ Kp (fun _ => False) w w' ∧
      CellsD w' (fun k => k < w'.heap.size ∧ ∃ cs, w'.heap[k]? = some (.cells cs e)) gv news.length (fun i u => news[i]? = some u) := by
  have hl0 : ∀ (a : Addr) (w : World), (loadCells a 0).run P w = .ok #[] w := fun a w => rfl
  have hs0 : ∀ (a : Addr) (w : World), (storeCells a []).run P w = .ok () w := fun a w => rfl
  cases hne : news with
  | nil =>
    subst hne
    refine ⟨some ad, 0, w, ?_, Kp.refl _ _, fun j hj => by simp at hj⟩
    cases ga <;> simp [Builtin.append_, run_underlying ht, sizeOf, typeInfo, hi, Builtin.lenOf, Builtin.firstCells, hl0, hs0]
  | cons u r =>
    rw [← hne]
    obtain ⟨gv, cap, w', hrun, hown, hgr, _⟩ := run_append_cells (P := P) w w.heap.size t ty e i z ht hi hz hsize hby hzs (.slice none 0 0) 0 [] (World.ownsRow_nil _ _ _ _) D ga c news hr h1 (by omega) (Nat.le_refl _)
    have hpos : 0 < news.length := by rw [hne]; simp
    have heq : (Builtin.append_ #[t, t] ty #[.slice (some ad) 0 0, .slice ga news.length c]).run P w = (Builtin.append_ #[t, t] ty #[.slice none 0 0, .slice ga news.length c]).run P w := by
      have h2 : ¬ news.length = 0 := by omega
      have hb : Builtin.nextslicecap news.length 0 * i.bytes ≤ 2 ^ 48 := by
        unfold Builtin.nextslicecap
        rw [if_pos (by omega)]
        have : news.length * i.bytes ≤ news.length * 64 := Nat.mul_le_mul_left _ hby
        omega
      have hb' : ¬ (281474976710656 : Int) < (Builtin.nextslicecap news.length 0 : Int) * (i.bytes : Int) := by omega
      have hb'' : ¬ 281474976710656 < Builtin.nextslicecap news.length 0 * i.bytes := by omega
      simp [Builtin.append_, run_underlying ht, sizeOf, typeInfo, hi, Builtin.lenOf, Builtin.firstCells, hsize, h2, hb'', hl0]
    rw [Nat.zero_add] at hrun hown
    refine ⟨gv, cap, w', heq.trans hrun, (Kp.refl _ w).grown hgr (fun k hk => by simp [Value.ownBlock] at hk), ?_⟩
    have hty : ∀ g, gv = some ⟨g, 0, none⟩ → ∃ cs, w'.heap[g]? = some (.cells cs e) := by
      intro g hg
      rcases hown.2 with ⟨h0, _⟩ | ⟨g', cap', cur, h0, _, hh, _⟩
      · injection h0 with h0
        rw [h0] at hg
        cases hg
      · injection h0 with h0
        rw [h0] at hg
        injection hg with hg
        injection hg with hg
        subst hg
        exact ⟨_, hh⟩
    obtain ⟨ga', cap', hv, hc⟩ := own_slice hown
    cases hv
    intro j hj
    obtain ⟨g, hg, _, hlt, hcell⟩ := hc j _ (by rw [List.nil_append]; exact List.getElem?_eq_getElem hj)
    exact ⟨g, 0, _, hg, ⟨hlt, hty g hg⟩, by rw [Nat.zero_add]; exact hcell, List.getElem?_eq_getElem hj⟩

/-- .. in a region that draws its order; the world has only new blocks beside those of wr. -/
theorem step_append_fresh {P : Program} {ops : Array Oper} {o : Oper} {a : Act} {w : World} {K : Act → World → Prop} {Q : Exit → Act → World → Prop} {E : Prop} (hgd : o.guard = none) (s x : Operand) (t : TypeId)
    (ho : o.op = .call { callee := .builtin .append, args := #[s, x], argTypes := #[t, t] }) (e : TypeId) (i : TypeInfo) (z : Value) (ht : P.underlying t = some (.slice e)) (hi : P.info? e = some i) (hz : i.zero = some z)
    (hsize : i.size = 1) (hby : i.bytes ≤ 64) (hzs : z.cells.size = 1) (wr : World) (hk : Kp (fun _ => False) wr w) (D : Nat → Prop) (ga : Option Addr) (m c : Nat) (news : List Value) (hm : m = news.length) (hr : CellsD wr D ga news.length fun i u => news[i]? = some u) (h1 : ∀ u ∈ news, u.oneCell' = true) (hn : news.length ≤ 1000000)
    (ad : Addr) (hs : a.eval s = .slice (some ad) 0 0) (hx : a.eval x = .slice ga m c)
    (h : ∀ gv cap w', Hid (Kp (fun _ => False) wr w') → Hid (CellsD w' (fun k => k < w'.heap.size ∧ ∃ cs, w'.heap[k]? = some (.cells cs e)) gv news.length (fun i u => news[i]? = some u)) → K (a.put o.dst (.slice gv m cap)) w') :
    if Region.wanted o (yielded ops a.tmps) = true then Oper.wp P o a w K Q else E := by
  subst hm
  obtain ⟨gv, cap, w', hrun, hk2, hc⟩ := run_append_fresh (P := P) w t o.type e i z ht hi hz hsize hby hzs ad D ga c news (hr.kp hk (fun _ _ h => h) (fun _ _ _ h => h)) h1 hn
  exact step_append_run hgd s x t ho _ _ _ w' hs hx hrun (h gv cap w' (hid (hk.trans hk2)) (hid hc))

/-- An append, by its run. -/
theorem wp_append_run {P : Program} {o : Oper} {a : Act} {w : World} {K : Act → World → Prop} {Q : Exit → Act → World → Prop} (s x : Operand) (t : TypeId)
    (ho : o.op = .call { callee := .builtin .append, args := #[s, x], argTypes := #[t, t] }) (v u r : Value) (w2 : World) (hs : a.eval s = v) (hx : a.eval x = u)
    (hrun : (Builtin.append_ #[t, t] o.type #[v, u]).run P w = .ok r w2) (h : K (a.put o.dst r) w2) : Oper.wp P o a w K Q := by
  unfold Oper.wp execOp
  simp only [ho, resolve, invoke, builtin, Sem.run_bind, Sem.run_pure, Result.andThen_ok, List.map_toArray, List.map_cons, List.map_nil, hs, hx, hrun]
  exact h
end Go.Proofs.Ytaehooafdbaomaa
