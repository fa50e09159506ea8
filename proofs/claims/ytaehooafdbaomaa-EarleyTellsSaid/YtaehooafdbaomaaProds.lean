/- Productions of the call's own, appended one by one. -/
import Derived.Test.YtaehooafdbaomaaSteps
namespace Go.Proofs.Ytaehooafdbaomaa
open Go.RowKit

/-- The cells of productions with their right sides' slices. -/
def prCells : List (Int × List Int) → List Value → List Value
  | x :: ps, rv :: rs => .int .i64 x.1 :: rv :: prCells ps rs
  | _, _ => []

theorem prCells_snoc : ∀ (ps : List (Int × List Int)) (rs : List Value) (x : Int × List Int) (rv : Value), ps.length = rs.length → prCells (ps ++ [x]) (rs ++ [rv]) = prCells ps rs ++ [.int .i64 x.1, rv]
  | [], [], x, rv, _ => rfl
  | p :: ps, r :: rs, x, rv, h => by
    simp only [List.cons_append, prCells]
    rw [prCells_snoc ps rs x rv (by simpa using h)]
  | [], _ :: _, _, _, h => by simp at h
  | _ :: _, [], _, _, h => by simp at h
theorem prCells_length : ∀ (ps : List (Int × List Int)) (rs : List Value), ps.length = rs.length → (prCells ps rs).length = ps.length * 2
  | [], [], _ => rfl
  | p :: ps, r :: rs, h => by
    simp only [prCells, List.length_cons]
    rw [prCells_length ps rs (by simpa using h)]
    omega
  | [], _ :: _, h => by simp at h
  | _ :: _, [], h => by simp at h
theorem prCells_at : ∀ (ps : List (Int × List Int)) (rs : List Value) (i : Nat) (x : Int × List Int) (rv : Value), ps[i]? = some x → rs[i]? = some rv → (prCells ps rs)[i * 2]? = some (.int .i64 x.1) ∧ (prCells ps rs)[i * 2 + 1]? = some rv
  | p :: ps, r :: rs, 0, x, rv, h, h' => by
    simp at h h'
    subst h h'
    exact ⟨rfl, rfl⟩
  | p :: ps, r :: rs, i + 1, x, rv, h, h' => by
    have := prCells_at ps rs i x rv (by simpa using h) (by simpa using h')
    simp only [prCells]
    rw [show (i + 1) * 2 = i * 2 + 1 + 1 by omega, show i * 2 + 1 + 1 + 1 = (i * 2 + 1) + 1 + 1 by omega]
    simpa using this
  | [], _, _, _, _, h, _ => by simp at h
  | _ :: _, [], _, _, _, _, h => by simp at h

/-- v owns productions: its own row, and one of each right side. -/
def PrOwn (w : World) (B : Nat) (TP TI : TypeId) (v : Value) (ps : List (Int × List Int)) : Prop :=
  ∃ rs : List Value, ps.length = rs.length ∧ w.ownsRow B TP 2 v ps.length (prCells ps rs) ∧ ∀ (i : Nat) x rv, ps[i]? = some x → rs[i]? = some rv → w.ownsRow B TI 1 rv x.2.length (x.2.map (Value.int .i64))

section
variable {w w' : World} {B : Nat} {TP TI : TypeId} {v : Value} {ps : List (Int × List Int)}

theorem own_apart {w : World} {B B' : Nat} {e e' : TypeId} {s s' n n' : Nat} {u u' : Value} {xs xs' : List Value} (h : w.ownsRow B e s u n xs) (h' : w.ownsRow B' e' s' u' n' xs') (hne : e ≠ e') {k : Nat} (hk : u.ownBlock = some k) : u'.ownBlock ≠ some k := by
  rcases h.2 with ⟨rfl, _⟩ | ⟨g, cap, cur, rfl, _, hh, _⟩
  · simp [Value.ownBlock] at hk
  · simp only [Value.ownBlock, Option.some.injEq] at hk
    subst hk
    rcases h'.2 with ⟨rfl, _⟩ | ⟨g', cap', cur', rfl, _, hh', _⟩
    · simp [Value.ownBlock]
    · intro e1
      simp only [Value.ownBlock, Option.some.injEq] at e1
      subst e1
      rw [hh] at hh'
      injection hh' with hh'
      injection hh' with _ ht
      exact hne ht

theorem PrOwn.nil (w : World) (B : Nat) (TP TI : TypeId) : PrOwn w B TP TI (.slice none 0 0) [] := ⟨[], rfl, World.ownsRow_nil _ _ _ _, fun i x rv h => by simp at h⟩
theorem PrOwn.own (h : PrOwn w B TP TI v ps) : ∃ xs, w.ownsRow B TP 2 v ps.length xs := by
  obtain ⟨rs, h1, h2, _⟩ := h
  exact ⟨_, h2⟩
theorem PrOwn.slice (h : PrOwn w B TP TI v ps) : ∃ ga cap, v = .slice ga ps.length cap := by
  obtain ⟨rs, h1, h2, _⟩ := h
  obtain ⟨ga, cap, h3, _⟩ := own_slice h2
  exact ⟨ga, cap, h3⟩
theorem PrOwn.kp {S : Nat → Prop} (h : PrOwn w B TP TI v ps) (hk : Kp S w w') (hv : ∀ g, v.ownBlock = some g → ¬ S g) (hr : ∀ (u : Value) n xs, w.ownsRow B TI 1 u n xs → ∀ g, u.ownBlock = some g → ¬ S g) : PrOwn w' B TP TI v ps := by
  obtain ⟨rs, h1, h2, h3⟩ := h
  exact ⟨rs, h1, own_kp h2 hk hv, fun i x rv hx hrv => own_kp (h3 i x rv hx hrv) hk (hr rv _ _ (h3 i x rv hx hrv))⟩
theorem PrOwn.alloc (h : PrOwn w B TP TI v ps) (o : Obj) : PrOwn (w.alloc o) B TP TI v ps :=
  h.kp (S := fun _ => False) ((Kp.refl _ w).alloc o) (fun _ _ h => h) (fun _ _ _ _ _ _ h => h)
theorem PrOwn.drewN (h : PrOwn w B TP TI v ps) (n : Nat) : PrOwn (w.drewN n) B TP TI v ps := h

/-- At the end: the productions read. -/
theorem PrOwn.rows (h : PrOwn w B TP TI v ps) : ∃ ga cap, v = .slice ga ps.length cap ∧ RowP w w.heap.size ga ps := by
  obtain ⟨rs, h1, h2, h3⟩ := h
  obtain ⟨ga, cap, hv, hc⟩ := own_slice h2
  refine ⟨ga, cap, hv, fun i x hx => ?_⟩
  have hi : i < rs.length := by rw [← h1]; exact (List.getElem?_eq_some_iff.1 hx).1
  have hr : rs[i]? = some rs[i] := List.getElem?_eq_getElem hi
  obtain ⟨c0, c1⟩ := prCells_at ps rs i x _ hx hr
  obtain ⟨g, hg, _, hlt, hc0⟩ := hc _ _ c0
  obtain ⟨g', hg', _, _, hc1⟩ := hc _ _ c1
  rw [hg] at hg'
  injection hg' with hg'
  injection hg' with hg'
  subst hg'
  obtain ⟨ga', cap', hrv, hrow⟩ := own_rowI (h3 i x _ hx hr)
  exact ⟨g, 0, ga', cap', hg, hlt, by rw [Nat.zero_add]; exact hc0, by rw [Nat.zero_add, hc1, hrv], hrow⟩

/-- One more. -/
theorem PrOwn.app {P : Program} (h : PrOwn w B TP TI v ps) (t ty : TypeId) (i : TypeInfo) (ht : P.underlying t = some (.slice TP)) (hi : P.info? TP = some i) (hz : i.zero = some (.agg #[.int .i64 0, .slice none 0 0])) (hsize : i.size = 2) (hby : i.bytes = 32)
    (hne : TP ≠ TI) (hB : B ≤ w.heap.size) (hl : ps.length ≤ 1000000) (x : Int × List Int) (rv : Value) (hrv : w.ownsRow B TI 1 rv x.2.length (x.2.map (Value.int .i64))) (q : Nat) :
    ∃ g2 cap2 w2, (Builtin.append_ #[t, t] ty #[v, .slice (some ⟨w.heap.size, 0, none⟩) 1 1]).run P ((w.alloc (.cells #[.int .i64 x.1, rv] TP)).drewN q) = .ok (.slice (some ⟨g2, 0, none⟩) (ps.length + 1) cap2) w2 ∧
      PrOwn w2 B TP TI (.slice (some ⟨g2, 0, none⟩) (ps.length + 1) cap2) (ps ++ [x]) ∧ Kp (fun k => v.ownBlock = some k) w w2 ∧ (v.ownBlock = some g2 ∨ w.heap.size < g2) ∧ g2 < w2.heap.size := by
  obtain ⟨rs, h1, h2, h3⟩ := h
  have hone : rv.oneCell' = true := by
    obtain ⟨ga, cap, rfl, _⟩ := own_slice hrv
    rfl
  obtain ⟨g2, cap2, w2, hrun, h5, h6, h7, h8⟩ := run_append_lies (P := P) ((w.alloc (.cells #[.int .i64 x.1, rv] TP)).drewN q) t ty B TP i (.agg #[.int .i64 0, .slice none 0 0]) 2 32 ht hi hz hsize hby rfl (by omega) v ps.length (prCells ps rs) (own_drewN (h2.alloc _) q) ⟨w.heap.size, 0, none⟩ 1 1 [.int .i64 x.1, rv] rfl
    (fun j u hj => by
      have hb := Bk.new w TP [.int .i64 x.1, rv]
      rw [add_off0 _ rfl]
      have := hb.cell j
      simp only [Nat.zero_add]
      exact this.trans hj) (fun u hu => by
        simp at hu
        rcases hu with rfl | rfl
        · rfl
        · exact hone) (by omega) (by unfold maxLen; omega) (by omega) (by show B ≤ (w.alloc (.cells #[.int .i64 x.1, rv] TP)).heap.size; simp; omega) (w.heap.size + 1) (by show (w.alloc (.cells #[.int .i64 x.1, rv] TP)).heap.size = _; simp)
  have hk0 : Kp (fun k => v.ownBlock = some k) w ((w.alloc (.cells #[.int .i64 x.1, rv] TP)).drewN q) := ((Kp.refl _ w).alloc _).drewN q
  have hk2 : Kp (fun k => v.ownBlock = some k) w w2 := hk0.grown h6 (fun k hk _ => hk)
  refine ⟨g2, cap2, w2, hrun, ⟨rs ++ [rv], by simp [h1], ?_, fun j y rw' hy hrw => ?_⟩, hk2, h7.imp id (fun e => by omega), h8⟩
  · rw [prCells_snoc ps rs x rv h1, List.length_append, List.length_singleton]
    exact h5
  · by_cases hj : j < ps.length
    · rw [List.getElem?_append_left hj] at hy
      rw [List.getElem?_append_left (by omega)] at hrw
      have ho := h3 j y rw' hy hrw
      exact own_kp ho hk2 (fun g hg e => own_apart h2 ho hne e hg)
    · rw [List.getElem?_append_right (by omega)] at hy
      rw [List.getElem?_append_right (by omega)] at hrw
      have hj0 : j - ps.length = 0 := by
        have := (List.getElem?_eq_some_iff.1 hy).1
        simp at this; omega
      rw [hj0] at hy
      rw [show j - rs.length = 0 by omega] at hrw
      simp at hy hrw
      subst hy hrw
      exact own_kp hrv hk2 (fun g hg e => own_apart h2 hrv hne e hg)
end

/-- An append in a plain region, by its run. -/
theorem wpList_append_run {P : Program} {w : World} {ops : Array Oper} {rest : List Oper} {o : Oper} {a : Act} {Q : Exit → Act → World → Prop} (hgd : o.guard = none) (s x : Operand) (t : TypeId)
    (ho : o.op = .call { callee := .builtin .append, args := #[s, x], argTypes := #[t, t] }) (v u r : Value) (w2 : World) (hs : a.eval s = v) (hx : a.eval x = u)
    (hrun : (Builtin.append_ #[t, t] o.type #[v, u]).run P w = .ok r w2) (h : wpList P ops Q rest (a.put o.dst r) w2) : wpList P ops Q (o :: rest) a w := by
  refine wpList_plain hgd fun K hK => ?_
  unfold Oper.wp execOp
  simp only [ho, resolve, invoke, builtin, Sem.run_bind, Sem.run_pure, Result.andThen_ok, List.map_toArray, List.map_cons, List.map_nil, hs, hx, hrun]
  exact hK _ _ h

/-- Strings of the call's own. -/
theorem str_app {P : Program} {w : World} {B : Nat} {TS : TypeId} {v : Value} {ss : List ByteArray} (h : w.ownsRow B TS 1 v ss.length (ss.map Value.string)) (t ty : TypeId) (i : TypeInfo) (ht : P.underlying t = some (.slice TS)) (hi : P.info? TS = some i)
    (hz : i.zero = some (.string ⟨#[]⟩)) (hsize : i.size = 1) (hby : i.bytes = 16) (hB : B ≤ w.heap.size) (hl : ss.length ≤ 1000000) (s : ByteArray) (q : Nat) :
    ∃ g2 cap2 w2, (Builtin.append_ #[t, t] ty #[v, .slice (some ⟨w.heap.size, 0, none⟩) 1 1]).run P ((w.alloc (.cells #[.string s] TS)).drewN q) = .ok (.slice (some ⟨g2, 0, none⟩) (ss.length + 1) cap2) w2 ∧
      w2.ownsRow B TS 1 (.slice (some ⟨g2, 0, none⟩) (ss.length + 1) cap2) (ss ++ [s]).length ((ss ++ [s]).map Value.string) ∧ Kp (fun k => v.ownBlock = some k) w w2 ∧ (v.ownBlock = some g2 ∨ w.heap.size < g2) ∧ g2 < w2.heap.size := by
  obtain ⟨g2, cap2, w2, hrun, h5, h6, h7, h8⟩ := run_append_lies (P := P) ((w.alloc (.cells #[.string s] TS)).drewN q) t ty B TS i (.string ⟨#[]⟩) 1 16 ht hi hz hsize hby rfl (by omega) v ss.length (ss.map Value.string) (own_drewN (h.alloc _) q) ⟨w.heap.size, 0, none⟩ 1 1 [.string s] rfl
    (fun j u hj => by
      have hb := Bk.new w TS [.string s]
      rw [add_off0 _ rfl]
      simp only [Nat.zero_add]
      exact (hb.cell j).trans hj) (fun u hu => by simp at hu; subst hu; rfl) (by omega) (by unfold maxLen; omega) (by omega) (by show B ≤ (w.alloc (.cells #[.string s] TS)).heap.size; simp; omega) (w.heap.size + 1) (by show (w.alloc (.cells #[.string s] TS)).heap.size = _; simp)
  refine ⟨g2, cap2, w2, hrun, ?_, (((Kp.refl _ w).alloc _).drewN q).grown h6 (fun k hk _ => hk), h7.imp id (fun e => by omega), h8⟩
  rw [List.map_append, List.length_append]
  exact h5
end Go.Proofs.Ytaehooafdbaomaa
