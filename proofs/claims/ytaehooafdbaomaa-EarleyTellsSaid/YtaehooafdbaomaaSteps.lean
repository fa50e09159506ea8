/- Steps of nonterminals: a row of rows, each appended to by itself: law, and the append's run. -/
import Derived.Test.YtaehooafdbaomaaGin
namespace Go.Proofs.Ytaehooafdbaomaa
open Go.RowKit

section
variable {P : Program} {w : World} {base : Nat} {e : TypeId} {bo : Nat} {T : TypeId} {ls : List (List Int)} {vs : List Value}
theorem OwnII.app (h : OwnII w base e bo T ls vs) (t ty : TypeId) (i : TypeInfo) (ht : P.underlying t = some (.slice e)) (hi : P.info? e = some i) (hz : i.zero = some (.int .i64 0)) (hsize : i.size = 1) (hby : i.bytes = 8)
    (hbase : base ≤ w.heap.size) {a : Nat} {l : List Int} (hl : ls[a]? = some l) (hll : l.length ≤ 1000000) (s : Int) (q : Nat) :
    ∃ v g2 cap2 w2, vs[a]? = some v ∧ w.cell? ⟨bo, a, none⟩ = some v ∧ (w.alloc (.cells #[.int .i64 s] e)).cell? ⟨bo, a, none⟩ = some v ∧
      (Builtin.append_ #[t, t] ty #[v, .slice (some ⟨w.heap.size, 0, none⟩) 1 1]).run P ((w.alloc (.cells #[.int .i64 s] e)).drewN q) = .ok (.slice (some ⟨g2, 0, none⟩) (l.length + 1) cap2) w2 ∧
      w2.cell? ⟨bo, a, none⟩ = some v ∧ w2.frozen? ⟨bo, a, none⟩ = false ∧
      OwnII (w2.setCell ⟨bo, a, none⟩ (.slice (some ⟨g2, 0, none⟩) (l.length + 1) cap2)) base e bo T (ls.set a (l ++ [s])) (vs.set a (.slice (some ⟨g2, 0, none⟩) (l.length + 1) cap2)) ∧
      (∀ g, v.ownBlock = some g → base ≤ g) ∧ w.ownsRow base e 1 v l.length (l.map (Value.int .i64)) ∧ Kp (fun k => v.ownBlock = some k) w w2 ∧ Kp (fun k => k = bo ∨ v.ownBlock = some k) w (w2.setCell ⟨bo, a, none⟩ (.slice (some ⟨g2, 0, none⟩) (l.length + 1) cap2)) := by
  obtain ⟨v, hv, hcv, hov⟩ := h.at hl
  have hne := h.ne hv
  have hvlt := h.lt v (List.mem_of_getElem? hv)
  have hal := (h.alloc (.cells #[.int .i64 s] e)).drewN q
  obtain ⟨g2, cap2, w2, hrun, h2, h3, h4, h5⟩ := run_append_lies (P := P) ((w.alloc (.cells #[.int .i64 s] e)).drewN q) t ty base e i (.int .i64 0) 1 8 ht hi hz hsize hby rfl (by omega) v l.length (l.map (Value.int .i64)) (own_drewN (hov.alloc _) q) ⟨w.heap.size, 0, none⟩ 1 1 [.int .i64 s] rfl
    (fun j u hj => by
      match j, hj with
      | 0, hj =>
        simp at hj
        subst hj
        rw [add_off0 _ rfl]
        exact (Bk.new w e [.int .i64 s]).cell 0) (fun u hu => by simp at hu; subst hu; rfl) (by omega) (by unfold maxLen; omega) (by omega) (by show base ≤ (w.alloc (.cells #[.int .i64 s] e)).heap.size; simp; omega) (w.heap.size + 1) (by show (w.alloc (.cells #[.int .i64 s] e)).heap.size = _; simp)
  have hk0 : Kp (fun k => v.ownBlock = some k) w ((w.alloc (.cells #[.int .i64 s] e)).drewN q) := ((Kp.refl _ w).alloc _).drewN q
  have hk2 : Kp (fun k => v.ownBlock = some k) w w2 := hk0.grown h3 (fun k hk _ => hk)
  have hb2 : Bk w2 bo T vs := (hal.bk).grown h3 hne
  have hput := hal.put hl hv h3 (l' := l ++ [s]) (by rw [List.map_append]; exact h2) ⟨g2, rfl, by
    rcases h4 with h4 | h4
    · exact .inl h4
    · refine .inr ?_
      show (w.alloc (.cells #[.int .i64 s] e)).heap.size ≤ g2
      simp; omega⟩
  refine ⟨v, g2, cap2, w2, hv, hcv, by rw [(h.alloc (.cells #[.int .i64 s] e)).bk.cell]; exact hv, hrun, by rw [hb2.cell]; exact hv, hb2.free a, hput, fun g hg => (hvlt g hg).1, hov, hk2, ?_⟩
  exact Kp.set (S := fun k => k = bo ∨ v.ownBlock = some k) (hk2.mono (fun k _ hk => .inr hk)) (.inl (.inl rfl)) _
end

/-- An append in a region that draws its order, by its run. -/
theorem step_append_run {P : Program} {ops : Array Oper} {o : Oper} {a : Act} {w : World} {K : Act → World → Prop} {Q : Exit → Act → World → Prop} {E : Prop} (hgd : o.guard = none) (s x : Operand) (t : TypeId)
    (ho : o.op = .call { callee := .builtin .append, args := #[s, x], argTypes := #[t, t] }) (v u r : Value) (w2 : World) (hs : a.eval s = v) (hx : a.eval x = u)
    (hrun : (Builtin.append_ #[t, t] o.type #[v, u]).run P w = .ok r w2) (h : K (a.put o.dst r) w2) :
    if Region.wanted o (yielded ops a.tmps) = true then Oper.wp P o a w K Q else E := by
  have hw : Region.wanted o (yielded ops a.tmps) = true := by simp [Region.wanted, hgd]
  rw [if_pos hw]
  unfold Oper.wp execOp
  simp only [ho, resolve, invoke, builtin, Sem.run_bind, Sem.run_pure, Result.andThen_ok, List.map_toArray, List.map_cons, List.map_nil, hs, hx, hrun]
  exact h

namespace Facts
def appT (ls : List (List Int)) (a : Nat) : List Int → List (List Int)
  | [] => ls
  | s :: r => appT (ls.set a (ls.getD a [] ++ [s])) a r
def allT (f : List Int → List Int) (ls : List (List Int)) : List (Int × List Int) → List (List Int)
  | [] => ls
  | x :: r => allT f (appT ls x.1.toNat (f x.2)) r

theorem appT_length (a : Nat) : ∀ (r : List Int) (ls : List (List Int)), (appT ls a r).length = ls.length
  | [], _ => rfl
  | s :: r, ls => by rw [appT, appT_length a r]; simp
theorem allT_length (f : List Int → List Int) : ∀ (ps : List (Int × List Int)) (ls : List (List Int)), (allT f ls ps).length = ls.length
  | [], _ => rfl
  | x :: r, ls => by rw [allT, allT_length f r, appT_length]
theorem appT_at (a b : Nat) : ∀ (r : List Int) (ls : List (List Int)), a < ls.length → (appT ls a r).getD b [] = if b = a then ls.getD a [] ++ r else ls.getD b []
  | [], ls, _ => by
    unfold appT
    split
    · rename_i h; subst h; simp
    · rfl
  | s :: r, ls, ha => by
    rw [appT, appT_at a b r _ (by simpa using ha)]
    by_cases h : b = a
    · subst h
      simp [List.getD, List.getElem?_set_self ha, List.getElem?_eq_getElem ha]
    · rw [if_neg h, if_neg h]
      simp [List.getD, List.getElem?_set_ne (Ne.symm h)]
theorem allT_mem (f : List Int → List Int) (a : Nat) (s : Int) : ∀ (ps : List (Int × List Int)) (ls : List (List Int)), (∀ x ∈ ps, 0 ≤ x.1 ∧ x.1 < ls.length) →
    (s ∈ (allT f ls ps).getD a [] ↔ s ∈ ls.getD a [] ∨ ∃ x ∈ ps, x.1 = a ∧ s ∈ f x.2)
  | [], ls, _ => by simp [allT]
  | x :: r, ls, h => by
    have hx := h x (by simp)
    rw [allT, allT_mem f a s r _ (by rw [appT_length]; exact fun y hy => h y (by simp [hy])), appT_at _ _ _ _ (by omega)]
    by_cases e : a = x.1.toNat
    · rw [if_pos e]
      have e' : x.1 = (a : Int) := by omega
      rw [← e]
      simp only [List.mem_append, List.mem_cons, exists_eq_or_imp, e', true_and, or_assoc]
    · rw [if_neg e]
      have e' : ¬ x.1 = (a : Int) := by omega
      simp only [List.mem_cons, exists_eq_or_imp, e', false_and, false_or]
/-- Sizes. -/
theorem appT_sum (a : Nat) : ∀ (r : List Int) (ls : List (List Int)), ((appT ls a r).map List.length).sum ≤ (ls.map List.length).sum + r.length
  | [], ls => by simp [appT]
  | s :: r, ls => by
    have h1 := appT_sum a r (ls.set a (ls.getD a [] ++ [s]))
    have h2 : ∀ (ls : List (List Int)) (a : Nat), ((ls.set a (ls.getD a [] ++ [s])).map List.length).sum ≤ (ls.map List.length).sum + 1 := by
      intro ls
      induction ls with
      | nil => intro a; simp
      | cons m t ih =>
        intro a
        cases a with
        | zero => simp [List.getD]; omega
        | succ a =>
          have := ih a
          simp only [List.set_cons_succ, List.map_cons, List.sum_cons]
          have e : (m :: t).getD (a + 1) [] = t.getD a [] := by simp [List.getD]
          rw [e]
          omega
    have := h2 ls a
    rw [appT, List.length_cons]
    omega
theorem allT_sum (f : List Int → List Int) (m : Nat) : ∀ (ps : List (Int × List Int)) (ls : List (List Int)), (∀ x ∈ ps, (f x.2).length ≤ m) → ((allT f ls ps).map List.length).sum ≤ (ls.map List.length).sum + m * ps.length
  | [], ls, _ => by simp [allT]
  | x :: r, ls, h => by
    have h1 := allT_sum f m r (appT ls x.1.toNat (f x.2)) (fun y hy => h y (by simp [hy]))
    have h2 := appT_sum x.1.toNat (f x.2) ls
    have h3 := h x (by simp)
    rw [allT, List.length_cons, Nat.mul_add]
    omega
end Facts
end Go.Proofs.Ytaehooafdbaomaa
