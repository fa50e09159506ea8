/- Rows of the call's own, of any elements: c cells an element, and a relation that says what they lead to. No program. -/
import Derived.Test.YtjaampgpihicmaaRep
namespace Go.Proofs.Ytjaampgpihicmaa
open Go.RowKit

theorem addr_add0 (g i : Nat) : ((⟨g, 0, none⟩ : Addr).add i) = ⟨g, i, none⟩ := by unfold Addr.add; split <;> simp_all

/-- An append in a region, by its run. -/
theorem step_app {P : Program} {ops : Array Oper} {o : Oper} {a : Act} {w : World} {K : Act → World → Prop} {Q : Exit → Act → World → Prop} {E : Prop} (hgd : o.guard = none) (s x : Operand) (t : TypeId)
    (ho : o.op = .call { callee := .builtin .append, args := #[s, x], argTypes := #[t, t] }) (v u r : Value) (w2 : World) (hs : a.eval s = v) (hx : a.eval x = u)
    (hrun : (Builtin.append_ #[t, t] o.type #[v, u]).run P w = .ok r w2) (h : K (a.put o.dst r) w2) :
    if Region.wanted o (yielded ops a.tmps) = true then Oper.wp P o a w K Q else E := by
  have hw : Region.wanted o (yielded ops a.tmps) = true := by simp [Region.wanted, hgd]
  rw [if_pos hw]
  unfold Oper.wp execOp
  simp only [ho, resolve, invoke, builtin, Sem.run_bind, Sem.run_pure, Result.andThen_ok, List.map_toArray, List.map_cons, List.map_nil, hs, hx, hrun]
  exact h
theorem wpList_app {P : Program} {w : World} {ops : Array Oper} {rest : List Oper} {o : Oper} {a : Act} {Q : Exit → Act → World → Prop} (hgd : o.guard = none) (s x : Operand) (t : TypeId)
    (ho : o.op = .call { callee := .builtin .append, args := #[s, x], argTypes := #[t, t] }) (v u r : Value) (w2 : World) (hs : a.eval s = v) (hx : a.eval x = u)
    (hrun : (Builtin.append_ #[t, t] o.type #[v, u]).run P w = .ok r w2) (h : wpList P ops Q rest (a.put o.dst r) w2) : wpList P ops Q (o :: rest) a w := by
  refine wpList_plain hgd fun K hK => ?_
  unfold Oper.wp execOp
  simp only [ho, resolve, invoke, builtin, Sem.run_bind, Sem.run_pure, Result.andThen_ok, List.map_toArray, List.map_cons, List.map_nil, hs, hx, hrun]
  exact hK _ _ h
/-- What a relation of elements must bear: c cells; more blocks; a later world. -/
structure FitA {α : Type} (R : World → (Nat → Prop) → α → List Value → Prop) (c : Nat) : Prop where
  len : ∀ {w D a x}, R w D a x → x.length = c
  mono : ∀ {w D D' a x}, (∀ k, D k → D' k) → R w D a x → R w D' a x
  kp : ∀ {w w' D S a x}, Kp S w w' → (∀ k, D k → ¬ S k) → R w D a x → R w' D a x
  one : ∀ {w D a x}, R w D a x → ∀ u ∈ x, u.oneCell' = true
def AllA {α : Type} (R : World → (Nat → Prop) → α → List Value → Prop) (w : World) (D : Nat → Prop) : List α → List (List Value) → Prop
  | [], xs => xs = []
  | a :: ls, xs => ∃ x ys, xs = x :: ys ∧ R w D a x ∧ AllA R w D ls ys
section
variable {α : Type} {R : World → (Nat → Prop) → α → List Value → Prop} {c : Nat} {w w' : World} {D D' S : Nat → Prop}
theorem AllA.mono (hR : FitA R c) (hD : ∀ k, D k → D' k) : ∀ {ls : List α} {xs : List (List Value)}, AllA R w D ls xs → AllA R w D' ls xs
  | [], _, h => h
  | _ :: _, _, ⟨x, ys, e, h1, h2⟩ => ⟨x, ys, e, hR.mono hD h1, AllA.mono hR hD h2⟩
theorem AllA.kp (hR : FitA R c) (hk : Kp S w w') (hd : ∀ k, D k → ¬ S k) : ∀ {ls : List α} {xs : List (List Value)}, AllA R w D ls xs → AllA R w' D ls xs
  | [], _, h => h
  | _ :: _, _, ⟨x, ys, e, h1, h2⟩ => ⟨x, ys, e, hR.kp hk hd h1, AllA.kp hR hk hd h2⟩
theorem AllA.snoc {a : α} {x : List Value} (hx : R w D a x) : ∀ {ls : List α} {xs : List (List Value)}, AllA R w D ls xs → AllA R w D (ls ++ [a]) (xs ++ [x])
  | [], _, h => by
    unfold AllA at h
    subst h
    exact ⟨x, [], rfl, hx, rfl⟩
  | _ :: _, _, ⟨y, ys, e, h1, h2⟩ => by
    subst e
    exact ⟨y, _, rfl, h1, AllA.snoc hx h2⟩
theorem AllA.at (hR : FitA R c) : ∀ {ls : List α} {xs : List (List Value)}, AllA R w D ls xs → ∀ {i : Nat} {a : α}, ls[i]? = some a → ∃ x, xs[i]? = some x ∧ R w D a x ∧ ∀ j u, x[j]? = some u → xs.flatten[i * c + j]? = some u
  | [], _, _, _, _, h => by simp at h
  | b :: ls, _, ⟨y, ys, e, h1, h2⟩, i, a, h => by
    subst e
    cases i with
    | zero =>
      simp at h
      subst h
      refine ⟨y, rfl, h1, fun j u hj => ?_⟩
      rw [List.flatten_cons, List.getElem?_append_left (by have := (List.getElem?_eq_some_iff.1 hj).1; omega)]
      simpa using hj
    | succ i =>
      obtain ⟨x, h3, h4, h5⟩ := AllA.at hR h2 (i := i) (a := a) (by simpa using h)
      refine ⟨x, by simpa using h3, h4, fun j u hj => ?_⟩
      have hl := hR.len h1
      rw [List.flatten_cons, List.getElem?_append_right (by rw [hl, Nat.succ_mul]; omega), hl, Nat.succ_mul, show i * c + c + j - c = i * c + j by omega]
      exact h5 j u hj
theorem AllA.length : ∀ {ls : List α} {xs : List (List Value)}, AllA R w D ls xs → xs.length = ls.length
  | [], _, h => by unfold AllA at h; subst h; rfl
  | _ :: _, _, ⟨y, ys, e, h1, h2⟩ => by subst e; simp [AllA.length h2]
theorem AllA.flat (hR : FitA R c) : ∀ {ls : List α} {xs : List (List Value)}, AllA R w D ls xs → xs.flatten.length = ls.length * c
  | [], _, h => by unfold AllA at h; subst h; simp
  | _ :: _, _, ⟨y, ys, e, h1, h2⟩ => by
    subst e
    rw [List.flatten_cons, List.length_append, hR.len h1, AllA.flat hR h2, List.length_cons, Nat.succ_mul]
    omega
end
/-- v owns elements: its own row; and what they lead to lies in new blocks beside it. -/
def OwnA {α : Type} (R : World → (Nat → Prop) → α → List Value → Prop) (c : Nat) (w : World) (B : Nat) (T : TypeId) (v : Value) (ls : List α) : Prop :=
  ∃ xs : List (List Value), w.ownsRow B T c v ls.length xs.flatten ∧ AllA R w (fun k => B ≤ k ∧ k < w.heap.size ∧ v.ownBlock ≠ some k) ls xs
section
variable {α : Type} {R : World → (Nat → Prop) → α → List Value → Prop} {c : Nat} {w w' : World} {B : Nat} {T : TypeId} {v : Value} {ls : List α}
theorem OwnA.nil (R : World → (Nat → Prop) → α → List Value → Prop) (c : Nat) (w : World) (B : Nat) (T : TypeId) : OwnA R c w B T (.slice none 0 0) [] := ⟨[], World.ownsRow_nil _ _ _ _, rfl⟩
theorem OwnA.slice (h : OwnA R c w B T v ls) : ∃ ga cap, v = .slice ga ls.length cap := by
  obtain ⟨xs, h1, _⟩ := h
  obtain ⟨ga, cap, h3, _⟩ := own_slice h1
  exact ⟨ga, cap, h3⟩
theorem OwnA.lt (h : OwnA R c w B T v ls) : ∀ g, v.ownBlock = some g → B ≤ g ∧ g < w.heap.size := fun g hg => by
  obtain ⟨xs, h1, _⟩ := h
  exact World.ownsRow.lt h1 g hg
theorem OwnA.kp {S : Nat → Prop} (hR : FitA R c) (h : OwnA R c w B T v ls) (hk : Kp S w w') (hs : ∀ k, B ≤ k → k < w.heap.size → ¬ S k) : OwnA R c w' B T v ls := by
  obtain ⟨xs, h1, h2⟩ := h
  refine ⟨xs, own_kp h1 hk (fun g hg => ?_), (h2.kp hR hk (fun k hk' => hs k hk'.1 hk'.2.1)).mono hR fun k hk' => ⟨hk'.1, Nat.lt_of_lt_of_le hk'.2.1 hk.size, hk'.2.2⟩⟩
  have := World.ownsRow.lt h1 g hg
  exact hs g this.1 this.2
theorem OwnA.later (hR : FitA R c) (h : OwnA R c w B T v ls) (hb : Below w.heap.size w w') : OwnA R c w' B T v ls :=
  h.kp hR (S := fun _ => False) ⟨hb.os, hb.tape, hb.output, hb.size, fun k hk _ => hb.block k hk⟩ (fun _ _ _ h => h)
theorem OwnA.alloc (hR : FitA R c) (h : OwnA R c w B T v ls) (o : Obj) : OwnA R c (w.alloc o) B T v ls := h.kp hR (S := fun _ => False) ((Kp.refl _ w).alloc o) (fun _ _ _ h => h)
theorem OwnA.drewN (hR : FitA R c) (h : OwnA R c w B T v ls) (n : Nat) : OwnA R c (w.drewN n) B T v ls := h.kp hR (S := fun _ => False) ((Kp.refl _ w).drewN n) (fun _ _ _ h => h)
/-- Block b, older than the row's, may change. -/
theorem OwnA.gb {b : Nat} (hR : FitA R c) (h : OwnA R c w B T v ls) (hg : w.grownBy w' (some b)) (hb : b < B) : OwnA R c w' B T v ls :=
  h.kp hR (S := fun k => k = b) ((Kp.refl _ w).grown hg (fun k hk _ => by injection hk with hk; exact hk.symm)) (fun k hk _ e => by omega)
/-- Read. -/
theorem OwnA.at (hR : FitA R c) (h : OwnA R c w B T v ls) {i : Nat} {a : α} (hi : ls[i]? = some a) : ∃ g cap x, v = .slice (some ⟨g, 0, none⟩) ls.length cap ∧ B ≤ g ∧ g < w.heap.size ∧ R w (fun k => B ≤ k ∧ k < w.heap.size ∧ v.ownBlock ≠ some k) a x ∧ ∀ j u, x[j]? = some u → w.cell? ⟨g, i * c + j, none⟩ = some u := by
  obtain ⟨xs, h1, h2⟩ := h
  obtain ⟨x, _, h4, h5⟩ := h2.at hR hi
  rcases h1.2 with ⟨rfl, hz⟩ | ⟨g, cap, cur, rfl, hb, hh, hr⟩
  · have : ls = [] := List.eq_nil_of_length_eq_zero hz
    subst this
    simp at hi
  · refine ⟨g, cap, x, rfl, hb, (Array.getElem?_eq_some_iff.1 hh).1, h4, fun j u hj => ?_⟩
    have := World.ownsRow.cells h1 (g := g) rfl _ u (h5 j u hj)
    rwa [addr_add0] at this
/-- Read whole: the slice and its cells, all in blocks from B on. -/
theorem OwnA.lies (hR : FitA R c) (h : OwnA R c w B T v ls) : ∃ (ga : Option Addr) (cap : Nat), v = .slice ga ls.length cap ∧ ∀ (i : Nat) (a : α), ls[i]? = some a → ∃ g x, ga = some ⟨g, 0, none⟩ ∧ B ≤ g ∧ g < w.heap.size ∧ R w (fun k => B ≤ k ∧ k < w.heap.size) a x ∧ ∀ j u, x[j]? = some u → w.cell? ⟨g, i * c + j, none⟩ = some u := by
  obtain ⟨ga, cap, hv⟩ := h.slice
  refine ⟨ga, cap, hv, fun i a hi => ?_⟩
  obtain ⟨g, cap', x, hv', h1, h2, h3, h4⟩ := h.at hR hi
  rw [hv] at hv'
  injection hv' with e1 _ _
  exact ⟨g, x, e1, h1, h2, hR.mono (fun k hk => ⟨hk.1, hk.2.1⟩) h3, h4⟩
/-- One more, out of a block of its own. -/
theorem OwnA.app {P : Program} (hR : FitA R c) (h : OwnA R c w B T v ls) (t ty : TypeId) (i : TypeInfo) (z : Value) (bytes : Nat) (ht : P.underlying t = some (.slice T)) (hi : P.info? T = some i) (hz : i.zero = some z) (hsize : i.size = c) (hby : i.bytes = bytes) (hzs : z.cells.size = c) (hc : 0 < c) (hbb : bytes ≤ 64)
    (hB : B ≤ w.heap.size) (hl : ls.length ≤ 1000000) (a : α) (x : List Value) (hx : R w (fun q => B ≤ q ∧ q < w.heap.size ∧ v.ownBlock ≠ some q) a x) (q : Nat) :
    ∃ g2 cap2 w2, (Builtin.append_ #[t, t] ty #[v, .slice (some ⟨w.heap.size, 0, none⟩) 1 1]).run P ((w.alloc (.cells x.toArray T)).drewN q) = .ok (.slice (some ⟨g2, 0, none⟩) (ls.length + 1) cap2) w2 ∧
      OwnA R c w2 B T (.slice (some ⟨g2, 0, none⟩) (ls.length + 1) cap2) (ls ++ [a]) ∧ Kp (fun k => v.ownBlock = some k) w w2 ∧ (v.ownBlock = some g2 ∨ w.heap.size < g2) ∧ g2 < w2.heap.size := by
  obtain ⟨xs, h2, h3⟩ := h
  have hxl := hR.len hx
  obtain ⟨g2, cap2, w2, hrun, h5, h6, h7, h8⟩ := run_append_lies (P := P) ((w.alloc (.cells x.toArray T)).drewN q) t ty B T i z c bytes ht hi hz hsize hby hzs hc v ls.length xs.flatten (own_drewN (h2.alloc _) q) ⟨w.heap.size, 0, none⟩ 1 1 x (by omega)
    (fun j u hj => by
      rw [addr_add0]
      have := (Bk.new w T x).cell j
      exact this.trans hj) (hR.one hx) (by omega) (by unfold maxLen; omega) (by
        have : (ls.length + 1) * bytes ≤ 1000001 * 64 := Nat.mul_le_mul (by omega) hbb
        omega) (by show B ≤ (w.alloc (.cells x.toArray T)).heap.size; simp; omega) (w.heap.size + 1) (by show (w.alloc (.cells x.toArray T)).heap.size = _; simp)
  have hk0 : Kp (fun k => v.ownBlock = some k) w ((w.alloc (.cells x.toArray T)).drewN q) := ((Kp.refl _ w).alloc _).drewN q
  have hk2 : Kp (fun k => v.ownBlock = some k) w w2 := hk0.grown h6 (fun k hk _ => hk)
  have hD : ∀ q, (B ≤ q ∧ q < w.heap.size ∧ v.ownBlock ≠ some q) → B ≤ q ∧ q < w2.heap.size ∧ (Value.slice (some ⟨g2, 0, none⟩) (ls.length + 1) cap2).ownBlock ≠ some q := fun q hq => by
    refine ⟨hq.1, Nat.lt_of_lt_of_le hq.2.1 hk2.size, fun e => ?_⟩
    have e : g2 = q := by simpa [Value.ownBlock] using e
    subst e
    rcases h7 with h7 | h7
    · exact hq.2.2 h7
    · omega
  refine ⟨g2, cap2, w2, hrun, ⟨xs ++ [x], ?_, ?_⟩, hk2, h7.imp id (fun e => by omega), h8⟩
  · rw [List.flatten_append, List.length_append]
    simpa using h5
  · exact AllA.snoc (hR.mono hD (hR.kp hk2 (fun k hk' e => hk'.2.2 e) hx)) ((h3.kp hR hk2 (fun k hk' e => hk'.2.2 e)).mono hR hD)
/-- One element in a block of its own. -/
theorem OwnA.one (hR : FitA R c) {a : α} {x : List Value} (hx : R w (fun q => B ≤ q ∧ q < w.heap.size) a x) (hB : B ≤ w.heap.size) : OwnA R c (w.alloc (.cells x.toArray T)) B T (.slice (some ⟨w.heap.size, 0, none⟩) 1 1) [a] := by
  have hl := hR.len hx
  refine ⟨[x], ⟨by simp [hl], .inr ⟨w.heap.size, 1, x.toArray, rfl, hB, heap_alloc_new w _, Nat.le_refl _, by decide, by simp [hl], ?_⟩⟩, x, [], rfl, ?_, rfl⟩
  · simp [← hl]
  · have hk := (Kp.refl (fun _ => False) w).alloc (.cells x.toArray T)
    refine hR.mono ?_ (hR.kp hk (fun _ _ e => e) hx)
    intro k hk
    refine ⟨hk.1, by simp; omega, ?_⟩
    intro e
    have e : w.heap.size = k := by simpa [Value.ownBlock] using e
    omega
end
end Go.Proofs.Ytjaampgpihicmaa
