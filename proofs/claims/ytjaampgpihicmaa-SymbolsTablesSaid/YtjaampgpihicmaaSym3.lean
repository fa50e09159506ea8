/- Chapter 7 (symbols): firsts: the first rule of each name: a range over slices.Backward that writes a map. -/
import Derived.Test.YtjaampgpihicmaaSym2
import Derived.Test.YtjaampgpihicmaaMapS
import Derived.RangeFuncNested
import Derived.RangeFuncBound
import Derived.RangeFuncCalls
import Derived.RangeFuncLeaves
import Derived.Shelf.Abstract
import Derived.OwnWalkIn
import Derived.TacticsInMore
import Derived.LoopNIn
import Derived.LoopIn
import Derived.Maps.OwnIn
namespace Go.Proofs.Ytjaampgpihicmaa
open Go.RowKit Go.Shelf
attribute [local go_sem] Oper.semAt_some
open Syn (Nd Nod)

/-- What comes in a round: a place and a rule's cells. -/
structure It where
  i : Nat
  nm : List UInt8
  kd : Int
  tx : List UInt8
  gk : Option Addr
  len : Nat
  ck : Nat
  ok : nm.length ≤ 1000000 ∧ i ≤ 1000000
def It.v (x : It) : Value := .agg #[.string ⟨x.nm.toArray⟩, .int .i64 x.kd, .string ⟨x.tx.toArray⟩, .slice x.gk x.len x.ck]
def It.encs (x : It) : Array Value := #[.int .i64 (x.i : Int), .agg #[.string ⟨x.nm.toArray⟩, .int .i64 x.kd, .string ⟨x.tx.toArray⟩, .slice x.gk x.len x.ck]]
/-- The slice's box and what lay below n₀ are kept. -/
def BwK (n₀ Bs : Nat) (W W' : World) : Prop := ∀ k, (k < n₀ ∨ k = Bs) → k < W.heap.size → W'.heap[k]? = W.heap[k]?
theorem BwK.trans {n₀ Bs : Nat} {A B C : World} (h : BwK n₀ Bs A B) (h2 : BwK n₀ Bs B C) : BwK n₀ Bs A C := fun k hk hl => by
  have e := h k hk hl
  have hl2 : k < B.heap.size := by
    rw [Array.getElem?_eq_getElem hl] at e
    exact (Array.getElem?_eq_some_iff.1 e).1
  exact (h2 k hk hl2).trans e
theorem BwK.refl (n₀ Bs : Nat) (W : World) : BwK n₀ Bs W W := fun _ _ _ => rfl
theorem lt_of_cell {A : World} {b i : Nat} {v : Value} (hc : A.cell? ⟨b, i, none⟩ = some v) : b < A.heap.size := by
  rcases Nat.lt_or_ge b A.heap.size with h | h
  · exact h
  · unfold World.cell? at hc
    simp only at hc
    rw [Array.getElem?_eq_none h] at hc
    cases hc
theorem BwK.cell {n₀ Bs : Nat} {A B : World} (h : BwK n₀ Bs A B) {b i : Nat} (hb : b < n₀ ∨ b = Bs) {v : Value} (hc : A.cell? ⟨b, i, none⟩ = some v) : B.cell? ⟨b, i, none⟩ = some v := by
  have hl : b < A.heap.size := lt_of_cell hc
  have e := h b hb hl
  unfold World.cell? at hc ⊢
  simp only at hc ⊢
  rw [e]
  exact hc
def upto {α : Type} (f : Nat → α) (k : Nat) : List α := (List.range k).map f
theorem upto_succ {α : Type} (f : Nat → α) (k : Nat) : upto f (k + 1) = upto f k ++ [f k] := by simp [upto, List.range_succ]
theorem upto_length {α : Type} (f : Nat → α) (k : Nat) : (upto f k).length = k := by simp [upto]
set_option maxRecDepth 100000 in
set_option maxHeartbeats 4000000 in
theorem bw1_in (F : Fence) (n : Nat) (hF : F.fn 134) (hro : F.round = none) (hn : 1 ≤ n) (l Bs n₀ g off len cap : Nat) (ga : Option Addr) (hga : 0 < len → ga = some ⟨g, off, none⟩) (it : Nat → It) (hlen : len ≤ 1000000) (hg : 0 < len → g < n₀) (J Jx : List It → World → Prop)
    (hY : ∀ pre x W, J pre W → pre.length < len → YieldAt F (n - 1) Try.prog l x.encs W fun e W' => (e = .returned (.bool true) ∧ J (pre ++ [x]) W' ∧ BwK n₀ Bs W W') ∨ (e = .returned (.bool false) ∧ Jx (pre ++ [x]) W'))
    (W : World) (hBs : W.cell? ⟨Bs, 0, none⟩ = some (.slice ga len cap))
    (hc : ∀ j, j < len → W.cell? ⟨g, off + j * 4, none⟩ = some (.string ⟨(it j).nm.toArray⟩) ∧ W.cell? ⟨g, off + j * 4 + 1, none⟩ = some (.int .i64 (it j).kd) ∧ W.cell? ⟨g, off + j * 4 + 2, none⟩ = some (.string ⟨(it j).tx.toArray⟩) ∧ W.cell? ⟨g, off + j * 4 + 3, none⟩ = some (.slice (it j).gk (it j).len (it j).ck) ∧ (it j).i = j) (h0 : J [] W) :
    CallsIn F n Try.prog 134 #[.func (.yield l) #[] #[], .pointer (some ⟨Bs, 0, none⟩)] W fun e W' => (∃ v, e = .returned v) ∧
      ((∃ ys, ys = upto (fun k => it (len - 1 - k)) len ∧ J ys W') ∨ (∃ pre, True ∧ Jx pre W')) := by
  have hlen1 : (len : Int) ≤ 1000000 := by omega
  have hlen0 : (0 : Int) ≤ len := by omega
  refine callsIn_of_wp Try.func134 rfl hF ?_ hro
  simp only [Try.ntmps134, List.size_toArray, List.length_cons, List.length_nil, Nat.reduceAdd, Nat.reduceSub, Array.replicate_succ, Array.replicate_zero, List.push_toArray, List.append_toArray, List.nil_append, List.cons_append]
  gi_wp2
  gi_loopw [3] (fun i wr => ∃ k : Nat, k ≤ len ∧ i = .int .i64 ((len : Int) - 1 - k) ∧ J (upto (fun k => it (len - 1 - k)) k) wr ∧ BwK n₀ Bs W wr)
    (fun i _ => (intOf i + 1).toNat)
  case atStart => exact ⟨0, Nat.zero_le _, by simp, h0, BwK.refl _ _ _⟩
  case round =>
    obtain ⟨k, hk, rfl, hJs, hnx⟩ := hrel
    by_cases hlt : k < len
    · obtain ⟨j, hj⟩ : ∃ j : Nat, j = len - 1 - k := ⟨_, rfl⟩
      have hji : (len : Int) - 1 - k = (j : Int) := by omega
      rw [hji]
      have hx := hY _ (it j) wr hJs (by rw [upto_length]; exact hlt)
      obtain ⟨c0, c1, c2, c3, c4⟩ := hc j (by omega)
      have hg := hg (by omega)
      have d0 := hnx.cell (.inl hg) c0
      have d1 := hnx.cell (.inl hg) c1
      have d2 := hnx.cell (.inl hg) c2
      have d3 := hnx.cell (.inl hg) c3
      have hB := hnx.cell (.inr rfl) hBs
      rw [hga (by omega)] at hB
      have hjl : (j : Int) < (len : Int) := by omega
      have hj0 : (0 : Int) ≤ (j : Int) := by omega
      unfold It.encs at hx
      rw [c4] at hx
      obtain ⟨fn, tmps, assign, body, hy, hR⟩ := hx
      try dsimp only at hy
      have Hj := hid hj
      clear hj hji c0 c1 c2 c3 c4
      gi_wp2
      refine hR.mono ?_
      rintro e W3 (⟨rfl, hJ3, hk3⟩ | ⟨rfl, hJx3⟩)
      · gi_wp2
        go_roundw
        case rel =>
          refine ⟨k + 1, by omega, ?_, ?_, hnx.trans hk3⟩
          · have := Hj.out
            simp <;> omega
          · rw [upto_succ, ← Hj.out]
            exact hJ3
        case measure =>
          have := Hj.out
          simp [intOf] <;> omega
      · gi_wp2
        refine bodyPost_ret (results_none rfl _ _ _) rfl ?_
        exact ⟨⟨_, rfl⟩, .inr ⟨_, trivial, hJx3⟩⟩
    · obtain rfl : k = len := by omega
      have hge : ¬ (0 : Int) ≤ (k : Int) - 1 - k := by omega
      gi_wp2
      go_end0
      exact ⟨⟨_, rfl⟩, .inl hJs⟩
/-- The first place of a name among the rules, counted from k. -/
def firstAt : List (List UInt8 × Nod) → Nat → List UInt8 → Option Nat
  | [], _, _ => none
  | x :: r, k, t => if t = x.1 then some k else firstAt r (k + 1) t
theorem upto_rev {α : Type} (f : Nat → α) (L : Nat) : upto (fun k => f (L - 1 - k)) L = (upto f L).reverse := by
  apply List.ext_getElem
  · simp [upto]
  · intro i h1 h2
    simp [upto]
/-- The map of what has come. -/
def gotF : List It → List UInt8 → Option Value
  | [], _ => none
  | x :: r, t => match gotF r t with
    | some v => some v
    | none => if t = x.nm then some (.int .i64 (x.i : Int)) else none
theorem gotF_snoc (x : It) (t : List UInt8) : ∀ l : List It, gotF (l ++ [x]) t = if t = x.nm then some (.int .i64 (x.i : Int)) else gotF l t
  | [] => by simp [gotF]
  | a :: r => by
    rw [List.cons_append, gotF, gotF_snoc x t r, gotF]
    by_cases h : t = x.nm
    · simp [h]
    · simp [h]
theorem gotF_rev : ∀ (rs : List (List UInt8 × Nod)) (its : List It) (k : Nat) (t : List UInt8), its.length = rs.length → (∀ (j : Nat) (x : It) (y : List UInt8 × Nod), its[j]? = some x → rs[j]? = some y → x.i = k + j ∧ x.nm = y.1) → gotF its.reverse t = (firstAt rs k t).map (fun (i : Nat) => Value.int .i64 (i : Int))
  | [], [], _, _, _, _ => rfl
  | [], _ :: _, _, _, h, _ => by simp at h
  | _ :: _, [], _, _, h, _ => by simp at h
  | y :: rs, x :: its, k, t, h, hx => by
    obtain ⟨h1, h2⟩ := hx 0 x y rfl rfl
    rw [List.reverse_cons, gotF_snoc, firstAt, h2]
    by_cases e : t = y.1
    · rw [if_pos e, if_pos e, h1]
      rfl
    · rw [if_neg e, if_neg e]
      refine gotF_rev rs its (k + 1) t (by simpa using h) fun j x' y' hx' hy' => ?_
      obtain ⟨h3, h4⟩ := hx (j + 1) x' y' (by simpa using hx') (by simpa using hy')
      exact ⟨by omega, h4⟩
set_option maxHeartbeats 1000000 in
theorem bw_in (F : Fence) (n : Nat) (hF : F.fn 113) (hro : F.round = none) (a : Option Addr) (len cap : Nat) (w : World) :
    CallsIn F n Try.prog 113 #[.slice a len cap] w fun e w' => e = .returned (.func (.func 134) #[] #[.pointer (some ⟨w.heap.size, 0, none⟩)]) ∧ w' = w.alloc (.cells #[.slice a len cap] 23) := by
  refine callsIn_of_wp Try.func113 rfl hF ?_ hro
  simp only [Try.ntmps113, List.size_toArray, List.length_cons, List.length_nil, Nat.reduceAdd, Nat.reduceSub, Array.replicate_succ, Array.replicate_zero, List.push_toArray, List.append_toArray, List.nil_append, List.cons_append]
  gi_wp2
  go_ret
  exact ⟨rfl, rfl⟩
theorem its_of {w : World} {ga : Option Addr} {rs : List (List UInt8 × Nod)} (hin : RulesIn w ga rs) (hl : rs.length ≤ 1000000) (hnm : ∀ x ∈ rs, x.1.length ≤ 1000000) :
    ∃ its : Nat → It, True ∧ ∃ (g off : Nat), (0 < rs.length → ga = some ⟨g, off, none⟩) ∧ (0 < rs.length → g < w.heap.size) ∧ ∀ j, j < rs.length → w.cell? ⟨g, off + j * 4, none⟩ = some (.string ⟨(its j).nm.toArray⟩) ∧ w.cell? ⟨g, off + j * 4 + 1, none⟩ = some (.int .i64 (its j).kd) ∧ w.cell? ⟨g, off + j * 4 + 2, none⟩ = some (.string ⟨(its j).tx.toArray⟩) ∧ w.cell? ⟨g, off + j * 4 + 3, none⟩ = some (.slice (its j).gk (its j).len (its j).ck) ∧ (its j).i = j ∧ ∀ x, rs[j]? = some x → (its j).nm = x.1 := by
  have hone : ∀ j, ∃ it : It, ∀ (hj : j < rs.length), ∃ (g off : Nat), ga = some ⟨g, off, none⟩ ∧ g < w.heap.size ∧ w.cell? ⟨g, off + j * 4, none⟩ = some (.string ⟨it.nm.toArray⟩) ∧ w.cell? ⟨g, off + j * 4 + 1, none⟩ = some (.int .i64 it.kd) ∧ w.cell? ⟨g, off + j * 4 + 2, none⟩ = some (.string ⟨it.tx.toArray⟩) ∧ w.cell? ⟨g, off + j * 4 + 3, none⟩ = some (.slice it.gk it.len it.ck) ∧ it.i = j ∧ it.nm = (rs[j]'hj).1 := by
    intro j
    by_cases hj : j < rs.length
    · obtain ⟨g, off, gk, ck, h1, h2, h3, h4, h5, h6, _⟩ := hin j (rs[j]'hj) (List.getElem?_eq_getElem hj)
      exact ⟨⟨j, (rs[j]'hj).1, (rs[j]'hj).2.kind, (rs[j]'hj).2.text, gk, (rs[j]'hj).2.kids.len, ck, hnm _ (List.getElem_mem hj), by omega⟩, fun _ => ⟨g, off, h1, h2, h3, h4, h5, h6, rfl, rfl⟩⟩
    · exact ⟨⟨0, [], 0, [], none, 0, 0, by simp⟩, fun h => absurd h hj⟩
  refine ⟨fun j => Classical.choose (hone j), trivial, ?_⟩
  have hsp := fun j => Classical.choose_spec (hone j)
  by_cases h0 : 0 < rs.length
  · obtain ⟨g, off, hga, hg, _⟩ := hsp 0 h0
    refine ⟨g, off, fun _ => hga, fun _ => hg, fun j hj => ?_⟩
    obtain ⟨g', off', hga', hg', h3, h4, h5, h6, h7, h8⟩ := hsp j hj
    rw [hga] at hga'
    injection hga' with e
    injection e with e1 e2
    subst e1 e2
    refine ⟨h3, h4, h5, h6, h7, fun x hx => ?_⟩
    rw [h8]
    rw [List.getElem?_eq_getElem hj] at hx
    injection hx with hx
    rw [hx]
  · exact ⟨0, 0, fun h => absurd h h0, fun h => absurd h h0, fun j hj => absurd (Nat.lt_of_le_of_lt (Nat.zero_le j) hj) h0⟩
set_option maxRecDepth 100000 in
set_option maxHeartbeats 4000000 in
theorem firsts_calls (w : World) (st : List UInt8) (rs : List (List UInt8 × Nod)) (ga : Option Addr) (ca : Nat) (hin : RulesIn w ga rs) (hl : rs.length ≤ 100000) (hnm : ∀ x ∈ rs, x.1.length ≤ 1000000) :
    Calls Try.prog 74 #[.agg #[.string ⟨st.toArray⟩, .slice ga rs.length ca]] w fun e w' => ∃ bm, e = .returned (.map (some bm)) ∧ w.heap.size ≤ bm ∧ MapS w' bm rs.length (fun t => (firstAt rs 0 t).map fun (i : Nat) => Value.int .i64 (i : Int)) ∧ Below w.heap.size w w' := by
  have hmm := @run_makeMap Try.prog
  obtain ⟨L, hL⟩ : ∃ L, L = rs.length := ⟨_, rfl⟩
  have HL := hid hL
  have Hin := hid hin
  have Hnm := hid hnm
  rw [← hL] at hl ⊢
  clear hL hin hnm
  refine (callsIn_wide (n := 8)).1 ?_
  refine callsIn_of_wp_marks Try.func74 rfl trivial ?_ rfl
  simp only [Try.ntmps74, List.size_toArray, List.length_cons, List.length_nil, Nat.reduceAdd, Nat.reduceSub, Array.replicate_succ, Array.replicate_zero, List.push_toArray, List.append_toArray, List.nil_append, List.cons_append]
  gi_wp2_with (refine ⟨trivial, ?_⟩; gi_at_call 113; refine (bw_in Fence.wide (8 - 1) trivial rfl _ _ _ _).mono ?_; rintro e w' ⟨rfl, rfl⟩)
  obtain ⟨w0, hw0⟩ : ∃ w0, w0 = ((((w.alloc (.cells #[.string ⟨st.toArray⟩, .slice ga L ca] 25)).alloc (.map #[] 0)).alloc (.cells #[.map (some (w.heap.size + 1))] 128)).alloc (.cells #[.slice ga L ca] 23)) := ⟨_, rfl⟩
  have hsz : w0.heap.size = w.heap.size + 4 := by rw [hw0]; simp
  have hB0 : Below w.heap.size w w0 := by rw [hw0]; exact bel_trans (bel_trans (bel_trans (bel_new _ _) (bel_new _ _)) (bel_new _ _)) (bel_new _ _)
  have hm0 : MapS w0 (w.heap.size + 1) 0 (fun _ => none) := by
    have h := MapS.made (w.alloc (.cells #[.string ⟨st.toArray⟩, .slice ga L ca] 25))
    rw [show (w.alloc (.cells #[.string ⟨st.toArray⟩, .slice ga L ca] 25)).heap.size = w.heap.size + 1 by simp] at h
    rw [hw0]
    exact (h.kp ((Kp.refl (fun _ => False) _).alloc _) (fun e => e)).kp ((Kp.refl (fun _ => False) _).alloc _) (fun e => e)
  have hb0 : Boxed w0 (w.heap.size + 1 + 1) 128 (.map (some (w.heap.size + 1))) := by
    have h := Boxed.new ((w.alloc (.cells #[.string ⟨st.toArray⟩, .slice ga L ca] 25)).alloc (.map #[] 0)) 128 (.map (some (w.heap.size + 1)))
    rw [show ((w.alloc (.cells #[.string ⟨st.toArray⟩, .slice ga L ca] 25)).alloc (.map #[] 0)).heap.size = w.heap.size + 1 + 1 by simp] at h
    rw [hw0]
    exact h.alloc _
  have hs0 : Boxed w0 (w.heap.size + 1 + 1 + 1) 23 (.slice ga L ca) := by
    have h := Boxed.new (((w.alloc (.cells #[.string ⟨st.toArray⟩, .slice ga L ca] 25)).alloc (.map #[] 0)).alloc (.cells #[.map (some (w.heap.size + 1))] 128)) 23 (.slice ga L ca)
    rw [show (((w.alloc (.cells #[.string ⟨st.toArray⟩, .slice ga L ca] 25)).alloc (.map #[] 0)).alloc (.cells #[.map (some (w.heap.size + 1))] 128)).heap.size = w.heap.size + 1 + 1 + 1 by simp] at h
    rw [hw0]
    exact h
  obtain ⟨its, -, hits⟩ := its_of Hin.out (by rw [← HL.out]; omega) Hnm.out
  obtain ⟨g, off, hga, hgw, hcells⟩ := hits
  rw [← HL.out] at hga hgw hcells
  rw [← hw0]
  obtain ⟨bm, hbm⟩ : ∃ bm, bm = w.heap.size + 1 := ⟨_, rfl⟩
  obtain ⟨bo, hbo⟩ : ∃ bo, bo = w.heap.size + 1 + 1 := ⟨_, rfl⟩
  obtain ⟨Bs, hBs⟩ : ∃ Bs, Bs = w.heap.size + 1 + 1 + 1 := ⟨_, rfl⟩
  rw [← hBs, ← hbo, ← hbm]
  rw [← hBs] at hs0
  rw [← hbo, ← hbm] at hb0
  rw [← hbm] at hm0
  have hlt1 : bm < w0.heap.size := by omega
  have hlt2 : bo < w0.heap.size := by omega
  have hlt3 : Bs < w0.heap.size := by omega
  have hwm : w.heap.size < bm := by omega
  have hmo : bm < bo := by omega
  have hos : bo < Bs := by omega
  have hle0 : w.heap.size ≤ w0.heap.size := by omega
  clear hw0 hsz hbm hbo hBs hmm
  refine wpIn_rangeFunc_ownH (F := Fence.wide) rfl (by omega) (gf := 134) (lb := #[.pointer (some ⟨Bs, 0, none⟩)]) rfl trivial (enters_of Try.func134 (by kernel_rfl) rfl)
    (encs := It.encs) (Kp := BwK w.heap.size Bs) (S := fun ys => ys = upto (fun k => its (L - 1 - k)) L) (Sp := fun _ => True) (N := L) (w0 := w0) ?seq (fun h1 h2 => h1.trans h2) ?kb (Below.refl _ _) (fun _ => rfl)
    (fun pre W => ((MapS W bm pre.length (gotF pre) ∧ w0.heap.size ≤ W.heap.size) ∧ Boxed W bo 128 (.map (some bm))) ∧ Below w.heap.size w W)
    (fun _ _ _ => False) ?hI (fun _ _ _ _ _ hs _ _ => hs) ⟨⟨⟨hm0, Nat.le_refl _⟩, hb0⟩, hB0⟩
    (fun x a' W => ∃ Bx, Bs < Bx ∧ Bk W Bx 51 [.string ⟨x.nm.toArray⟩, .int .i64 x.kd, .string ⟨x.tx.toArray⟩, .slice x.gk x.len x.ck] ∧ a' = { tmps := #[.agg #[.string ⟨st.toArray⟩, .slice ga L ca], .pointer (some ⟨w.heap.size, 0, none⟩), .map none, .pointer (some ⟨bo, 0, none⟩), .int .i64 (x.i : Int), .pointer (some ⟨Bx, 0, none⟩), .map (some bm), .pointer (some ⟨w.heap.size, 1, none⟩), .slice ga L ca, .func (.func 134) #[] #[.pointer (some ⟨Bs, 0, none⟩)], .int .i64 (x.i : Int), .agg #[.string ⟨x.nm.toArray⟩, .int .i64 x.kd, .string ⟨x.tx.toArray⟩, .slice x.gk x.len x.ck], undef, undef, undef, undef, undef], defers := [] }) ?hAx ?assign ?body ?done ?stop
  case seq =>
    intro l J Jx W hW _ _ hY h0
    refine bw1_in Fence.wide (8 - 1) trivial rfl (by omega) l Bs w.heap.size g off L ca ga hga its (by omega) hgw J Jx hY W ((hW.cell (p := ⟨Bs, 0, none⟩) hlt3).trans hs0.cell) (fun j hj => ?_) h0
    obtain ⟨c0, c1, c2, c3, c4⟩ := hcells j hj
    have hgw' := hgw (by omega)
    have hWw := hB0.trans (hW.mono hle0)
    exact ⟨(hWw.cell (p := ⟨g, _, none⟩) hgw').trans c0, (hWw.cell (p := ⟨g, _, none⟩) hgw').trans c1, (hWw.cell (p := ⟨g, _, none⟩) hgw').trans c2, (hWw.cell (p := ⟨g, _, none⟩) hgw').trans c3, c4.1⟩
  case kb =>
    intro W l o o' hl ho h1 h2 k hk hkl
    exact World.putObj_heap_other (by omega)
  case hI =>
    refine OwnFrom.and (OwnFrom.and ?_ (Own.from (boxed_own _ _ _) _)) (ownFrom_below (Nat.le_refl _) hle0)
    intro s A B row hs hg hr
    exact ⟨hs.1.kept hg (fun e => by have := (hr _ e.symm).1; omega), Nat.le_trans hs.2 hg.size⟩
  case hAx =>
    intro x a' _ X Y row hs hg hr
    obtain ⟨Bx, h1, h2, h3⟩ := hs
    refine ⟨Bx, h1, ?_, h3⟩
    refine h2.grown hg ?_
    intro e
    obtain ⟨o, ho, hc⟩ := (hr Bx (by first | exact e | exact e.symm)).2
    have h2' : X.heap[Bx]? = _ := h2
    rw [h2'] at ho
    injection ho with ho
    subst ho
    cases hc
  case assign =>
    rintro l pre x W K ⟨⟨⟨hm1, hsz1⟩, hb1⟩, hB1⟩ hK
    dsimp only [It.encs]
    gi_wp2
    exact hK _ _ ((KeepsOthers.alloc _ _).from _) (fun k _ hkl => Below.heap_alloc W _ k hkl) ⟨⟨⟨hm1.kp ((Kp.refl (fun _ => False) _).alloc _) (fun e => e), by simp; omega⟩, hb1.alloc _⟩, hB1.alloc hB1.size _⟩ ⟨W.heap.size, by omega, Bk.new W _ [.string ⟨x.nm.toArray⟩, .int .i64 x.kd, .string ⟨x.tx.toArray⟩, .slice x.gk x.len x.ck], rfl⟩
  case body =>
    rintro l pre x a' W hl ⟨r, hr⟩ ⟨⟨⟨hm1, hsz1⟩, hb1⟩, hB1⟩ ⟨Bx, hBx, bX, rfl⟩ hlt
    have cB := hb1.cell
    have x0 := bX.cell 0
    simp only [List.getElem?_cons_zero] at x0
    obtain ⟨w1, hrun, hm2, hg2⟩ := hm1.put x.nm (.int .i64 (x.i : Int)) (by have := x.ok.1; unfold maxLen; omega) (by unfold maxLen; omega) 128 3 Try.underlying128
    gi_wp2
    refine ⟨KeepsFrom.of_grownBy hg2 (fun j e => by cases e; exact hlt1), fun k hk hkl => hg2.block k hkl (fun e => by injection e with e; omega), ⟨⟨⟨?_, Nat.le_trans hsz1 hg2.size⟩, hb1.kept hg2 (fun e => by injection e with e; omega)⟩, hB1.grown hg2 hB1.size (fun k e => by cases e; omega)⟩⟩
    rw [List.length_append]
    exact hm2.same fun t => (gotF_snoc x t pre).symm
  case done =>
    rintro D ys W hD rfl ⟨⟨⟨hm1, hsz1⟩, hb1⟩, hB⟩ hK
    have cB := hb1.cell
    gi_wp2
    refine ⟨by simp, .inl ⟨_, _, rfl, run_takeDeferred hK, ?_⟩⟩
    refine ⟨_, results_tmp rfl _ _ _, bm, rfl, by omega, ?_, hB.trans (belowK_b (w := w) (Nat.le_refl _) W D _ _ (by omega) hK rfl rfl)⟩
    have h1 := hm1.kept (grownBy_putObj' W D (.deferred none)) (fun e => by injection e with e; omega)
    rw [upto_length] at h1
    refine h1.same fun t => ?_
    rw [upto_rev]
    refine gotF_rev rs (upto its L) 0 t (by rw [upto_length]; exact HL.out) fun j x y hx hy => ?_
    have hjl : j < L := by
      have := (List.getElem?_eq_some_iff.1 hx).1
      rw [upto_length] at this
      exact this
    obtain ⟨_, _, _, _, h5, h6⟩ := hcells j hjl
    have hxe : x = its j := by
      unfold upto at hx
      rw [List.getElem?_map, List.getElem?_range hjl] at hx
      simpa using hx.symm
    rw [hxe]
    exact ⟨by omega, h6 y hy⟩
  case stop =>
    rintro D c pre W _ _ h _
    exact h.elim
end Go.Proofs.Ytjaampgpihicmaa
