/- Chapter 17 (earley): sets in memory; add, step, Clone: walks. -/
import Derived.Test.YtaehooafdbaomaaItM
import Derived.Test.YtaehooafdbaomaaOwnA
import Derived.Test.YtaehooafdbaomaaFresh
import Derived.Test.YtaehooafdbaomaaProds
namespace Go.Proofs.Ytaehooafdbaomaa
open Go.RowKit
attribute [local go_sem ↓] Go.wp_at_zero Go.wp_at_succ
attribute [local go_sem] frozen_alloc_lt
namespace Ed

def ItR (_ : World) (_ : Nat → Prop) (a : Itm) (x : List Value) : Prop := x = itC a
theorem ItR.fit : FitA ItR 3 :=
  ⟨fun h => by rw [h]; rfl, fun _ h => h, fun _ _ h => h, fun h u hu => by
    rw [h] at hu
    simp [itC] at hu
    rcases hu with rfl | rfl | rfl <;> rfl⟩
theorem itInfo : (Try.prog.info? 146).map (fun i => (i.zero, i.size, i.bytes)) = some (some (.agg #[.int .i64 0, .int .i64 0, .int .i64 0]), 3, 24) := by kernel_rfl
/-- A set that the call lays: its block, its map's, its row of items. -/
structure SetM (w : World) (s m : Nat) (vl : Value) (X : List Itm) : Prop where
  k : Bk w s 143 [vl, .map (some m)]
  o : OwnA ItR 3 w (s + 1) 146 vl X
  h : SetE w m X.length X
  ms : m < s
section
variable {w w' : World} {s m : Nat} {vl : Value} {X : List Itm}
theorem SetM.kp {S : Nat → Prop} (h : SetM w s m vl X) (hk : Kp S w w') (h1 : ¬ S s) (h2 : ¬ S m) (h3 : ∀ k, s + 1 ≤ k → k < w.heap.size → ¬ S k) : SetM w' s m vl X :=
  ⟨h.k.kp hk h1, h.o.kp ItR.fit hk h3, h.h.kp hk h2, h.ms⟩
theorem SetM.later (h : SetM w s m vl X) (hb : Below w.heap.size w w') : SetM w' s m vl X :=
  h.kp (S := fun _ => False) ⟨hb.os, hb.tape, hb.output, hb.size, fun k hk _ => hb.block k hk⟩ (fun h => h) (fun h => h) (fun _ _ _ h => h)
end
/-- One more, if it is not there. -/
def addS (X : List Itm) (x : Itm) : List Itm := if x ∈ X then X else X ++ [x]
theorem addS_mem (X : List Itm) (x y : Itm) : y ∈ addS X x ↔ y ∈ X ∨ y = x := by
  unfold addS
  split
  · rename_i h
    constructor
    · exact .inl
    · rintro (h1 | rfl)
      · exact h1
      · exact h
  · simp
theorem addS_nodup {X : List Itm} (x : Itm) (h : X.Nodup) : (addS X x).Nodup := by
  unfold addS
  split
  · exact h
  · rename_i hx
    rw [List.nodup_append]
    exact ⟨h, by simp, fun a ha b hb => by
      rw [List.mem_singleton] at hb
      subst hb
      intro e
      exact hx (e ▸ ha)⟩
/-- What add leaves. -/
def AddSaid (w : World) (s m : Nat) (vl : Value) (X : List Itm) (e : Ending) (w' : World) : Prop :=
  ∃ vl', e = .returned (.tuple #[]) ∧ SetM w' s m vl' X ∧ Kp (fun k => k = s ∨ k = m ∨ vl.ownBlock = some k) w w' ∧ (∀ g, vl'.ownBlock = some g → vl.ownBlock = some g ∨ w.heap.size ≤ g)
set_option maxHeartbeats 8000000 in
set_option maxRecDepth 8000 in
theorem add_calls (w : World) (s m : Nat) (vl : Value) (X : List Itm) (h : SetM w s m vl X) (p d f : Nat) (hx : InR (p, d, f)) (hX : X.length ≤ 1000000) :
    Calls Try.prog 84 #[.pointer (some ⟨s, 0, none⟩), .agg #[.int .i64 (p : Int), .int .i64 (d : Int), .int .i64 (f : Int)]] w (AddSaid w s m vl (addS X (p, d, f))) := by
  obtain ⟨ii, hii, z0, z1, z2⟩ := info_parts itInfo
  have hb1 : Below w.heap.size w (w.alloc (.cells #[.int .i64 (p : Int), .int .i64 (d : Int), .int .i64 (f : Int)] 146)) := bel_al (bel_id w) _
  have hkx := Bk.new w 146 [.int .i64 (p : Int), .int .i64 (d : Int), .int .i64 (f : Int)]
  have hk1 : Kp (fun k => k = s ∨ k = m ∨ vl.ownBlock = some k) w (w.alloc (.cells #[.int .i64 (p : Int), .int .i64 (d : Int), .int .i64 (f : Int)] 146)) := (Kp.refl _ w).alloc _
  have h1 := h.later hb1
  have hsl := h.k.lt
  have Hown := hid (fun (g : Nat) (hg : vl.ownBlock = some g) => h.o.lt g hg)
  go_enter Try.func84, Try.ntmps84
  go_upto_region 1 with fail
  obtain ⟨w1, hw1⟩ : ∃ w1, w1 = w.alloc (.cells #[.int .i64 (p : Int), .int .i64 (d : Int), .int .i64 (f : Int)] 146) := ⟨_, rfl⟩
  obtain ⟨bx, hbx⟩ : ∃ bx, bx = w.heap.size := ⟨_, rfl⟩
  rw [← hw1] at hb1 hkx hk1 h1 ⊢
  rw [← hbx] at hkx ⊢
  have hsx : s < bx := by omega
  have hgw := hb1.size
  have hbw : w.heap.size ≤ bx := by omega
  clear hw1 hbx hb1 hsl
  have c0 := h1.k.cell 0
  have c1 := h1.k.cell 1
  have x0 := hkx.cell 0
  have x1 := hkx.cell 1
  have x2 := hkx.cell 2
  simp only [List.getElem?_cons_zero, List.getElem?_cons_succ] at c0 c1 x0 x1 x2
  have hlook := SetE.get (w := w1.drew) (h1.h.at rfl) (p, d, f) hx (zw := w1.drew) (by exact Try.zeroValue4 w1.drew) rfl
  have hlook2 : (Instr.lookup 140 (.map (some m)) (.agg #[.int .i64 (p : Int), .int .i64 (d : Int), .int .i64 (f : Int)]) false).run Try.prog w1.drew = .ok (.bool (decide ((p, d, f) ∈ X))) w1.drew := hlook
  clear hlook
  by_cases hin : (p, d, f) ∈ X
  · rw [decide_eq_true hin] at hlook2
    have he : addS X (p, d, f) = X := by unfold addS; rw [if_pos hin]
    have He := hid he
    have Hfin := hid (And.intro (h1.later (show Below w1.heap.size w1 w1.drew from below_drewN (Below.refl _ _) 1)) hk1.drew)
    clear h h1 hk1 hkx hin he hx
    go_region
    go_wp2_with fail
    refine bodyPost_end (results_none rfl _ _ _) rfl ?_
    exact ⟨vl, rfl, by rw [He.out]; exact Hfin.out.1, Hfin.out.2, fun g hg => .inl hg⟩
  · rw [decide_eq_false hin] at hlook2
    have he : addS X (p, d, f) = X ++ [(p, d, f)] := by unfold addS; rw [if_neg hin]
    have He := hid he
    have H1 := hid (And.intro h1 (And.intro hk1 (And.intro hkx (And.intro hsx (And.intro hbw hgw)))))
    clear he hin h
    go_region
    clear hlook2 c0 c1 x0 x1 x2 h1 hk1 hkx
    go_upto_region 2 with fail
    obtain ⟨w2, hw2⟩ : ∃ w2, w2 = w1.drew := ⟨_, rfl⟩
    have hb12 : Below w1.heap.size w1 w2 := by rw [hw2]; exact below_drewN (Below.refl _ _) 1
    have hs12 : w2.heap.size = w1.heap.size := by rw [hw2]; rfl
    rw [← hw2]
    clear hw2
    have h2 := H1.out.1.later hb12
    have hk2 : Kp (fun k => k = s ∨ k = m ∨ vl.ownBlock = some k) w w2 := H1.out.2.1.below hb12 (fun k hk _ => by omega)
    have hkx2 := H1.out.2.2.1.below hb12 H1.out.2.2.1.lt
    obtain ⟨w3, hput, hset3, hgr3⟩ := SetE.put (w := w2.drew) (h2.h.at rfl) (p, d, f) hx (by unfold maxLen; omega)
    have hput2 : (Instr.mapUpdate 140 (.map (some m)) (.agg #[.int .i64 (p : Int), .int .i64 (d : Int), .int .i64 (f : Int)]) (.bool true)).run Try.prog w2.drew = .ok () w3 := hput
    clear hput
    have c1 := h2.k.cell 1
    have x0 := hkx2.cell 0
    have x1 := hkx2.cell 1
    have x2 := hkx2.cell 2
    simp only [List.getElem?_cons_zero, List.getElem?_cons_succ] at c1 x0 x1 x2
    have hms := h2.ms
    have hk23 : Kp (fun k => k = m) w2 w3 := (show Kp (fun k => k = m) w2 w2.drew from (Kp.refl _ w2).drew).grown hgr3 (fun k hk _ => by cases hk; rfl)
    have ks3 := h2.k.kp hk23 (by omega)
    have ko3 := h2.o.kp ItR.fit hk23 (fun k hk _ => by omega)
    have kx3 := hkx2.kp hk23 (by omega)
    have hk3 : Kp (fun k => k = s ∨ k = m ∨ vl.ownBlock = some k) w w3 := hk2.trans (hk23.mono fun k _ hk => .inr (.inl hk))
    have hsz3 := hk23.size
    have H3 := hid (And.intro ks3 (And.intro ko3 (And.intro kx3 (And.intro hk3 (And.intro hset3 hms)))))
    clear h2 hk2 hkx2 hset3 hgr3 hk23 ks3 ko3 kx3 hk3 hb12
    go_region
    clear hput2 c1 x0 x1 x2
    go_upto_region 3 with fail
    obtain ⟨W0, hW0⟩ : ∃ W0, W0 = w3.drew := ⟨_, rfl⟩
    have hb30 : Below w3.heap.size w3 W0 := by rw [hW0]; exact below_drewN (Below.refl _ _) 1
    have hsz0 : W0.heap.size = w3.heap.size := by rw [hW0]; rfl
    have HW0 := hid hW0
    clear hW0
    obtain ⟨ks3, ko3, kx3, hk3, hset3, hms⟩ := H3.out
    have ks0 := ks3.below hb30 ks3.lt
    have kx0 := kx3.below hb30 kx3.lt
    have ko0 := ko3.later ItR.fit hb30
    have hset0 : SetE W0 m (X.length + 1) (X ++ [(p, d, f)]) := hset3.at (hb30.block m hset3.lt)
    have hk0 : Kp (fun k => k = s ∨ k = m ∨ vl.ownBlock = some k) w W0 := hk3.below hb30 (fun k hk _ => by have := hk3.size; omega)
    have hsW : s + 1 ≤ W0.heap.size := by have := ks0.lt; omega
    obtain ⟨g5, c5, w5, hrun, ho5, hk5, hat5, hlt5⟩ := ko0.app (P := Try.prog) ItR.fit 141 141 ii (.agg #[.int .i64 0, .int .i64 0, .int .i64 0]) 24 Try.underlying141 hii z0 z1 z2 rfl (by omega) (by omega) hsW hX (p, d, f) [.int .i64 (p : Int), .int .i64 (d : Int), .int .i64 (f : Int)] rfl 0
    obtain ⟨M, hM⟩ : ∃ M, M = X.length := ⟨_, rfl⟩
    rw [← hM] at hrun ho5
    have hlen : (X ++ [(p, d, f)]).length = M + 1 := by rw [List.length_append, hM]; rfl
    have ks5 := ks0.kp hk5 (fun e => by have := (Hown.out s e).1; omega)
    have hset5 := hset0.kp hk5 (fun e => by have := (Hown.out m e).1; omega)
    have ks6 := ks5.set 0 (.slice (some ⟨g5, 0, none⟩) (M + 1) c5)
    have hk6 : Kp (fun k => k = s) w5 (w5.setCell ⟨s, 0, none⟩ (.slice (some ⟨g5, 0, none⟩) (M + 1) c5)) := (Kp.refl (fun k => k = s) w5).set (p := ⟨s, 0, none⟩) (.inl rfl) _
    have ho6 := ho5.kp ItR.fit hk6 (fun k hk _ => by omega)
    have hset6 := hset5.kp hk6 (by omega)
    simp only [List.set_cons_zero] at ks6
    have hk5' : Kp (fun k => k = s ∨ k = m ∨ vl.ownBlock = some k) W0 w5 := hk5.mono fun k _ hk => .inr (.inr hk)
    have hk6' : Kp (fun k => k = s ∨ k = m ∨ vl.ownBlock = some k) W0 (w5.setCell ⟨s, 0, none⟩ (.slice (some ⟨g5, 0, none⟩) (M + 1) c5)) := hk5'.trans (hk6.mono fun k _ hk => .inl hk)
    have hkA : Kp (fun k => k = s ∨ k = m ∨ vl.ownBlock = some k) W0 (W0.alloc (.cells #[.int .i64 (p : Int), .int .i64 (d : Int), .int .i64 (f : Int)] 146)) := (Kp.refl _ W0).alloc _
    have hnx : ¬ (bx = s ∨ bx = m ∨ vl.ownBlock = some bx) := by
      rintro (e | e | e)
      · omega
      · omega
      · have := (Hown.out bx e).2; omega
    have hS : ∀ W, Kp (fun k => k = s ∨ k = m ∨ vl.ownBlock = some k) W0 W → (W.cell? ⟨bx, 0, none⟩ = some (.int .i64 (p : Int)) ∧ W.cell? ⟨bx, 1, none⟩ = some (.int .i64 (d : Int)) ∧ W.cell? ⟨bx, 2, none⟩ = some (.int .i64 (f : Int))) := fun W hW => by
      have h1 := kx0.kp hW hnx
      exact ⟨h1.cell 0, h1.cell 1, h1.cell 2⟩
    have hat6 : ∀ g, (Value.slice (some ⟨g5, 0, none⟩) (M + 1) c5).ownBlock = some g → vl.ownBlock = some g ∨ w.heap.size ≤ g := fun g hg => by
      have e : g5 = g := by simpa [Value.ownBlock] using hg
      subst e
      rcases hat5 with h | h
      · exact .inl h
      · have := hk0.size
        exact .inr (by omega)
    have hrun2 : (Builtin.append_ #[141, 141] 141 #[vl, .slice (some ⟨W0.heap.size, 0, none⟩) 1 1]).run Try.prog (W0.alloc (.cells #[.int .i64 (p : Int), .int .i64 (d : Int), .int .i64 (f : Int)] 146)) = .ok (.slice (some ⟨g5, 0, none⟩) (M + 1) c5) w5 := hrun
    have hfin : SetM (w5.setCell ⟨s, 0, none⟩ (.slice (some ⟨g5, 0, none⟩) (M + 1) c5)) s m (.slice (some ⟨g5, 0, none⟩) (M + 1) c5) (addS X (p, d, f)) := by
      rw [He.out]
      rw [← hM] at hset6
      exact ⟨ks6, ho6, by rw [hlen]; exact hset6, hms⟩
    have Hfin := hid (And.intro hfin (And.intro (hk0.trans hk6') hat6))
    have Hrun := hid hrun2
    have HS := hid hS
    have HbA := hid hkA
    have HbB := hid hk5'
    have HbC := hid hk6'
    have c00 := ks0.cell 0
    have c0A := (ks0.alloc (.cells #[.int .i64 (p : Int), .int .i64 (d : Int), .int .i64 (f : Int)] 146)).cell 0
    have c05 := ks5.cell 0
    have f05 := ks5.free 0
    simp only [List.getElem?_cons_zero] at c00 c0A c05
    clear ks3 ko3 kx3 hk3 hset3 ks0 kx0 ko0 hset0 hk0 hrun ho5 hk5 hat5 hlt5 hlen ks5 hset5 ks6 hk6 ho6 hset6 hk5' hk6' hkA hnx hS hat6 hrun2 hfin hM hb30
    refine wp_region_held_drew (S := fun W : World => W.cell? ⟨bx, 0, none⟩ = some (.int .i64 (p : Int)) ∧ W.cell? ⟨bx, 1, none⟩ = some (.int .i64 (d : Int)) ∧ W.cell? ⟨bx, 2, none⟩ = some (.int .i64 (f : Int))) (by kernel_rfl) (by rw [← HW0.out]; exact HS.out _ (Kp.refl _ _)) (fun hHeld => ?_)
    rw [← HW0.out] at hHeld ⊢
    refine wpAnyH_take (i := 0) (oi := ({ dst := some 16, op := Op.move (Operand.tmp 0), type := 139, pos := "earley.go:25", after := #[], guard := none } : Oper)) (v := ?_) rfl (by kernel_rfl) (by kernel_rfl) (by kernel_rfl) (fun _ _ _ h => h) (Or.inl ⟨by kernel_rfl, ?_⟩) (by assumption) ?_
    rotate_left
    · intro w hSw
      try dsimp only at hSw
      go_simp
      try with_reducible rfl
    try simp only [Act.put, List.setIfInBounds_toArray, List.set_cons_zero, List.set_cons_succ]
    refine wpAnyH_take (i := 1) (oi := ({ dst := some 17, op := Op.move (Operand.tmp 0), type := 139, pos := "earley.go:25", after := #[], guard := none } : Oper)) (v := ?_) rfl (by kernel_rfl) (by kernel_rfl) (by kernel_rfl) (fun _ _ _ h => h) (Or.inl ⟨by kernel_rfl, ?_⟩) (by assumption) ?_
    rotate_left
    · intro w hSw
      try dsimp only at hSw
      go_simp
      try with_reducible rfl
    try simp only [Act.put, List.setIfInBounds_toArray, List.set_cons_zero, List.set_cons_succ]
    refine wpAnyH_take (i := 2) (oi := ({ dst := some 18, op := Op.nilCheck (Operand.tmp 17), type := 0, pos := "earley.go:25", after := #[{ on := 1, ground := Ground.data }], guard := none } : Oper)) (v := ?_) rfl (by kernel_rfl) (by kernel_rfl) (by kernel_rfl) (fun _ _ _ h => h) (Or.inl ⟨by kernel_rfl, ?_⟩) (by assumption) ?_
    rotate_left
    · intro w hSw
      try dsimp only at hSw
      go_simp
      try with_reducible rfl
    try simp only [Act.put, List.setIfInBounds_toArray, List.set_cons_zero, List.set_cons_succ]
    refine wpAnyH_take (i := 3) (oi := ({ dst := some 19, op := Op.fieldAddr 143 (Operand.tmp 18) 0, type := 0, pos := "earley.go:25", after := #[{ on := 2, ground := Ground.data }], guard := none } : Oper)) (v := ?_) rfl (by kernel_rfl) (by kernel_rfl) (by kernel_rfl) (fun _ _ _ h => h) (Or.inl ⟨by kernel_rfl, ?_⟩) (by assumption) ?_
    rotate_left
    · intro w hSw
      try dsimp only at hSw
      go_simp
      try with_reducible rfl
    try simp only [Act.put, List.setIfInBounds_toArray, List.set_cons_zero, List.set_cons_succ]
    refine wpAnyH_take (i := 5) (oi := ({ dst := some 21, op := Op.load 146 (Operand.tmp 3), type := 146, pos := "earley.go:25", after := #[], guard := none } : Oper)) (v := ?_) rfl (by kernel_rfl) (by kernel_rfl) (by kernel_rfl) (fun _ _ _ h => h) (Or.inl ⟨by kernel_rfl, ?_⟩) (by assumption) ?_
    rotate_left
    · intro w hSw
      try dsimp only at hSw
      go_simp
      try with_reducible rfl
    try simp only [Act.put, List.setIfInBounds_toArray, List.set_cons_zero, List.set_cons_succ]
    refine wpAnyH_ready (rs := [4, 6]) (by kernel_rfl) (by simp) ?_
    refine AllReadyH.cons (o := ({ dst := some 20, op := Op.load 141 (Operand.tmp 19), type := 141, pos := "earley.go:25", after := #[{ on := 3, ground := Ground.data }], guard := none } : Oper)) rfl (fun K hK => ?_) ?_
    · go_simp
      refine hK.out _ _ (HS.out _ (Kp.refl _ _)) (fun hH2 => ?_)
      clear hK K hHeld
      have hHeld := hH2
      clear hH2
      try simp only [Act.put, List.setIfInBounds_toArray, List.set_cons_zero, List.set_cons_succ]
      refine wpAnyH_ready (rs := [6]) (by kernel_rfl) (by simp) ?_
      refine AllReadyH.cons (o := ({ dst := some 22, op := Op.buildSlice 141 1 #[(0, Operand.tmp 21)], type := 141, pos := "earley.go:25", after := #[{ on := 5, ground := Ground.data }], guard := none } : Oper)) rfl (fun K hK => ?_) AllReadyH.nil
      go_simp
      refine hK.out _ _ (HS.out _ HbA.out) (fun hH2 => ?_)
      clear hK K hHeld
      have hHeld := hH2
      clear hH2
      try simp only [Act.put, List.setIfInBounds_toArray, List.set_cons_zero, List.set_cons_succ]
      refine wpAnyH_ready (rs := [7]) (by kernel_rfl) (by simp) ?_
      refine AllReadyH.cons (o := ({ dst := some 23, op := Op.call { callee := Callee.builtin Builtin.append, args := #[Operand.tmp 20, Operand.tmp 22], argTypes := #[141, 141] }, type := 141, pos := "earley.go:25", after := #[{ on := 4, ground := Ground.data }, { on := 6, ground := Ground.data }], guard := none } : Oper)) rfl (fun K hK => ?_) AllReadyH.nil
      refine step_append_run rfl _ _ _ rfl vl (.slice (some ⟨W0.heap.size, 0, none⟩) 1 1) (.slice (some ⟨g5, 0, none⟩) (M + 1) c5) w5 (by go_simp) (by go_simp) Hrun.out ?_
      refine hK.out _ _ (HS.out _ HbB.out) (fun hH2 => ?_)
      clear hK K hHeld
      have hHeld := hH2
      clear hH2
      try simp only [Act.put, List.setIfInBounds_toArray, List.set_cons_zero, List.set_cons_succ]
      refine wpAnyH_take (i := 8) (oi := ({ dst := some 24, op := Op.nilCheck (Operand.tmp 16), type := 0, pos := "earley.go:25", after := #[{ on := 0, ground := Ground.data }, { on := 0, ground := Ground.phase }, { on := 1, ground := Ground.phase }, { on := 2, ground := Ground.phase }, { on := 3, ground := Ground.phase }, { on := 4, ground := Ground.phase }, { on := 5, ground := Ground.phase }, { on := 6, ground := Ground.phase }, { on := 7, ground := Ground.phase }], guard := none } : Oper)) (v := ?_) rfl (by kernel_rfl) (by kernel_rfl) (by kernel_rfl) (fun _ _ _ h => h) (Or.inl ⟨by kernel_rfl, ?_⟩) (by assumption) ?_
      rotate_left
      · intro w hSw
        try dsimp only at hSw
        go_simp
        try with_reducible rfl
      try simp only [Act.put, List.setIfInBounds_toArray, List.set_cons_zero, List.set_cons_succ]
      refine wpAnyH_take (i := 9) (oi := ({ dst := some 25, op := Op.fieldAddr 143 (Operand.tmp 24) 0, type := 0, pos := "earley.go:25", after := #[{ on := 8, ground := Ground.data }, { on := 0, ground := Ground.phase }, { on := 1, ground := Ground.phase }, { on := 2, ground := Ground.phase }, { on := 3, ground := Ground.phase }, { on := 4, ground := Ground.phase }, { on := 5, ground := Ground.phase }, { on := 6, ground := Ground.phase }, { on := 7, ground := Ground.phase }], guard := none } : Oper)) (v := ?_) rfl (by kernel_rfl) (by kernel_rfl) (by kernel_rfl) (fun _ _ _ h => h) (Or.inl ⟨by kernel_rfl, ?_⟩) (by assumption) ?_
      rotate_left
      · intro w hSw
        try dsimp only at hSw
        go_simp
        try with_reducible rfl
      try simp only [Act.put, List.setIfInBounds_toArray, List.set_cons_zero, List.set_cons_succ]
      refine wpAnyH_ready (rs := [10]) (by kernel_rfl) (by simp) ?_
      refine AllReadyH.cons (o := ({ dst := none, op := Op.store 141 (Operand.tmp 25) (Operand.tmp 23), type := 0, pos := "earley.go:25", after := #[{ on := 9, ground := Ground.data }, { on := 7, ground := Ground.data }, { on := 7, ground := Ground.chain }, { on := 0, ground := Ground.phase }, { on := 1, ground := Ground.phase }, { on := 2, ground := Ground.phase }, { on := 3, ground := Ground.phase }, { on := 4, ground := Ground.phase }, { on := 5, ground := Ground.phase }, { on := 6, ground := Ground.phase }, { on := 7, ground := Ground.phase }], guard := none } : Oper)) rfl (fun K hK => ?_) AllReadyH.nil
      go_simp
      refine hK.out _ _ (HS.out _ HbC.out) (fun hH2 => ?_)
      clear hK K hHeld
      have hHeld := hH2
      clear hH2
      try simp only [Act.put, List.setIfInBounds_toArray, List.set_cons_zero, List.set_cons_succ]
      refine wpAnyH_done (by kernel_rfl) ?_ _
      go_wp2_with fail
      refine bodyPost_end (results_none rfl _ _ _) rfl ?_
      exact ⟨_, rfl, Hfin.out.1, Hfin.out.2.1, Hfin.out.2.2⟩
    · refine AllReadyH.cons (o := ({ dst := some 22, op := Op.buildSlice 141 1 #[(0, Operand.tmp 21)], type := 141, pos := "earley.go:25", after := #[{ on := 5, ground := Ground.data }], guard := none } : Oper)) rfl (fun K hK => ?_) AllReadyH.nil
      go_simp
      refine hK.out _ _ (HS.out _ HbA.out) (fun hH2 => ?_)
      clear hK K hHeld
      have hHeld := hH2
      clear hH2
      try simp only [Act.put, List.setIfInBounds_toArray, List.set_cons_zero, List.set_cons_succ]
      refine wpAnyH_ready (rs := [4]) (by kernel_rfl) (by simp) ?_
      refine AllReadyH.cons (o := ({ dst := some 20, op := Op.load 141 (Operand.tmp 19), type := 141, pos := "earley.go:25", after := #[{ on := 3, ground := Ground.data }], guard := none } : Oper)) rfl (fun K hK => ?_) AllReadyH.nil
      go_simp
      refine hK.out _ _ (HS.out _ HbA.out) (fun hH2 => ?_)
      clear hK K hHeld
      have hHeld := hH2
      clear hH2
      try simp only [Act.put, List.setIfInBounds_toArray, List.set_cons_zero, List.set_cons_succ]
      refine wpAnyH_ready (rs := [7]) (by kernel_rfl) (by simp) ?_
      refine AllReadyH.cons (o := ({ dst := some 23, op := Op.call { callee := Callee.builtin Builtin.append, args := #[Operand.tmp 20, Operand.tmp 22], argTypes := #[141, 141] }, type := 141, pos := "earley.go:25", after := #[{ on := 4, ground := Ground.data }, { on := 6, ground := Ground.data }], guard := none } : Oper)) rfl (fun K hK => ?_) AllReadyH.nil
      refine step_append_run rfl _ _ _ rfl vl (.slice (some ⟨W0.heap.size, 0, none⟩) 1 1) (.slice (some ⟨g5, 0, none⟩) (M + 1) c5) w5 (by go_simp) (by go_simp) Hrun.out ?_
      refine hK.out _ _ (HS.out _ HbB.out) (fun hH2 => ?_)
      clear hK K hHeld
      have hHeld := hH2
      clear hH2
      try simp only [Act.put, List.setIfInBounds_toArray, List.set_cons_zero, List.set_cons_succ]
      refine wpAnyH_take (i := 8) (oi := ({ dst := some 24, op := Op.nilCheck (Operand.tmp 16), type := 0, pos := "earley.go:25", after := #[{ on := 0, ground := Ground.data }, { on := 0, ground := Ground.phase }, { on := 1, ground := Ground.phase }, { on := 2, ground := Ground.phase }, { on := 3, ground := Ground.phase }, { on := 4, ground := Ground.phase }, { on := 5, ground := Ground.phase }, { on := 6, ground := Ground.phase }, { on := 7, ground := Ground.phase }], guard := none } : Oper)) (v := ?_) rfl (by kernel_rfl) (by kernel_rfl) (by kernel_rfl) (fun _ _ _ h => h) (Or.inl ⟨by kernel_rfl, ?_⟩) (by assumption) ?_
      rotate_left
      · intro w hSw
        try dsimp only at hSw
        go_simp
        try with_reducible rfl
      try simp only [Act.put, List.setIfInBounds_toArray, List.set_cons_zero, List.set_cons_succ]
      refine wpAnyH_take (i := 9) (oi := ({ dst := some 25, op := Op.fieldAddr 143 (Operand.tmp 24) 0, type := 0, pos := "earley.go:25", after := #[{ on := 8, ground := Ground.data }, { on := 0, ground := Ground.phase }, { on := 1, ground := Ground.phase }, { on := 2, ground := Ground.phase }, { on := 3, ground := Ground.phase }, { on := 4, ground := Ground.phase }, { on := 5, ground := Ground.phase }, { on := 6, ground := Ground.phase }, { on := 7, ground := Ground.phase }], guard := none } : Oper)) (v := ?_) rfl (by kernel_rfl) (by kernel_rfl) (by kernel_rfl) (fun _ _ _ h => h) (Or.inl ⟨by kernel_rfl, ?_⟩) (by assumption) ?_
      rotate_left
      · intro w hSw
        try dsimp only at hSw
        go_simp
        try with_reducible rfl
      try simp only [Act.put, List.setIfInBounds_toArray, List.set_cons_zero, List.set_cons_succ]
      refine wpAnyH_ready (rs := [10]) (by kernel_rfl) (by simp) ?_
      refine AllReadyH.cons (o := ({ dst := none, op := Op.store 141 (Operand.tmp 25) (Operand.tmp 23), type := 0, pos := "earley.go:25", after := #[{ on := 9, ground := Ground.data }, { on := 7, ground := Ground.data }, { on := 7, ground := Ground.chain }, { on := 0, ground := Ground.phase }, { on := 1, ground := Ground.phase }, { on := 2, ground := Ground.phase }, { on := 3, ground := Ground.phase }, { on := 4, ground := Ground.phase }, { on := 5, ground := Ground.phase }, { on := 6, ground := Ground.phase }, { on := 7, ground := Ground.phase }], guard := none } : Oper)) rfl (fun K hK => ?_) AllReadyH.nil
      go_simp
      refine hK.out _ _ (HS.out _ HbC.out) (fun hH2 => ?_)
      clear hK K hHeld
      have hHeld := hH2
      clear hH2
      try simp only [Act.put, List.setIfInBounds_toArray, List.set_cons_zero, List.set_cons_succ]
      refine wpAnyH_done (by kernel_rfl) ?_ _
      go_wp2_with fail
      refine bodyPost_end (results_none rfl _ _ _) rfl ?_
      exact ⟨_, rfl, Hfin.out.1, Hfin.out.2.1, Hfin.out.2.2⟩
end Ed
end Go.Proofs.Ytaehooafdbaomaa
