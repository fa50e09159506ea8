/- Chapter 17 (earley): step, next, Clone of items: walks. -/
import Derived.Test.YtaehooafdbaomaaEar1
import Derived.Test.YtaehooafdbaomaaGin
namespace Go.Proofs.Ytaehooafdbaomaa
open Go.RowKit
attribute [local go_sem ↓] Go.wp_at_zero Go.wp_at_succ
attribute [local go_sem] frozen_alloc_lt
namespace Ed

set_option maxHeartbeats 4000000 in
theorem step_calls (w : World) (p d f : Nat) (hd : d ≤ 1000000) :
    Calls Try.prog 120 #[.agg #[.int .i64 (p : Int), .int .i64 (d : Int), .int .i64 (f : Int)]] w fun e w' => e = .returned (.agg #[.int .i64 (p : Int), .int .i64 ((d + 1 : Nat) : Int), .int .i64 (f : Int)]) ∧ Below w.heap.size w w' := by
  have hdI : (d : Int) ≤ 1000000 := by omega
  have e1 : (d : Int) + 1 = ((d + 1 : Nat) : Int) := by omega
  obtain ⟨d', hd'⟩ : ∃ d' : Int, d' = (d : Int) := ⟨_, rfl⟩
  rw [← hd'] at hdI e1 ⊢
  have hd0 : (0 : Int) ≤ d' := by omega
  rw [← e1]
  have hb : Below w.heap.size w ((w.alloc (.cells #[.int .i64 (p : Int), .int .i64 d', .int .i64 (f : Int)] 146)).alloc (.cells #[.int .i64 (p : Int), .int .i64 (d' + 1), .int .i64 (f : Int)] 146)) := bel_al (bel_al (bel_id w) _) _
  have hk := bk_at (Bk.new (w.alloc (.cells #[.int .i64 (p : Int), .int .i64 d', .int .i64 (f : Int)] 146)) 146 [.int .i64 (p : Int), .int .i64 (d' + 1), .int .i64 (f : Int)]) (show _ = w.heap.size + 1 by simp)
  have Hb := hid (And.intro hb hk)
  clear hb hk hd' e1 hd
  go_enter Try.func120, Try.ntmps120
  go_wp2_with fail
  obtain ⟨hb, hk⟩ := Hb.out
  have c0 := hk.cell 0
  have c1 := hk.cell 1
  have c2 := hk.cell 2
  simp only [List.getElem?_cons_zero, List.getElem?_cons_succ] at c0 c1 c2
  refine bodyPost_ret (v := .agg #[.int .i64 (p : Int), .int .i64 (d' + 1), .int .i64 (f : Int)]) (by simp [results, Try.results120, go_sem, c0, c1, c2]) rfl ⟨rfl, hb⟩
/-- What next answers. -/
def nxV : Option Int → Value
  | some s => .tuple #[.int .i64 s, .bool true]
  | none => .tuple #[.int .i64 0, .bool false]
set_option maxHeartbeats 4000000 in
theorem next_calls (w : World) (c : Nat) (G : Gr) (gn gt gp : Option Addr) (cp : Nat) (hg : GIn w G gn gt gp) (hc : w.cell? ⟨c, 4, none⟩ = some (.slice gp G.prods.length cp)) (p d f : Nat) (l : Int) (R : List Int) (hp : G.prods[p]? = some (l, R)) (hd : d ≤ R.length) (hR : R.length ≤ 1000000) (hP : G.prods.length ≤ 1000000) :
    Calls Try.prog 91 #[.pointer (some ⟨c, 0, none⟩), .agg #[.int .i64 (p : Int), .int .i64 (d : Int), .int .i64 (f : Int)]] w fun e w' => e = .returned (nxV R[d]?) ∧ Below w.heap.size w w' := by
  have hpl := (List.getElem?_eq_some_iff.1 hp).1
  obtain ⟨g, off, gR, cR, rfl, hgl, hcl, hcr, hrr⟩ := hg.p p _ hp
  have hb1 : Below w.heap.size w (w.alloc (.cells #[.int .i64 (p : Int), .int .i64 (d : Int), .int .i64 (f : Int)] 146)) := bel_al (bel_id w) _
  have hk1 := Bk.new w 146 [.int .i64 (p : Int), .int .i64 (d : Int), .int .i64 (f : Int)]
  go_enter Try.func91, Try.ntmps91
  go_upto_region 1 with fail
  obtain ⟨w1, hw1⟩ : ∃ w1, w1 = w.alloc (.cells #[.int .i64 (p : Int), .int .i64 (d : Int), .int .i64 (f : Int)] 146) := ⟨_, rfl⟩
  obtain ⟨bx, hbx⟩ : ∃ bx, bx = w.heap.size := ⟨_, rfl⟩
  rw [← hw1] at hb1 hk1 ⊢
  rw [← hbx] at hk1 ⊢
  have x0 := hk1.cell 0
  have x1 := hk1.cell 1
  simp only [List.getElem?_cons_zero, List.getElem?_cons_succ] at x0 x1
  have hc1 := (hb1.cell (p := ⟨c, 4, none⟩) (World.block_lt_of_cell? w _ hc)).trans hc
  have hcr1 := (hb1.cell (p := ⟨g, off + p * 2 + 1, none⟩) hgl).trans hcr
  have hrr1 := hrr.below hb1
  have hpI : (p : Int) < (G.prods.length : Int) := by omega
  have hp0 : (0 : Int) ≤ (p : Int) := by omega
  have hRI : (R.length : Int) ≤ 1000000 := by omega
  have hPI : (G.prods.length : Int) ≤ 1000000 := by omega
  have Hb1 := hid hb1
  clear hw1 hbx hc hcl hcr hrr hb1 hk1 hp hpl hgl hg hR hP
  by_cases hdR : d < R.length
  · have hdI : (d : Int) < (R.length : Int) := by omega
    have hd0 : (0 : Int) ≤ (d : Int) := by omega
    have hne : ((d : Int) == (R.length : Int)) = false := by simp; omega
    obtain ⟨s, hs⟩ : ∃ s, s = R[d] := ⟨_, rfl⟩
    obtain ⟨g2, o2, rfl, -, hc2⟩ := hrr1.at hdR
    rw [← hs] at hc2
    have he : R[d]? = some s := by rw [hs]; exact List.getElem?_eq_getElem hdR
    have He := hid he
    clear hs he hrr1 hd hdR
    go_region
    go_wp2_with fail
    go_ret2
    rw [He.out]
    exact ⟨rfl, Hb1.out.drew⟩
  · have hne : ((d : Int) == (R.length : Int)) = true := by simp; omega
    have he : R[d]? = none := List.getElem?_eq_none (by omega)
    have He := hid he
    clear he hrr1 hd hdR
    go_region
    go_wp2_with fail
    go_ret2
    rw [He.out]
    exact ⟨rfl, Hb1.out.drew⟩
/-- A row of items, read. -/
def RowE (w : World) (ga : Option Addr) (X : List Itm) : Prop := ∀ i x, X[i]? = some x → ∃ g, ga = some ⟨g, 0, none⟩ ∧ g < w.heap.size ∧ w.cell? ⟨g, i * 3, none⟩ = some (.int .i64 x.1) ∧ w.cell? ⟨g, i * 3 + 1, none⟩ = some (.int .i64 x.2.1) ∧ w.cell? ⟨g, i * 3 + 2, none⟩ = some (.int .i64 x.2.2)
theorem RowE.later {w w' : World} {ga : Option Addr} {X : List Itm} (h : RowE w ga X) (hb : Below w.heap.size w w') : RowE w' ga X := fun i x hx => by
  obtain ⟨g, h1, h2, h3, h4, h5⟩ := h i x hx
  exact ⟨g, h1, Nat.lt_of_lt_of_le h2 hb.size, (hb.cell (p := ⟨g, _, none⟩) h2).trans h3, (hb.cell (p := ⟨g, _, none⟩) h2).trans h4, (hb.cell (p := ⟨g, _, none⟩) h2).trans h5⟩
theorem own_rowE {w : World} {B : Nat} {v : Value} {X : List Itm} (h : OwnA ItR 3 w B 146 v X) : ∃ ga cap, v = .slice ga X.length cap ∧ RowE w ga X ∧ ∀ g, ga = some ⟨g, 0, none⟩ → X ≠ [] → B ≤ g ∧ g < w.heap.size := by
  obtain ⟨ga, cap, hv, hl⟩ := h.lies ItR.fit
  refine ⟨ga, cap, hv, fun i x hx => ?_, fun g hg hX => ?_⟩
  · obtain ⟨g, y, h1, _, h3, h4, h5⟩ := hl i x hx
    have e : y = itC x := h4
    subst e
    exact ⟨g, h1, h3, h5 0 _ rfl, h5 1 _ rfl, h5 2 _ rfl⟩
  · cases X with
    | nil => exact absurd rfl hX
    | cons x r =>
      obtain ⟨g', y, h1, h2, h3, -, -⟩ := hl 0 x rfl
      rw [hg] at h1
      injection h1 with h1
      injection h1 with h1
      subst h1
      exact ⟨h2, h3⟩
theorem flat_at : ∀ (X : List Itm) (i : Nat) (x : Itm), X[i]? = some x → (X.flatMap itC)[i * 3]? = some (.int .i64 x.1) ∧ (X.flatMap itC)[i * 3 + 1]? = some (.int .i64 x.2.1) ∧ (X.flatMap itC)[i * 3 + 2]? = some (.int .i64 x.2.2)
  | y :: r, 0, x, h => by
    simp at h
    subst h
    exact ⟨rfl, rfl, rfl⟩
  | y :: r, i + 1, x, h => by
    have := flat_at r i x (by simpa using h)
    rw [List.flatMap_cons, show (i + 1) * 3 = i * 3 + 3 by omega]
    show (itC y ++ r.flatMap itC)[i * 3 + 3]? = _ ∧ (itC y ++ r.flatMap itC)[i * 3 + 3 + 1]? = _ ∧ (itC y ++ r.flatMap itC)[i * 3 + 3 + 2]? = _
    have hl : (itC y).length = 3 := rfl
    rw [List.getElem?_append_right (by omega), List.getElem?_append_right (by omega), List.getElem?_append_right (by omega), hl, show i * 3 + 3 - 3 = i * 3 by omega, show i * 3 + 3 + 1 - 3 = i * 3 + 1 by omega, show i * 3 + 3 + 2 - 3 = i * 3 + 2 by omega]
    exact this
theorem flat_len (X : List Itm) : (X.flatMap itC).length = X.length * 3 := by
  induction X with
  | nil => rfl
  | cons x r ih => rw [List.flatMap_cons, List.length_append, ih, List.length_cons]; show 3 + _ = _; omega
theorem flat_row {w : World} {g : Nat} {X : List Itm} (h : RowE w (some ⟨g, 0, none⟩) X) : ∀ j u, (X.flatMap itC)[j]? = some u → w.cell? ⟨g, j, none⟩ = some u := by
  intro j u hj
  have hjl : j < X.length * 3 := by rw [← flat_len]; exact (List.getElem?_eq_some_iff.1 hj).1
  obtain ⟨x, hx⟩ : ∃ x, X[j / 3]? = some x := ⟨_, List.getElem?_eq_getElem (by omega)⟩
  obtain ⟨f0, f1, f2⟩ := flat_at X _ x hx
  obtain ⟨g', hg', _, c0, c1, c2⟩ := h _ x hx
  injection hg' with hg'
  injection hg' with hg'
  subst hg'
  have hm : j % 3 = 0 ∨ j % 3 = 1 ∨ j % 3 = 2 := by omega
  rcases hm with hm | hm | hm
  · rw [show j / 3 * 3 = j by omega] at f0 c0
    rw [f0] at hj; rw [c0, ← hj]
  · rw [show j / 3 * 3 + 1 = j by omega] at f1 c1
    rw [f1] at hj; rw [c1, ← hj]
  · rw [show j / 3 * 3 + 2 = j by omega] at f2 c2
    rw [f2] at hj; rw [c2, ← hj]
set_option maxHeartbeats 4000000 in
theorem cloneE_calls (w : World) (g cap : Nat) (X : List Itm) (h : RowE w (some ⟨g, 0, none⟩) X) (hne : X ≠ []) (hX : X.length ≤ 1000000) :
    Calls Try.prog 119 #[.slice (some ⟨g, 0, none⟩) X.length cap] w fun e w' => ∃ g' cap', e = .returned (.slice (some ⟨g', 0, none⟩) X.length cap') ∧ RowE w' (some ⟨g', 0, none⟩) X ∧ w.heap.size ≤ g' ∧ Below w.heap.size w w' := by
  obtain ⟨ii, hii, z0, z1, z2⟩ := info_parts itInfo
  have hpos : 0 < X.length := List.length_pos_iff.2 hne
  have hb : Below w.heap.size w (w.alloc (.cells #[] 146)) := bel_al (bel_id w) _
  obtain ⟨g5, c5, w5, hrun, hown, hgr, hat, hlt⟩ := run_append_lies (P := Try.prog) (w.alloc (.cells #[] 146)) 141 141 w.heap.size 146 ii (.agg #[.int .i64 0, .int .i64 0, .int .i64 0]) 3 24 Try.underlying141 hii z0 z1 z2 rfl (by omega) (.slice (some ⟨w.heap.size, 0, none⟩) 0 0) 0 []
    ⟨rfl, .inr ⟨w.heap.size, 0, #[], rfl, Nat.le_refl _, heap_alloc_new _ _, Nat.le_refl _, by unfold maxLen; omega, by simp, by simp⟩⟩
    ⟨g, 0, none⟩ X.length cap (X.flatMap itC) (flat_len X) (fun j u hj => by rw [addr_add0]; exact flat_row (h.later hb) j u hj) (fun u hu => by
      obtain ⟨x, _, hx⟩ := List.mem_flatMap.1 hu
      exact ItR.fit.one (w := w) (D := fun _ => True) (a := x) rfl u hx) hpos (by unfold maxLen; omega) (by omega) hb.size (w.heap.size + 1) (by simp)
  rw [Nat.zero_add] at hrun hown
  rw [List.nil_append] at hown
  have hbw : Below w.heap.size w w5 := hb.grown hgr (by simp) (fun k hk => by
    have e : w.heap.size = k := by simpa [Value.ownBlock] using hk
    omega)
  have hrow : RowE w5 (some ⟨g5, 0, none⟩) X := fun i x hx => by
    obtain ⟨ga', cap', hv, hc⟩ := own_slice hown
    injection hv with hv1 _ _
    obtain ⟨f0, f1, f2⟩ := flat_at X i x hx
    obtain ⟨k0, e0, _, l0, d0⟩ := hc _ _ f0
    obtain ⟨k1, e1, _, _, d1⟩ := hc _ _ f1
    obtain ⟨k2, e2, _, _, d2⟩ := hc _ _ f2
    rw [← hv1] at e0 e1 e2
    injection e0 with e0
    injection e0 with e0
    injection e1 with e1
    injection e1 with e1
    injection e2 with e2
    injection e2 with e2
    subst e0
    subst e1
    subst e2
    exact ⟨g5, rfl, l0, d0, d1, d2⟩
  obtain ⟨n, hn⟩ : ∃ n, n = X.length := ⟨_, rfl⟩
  rw [← hn] at hrun ⊢
  have hfresh : w.heap.size ≤ g5 := by
    rcases hat with h | h
    · have e : w.heap.size = g5 := by simpa [Value.ownBlock] using h
      omega
    · omega
  have Hfin := hid (And.intro hrow (And.intro hfresh hbw))
  have hne2 := Lib.run_eql_slice_nil (P := Try.prog)
  clear hown hgr hat hlt hbw hrow hb h hpos hn hX hfresh
  go_enter Try.func119, Try.ntmps119
  go_wp2_with (at_builtin; refine wpList_append_run rfl _ _ _ rfl (.slice (some ⟨w.heap.size, 0, none⟩) 0 0) (.slice (some ⟨g, 0, none⟩) n cap) (.slice (some ⟨g5, 0, none⟩) n c5) w5 (by rfl) (by rfl) (by exact hrun) ?_)
  go_ret
  exact ⟨g5, c5, rfl, Hfin.out.1, Hfin.out.2⟩
end Ed
end Go.Proofs.Ytaehooafdbaomaa
