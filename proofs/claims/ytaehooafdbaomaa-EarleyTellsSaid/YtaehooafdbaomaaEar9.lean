/- Chapter 17 (earley): slices.ContainsFunc at items; Ends, Yes: walks. -/
import Derived.Test.YtaehooafdbaomaaEar8
namespace Go.Proofs.Ytaehooafdbaomaa
open Go.RowKit
attribute [local go_sem ↓] Go.wp_at_zero Go.wp_at_succ
attribute [local go_sem] frozen_alloc_lt
namespace Ed

def idxE (f : Itm → Bool) : List Itm → Int → Int
  | [], _ => -1
  | z :: r, i => if f z then i else idxE f r (i + 1)
theorem idxE_any (f : Itm → Bool) : ∀ (zs : List Itm) (i : Int), 0 ≤ i → decide (0 ≤ idxE f zs i) = zs.any f
  | [], i, _ => by simp [idxE]
  | z :: r, i, hi => by
    unfold idxE
    by_cases h : f z = true
    · simp [h, hi]
    · simp only [h, if_false, List.any_cons, Bool.false_or, Bool.false_eq_true]
      simp only [Bool.not_eq_true] at h
      exact idxE_any f r (i + 1) (by omega)
def IdxEAt (f : Itm → Bool) (zs : List Itm) (res : Int) (w0 : World) (k : Nat) (v8 : Value) (w : World) : Prop :=
  ∃ i : Nat, v8 = .int .i64 i ∧ i ≤ zs.length ∧ idxE f (zs.drop i) i = res ∧ k = zs.length - i ∧ Below w0.heap.size w0 w
set_option maxHeartbeats 2000000 in
theorem indexE_calls (w : World) (ga : Option Addr) (cap : Nat) (zs : List Itm) (F : Nat) (c : Value) (f : Itm → Bool) (hr : RowE w ga zs) (hl : zs.length ≤ 1000000)
    (eg : ∀ args w, (callFunc F args).run Try.prog w = .ok (.enter F args) w) (hp : ∀ z ∈ zs, ∀ w1, Below w.heap.size w w1 → Calls Try.prog F #[.agg #[.int .i64 (z.1 : Int), .int .i64 (z.2.1 : Int), .int .i64 (z.2.2 : Int)], c] w1 fun e w' => e = .returned (.bool (f z)) ∧ Below w1.heap.size w1 w') :
    Calls Try.prog 121 #[.slice ga zs.length cap, .func (.func F) #[] #[c]] w fun e w' => e = .returned (.int .i64 (idxE f zs 0)) ∧ Below w.heap.size w w' := by
  generalize hres : idxE f zs 0 = res
  have Hres := hid hres
  have Hp := hid hp
  clear hres hp
  go_enter Try.func121, Try.ntmps121
  go_wp2_with fail
  go_loopg [8] zs.length (fun k v8 wr => IdxEAt f zs res w k v8 wr)
  case atStart => exact ⟨0, rfl, Nat.zero_le _, by rw [List.drop_zero]; exact Hres.out, rfl, Below.refl _ _⟩
  case round =>
    obtain ⟨i, rfl, hi, hx, hk, hb⟩ := hrel
    have Hk := hid hk
    have Hx := hid hx
    have Hb := hid hb
    clear hk hx hb
    by_cases hlt : i < zs.length
    · have hlt' : (i : Int) < (zs.length : Int) := by omega
      obtain ⟨z, hz⟩ : ∃ z, z = zs[i] := ⟨_, rfl⟩
      have hze : zs[i]? = some z := by rw [hz]; exact List.getElem?_eq_getElem hlt
      obtain ⟨g, rfl, hg, d0, d1, d2⟩ := (hr.later Hb.out) i z hze
      have hpz := Hp.out z (List.mem_of_getElem? hze) wr Hb.out
      have hx := Hx.out
      rw [List.drop_eq_getElem_cons hlt, idxE, ← hz] at hx
      have Hpz := hid hpz
      clear hz hze Hx hpz
      by_cases hf : f z = true
      · rw [if_pos hf] at hx
        have Hx := hid hx
        rw [hf] at Hpz
        clear hx
        go_wp2_with ((with_reducible refine (Hid.out Hpz).mono ?_); rintro e w1 ⟨rfl, hb1⟩)
        go_ret
        rw [← Hx.out]
        exact ⟨rfl, belw Hb.out hb1⟩
      · rw [if_neg hf] at hx
        have Hx := hid hx
        rw [show f z = false by simpa using hf] at Hpz
        clear hx
        go_wp2_with ((with_reducible refine (Hid.out Hpz).mono ?_); rintro e w1 ⟨rfl, hb1⟩)
        go_roundg (zs.length - (i + 1))
        case measure => have hk := Hk.out; omega
        case rel => exact ⟨i + 1, by go_num, by omega, by rw [Int.natCast_add]; exact Hx.out, rfl, belw Hb.out hb1⟩
    · have hge : ¬ (i : Int) < (zs.length : Int) := by omega
      have hx := Hx.out
      rw [List.drop_eq_nil_of_le (by omega), idxE] at hx
      have Hx := hid hx
      clear hx
      go_wp2_with fail
      go_ret
      rw [← Hx.out]
      exact ⟨rfl, Hb.out⟩
set_option maxHeartbeats 1000000 in
theorem containsE_calls (w : World) (ga : Option Addr) (cap : Nat) (zs : List Itm) (F : Nat) (c : Value) (f : Itm → Bool) (hr : RowE w ga zs) (hl : zs.length ≤ 1000000)
    (eg : ∀ args w, (callFunc F args).run Try.prog w = .ok (.enter F args) w) (hp : ∀ z ∈ zs, ∀ w1, Below w.heap.size w w1 → Calls Try.prog F #[.agg #[.int .i64 (z.1 : Int), .int .i64 (z.2.1 : Int), .int .i64 (z.2.2 : Int)], c] w1 fun e w' => e = .returned (.bool (f z)) ∧ Below w1.heap.size w1 w') :
    Calls Try.prog 89 #[.slice ga zs.length cap, .func (.func F) #[] #[c]] w fun e w' => e = .returned (.bool (zs.any f)) ∧ Below w.heap.size w w' := by
  have Hres := hid (idxE_any f zs 0 (by omega))
  have Hp := hid hp
  have Heg := hid eg
  clear hp eg
  go_enter Try.func89, Try.ntmps89
  go_wp2_with (go_at_call 121; refine (indexE_calls w ga cap zs F c f hr hl Heg.out Hp.out).mono ?_; rintro e w1 ⟨rfl, hb1⟩)
  go_ret
  rw [← Hres.out]
  exact ⟨rfl, hb1⟩
/-- An item that is whole, of the start's, from the word's beginning. -/
def endB (st : Int) (l : Int) (R : List Int) (d f : Nat) : Bool := (R[d]?).isNone && (decide (f = 0) && decide (l = st))
set_option maxHeartbeats 4000000 in
set_option maxRecDepth 8000 in
theorem ends1_calls (w : World) (b c : Nat) (G : Gr) (gn gt gp : Option Addr) (cp : Nat) (hg : GIn w G gn gt gp) (hb : w.cell? ⟨b, 0, none⟩ = some (.pointer (some ⟨c, 0, none⟩))) (hc0 : w.cell? ⟨c, 0, none⟩ = some (.int .i64 G.start)) (hc : w.cell? ⟨c, 4, none⟩ = some (.slice gp G.prods.length cp)) (p d f : Nat) (l : Int) (R : List Int) (hp : G.prods[p]? = some (l, R)) (hd : d ≤ R.length) (hR : R.length ≤ 1000000) (hP : G.prods.length ≤ 1000000) (hf : f ≤ 1000000) :
    Calls Try.prog 90 #[.agg #[.int .i64 (p : Int), .int .i64 (d : Int), .int .i64 (f : Int)], .pointer (some ⟨b, 0, none⟩)] w fun e w' => e = .returned (.bool (endB G.start l R d f)) ∧ Below w.heap.size w w' := by
  have hpl := (List.getElem?_eq_some_iff.1 hp).1
  have hb1 : Below w.heap.size w (w.alloc (.cells #[.int .i64 (p : Int), .int .i64 (d : Int), .int .i64 (f : Int)] 146)) := bel_al (bel_id w) _
  have hk1 := Bk.new w 146 [.int .i64 (p : Int), .int .i64 (d : Int), .int .i64 (f : Int)]
  have Hp := hid hp
  have Hg := hid hg
  have Hl := hid (And.intro (World.block_lt_of_cell? w _ hb) (World.block_lt_of_cell? w _ hc))
  have Hcs := hid (And.intro hb (And.intro hc0 hc))
  clear hp hg hb hc0 hc
  go_enter Try.func90, Try.ntmps90
  go_upto_region 1 with fail
  obtain ⟨w1, hw1⟩ : ∃ w1, w1 = w.alloc (.cells #[.int .i64 (p : Int), .int .i64 (d : Int), .int .i64 (f : Int)] 146) := ⟨_, rfl⟩
  obtain ⟨bx, hbx⟩ : ∃ bx, bx = w.heap.size := ⟨_, rfl⟩
  rw [← hw1] at hb1 hk1 ⊢
  rw [← hbx] at hk1 ⊢
  clear hw1 hbx
  have x0 := hk1.cell 0
  have x1 := hk1.cell 1
  have x2 := hk1.cell 2
  simp only [List.getElem?_cons_zero, List.getElem?_cons_succ] at x0 x1 x2
  have e0 := (hb1.cell (p := ⟨b, 0, none⟩) Hl.out.1).trans Hcs.out.1
  have e4 := (hb1.cell (p := ⟨c, 4, none⟩) Hl.out.2).trans Hcs.out.2.2
  have hG1 := Hg.out.later hb1
  have Hb1 := hid hb1
  have Hk1 := hid hk1
  clear hb1 hk1
  have hpI : (p : Int) < (G.prods.length : Int) := by omega
  have hp0 : (0 : Int) ≤ (p : Int) := by omega
  cases hq : R[d]? with
  | some sy =>
    have he : endB G.start l R d f = false := by simp [endB, hq]
    have Hq := hid hq
    have He := hid he
    clear hq he
    go_upto_region 2 with (go_at_call 91; refine (next_calls w1 c G gn gt gp cp hG1 e4 p d f l R Hp.out hd hR hP).mono ?_; rintro e w2 ⟨he, hb2⟩; rw [Hq.out] at he; simp only [nxV] at he; subst he)
    have Hb2 := hid (belw Hb1.out hb2)
    clear hb2 hG1 e4 e0 x0 x1 x2
    first | go_region | skip
    go_wp2_with fail
    go_ret
    rw [He.out]
    first | exact ⟨rfl, Hb2.out⟩ | exact ⟨rfl, Hb2.out.drew⟩
  | none =>
    have Hq := hid hq
    have hqn : (R[d]?).isNone = true := by rw [hq]; rfl
    have Hqn := hid hqn
    clear hq hqn
    go_upto_region 2 with (go_at_call 91; refine (next_calls w1 c G gn gt gp cp hG1 e4 p d f l R Hp.out hd hR hP).mono ?_; rintro e w2 ⟨he, hb2⟩; rw [Hq.out] at he; simp only [nxV] at he; subst he)
    have hb02 := belw Hb1.out hb2
    have Hb2 := hid hb02
    have hk2 := Hk1.out.below hb2 Hk1.out.lt
    have y0 := hk2.cell 0
    have y2 := hk2.cell 2
    simp only [List.getElem?_cons_zero, List.getElem?_cons_succ] at y0 y2
    have f0 := (hb02.cell (p := ⟨b, 0, none⟩) Hl.out.1).trans Hcs.out.1
    have f1 := (hb02.cell (p := ⟨c, 0, none⟩) Hl.out.2).trans Hcs.out.2.1
    have f4 := (hb02.cell (p := ⟨c, 4, none⟩) Hl.out.2).trans Hcs.out.2.2
    obtain ⟨g7, off7, gR7, cR7, rfl, hgl7, hcl7, -, -⟩ := (Hg.out.later hb02).p p _ Hp.out
    clear hb2 hG1 e4 e0 x0 x1 x2 hb02 hk2
    by_cases hf0 : f = 0
    · subst hf0
      by_cases hls : l = G.start
      · have hE : (l == G.start) = true := by simp [hls]
        have He := hid (show endB G.start l R d 0 = true by simp [endB, Hqn.out, hls])
        have Hls := hid hls
        clear hls
        first | go_region | skip
        go_wp2_with fail
        go_ret
        rw [He.out]
        first | exact ⟨rfl, Hb2.out⟩ | exact ⟨rfl, Hb2.out.drew⟩
      · have hE : (l == G.start) = false := by simp [hls]
        have He := hid (show endB G.start l R d 0 = false by simp [endB, Hqn.out, hls])
        have Hls := hid hls
        clear hls
        first | go_region | skip
        go_wp2_with fail
        go_ret
        rw [He.out]
        first | exact ⟨rfl, Hb2.out⟩ | exact ⟨rfl, Hb2.out.drew⟩
    · have hE : ((f : Int) == 0) = false := by simp; omega
      have hE2 : (f == 0) = false := by simp; omega
      have He := hid (show endB G.start l R d f = false by simp [endB, hf0])
      clear hf0
      first | go_region | skip
      go_wp2_with fail
      go_ret
      rw [He.out]
      first | exact ⟨rfl, Hb2.out⟩ | exact ⟨rfl, Hb2.out.drew⟩
end Ed
end Go.Proofs.Ytaehooafdbaomaa
