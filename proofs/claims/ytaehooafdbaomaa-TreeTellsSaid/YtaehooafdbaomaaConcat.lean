/- slices.Grow of nil, slices.Concat of rows of ints. -/
import Derived.Test.YtaehooafdbaomaaTreeB
import Derived.Shelf.Spec.SlicesGrow
namespace Go.Proofs.Ytaehooafdbaomaa
open Go.RowKit Go.Shelf
attribute [local go_sem ↓] Go.wp_at_zero Go.wp_at_succ
attribute [local go_sem] frozen_alloc_lt

def growI_ren : Go.Shelf.Ren := ⟨fun | 4 => 105 | n => n, fun | 0 => 0 | 3 => 3 | 4 => 4 | 9 => 9 | 20 => 20 | 22 => 22 | 25 => 3 | n => n, fun n => n⟩
theorem growI4 : Lays8.n4 Try.prog growI_ren := {
  mixed := by kernel_rfl
  f4 := ⟨Try.f105.name, by decide, Try.func105.trans (by kernel_rfl)⟩
  t0 := Try.underlying0
  a0 := Try.isAgg0
  z0 := Try.sizeOf0
  v0 := Try.zeroValue0
  t3 := Try.underlying3
  a3 := Try.isAgg3
  z3 := Try.sizeOf3
  v3 := Try.zeroValue3
  t4 := Try.underlying4
  a4 := Try.isAgg4
  z4 := Try.sizeOf4
  v4 := Try.zeroValue4
  t9 := Try.underlying9
  a9 := Try.isAgg9
  z9 := Try.sizeOf9
  v9 := Try.zeroValue9
  t20 := Try.underlying20
  a20 := Try.isAgg20
  z20 := Try.sizeOf20
  v20 := Try.zeroValue20
  t22 := Try.underlying22
  a22 := Try.isAgg22
  z22 := Try.sizeOf22
  v22 := Try.zeroValue22 }
/-- slices.Grow(nil, n): an own row, empty. -/
theorem growNil (n : Nat) (w : World) (hn : n ≤ 1000000000000) : Calls Try.prog 105 #[.slice none 0 0, .int .i64 n] w fun e w' => ∃ v, e = .returned v ∧ w'.ownsRow w.heap.size 3 1 v 0 [] ∧ Below w.heap.size w w' := by
  by_cases h0 : n = 0
  · subst h0
    refine (Any8.slices_Grow_room growI4 none 0 0 0 w (by omega) (by omega) (by omega) (by omega)).mono ?_
    rintro e w' ⟨rfl, rfl⟩
    exact ⟨_, rfl, ⟨rfl, .inl ⟨rfl, rfl⟩⟩, Below.refl _ _⟩
  · obtain ⟨i3, hi3, z0, z1, z2⟩ := info_parts intInfo
    refine (Any8.slices_Grow_grow growI4 i3 (.int .i64 0) hi3 z0 (by rw [z1]; omega) none 0 0 n [] w (by omega) (by omega) (by rw [z2]; omega) (by omega) (by simp) (fun _ => rfl) (by simp)).mono ?_
    rintro e w' ⟨rfl, rfl⟩
    have hG := grownCap_ge w (0 + n) 0 (growI_ren.t 25)
    have hM := grownCap_le_maxLen w (0 + n) 0 (growI_ren.t 25) (by unfold maxLen; omega)
    generalize grownCap w (0 + n) 0 (growI_ren.t 25) = K at *
    refine ⟨_, rfl, ⟨by simp, .inr ⟨w.heap.size, K, _, rfl, Nat.le_refl _, heap_alloc_new _ _, Nat.zero_le _, hM, ?_, by simp⟩⟩, ((Below.refl _ _).drew.alloc (Nat.le_refl _) _)⟩
    simp [Builtin.zeroCells, Value.cells]
    omega
def CatA (w0 : World) (zss : List (List Int)) (k : Nat) (v3 v11 : Value) (w : World) : Prop :=
  ∃ i : Nat, v11 = .int .i64 i ∧ i ≤ zss.length ∧ k = zss.length - i ∧ v3 = .int .i64 ((zss.take i).flatten.length : Nat) ∧ w0 = w
def CatB (w0 : World) (zss : List (List Int)) (k : Nat) (v6 v27 : Value) (w : World) : Prop :=
  ∃ i : Nat, v27 = .int .i64 i ∧ i ≤ zss.length ∧ k = zss.length - i ∧ w.ownsRow w0.heap.size 3 1 v6 (zss.take i).flatten.length ((zss.take i).flatten.map (Value.int .i64)) ∧ Below w0.heap.size w0 w
/-- An own row of ints. -/
def CatSaid (w : World) (zs : List Int) (e : Ending) (w' : World) : Prop := ∃ v, e = .returned v ∧ w'.ownsRow w.heap.size 3 1 v zs.length (zs.map (Value.int .i64)) ∧ Below w.heap.size w w'
theorem flat_snoc {zss : List (List Int)} {i : Nat} {x : List Int} (h : zss[i]? = some x) : (zss.take (i + 1)).flatten = (zss.take i).flatten ++ x := by
  rw [List.take_add_one, h]; simp
theorem flat_le (zss : List (List Int)) (i : Nat) : (zss.take i).flatten.length ≤ zss.flatten.length := by
  have h : zss.flatten = (zss.take i).flatten ++ (zss.drop i).flatten := by rw [← List.flatten_append, List.take_append_drop]
  rw [h, List.length_append]; omega
set_option maxHeartbeats 4000000 in
theorem concat_calls (w : World) (ga : Option Addr) (ca : Nat) (zss : List (List Int)) (h : RowII w w.heap.size ga zss) (hl : zss.length ≤ 1000000000) (ht : zss.flatten.length ≤ 1000000000) :
    Calls Try.prog 64 #[.slice ga zss.length ca] w (CatSaid w zss.flatten) := by
  obtain ⟨L, hL⟩ : ∃ L, L = zss.length := ⟨_, rfl⟩
  rw [← hL] at hl ⊢
  have H := hid h
  have HL := hid hL
  have Ht := hid ht
  clear h hL ht
  go_enter Try.func64, Try.ntmps64
  go_wp2_with fail
  go_loopg [3, 11] L (fun k v3 v11 wr => CatA w zss k v3 v11 wr)
  case atStart => exact ⟨0, rfl, Nat.zero_le _, HL.out, rfl, rfl⟩
  case round =>
    obtain ⟨i, rfl, hi, hk, rfl, rfl⟩ := hrel
    have Hk := hid hk
    have hf := flat_le zss i
    clear hk
    by_cases hlt : i < zss.length
    · have hltL : (i : Int) < (L : Int) := by have := HL.out; omega
      have hi0 : (0 : Int) ≤ (i : Int) := by omega
      obtain ⟨x, hx⟩ : ∃ x, x = zss[i] := ⟨_, rfl⟩
      have hxi : zss[i]? = some x := by rw [hx]; exact List.getElem?_eq_getElem hlt
      obtain ⟨g, off, ga', cap, rfl, hg, hc, -⟩ := H.out.at hlt
      rw [← hx] at hc
      have hs := flat_snoc hxi
      have hf2 := flat_le zss (i + 1)
      have hfl : (zss.take (i + 1)).flatten.length = (zss.take i).flatten.length + x.length := by rw [hs, List.length_append]
      obtain ⟨F, hF⟩ : ∃ F, F = (zss.take i).flatten.length := ⟨_, rfl⟩
      obtain ⟨X, hX⟩ : ∃ X, X = x.length := ⟨_, rfl⟩
      rw [← hF] at hfl hf ⊢
      rw [← hX] at hfl hc
      have hb0 : (0 : Int) ≤ (F : Int) := by omega
      have hb1 : (0 : Int) ≤ (X : Int) := by omega
      have hb2 : (F : Int) + (X : Int) ≤ 1000000000 := by have := Ht.out; omega
      have Hfl := hid hfl
      have Hlt := hid hlt
      clear hx hxi hs hf hf2 hfl hlt hF hX
      go_wp2_with fail
      go_roundg (L - (i + 1))
      case measure => have := Hk.out; have := Hlt.out; have := HL.out; omega
      case rel => exact ⟨i + 1, by go_num, Hlt.out, by rw [HL.out], by rw [Hfl.out]; go_num, rfl⟩
    · have hge : ¬ (i : Int) < (L : Int) := by have := HL.out; omega
      have he : (zss.take i).flatten.length = zss.flatten.length := by rw [List.take_of_length_le (by omega)]
      rw [he]
      obtain ⟨N, hN⟩ : ∃ N, N = zss.flatten.length := ⟨_, rfl⟩
      have hg := growNil N w (by have := Ht.out; omega)
      rw [← hN]
      clear he hf hlt hi hN
      have Hg := hid hg
      clear hg
      go_wp2_with (go_at_call 105; refine Hg.out.mono ?_; rintro e w1 ⟨v, rfl, hown, hb⟩)
      go_loopg [6, 27] L (fun k v6 v27 wr => CatB w zss k v6 v27 wr)
      case atStart => exact ⟨0, rfl, Nat.zero_le _, HL.out, hown, hb⟩
      case round =>
        clear hown hb
        obtain ⟨j, rfl, hj, hk, hown, hb⟩ := hrel
        have Hk2 := hid hk
        have hf := flat_le zss j
        clear hk
        by_cases hlt : j < zss.length
        · have hltL : (j : Int) < (L : Int) := by have := HL.out; omega
          have hj0 : (0 : Int) ≤ (j : Int) := by omega
          obtain ⟨x, hx⟩ : ∃ x, x = zss[j] := ⟨_, rfl⟩
          have hxi : zss[j]? = some x := by rw [hx]; exact List.getElem?_eq_getElem hlt
          obtain ⟨g, off, ga', cap, rfl, hg, hc, hrow⟩ := H.out.at hlt
          rw [← hx] at hc hrow
          have hc' := (hb.cell (p := ⟨g, _, none⟩) hg).trans hc
          have hs := flat_snoc hxi
          have hf2 := flat_le zss (j + 1)
          have hfl : (zss.take (j + 1)).flatten.length = (zss.take j).flatten.length + x.length := by rw [hs, List.length_append]
          obtain ⟨v', w3, hrun, hown3, hb3⟩ := app_rows hown (hrow.below hb) cap (by have := Ht.out; omega) hb.size
          rw [← hs] at hown3
          have Hown3 := hid hown3
          have Hb3 := hid (hb.trans hb3)
          have Hlt := hid hlt
          clear hx hxi hs hf hf2 hfl hlt hown hown3 hb3 hc hrow hj
          go_wp2_with (at_builtin; refine wpList_append_run rfl _ _ _ rfl _ (.slice ga' x.length cap) v' w3 (by rfl) (by rfl) (by exact hrun) ?_)
          go_roundg (L - (j + 1))
          case measure => have := Hk2.out; have := Hlt.out; have := HL.out; omega
          case rel => exact ⟨j + 1, by go_num, Hlt.out, by rw [HL.out], Hown3.out, Hb3.out⟩
        · have hge : ¬ (j : Int) < (L : Int) := by have := HL.out; omega
          rw [List.take_of_length_le (by omega)] at hown
          have Hown := hid hown
          clear hown hf hlt hj
          go_wp2_with fail
          go_ret
          exact ⟨_, rfl, Hown.out, hb⟩
end Go.Proofs.Ytaehooafdbaomaa
