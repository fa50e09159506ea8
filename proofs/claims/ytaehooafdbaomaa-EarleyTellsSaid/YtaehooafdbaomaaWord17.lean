/- Chapter 17: word: walk. -/
import Derived.Test.YtaehooafdbaomaaRowApp
import Derived.Test.YtaehooafdbaomaaGin
namespace Go.Proofs.Ytaehooafdbaomaa
open Go.RowKit
attribute [local go_sem ↓] Go.wp_at_zero Go.wp_at_succ
attribute [local go_sem] frozen_alloc_lt

theorem own_room {w : World} {B n : Nat} {T : TypeId} {v : Value} {xs : List Value} (h : w.ownsRow B T 1 v n xs) : ∀ ga m cap, v = .slice ga m cap → n ≤ cap ∧ (ga = none → cap = 0) := by
  intro ga m cap e
  rcases h with ⟨h0, ⟨h1, h2⟩ | ⟨bo, c, cur, h1, h2, h3, h4, h5⟩⟩
  · rw [e] at h1
    injection h1 with e1 e2 e3
    exact ⟨by omega, fun _ => e3⟩
  · rw [e] at h1
    injection h1 with e1 e2 e3
    exact ⟨by omega, fun e4 => by rw [e4] at e1; cases e1⟩
theorem int_appW {P : Program} {w : World} {B : Nat} {TI : TypeId} {v : Value} {zs : List Int} (h : w.ownsRow B TI 1 v zs.length (zs.map (Value.int .i64))) (t ty : TypeId) (i : TypeInfo) (ht : P.underlying t = some (.slice TI)) (hi : P.info? TI = some i)
    (hz : i.zero = some (.int .i64 0)) (hsize : i.size = 1) (hby : i.bytes = 8) (hB : B ≤ w.heap.size) (hl : zs.length ≤ 1000000) (s : Int) (q : Nat) :
    ∃ g2 cap2 w2, (Builtin.append_ #[t, t] ty #[v, .slice (some ⟨w.heap.size, 0, none⟩) 1 1]).run P ((w.alloc (.cells #[.int .i64 s] TI)).drewN q) = .ok (.slice (some ⟨g2, 0, none⟩) (zs.length + 1) cap2) w2 ∧
      w2.ownsRow B TI 1 (.slice (some ⟨g2, 0, none⟩) (zs.length + 1) cap2) (zs ++ [s]).length ((zs ++ [s]).map (Value.int .i64)) ∧ Kp (fun k => v.ownBlock = some k) w w2 ∧ (v.ownBlock = some g2 ∨ w.heap.size < g2) ∧ g2 < w2.heap.size := by
  obtain ⟨g2, cap2, w2, h1, h2, h3, h4, h5⟩ := row_app h t ty i (.int .i64 0) 8 ht hi hz hsize hby rfl (by omega) hB hl (.int .i64 s) rfl q
  exact ⟨g2, cap2, w2, h1, by rw [List.map_append, List.length_append]; exact h2, h3, h4, h5⟩
def WordSaid (w : World) (most T : Nat) (e : Ending) (w' : World) : Prop := ∃ (ga : Option Addr) (ca : Nat) (zs : List Int), e = .returned (.slice ga zs.length ca) ∧ RowI w' w'.heap.size ga zs ∧ zs.length ≤ ca ∧ (ga = none → ca = 0) ∧ zs.length ≤ most ∧ (∀ z ∈ zs, 0 ≤ z ∧ z < (T : Int)) ∧ Below w.heap.size w w'
def WAt (w0 : World) (L most T : Nat) (k : Nat) (v7 v8 : Value) (w : World) : Prop :=
  ∃ (i : Nat) (vo : Value) (zs : List Int), v8 = .int .i64 i ∧ vo = v7 ∧ i ≤ L ∧ w.ownsRow w0.heap.size 3 1 vo zs.length (zs.map (Value.int .i64)) ∧ zs.length = i ∧ zs.length ≤ most ∧ (∀ z ∈ zs, 0 ≤ z ∧ z < (T : Int)) ∧ k = L - i ∧ Below w0.heap.size w0 w
set_option maxHeartbeats 2000000 in
theorem word17_calls (w : World) (gl : Option Addr) (cl : Nat) (ls : List Int) (hl : RowI w w.heap.size gl ls) (hll : ls.length ≤ 9223372036854775807) (T most : Nat) (hT : T ≤ 1000) (hm : most ≤ 1000) :
    Calls Try.prog 42 #[.slice gl ls.length cl, .int .i64 T, .int .i64 most] w (WordSaid w most T) := by
  obtain ⟨i3, hi3, y0, y1, y2⟩ := info_parts intInfo
  have hT0 : (0 : Int) ≤ (T : Int) := by omega
  have hT1 : (T : Int) ≤ 1000 := by omega
  have hm1 : (most : Int) ≤ 1000 := by omega
  go_enter Try.func42, Try.ntmps42
  go_wp2_with fail
  go_loopg [7, 8] ls.length (fun k v7 v8 wr => WAt w ls.length most T k v7 v8 wr)
  case atStart => exact ⟨0, _, [], rfl, rfl, by omega, World.ownsRow_nil _ _ _ _, rfl, by simp, (fun z hz => by simp at hz), rfl, Below.refl _ _⟩
  case round =>
    obtain ⟨i, vo, zs, rfl, rfl, hi, hown, hzl, hzm, hz, hk, hb⟩ := hrel
    have Hk := hid hk
    have Hb := hid hb
    have Hz := hid hz
    have Hzl := hid hzl
    have hi1 : (i : Int) ≤ 1000 := by omega
    have hi0 : (0 : Int) ≤ (i : Int) := by omega
    clear hk hb hz
    by_cases hgo : i < ls.length ∧ i < most ∧ 0 < T
    · obtain ⟨c1, c2, c3⟩ := hgo
      have d1 : (i : Int) < (ls.length : Int) := by omega
      have d2 : (i : Int) < (most : Int) := by omega
      have d3 : (0 : Int) < (T : Int) := by omega
      have dz : ¬ (T : Int) = 0 := by omega
      obtain ⟨g, o, rfl, hg, hc⟩ := hl.at c1
      obtain ⟨z, hze⟩ : ∃ z, z = ls[i] := ⟨_, rfl⟩
      rw [← hze] at hc
      have e0 := (Hb.out.cell (p := ⟨g, _, none⟩) hg).trans hc
      have ht1 : z.tmod (T : Int) < (T : Int) := Int.tmod_lt_of_pos z d3
      have ht2 : -(T : Int) < z.tmod (T : Int) := by have := Int.lt_tmod_of_pos z d3; omega
      have ht3 := Int.tmod_lt_of_pos (z.tmod (T : Int) + (T : Int)) d3
      have ht4 := Int.tmod_nonneg (a := z.tmod (T : Int) + (T : Int)) (T : Int) (by omega)
      obtain ⟨y, hy⟩ : ∃ y, y = (z.tmod (T : Int) + (T : Int)).tmod (T : Int) := ⟨_, rfl⟩
      have hy' : (z.tmod (T : Int) + (T : Int)).tmod (T : Int) = y := hy.symm
      rw [← hy] at ht3 ht4
      obtain ⟨g2, cap2, w4, hrun, hown4, hk4, hg4, hl4⟩ := int_appW (P := Try.prog) hown 22 22 i3 Try.underlying22 hi3 y0 y1 y2 Hb.out.size (by omega) y 0
      have hb4 : Below w.heap.size wr w4 := hk4.to_below (by exact Hb.out.size) (fun k e => (World.ownsRow.lt hown k e).1)
      have hrun' : (Builtin.append_ #[22, 22] 22 #[vo, .slice (some ⟨wr.heap.size, 0, none⟩) 1 1]).run Try.prog (wr.alloc (.cells #[.int .i64 y] 3)) = .ok (.slice (some ⟨g2, 0, none⟩) (zs.length + 1) cap2) w4 := hrun
      have Hrun := hid hrun'
      have Hown4 := hid hown4
      have Hb4 := hid (Hb.out.trans hb4)
      have Hy := hid (And.intro ht3 ht4)
      clear hown hrun hown4 hk4 hg4 hl4 hb4 hrun' ht3 ht4 hzl hze hc hy
      go_wp2_with (at_builtin; refine wpList_append_run rfl _ _ _ rfl vo (.slice (some ⟨wr.heap.size, 0, none⟩) 1 1) (.slice (some ⟨g2, 0, none⟩) (zs.length + 1) cap2) w4 (by rfl) (by rfl) (by exact Hrun.out) ?_)
      go_roundg (ls.length - (i + 1))
      case measure => have hk := Hk.out; omega
      case rel =>
        have h9 := Hown4.out
        rw [List.length_append] at h9
        refine ⟨i + 1, _, zs ++ [y], by go_num, rfl, by omega, by rw [List.length_append]; exact h9, by rw [List.length_append]; have := Hzl.out; simp; omega, by rw [List.length_append]; have := Hzl.out; simp; omega, fun x hx => ?_, rfl, Hb4.out⟩
        rcases List.mem_append.1 hx with hx | hx
        · exact Hz.out x hx
        · simp at hx
          subst hx
          exact ⟨Hy.out.2, Hy.out.1⟩
    · have hroom := own_room hown
      obtain ⟨ga, ca, rfl, hrow⟩ := own_rowI hown
      have Hroom := hid (hroom ga zs.length ca rfl)
      clear hroom
      have Hrow := hid hrow
      have Hzm := hid hzm
      clear hrow hown hzl
      by_cases c1 : i < ls.length
      · have d1 : (i : Int) < (ls.length : Int) := by omega
        by_cases c2 : i < most
        · have d2 : (i : Int) < (most : Int) := by omega
          have d3 : decide ((0 : Int) < (T : Int)) = false := by simp; omega
          have d4 : decide (0 < T) = false := by simp; omega
          have d5 : ¬ 0 < T := by omega
          clear hgo
          go_wp2_with fail
          go_ret
          exact ⟨ga, ca, zs, rfl, Hrow.out, Hroom.out.1, Hroom.out.2, Hzm.out, Hz.out, Hb.out⟩
        · have d2 : ¬ (i : Int) < (most : Int) := by omega
          clear hgo
          go_wp2_with fail
          go_ret
          exact ⟨ga, ca, zs, rfl, Hrow.out, Hroom.out.1, Hroom.out.2, Hzm.out, Hz.out, Hb.out⟩
      · have d1 : ¬ (i : Int) < (ls.length : Int) := by omega
        clear hgo
        go_wp2_with fail
        go_ret
        exact ⟨ga, ca, zs, rfl, Hrow.out, Hroom.out.1, Hroom.out.2, Hzm.out, Hz.out, Hb.out⟩
end Go.Proofs.Ytaehooafdbaomaa
