/- Chapter 13 (cyk): CykCounts: walk. -/
import Derived.Test.YtbpgolmbielpgaaLaw13a
namespace Go.Proofs.Ytbpgolmbielpgaa
open Go.RowKit
attribute [local go_sem ↓] Go.wp_at_zero Go.wp_at_succ
attribute [local go_sem] frozen_alloc_lt

theorem and31 (n : Int) : ∃ m : Nat, m ≤ 31 ∧ bits .and .i64 n 31 = (m : Int) := by
  have h : (BitVec.ofInt 64 n &&& BitVec.ofInt 64 31).toNat ≤ 31 := by
    rw [BitVec.toNat_and]
    exact Nat.and_le_right
  refine ⟨(BitVec.ofInt 64 n &&& BitVec.ofInt 64 31).toNat, h, ?_⟩
  show IntKind.i64.wrap ((BitVec.ofInt 64 n &&& BitVec.ofInt 64 31).toNat : Int) = _
  rw [IntKind.wrap_i64]
  omega
namespace Ck
theorem waysL_snoc (q : Nat) (h : 1 ≤ q) : waysL q = waysL (q - 1) ++ [wayN q] := by
  obtain ⟨s, rfl⟩ : ∃ s, q = s + 1 := ⟨q - 1, by omega⟩
  rw [Nat.add_sub_cancel]
  have e : wayN (s + 1) = if s = 0 then 1 else min cap (sumK (fun k => min ((waysL s).getD k 0 * (waysL s).getD (s + 1 - k) 0) cap) 1 s) := by
    unfold wayN
    rw [waysL, List.getD, List.getElem?_append_right (by rw [waysL_len]; omega), waysL_len, Nat.sub_self]
    rfl
  rw [e]; rfl
theorem way_two : ∀ N, N ≤ 32 → 1 ≤ N → decide (1 < wayN N) = decide (2 < N) := by decide +kernel
theorem waysL_get {t s : Nat} (h : s ≤ t) : ((waysL t).map (Value.int .i64))[s]? = some (.int .i64 (wayN s)) := by
  have hl := waysL_len t
  have h2 := waysL_at t s h
  rw [List.getElem?_map, List.getElem?_eq_getElem (by omega)]
  rw [List.getD, List.getElem?_eq_getElem (by omega)] at h2
  simp only [Option.getD_some] at h2
  rw [Option.map_some, h2]
end Ck
def CC1 (wB : World) (N k : Nat) (v5 v6 : Value) (w : World) : Prop :=
  ∃ (q : Nat) (vr : Value), vr = v5 ∧ v6 = .int .i64 q ∧ 2 ≤ q ∧ q ≤ N + 1 ∧ w.ownsRow wB.heap.size 3 1 vr q ((Ck.waysL (q - 1)).map (Value.int .i64)) ∧ k = N + 1 - q ∧ Below wB.heap.size wB w
def CC2 (wr : World) (q k : Nat) (v7 v8 : Value) (w : World) : Prop :=
  ∃ (i : Nat) (s : Int), v8 = .int .i64 i ∧ v7 = .int .i64 s ∧ 1 ≤ i ∧ i ≤ q ∧ s = min Ck.cap (Ck.sumK (fun k => min (Ck.wayN k * Ck.wayN (q - k)) Ck.cap) 1 (i - 1)) ∧ 0 ≤ s ∧ k = q - i ∧ Below wr.heap.size wr w

set_option maxHeartbeats 8000000 in
set_option maxRecDepth 8000 in
theorem cykCounts_calls (n : Int) (w : World) : Calls Try.prog 3 #[.int .i64 n] w fun e w' => e = .returned (.bool true) ∧ Below w.heap.size w w' := by
  obtain ⟨i3, hi3, z0, z1, z2⟩ := info_parts intInfo'
  obtain ⟨m, hm, hbits⟩ := and31 n
  obtain ⟨N, hN⟩ : ∃ N, N = m + 1 := ⟨_, rfl⟩
  have hadd : IntKind.i64.wrap (1 + (m : Int)) = (N : Int) := by rw [IntKind.wrap_i64] <;> omega
  have hN1 : 1 ≤ N := by omega
  have hN32 : N ≤ 32 := by omega
  clear hN
  go_enter Try.func3, Try.ntmps3
  go_upto_region 4 with (go_at_call 14; refine (speaks13_calls _).mono ?_; rintro e w1 ⟨rfl, hb1⟩)
  go_upto_region 5 with (at_make; refine wpList_make_bk _ rfl _ _ _ rfl 3 i3 _ Try.underlying23 hi3 z0 z1 rfl _ _ N rfl rfl (by first | rfl | (simp; omega)) (by first | rfl | (simp; omega)) (by rw [z2]; omega) (by omega) ?_; intro w2 hbk hk2)
  have hbk' : Bk w2 w1.heap.size 3 ((List.replicate N 0).map (Value.int .i64)) := by rw [List.map_replicate]; exact hbk
  have hb2 := below0 hb1 (hk2.to_below (Nat.le_refl _) (fun k e => e.elim))
  have hl2 := bk_rowI hbk'
  clear hbk hbk' hk2 hb1
  obtain ⟨gl, hgl⟩ : ∃ gl, gl = w1.heap.size := ⟨_, rfl⟩
  rw [← hgl] at hl2 ⊢
  clear hgl
  have Hl2 := hid hl2
  clear hl2
  go_upto_region 6 with (first
    | (go_at_call 16; refine (doubles_calls _).mono ?_; rintro e w3 ⟨gp, rfl, hp, hb3⟩; have Hmk := hid (make_dbl w3 gp 2 hp (some ⟨gl, 0, none⟩) N N ((Hl2.out.below hb3).mono hb3.size) (by omega)); clear hp)
    | (go_at_call 15; refine (Hmk.out).mono ?_; rintro e w4 ⟨b, bc, gp', cp, ms, T, rfl, hch, hval, hok, hb4⟩))
  have htr : treesT N 0 false T = Ck.wayN N := by
    unfold treesT
    rw [if_pos (by omega)]
    have := hval 0 N (by omega) (Nat.le_refl _)
    rw [Nat.sub_zero] at this
    exact this
  have Htr := hid htr
  have Hch := hid hch
  have Hbw := hid (below0 (below0 hb2 hb3) hb4)
  clear htr hch hval hok hb2 hb3 hb4 Hmk Hl2
  have hown0 := World.ownsRow_lit (base := w4.heap.size) (e := 3) (size := 1) w4 #[.int .i64 0, .int .i64 1] 2 (Nat.le_refl _) (by unfold maxLen; omega) rfl
  have hb0 : Below w4.heap.size w4 (w4.alloc (.cells #[.int .i64 0, .int .i64 1] 3)) := (Below.refl _ _).alloc (Nat.le_refl _) _
  go_wp2_with fail
  go_loopg [5, 6] (N + 1 - 2) (fun k v5 v6 wq => CC1 w4 N k v5 v6 wq)
  case atStart => exact ⟨2, _, rfl, rfl, by omega, by omega, hown0, rfl, hb0⟩
  case round =>
    clear hown0 hb0
    obtain ⟨q, vr, rfl, rfl, hq2, hqN, hown, hk, hb⟩ := hrel
    have Hk := hid hk
    clear hk
    obtain ⟨ga, cap, rfl, hcells⟩ := own_slice hown
    have Hown := hid hown
    have Hb := hid hb
    clear hown hb
    have hg0 : ∃ g, ga = some ⟨g, 0, none⟩ ∧ g < wr.heap.size ∧ ∀ i, i < q → wr.cell? ⟨g, i, none⟩ = some (.int .i64 (Ck.wayN i)) := by
      obtain ⟨g, e, _, hlt, _⟩ := hcells 0 _ (Ck.waysL_get (by omega : 0 ≤ q - 1))
      refine ⟨g, e, hlt, fun i hi => ?_⟩
      obtain ⟨g', e', _, _, hc⟩ := hcells i _ (Ck.waysL_get (by omega : i ≤ q - 1))
      rw [e] at e'
      injection e' with e'
      injection e' with e'
      rw [e']; exact hc
    obtain ⟨g, rfl, hg, hgc⟩ := hg0
    have Hgc := hid hgc
    clear hcells hgc
    by_cases hle : q ≤ N
    · have hle' : (q : Int) ≤ (N : Int) := by omega
      go_wp2_with fail
      go_loopg [7, 8] (q - 1) (fun k v7 v8 wq => CC2 wr q k v7 v8 wq)
      case atStart => exact ⟨1, 0, rfl, rfl, by omega, by omega, rfl, by omega, rfl, Below.refl _ _⟩
      case round =>
        obtain ⟨i, s, rfl, rfl, hi1, hiq, hs, hs0, hk, hb2⟩ := hrel
        have Hk2 := hid hk
        have Hs := hid hs
        have hsc : s ≤ 1099511627776 := by rw [hs]; unfold Ck.cap; omega
        have Hb2 := hid hb2
        clear hk hs
        by_cases hlt : i < q
        · have hlt' : (i : Int) < (q : Int) := by omega
          have hi0 : (0 : Int) ≤ (i : Int) := by omega
          obtain ⟨d, hd⟩ : ∃ d, d = q - i := ⟨_, rfl⟩
          have hsub : IntKind.i64.wrap ((q : Int) - (i : Int)) = (d : Int) := by rw [IntKind.wrap_i64] <;> omega
          have hdq : (d : Int) < (q : Int) := by omega
          have hd0 : (0 : Int) ≤ (d : Int) := by omega
          have c1 := (hb2.cell (p := ⟨g, i, none⟩) hg).trans (Hgc.out i hlt)
          have c2 := (hb2.cell (p := ⟨g, d, none⟩) hg).trans (Hgc.out d (by omega))
          obtain ⟨x, hx⟩ : ∃ x, x = Ck.wayN i := ⟨_, rfl⟩
          obtain ⟨y, hy⟩ : ∃ y, y = Ck.wayN d := ⟨_, rfl⟩
          rw [← hx] at c1
          rw [← hy] at c2
          have hx0 : 0 ≤ x := by rw [hx]; exact Ck.wayN_nonneg _
          have hy0 : 0 ≤ y := by rw [hy]; exact Ck.wayN_nonneg _
          have hxc : x ≤ Ck.cap := by rw [hx]; exact Ck.wayN_le _
          have hyc : y ≤ Ck.cap := by rw [hy]; exact Ck.wayN_le _
          obtain ⟨tm, htm⟩ : ∃ tm, tm = min (x * y) Ck.cap := ⟨_, rfl⟩
          have htm0 : 0 ≤ tm := by have := Int.mul_nonneg hx0 hy0; rw [htm]; unfold Ck.cap; omega
          have htm1 : tm ≤ 1099511627776 := by rw [htm]; unfold Ck.cap; omega
          have hwa : IntKind.i64.wrap (s + tm) = s + tm := by rw [IntKind.wrap_i64] <;> omega
          have hnext : min Ck.cap (s + tm) = min Ck.cap (Ck.sumK (fun k => min (Ck.wayN k * Ck.wayN (q - k)) Ck.cap) 1 (i + 1 - 1)) := by
            rw [show i + 1 - 1 = (i - 1) + 1 by omega, Ck.sumK_succ, show 1 + (i - 1) = i by omega, ← hd, ← hx, ← hy, ← htm, Hs.out]
            unfold Ck.cap
            omega
          have Hnext := hid hnext
          have Htm := hid htm
          have c1d : wr.drew.cell? ⟨g, i, none⟩ = some (.int .i64 x) := c1
          have c2d : wr.drew.cell? ⟨g, d, none⟩ = some (.int .i64 y) := c2
          have hi64 : i ≤ 64 := by omega
          have hd64 : d ≤ 64 := by omega
          clear hx hy htm hnext hb2 c1 c2 hd
          go_upto_region 14 with fail
          go_region_held3 (fun w' => w'.cell? ⟨g, i, none⟩ = some (.int .i64 x) ∧ w'.cell? ⟨g, d, none⟩ = some (.int .i64 y))
            (first | exact ⟨‹_›, ‹_›⟩)
            (first | (go_at_call 17; refine (rtimes_calls _ x y hx0 hy0 hxc hyc).mono ?_; rintro e w9 ⟨rfl, rfl⟩; rw [← Htm.out]))
          by_cases hc : 1099511627776 < s + tm
          · have hnx : (1099511627776 : Int) = min Ck.cap (Ck.sumK (fun k => min (Ck.wayN k * Ck.wayN (q - k)) Ck.cap) 1 (i + 1 - 1)) := by rw [← Hnext.out]; unfold Ck.cap; omega
            have Hnx := hid hnx
            clear hnx
            go_wp2_with fail
            go_roundg (q - (i + 1))
            case measure => have hk := Hk2.out; omega
            case rel => exact ⟨i + 1, 1099511627776, by go_num, rfl, by omega, by omega, Hnx.out, by omega, rfl, below_drewN Hb2.out 1⟩
          · have hnx : s + tm = min Ck.cap (Ck.sumK (fun k => min (Ck.wayN k * Ck.wayN (q - k)) Ck.cap) 1 (i + 1 - 1)) := by rw [← Hnext.out]; unfold Ck.cap; omega
            have Hnx := hid hnx
            clear hnx
            go_wp2_with fail
            go_roundg (q - (i + 1))
            case measure => have hk := Hk2.out; omega
            case rel => exact ⟨i + 1, s + tm, by go_num, rfl, by omega, by omega, Hnx.out, by omega, rfl, below_drewN Hb2.out 1⟩
        · have hge : ¬ (i : Int) < (q : Int) := by omega
          have hsw : s = Ck.wayN q := by
            obtain ⟨t, rfl⟩ : ∃ t, q = t + 1 := ⟨q - 1, by omega⟩
            rw [Hs.out, Ck.wayN_succ t (by omega), show i = t + 1 by omega, Nat.add_sub_cancel]
          have hown2 := own_gb Hown.out (gb_of_below hb2 none) (fun k e => by cases e)
          have hB : w4.heap.size ≤ wr.heap.size := Nat.le_trans Hb.out.size hb2.size
          have hax := hown2.alloc (.cells #[.int .i64 s] 3)
          have hba := (Hb.out.trans (hb2.mono Hb.out.size)).alloc hB (.cells #[.int .i64 s] 3)
          have hgB : w4.heap.size ≤ g := by
            rcases Hown.out.2 with ⟨e1, _⟩ | ⟨g', cap', cur, e1, h2, _⟩
            · cases e1
            · injection e1 with e1; injection e1 with e1; injection e1 with e1; omega
          have hsn := Ck.waysL_snoc q (by omega)
          have Hsw := hid hsw
          have Hsn := hid hsn
          have Hba := hid hba
          have hqq : q - 1 + 1 = q := by omega
          clear hsw hown2 hb2 hsn hba
          go_wp2_with (at_builtin; refine wpList_append_one _ rfl _ _ _ rfl w4.heap.size 3 i3 _ Try.underlying23 hi3 z0 z1 (by rw [z2]; omega) rfl (.slice (some ⟨g, 0, none⟩) q cap) q _ rfl hax ⟨wr.heap.size, 0, none⟩ (.int .i64 s) rfl (by simp) rfl (by omega) (by simp; omega) (wr.heap.size + 1) (by simp) ?_; intro g2 cap2 w5 hown5 hgr5 hat5 hlt5)
          go_roundg (N + 1 - (q + 1))
          case measure => have hk := Hk.out; omega
          case rel => exact ⟨q + 1, _, rfl, by go_num, by omega, by omega, by rw [Nat.add_sub_cancel, Hsn.out, List.map_append, ← Hsw.out]; exact hown5, rfl, Hba.out.grown hgr5 Hba.out.size (fun k e => by have e2 : g = k := (by simpa [Value.ownBlock] using e); rw [← e2]; exact hgB)⟩
    · have hge : ¬ (q : Int) ≤ (N : Int) := by omega
      have hqe : q = N + 1 := by omega
      have hNq : (N : Int) < (q : Int) := by omega
      have hN0 : (0 : Int) ≤ (N : Int) := by omega
      have cw := Hgc.out N (by omega)
      have hway2 := Ck.way_two N hN32 hN1
      obtain ⟨x, hx⟩ : ∃ x, x = Ck.wayN N := ⟨_, rfl⟩
      rw [← hx] at cw hway2
      have Htr2 : Hid (treesT N 0 false T = x) := hid (by rw [hx]; exact Htr.out)
      have H0 := hid (Hch.out.later (below_drewN Hb.out 1))
      have cwd : wr.drew.cell? ⟨g, N, none⟩ = some (.int .i64 x) := cw
      have cwd2 : wr.drew.cell? ⟨g, N, none⟩ = some (.int .i64 x) := cw
      have Hway2 := hid hway2
      have Hb3 := hid (below_drewN Hb.out 1)
      clear hx cw hway2 hqe Hown Hb Hgc
      have hgd : g < wr.drew.heap.size := hg
      have Hgd := hid hgd
      clear hgd
      by_cases h2 : 2 < N
      · have ha : decide (1 < x) = true := by rw [Hway2.out]; simp [h2]
        have hn1 : decide ((2 : Int) < (N : Int)) = true := by simp; omega
        have hn2 : decide (2 < N) = true := by simp [h2]
        have hn3 : (2 : Int) < (N : Int) := by omega
        have Ha := hid ha
        clear ha
        go_upto_region 18 with fail
        go_region_held3 (fun w' => w'.cell? ⟨g, N, none⟩ = some (.int .i64 x) ∧ w'.cell? ⟨g, N, none⟩ = some (.int .i64 x))
          (first | exact ⟨‹_›, ‹_›⟩)
          (first | (go_at_call 18; refine (trees_calls H0.out (by omega) (by omega) (by omega)).mono ?_; rintro e w5 ⟨rfl, hb5⟩; rw [Htr2.out]; have cw5 := (hb5.cell (p := ⟨g, N, none⟩) Hgd.out).trans cwd; have H1 := hid (H0.out.later hb5)) | (go_at_call 19; refine (amb_calls H1.out (by omega) (by omega) (by omega)).mono ?_; rintro e w6 ⟨rfl, hb6⟩; rw [Htr2.out, Ha.out]; have cw6 := (hb6.cell (p := ⟨g, N, none⟩) (Nat.lt_of_lt_of_le Hgd.out hb5.size)).trans cw5))
        go_wp2_with fail
        go_ret
        exact ⟨rfl, below0 Hbw.out (Hb3.out.trans ((below0 hb5 hb6).mono Hb3.out.size))⟩
      · have ha : decide (1 < x) = false := by rw [Hway2.out]; simp [h2]
        have hn1 : decide ((2 : Int) < (N : Int)) = false := by simp; omega
        have hn2 : decide (2 < N) = false := by simp [h2]
        have hn3 : ¬ (2 : Int) < (N : Int) := by omega
        have Ha := hid ha
        clear ha
        go_upto_region 18 with fail
        go_region_held3 (fun w' => w'.cell? ⟨g, N, none⟩ = some (.int .i64 x) ∧ w'.cell? ⟨g, N, none⟩ = some (.int .i64 x))
          (first | exact ⟨‹_›, ‹_›⟩)
          (first | (go_at_call 18; refine (trees_calls H0.out (by omega) (by omega) (by omega)).mono ?_; rintro e w5 ⟨rfl, hb5⟩; rw [Htr2.out]; have cw5 := (hb5.cell (p := ⟨g, N, none⟩) Hgd.out).trans cwd; have H1 := hid (H0.out.later hb5)) | (go_at_call 19; refine (amb_calls H1.out (by omega) (by omega) (by omega)).mono ?_; rintro e w6 ⟨rfl, hb6⟩; rw [Htr2.out, Ha.out]; have cw6 := (hb6.cell (p := ⟨g, N, none⟩) (Nat.lt_of_lt_of_le Hgd.out hb5.size)).trans cw5))
        go_wp2_with fail
        go_ret
        exact ⟨rfl, below0 Hbw.out (Hb3.out.trans ((below0 hb5 hb6).mono Hb3.out.size))⟩
end Go.Proofs.Ytbpgolmbielpgaa
