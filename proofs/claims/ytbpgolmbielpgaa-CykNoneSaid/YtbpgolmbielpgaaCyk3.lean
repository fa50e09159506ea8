/- Chapter 13 (cyk): may a word have a chart? The doubling grammar. Yes, Ambiguous, Cell; of no chart. -/
import Derived.Test.YtbpgolmbielpgaaCyk2
namespace Go.Proofs.Ytbpgolmbielpgaa
open Go.RowKit
attribute [local go_sem ↓] Go.wp_at_zero Go.wp_at_succ
attribute [local go_sem] frozen_alloc_lt

namespace Ck
def okW (te : Int) (t : Int) : Bool := decide (0 ≤ t) && decide (t < te)
def rightB (st cnt te : Int) (ps : List (Int × List Int)) (word : List Int) : Bool := Nf.normB st cnt te ps && decide (word.length ≤ 64) && word.all (okW te)
end Ck
def RigAt (w0 : World) (te : Int) (xs : List Int) (res : Bool) (k : Nat) (v : Value) (w : World) : Prop := ∃ i : Nat, v = .int .i64 i ∧ i ≤ xs.length ∧ (xs.drop i).all (Ck.okW te) = res ∧ k = xs.length - i ∧ w = w0

set_option maxHeartbeats 2000000 in
theorem right_calls (w : World) (st cnt te : Int) (em : Bool) (gp : Option Addr) (cp : Nat) (ps : List (Int × List Int)) (hp : RowP w w.heap.size gp ps) (h3 : ps.length ≤ 9223372036854775807) (h4 : ∀ x ∈ ps, x.2.length ≤ 9223372036854775807) (hte : te ≤ 9223372036854775807)
    (gw : Option Addr) (cw : Nat) (word : List Int) (hw : RowI w w.heap.size gw word) (hwl : word.length ≤ 9223372036854775807) :
    Calls Try.prog 48 #[.agg #[.int .i64 st, .int .i64 cnt, .int .i64 te, .bool em, .slice gp ps.length cp], .slice gw word.length cw] w fun e w' => e = .returned (.bool (Ck.rightB st cnt te ps word)) ∧ Below w.heap.size w w' := by
  have hk := Bk.new w 28 [.int .i64 st, .int .i64 cnt, .int .i64 te, .bool em, .slice gp ps.length cp]
  have hb0 : Below w.heap.size w (w.alloc (.cells #[.int .i64 st, .int .i64 cnt, .int .i64 te, .bool em, .slice gp ps.length cp] 28)) := (Below.refl _ _).alloc (Nat.le_refl _) _
  obtain ⟨res, hres⟩ : ∃ res, res = Ck.rightB st cnt te ps word := ⟨_, rfl⟩
  rw [← hres]
  have Hres := hid hres
  have Hp4 := hid h4
  clear hres h4
  go_enter Try.func48, Try.ntmps48
  go_upto_region 1 with fail
  obtain ⟨wd, hwd⟩ : ∃ wd, wd = (w.alloc (.cells #[.int .i64 st, .int .i64 cnt, .int .i64 te, .bool em, .slice gp ps.length cp] 28)) := ⟨_, rfl⟩
  obtain ⟨b, hb⟩ : ∃ b, b = w.heap.size := ⟨_, rfl⟩
  have hp2 := (hp.below hb0).mono hb0.size
  have hw2 := (hw.below hb0).mono hb0.size
  rw [← hwd] at hk hb0 hp2 hw2
  rw [← hwd]
  rw [← hb] at hk
  rw [← hb]
  clear hwd hb hp hw
  have g0 := hk.cell 0
  have g1 := hk.cell 1
  have g2 := hk.cell 2
  have g3 := hk.cell 3
  have g4 := hk.cell 4
  simp only [List.getElem?_cons_zero, List.getElem?_cons_succ] at g0 g1 g2 g3 g4
  obtain ⟨nb, hnb⟩ : ∃ nb, nb = Nf.normB st cnt te ps := ⟨_, rfl⟩
  have Hnb := hid hnb
  have Hp2 := hid hp2
  clear hnb hp2
  cases nb with
  | false =>
    have e : res = false := by rw [Hres.out, Ck.rightB, ← Hnb.out]; simp
    have E := hid e
    clear e
    go_wp2_with (go_at_call 67; refine (normal_calls wd st cnt te em gp cp ps Hp2.out h3 Hp4.out hte).mono ?_; rintro e w1 ⟨rfl, hb1⟩; rw [← Hnb.out])
    go_ret
    exact ⟨by rw [E.out]; rfl, below0 hb0 hb1⟩
  | true =>
    by_cases hl : 64 < word.length
    · have e : res = false := by rw [Hres.out, Ck.rightB, show decide (word.length ≤ 64) = false by simp; omega]; simp
      have hl' : (64 : Int) < (word.length : Int) := by omega
      have E := hid e
      clear e
      go_wp2_with (go_at_call 67; refine (normal_calls wd st cnt te em gp cp ps Hp2.out h3 Hp4.out hte).mono ?_; rintro e w1 ⟨rfl, hb1⟩; rw [← Hnb.out])
      go_ret
      exact ⟨by rw [E.out]; rfl, below0 hb0 hb1⟩
    · have e : word.all (Ck.okW te) = res := by rw [Hres.out, Ck.rightB, ← Hnb.out, show decide (word.length ≤ 64) = true by simp; omega]; simp
      have hl' : ¬ (64 : Int) < (word.length : Int) := by omega
      have E := hid e
      clear e
      go_wp2_with (go_at_call 67; refine (normal_calls wd st cnt te em gp cp ps Hp2.out h3 Hp4.out hte).mono ?_; rintro e w1 ⟨rfl, hb1⟩; rw [← Hnb.out])
      have hw3 := (hw2.below hb1).mono hb1.size
      have g2' := (hk.below hb1 hk.lt).cell 2
      simp only [List.getElem?_cons_zero, List.getElem?_cons_succ] at g2'
      have hbw := below0 hb0 hb1
      clear g0 g1 g2 g3 g4 hk hb0 hb1 hw2
      go_loopg [17] word.length (fun k v wq => RigAt w1 te word res k v wq)
      case atStart => exact ⟨0, rfl, Nat.zero_le _, by rw [List.drop_zero]; exact E.out, rfl, rfl⟩
      case round =>
        obtain ⟨i, rfl, hi, hr, hk, rfl⟩ := hrel
        have Hk := hid hk
        clear hk
        by_cases hlt : i < word.length
        · have hlt' : (i : Int) < (word.length : Int) := by omega
          have hi0 : (0 : Int) ≤ (i : Int) := by omega
          obtain ⟨x, hx⟩ : ∃ x, x = word[i] := ⟨_, rfl⟩
          obtain ⟨g, o, rfl, hg, hc⟩ := hw3.at hlt
          rw [List.drop_eq_getElem_cons hlt, ← hx, List.all_cons, Ck.okW] at hr
          rw [← hx] at hc
          have Hr := hid hr
          clear hr hx hg
          by_cases d1 : x < 0
          · have e : res = false := by rw [← Hr.out, show decide (0 ≤ x) = false by simp; omega]; simp
            have E2 := hid e
            clear e
            go_wp2_with fail
            go_ret
            exact ⟨by rw [E2.out]; rfl, hbw⟩
          by_cases d2 : te ≤ x
          · have e : res = false := by rw [← Hr.out, show decide (x < te) = false by simp; omega]; simp
            have E2 := hid e
            clear e
            go_wp2_with fail
            go_ret
            exact ⟨by rw [E2.out]; rfl, hbw⟩
          have e : (word.drop (i + 1)).all (Ck.okW te) = res := by rw [← Hr.out, show decide (0 ≤ x) = true by simp; omega, show decide (x < te) = true by simp; omega]; simp
          have E2 := hid e
          clear e
          go_wp2_with fail
          go_roundg (word.length - (i + 1))
          case measure => have hk := Hk.out; omega
          case rel => exact ⟨i + 1, by go_num, by omega, E2.out, rfl, rfl⟩
        · have hge : ¬ (i : Int) < (word.length : Int) := by omega
          rw [List.drop_eq_nil_of_le (by omega), List.all_nil] at hr
          have Hr := hid hr
          clear hr
          go_wp2_with fail
          go_ret
          exact ⟨by rw [← Hr.out]; rfl, hbw⟩

/-- S -> S S; S -> x. -/
def dblP : List (Int × List Int) := [(0, [-1]), (0, [0, 0])]
set_option maxHeartbeats 1000000 in
theorem doubles_calls (w : World) : Calls Try.prog 16 #[] w fun e w' => ∃ gp, e = .returned (.agg #[.int .i64 0, .int .i64 1, .int .i64 1, .bool false, .slice gp dblP.length 2]) ∧ RowP w' w'.heap.size gp dblP ∧ Below w.heap.size w w' := by
  have k0 : Bk ((((w.alloc (.cells #[.int .i64 0, .int .i64 1, .int .i64 1, .bool false, .slice (some ⟨w.heap.size + 1 + 1 + 1, 0, none⟩) 2 2] 28)).alloc (.cells #[.int .i64 (-1)] 3)).alloc (.cells #[.int .i64 0, .int .i64 0] 3)).alloc (.cells #[.int .i64 0, .slice (some ⟨w.heap.size + 1, 0, none⟩) 1 1, .int .i64 0, .slice (some ⟨w.heap.size + 1 + 1, 0, none⟩) 2 2] 35)) w.heap.size 28 [.int .i64 0, .int .i64 1, .int .i64 1, .bool false, .slice (some ⟨w.heap.size + 1 + 1 + 1, 0, none⟩) 2 2] := (((Bk.new w _ _).alloc _).alloc _).alloc _
  have k1 : Bk ((((w.alloc (.cells #[.int .i64 0, .int .i64 1, .int .i64 1, .bool false, .slice (some ⟨w.heap.size + 1 + 1 + 1, 0, none⟩) 2 2] 28)).alloc (.cells #[.int .i64 (-1)] 3)).alloc (.cells #[.int .i64 0, .int .i64 0] 3)).alloc (.cells #[.int .i64 0, .slice (some ⟨w.heap.size + 1, 0, none⟩) 1 1, .int .i64 0, .slice (some ⟨w.heap.size + 1 + 1, 0, none⟩) 2 2] 35)) (w.heap.size + 1) 3 ([-1].map (Value.int .i64)) := bk_at (((Bk.new (w.alloc (.cells #[.int .i64 0, .int .i64 1, .int .i64 1, .bool false, .slice (some ⟨w.heap.size + 1 + 1 + 1, 0, none⟩) 2 2] 28)) 3 [.int .i64 (-1)]).alloc (.cells #[.int .i64 0, .int .i64 0] 3)).alloc (.cells #[.int .i64 0, .slice (some ⟨w.heap.size + 1, 0, none⟩) 1 1, .int .i64 0, .slice (some ⟨w.heap.size + 1 + 1, 0, none⟩) 2 2] 35)) (by simp)
  have k2 : Bk ((((w.alloc (.cells #[.int .i64 0, .int .i64 1, .int .i64 1, .bool false, .slice (some ⟨w.heap.size + 1 + 1 + 1, 0, none⟩) 2 2] 28)).alloc (.cells #[.int .i64 (-1)] 3)).alloc (.cells #[.int .i64 0, .int .i64 0] 3)).alloc (.cells #[.int .i64 0, .slice (some ⟨w.heap.size + 1, 0, none⟩) 1 1, .int .i64 0, .slice (some ⟨w.heap.size + 1 + 1, 0, none⟩) 2 2] 35)) (w.heap.size + 1 + 1) 3 ([0, 0].map (Value.int .i64)) := bk_at ((Bk.new ((w.alloc (.cells #[.int .i64 0, .int .i64 1, .int .i64 1, .bool false, .slice (some ⟨w.heap.size + 1 + 1 + 1, 0, none⟩) 2 2] 28)).alloc (.cells #[.int .i64 (-1)] 3)) 3 [.int .i64 0, .int .i64 0]).alloc (.cells #[.int .i64 0, .slice (some ⟨w.heap.size + 1, 0, none⟩) 1 1, .int .i64 0, .slice (some ⟨w.heap.size + 1 + 1, 0, none⟩) 2 2] 35)) (by simp)
  have k3 : Bk ((((w.alloc (.cells #[.int .i64 0, .int .i64 1, .int .i64 1, .bool false, .slice (some ⟨w.heap.size + 1 + 1 + 1, 0, none⟩) 2 2] 28)).alloc (.cells #[.int .i64 (-1)] 3)).alloc (.cells #[.int .i64 0, .int .i64 0] 3)).alloc (.cells #[.int .i64 0, .slice (some ⟨w.heap.size + 1, 0, none⟩) 1 1, .int .i64 0, .slice (some ⟨w.heap.size + 1 + 1, 0, none⟩) 2 2] 35)) (w.heap.size + 1 + 1 + 1) 35 [.int .i64 0, .slice (some ⟨w.heap.size + 1, 0, none⟩) 1 1, .int .i64 0, .slice (some ⟨w.heap.size + 1 + 1, 0, none⟩) 2 2] := bk_at (Bk.new (((w.alloc (.cells #[.int .i64 0, .int .i64 1, .int .i64 1, .bool false, .slice (some ⟨w.heap.size + 1 + 1 + 1, 0, none⟩) 2 2] 28)).alloc (.cells #[.int .i64 (-1)] 3)).alloc (.cells #[.int .i64 0, .int .i64 0] 3)) 35 [.int .i64 0, .slice (some ⟨w.heap.size + 1, 0, none⟩) 1 1, .int .i64 0, .slice (some ⟨w.heap.size + 1 + 1, 0, none⟩) 2 2]) (by simp)
  have hb : Below w.heap.size w ((((w.alloc (.cells #[.int .i64 0, .int .i64 1, .int .i64 1, .bool false, .slice (some ⟨w.heap.size + 1 + 1 + 1, 0, none⟩) 2 2] 28)).alloc (.cells #[.int .i64 (-1)] 3)).alloc (.cells #[.int .i64 0, .int .i64 0] 3)).alloc (.cells #[.int .i64 0, .slice (some ⟨w.heap.size + 1, 0, none⟩) 1 1, .int .i64 0, .slice (some ⟨w.heap.size + 1 + 1, 0, none⟩) 2 2] 35)) := ((((Below.refl _ _).alloc (Nat.le_refl _) _).alloc (by simp) _).alloc (by simp; omega) _).alloc (by simp; omega) _
  go_enter Try.func16, Try.ntmps16
  go_wp2_with fail
  obtain ⟨W, hW⟩ : ∃ W, W = ((((w.alloc (.cells #[.int .i64 0, .int .i64 1, .int .i64 1, .bool false, .slice (some ⟨w.heap.size + 1 + 1 + 1, 0, none⟩) 2 2] 28)).alloc (.cells #[.int .i64 (-1)] 3)).alloc (.cells #[.int .i64 0, .int .i64 0] 3)).alloc (.cells #[.int .i64 0, .slice (some ⟨w.heap.size + 1, 0, none⟩) 1 1, .int .i64 0, .slice (some ⟨w.heap.size + 1 + 1, 0, none⟩) 2 2] 35)) := ⟨_, rfl⟩
  rw [← hW] at k0 k1 k2 k3 hb ⊢
  clear hW
  have c0 := k0.cell 0
  have c1 := k0.cell 1
  have c2 := k0.cell 2
  have c3 := k0.cell 3
  have c4 := k0.cell 4
  simp only [List.getElem?_cons_zero, List.getElem?_cons_succ] at c0 c1 c2 c3 c4
  refine bodyPost_ret (v := .agg #[.int .i64 0, .int .i64 1, .int .i64 1, .bool false, .slice (some ⟨w.heap.size + 1 + 1 + 1, 0, none⟩) 2 2]) (by simp [results, Try.results16, go_sem, c0, c1, c2, c3, c4]) rfl ⟨_, rfl, fun i x hx => ?_, hb⟩
  have d0 := k3.cell 0
  have d1 := k3.cell 1
  have d2 := k3.cell 2
  have d3 := k3.cell 3
  simp only [List.getElem?_cons_zero, List.getElem?_cons_succ] at d0 d1 d2 d3
  match i, hx with
  | 0, hx =>
    injection hx with hx
    subst hx
    exact ⟨_, 0, some ⟨w.heap.size + 1, 0, none⟩, 1, rfl, k3.lt, d0, d1, bk_rowI k1⟩
  | 1, hx =>
    injection hx with hx
    subst hx
    exact ⟨_, 0, some ⟨w.heap.size + 1 + 1, 0, none⟩, 2, rfl, k3.lt, d2, d3, bk_rowI k2⟩
  | n + 2, hx => simp [dblP] at hx
end Go.Proofs.Ytbpgolmbielpgaa
