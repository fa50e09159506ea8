/- Chapter 15 (least): LeastRefuses: walk. -/
import Derived.Test.YtbpgolmbielpgaaLaw15a
import Derived.Laws.OwnMore
import Derived.Deep.CutRange
namespace Go.Proofs.Ytbpgolmbielpgaa
open Go.RowKit
attribute [local go_sem ↓] Go.wp_at_zero Go.wp_at_succ
attribute [local go_sem] frozen_alloc_lt

theorem and7'' (n : Int) : ∃ m : Nat, m ≤ 7 ∧ bits .and .i64 n 7 = (m : Int) := by
  have h : (BitVec.ofInt 64 n &&& BitVec.ofInt 64 7).toNat ≤ 7 := by
    rw [BitVec.toNat_and]
    exact Nat.and_le_right
  refine ⟨(BitVec.ofInt 64 n &&& BitVec.ofInt 64 7).toNat, h, ?_⟩
  show IntKind.i64.wrap ((BitVec.ofInt 64 n &&& BitVec.ofInt 64 7).toNat : Int) = _
  rw [IntKind.wrap_i64]
  omega
theorem intInfo'' : (Try.prog.info? 3).map (fun i => (i.zero, i.size, i.bytes)) = some (some (.int .i64 0), 1, 8) := by kernel_rfl
/-- make([]int, N): the world written out. -/
theorem make_ints (N : Nat) (hN : N ≤ 1000000) : ∃ Z : Array Value, Z.toList = List.replicate N (.int .i64 0) ∧ ∀ w : World, (Instr.makeSlice 23 (.int .i64 (N : Int)) (.int .i64 (N : Int))).run Try.prog w = .ok (.slice (some ⟨w.heap.size, 0, none⟩) N N) (w.alloc (.cells Z 3)) := by
  obtain ⟨i3, hi3, z0, z1, z2⟩ := info_parts intInfo''
  refine ⟨madeCells (Value.int .i64 0).cells (N * i3.size), ?_, fun w => ?_⟩
  · rw [z1, Nat.mul_one]
    exact toList_madeCells_one _ _
  · have hr := run_make (P := Try.prog) w 23 3 i3 (.int .i64 0) Try.underlying23 hi3 z0 .i64 .i64 N N (by omega) (Int.le_refl _) (by rw [z2]; omega) (by omega)
    simpa only [Int.toNat_natCast] using hr
theorem rowZ {Z : Array Value} {N : Nat} (hZ : Z.toList = List.replicate N (.int .i64 0)) (w : World) : RowI (w.alloc (.cells Z 3)) (w.alloc (.cells Z 3)).heap.size (some ⟨w.heap.size, 0, none⟩) (List.replicate N 0) := by
  have h := Bk.new w 3 Z.toList
  rw [hZ, ← List.map_replicate] at h
  have e : (((List.replicate N (0 : Int)).map (Value.int .i64)).toArray) = Z := by
    rw [List.map_replicate, ← hZ]
  rw [e] at h
  exact bk_rowI h
theorem rowZ' {Z : Array Value} {N : Nat} (hZ : Z.toList = List.replicate N (.int .i64 0)) {X W : World} {g : Nat} (hg : g = X.heap.size) (hb : Below (X.alloc (.cells Z 3)).heap.size (X.alloc (.cells Z 3)) W) : RowI W W.heap.size (some ⟨g, 0, none⟩) (List.replicate N 0) := by
  subst hg
  exact ((rowZ hZ X).below hb).mono hb.size
theorem rightZ {N : Nat} (h : 64 < N) : Le.rightB (dblG 0) (List.replicate N 0) = false := by
  unfold Le.rightB
  have : decide ((List.replicate N (0 : Int)).length ≤ 64) = false := by simp; omega
  rw [this]
  simp
theorem tree_bad {w : World} {gn gt gp : Option Addr} {st : Int} (h : GIn w (dblG st) gn gt gp) {gw : Option Addr} {cw : Nat} {word : List Int} (hw : RowI w w.heap.size gw word) (hl : word.length ≤ 1000000) (hb : Le.rightB (dblG st) word = false) {n : Nat} (hn : n = word.length) :
    Calls Try.prog 25 #[.agg #[.int .i64 st, .int .i64 1, .slice gn 1 1, .slice gt 1 1, .slice gp 3 3], .slice gw n cw] w fun e w' => ∃ p gk ck, e = .returned (.tuple #[.agg #[.int .i64 p, .slice gk 0 ck], .int .i64 1]) ∧ Below w.heap.size w w' := by
  subst hn
  refine (ltree_calls w (dblG st) gn gt gp 1 1 3 h gw cw word hw (by omega)).mono ?_
  rintro e w' ⟨p, kids, gk, ck, er, rfl, -, hn, -, hb'⟩
  obtain ⟨rfl, rfl⟩ := hn hb
  exact ⟨p, gk, ck, rfl, hb'⟩
theorem nodes_bad {w : World} {gn gt gp : Option Addr} {st : Int} (h : GIn w (dblG st) gn gt gp) {gw : Option Addr} {cw : Nat} {word : List Int} (hw : RowI w w.heap.size gw word) (hl : word.length ≤ 1000000) (hb : Le.rightB (dblG st) word = false) {n : Nat} (hn : n = word.length) :
    Calls Try.prog 26 #[.agg #[.int .i64 st, .int .i64 1, .slice gn 1 1, .slice gt 1 1, .slice gp 3 3], .slice gw n cw] w fun e w' => e = .returned (.int .i64 (-1)) ∧ Below w.heap.size w w' := by
  subst hn
  refine (nodes_calls w (dblG st) gn gt gp 1 1 3 h gw cw word hw (by omega)).mono ?_
  rintro e w' ⟨v, rfl, hv, -, hb'⟩
  exact ⟨by rw [hv hb], hb'⟩
/-- The word x: two nodes. -/
theorem dbl_least1 {v : Int} (h : Le.Least (dblG 0).prods [0] 0 v) : 0 ≤ v ∧ v ≤ 2 := by
  rcases h with ⟨_, h⟩ | ⟨h0, f, hf, e, hm⟩
  · exact absurd (dblT1_of 0) (h _)
  · have h1 := hm _ (dblT1_of 0)
    simp only [Fo.nodes] at h1
    unfold Le.cap at *
    omega
theorem tree_good {w : World} {gn gt gp : Option Addr} (h : GIn w (dblG 0) gn gt gp) {gw : Option Addr} {cw : Nat} (hw : RowI w w.heap.size gw [0]) :
    Calls Try.prog 25 #[.agg #[.int .i64 0, .int .i64 1, .slice gn 1 1, .slice gt 1 1, .slice gp 3 3], .slice gw 1 cw] w fun e w' => ∃ p gk n ck, e = .returned (.tuple #[.agg #[.int .i64 p, .slice gk n ck], .int .i64 0]) ∧ Below w.heap.size w w' := by
  refine (ltree_calls w (dblG 0) gn gt gp 1 1 3 h gw cw [0] hw (by simp)).mono ?_
  rintro e w' ⟨p, kids, gk, ck, er, rfl, -, -, hy, hb'⟩
  obtain ⟨v, hv, hc⟩ := hy (by decide)
  have hv2 := dbl_least1 hv
  rcases hc with ⟨h1, _⟩ | ⟨h1, _⟩ | ⟨_, _, rfl, h3⟩
  · omega
  · omega
  · exact ⟨p, gk, _, ck, rfl, hb'⟩
theorem nodes_good {w : World} {gn gt gp : Option Addr} (h : GIn w (dblG 0) gn gt gp) {gw : Option Addr} {cw : Nat} (hw : RowI w w.heap.size gw [0]) :
    Calls Try.prog 26 #[.agg #[.int .i64 0, .int .i64 1, .slice gn 1 1, .slice gt 1 1, .slice gp 3 3], .slice gw 1 cw] w fun e w' => ∃ v : Int, e = .returned (.int .i64 v) ∧ 0 ≤ v ∧ Below w.heap.size w w' := by
  refine (nodes_calls w (dblG 0) gn gt gp 1 1 3 h gw cw [0] hw (by simp)).mono ?_
  rintro e w' ⟨v, rfl, -, hy, hb'⟩
  exact ⟨v, rfl, (dbl_least1 (hy (by decide))).1, hb'⟩

set_option maxHeartbeats 8000000 in
set_option maxRecDepth 8000 in
theorem refuses_calls (st n t : Int) (w : World) : Calls Try.prog 5 #[.int .i64 st, .int .i64 n, .int .i64 t] w fun e w' => e = .returned (.bool true) ∧ Below w.heap.size w w' := by
  obtain ⟨m, hm, hbits⟩ := and7'' n
  obtain ⟨N, hN⟩ : ∃ N, N = m + 60 := ⟨_, rfl⟩
  have hadd : IntKind.i64.wrap (60 + (m : Int)) = (N : Int) := by rw [IntKind.wrap_i64] <;> omega
  have hN67 : N ≤ 67 := by omega
  clear hN hm
  obtain ⟨Z, hZ, hmk⟩ := make_ints N (by omega)
  have HZ := hid hZ
  clear hZ
  go_enter Try.func5, Try.ntmps5
  go_upto_region 3 with (go_at_call 23; refine (speaks15_calls _).mono ?_; rintro e w1 ⟨rfl, hb1⟩)
  have Hb1 := hid hb1
  clear hb1
  go_upto_region 6 with (go_at_call 24; refine (doubles15_calls _).mono ?_; rintro e w2 ⟨gn, gt, gp, rfl, hg, hb2⟩)
  obtain ⟨wa, hwa⟩ : ∃ wa, wa = w2.alloc (.cells #[.int .i64 st, .int .i64 1, .slice gn 1 1, .slice gt 1 1, .slice gp 3 3] 41) := ⟨_, rfl⟩
  have hka := Bk.new w2 41 [.int .i64 st, .int .i64 1, .slice gn 1 1, .slice gt 1 1, .slice gp 3 3]
  have hba : Below w2.heap.size w2 (w2.alloc (.cells #[.int .i64 st, .int .i64 1, .slice gn 1 1, .slice gt 1 1, .slice gp 3 3] 41)) := (Below.refl _ _).alloc (Nat.le_refl _) _
  have hga := dbl_in (b := st) (hg.later hba)
  obtain ⟨b, hb⟩ : ∃ b, b = w2.heap.size := ⟨_, rfl⟩
  have Hba := hid (bel0 (bel0 Hb1.out hb2) hba)
  rw [← hwa] at hka hga Hba ⊢
  rw [← hb] at hka ⊢
  have Hga := hid hga
  have Hka := hid hka
  have Hg := hid hg
  clear hwa hb hba hb2 hg hka hga
  by_cases hn : 64 < N
  · have hnb : decide (64 < (N : Int)) = true := by simp; omega
    have hni : 64 < (N : Int) := by omega
    have hz := rightZ hn
    have HZr := hid hz
    clear hz
    go_upto_region 7 with fail
    have HbaD : Hid (Below w.heap.size w wa.drew) := hid (below_drewN Hba.out 1)
    go_cut [8, 9] from 23 to 29 (fun _ v9 wx => v9 = .int .i64 1 ∧ Below w.heap.size w wx)
    case first =>
      go_region_held3 (fun _ => True) (exact trivial) (first
        | (go_at_call 25; refine (tree_bad ?_ ?_ (by simp; omega) HZr.out (by simp)).mono ?_; (first | exact Hg4.out | exact Hg4.out.later (bel_al (bel_id _) _) | exact Hg4.out.later (bel_al (bel_al (bel_id _) _) _)); (first
            | exact rowZ' HZ.out (X := w4) rfl (bel_id _)
            | exact rowZ' HZ.out (X := w4) rfl (bel_al (bel_id _) _)
            | exact rowZ' HZ.out (X := w4.alloc (.cells #[.int .i64 0, .slice none 0 0] 45)) (by simp) (bel_id _)
            | exact rowZ' HZ.out (X := wa.drew) rfl Hb4.out
            | exact rowZ' HZ.out (X := wa.drew) rfl (bel_al Hb4.out _)
            | exact rowZ' HZ.out (X := wa.drew) rfl (bel0 (bel_al (bel_id _) _) Hb4.out)
            | exact rowZ' HZ.out (X := wa.drew.alloc (.cells #[.int .i64 0, .slice none 0 0] 45)) (by simp) Hb4.out); rintro e w5 ⟨p5, gk5, ck5, rfl, hb5⟩; have HX5 : Hid (Below w.heap.size w w5) := hid (by first | exact bel0 HX4.out hb5 | exact bel0 (bel_al HX4.out _) hb5 | exact bel0 (bel_al (bel_al HX4.out _) _) hb5); obtain ⟨hc5, hf5⟩ := bcellT hb5; have hz5 := hb5.size; (try simp at hz5); (try (have q3 : wa.heap.size < w5.heap.size := by omega)); (try (have q4 : wa.heap.size + 1 < w5.heap.size := by omega)); (try (have q5 : w4.heap.size < w5.heap.size := by omega)); (try (have q6 : w4.heap.size + 1 < w5.heap.size := by omega)); clear hb5)
        | (go_at_call 24; refine (doubles15_calls _).mono ?_; rintro e w4 ⟨gn4, gt4, gp4, rfl, hg4, hb4⟩; have Hg4 := hid hg4; have Hb4 := hid hb4; have HX4 : Hid (Below w.heap.size w w4) := hid (by first | exact bel0 HbaD.out hb4 | exact bel0 (bel_al HbaD.out _) hb4 | exact bel0 (bel_al (bel_al HbaD.out _) _) hb4); obtain ⟨hc4, hf4⟩ := bcellT hb4; have hz4 := hb4.size; (try simp at hz4); (try (have q1 : wa.heap.size < w4.heap.size := by omega)); (try (have q2 : wa.heap.size + 1 < w4.heap.size := by omega)); clear hg4 hb4))
      all_goals
        go_wp2_with fail
        go_meet
        case rel =>
          have hsz := HbaD.out.size
          have hsz2 : wa.drew.heap.size = wa.heap.size := rfl
          have hsz4 := HX4.out.size
          first
            | exact ⟨rfl, bel_al HX5.out _⟩
            | exact ⟨rfl, (HX5.out.setCell (by simp; omega) _).setCell (by simp; omega) _⟩
            | (go_goals; sorry)
    case rest =>
      obtain ⟨rfl, hbx⟩ := hcut
      go_wp2_with fail
      have HbxD : Hid (Below w.heap.size w wc.drew) := hid (below_drewN hbx 1)
      go_region_held3 (fun _ => True) (exact trivial) (first
        | (go_at_call 26; refine (nodes_bad ?_ ?_ (by simp; omega) HZr.out (by simp)).mono ?_; (first | exact Hg6.out | exact Hg6.out.later (bel_al (bel_id _) _)); (first
            | exact rowZ' HZ.out (X := w6) rfl (bel_id _)
            | exact rowZ' HZ.out (X := wc.drew) rfl Hb6.out); rintro e w7 ⟨rfl, hb7⟩; have HX7 : Hid (Below w.heap.size w w7) := hid (by first | exact bel0 HX6.out hb7 | exact bel0 (bel_al HX6.out _) hb7); clear hb7)
        | (go_at_call 24; refine (doubles15_calls _).mono ?_; rintro e w6 ⟨gn6, gt6, gp6, rfl, hg6, hb6⟩; have Hg6 := hid hg6; have Hb6 := hid hb6; have HX6 : Hid (Below w.heap.size w w6) := hid (by first | exact bel0 HbxD.out hb6 | exact bel0 (bel_al HbxD.out _) hb6); clear hg6 hb6))
      all_goals
        go_wp2_with fail
        go_ret
        exact ⟨rfl, HX7.out⟩
  · have hnb : decide (64 < (N : Int)) = false := by simp; omega
    have hni : ¬ 64 < (N : Int) := by omega
    have g0 := Hka.out.cell 0
    have g1 := Hka.out.cell 1
    have g2 := Hka.out.cell 2
    have g3 := Hka.out.cell 3
    have g4 := Hka.out.cell 4
    simp only [List.getElem?_cons_zero, List.getElem?_cons_succ] at g0 g1 g2 g3 g4
    have hbt : Below wa.heap.size wa (wa.alloc (.cells #[.int .i64 t] 3)) := bel_al (bel_id _) _
    have hrt : RowI (wa.alloc (.cells #[.int .i64 t] 3)) (wa.alloc (.cells #[.int .i64 t] 3)).heap.size (some ⟨wa.heap.size, 0, none⟩) [t] := bk_rowI (Bk.new wa 3 [.int .i64 t])
    have Hrt := hid hrt
    have Hgt := hid (Hga.out.later hbt)
    clear hrt hbt
    by_cases hst : st = 0 ∧ t = 0
    · obtain ⟨rfl, rfl⟩ := hst
      go_wp2_with (first
        | (go_at_call 25; refine (tree_good Hgt.out Hrt.out).mono ?_; rintro e w5 ⟨p5, gk5, n5, ck5, rfl, hb5⟩; have hk5 := (Hka.out.alloc (.cells #[.int .i64 0] 3)).below hb5 (Hka.out.alloc _).lt; have d0 := hk5.cell 0; have d1 := hk5.cell 1; have d2 := hk5.cell 2; have d3 := hk5.cell 3; have d4 := hk5.cell 4; simp only [List.getElem?_cons_zero, List.getElem?_cons_succ] at d0 d1 d2 d3 d4; have hlt5 : b < w5.heap.size := hk5.lt; have hgg := (Hgt.out.later hb5).later (bel_al (bel_al (bel_id w5) (.cells #[.int .i64 p5, .slice gk5 n5 ck5] 45)) (.cells #[.int .i64 0] 3)); have Hgg := hid hgg; have Hb5 := hid (bel0 (bel_al Hba.out _) hb5); clear hk5 hb5 hgg)
        | (go_at_call 26; refine (nodes_good Hgg.out (bk_rowI (zs := [0]) (bk_at (Bk.new _ 3 [.int .i64 0]) (by simp)))).mono ?_; rintro e w7 ⟨v7, rfl, hv7, hb7⟩; have hv7b : (v7 == -1) = false := beq_eq_false_iff_ne.2 (by omega); have HX7 := hid (bel0 (bel_al (bel_al Hb5.out _) _) hb7); clear hb7))
      go_ret
      exact ⟨rfl, HX7.out⟩
    · have hbad : Le.rightB (dblG st) [t] = false := by rw [dbl_right1]; simp; omega
      have Hbad := hid hbad
      clear hbad
      by_cases hs0 : st = 0
      · subst hs0
        have ht0 : (t != 0) = true := by simp; omega
        have ht1 : ¬ t = 0 := by omega
        clear hst
        go_wp2_with (first
          | (go_at_call 25; refine (tree_bad Hgt.out Hrt.out (by simp) Hbad.out (by simp)).mono ?_; rintro e w5 ⟨p5, gk5, ck5, rfl, hb5⟩; have hk5 := (Hka.out.alloc (.cells #[.int .i64 t] 3)).below hb5 (Hka.out.alloc _).lt; have d0 := hk5.cell 0; have d1 := hk5.cell 1; have d2 := hk5.cell 2; have d3 := hk5.cell 3; have d4 := hk5.cell 4; simp only [List.getElem?_cons_zero, List.getElem?_cons_succ] at d0 d1 d2 d3 d4; have hlt5 : b < w5.heap.size := hk5.lt; have hgg := (Hgt.out.later hb5).later (bel_al (bel_al (bel_id w5) (.cells #[.int .i64 p5, .slice gk5 0 ck5] 45)) (.cells #[.int .i64 t] 3)); have Hgg := hid hgg; have Hb5 := hid (bel0 (bel_al Hba.out _) hb5); clear hk5 hb5 hgg)
          | (go_at_call 26; refine (nodes_bad Hgg.out (bk_rowI (zs := [t]) (bk_at (Bk.new _ 3 [.int .i64 t]) (by simp))) (by simp) Hbad.out (by simp)).mono ?_; rintro e w7 ⟨rfl, hb7⟩; have HX7 := hid (bel0 (bel_al (bel_al Hb5.out _) _) hb7); clear hb7))
        go_ret
        exact ⟨rfl, HX7.out⟩
      · have hs1 : (st != 0) = true := by simp [hs0]
        clear hst
        go_wp2_with (first
          | (go_at_call 25; refine (tree_bad Hgt.out Hrt.out (by simp) Hbad.out (by simp)).mono ?_; rintro e w5 ⟨p5, gk5, ck5, rfl, hb5⟩; have hk5 := (Hka.out.alloc (.cells #[.int .i64 t] 3)).below hb5 (Hka.out.alloc _).lt; have d0 := hk5.cell 0; have d1 := hk5.cell 1; have d2 := hk5.cell 2; have d3 := hk5.cell 3; have d4 := hk5.cell 4; simp only [List.getElem?_cons_zero, List.getElem?_cons_succ] at d0 d1 d2 d3 d4; have hlt5 : b < w5.heap.size := hk5.lt; have hgg := (Hgt.out.later hb5).later (bel_al (bel_al (bel_id w5) (.cells #[.int .i64 p5, .slice gk5 0 ck5] 45)) (.cells #[.int .i64 t] 3)); have Hgg := hid hgg; have Hb5 := hid (bel0 (bel_al Hba.out _) hb5); clear hk5 hb5 hgg)
          | (go_at_call 26; refine (nodes_bad Hgg.out (bk_rowI (zs := [t]) (bk_at (Bk.new _ 3 [.int .i64 t]) (by simp))) (by simp) Hbad.out (by simp)).mono ?_; rintro e w7 ⟨rfl, hb7⟩; have HX7 := hid (bel0 (bel_al (bel_al Hb5.out _) _) hb7); clear hb7))
        go_ret
        exact ⟨rfl, HX7.out⟩
end Go.Proofs.Ytbpgolmbielpgaa
