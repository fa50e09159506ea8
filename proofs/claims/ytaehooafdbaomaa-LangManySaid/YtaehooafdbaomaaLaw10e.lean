/- Chapter 10 (lang): LangMany: walk. Printed by gen/mk10e.py. -/
import Derived.Test.YtaehooafdbaomaaLaw10a
import Derived.Test.YtaehooafdbaomaaLangFit
import Derived.Test.YtaehooafdbaomaaLangBad
namespace Go.Proofs.Ytaehooafdbaomaa
open Go.RowKit
attribute [local go_sem ↓] Go.wp_at_zero Go.wp_at_succ
attribute [local go_sem] frozen_alloc_lt

theorem intInfoM : (Try.prog.info? 3).map (fun i => (i.zero, i.size, i.bytes)) = some (some (.int .i64 0), 1, 8) := by kernel_rfl
theorem prodInfoM : (Try.prog.info? 97).map (fun i => (i.zero, i.size, i.bytes)) = some (some (.agg #[.int .i64 0, .slice none 0 0]), 2, 32) := by kernel_rfl
/-- All words of n terminals of two or three kinds. -/
def manyG (n t : Nat) : Gr := ⟨0, 2, [⟨#[83]⟩, ⟨#[65]⟩], ([⟨#[120]⟩, ⟨#[121]⟩, ⟨#[122]⟩] : List ByteArray).take t, manyP n t⟩
theorem manyP2 (n : Nat) : manyP n 2 = [(0, List.replicate n 1), (1, [-1]), (1, [-2])] := rfl
theorem manyP3 (n : Nat) : manyP n 3 = [(0, List.replicate n 1), (1, [-1]), (1, [-2]), (1, [-3])] := rfl
theorem many_sound2 (m : Nat) (h : m ≤ 3) : Pl.soundB (manyG (9 + m) 2) = true := by
  have : m = 0 ∨ m = 1 ∨ m = 2 ∨ m = 3 := by omega
  rcases this with rfl | rfl | rfl | rfl <;> decide +kernel
theorem many_sound3 (m : Nat) (h : m ≤ 3) : Pl.soundB (manyG (9 + m) 3) = true := by
  have : m = 0 ∨ m = 1 ∨ m = 2 ∨ m = 3 := by omega
  rcases this with rfl | rfl | rfl | rfl <;> decide +kernel
theorem many_gin2 {w : World} {n bN bT bR b1 b2 bP cR : Nat} (h : n ≤ 12) (kN : Bk w bN 9 [.string ⟨#[83]⟩, .string ⟨#[65]⟩]) (kT : Bk w bT 9 [.string ⟨#[120]⟩, .string ⟨#[121]⟩]) (kR : Bk w bR 3 ((List.replicate n (1 : Int)).map (Value.int .i64)))
    (k1 : Bk w b1 3 [.int .i64 (-1)]) (k2 : Bk w b2 3 [.int .i64 (-2)]) (kP : Bk w bP 97 [.int .i64 0, .slice (some ⟨bR, 0, none⟩) n cR, .int .i64 1, .slice (some ⟨b1, 0, none⟩) 1 1, .int .i64 1, .slice (some ⟨b2, 0, none⟩) 1 1]) (hc : n ≤ cR) :
    GIn w (manyG n 2) (some ⟨bN, 0, none⟩) (some ⟨bT, 0, none⟩) (some ⟨bP, 0, none⟩) ∧ CapP w (some ⟨bP, 0, none⟩) (manyG n 2).prods := by
  refine ⟨⟨bk_rowS kN, bk_rowS kT, fun i x hx => ?_, by show 2 ≤ _; omega, by show 2 ≤ _; omega, by show (manyP n 2).length ≤ _; rw [manyP2]; simp, fun x hx => ?_⟩, fun i x hx => ?_⟩
  · change (manyP n 2)[i]? = some x at hx
    rw [manyP2] at hx
    match i, hx with
    | 0, hx => cases hx; exact ⟨_, 0, _, _, rfl, kP.lt, kP.cell 0, by simpa using kP.cell 1, bk_rowI kR⟩
    | 1, hx => cases hx; exact ⟨_, 0, _, _, rfl, kP.lt, kP.cell 2, kP.cell 3, bk_rowI k1⟩
    | 2, hx => cases hx; exact ⟨_, 0, _, _, rfl, kP.lt, kP.cell 4, kP.cell 5, bk_rowI k2⟩
    | i + 3, hx => simp at hx
  · change x ∈ manyP n 2 at hx
    rw [manyP2] at hx
    simp at hx
    rcases hx with rfl | rfl | rfl <;> simp <;> omega
  · change (manyP n 2)[i]? = some x at hx
    rw [manyP2] at hx
    match i, hx with
    | 0, hx => cases hx; exact ⟨_, 0, _, cR, rfl, kP.lt, by simpa using kP.cell 1, by simpa using hc⟩
    | 1, hx => cases hx; exact ⟨_, 0, _, 1, rfl, kP.lt, kP.cell 3, Nat.le_refl _⟩
    | 2, hx => cases hx; exact ⟨_, 0, _, 1, rfl, kP.lt, kP.cell 5, Nat.le_refl _⟩
    | i + 3, hx => simp at hx
theorem many_gin3 {w : World} {n bN bT bR b1 b2 b3 bP cR : Nat} (h : n ≤ 12) (kN : Bk w bN 9 [.string ⟨#[83]⟩, .string ⟨#[65]⟩]) (kT : Bk w bT 9 [.string ⟨#[120]⟩, .string ⟨#[121]⟩, .string ⟨#[122]⟩]) (kR : Bk w bR 3 ((List.replicate n (1 : Int)).map (Value.int .i64)))
    (k1 : Bk w b1 3 [.int .i64 (-1)]) (k2 : Bk w b2 3 [.int .i64 (-2)]) (k3 : Bk w b3 3 [.int .i64 (-3)])
    (kP : ∀ (j : Nat) (u : Value), ([.int .i64 0, .slice (some ⟨bR, 0, none⟩) n cR, .int .i64 1, .slice (some ⟨b1, 0, none⟩) 1 1, .int .i64 1, .slice (some ⟨b2, 0, none⟩) 1 1, .int .i64 1, .slice (some ⟨b3, 0, none⟩) 1 1] : List Value)[j]? = some u → w.cell? ⟨bP, j, none⟩ = some u) (hP : bP < w.heap.size) (hc : n ≤ cR) :
    GIn w (manyG n 3) (some ⟨bN, 0, none⟩) (some ⟨bT, 0, none⟩) (some ⟨bP, 0, none⟩) ∧ CapP w (some ⟨bP, 0, none⟩) (manyG n 3).prods := by
  refine ⟨⟨bk_rowS kN, bk_rowS kT, fun i x hx => ?_, by show 2 ≤ _; omega, by show 3 ≤ _; omega, by show (manyP n 3).length ≤ _; rw [manyP3]; simp, fun x hx => ?_⟩, fun i x hx => ?_⟩
  · change (manyP n 3)[i]? = some x at hx
    rw [manyP3] at hx
    match i, hx with
    | 0, hx => cases hx; exact ⟨_, 0, _, _, rfl, hP, kP 0 _ rfl, by simpa using kP 1 _ rfl, bk_rowI kR⟩
    | 1, hx => cases hx; exact ⟨_, 0, _, _, rfl, hP, kP 2 _ rfl, kP 3 _ rfl, bk_rowI k1⟩
    | 2, hx => cases hx; exact ⟨_, 0, _, _, rfl, hP, kP 4 _ rfl, kP 5 _ rfl, bk_rowI k2⟩
    | 3, hx => cases hx; exact ⟨_, 0, _, _, rfl, hP, kP 6 _ rfl, kP 7 _ rfl, bk_rowI k3⟩
    | i + 4, hx => simp at hx
  · change x ∈ manyP n 3 at hx
    rw [manyP3] at hx
    simp at hx
    rcases hx with rfl | rfl | rfl | rfl <;> simp <;> omega
  · change (manyP n 3)[i]? = some x at hx
    rw [manyP3] at hx
    match i, hx with
    | 0, hx => cases hx; exact ⟨_, 0, _, cR, rfl, hP, by simpa using kP 1 _ rfl, by simpa using hc⟩
    | 1, hx => cases hx; exact ⟨_, 0, _, 1, rfl, hP, kP 3 _ rfl, Nat.le_refl _⟩
    | 2, hx => cases hx; exact ⟨_, 0, _, 1, rfl, hP, kP 5 _ rfl, Nat.le_refl _⟩
    | 3, hx => cases hx; exact ⟨_, 0, _, 1, rfl, hP, kP 7 _ rfl, Nat.le_refl _⟩
    | i + 4, hx => simp at hx
/-- As many words as there may be. -/
theorem many_yes (w : World) (m : Nat) (hm : m ≤ 3) (gn gt gp : Option Addr) (cn ct cp most : Nat) (h64 : most ≤ 64) (hg : GIn w (manyG (9 + m) 2) gn gt gp) (hc : CapP w gp (manyG (9 + m) 2).prods) :
    Calls Try.prog 53 #[.agg #[.int .i64 0, .int .i64 2, .slice gn 2 cn, .slice gt 2 ct, .slice gp 3 cp], .int .i64 (most : Int)] w fun e w' => ∃ (ga : Option Addr) (ca k : Nat), e = .returned (.tuple #[.slice ga k ca, .int .i64 0]) ∧ (9 + m ≤ most → k = 2 ^ (9 + m)) ∧ Below w.heap.size w w' := by
  refine (words_calls w (manyG (9 + m) 2) gn gt gp cn ct cp most h64 (many_sound2 m hm) hg hc).mono ?_
  rintro e w' ⟨h1 | ⟨-, ks, live, -, -, h2⟩, hb⟩
  · obtain ⟨v, ss, rfl, hp, hz, -, ho⟩ := h1
    obtain ⟨ga, ca, rfl⟩ := ho.slice
    exact ⟨ga, ca, ss.length, rfl, fun h => many_words (by omega) hp hz h, hb⟩
  · exact (many_fit (by omega) h2).elim
/-- More of them. -/
theorem many_no (w : World) (m : Nat) (hm : m ≤ 3) (gn gt gp : Option Addr) (cn ct cp : Nat) (hg : GIn w (manyG (9 + m) 3) gn gt gp) (hc : CapP w gp (manyG (9 + m) 3).prods) :
    Calls Try.prog 53 #[.agg #[.int .i64 0, .int .i64 2, .slice gn 2 cn, .slice gt 3 ct, .slice gp 4 cp], .int .i64 ((9 + m : Nat) : Int)] w fun e w' => e = .returned (.tuple #[.slice none 0 0, .int .i64 6]) ∧ Below w.heap.size w w' := by
  refine (words_calls w (manyG (9 + m) 3) gn gt gp cn ct cp (9 + m) (by omega) (many_sound3 m hm) hg hc).mono ?_
  rintro e w' ⟨h1 | ⟨rfl, -⟩, hb⟩
  · obtain ⟨v, ss, -, hp, hz, hl, -⟩ := h1
    exact (many_over (by omega) (Nat.le_refl _) hp hz hl).elim
  · exact ⟨rfl, hb⟩
theorem many_bad (w : World) (m : Nat) (hm : m ≤ 3) (gn gt gp : Option Addr) (cn ct cp : Nat) (a : Int) (ha : a < 0 ∨ 64 < a) (hg : GIn w (manyG (9 + m) 2) gn gt gp) :
    Calls Try.prog 53 #[.agg #[.int .i64 0, .int .i64 2, .slice gn 2 cn, .slice gt 2 ct, .slice gp 3 cp], .int .i64 a] w fun e w' => e = .returned (.tuple #[.slice none 0 0, .int .i64 1]) ∧ Below w.heap.size w w' :=
  words_bad w (manyG (9 + m) 2) gn gt gp cn ct cp a ha (many_sound2 m hm) hg
def LmAt (w0 : World) (bR N : Nat) (k : Nat) (v : Value) (w : World) : Prop := ∃ i : Nat, v = .int .i64 i ∧ i ≤ N ∧ k = N - i ∧ Bk w bR 3 ((List.replicate i (1 : Int) ++ List.replicate (N - i) 0).map (Value.int .i64)) ∧ Kp (fun k => k = bR) w0 w
set_option maxHeartbeats 16000000 in
set_option maxRecDepth 8000 in
theorem lmany10_calls (n a : Int) (w : World) : Calls Try.prog 13 #[.int .i64 n, .int .i64 a] w fun e w' => e = .returned (.bool true) ∧ Below w.heap.size w w' := by
  obtain ⟨i3, hi3, z0, z1, z2⟩ := info_parts intInfoM
  obtain ⟨i5, hi5, y0, y1, y2⟩ := info_parts prodInfoM
  obtain ⟨m, hm, hand⟩ := and3 n
  obtain ⟨N, hN⟩ : ∃ N, N = 9 + m := ⟨_, rfl⟩
  have hNm : (9 : Int) + (m : Int) = (N : Int) := by omega
  have hN12 : N ≤ 12 := by omega
  have hNI : (N : Int) ≤ 12 := by omega
  have HN := hid (And.intro hN hm)
  clear hm hN
  go_enter Try.func13, Try.ntmps13
  go_upto_region 3 with (go_at_call 51; refine (speaks10_calls _).mono ?_; rintro e w1 ⟨rfl, hb1⟩)
  have Hb1 := hid hb1
  clear hb1
  go_upto_region 5 with (at_make; refine wpList_make_bk _ rfl _ _ _ rfl 3 i3 _ Try.underlying22 hi3 z0 z1 rfl _ _ N rfl rfl rfl rfl (by rw [z2]; omega) (by omega) ?_; intro w3 hba hk3)
  have kN := ((((((Bk.new w1 9 [.string ⟨#[83]⟩, .string ⟨#[65]⟩]).alloc (.cells #[.string ⟨#[120]⟩, .string ⟨#[121]⟩] 9)).kp hk3 (fun h => h)).alloc (.cells #[.int .i64 (-1)] 3)).alloc (.cells #[.int .i64 (-2)] 3)).alloc (.cells #[.int .i64 0, .slice (some ⟨w1.heap.size + 1 + 1, 0, none⟩) N N, .int .i64 1, .slice (some ⟨w3.heap.size, 0, none⟩) 1 1, .int .i64 1, .slice (some ⟨w3.heap.size + 1, 0, none⟩) 1 1] 97)).alloc (.cells #[.int .i64 0, .int .i64 2, .slice (some ⟨w1.heap.size, 0, none⟩) 2 2, .slice (some ⟨w1.heap.size + 1, 0, none⟩) 2 2, .slice (some ⟨w3.heap.size + 1 + 1, 0, none⟩) 3 3] 30)
  have kT := bk_at (((((((Bk.new (w1.alloc (.cells #[.string ⟨#[83]⟩, .string ⟨#[65]⟩] 9)) 9 [.string ⟨#[120]⟩, .string ⟨#[121]⟩]).kp hk3 (fun h => h)).alloc (.cells #[.int .i64 (-1)] 3)).alloc (.cells #[.int .i64 (-2)] 3)).alloc (.cells #[.int .i64 0, .slice (some ⟨w1.heap.size + 1 + 1, 0, none⟩) N N, .int .i64 1, .slice (some ⟨w3.heap.size, 0, none⟩) 1 1, .int .i64 1, .slice (some ⟨w3.heap.size + 1, 0, none⟩) 1 1] 97)).alloc (.cells #[.int .i64 0, .int .i64 2, .slice (some ⟨w1.heap.size, 0, none⟩) 2 2, .slice (some ⟨w1.heap.size + 1, 0, none⟩) 2 2, .slice (some ⟨w3.heap.size + 1 + 1, 0, none⟩) 3 3] 30))) (show _ = w1.heap.size + 1 by simp)
  have kR := bk_at (((((hba.alloc (.cells #[.int .i64 (-1)] 3)).alloc (.cells #[.int .i64 (-2)] 3)).alloc (.cells #[.int .i64 0, .slice (some ⟨w1.heap.size + 1 + 1, 0, none⟩) N N, .int .i64 1, .slice (some ⟨w3.heap.size, 0, none⟩) 1 1, .int .i64 1, .slice (some ⟨w3.heap.size + 1, 0, none⟩) 1 1] 97)).alloc (.cells #[.int .i64 0, .int .i64 2, .slice (some ⟨w1.heap.size, 0, none⟩) 2 2, .slice (some ⟨w1.heap.size + 1, 0, none⟩) 2 2, .slice (some ⟨w3.heap.size + 1 + 1, 0, none⟩) 3 3] 30))) (show _ = w1.heap.size + 1 + 1 by simp)
  have k1 := (((Bk.new w3 3 [.int .i64 (-1)]).alloc (.cells #[.int .i64 (-2)] 3)).alloc (.cells #[.int .i64 0, .slice (some ⟨w1.heap.size + 1 + 1, 0, none⟩) N N, .int .i64 1, .slice (some ⟨w3.heap.size, 0, none⟩) 1 1, .int .i64 1, .slice (some ⟨w3.heap.size + 1, 0, none⟩) 1 1] 97)).alloc (.cells #[.int .i64 0, .int .i64 2, .slice (some ⟨w1.heap.size, 0, none⟩) 2 2, .slice (some ⟨w1.heap.size + 1, 0, none⟩) 2 2, .slice (some ⟨w3.heap.size + 1 + 1, 0, none⟩) 3 3] 30)
  have k2 := bk_at (((Bk.new (w3.alloc (.cells #[.int .i64 (-1)] 3)) 3 [.int .i64 (-2)]).alloc (.cells #[.int .i64 0, .slice (some ⟨w1.heap.size + 1 + 1, 0, none⟩) N N, .int .i64 1, .slice (some ⟨w3.heap.size, 0, none⟩) 1 1, .int .i64 1, .slice (some ⟨w3.heap.size + 1, 0, none⟩) 1 1] 97)).alloc (.cells #[.int .i64 0, .int .i64 2, .slice (some ⟨w1.heap.size, 0, none⟩) 2 2, .slice (some ⟨w1.heap.size + 1, 0, none⟩) 2 2, .slice (some ⟨w3.heap.size + 1 + 1, 0, none⟩) 3 3] 30)) (show _ = w3.heap.size + 1 by simp)
  have kP := bk_at ((Bk.new ((w3.alloc (.cells #[.int .i64 (-1)] 3)).alloc (.cells #[.int .i64 (-2)] 3)) 97 [.int .i64 0, .slice (some ⟨w1.heap.size + 1 + 1, 0, none⟩) N N, .int .i64 1, .slice (some ⟨w3.heap.size, 0, none⟩) 1 1, .int .i64 1, .slice (some ⟨w3.heap.size + 1, 0, none⟩) 1 1]).alloc (.cells #[.int .i64 0, .int .i64 2, .slice (some ⟨w1.heap.size, 0, none⟩) 2 2, .slice (some ⟨w1.heap.size + 1, 0, none⟩) 2 2, .slice (some ⟨w3.heap.size + 1 + 1, 0, none⟩) 3 3] 30)) (show _ = w3.heap.size + 1 + 1 by simp)
  have kG := bk_at (Bk.new (((w3.alloc (.cells #[.int .i64 (-1)] 3)).alloc (.cells #[.int .i64 (-2)] 3)).alloc (.cells #[.int .i64 0, .slice (some ⟨w1.heap.size + 1 + 1, 0, none⟩) N N, .int .i64 1, .slice (some ⟨w3.heap.size, 0, none⟩) 1 1, .int .i64 1, .slice (some ⟨w3.heap.size + 1, 0, none⟩) 1 1] 97)) 30 [.int .i64 0, .int .i64 2, .slice (some ⟨w1.heap.size, 0, none⟩) 2 2, .slice (some ⟨w1.heap.size + 1, 0, none⟩) 2 2, .slice (some ⟨w3.heap.size + 1 + 1, 0, none⟩) 3 3]) (show _ = w3.heap.size + 1 + 1 + 1 by simp)
  have hk4 : Kp (fun _ => False) w1 ((((w3.alloc (.cells #[.int .i64 (-1)] 3)).alloc (.cells #[.int .i64 (-2)] 3)).alloc (.cells #[.int .i64 0, .slice (some ⟨w1.heap.size + 1 + 1, 0, none⟩) N N, .int .i64 1, .slice (some ⟨w3.heap.size, 0, none⟩) 1 1, .int .i64 1, .slice (some ⟨w3.heap.size + 1, 0, none⟩) 1 1] 97)).alloc (.cells #[.int .i64 0, .int .i64 2, .slice (some ⟨w1.heap.size, 0, none⟩) 2 2, .slice (some ⟨w1.heap.size + 1, 0, none⟩) 2 2, .slice (some ⟨w3.heap.size + 1 + 1, 0, none⟩) 3 3] 30)) := ((((((((Kp.refl _ w1).alloc _).alloc _).trans hk3).alloc _).alloc _).alloc _).alloc _)
  have hs3 : w1.heap.size + 1 + 1 < w3.heap.size := by have := hba.lt; simpa using this
  obtain ⟨W, hW⟩ : ∃ W, W = ((((w3.alloc (.cells #[.int .i64 (-1)] 3)).alloc (.cells #[.int .i64 (-2)] 3)).alloc (.cells #[.int .i64 0, .slice (some ⟨w1.heap.size + 1 + 1, 0, none⟩) N N, .int .i64 1, .slice (some ⟨w3.heap.size, 0, none⟩) 1 1, .int .i64 1, .slice (some ⟨w3.heap.size + 1, 0, none⟩) 1 1] 97)).alloc (.cells #[.int .i64 0, .int .i64 2, .slice (some ⟨w1.heap.size, 0, none⟩) 2 2, .slice (some ⟨w1.heap.size + 1, 0, none⟩) 2 2, .slice (some ⟨w3.heap.size + 1 + 1, 0, none⟩) 3 3] 30)) := ⟨_, rfl⟩
  rw [← hW] at kN kT kR k1 k2 kP kG hk4 ⊢
  obtain ⟨bN, hbN⟩ : ∃ bN, bN = w1.heap.size := ⟨_, rfl⟩
  obtain ⟨bT, hbT⟩ : ∃ bT, bT = w1.heap.size + 1 := ⟨_, rfl⟩
  obtain ⟨bR, hbR⟩ : ∃ bR, bR = w1.heap.size + 1 + 1 := ⟨_, rfl⟩
  obtain ⟨b1, hb1⟩ : ∃ b1, b1 = w3.heap.size := ⟨_, rfl⟩
  obtain ⟨b2, hb2⟩ : ∃ b2, b2 = w3.heap.size + 1 := ⟨_, rfl⟩
  obtain ⟨bP, hbP⟩ : ∃ bP, bP = w3.heap.size + 1 + 1 := ⟨_, rfl⟩
  obtain ⟨bG, hbG⟩ : ∃ bG, bG = w3.heap.size + 1 + 1 + 1 := ⟨_, rfl⟩
  rw [← hbR, ← hbP] at kP
  rw [← hbG, ← hbP] at kG
  rw [← hbT] at kT kG
  rw [← hbN] at kN kG
  rw [← hbR] at kR
  rw [← hb2] at k2 kP
  rw [← hb1] at k1 kP
  rw [← hbG, ← hbP, ← hb2, ← hb1, ← hbR, ← hbT, ← hbN]
  have hne : bN ≠ bR ∧ bT ≠ bR ∧ b1 ≠ bR ∧ b2 ≠ bR ∧ bP ≠ bR ∧ bG ≠ bR ∧ w1.heap.size ≤ bR := by omega
  have Hk := hid (And.intro kN (And.intro kT (And.intro k1 (And.intro k2 (And.intro kP kG)))))
  have Hne := hid hne
  have Hk4 := hid hk4
  have HkR := hid kR
  clear kN kT kR k1 k2 kP kG hne hk4 hW hbN hbT hbR hb1 hb2 hbP hbG hs3 hk3 hba
  go_wp2_with fail
  go_loopg [6] N (fun k v6 wr => LmAt W bR N k v6 wr)
  case atStart => exact ⟨0, rfl, Nat.zero_le _, rfl, by simpa using HkR.out, Kp.refl _ _⟩
  case round =>
    obtain ⟨i, rfl, hi, hk, hb, hkp⟩ := hrel
    have HkI := hid hk
    have Hkp := hid hkp
    have HbR := hid hb
    have hne := Hne.out
    by_cases hlt : i < N
    · have hlt' : (i : Int) < (N : Int) := by omega
      have hi0 : (0 : Int) ≤ (i : Int) := by omega
      have g4 := (Hk.out.2.2.2.2.2.kp hkp hne.2.2.2.2.2.1).cell 4
      have p1 := (Hk.out.2.2.2.2.1.kp hkp hne.2.2.2.2.1).cell 1
      simp only [List.getElem?_cons_zero, List.getElem?_cons_succ] at g4 p1
      have cR : wr.cell? ⟨bR, i, none⟩ = some (.int .i64 0) := by
        rw [hb.cell i, List.getElem?_map, List.getElem?_append_right (by simp), List.getElem?_replicate, if_pos (by simp; omega)]; rfl
      have fR := hb.free i
      have hset : Bk (wr.setCell ⟨bR, i, none⟩ (.int .i64 1)) bR 3 ((List.replicate (i + 1) (1 : Int) ++ List.replicate (N - (i + 1)) 0).map (Value.int .i64)) := by
        refine (hb.set i (.int .i64 1)).of ?_
        rw [List.map_append, List.map_append, List.set_append_right _ _ (by simp), List.length_map, List.length_replicate, Nat.sub_self, show N - i = (N - (i + 1)) + 1 by omega, List.replicate_succ, List.map_cons, List.set_cons_zero, List.replicate_succ', List.map_append, List.append_assoc]
        rfl
      have hkp2 : Kp (fun k => k = bR) W (wr.setCell ⟨bR, i, none⟩ (.int .i64 1)) := hkp.set (p := ⟨bR, i, none⟩) (.inl rfl) _
      have Hset := hid (And.intro hset hkp2)
      have Hlt := hid hlt
      clear hk hb hkp hi hlt hset hkp2 hne
      go_wp2_with fail
      go_roundg (N - (i + 1))
      case measure => have := HkI.out; have := Hlt.out; omega
      case rel => exact ⟨i + 1, by go_num, Hlt.out, rfl, Hset.out.1, Hset.out.2⟩
    · have hge : ¬ (i : Int) < (N : Int) := by omega
      have kRR : Bk wr bR 3 ((List.replicate N (1 : Int)).map (Value.int .i64)) := hb.of (by rw [show i = N by omega]; simp)
      have kNN := Hk.out.1.kp hkp hne.1
      have kTT := Hk.out.2.1.kp hkp hne.2.1
      have k11 := Hk.out.2.2.1.kp hkp hne.2.2.1
      have k22 := Hk.out.2.2.2.1.kp hkp hne.2.2.2.1
      have kPP := Hk.out.2.2.2.2.1.kp hkp hne.2.2.2.2.1
      have kGG := Hk.out.2.2.2.2.2.kp hkp hne.2.2.2.2.2.1
      have hbw : Below w.heap.size w wr := belw Hb1.out ((Hk4.out.to_below (Nat.le_refl _) (fun _ e => e.elim)).trans (hkp.to_below (by have := Hk4.out.size; omega) (fun k e => by omega)))
      obtain ⟨hgin, hcap⟩ := many_gin2 (n := N) hN12 kNN kTT kRR k11 k22 kPP (Nat.le_refl _)
      rw [HN.out.1] at hgin hcap
      have hy := fun W' (hW : Below wr.heap.size wr W') (q : Nat) (hq : q ≤ 64) => many_yes W' m HN.out.2 _ _ _ 2 2 3 q hq (hgin.later hW) (hcap.later hW)
      have hbd := fun W' (hW : Below wr.heap.size wr W') (ha : a < 0 ∨ 64 < a) => many_bad W' m HN.out.2 _ _ _ 2 2 3 a ha (hgin.later hW)
      rw [← HN.out.1] at hy
      have Hy := hid hy
      have Hbd := hid hbd
      have Hbw := hid hbw
      have HK := hid (And.intro kRR (And.intro kNN (And.intro kTT (And.intro k11 (And.intro k22 (And.intro kPP kGG))))))
      have g0 := kGG.cell 0
      have g1 := kGG.cell 1
      have g2 := kGG.cell 2
      have g3 := kGG.cell 3
      have g4 := kGG.cell 4
      simp only [List.getElem?_cons_zero, List.getElem?_cons_succ] at g0 g1 g2 g3 g4
      have Hy0 := hid (hy wr (Below.refl _ _) N (by omega))
      clear hk hb hkp hi hlt kRR kNN kTT k11 k22 kPP kGG hbw hgin hcap hy hbd hne HbR
      go_upto_region 10 with (go_at_call 53; refine Hy0.out.mono ?_; rintro e w5 ⟨ga, ca, kn, rfl, hkn, hb5⟩)
      have hkn2 : kn = 2 ^ N := hkn (Nat.le_refl _)
      have hN9 : N = 9 ∨ N = 10 ∨ N = 11 ∨ N = 12 := by have := HN.out; omega
      have HN9 := hid (And.intro hN9 hkn2)
      have Hb5 := hid hb5
      have kG5 := HK.out.2.2.2.2.2.2.below hb5 HK.out.2.2.2.2.2.2.lt
      have h0 := kG5.cell 0
      have h1 := kG5.cell 1
      have h2 := kG5.cell 2
      have h3 := kG5.cell 3
      have h4 := kG5.cell 4
      simp only [List.getElem?_cons_zero, List.getElem?_cons_succ] at h0 h1 h2 h3 h4
      clear hkn hkn2 hN9 hb5 g0 g1 g2 g3 g4 kG5
      go_cut [57] from 49 to 57 (fun v57 wx => v57 = .bool false ∧ wx = w5)
      case first =>
        obtain ⟨hN9, hkn2⟩ := HN9.out
        clear hNm hge
        rcases hN9 with rfl | rfl | rfl | rfl
        all_goals
          subst hkn2
          go_wp2_with fail
          go_meet
          exact ⟨rfl, rfl⟩
      case rest =>
      obtain ⟨rfl, hwc⟩ := hcut
      subst wc
      clear HN9
      go_upto_region 14 with fail
      have hbc : Below wr.heap.size wr w5 := Hb5.out
      have kQ := (Bk.new w5 30 [.int .i64 0, .int .i64 2, .slice (some ⟨bN, 0, none⟩) 2 2, .slice (some ⟨w5.heap.size + 1, 0, none⟩) 3 3, .slice (some ⟨bP, 0, none⟩) 3 3]).alloc (.cells #[.string ⟨#[120]⟩, .string ⟨#[121]⟩, .string ⟨#[122]⟩] 9)
      have kT3 := bk_at (Bk.new (w5.alloc (.cells #[.int .i64 0, .int .i64 2, .slice (some ⟨bN, 0, none⟩) 2 2, .slice (some ⟨w5.heap.size + 1, 0, none⟩) 3 3, .slice (some ⟨bP, 0, none⟩) 3 3] 30)) 9 [.string ⟨#[120]⟩, .string ⟨#[121]⟩, .string ⟨#[122]⟩]) (show _ = w5.heap.size + 1 by simp)
      have hb14 : Below wr.heap.size wr ((w5.alloc (.cells #[.int .i64 0, .int .i64 2, .slice (some ⟨bN, 0, none⟩) 2 2, .slice (some ⟨w5.heap.size + 1, 0, none⟩) 3 3, .slice (some ⟨bP, 0, none⟩) 3 3] 30)).alloc (.cells #[.string ⟨#[120]⟩, .string ⟨#[121]⟩, .string ⟨#[122]⟩] 9)) := bel_al (bel_al hbc _) _
      obtain ⟨w6, hw6⟩ : ∃ w6, w6 = ((w5.alloc (.cells #[.int .i64 0, .int .i64 2, .slice (some ⟨bN, 0, none⟩) 2 2, .slice (some ⟨w5.heap.size + 1, 0, none⟩) 3 3, .slice (some ⟨bP, 0, none⟩) 3 3] 30)).alloc (.cells #[.string ⟨#[120]⟩, .string ⟨#[121]⟩, .string ⟨#[122]⟩] 9)) := ⟨_, rfl⟩
      obtain ⟨bQ, hbQ⟩ : ∃ bQ, bQ = w5.heap.size := ⟨_, rfl⟩
      obtain ⟨bU, hbU⟩ : ∃ bU, bU = w5.heap.size + 1 := ⟨_, rfl⟩
      have hQw : wr.heap.size ≤ bQ := by rw [hbQ]; exact hbc.size
      have hQU : bQ ≠ bU := by omega
      rw [← hw6] at kQ kT3 hb14 ⊢
      rw [← hbU] at kQ kT3 ⊢
      rw [← hbQ] at kQ ⊢
      -- the copy of the productions
      have kP6 := HK.out.2.2.2.2.2.1.below hb14 HK.out.2.2.2.2.2.1.lt
      have kG6 := HK.out.2.2.2.2.2.2.below hb14 HK.out.2.2.2.2.2.2.lt
      have hal : Kp (fun _ => False) w6 (w6.alloc (.cells #[] 97)) := (Kp.refl _ w6).alloc _
      obtain ⟨g7, c7, w7, hrun7, ho7, hgr7, -, -⟩ := run_append_lies (P := Try.prog) (w6.alloc (.cells #[] 97)) 28 28 w6.heap.size 97 i5 (.agg #[.int .i64 0, .slice none 0 0]) 2 32 Try.underlying28 hi5 y0 y1 y2 rfl (by omega) (.slice (some ⟨w6.heap.size, 0, none⟩) 0 0) 0 []
        ⟨rfl, .inr ⟨w6.heap.size, 0, #[], rfl, Nat.le_refl _, heap_alloc_new _ _, Nat.le_refl _, by unfold maxLen; omega, by simp, by simp⟩⟩
        ⟨bP, 0, none⟩ 3 3 [.int .i64 0, .slice (some ⟨bR, 0, none⟩) N N, .int .i64 1, .slice (some ⟨b1, 0, none⟩) 1 1, .int .i64 1, .slice (some ⟨b2, 0, none⟩) 1 1] rfl
        (fun j u hj => by rw [addr_add0]; exact ((kP6.alloc _).cell j).trans hj) (fun u hu => by simp at hu; rcases hu with rfl | rfl | rfl | rfl | rfl | rfl <;> rfl) (by omega) (by unfold maxLen; omega) (by omega) hal.size (w6.heap.size + 1) (by simp)
      rw [List.nil_append, Nat.zero_add] at ho7
      rw [Nat.zero_add] at hrun7
      have hk7 : Kp (fun _ => False) w6 w7 := hal.grown hgr7 (fun k hk hlt => by
        have e : w6.heap.size = k := by simpa [Value.ownBlock] using hk
        omega)
      have hg7 := (World.ownsRow.lt ho7 g7 rfl).1
      have kQ7 := kQ.kp hk7 (fun h => h)
      have c74 := kQ7.cell 4
      have f74 := kQ7.free 4
      have kQ8 := kQ7.set 4 (.slice (some ⟨g7, 0, none⟩) 3 c7)
      have hk8 : Kp (fun k => k = bQ) w7 (w7.setCell ⟨bQ, 4, none⟩ (.slice (some ⟨g7, 0, none⟩) 3 c7)) := (Kp.refl (fun k => k = bQ) w7).set (p := ⟨bQ, 4, none⟩) (.inl rfl) _
      have hgQ : g7 ≠ bQ := by have := kQ.lt; omega
      have ho8 := own_kp ho7 hk8 (fun g hg e => hgQ ((show g7 = g by simpa [Value.ownBlock] using hg).trans e))
      have hc64 : (w6.alloc (.cells #[] 97)).cell? ⟨bG, 4, none⟩ = some (.slice (some ⟨bP, 0, none⟩) 3 3) := (kG6.alloc _).cell 4
      simp only [List.getElem?_cons_zero, List.getElem?_cons_succ] at c74
      simp only [List.set_cons_zero, List.set_cons_succ] at kQ8
      have H7 := hid (And.intro ho8 (And.intro hg7 (And.intro hk7 (And.intro hk8 (And.intro kQ8 (And.intro kT3 (And.intro hb14 (And.intro hQw (And.intro hgQ hQU)))))))))
      clear hbc kQ kT3 hb14 hw6 hbQ hbU hQw hQU kP6 kG6 hal ho7 hgr7 hk7 hg7 kQ7 kQ8 hk8 hgQ ho8 h0 h1 h2 h3 h4
      go_upto_region 15 with (at_builtin; refine wpList_append_run rfl _ _ _ rfl (.slice (some ⟨w6.heap.size, 0, none⟩) 0 0) (.slice (some ⟨bP, 0, none⟩) 3 3) (.slice (some ⟨g7, 0, none⟩) 3 c7) w7 (by rfl) (by rfl) (by exact hrun7) ?_)
      obtain ⟨ho8, hg7, hk7, hk8, kQ8, kT3, hb14, hQw, hgQ, hQU⟩ := H7.out
      obtain ⟨w8, hw8⟩ : ∃ w8, w8 = w7.setCell ⟨bQ, 4, none⟩ (.slice (some ⟨g7, 0, none⟩) 3 c7) := ⟨_, rfl⟩
      rw [← hw8] at ho8 hk8 kQ8 ⊢
      have hQ6 := kQ8.lt
      have hs8 : w8.heap.size = w7.heap.size := by rw [hw8]; simp [World.setCell]
      have hg8 : g7 < w8.heap.size := (World.ownsRow.lt ho8 g7 rfl).2
      have hU6 := kT3.lt
      have hs7 := hk7.size
      have hal8 : Kp (fun _ => False) w8 ((w8.alloc (.cells #[.int .i64 (-3)] 3)).alloc (.cells #[.int .i64 1, .slice (some ⟨w8.heap.size, 0, none⟩) 1 1] 97)) := ((Kp.refl _ w8).alloc _).alloc _
      obtain ⟨g9, c9, w9, hrun9, ho9, hgr9, hat9, -⟩ := run_append_lies (P := Try.prog) ((w8.alloc (.cells #[.int .i64 (-3)] 3)).alloc (.cells #[.int .i64 1, .slice (some ⟨w8.heap.size, 0, none⟩) 1 1] 97)) 28 28 w6.heap.size 97 i5 (.agg #[.int .i64 0, .slice none 0 0]) 2 32 Try.underlying28 hi5 y0 y1 y2 rfl (by omega) (.slice (some ⟨g7, 0, none⟩) 3 c7) 3 _
        ((ho8.alloc _).alloc _) ⟨w8.heap.size + 1, 0, none⟩ 1 1 [.int .i64 1, .slice (some ⟨w8.heap.size, 0, none⟩) 1 1] rfl
        (fun j u hj => by rw [addr_add0]; exact ((bk_at (Bk.new (w8.alloc (.cells #[.int .i64 (-3)] 3)) 97 [.int .i64 1, .slice (some ⟨w8.heap.size, 0, none⟩) 1 1]) (show _ = w8.heap.size + 1 by simp)).cell j).trans hj) (fun u hu => by simp at hu; rcases hu with rfl | rfl <;> rfl) (by omega) (by unfold maxLen; omega) (by omega) (by have := hal8.size; omega) (w8.heap.size + 1 + 1) (by simp)
      have hk9 : Kp (fun k => k = g7) w8 w9 := (hal8.mono fun _ _ e => e.elim).grown hgr9 (fun k hk _ => by
        have e : g7 = k := by simpa [Value.ownBlock] using hk
        exact e.symm)
      have kQ9 := kQ8.kp hk9 (Ne.symm hgQ)
      have d84 := kQ8.cell 4
      have d94 := kQ9.cell 4
      have f94 := kQ9.free 4
      have kQ10 := kQ9.set 4 (.slice (some ⟨g9, 0, none⟩) 4 c9)
      have hk10 : Kp (fun k => k = bQ) w9 (w9.setCell ⟨bQ, 4, none⟩ (.slice (some ⟨g9, 0, none⟩) 4 c9)) := (Kp.refl (fun k => k = bQ) w9).set (p := ⟨bQ, 4, none⟩) (.inl rfl) _
      have hg9Q : g9 ≠ bQ := by
        rcases hat9 with h | h
        · have e : g7 = g9 := by simpa [Value.ownBlock] using h
          omega
        · omega
      have ho10 := own_kp ho9 hk10 (fun g hg e => hg9Q ((show g9 = g by simpa [Value.ownBlock] using hg).trans e))
      have k39 : Bk w9 w8.heap.size 3 [.int .i64 (-3)] := (((Bk.new w8 3 [.int .i64 (-3)]).alloc (.cells #[.int .i64 1, .slice (some ⟨w8.heap.size, 0, none⟩) 1 1] 97)).grown hgr9 (by
        intro e
        have e : g7 = w8.heap.size := by simpa [Value.ownBlock] using e.symm
        omega))
      simp only [List.getElem?_cons_zero, List.getElem?_cons_succ, List.set_cons_zero, List.set_cons_succ] at d84 d94 kQ10
      have hbw8 : Below wr.heap.size wr w8 := hb14.trans ((hk7.to_below hb14.size (fun _ e => e.elim)).trans (hk8.to_below (by have := hb14.size; omega) (fun k e => by omega)))
      have hbw9 : Below wr.heap.size wr w9 := hbw8.trans (hk9.to_below hbw8.size (fun k e => by have := hb14.size; omega))
      have kT9 := ((kT3.kp hk7 (fun h => h)).kp hk8 (Ne.symm hQU)).kp hk9 (fun e => by omega)
      have h89 := hk9.size
      have hQs8 := hs8
      have H9 := hid (And.intro ho10 (And.intro k39 (And.intro hk10 (And.intro kQ10 (And.intro hbw9 (And.intro kT9 (And.intro hQw (And.intro hQU h89))))))))
      have hQ8 : bQ < w8.heap.size := by omega
      have HQ8 := hid hQ8
      clear ho8 hg7 hk7 hk8 kQ8 kT3 hb14 hQw hgQ hQU hQ6 hw8 hs8 hg8 hU6 hs7 hal8 ho9 hgr9 hat9 hk9 kQ9 kQ10 hk10 hg9Q ho10 k39 hbw8 hbw9 kT9 h89 hQs8 c74 f74 hc64 hrun7 hQ8
      go_upto_region 16 with (at_builtin; refine wpList_append_run rfl _ _ _ rfl (.slice (some ⟨g7, 0, none⟩) 3 c7) (.slice (some ⟨w8.heap.size + 1, 0, none⟩) 1 1) (.slice (some ⟨g9, 0, none⟩) 4 c9) w9 (by rfl) (by rfl) (by exact hrun9) ?_)
      obtain ⟨ho10, k39, hk10, kQ10, hbw9, kT9, hQw, hQU, h89⟩ := H9.out
      obtain ⟨w10, hw10⟩ : ∃ w10, w10 = w9.setCell ⟨bQ, 4, none⟩ (.slice (some ⟨g9, 0, none⟩) 4 c9) := ⟨_, rfl⟩
      rw [← hw10] at ho10 hk10 kQ10 ⊢
      have hbw10 : Below wr.heap.size wr w10 := hbw9.trans (hk10.to_below hbw9.size (fun k e => by omega))
      have k310 : Bk w10 w8.heap.size 3 [.int .i64 (-3)] := k39.kp hk10 (fun e => by have := HQ8.out; omega)
      have kT10 := kT9.kp hk10 (Ne.symm hQU)
      obtain ⟨kRR, kNN, kTT, k11, k22, kPP, kGG⟩ := HK.out
      obtain ⟨hgin, hcap⟩ := many_gin3 (w := w10) (n := N) (bP := g9) (cR := N) hN12 (kNN.below hbw10 kNN.lt) kT10 (kRR.below hbw10 kRR.lt) (k11.below hbw10 k11.lt) (k22.below hbw10 k22.lt) k310
        (fun j u hj => by
          obtain ⟨ga', cap', hv, hc⟩ := own_slice ho10
          injection hv with hv1 _ _
          obtain ⟨g, h1, _, _, h2⟩ := hc j u (by simpa using hj)
          rw [← hv1] at h1
          injection h1 with h1
          injection h1 with h1
          rw [h1]
          exact h2) (World.ownsRow.lt ho10 g9 rfl).2 (Nat.le_refl _)
      rw [HN.out.1] at hgin hcap
      have hno := many_no w10 m HN.out.2 _ _ _ 2 3 c9 hgin hcap
      rw [← HN.out.1] at hno
      have Hno := hid hno
      have q0 := kQ10.cell 0
      have q1 := kQ10.cell 1
      have q2 := kQ10.cell 2
      have q3 := kQ10.cell 3
      have q4 := kQ10.cell 4
      simp only [List.getElem?_cons_zero, List.getElem?_cons_succ] at q0 q1 q2 q3 q4
      have Hb10 := hid hbw10
      clear ho10 k39 hk10 kQ10 hbw9 kT9 hQw hQU h89 hbw10 k310 kT10 kRR kNN kTT k11 k22 kPP kGG hgin hcap hno hw10 d84 d94 f94 hrun9
      go_upto_region 17 with (go_at_call 53; refine Hno.out.mono ?_; rintro e w11 ⟨rfl, hb11⟩)
      have hbw11 : Below wr.heap.size wr w11 := belw Hb10.out hb11
      have kG11 := HK.out.2.2.2.2.2.2.below hbw11 HK.out.2.2.2.2.2.2.lt
      have h0 := kG11.cell 0
      have h1 := kG11.cell 1
      have h2 := kG11.cell 2
      have h3 := kG11.cell 3
      have h4 := kG11.cell 4
      simp only [List.getElem?_cons_zero, List.getElem?_cons_succ] at h0 h1 h2 h3 h4
      have Hb11 := hid hbw11
      clear kG11 hb11 hbw11 q0 q1 q2 q3 q4
      by_cases ca1 : a < 0
      · have Hc := hid (Hbd.out w11 Hb11.out (.inl ca1))
        go_wp2_with (go_at_call 53; refine Hc.out.mono ?_; rintro e w12 ⟨rfl, hb12⟩)
        go_ret
        exact ⟨rfl, belw Hbw.out (belw Hb11.out hb12)⟩
      · by_cases ca2 : (64 : Int) < a
        · have Hc := hid (Hbd.out w11 Hb11.out (.inr ca2))
          go_wp2_with (go_at_call 53; refine Hc.out.mono ?_; rintro e w12 ⟨rfl, hb12⟩)
          go_ret
          exact ⟨rfl, belw Hbw.out (belw Hb11.out hb12)⟩
        · obtain ⟨q, rfl⟩ : ∃ q : Nat, a = (q : Int) := ⟨a.toNat, by omega⟩
          have Hc := hid (Hy.out w11 Hb11.out q (by omega))
          have ca3 : (q : Int) ≤ 64 := by omega
          have ca4 : (0 : Int) ≤ (q : Int) := by omega
          clear ca1 ca2
          go_wp2_with (go_at_call 53; refine Hc.out.mono ?_; rintro e w12 ⟨ga', ca', k', rfl, -, hb12⟩)
          go_ret
          exact ⟨rfl, belw Hbw.out (belw Hb11.out hb12)⟩
end Go.Proofs.Ytaehooafdbaomaa
