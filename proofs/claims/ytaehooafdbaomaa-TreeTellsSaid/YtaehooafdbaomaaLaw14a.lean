/- Chapter 14 (tree): the chain; speaks. -/
import Derived.Test.YtaehooafdbaomaaTreeText
import Derived.Test.YtaehooafdbaomaaTreeGet
import Derived.Test.YtaehooafdbaomaaTreeA
namespace Go.Proofs.Ytaehooafdbaomaa
open Go.RowKit
attribute [local go_sem ↓] Go.wp_at_zero Go.wp_at_succ
attribute [local go_sem] frozen_alloc_lt

def chainG : Gr := ⟨0, 1, [⟨#[83]⟩], [⟨#[120]⟩], [(0, [-1, 0]), (0, [])]⟩
set_option maxHeartbeats 2000000 in
theorem chain14_calls (w : World) : Calls Try.prog 60 #[] w fun e w' => ∃ gn gt gp, e = .returned (.agg #[.int .i64 0, .int .i64 1, .slice gn 1 1, .slice gt 1 1, .slice gp 2 2]) ∧ GIn w' chainG gn gt gp ∧ Below w.heap.size w w' := by
  have k0 : Bk (((((w.alloc (.cells #[.int .i64 0, .int .i64 1, .slice (some ⟨w.heap.size + 1, 0, none⟩) 1 1, .slice (some ⟨w.heap.size + 1 + 1, 0, none⟩) 1 1, .slice (some ⟨w.heap.size + 1 + 1 + 1 + 1, 0, none⟩) 2 2] 30)).alloc (.cells #[.string ⟨#[83]⟩] 9)).alloc (.cells #[.string ⟨#[120]⟩] 9)).alloc (.cells #[.int .i64 (-1), .int .i64 0] 3)).alloc (.cells #[.int .i64 0, .slice (some ⟨w.heap.size + 1 + 1 + 1, 0, none⟩) 2 2, .int .i64 0, .slice none 0 0] 97)) (w.heap.size) 30 [.int .i64 0, .int .i64 1, .slice (some ⟨w.heap.size + 1, 0, none⟩) 1 1, .slice (some ⟨w.heap.size + 1 + 1, 0, none⟩) 1 1, .slice (some ⟨w.heap.size + 1 + 1 + 1 + 1, 0, none⟩) 2 2] := ((((Bk.new w 30 [.int .i64 0, .int .i64 1, .slice (some ⟨w.heap.size + 1, 0, none⟩) 1 1, .slice (some ⟨w.heap.size + 1 + 1, 0, none⟩) 1 1, .slice (some ⟨w.heap.size + 1 + 1 + 1 + 1, 0, none⟩) 2 2]).alloc _).alloc _).alloc _).alloc _
  have k1 : Bk (((((w.alloc (.cells #[.int .i64 0, .int .i64 1, .slice (some ⟨w.heap.size + 1, 0, none⟩) 1 1, .slice (some ⟨w.heap.size + 1 + 1, 0, none⟩) 1 1, .slice (some ⟨w.heap.size + 1 + 1 + 1 + 1, 0, none⟩) 2 2] 30)).alloc (.cells #[.string ⟨#[83]⟩] 9)).alloc (.cells #[.string ⟨#[120]⟩] 9)).alloc (.cells #[.int .i64 (-1), .int .i64 0] 3)).alloc (.cells #[.int .i64 0, .slice (some ⟨w.heap.size + 1 + 1 + 1, 0, none⟩) 2 2, .int .i64 0, .slice none 0 0] 97)) (w.heap.size + 1) 9 [.string ⟨#[83]⟩] := bk_at ((((Bk.new (w.alloc (.cells #[.int .i64 0, .int .i64 1, .slice (some ⟨w.heap.size + 1, 0, none⟩) 1 1, .slice (some ⟨w.heap.size + 1 + 1, 0, none⟩) 1 1, .slice (some ⟨w.heap.size + 1 + 1 + 1 + 1, 0, none⟩) 2 2] 30)) 9 [.string ⟨#[83]⟩]).alloc _).alloc _).alloc _) (by simp)
  have k2 : Bk (((((w.alloc (.cells #[.int .i64 0, .int .i64 1, .slice (some ⟨w.heap.size + 1, 0, none⟩) 1 1, .slice (some ⟨w.heap.size + 1 + 1, 0, none⟩) 1 1, .slice (some ⟨w.heap.size + 1 + 1 + 1 + 1, 0, none⟩) 2 2] 30)).alloc (.cells #[.string ⟨#[83]⟩] 9)).alloc (.cells #[.string ⟨#[120]⟩] 9)).alloc (.cells #[.int .i64 (-1), .int .i64 0] 3)).alloc (.cells #[.int .i64 0, .slice (some ⟨w.heap.size + 1 + 1 + 1, 0, none⟩) 2 2, .int .i64 0, .slice none 0 0] 97)) (w.heap.size + 1 + 1) 9 [.string ⟨#[120]⟩] := bk_at (((Bk.new ((w.alloc (.cells #[.int .i64 0, .int .i64 1, .slice (some ⟨w.heap.size + 1, 0, none⟩) 1 1, .slice (some ⟨w.heap.size + 1 + 1, 0, none⟩) 1 1, .slice (some ⟨w.heap.size + 1 + 1 + 1 + 1, 0, none⟩) 2 2] 30)).alloc (.cells #[.string ⟨#[83]⟩] 9)) 9 [.string ⟨#[120]⟩]).alloc _).alloc _) (by simp)
  have k3 : Bk (((((w.alloc (.cells #[.int .i64 0, .int .i64 1, .slice (some ⟨w.heap.size + 1, 0, none⟩) 1 1, .slice (some ⟨w.heap.size + 1 + 1, 0, none⟩) 1 1, .slice (some ⟨w.heap.size + 1 + 1 + 1 + 1, 0, none⟩) 2 2] 30)).alloc (.cells #[.string ⟨#[83]⟩] 9)).alloc (.cells #[.string ⟨#[120]⟩] 9)).alloc (.cells #[.int .i64 (-1), .int .i64 0] 3)).alloc (.cells #[.int .i64 0, .slice (some ⟨w.heap.size + 1 + 1 + 1, 0, none⟩) 2 2, .int .i64 0, .slice none 0 0] 97)) (w.heap.size + 1 + 1 + 1) 3 [.int .i64 (-1), .int .i64 0] := bk_at ((Bk.new (((w.alloc (.cells #[.int .i64 0, .int .i64 1, .slice (some ⟨w.heap.size + 1, 0, none⟩) 1 1, .slice (some ⟨w.heap.size + 1 + 1, 0, none⟩) 1 1, .slice (some ⟨w.heap.size + 1 + 1 + 1 + 1, 0, none⟩) 2 2] 30)).alloc (.cells #[.string ⟨#[83]⟩] 9)).alloc (.cells #[.string ⟨#[120]⟩] 9)) 3 [.int .i64 (-1), .int .i64 0]).alloc _) (by simp)
  have k4 : Bk (((((w.alloc (.cells #[.int .i64 0, .int .i64 1, .slice (some ⟨w.heap.size + 1, 0, none⟩) 1 1, .slice (some ⟨w.heap.size + 1 + 1, 0, none⟩) 1 1, .slice (some ⟨w.heap.size + 1 + 1 + 1 + 1, 0, none⟩) 2 2] 30)).alloc (.cells #[.string ⟨#[83]⟩] 9)).alloc (.cells #[.string ⟨#[120]⟩] 9)).alloc (.cells #[.int .i64 (-1), .int .i64 0] 3)).alloc (.cells #[.int .i64 0, .slice (some ⟨w.heap.size + 1 + 1 + 1, 0, none⟩) 2 2, .int .i64 0, .slice none 0 0] 97)) (w.heap.size + 1 + 1 + 1 + 1) 97 [.int .i64 0, .slice (some ⟨w.heap.size + 1 + 1 + 1, 0, none⟩) 2 2, .int .i64 0, .slice none 0 0] := bk_at (Bk.new ((((w.alloc (.cells #[.int .i64 0, .int .i64 1, .slice (some ⟨w.heap.size + 1, 0, none⟩) 1 1, .slice (some ⟨w.heap.size + 1 + 1, 0, none⟩) 1 1, .slice (some ⟨w.heap.size + 1 + 1 + 1 + 1, 0, none⟩) 2 2] 30)).alloc (.cells #[.string ⟨#[83]⟩] 9)).alloc (.cells #[.string ⟨#[120]⟩] 9)).alloc (.cells #[.int .i64 (-1), .int .i64 0] 3)) 97 [.int .i64 0, .slice (some ⟨w.heap.size + 1 + 1 + 1, 0, none⟩) 2 2, .int .i64 0, .slice none 0 0]) (by simp)
  have kb : Below w.heap.size w (((((w.alloc (.cells #[.int .i64 0, .int .i64 1, .slice (some ⟨w.heap.size + 1, 0, none⟩) 1 1, .slice (some ⟨w.heap.size + 1 + 1, 0, none⟩) 1 1, .slice (some ⟨w.heap.size + 1 + 1 + 1 + 1, 0, none⟩) 2 2] 30)).alloc (.cells #[.string ⟨#[83]⟩] 9)).alloc (.cells #[.string ⟨#[120]⟩] 9)).alloc (.cells #[.int .i64 (-1), .int .i64 0] 3)).alloc (.cells #[.int .i64 0, .slice (some ⟨w.heap.size + 1 + 1 + 1, 0, none⟩) 2 2, .int .i64 0, .slice none 0 0] 97)) := ((((((Below.refl _ w).alloc (Nat.le_refl _) _).alloc (by simp) _).alloc (by simp; omega) _).alloc (by simp; omega) _).alloc (by simp; omega) _)
  go_enter Try.func60, Try.ntmps60
  go_wp2_with fail
  obtain ⟨W, hW⟩ : ∃ W, W = (((((w.alloc (.cells #[.int .i64 0, .int .i64 1, .slice (some ⟨w.heap.size + 1, 0, none⟩) 1 1, .slice (some ⟨w.heap.size + 1 + 1, 0, none⟩) 1 1, .slice (some ⟨w.heap.size + 1 + 1 + 1 + 1, 0, none⟩) 2 2] 30)).alloc (.cells #[.string ⟨#[83]⟩] 9)).alloc (.cells #[.string ⟨#[120]⟩] 9)).alloc (.cells #[.int .i64 (-1), .int .i64 0] 3)).alloc (.cells #[.int .i64 0, .slice (some ⟨w.heap.size + 1 + 1 + 1, 0, none⟩) 2 2, .int .i64 0, .slice none 0 0] 97)) := ⟨_, rfl⟩
  rw [← hW] at k0 k1 k2 k3 k4 kb ⊢
  clear hW
  have c0 := k0.cell 0
  have c1 := k0.cell 1
  have c2 := k0.cell 2
  have c3 := k0.cell 3
  have c4 := k0.cell 4
  simp only [List.getElem?_cons_zero, List.getElem?_cons_succ] at c0 c1 c2 c3 c4
  refine bodyPost_ret (v := .agg #[.int .i64 0, .int .i64 1, .slice (some ⟨w.heap.size + 1, 0, none⟩) 1 1, .slice (some ⟨w.heap.size + 1 + 1, 0, none⟩) 1 1, .slice (some ⟨w.heap.size + 1 + 1 + 1 + 1, 0, none⟩) 2 2]) (by simp [results, Try.results60, go_sem, c0, c1, c2, c3, c4]) rfl ⟨_, _, _, rfl, ?_, kb⟩
  refine ⟨bk_rowS k1, bk_rowS k2, fun i x hx => ?_, by decide, by decide, by decide, by decide⟩
  match i, hx with
  | 0, hx =>
    cases hx
    exact ⟨_, 0, _, _, rfl, k4.lt, k4.cell 0, k4.cell 1, bk_rowI k3⟩
  | 1, hx =>
    cases hx
    exact ⟨_, 0, _, _, rfl, k4.lt, k4.cell 2, k4.cell 3, fun j hj => by simp at hj⟩
  | i + 2, hx => simp [chainG] at hx
def chainT : Fo := .cons (-1) .nil (.cons 1 .nil .nil)
theorem chain_sound : Pl.soundB chainG = true := by decide
theorem chain_get : Tr.getT chainG [0, 129, 1, 1, 1] = (0, 0, chainT) := by rfl
theorem chain_text : Tr.textS chainG 0 chainT = [40, 83, 32, 39, 120, 39, 32, 40, 83, 41, 41] := by decide
theorem chain_chk : (Pl.soundB chainG && Tr.chkT chainG 0 chainT) = true := by decide
theorem chain_in {w : World} {gn gt gp : Option Addr} (h : GIn w chainG gn gt gp) : ChIn w chainG gn gt gp := ⟨h, by decide, by decide, by decide⟩
theorem chain_tget {w : World} {gn gt gp : Option Addr} (h : GIn w chainG gn gt gp) : Calls Try.prog 20 #[.agg #[.int .i64 0, .int .i64 1, .slice gn 1 1, .slice gt 1 1, .slice gp 2 2], .string ⟨#[0, 129, 1, 1, 1]⟩] w fun e w' => ∃ gk ck, e = .returned (.tuple #[.agg #[.int .i64 0, .slice gk 2 ck], .int .i64 0]) ∧ FoAt w' (fun k => k < w'.heap.size) gk chainT 0 ∧ Below w.heap.size w w' := by
  refine (tget_calls w chainG gn gt gp 1 1 2 (chain_in h) [0, 129, 1, 1, 1] (by simp)).mono ?_
  rintro e w' ⟨gk, ck, rfl, h1, h2⟩
  rw [chain_sound, if_pos rfl, chain_get] at *
  exact ⟨gk, ck, rfl, h1.mono (fun k h => h.2), h2⟩
theorem chain_ttext {w : World} {gn gt gp gk : Option Addr} {ck : Nat} (h : GIn w chainG gn gt gp) (hat : FoAt w (fun k => k < w.heap.size) gk chainT 0) : Calls Try.prog 30 #[.agg #[.int .i64 0, .int .i64 1, .slice gn 1 1, .slice gt 1 1, .slice gp 2 2], .agg #[.int .i64 0, .slice gk 2 ck]] w fun e w' => e = .returned (.string ⟨#[40, 83, 32, 39, 120, 39, 32, 40, 83, 41, 41]⟩) ∧ Below w.heap.size w w' := by
  have := treeText_calls w chainG gn gt gp 1 1 2 h 0 chainT gk ck (by decide) hat
  rw [chain_text] at this
  exact this
theorem chain_tcheck {w : World} {gn gt gp gk : Option Addr} {ck : Nat} (h : GIn w chainG gn gt gp) (hat : FoAt w (fun k => k < w.heap.size) gk chainT 0) : Calls Try.prog 24 #[.agg #[.int .i64 0, .int .i64 1, .slice gn 1 1, .slice gt 1 1, .slice gp 2 2], .agg #[.int .i64 0, .slice gk 2 ck]] w fun e w' => e = .returned (.bool true) ∧ Below w.heap.size w w' := by
  have := tcheck_all w chainG gn gt gp 1 1 2 h 0 chainT gk ck (by decide) hat
  rw [chain_chk] at this
  exact this
theorem chain_size {w : World} {gk : Option Addr} {ck : Nat} (hat : FoAt w (fun k => k < w.heap.size) gk chainT 0) : Calls Try.prog 27 #[.agg #[.int .i64 0, .slice gk 2 ck]] w fun e w' => e = .returned (.tuple #[.int .i64 3, .int .i64 2]) ∧ Below w.heap.size w w' :=
  size_calls _ 0 chainT w gk ck rfl (by decide) hat
theorem FoAt.later {w w' : World} {gk : Option Addr} {f : Fo} (h : FoAt w (fun k => k < w.heap.size) gk f 0) (hb : Below w.heap.size w w') : FoAt w' (fun k => k < w'.heap.size) gk f 0 :=
  (h.below hb (fun _ h => h)).mono (fun _k hk => Nat.lt_of_lt_of_le hk hb.size)
set_option maxHeartbeats 4000000 in
theorem speaks14_calls (w : World) : Calls Try.prog 15 #[] w fun e w' => e = .returned (.bool true) ∧ Below w.heap.size w w' := by
  go_enter Try.func15, Try.ntmps15
  go_upto_region 2 with (first
    | (go_at_call 20; refine (chain_tget Hg.out).mono ?_; rintro e w2 ⟨gk, ck, rfl, hat2, hb2⟩)
    | (go_at_call 60; refine (chain14_calls _).mono ?_; rintro e w1 ⟨gn, gt, gp, rfl, hg, hb1⟩; have Hg := hid hg; clear hg))
  have hk2 := Bk.new w2 45 [.int .i64 0, .slice gk 2 ck]
  have hba : Below w2.heap.size w2 (w2.alloc (.cells #[.int .i64 0, .slice gk 2 ck] 45)) := (Below.refl _ _).alloc (Nat.le_refl _) _
  have hat3 := hat2.later hba
  have hb3 := belw hb1 (belw hb2 hba)
  obtain ⟨w3, hw3⟩ : ∃ w3, w3 = (w2.alloc (.cells #[.int .i64 0, .slice gk 2 ck] 45)) := ⟨_, rfl⟩
  obtain ⟨b, hb⟩ : ∃ b, b = w2.heap.size := ⟨_, rfl⟩
  rw [← hw3] at hk2 hat3 hb3 ⊢
  rw [← hb] at hk2 ⊢
  have x0 := hk2.cell 0
  have x1 := hk2.cell 1
  simp only [List.getElem?_cons_zero, List.getElem?_cons_succ] at x0 x1
  have Hat3 := hid hat3
  have Hk2 := hid hk2
  have Hb3 := hid hb3
  clear hw3 hb hk2 hba hat3 hat2 hb3 hb1 hb2 Hg
  go_upto_region 3 with (go_at_call 27; refine (chain_size Hat3.out).mono ?_; rintro e w4 ⟨rfl, hb4⟩)
  have hk4 := Hk2.out.below hb4 Hk2.out.lt
  have x0 := hk4.cell 0
  have x1 := hk4.cell 1
  simp only [List.getElem?_cons_zero, List.getElem?_cons_succ] at x0 x1
  have hat4 := (Hat3.out.later hb4).later (Below.refl _ _).drew
  have Hat4 := hid hat4
  have Hk4 := hid hk4.drew
  have x0 := Hk4.out.cell 0
  have x1 := Hk4.out.cell 1
  simp only [List.getElem?_cons_zero, List.getElem?_cons_succ] at x0 x1
  have hB4 : Below w.heap.size w w4.drew := (belw Hb3.out hb4).drew
  have HB4 := hid hB4
  clear hk4 hat4 hb4 hB4
  go_region_held3 (fun W : World => W.cell? ⟨b, 0, none⟩ = some (.int .i64 0) ∧ W.cell? ⟨b, 1, none⟩ = some (.slice gk 2 ck)) (first | exact ⟨x0, x1⟩ | exact ⟨y0, y1⟩ | exact ⟨z0, z1⟩ | exact ⟨u0, u1⟩ | exact ⟨v0, v1⟩)
    (first
      | (go_at_call 24; refine (chain_tcheck Hg7.out Hat7.out).mono ?_; rintro e w8 ⟨rfl, hb8⟩; have v0 := (Hk7.out.below hb8 Hk7.out.lt).cell 0; have v1 := (Hk7.out.below hb8 Hk7.out.lt).cell 1)
      | (go_at_call 30; refine (chain_ttext Hg5.out Hat5.out).mono ?_; rintro e w6 ⟨rfl, hb6⟩; have Hk6 := hid (Hk5.out.below hb6 Hk5.out.lt); have z0 := Hk6.out.cell 0; have z1 := Hk6.out.cell 1; have Hat6 := hid (Hat5.out.later hb6))
      | (go_at_call 60; revert Hat6; intro Hat6; refine (chain14_calls _).mono ?_; rintro e w7 ⟨gn7, gt7, gp7, rfl, hg7, hb7⟩; have Hg7 := hid hg7; clear hg7; have Hk7 := hid (Hk6.out.below hb7 Hk6.out.lt); have u0 := Hk7.out.cell 0; have u1 := Hk7.out.cell 1; have Hat7 := hid (Hat6.out.later hb7))
      | (go_at_call 60; refine (chain14_calls _).mono ?_; rintro e w5 ⟨gn5, gt5, gp5, rfl, hg5, hb5⟩; have Hg5 := hid hg5; clear hg5; have Hk5 := hid (Hk4.out.below hb5 Hk4.out.lt); have y0 := Hk5.out.cell 0; have y1 := Hk5.out.cell 1; have Hat5 := hid (Hat4.out.later hb5)))
  go_wp2_with fail
  go_ret
  exact ⟨rfl, belw HB4.out (belw hb5 (belw hb6 (belw hb7 hb8)))⟩
end Go.Proofs.Ytaehooafdbaomaa
