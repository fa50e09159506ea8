/- Chapter 5 (syntax): the first line of each statement: a rule of two items. -/
import Derived.Test.YtjaampgpihicmaaSyn18
namespace Go.Proofs.Ytjaampgpihicmaa
open Go.RowKit
attribute [local go_sem ↓] Go.wp_at_zero Go.wp_at_succ
attribute [local go_sem] frozen_alloc_lt
open Syn (Nd Nod)

def spoken : List UInt8 × Nod := ([97], ⟨3, [], .cons 2 [120] .nil (.cons 5 [] (.cons 1 [98] .nil .nil) .nil)⟩)
theorem speaks_parse : Syn.parseS (⟨#[97, 58, 32, 39, 120, 39, 32, 98, 63, 59]⟩ : ByteArray).data.toList = .ok [97] [spoken] := by kernel_rfl
theorem spoken_same : Syn.sameG ([97], [spoken]) ([97], [spoken]) = true := (Syn.sameG_iff _ _).2 rfl
theorem spoken_proper : Syn.properG ([97], [spoken]) = true := by decide
set_option maxRecDepth 8000 in
set_option maxHeartbeats 4000000 in
theorem speaks05_calls (w : World) : Calls Try.prog 14 #[] w fun e w' => e = .returned (.bool true) ∧ Below w.heap.size w w' := by
  have hp := parse_calls ⟨#[97, 58, 32, 39, 120, 39, 32, 98, 63, 59]⟩ w (by decide)
  rw [speaks_parse] at hp
  simp only [ParsePost, List.length_cons, List.length_nil, Nat.zero_add] at hp
  have Hp := hid hp
  clear hp
  go_enter Try.func14, Try.ntmps14
  go_upto_region 2 with (go_at_call 15; refine Hp.out.mono ?_; rintro e w1 ⟨ga, ca, rfl, hr, hb1⟩)
  have hri := RulesIn.of hr
  obtain ⟨g, off, gk, ck, rfl, hg, c0, c1, c2, c3, hn⟩ := hri 0 spoken rfl
  have hn0 := hn
  simp only [spoken, NdAt] at hn0
  obtain ⟨⟨g2, o2, k2, q2, rfl, hg2, -, -, -, -⟩, ⟨g3, o3, k3, q3, e3, -, d1, -⟩, -⟩ := hn0
  injection e3 with e3
  injection e3 with e3 e4
  subst e3 e4
  have hbel := bel_trans (bel_new w1 (.cells #[.string ⟨#[97]⟩, .slice (some ⟨g, off, none⟩) 1 ca] 25)) (bel_new _ (.cells #[.int .i64 0, .int .i64 0, .int .i64 0] 28))
  have hk1 := (Bk.new w1 25 [.string ⟨#[97]⟩, .slice (some ⟨g, off, none⟩) 1 ca]).alloc (.cells #[.int .i64 0, .int .i64 0, .int .i64 0] 28)
  have hk2 : Bk ((w1.alloc (.cells #[.string ⟨#[97]⟩, .slice (some ⟨g, off, none⟩) 1 ca] 25)).alloc (.cells #[.int .i64 0, .int .i64 0, .int .i64 0] 28)) (w1.heap.size + 1) 28 [.int .i64 0, .int .i64 0, .int .i64 0] := by
    have := Bk.new (w1.alloc (.cells #[.string ⟨#[97]⟩, .slice (some ⟨g, off, none⟩) 1 ca] 25)) 28 [.int .i64 0, .int .i64 0, .int .i64 0]
    simpa using this
  have hrz := hri.later hbel
  have c0z := (hbel.cell (p := ⟨g, _, none⟩) hg).trans c0
  have c1z := (hbel.cell (p := ⟨g, _, none⟩) hg).trans c1
  have c2z := (hbel.cell (p := ⟨g, _, none⟩) hg).trans c2
  have c3z := (hbel.cell (p := ⟨g, _, none⟩) hg).trans c3
  have d1z := (hbel.cell (p := ⟨g2, _, none⟩) hg2).trans d1
  have hgz : g < ((w1.alloc (.cells #[.string ⟨#[97]⟩, .slice (some ⟨g, off, none⟩) 1 ca] 25)).alloc (.cells #[.int .i64 0, .int .i64 0, .int .i64 0] 28)).heap.size := Nat.lt_of_lt_of_le hg hbel.size
  have hg2z : g2 < ((w1.alloc (.cells #[.string ⟨#[97]⟩, .slice (some ⟨g, off, none⟩) 1 ca] 25)).alloc (.cells #[.int .i64 0, .int .i64 0, .int .i64 0] 28)).heap.size := Nat.lt_of_lt_of_le hg2 hbel.size
  obtain ⟨wz, hwz⟩ : ∃ wz, wz = ((w1.alloc (.cells #[.string ⟨#[97]⟩, .slice (some ⟨g, off, none⟩) 1 ca] 25)).alloc (.cells #[.int .i64 0, .int .i64 0, .int .i64 0] 28)) := ⟨_, rfl⟩
  obtain ⟨b1, hb1'⟩ : ∃ b1, b1 = w1.heap.size := ⟨_, rfl⟩
  obtain ⟨b2, hb2'⟩ : ∃ b2, b2 = b1 + 1 := ⟨_, rfl⟩
  rw [← hwz] at hbel hk1 hk2 hrz c0z c1z c2z c3z d1z hgz hg2z ⊢
  rw [← hb1'] at hk1 hk2 ⊢
  rw [← hb2'] at hk2 ⊢
  have x0 := hk1.cell 0
  have x1 := hk1.cell 1
  have y0 := hk2.cell 0
  have y1 := hk2.cell 1
  have y2 := hk2.cell 2
  simp only [List.getElem?_cons_zero, List.getElem?_cons_succ] at x0 x1 y0 y1 y2
  simp only [spoken, Nd.len, Nat.zero_mul, Nat.add_zero, Nat.zero_add, Nat.one_mul] at c0z c1z c2z c3z d1z
  have Hbel := hid hbel
  have Hrz := hid hrz
  have Hk1 := hid hk1
  have Hb1 := hid hb1
  have hbl := hk1.lt
  clear hwz hb1' hb2' hri hr hn c0 c1 c2 c3 d1 hbel hrz hg hg2 hk1 hk2 hb1
  have hfits := (Syn.parse_fits speaks_parse).2
  have hshort : ∀ z ∈ [spoken], Syn.shortR z := by
    intro z hz
    simp at hz
    subst hz
    exact ⟨by decide, Syn.Nod.proper_short (by decide)⟩
  have Hf := hid (And.intro hfits hshort)
  clear hfits hshort
  go_wp2_with (first
    | (go_at_call 19; refine (properG_calls (M := 100000) (by omega) w2 ([97], [spoken]) (some ⟨g, off, none⟩) ca (Hrz2.out.later hb2) (by decide) (by decide) Hf.out.1 Hf.out.2).mono ?_; rw [spoken_proper]; rintro e w3 ⟨rfl, hb3⟩)
    | (go_at_call 24; have hal := bel_new wz (.cells #[.int .i64 3, .string ⟨#[]⟩, .slice (some ⟨g2, o2, none⟩) 2 ck] 49); have hrz2 := Hrz.out.later hal; refine (same_calls (M := 100000) (by omega) _ ([97], [spoken]) ([97], [spoken]) (some ⟨g, off, none⟩) (some ⟨g, off, none⟩) ca ca hrz2 hrz2 (by decide) (by decide) Hf.out.1 Hf.out.1).mono ?_; rw [spoken_same]; rintro e w2 ⟨rfl, hb2⟩; have hk12 := (Hk1.out.alloc (.cells #[.int .i64 3, .string ⟨#[]⟩, .slice (some ⟨g2, o2, none⟩) 2 ck] 49)).below hb2 (by simp; omega); have z0 := hk12.cell 0; have z1 := hk12.cell 1; simp only [List.getElem?_cons_zero, List.getElem?_cons_succ] at z0 z1; have Hrz2 := hid hrz2; have Hal := hid hal; clear hrz2 hal hk12))
  go_ret
  exact ⟨rfl, bel_trans Hb1.out (bel_trans Hbel.out (bel_trans Hal.out (bel_trans hb2 hb3)))⟩
end Go.Proofs.Ytjaampgpihicmaa
