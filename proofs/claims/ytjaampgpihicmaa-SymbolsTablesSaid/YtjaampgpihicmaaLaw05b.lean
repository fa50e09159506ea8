/- Chapter 5 (syntax): the first line of each statement: a rule of two items. -/
import Derived.Test.YtjaampgpihicmaaSyn18
import Derived.Test.YtjaampgpihicmaaSynLaw6
namespace Go.Proofs.Ytjaampgpihicmaa
open Go.RowKit
attribute [local go_sem ↓] Go.wp_at_zero Go.wp_at_succ
attribute [local go_sem] frozen_alloc_lt
open Syn (Nd Nod)

def spoken : List UInt8 × Nod := ([97], ⟨3, [], .cons 2 [120] .nil (.cons 5 [] (.cons 1 [98] .nil .nil) .nil)⟩)
theorem speaks_parse : Syn.parseS (⟨#[97, 58, 32, 39, 120, 39, 32, 98, 63, 59]⟩ : ByteArray).data.toList = .ok [97] [spoken] := by kernel_rfl
theorem spoken_same : Syn.sameG ([97], [spoken]) ([97], [spoken]) = true := (Syn.sameG_iff _ _).2 rfl
theorem spoken_proper : Syn.properG ([97], [spoken]) = true := by decide
set_option maxRecDepth 8000 in
set_option maxHeartbeats 4000000 in
theorem speaks05_calls (w : World) : Calls Try.prog 14 #[] w fun e w' => e = .returned (.bool true) ∧ Below w.heap.size w w' := by
  have hp := parse_calls ⟨#[97, 58, 32, 39, 120, 39, 32, 98, 63, 59]⟩ w (by decide)
  rw [speaks_parse] at hp
  simp only [ParsePost, List.length_cons, List.length_nil, Nat.zero_add] at hp
  have Hp := hid hp
  clear hp
  go_enter Try.func14, Try.ntmps14
  go_upto_region 2 with (go_at_call 15; refine Hp.out.mono ?_; rintro e w1 ⟨ga, ca, rfl, hr, hb1⟩)
  have hri := RulesIn.of hr
  obtain ⟨g, off, gk, ck, rfl, hg, c0, c1, c2, c3, hn⟩ := hri 0 spoken rfl
  have hn0 := hn
  simp only [spoken, NdAt] at hn0
  obtain ⟨⟨g2, o2, k2, q2, rfl, hg2, -, -, -, -⟩, ⟨g3, o3, k3, q3, e3, -, d1, -⟩, -⟩ := hn0
  injection e3 with e3
  injection e3 with e3 e4
  subst e3 e4
  have hbel := bel_trans (bel_new w1 (.cells #[.string ⟨#[97]⟩, .slice (some ⟨g, off, none⟩) 1 ca] 25)) (bel_new _ (.cells #[.int .i64 0, .int .i64 0, .int .i64 0] 28))
  have hk1 := (Bk.new w1 25 [.string ⟨#[97]⟩, .slice (some ⟨g, off, none⟩) 1 ca]).alloc (.cells #[.int .i64 0, .int .i64 0, .int .i64 0] 28)
  have hk2 : Bk ((w1.alloc (.cells #[.string ⟨#[97]⟩, .slice (some ⟨g, off, none⟩) 1 ca] 25)).alloc (.cells #[.int .i64 0, .int .i64 0, .int .i64 0] 28)) (w1.heap.size + 1) 28 [.int .i64 0, .int .i64 0, .int .i64 0] := by
    have := Bk.new (w1.alloc (.cells #[.string ⟨#[97]⟩, .slice (some ⟨g, off, none⟩) 1 ca] 25)) 28 [.int .i64 0, .int .i64 0, .int .i64 0]
    simpa using this
  have hrz := hri.later hbel
  have c0z := (hbel.cell (p := ⟨g, _, none⟩) hg).trans c0
  have c1z := (hbel.cell (p := ⟨g, _, none⟩) hg).trans c1
  have c2z := (hbel.cell (p := ⟨g, _, none⟩) hg).trans c2
  have c3z := (hbel.cell (p := ⟨g, _, none⟩) hg).trans c3
  have d1z := (hbel.cell (p := ⟨g2, _, none⟩) hg2).trans d1
  have hgz : g < ((w1.alloc (.cells #[.string ⟨#[97]⟩, .slice (some ⟨g, off, none⟩) 1 ca] 25)).alloc (.cells #[.int .i64 0, .int .i64 0, .int .i64 0] 28)).heap.size := Nat.lt_of_lt_of_le hg hbel.size
  have hg2z : g2 < ((w1.alloc (.cells #[.string ⟨#[97]⟩, .slice (some ⟨g, off, none⟩) 1 ca] 25)).alloc (.cells #[.int .i64 0, .int .i64 0, .int .i64 0] 28)).heap.size := Nat.lt_of_lt_of_le hg2 hbel.size
  obtain ⟨wz, hwz⟩ : ∃ wz, wz = ((w1.alloc (.cells #[.string ⟨#[97]⟩, .slice (some ⟨g, off, none⟩) 1 ca] 25)).alloc (.cells #[.int .i64 0, .int .i64 0, .int .i64 0] 28)) := ⟨_, rfl⟩
  obtain ⟨b1, hb1'⟩ : ∃ b1, b1 = w1.heap.size := ⟨_, rfl⟩
  obtain ⟨b2, hb2'⟩ : ∃ b2, b2 = b1 + 1 := ⟨_, rfl⟩
  rw [← hwz] at hbel hk1 hk2 hrz c0z c1z c2z c3z d1z hgz hg2z ⊢
  rw [← hb1'] at hk1 hk2 ⊢
  rw [← hb2'] at hk2 ⊢
  have x0 := hk1.cell 0
  have x1 := hk1.cell 1
  have y0 := hk2.cell 0
  have y1 := hk2.cell 1
  have y2 := hk2.cell 2
  simp only [List.getElem?_cons_zero, List.getElem?_cons_succ] at x0 x1 y0 y1 y2
  simp only [spoken, Nd.len, Nat.zero_mul, Nat.add_zero, Nat.zero_add, Nat.one_mul] at c0z c1z c2z c3z d1z
  have Hbel := hid hbel
  have Hrz := hid hrz
  have Hk1 := hid hk1
  have Hb1 := hid hb1
  have hbl := hk1.lt
  clear hwz hb1' hb2' hri hr hn c0 c1 c2 c3 d1 hbel hrz hg hg2 hk1 hk2 hb1
  have hfits := (Syn.parse_fits speaks_parse).2
  have hshort : ∀ z ∈ [spoken], Syn.shortR z := by
    intro z hz
    simp at hz
    subst hz
    exact ⟨by decide, Syn.Nod.proper_short (by decide)⟩
  have Hf := hid (And.intro hfits hshort)
  clear hfits hshort
  go_wp2_with (first
    | (go_at_call 19; refine (properG_calls (M := 100000) (by omega) w2 ([97], [spoken]) (some ⟨g, off, none⟩) ca (Hrz2.out.later hb2) (by decide) (by decide) Hf.out.1 Hf.out.2).mono ?_; rw [spoken_proper]; rintro e w3 ⟨rfl, hb3⟩)
    | (go_at_call 24; have hal := bel_new wz (.cells #[.int .i64 3, .string ⟨#[]⟩, .slice (some ⟨g2, o2, none⟩) 2 ck] 49); have hrz2 := Hrz.out.later hal; refine (same_calls (M := 100000) (by omega) _ ([97], [spoken]) ([97], [spoken]) (some ⟨g, off, none⟩) (some ⟨g, off, none⟩) ca ca hrz2 hrz2 (by decide) (by decide) Hf.out.1 Hf.out.1).mono ?_; rw [spoken_same]; rintro e w2 ⟨rfl, hb2⟩; have hk12 := (Hk1.out.alloc (.cells #[.int .i64 3, .string ⟨#[]⟩, .slice (some ⟨g2, o2, none⟩) 2 ck] 49)).below hb2 (by simp; omega); have z0 := hk12.cell 0; have z1 := hk12.cell 1; simp only [List.getElem?_cons_zero, List.getElem?_cons_succ] at z0 z1; have Hrz2 := hid hrz2; have Hal := hid hal; clear hrz2 hal hk12))
  go_ret
  exact ⟨rfl, bel_trans Hb1.out (bel_trans Hbel.out (bel_trans Hal.out (bel_trans hb2 hb3)))⟩
end Go.Proofs.Ytjaampgpihicmaa
/- Chapter 5 (syntax): SyntaxStart: a start that is named ahead. -/
namespace Go.Proofs.Ytjaampgpihicmaa
open Go.RowKit
attribute [local go_sem ↓] Go.wp_at_zero Go.wp_at_succ
attribute [local go_sem] frozen_alloc_lt
open Syn (Nd Nod)

theorem good05_calls (s : ByteArray) (w : World) (hs : s.size ≤ 9223372036854775807) : Calls Try.prog 22 #[.string s] w fun e w' => e = .returned (.bool true) ∧ w' = w := by
  go_enter Try.func22, Try.ntmps22
  go_wp2_with (first
    | (go_at_call 23; refine (good_calls s _ hs).mono ?_; rintro e w2 ⟨rfl, rfl⟩)
    | (go_at_call 69; refine (rgood_calls s _ hs).mono ?_; rintro e w2 ⟨rfl, rfl⟩))
  go_ret
  exact ⟨by simp, rfl⟩
theorem scan_some (s : ByteArray) (w : World) (hs : s.size ≤ 9223372036854775807) : Calls Try.prog 20 #[.string s] w fun e w' => ∃ v x y z, e = .returned (.tuple #[v, .agg #[.int .i64 x, .int .i64 y, .int .i64 z]]) ∧ Below w.heap.size w w' := by
  refine (scan_calls s w hs).mono ?_
  intro e w' h
  cases hc : Lex.scan s.data.toList with
  | bad f =>
    rw [hc] at h
    exact ⟨_, _, _, _, h.1, h.2⟩
  | good ts =>
    rw [hc] at h
    obtain ⟨v, h1, _, h3⟩ := h
    exact ⟨v, 0, 0, 0, h1, h3⟩
/-- A text that is read: its tokens. -/
theorem scan_toks (s : ByteArray) (w : World) (hs : s.size ≤ 9223372036854775807) {T : List Lex.Tok} (h : Lex.scan s.data.toList = .good T) : Calls Try.prog 20 #[.string s] w fun e w' => ∃ g cap, e = .returned (.tuple #[.slice (some ⟨g, 0, none⟩) T.length cap, .agg #[.int .i64 0, .int .i64 0, .int .i64 0]]) ∧ w'.cell? ⟨g, 1, none⟩ = some (.string ⟨(Syn.tk T 0).text.toArray⟩) ∧ g < w'.heap.size ∧ Below w.heap.size w w' := by
  refine (scan_calls s w hs).mono ?_
  intro e w' hp
  rw [h] at hp
  obtain ⟨v, h1, h2, h3⟩ := hp
  obtain ⟨ts, x, hT, _, _, _⟩ := Lex.scan_ok h
  have hpos : 0 < T.length := by rw [hT]; simp
  obtain ⟨g, cap, rfl, -, hg⟩ := h2.form hpos
  have htr := toks_read h2 hg
  obtain ⟨g', off, e1, h5, h6, h7, _, _⟩ := htr 0 (Syn.tk T 0) (by
    unfold Syn.tk
    rw [List.getD, List.getElem?_eq_getElem hpos]
    rfl)
  injection e1 with e1
  injection e1 with e2 e3
  subst e2 e3
  exact ⟨g, cap, h1, by simpa using h7, hg, h3⟩
section
variable (nm s : ByteArray) (w : World) (hn : nm.size ≤ 9223372036854775807) (hs : s.size ≤ 9223372036854775807)
include hn hs
set_option maxRecDepth 8000 in
set_option maxHeartbeats 4000000 in
theorem start_long (h : 500 < s.size ∨ 100 < nm.size) : Calls Try.prog 6 #[.string nm, .string s] w fun e w' => e = .returned (.bool true) ∧ Below w.heap.size w w' := by
  by_cases h1 : 500 < s.size
  · have h1' : (500 : Int) < (s.size : Int) := by omega
    clear h h1
    go_enter Try.func6, Try.ntmps6
    go_wp2_with (first
      | (go_at_call 14; refine (speaks05_calls _).mono ?_; rintro e w1 ⟨rfl, hb1⟩)
      | (go_at_call 22; refine (good05_calls nm _ hn).mono ?_; rintro e w2 ⟨rfl, rfl⟩))
    go_ret
    exact ⟨rfl, hb1⟩
  · have h1' : ¬ (500 : Int) < (s.size : Int) := by omega
    have h2' : (100 : Int) < (nm.size : Int) := by omega
    clear h h1
    go_enter Try.func6, Try.ntmps6
    go_wp2_with (first
      | (go_at_call 14; refine (speaks05_calls _).mono ?_; rintro e w1 ⟨rfl, hb1⟩)
      | (go_at_call 22; refine (good05_calls nm _ hn).mono ?_; rintro e w2 ⟨rfl, rfl⟩))
    go_ret
    exact ⟨rfl, hb1⟩
set_option maxRecDepth 8000 in
set_option maxHeartbeats 4000000 in
theorem start_short (h1 : ¬ 500 < s.size) (h2 : ¬ 100 < nm.size) : Calls Try.prog 6 #[.string nm, .string s] w fun e w' => e = .returned (.bool true) ∧ Below w.heap.size w w' := by
  have h1' : ¬ (500 : Int) < (s.size : Int) := by omega
  have h2' : ¬ (100 : Int) < (nm.size : Int) := by omega
  have Hn := hid hn
  have Hs := hid hs
  have H1 := hid h1
  clear h1 h2 hn hs
  cases hp : Syn.parseS s.data.toList with
  | bad f =>
    have hcode := Syn.parse_code hp
    have hpc := fun w => parse_calls s w Hs.out
    rw [hp] at hpc
    obtain ⟨cd, hcd⟩ : ∃ cd : Int, cd = f.code := ⟨_, rfl⟩
    have hcd0 : ¬ cd = 0 := by omega
    simp only [ParsePost, ← hcd] at hpc
    obtain ⟨li, hli⟩ : ∃ li : Int, li = f.line := ⟨_, rfl⟩
    obtain ⟨co, hco⟩ : ∃ co : Int, co = f.col := ⟨_, rfl⟩
    simp only [← hli, ← hco] at hpc
    have Hpc := hid hpc
    clear hp hcode hpc hcd hli hco
    go_enter Try.func6, Try.ntmps6
    go_upto_region 6 with (first
      | (go_at_call 15; refine (Hpc.out _).mono ?_; rintro e w2 ⟨rfl, hb2⟩)
      | (go_at_call 14; refine (speaks05_calls _).mono ?_; rintro e w1 ⟨rfl, hb1⟩)
      | (go_at_call 22; refine (good05_calls nm _ Hn.out).mono ?_; rintro e w2 ⟨rfl, rfl⟩))
    obtain ⟨b6, hb6⟩ : ∃ b6, b6 = w2.heap.size + 1 := ⟨_, rfl⟩
    have hk6 := Bk.new (w2.alloc (.cells #[.string ⟨#[]⟩, .slice none 0 0] 25)) 28 [.int .i64 li, .int .i64 co, .int .i64 cd]
    have hbel := bel_trans (bel_new w2 (.cells #[.string ⟨#[]⟩, .slice none 0 0] 25)) (bel_new _ (.cells #[.int .i64 li, .int .i64 co, .int .i64 cd] 28))
    obtain ⟨wz, hwz⟩ : ∃ wz, wz = (w2.alloc (.cells #[.string ⟨#[]⟩, .slice none 0 0] 25)).alloc (.cells #[.int .i64 li, .int .i64 co, .int .i64 cd] 28) := ⟨_, rfl⟩
    have hs6 : (w2.alloc (.cells #[.string ⟨#[]⟩, .slice none 0 0] 25)).heap.size = b6 := by rw [hb6]; simp
    rw [hs6] at hk6
    rw [← hwz] at hk6 hbel ⊢
    rw [← hb6]
    have Hk6 := hid hk6
    have Hbel := hid hbel
    clear hwz hb6 hs6 hk6 hbel
    go_wp2_with (go_at_call 20; refine (scan_some s _ Hs.out).mono ?_; rintro e w3 ⟨v, x, y, z, rfl, hb3⟩; have hk := Hk6.out.below hb3 Hk6.out.lt; have y2 := hk.cell 2; have hl6 := hk.lt; simp only [List.getElem?_cons_zero, List.getElem?_cons_succ] at y2; clear hk)
    go_ret
    exact ⟨rfl, bel_trans hb1 (bel_trans hb2 (bel_trans Hbel.out (bel_trans hb3 (bel_new _ _))))⟩
  | ok st rs =>
    obtain ⟨T, hT⟩ := Syn.parse_good hp
    have hpc := fun w => parse_calls s w Hs.out
    rw [hp] at hpc
    simp only [ParsePost] at hpc
    have hsc := fun w => scan_toks s w Hs.out hT
    have hpos : 0 < T.length := by
      obtain ⟨ts, x, h3, _⟩ := Lex.scan_ok hT
      rw [h3]; simp
    obtain ⟨L, hL⟩ : ∃ L, L = T.length := ⟨_, rfl⟩
    obtain ⟨t0, ht0⟩ : ∃ t0, t0 = (Syn.tk T 0).text := ⟨_, rfl⟩
    have hLp : (0 : Int) < (L : Int) := by omega
    rw [← hL, ← ht0] at hsc
    obtain ⟨N, hN⟩ : ∃ N, N = rs.length := ⟨_, rfl⟩
    rw [← hN] at hpc
    have Hpc := hid hpc
    have Hsc := hid hsc
    have Hp := hid hp
    have HT := hid hT
    have Ht0 := hid ht0
    have HN := hid hN
    clear hpc hsc hp hT hpos hL ht0 hN
    go_enter Try.func6, Try.ntmps6
    go_upto_region 6 with (first
      | (go_at_call 15; refine (Hpc.out _).mono ?_; rintro e w2 ⟨ga, ca, rfl, hr2, hb2⟩)
      | (go_at_call 14; refine (speaks05_calls _).mono ?_; rintro e w1 ⟨rfl, hb1⟩)
      | (go_at_call 22; refine (good05_calls nm _ Hn.out).mono ?_; rintro e w2 ⟨rfl, rfl⟩))
    obtain ⟨b5, hb5⟩ : ∃ b5, b5 = w2.heap.size := ⟨_, rfl⟩
    obtain ⟨b6, hb6⟩ : ∃ b6, b6 = w2.heap.size + 1 := ⟨_, rfl⟩
    have hk5 := (Bk.new w2 25 [.string ⟨st.toArray⟩, .slice ga N ca]).alloc (.cells #[.int .i64 0, .int .i64 0, .int .i64 0] 28)
    have hk6 := Bk.new (w2.alloc (.cells #[.string ⟨st.toArray⟩, .slice ga N ca] 25)) 28 [.int .i64 0, .int .i64 0, .int .i64 0]
    have hbel := bel_trans (bel_new w2 (.cells #[.string ⟨st.toArray⟩, .slice ga N ca] 25)) (bel_new _ (.cells #[.int .i64 0, .int .i64 0, .int .i64 0] 28))
    obtain ⟨wz, hwz⟩ : ∃ wz, wz = (w2.alloc (.cells #[.string ⟨st.toArray⟩, .slice ga N ca] 25)).alloc (.cells #[.int .i64 0, .int .i64 0, .int .i64 0] 28) := ⟨_, rfl⟩
    have hs6 : (w2.alloc (.cells #[.string ⟨st.toArray⟩, .slice ga N ca] 25)).heap.size = b6 := by rw [hb6]; simp
    rw [hs6] at hk6
    rw [← hwz] at hk5 hk6 hbel ⊢
    rw [← hb6]
    rw [← hb5] at hk5 ⊢
    have Hk5 := hid hk5
    have Hk6 := hid hk6
    have Hbel := hid hbel
    have HB5 := hid hb5
    have hb56 : b5 < b6 := by omega
    clear hwz hb6 hs6 hk5 hk6 hbel hb5
    have hr2' : RulesM w2 (fun k => k < b5) ga rs := hr2.mono fun k hk => by have := hk.2; have := HB5.out; omega
    have Hr2 := hid hr2'
    clear hr2 hr2'
    by_cases h37 : t0 = [37]
    · subst h37
      go_wp2_with (go_at_call 20; refine (Hsc.out _).mono ?_; rintro e w3 ⟨g, cap, rfl, z1, hgl, hb3⟩; have hk := Hk6.out.below hb3 Hk6.out.lt; have y2 := hk.cell 2; have hl6 := hk.lt; simp only [List.getElem?_cons_zero, List.getElem?_cons_succ] at y2; clear hk)
      go_ret
      exact ⟨rfl, bel_trans hb1 (bel_trans hb2 (bel_trans Hbel.out (bel_trans hb3 (bel_new _ _))))⟩
    · have h37' : (t0 == [37]) = false := by simpa using h37
      have H37 := hid h37
      clear h37
      have hgd := fun w => good_calls nm w Hn.out
      cases hg : Lex.goodB nm.data.toList with
      | false =>
        rw [hg] at hgd
        clear hg
        go_wp2_with (first
          | (go_at_call 20; refine (Hsc.out _).mono ?_; rintro e w3 ⟨g, cap, rfl, z1, hgl, hb3⟩; have hk := Hk6.out.below hb3 Hk6.out.lt; have y2 := hk.cell 2; have hl6 := hk.lt; simp only [List.getElem?_cons_zero, List.getElem?_cons_succ] at y2; clear hk)
          | (go_at_call 23; refine (hgd _).mono ?_; rintro e w4 ⟨rfl, rfl⟩))
        go_ret
        exact ⟨rfl, bel_trans hb1 (bel_trans hb2 (bel_trans Hbel.out (bel_trans hb3 (bel_new _ _))))⟩
      | true =>
        rw [hg] at hgd
        have hX : (((⟨#[37]⟩ : ByteArray) ++ nm) ++ (⟨#[59]⟩ : ByteArray) ++ s).data.toList = 37 :: (nm.data.toList ++ 59 :: s.data.toList) := by simp
        have hXs : (((⟨#[37]⟩ : ByteArray) ++ nm) ++ (⟨#[59]⟩ : ByteArray) ++ s).size ≤ 9223372036854775807 := by
          have e : (((⟨#[37]⟩ : ByteArray) ++ nm) ++ (⟨#[59]⟩ : ByteArray) ++ s).size = (((⟨#[37]⟩ : ByteArray) ++ nm) ++ (⟨#[59]⟩ : ByteArray) ++ s).data.toList.length := by rw [Array.length_toList]; rfl
          rw [e, hX]
          have h5 := H1.out
          simp
          omega
        have hnm : ((∃ c r, nm.data.toList = c :: r ∧ Lex.isLetter c = true) ∧ (∀ c ∈ nm.data.toList, Lex.isRest c = true) ∧ nm.data.toList.length ≤ 32) := by
          unfold Lex.goodB at hg
          simp only [Bool.and_eq_true, decide_eq_true_eq] at hg
          obtain ⟨⟨h3, h4⟩, h5, h6⟩ := hg
          refine ⟨?_, List.all_eq_true.1 h6, h4⟩
          cases hl : nm.data.toList with
          | nil => rw [hl] at h3; simp at h3
          | cons c r =>
            rw [hl] at h5
            exact ⟨c, r, rfl, by simpa using h5⟩
        have hpr : Syn.parseS (37 :: (nm.data.toList ++ 59 :: s.data.toList)) = .ok nm.data.toList rs :=
          Syn.parse_start hnm Hp.out (by have := H1.out; simp; omega) HT.out (by rw [← Ht0.out]; exact H37.out)
        have hnn : (⟨nm.data.toList.toArray⟩ : ByteArray) = nm := by cases nm; simp
        have hpc2 := fun w => parse_calls _ w hXs
        rw [hX, hpr] at hpc2
        simp only [ParsePost, hnn] at hpc2
        rw [← HN.out] at hpc2
        have hfits := Syn.parse_fits Hp.out
        have Hpc2 := hid hpc2
        have Hfits := hid hfits
        have Hnn := hid hnn
        clear hg hX hXs hnm hpr hnn hpc2 hfits
        go_wp2_with (first
          | (go_at_call 20; refine (Hsc.out _).mono ?_; rintro e w3 ⟨g, cap, rfl, z1, hgl, hb3⟩; have hk := Hk6.out.below hb3 Hk6.out.lt; have y2 := hk.cell 2; have hl6 := hk.lt; simp only [List.getElem?_cons_zero, List.getElem?_cons_succ] at y2; clear hk)
          | (go_at_call 23; refine (hgd _).mono ?_; rintro e w4 ⟨rfl, rfl⟩)
          | (go_at_call 15; refine (Hpc2.out _).mono ?_; rintro e w4 ⟨gb, cb, rfl, hr4, hb4⟩; have hk54 := (Hk5.out.below hb3 Hk5.out.lt).alloc (.cells #[.int .i64 0, .int .i64 0, .int .i64 0] 28); have hk54 := hk54.below hb4 hk54.lt; have q0 := hk54.cell 0; have q1 := hk54.cell 1; have fq := hk54.free 0; have hl5 := hk54.lt; simp only [List.getElem?_cons_zero, List.getElem?_cons_succ] at q0 q1; clear hk54)
          | (go_at_call 24; have hb53 : b5 < w3.heap.size := (Hk5.out.below hb3 Hk5.out.lt).lt; have hk4 : Kp (fun k => k = b5) w4 (((w4.setCell ⟨b5, 0, none⟩ (.string nm)).alloc (.cells #[.string nm, .slice gb N cb] 25)).alloc (.cells #[.int .i64 0, .int .i64 0, .int .i64 0] 28)) := (((Kp.refl (fun k => k = b5) w4).set (p := ⟨b5, 0, none⟩) (.inl rfl) _).alloc _).alloc _; have hrb : RulesIn (((w4.setCell ⟨b5, 0, none⟩ (.string nm)).alloc (.cells #[.string nm, .slice gb N cb] 25)).alloc (.cells #[.int .i64 0, .int .i64 0, .int .i64 0] 28)) gb rs := (hr4.kp hk4 (fun k hk e => by have := hk.1; simp at this; omega)).mono (fun k hk => Nat.lt_of_lt_of_le hk.2 hk4.size); have hk24 := (((below_kp Hbel.out).trans (below_kp hb3)).alloc (.cells #[.int .i64 0, .int .i64 0, .int .i64 0] 28)).trans (below_kp hb4); have hra : RulesIn (((w4.setCell ⟨b5, 0, none⟩ (.string nm)).alloc (.cells #[.string nm, .slice gb N cb] 25)).alloc (.cells #[.int .i64 0, .int .i64 0, .int .i64 0] 28)) ga rs := (Hr2.out.kp ((hk24.mono (S' := fun k => k = b5) (fun _ _ e => e.elim)).trans hk4) (fun k hk e => by omega)).mono (fun k hk => by have := hk4.size; omega); have hsame := same_calls (M := 100000) (by omega) _ (nm.data.toList, rs) (nm.data.toList, rs) ga gb ca cb hra hrb (by have := Hfits.out.1; simp only; omega) (by have := Hfits.out.1; simp only; omega) Hfits.out.2 Hfits.out.2; rw [(Syn.sameG_iff _ _).2 rfl] at hsame; simp only [← HN.out] at hsame; refine hsame.mono ?_; rintro e w5 ⟨rfl, hb5⟩; have Hk4 := hid hk4; clear hk4 hrb hra hk24 hsame))
        go_ret
        refine ⟨rfl, ?_⟩
        have h5 : Below w2.heap.size w2 w4 := bel_trans Hbel.out (bel_trans hb3 (bel_trans (bel_new _ _) hb4))
        have h6 := h5.trans (Hk4.out.to_below (B := w2.heap.size) h5.size (fun k e => by have := HB5.out; omega))
        exact bel_trans hb1 (bel_trans hb2 (bel_trans h6 hb5))
/-- SyntaxStart is true. -/
theorem start_calls : Calls Try.prog 6 #[.string nm, .string s] w fun e w' => e = .returned (.bool true) ∧ Below w.heap.size w w' := by
  by_cases h : 500 < s.size ∨ 100 < nm.size
  · exact start_long nm s w hn hs h
  · exact start_short nm s w hn hs (fun e => h (.inl e)) (fun e => h (.inr e))
end
end Go.Proofs.Ytjaampgpihicmaa
