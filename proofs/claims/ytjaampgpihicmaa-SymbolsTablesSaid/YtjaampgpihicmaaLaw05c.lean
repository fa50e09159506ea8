/- Chapter 5 (syntax): SyntaxJoins: two texts, one behind the other. -/
import Derived.Test.YtjaampgpihicmaaLaw05b
namespace Go.Proofs.Ytjaampgpihicmaa
open Go.RowKit
attribute [local go_sem ↓] Go.wp_at_zero Go.wp_at_succ
attribute [local go_sem] frozen_alloc_lt
open Syn (Nd Nod)

theorem two_new (w : World) (t1 t2 : TypeId) (c1 c2 : List Value) : Bk ((w.alloc (.cells c1.toArray t1)).alloc (.cells c2.toArray t2)) w.heap.size t1 c1 ∧ Bk ((w.alloc (.cells c1.toArray t1)).alloc (.cells c2.toArray t2)) (w.heap.size + 1) t2 c2 ∧ Below w.heap.size w ((w.alloc (.cells c1.toArray t1)).alloc (.cells c2.toArray t2)) := by
  refine ⟨(Bk.new w t1 c1).alloc _, ?_, bel_trans (bel_new _ _) (bel_new _ _)⟩
  have := Bk.new (w.alloc (.cells c1.toArray t1)) t2 c2
  simpa using this
theorem parse_any (s : ByteArray) (w : World) (hs : s.size ≤ 9223372036854775807) : Calls Try.prog 15 #[.string s] w fun e w' => ∃ v ga n ca x y z, e = .returned (.tuple #[.agg #[.string v, .slice ga n ca], .agg #[.int .i64 x, .int .i64 y, .int .i64 z]]) ∧ Below w.heap.size w w' := by
  refine (parse_calls s w hs).mono ?_
  intro e w' h
  cases hc : Syn.parseS s.data.toList with
  | bad f =>
    rw [hc] at h
    exact ⟨_, _, _, _, _, _, _, h.1, h.2⟩
  | ok st rs =>
    rw [hc] at h
    obtain ⟨ga, ca, h1, _, h3⟩ := h
    exact ⟨_, _, _, _, _, _, _, h1, h3⟩
theorem parse_no (s : ByteArray) (w : World) (hs : s.size ≤ 9223372036854775807) {f : Lex.Flt} (h : Syn.parseS s.data.toList = .bad f) : Calls Try.prog 15 #[.string s] w fun e w' => ∃ x y z : Int, z ≠ 0 ∧ e = .returned (.tuple #[.agg #[.string ⟨#[]⟩, .slice none 0 0], .agg #[.int .i64 x, .int .i64 y, .int .i64 z]]) ∧ Below w.heap.size w w' := by
  refine (parse_calls s w hs).mono ?_
  intro e w' hp
  rw [h] at hp
  have := Syn.parse_code h
  exact ⟨_, _, f.code, by omega, hp.1, hp.2⟩
def JoinAt (w0 : World) (N : Nat) (k : Nat) (v13 : Value) (w : World) : Prop := ∃ i : Nat, v13 = .int .i64 i ∧ i ≤ N ∧ k = N - i ∧ Below w0.heap.size w0 w
section
variable (a b : ByteArray) (w : World) (ha : a.size ≤ 9223372036854775807) (hb : b.size ≤ 9223372036854775807)
include ha hb
set_option maxRecDepth 8000 in
set_option maxHeartbeats 4000000 in
theorem sjoins_long (h : 500 < a.size ∨ 500 < b.size) : Calls Try.prog 4 #[.string a, .string b] w fun e w' => e = .returned (.bool true) ∧ Below w.heap.size w w' := by
  by_cases h1 : 500 < a.size
  · have h1' : (500 : Int) < (a.size : Int) := by omega
    clear h h1
    go_enter Try.func4, Try.ntmps4
    go_wp2_with (go_at_call 14; refine (speaks05_calls _).mono ?_; rintro e w1 ⟨rfl, hb1⟩)
    go_ret
    exact ⟨rfl, hb1⟩
  · have h1' : ¬ (500 : Int) < (a.size : Int) := by omega
    have h2' : (500 : Int) < (b.size : Int) := by omega
    clear h h1
    go_enter Try.func4, Try.ntmps4
    go_wp2_with (go_at_call 14; refine (speaks05_calls _).mono ?_; rintro e w1 ⟨rfl, hb1⟩)
    go_ret
    exact ⟨rfl, hb1⟩
set_option maxRecDepth 8000 in
set_option maxHeartbeats 4000000 in
theorem sjoins_bad1 (h1 : ¬ 500 < a.size) (h2 : ¬ 500 < b.size) {f : Lex.Flt} (hp : Syn.parseS a.data.toList = .bad f) : Calls Try.prog 4 #[.string a, .string b] w fun e w' => e = .returned (.bool true) ∧ Below w.heap.size w w' := by
  have h1' : ¬ (500 : Int) < (a.size : Int) := by omega
  have h2' : ¬ (500 : Int) < (b.size : Int) := by omega
  have Hpa := hid (fun w => parse_no a w ha hp)
  have Hpb := hid (fun w => parse_any b w hb)
  have Hsb := hid (fun w => scan_some b w hb)
  clear h1 h2 hp ha hb
  go_enter Try.func4, Try.ntmps4
  go_upto_region 6 with (first
    | (go_at_call 15; refine (Hpa.out _).mono ?_; rintro e w2 ⟨x, y, z, hz, rfl, hb2⟩)
    | (go_at_call 14; refine (speaks05_calls _).mono ?_; rintro e w1 ⟨rfl, hb1⟩))
  obtain ⟨-, hk6, hbel⟩ := two_new w2 25 28 [.string ⟨#[]⟩, .slice none 0 0] [.int .i64 x, .int .i64 y, .int .i64 z]
  obtain ⟨b6, hb6⟩ : ∃ b6, b6 = w2.heap.size + 1 := ⟨_, rfl⟩
  obtain ⟨wz, hwz⟩ : ∃ wz, wz = (w2.alloc (.cells #[.string ⟨#[]⟩, .slice none 0 0] 25)).alloc (.cells #[.int .i64 x, .int .i64 y, .int .i64 z] 28) := ⟨_, rfl⟩
  rw [← hb6] at hk6 ⊢
  rw [← hwz] at hk6 hbel ⊢
  have Hk6 := hid hk6
  have Hbel := hid hbel
  clear hb6 hwz hk6 hbel
  go_wp2_with (first
    | (go_at_call 15; refine (Hpb.out _).mono ?_; rintro e w3 ⟨v, gv, nv, cv, x3, y3, z3, rfl, hb3⟩; have hl63 := (Hk6.out.below hb3 Hk6.out.lt).lt)
    | (go_at_call 20; refine (Hsb.out _).mono ?_; rintro e w4 ⟨v4, x4, y4, z4, rfl, hb4⟩; have hk := (((Hk6.out.below hb3 Hk6.out.lt).alloc (.cells #[.string v, .slice gv nv cv] 25)).alloc (.cells #[.int .i64 x3, .int .i64 y3, .int .i64 z3] 28)); have hk := hk.below hb4 hk.lt; have y6 := hk.cell 2; have hl6 := hk.lt; simp only [List.getElem?_cons_zero, List.getElem?_cons_succ] at y6; clear hk))
  go_ret
  exact ⟨rfl, bel_trans hb1 (bel_trans hb2 (bel_trans Hbel.out (bel_trans hb3 (bel_trans (bel_trans (bel_new _ _) (bel_new _ _)) (bel_trans hb4 (bel_new _ _))))))⟩
set_option maxRecDepth 8000 in
set_option maxHeartbeats 4000000 in
theorem sjoins_bad2 (h1 : ¬ 500 < a.size) (h2 : ¬ 500 < b.size) {st : List UInt8} {rs : List (List UInt8 × Nod)} (hp : Syn.parseS a.data.toList = .ok st rs) {f : Lex.Flt} (hq : Syn.parseS b.data.toList = .bad f) : Calls Try.prog 4 #[.string a, .string b] w fun e w' => e = .returned (.bool true) ∧ Below w.heap.size w w' := by
  have h1' : ¬ (500 : Int) < (a.size : Int) := by omega
  have h2' : ¬ (500 : Int) < (b.size : Int) := by omega
  have hpc := fun w => parse_calls a w ha
  rw [hp] at hpc
  simp only [ParsePost] at hpc
  obtain ⟨N, hN⟩ : ∃ N, N = rs.length := ⟨_, rfl⟩
  rw [← hN] at hpc
  have Hpa := hid hpc
  have Hpb := hid (fun w => parse_no b w hb hq)
  have Hsb := hid (fun w => scan_some b w hb)
  clear h1 h2 hp hq ha hb hpc hN
  go_enter Try.func4, Try.ntmps4
  go_upto_region 6 with (first
    | (go_at_call 15; refine (Hpa.out _).mono ?_; rintro e w2 ⟨ga, ca, rfl, hr2, hb2⟩)
    | (go_at_call 14; refine (speaks05_calls _).mono ?_; rintro e w1 ⟨rfl, hb1⟩))
  obtain ⟨hk5, hk6, hbel⟩ := two_new w2 25 28 [.string ⟨st.toArray⟩, .slice ga N ca] [.int .i64 0, .int .i64 0, .int .i64 0]
  obtain ⟨b5, hb5⟩ : ∃ b5, b5 = w2.heap.size := ⟨_, rfl⟩
  obtain ⟨b6, hb6⟩ : ∃ b6, b6 = w2.heap.size + 1 := ⟨_, rfl⟩
  obtain ⟨wz, hwz⟩ : ∃ wz, wz = (w2.alloc (.cells #[.string ⟨st.toArray⟩, .slice ga N ca] 25)).alloc (.cells #[.int .i64 0, .int .i64 0, .int .i64 0] 28) := ⟨_, rfl⟩
  rw [← hb6] at hk6 ⊢
  rw [← hb5] at hk5 ⊢
  rw [← hwz] at hk5 hk6 hbel ⊢
  have Hra := hid ((RulesIn.of hr2).later hbel)
  have Hk5 := hid hk5
  have Hk6 := hid hk6
  have Hbz := hid (bel_trans hb1 (bel_trans hb2 hbel))
  clear hb6 hb5 hwz hk5 hk6 hbel hr2 hb1 hb2
  go_upto_region 7 with (go_at_call 15; refine (Hpb.out _).mono ?_; rintro e w3 ⟨x, y, z, hz, rfl, hb3⟩)
  obtain ⟨-, hk8, hbel⟩ := two_new w3 25 28 [.string ⟨#[]⟩, .slice none 0 0] [.int .i64 x, .int .i64 y, .int .i64 z]
  obtain ⟨b8, hb8⟩ : ∃ b8, b8 = w3.heap.size + 1 := ⟨_, rfl⟩
  obtain ⟨wy, hwy⟩ : ∃ wy, wy = (w3.alloc (.cells #[.string ⟨#[]⟩, .slice none 0 0] 25)).alloc (.cells #[.int .i64 x, .int .i64 y, .int .i64 z] 28) := ⟨_, rfl⟩
  rw [← hb8] at hk8 ⊢
  rw [← hwy] at hk8 hbel ⊢
  have Hk8 := hid hk8
  have Hk62 := hid (Hk6.out.below (bel_trans hb3 hbel) Hk6.out.lt)
  have Hby := hid (bel_trans Hbz.out (bel_trans hb3 hbel))
  clear hb8 hwy hk8 hbel hb3
  go_wp2_with (go_at_call 20; refine (Hsb.out _).mono ?_; rintro e w4 ⟨v4, x4, y4, z4, rfl, hb4⟩; have hk := Hk62.out.below hb4 Hk62.out.lt; have y6 := hk.cell 2; have hl6 := hk.lt; have hk := Hk8.out.below hb4 Hk8.out.lt; have y8 := hk.cell 2; have hl8 := hk.lt; simp only [List.getElem?_cons_zero, List.getElem?_cons_succ] at y6 y8; clear hk)
  go_ret
  exact ⟨rfl, bel_trans Hby.out (bel_trans hb4 (bel_new _ _))⟩
set_option maxRecDepth 8000 in
set_option maxHeartbeats 4000000 in
theorem sjoins_main (h1 : ¬ 500 < a.size) (h2 : ¬ 500 < b.size) {st st' : List UInt8} {rs rs' : List (List UInt8 × Nod)} (hp : Syn.parseS a.data.toList = .ok st rs) (hq : Syn.parseS b.data.toList = .ok st' rs') : Calls Try.prog 4 #[.string a, .string b] w fun e w' => e = .returned (.bool true) ∧ Below w.heap.size w w' := by
  have h1' : ¬ (500 : Int) < (a.size : Int) := by omega
  have h2' : ¬ (500 : Int) < (b.size : Int) := by omega
  obtain ⟨T, hT⟩ := Syn.parse_good hq
  have hsc := fun w => scan_toks b w hb hT
  have hpos : 0 < T.length := by
    obtain ⟨ts, x, h3, _⟩ := Lex.scan_ok hT
    rw [h3]; simp
  obtain ⟨L, hL⟩ : ∃ L, L = T.length := ⟨_, rfl⟩
  obtain ⟨t0, ht0⟩ : ∃ t0, t0 = (Syn.tk T 0).text := ⟨_, rfl⟩
  have hLp : (0 : Int) < (L : Int) := by omega
  rw [← hL, ← ht0] at hsc
  have hpc := fun w => parse_calls a w ha
  have hqc := fun w => parse_calls b w hb
  rw [hp] at hpc
  rw [hq] at hqc
  simp only [ParsePost] at hpc hqc
  obtain ⟨N, hN⟩ : ∃ N, N = rs.length := ⟨_, rfl⟩
  obtain ⟨N', hN'⟩ : ∃ N', N' = rs'.length := ⟨_, rfl⟩
  have hNl : N ≤ 64 ∧ N' ≤ 64 := by have h5 := (Syn.parse_fits hp).1; have h6 := (Syn.parse_fits hq).1; omega
  rw [← hN] at hpc
  rw [← hN'] at hqc
  have Hpa := hid hpc
  have Hpb := hid hqc
  have Hsb := hid hsc
  have Hp := hid hp
  have Hq := hid hq
  have HT := hid hT
  have Ht0 := hid ht0
  have HN := hid hN
  have HN' := hid hN'
  have Hsz := hid (And.intro h1 h2)
  have hN1 := hNl.1
  have hN2 := hNl.2
  clear h1 h2 hp hq ha hb hpc hqc hsc hN hN' hT ht0 hpos hL hNl
  go_enter Try.func4, Try.ntmps4
  go_upto_region 6 with (first
    | (go_at_call 15; refine (Hpa.out _).mono ?_; rintro e w2 ⟨ga, ca, rfl, hr2, hb2⟩)
    | (go_at_call 14; refine (speaks05_calls _).mono ?_; rintro e w1 ⟨rfl, hb1⟩))
  obtain ⟨hk5, hk6, hbel⟩ := two_new w2 25 28 [.string ⟨st.toArray⟩, .slice ga N ca] [.int .i64 0, .int .i64 0, .int .i64 0]
  obtain ⟨b5, hb5⟩ : ∃ b5, b5 = w2.heap.size := ⟨_, rfl⟩
  obtain ⟨b6, hb6⟩ : ∃ b6, b6 = w2.heap.size + 1 := ⟨_, rfl⟩
  obtain ⟨wz, hwz⟩ : ∃ wz, wz = (w2.alloc (.cells #[.string ⟨st.toArray⟩, .slice ga N ca] 25)).alloc (.cells #[.int .i64 0, .int .i64 0, .int .i64 0] 28) := ⟨_, rfl⟩
  rw [← hb6] at hk6 ⊢
  rw [← hb5] at hk5 ⊢
  rw [← hwz] at hk5 hk6 hbel ⊢
  have Hra := hid ((RulesIn.of hr2).later hbel)
  have Hk5 := hid hk5
  have Hk6 := hid hk6
  have Hbz := hid (bel_trans hb1 (bel_trans hb2 hbel))
  clear hb6 hb5 hwz hk5 hk6 hbel hr2 hb1 hb2
  go_upto_region 7 with (go_at_call 15; refine (Hpb.out _).mono ?_; rintro e w3 ⟨gb, cb, rfl, hr3, hb3⟩)
  obtain ⟨hk7, hk8, hbel⟩ := two_new w3 25 28 [.string ⟨st'.toArray⟩, .slice gb N' cb] [.int .i64 0, .int .i64 0, .int .i64 0]
  obtain ⟨b7, hb7⟩ : ∃ b7, b7 = w3.heap.size := ⟨_, rfl⟩
  obtain ⟨b8, hb8⟩ : ∃ b8, b8 = w3.heap.size + 1 := ⟨_, rfl⟩
  obtain ⟨wy, hwy⟩ : ∃ wy, wy = (w3.alloc (.cells #[.string ⟨st'.toArray⟩, .slice gb N' cb] 25)).alloc (.cells #[.int .i64 0, .int .i64 0, .int .i64 0] 28) := ⟨_, rfl⟩
  rw [← hb8] at hk8 ⊢
  rw [← hb7] at hk7 ⊢
  rw [← hwy] at hk7 hk8 hbel ⊢
  have Hrb := hid ((RulesIn.of hr3).later hbel)
  have Hra2 := hid (Hra.out.later (bel_trans hb3 hbel))
  have Hk7 := hid hk7
  have Hk8 := hid hk8
  have Hk52 := hid (Hk5.out.below (bel_trans hb3 hbel) Hk5.out.lt)
  have Hk62 := hid (Hk6.out.below (bel_trans hb3 hbel) Hk6.out.lt)
  have Hby := hid (bel_trans Hbz.out (bel_trans hb3 hbel))
  clear hb7 hb8 hwy hk7 hk8 hbel hb3 hr3
  go_upto_region 8 with (go_at_call 20; refine (Hsb.out _).mono ?_; rintro e w4 ⟨g, cap, rfl, z1, hgl, hb4⟩)
  have hal := bel_new w4 (.cells #[.int .i64 0, .int .i64 0, .int .i64 0] 28)
  have z1' := (hal.cell (p := ⟨g, 1, none⟩) hgl).trans z1
  obtain ⟨wx, hwx⟩ : ∃ wx, wx = w4.alloc (.cells #[.int .i64 0, .int .i64 0, .int .i64 0] 28) := ⟨_, rfl⟩
  obtain ⟨b10, hb10⟩ : ∃ b10, b10 = w4.heap.size := ⟨_, rfl⟩
  rw [← hwx] at hal z1' ⊢
  rw [← hb10]
  have hb4x := bel_trans hb4 hal
  have Hra3 := hid (Hra2.out.later hb4x)
  have Hrb3 := hid (Hrb.out.later hb4x)
  have k5 := Hk52.out.below hb4x Hk52.out.lt
  have k6 := Hk62.out.below hb4x Hk62.out.lt
  have k7 := Hk7.out.below hb4x Hk7.out.lt
  have k8 := Hk8.out.below hb4x Hk8.out.lt
  have x50 := k5.cell 0
  have x51 := k5.cell 1
  have x62 := k6.cell 2
  have x70 := k7.cell 0
  have x71 := k7.cell 1
  have x82 := k8.cell 2
  simp only [List.getElem?_cons_zero, List.getElem?_cons_succ] at x50 x51 x62 x70 x71 x82
  have K5 := hid k5
  have K7 := hid k7
  have Hbx := hid (bel_trans Hby.out hb4x)
  clear hwx hb10 z1 hgl hb4 hal hb4x k5 k6 k7 k8
  by_cases hsum : 64 < N + N'
  · have hs' : (64 : Int) < (N : Int) + (N' : Int) := by omega
    clear hsum
    go_wp2_with fail
    go_ret
    exact ⟨rfl, Hbx.out⟩
  · have hs' : ¬ (64 : Int) < (N : Int) + (N' : Int) := by omega
    by_cases h37 : t0 = [37]
    · subst h37
      clear hsum
      go_wp2_with fail
      go_ret
      exact ⟨rfl, Hbx.out⟩
    · have h37' : (t0 == [37]) = false := by simpa using h37
      have H37 := hid h37
      have Hsum := hid hsum
      clear h37 hsum
      have hX : (a ++ (⟨#[10]⟩ : ByteArray) ++ b).data.toList = a.data.toList ++ 10 :: b.data.toList := by simp
      have hXs : (a ++ (⟨#[10]⟩ : ByteArray) ++ b).size ≤ 9223372036854775807 := by
        have e : (a ++ (⟨#[10]⟩ : ByteArray) ++ b).size = (a ++ (⟨#[10]⟩ : ByteArray) ++ b).data.toList.length := by rw [Array.length_toList]; rfl
        rw [e, hX]
        have h5 := Hsz.out
        simp
        omega
      have hpr : Syn.parseS (a.data.toList ++ 10 :: b.data.toList) = .ok st (rs ++ rs') :=
        Syn.parse_join Hp.out Hq.out (by have := Hsz.out.1; simp; omega) (by have := Hsz.out.2; simp; omega) (by have h5 := HN.out; have h6 := HN'.out; have := Hsum.out; omega) HT.out (by rw [← Ht0.out]; exact H37.out)
      have hpc2 := fun w => parse_calls _ w hXs
      rw [hX, hpr] at hpc2
      simp only [ParsePost, List.length_append] at hpc2
      rw [← HN.out, ← HN'.out] at hpc2
      have Hpc2 := hid hpc2
      have Hf1 := hid (Syn.parse_fits Hp.out).2
      have Hf2 := hid (Syn.parse_fits Hq.out).2
      clear hX hXs hpr hpc2
      go_upto_region 11 with (go_at_call 15; refine (Hpc2.out _).mono ?_; rintro e w5 ⟨gc, cc, rfl, hr5, hb5⟩)
      obtain ⟨hk11, hk12, hbel⟩ := two_new w5 25 28 [.string ⟨st.toArray⟩, .slice gc (N + N') cc] [.int .i64 0, .int .i64 0, .int .i64 0]
      obtain ⟨b11, hb11⟩ : ∃ b11, b11 = w5.heap.size := ⟨_, rfl⟩
      obtain ⟨b12, hb12⟩ : ∃ b12, b12 = w5.heap.size + 1 := ⟨_, rfl⟩
      obtain ⟨wv, hwv⟩ : ∃ wv, wv = (w5.alloc (.cells #[.string ⟨st.toArray⟩, .slice gc (N + N') cc] 25)).alloc (.cells #[.int .i64 0, .int .i64 0, .int .i64 0] 28) := ⟨_, rfl⟩
      rw [← hb12] at hk12 ⊢
      rw [← hb11] at hk11 ⊢
      rw [← hwv] at hk11 hk12 hbel ⊢
      have Hrc := hid ((RulesIn.of hr5).later hbel)
      have Hra4 := hid (Hra3.out.later (bel_trans hb5 hbel))
      have Hrb4 := hid (Hrb3.out.later (bel_trans hb5 hbel))
      have k5 := K5.out.below (bel_trans hb5 hbel) K5.out.lt
      have k7 := K7.out.below (bel_trans hb5 hbel) K7.out.lt
      have y50 := k5.cell 0
      have y51 := k5.cell 1
      have y71 := k7.cell 1
      have y110 := hk11.cell 0
      have y111 := hk11.cell 1
      have y122 := hk12.cell 2
      simp only [List.getElem?_cons_zero, List.getElem?_cons_succ] at y50 y51 y71 y110 y111 y122
      have K52 := hid k5
      have K72 := hid k7
      have K11 := hid hk11
      have Hbv := hid (bel_trans Hbx.out (bel_trans hb5 hbel))
      obtain ⟨M, hM⟩ : ∃ M, M = N + N' := ⟨_, rfl⟩
      have hMi : (N : Int) + (N' : Int) = (M : Int) := by omega
      rw [← hM] at y111 K11 ⊢
      have HM := hid hM
      clear hb11 hb12 hwv hk11 hk12 hbel hb5 hr5 k5 k7 x50 x51 x62 x70 x71 x82 hM
      go_wp2_with fail
      clear hMi
      go_loopg [13] M (fun k v13 wr => JoinAt wv M k v13 wr)
      case atStart => exact ⟨0, rfl, Nat.zero_le _, rfl, Below.refl _ _⟩
      case round =>
        obtain ⟨i, rfl, hi, hk, hbw⟩ := hrel
        have Hk := hid hk
        have z50 := (K52.out.below hbw K52.out.lt).cell 0
        have z51 := (K52.out.below hbw K52.out.lt).cell 1
        have z71 := (K72.out.below hbw K72.out.lt).cell 1
        have z111 := (K11.out.below hbw K11.out.lt).cell 1
        have l5 := (K52.out.below hbw K52.out.lt).lt
        have l7 := (K72.out.below hbw K72.out.lt).lt
        have l11 := (K11.out.below hbw K11.out.lt).lt
        simp only [List.getElem?_cons_zero, List.getElem?_cons_succ] at z50 z51 z71 z111
        clear hk
        rcases Nat.lt_or_ge i M with hlt | hge
        · have hlt' : (i : Int) < (M : Int) := by omega
          have hi0 : (0 : Int) ≤ (i : Int) := by omega
          have hil : i < (rs ++ rs').length := by rw [List.length_append]; have := HN.out; have := HN'.out; have := HM.out; omega
          obtain ⟨x, hx⟩ : ∃ x, (rs ++ rs')[i]? = some x := ⟨_, List.getElem?_eq_getElem hil⟩
          obtain ⟨g1, o1, k1, q1, rfl, hg1, d0, d1, d2, d3, hn1⟩ := Hrc.out i x hx
          have D0 := (hbw.cell (p := ⟨g1, _, none⟩) hg1).trans d0
          have D1 := (hbw.cell (p := ⟨g1, _, none⟩) hg1).trans d1
          have D2 := (hbw.cell (p := ⟨g1, _, none⟩) hg1).trans d2
          have D3 := (hbw.cell (p := ⟨g1, _, none⟩) hg1).trans d3
          have hl1 : g1 < wr.heap.size := Nat.lt_of_lt_of_le hg1 hbw.size
          have hnd1 : NdIn wr k1 x.2.kids 0 := NdIn.later hn1 hbw
          clear hil d0 d1 d2 d3 hn1
          rcases Nat.lt_or_ge i N with hN3 | hN3
          · have hxi : rs[i]? = some x := by rw [← hx, List.getElem?_append_left (by have := HN.out; omega)]
            obtain ⟨g2, o2, k2, q2, rfl, hg2, e0, e1, e2, e3, hn2⟩ := Hra4.out i x hxi
            have hiN : (i : Int) < (N : Int) := by omega
            have hfx := Hf1.out x (List.mem_of_getElem? hxi)
            have E0 := (hbw.cell (p := ⟨g2, _, none⟩) hg2).trans e0
            have E1 := (hbw.cell (p := ⟨g2, _, none⟩) hg2).trans e1
            have E2 := (hbw.cell (p := ⟨g2, _, none⟩) hg2).trans e2
            have E3 := (hbw.cell (p := ⟨g2, _, none⟩) hg2).trans e3
            have hl2 : g2 < wr.heap.size := Nat.lt_of_lt_of_le hg2 hbw.size
            have hnd2 : NdIn wr k2 x.2.kids 0 := NdIn.later hn2 hbw
            have hsame : ∀ wy, Below wr.heap.size wr wy → Calls Try.prog 21 #[nodeV x.2 k1 q1, nodeV x.2 k2 q2] wy fun e w' => e = .returned (.bool true) ∧ Below wy.heap.size wy w' := fun wy hy => by
              have := sameNode_calls (M := 100000) (by omega) x.2.kids.nodes wy x.2 x.2 k1 k2 q1 q2 rfl (hnd1.later hy) (hnd2.later hy) hfx hfx
              rw [(Syn.sameN_iff _ _).2 rfl] at this
              exact this
            simp only [nodeV] at hsame
            have Hsame := hid hsame
            have Hbw := hid hbw
            clear hx hxi hfx e0 e1 e2 e3 hn2 hnd1 hnd2 hsame hbw
            go_upto_region 20 with fail
            obtain ⟨kx, hkx⟩ : ∃ kx : Int, kx = x.2.kind := ⟨_, rfl⟩
            rw [← hkx] at D1 Hsame ⊢
            clear hkx
            have hbA := bel_new wr (.cells #[.string ⟨x.1.toArray⟩, .int .i64 kx, .string ⟨x.2.text.toArray⟩, .slice k2 x.2.kids.len q2] 51)
            have hkA := Bk.new wr 51 [.string ⟨x.1.toArray⟩, .int .i64 kx, .string ⟨x.2.text.toArray⟩, .slice k2 x.2.kids.len q2]
            have a111 := (hbA.cell (p := ⟨b11, 1, none⟩) l11).trans z111
            have A0 := (hbA.cell (p := ⟨g1, _, none⟩) hl1).trans D0
            have A1 := (hbA.cell (p := ⟨g1, _, none⟩) hl1).trans D1
            have A2 := (hbA.cell (p := ⟨g1, _, none⟩) hl1).trans D2
            have A3 := (hbA.cell (p := ⟨g1, _, none⟩) hl1).trans D3
            have hlA1 : g1 < (wr.alloc (.cells #[.string ⟨x.1.toArray⟩, .int .i64 kx, .string ⟨x.2.text.toArray⟩, .slice k2 x.2.kids.len q2] 51)).heap.size := Nat.lt_of_lt_of_le hl1 hbA.size
            have hlA11 : b11 < (wr.alloc (.cells #[.string ⟨x.1.toArray⟩, .int .i64 kx, .string ⟨x.2.text.toArray⟩, .slice k2 x.2.kids.len q2] 51)).heap.size := Nat.lt_of_lt_of_le l11 hbA.size
            obtain ⟨wA, hwA⟩ : ∃ wA, wA = wr.alloc (.cells #[.string ⟨x.1.toArray⟩, .int .i64 kx, .string ⟨x.2.text.toArray⟩, .slice k2 x.2.kids.len q2] 51) := ⟨_, rfl⟩
            obtain ⟨br, hbr⟩ : ∃ br, br = wr.heap.size := ⟨_, rfl⟩
            rw [← hwA] at hbA hkA a111 A0 A1 A2 A3 hlA1 hlA11 ⊢
            rw [← hbr] at hkA ⊢
            have B0 := hkA.cell 0
            have B1 := hkA.cell 1
            have B2 := hkA.cell 2
            have B3 := hkA.cell 3
            have hlBr := hkA.lt
            simp only [List.getElem?_cons_zero, List.getElem?_cons_succ] at B0 B1 B2 B3
            have hbD : Below wr.heap.size wr wA.drew := below_drewN hbA 1
            have hdA : Below wA.heap.size wA wA.drew := below_drewN (Below.refl _ _) 1
            have HbA := hid hbA
            have HkA := hid hkA
            clear hwA hbr hbA hkA D0 D1 D2 D3 E0 E1 E2 E3
            go_region_held3 (fun w' => w'.cell? ⟨b11, 1, none⟩ = some (.slice (some ⟨g1, o1, none⟩) M cc) ∧ w'.cell? ⟨g1, o1 + i * 4, none⟩ = some (.string ⟨x.1.toArray⟩) ∧ w'.cell? ⟨g1, o1 + i * 4 + 1, none⟩ = some (.int .i64 kx) ∧ w'.cell? ⟨g1, o1 + i * 4 + 2, none⟩ = some (.string ⟨x.2.text.toArray⟩) ∧ w'.cell? ⟨g1, o1 + i * 4 + 3, none⟩ = some (.slice k1 x.2.kids.len q1) ∧ w'.cell? ⟨br, 0, none⟩ = some (.string ⟨x.1.toArray⟩) ∧ w'.cell? ⟨br, 1, none⟩ = some (.int .i64 kx) ∧ w'.cell? ⟨br, 2, none⟩ = some (.string ⟨x.2.text.toArray⟩) ∧ w'.cell? ⟨br, 3, none⟩ = some (.slice k2 x.2.kids.len q2))
              (go_keep)
              (first | (go_at_call 21; refine (Hsame.out _ hbD).mono ?_; rintro e w9 ⟨rfl, hb9⟩; have hA9 := hdA.trans (hb9.mono hdA.size); have m0 := (hA9.cell (p := ⟨b11, 1, none⟩) hlA11).trans a111; have m1 := (hA9.cell (p := ⟨g1, _, none⟩) hlA1).trans A0; have m2 := (hA9.cell (p := ⟨g1, _, none⟩) hlA1).trans A1; have m3 := (hA9.cell (p := ⟨g1, _, none⟩) hlA1).trans A2; have m4 := (hA9.cell (p := ⟨g1, _, none⟩) hlA1).trans A3; have m5 := (hA9.cell (p := ⟨br, 0, none⟩) hlBr).trans B0; have m6 := (hA9.cell (p := ⟨br, 1, none⟩) hlBr).trans B1; have m7 := (hA9.cell (p := ⟨br, 2, none⟩) hlBr).trans B2; have m8 := (hA9.cell (p := ⟨br, 3, none⟩) hlBr).trans B3))
            all_goals
              go_wp2_with fail
              go_roundg (M - (i + 1))
              case measure => have := Hk.out; omega
              case rel => exact ⟨i + 1, by go_num, by omega, rfl, bel_trans Hbw.out (bel_trans HbA.out hA9)⟩
          · obtain ⟨j, hj⟩ : ∃ j, i = N + j := ⟨i - N, by omega⟩
            have hxi : rs'[j]? = some x := by
              rw [← hx, List.getElem?_append_right (by have := HN.out; omega)]
              have : i - rs.length = j := by have := HN.out; omega
              rw [this]
            obtain ⟨g2, o2, k2, q2, rfl, hg2, e0, e1, e2, e3, hn2⟩ := Hrb4.out j x hxi
            have hiN : ¬ (i : Int) < (N : Int) := by omega
            have hsub : (i : Int) - (N : Int) = (j : Int) := by omega
            have hjN : (j : Int) < (N' : Int) := by have := HM.out; omega
            have hj0 : (0 : Int) ≤ (j : Int) := by omega
            have hfx := Hf2.out x (List.mem_of_getElem? hxi)
            have E0 := (hbw.cell (p := ⟨g2, _, none⟩) hg2).trans e0
            have E1 := (hbw.cell (p := ⟨g2, _, none⟩) hg2).trans e1
            have E2 := (hbw.cell (p := ⟨g2, _, none⟩) hg2).trans e2
            have E3 := (hbw.cell (p := ⟨g2, _, none⟩) hg2).trans e3
            have hl2 : g2 < wr.heap.size := Nat.lt_of_lt_of_le hg2 hbw.size
            have hnd2 : NdIn wr k2 x.2.kids 0 := NdIn.later hn2 hbw
            have hsame : ∀ wy, Below wr.heap.size wr wy → Calls Try.prog 21 #[nodeV x.2 k1 q1, nodeV x.2 k2 q2] wy fun e w' => e = .returned (.bool true) ∧ Below wy.heap.size wy w' := fun wy hy => by
              have := sameNode_calls (M := 100000) (by omega) x.2.kids.nodes wy x.2 x.2 k1 k2 q1 q2 rfl (hnd1.later hy) (hnd2.later hy) hfx hfx
              rw [(Syn.sameN_iff _ _).2 rfl] at this
              exact this
            simp only [nodeV] at hsame
            have Hsame := hid hsame
            have Hbw := hid hbw
            have Hj := hid hj
            clear hj hx hxi hfx e0 e1 e2 e3 hn2 hnd1 hnd2 hsame hbw
            go_upto_region 20 with fail
            obtain ⟨kx, hkx⟩ : ∃ kx : Int, kx = x.2.kind := ⟨_, rfl⟩
            rw [← hkx] at D1 Hsame ⊢
            clear hkx
            have hbA := bel_new wr (.cells #[.string ⟨x.1.toArray⟩, .int .i64 kx, .string ⟨x.2.text.toArray⟩, .slice k2 x.2.kids.len q2] 51)
            have hkA := Bk.new wr 51 [.string ⟨x.1.toArray⟩, .int .i64 kx, .string ⟨x.2.text.toArray⟩, .slice k2 x.2.kids.len q2]
            have a111 := (hbA.cell (p := ⟨b11, 1, none⟩) l11).trans z111
            have A0 := (hbA.cell (p := ⟨g1, _, none⟩) hl1).trans D0
            have A1 := (hbA.cell (p := ⟨g1, _, none⟩) hl1).trans D1
            have A2 := (hbA.cell (p := ⟨g1, _, none⟩) hl1).trans D2
            have A3 := (hbA.cell (p := ⟨g1, _, none⟩) hl1).trans D3
            have hlA1 : g1 < (wr.alloc (.cells #[.string ⟨x.1.toArray⟩, .int .i64 kx, .string ⟨x.2.text.toArray⟩, .slice k2 x.2.kids.len q2] 51)).heap.size := Nat.lt_of_lt_of_le hl1 hbA.size
            have hlA11 : b11 < (wr.alloc (.cells #[.string ⟨x.1.toArray⟩, .int .i64 kx, .string ⟨x.2.text.toArray⟩, .slice k2 x.2.kids.len q2] 51)).heap.size := Nat.lt_of_lt_of_le l11 hbA.size
            obtain ⟨wA, hwA⟩ : ∃ wA, wA = wr.alloc (.cells #[.string ⟨x.1.toArray⟩, .int .i64 kx, .string ⟨x.2.text.toArray⟩, .slice k2 x.2.kids.len q2] 51) := ⟨_, rfl⟩
            obtain ⟨br, hbr⟩ : ∃ br, br = wr.heap.size := ⟨_, rfl⟩
            rw [← hwA] at hbA hkA a111 A0 A1 A2 A3 hlA1 hlA11 ⊢
            rw [← hbr] at hkA ⊢
            have B0 := hkA.cell 0
            have B1 := hkA.cell 1
            have B2 := hkA.cell 2
            have B3 := hkA.cell 3
            have hlBr := hkA.lt
            simp only [List.getElem?_cons_zero, List.getElem?_cons_succ] at B0 B1 B2 B3
            have hbD : Below wr.heap.size wr wA.drew := below_drewN hbA 1
            have hdA : Below wA.heap.size wA wA.drew := below_drewN (Below.refl _ _) 1
            have HbA := hid hbA
            have HkA := hid hkA
            clear hwA hbr hbA hkA D0 D1 D2 D3 E0 E1 E2 E3
            go_region_held3 (fun w' => w'.cell? ⟨b11, 1, none⟩ = some (.slice (some ⟨g1, o1, none⟩) M cc) ∧ w'.cell? ⟨g1, o1 + i * 4, none⟩ = some (.string ⟨x.1.toArray⟩) ∧ w'.cell? ⟨g1, o1 + i * 4 + 1, none⟩ = some (.int .i64 kx) ∧ w'.cell? ⟨g1, o1 + i * 4 + 2, none⟩ = some (.string ⟨x.2.text.toArray⟩) ∧ w'.cell? ⟨g1, o1 + i * 4 + 3, none⟩ = some (.slice k1 x.2.kids.len q1) ∧ w'.cell? ⟨br, 0, none⟩ = some (.string ⟨x.1.toArray⟩) ∧ w'.cell? ⟨br, 1, none⟩ = some (.int .i64 kx) ∧ w'.cell? ⟨br, 2, none⟩ = some (.string ⟨x.2.text.toArray⟩) ∧ w'.cell? ⟨br, 3, none⟩ = some (.slice k2 x.2.kids.len q2))
              (go_keep)
              (first | (go_at_call 21; refine (Hsame.out _ hbD).mono ?_; rintro e w9 ⟨rfl, hb9⟩; have hA9 := hdA.trans (hb9.mono hdA.size); have m0 := (hA9.cell (p := ⟨b11, 1, none⟩) hlA11).trans a111; have m1 := (hA9.cell (p := ⟨g1, _, none⟩) hlA1).trans A0; have m2 := (hA9.cell (p := ⟨g1, _, none⟩) hlA1).trans A1; have m3 := (hA9.cell (p := ⟨g1, _, none⟩) hlA1).trans A2; have m4 := (hA9.cell (p := ⟨g1, _, none⟩) hlA1).trans A3; have m5 := (hA9.cell (p := ⟨br, 0, none⟩) hlBr).trans B0; have m6 := (hA9.cell (p := ⟨br, 1, none⟩) hlBr).trans B1; have m7 := (hA9.cell (p := ⟨br, 2, none⟩) hlBr).trans B2; have m8 := (hA9.cell (p := ⟨br, 3, none⟩) hlBr).trans B3))
            all_goals
              go_wp2_with fail
              go_roundg (M - (i + 1))
              case measure => have := Hk.out; omega
              case rel => exact ⟨i + 1, by go_num, by omega, rfl, bel_trans Hbw.out (bel_trans HbA.out hA9)⟩
        · have hge' : ¬ (i : Int) < (M : Int) := by omega
          go_wp2_with fail
          go_ret
          exact ⟨rfl, bel_trans Hbv.out hbw⟩
/-- SyntaxJoins is true. -/
theorem sjoins_calls : Calls Try.prog 4 #[.string a, .string b] w fun e w' => e = .returned (.bool true) ∧ Below w.heap.size w w' := by
  by_cases h : 500 < a.size ∨ 500 < b.size
  · exact sjoins_long a b w ha hb h
  have h1 : ¬ 500 < a.size := fun e => h (.inl e)
  have h2 : ¬ 500 < b.size := fun e => h (.inr e)
  cases hp : Syn.parseS a.data.toList with
  | bad f => exact sjoins_bad1 a b w ha hb h1 h2 hp
  | ok st rs =>
    cases hq : Syn.parseS b.data.toList with
    | bad f => exact sjoins_bad2 a b w ha hb h1 h2 hp hq
    | ok st' rs' => exact sjoins_main a b w ha hb h1 h2 hp hq
end
end Go.Proofs.Ytjaampgpihicmaa
