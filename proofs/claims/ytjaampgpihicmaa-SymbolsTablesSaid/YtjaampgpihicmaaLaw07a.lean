/- Chapter 7 (symbols): the first line of each statement; the text's grammar. -/
import Derived.Test.YtjaampgpihicmaaLaw05c
import Derived.Test.YtjaampgpihicmaaSym5
import Derived.Test.YtjaampgpihicmaaSym8
import Derived.RegionTactic
import Derived.Laws.ResultCell
namespace Go.Proofs.Ytjaampgpihicmaa
open Go.RowKit
attribute [local go_sem ↓] Go.wp_at_zero Go.wp_at_succ
attribute [local go_sem] frozen_alloc_lt
open Syn (Nd Nod)

def spoken7 : List (List UInt8 × Nod) := [([97], ⟨3, [], .cons 1 [98] .nil (.cons 1 [98] .nil .nil)⟩), ([99], ⟨3, [], .cons 1 [97] .nil (.cons 2 [120] .nil .nil)⟩)]
theorem speaks7_parse : Syn.parseS (⟨#[97, 58, 32, 98, 32, 98, 59, 32, 99, 58, 32, 97, 32, 39, 120, 39, 59]⟩ : ByteArray).data.toList = .ok [97] spoken7 := by kernel_rfl
theorem spoken7_check : checkS [97] spoken7 = [⟨10, 0, [98]⟩] := by kernel_rfl
theorem spoken7_table : tableS spoken7 = [⟨[97], 0, 1⟩, ⟨[99], 1, 0⟩, ⟨[98], -1, 2⟩] := by kernel_rfl
/-- What a parsed grammar keeps to. -/
theorem good_len {t : List UInt8} (ht : Syn.goodL t = true) : t.length ≤ 32 := by
  unfold Syn.goodL at ht
  simp at ht
  omega
theorem parse_keeps {l st : List UInt8} {rs : List (List UInt8 × Nod)} (h : Syn.parseS l = .ok st rs) : rs.length ≤ 64 ∧ st.length ≤ 32 ∧ (∀ x ∈ rs, x.1.length ≤ 32) ∧ (∀ x ∈ rs, x.2.fits 100000) ∧ (∀ x ∈ rs, x.2.short) := by
  obtain ⟨h1, h2, h3, h4⟩ := Syn.parse_proper h
  exact ⟨h3, good_len h1, fun x hx => good_len (h4 x hx).1, (Syn.parse_fits h).2, fun x hx => Syn.Nod.proper_short (h4 x hx).2⟩
/-- Check and Table of a parsed grammar. -/
theorem check_parsed {l st : List UInt8} {rs : List (List UInt8 × Nod)} (h : Syn.parseS l = .ok st rs) (w : World) (ga : Option Addr) (ca : Nat) (hin : RulesIn w ga rs) :
    Calls Try.prog 27 #[.agg #[.string ⟨st.toArray⟩, .slice ga rs.length ca]] w fun e w' => ∃ v, e = .returned v ∧ OwnA ProbR 3 w' w.heap.size 64 v (checkS st rs) ∧ Below w.heap.size w w' := by
  obtain ⟨h1, h2, h3, h4, h5⟩ := parse_keeps h
  exact check_calls w st rs ga ca hin (by omega) (by omega) (fun x hx => by have := h3 x hx; omega) h4 h5 (by have := Syn.parse_bodies h; omega)
theorem table_parsed {l st : List UInt8} {rs : List (List UInt8 × Nod)} (h : Syn.parseS l = .ok st rs) (w : World) (ga : Option Addr) (ca : Nat) (hin : RulesIn w ga rs) :
    Calls Try.prog 30 #[.agg #[.string ⟨st.toArray⟩, .slice ga rs.length ca]] w fun e w' => ∃ v, e = .returned v ∧ OwnA SymR 3 w' w.heap.size 70 v (tableS rs) ∧ Below w.heap.size w w' := by
  obtain ⟨h1, h2, h3, h4, h5⟩ := parse_keeps h
  exact table_calls w st rs ga ca hin (by omega) (fun x hx => by have := h3 x hx; omega) h4 h5 (by have := Syn.parse_bodies h; omega)
set_option maxRecDepth 8000 in
set_option maxHeartbeats 4000000 in
theorem speaks07_calls (w : World) : Calls Try.prog 25 #[] w fun e w' => e = .returned (.bool true) ∧ Below w.heap.size w w' := by
  have hp := parse_calls ⟨#[97, 58, 32, 98, 32, 98, 59, 32, 99, 58, 32, 97, 32, 39, 120, 39, 59]⟩ w (by decide)
  rw [speaks7_parse] at hp
  simp only [ParsePost] at hp
  have hn : spoken7.length = 2 := rfl
  rw [hn] at hp
  have Hp := hid hp
  have Hck := hid (fun w ga ca hin => check_parsed speaks7_parse w ga ca hin)
  have Htb := hid (fun w ga ca hin => table_parsed speaks7_parse w ga ca hin)
  rw [spoken7_check, hn] at Hck
  rw [spoken7_table, hn] at Htb
  clear hp hn
  go_enter Try.func25, Try.ntmps25
  go_upto_region 2 with (go_at_call 15; refine Hp.out.mono ?_; rintro e w1 ⟨ga, ca, rfl, hr, hb1⟩)
  obtain ⟨hk1, -, hbel⟩ := two_new w1 25 28 [.string ⟨#[97]⟩, .slice ga 2 ca] [.int .i64 0, .int .i64 0, .int .i64 0]
  have hri := (RulesIn.of hr).later hbel
  obtain ⟨bq, hbq⟩ : ∃ bq, bq = w1.heap.size := ⟨_, rfl⟩
  obtain ⟨wz, hwz⟩ : ∃ wz, wz = (w1.alloc (.cells #[.string ⟨#[97]⟩, .slice ga 2 ca] 25)).alloc (.cells #[.int .i64 0, .int .i64 0, .int .i64 0] 28) := ⟨_, rfl⟩
  rw [← hwz] at hk1 hbel hri ⊢
  rw [← hbq] at hk1 ⊢
  have x0 := hk1.cell 0
  have x1 := hk1.cell 1
  simp only [List.getElem?_cons_zero, List.getElem?_cons_succ] at x0 x1
  have hlq := hk1.lt
  have Hk1 := hid hk1
  have Hri := hid hri
  have Hb := hid (bel_trans hb1 hbel)
  clear hk1 hbel hri hr hb1 hwz hbq
  go_wp2_with (first
    | (go_at_call 30; refine (Htb.out _ _ _ (Hri.out.later hb2)).mono ?_; rintro e w3 ⟨v3, rfl, hown3, hb3⟩; obtain ⟨g3, c3, hv3, hls3⟩ := hown3.lies SymR.fit; obtain ⟨gt, xt, hg3, ht1, ht2, hxt, hct⟩ := hls3 2 _ rfl; have hxt : xt = [.string ⟨#[98]⟩, .int .i64 (-1), .int .i64 2] := hxt; subst hxt; have d0 := hct 0 _ rfl; have d1 := hct 1 _ rfl; have d2 := hct 2 _ rfl; have e0 := (hb3.cell (p := ⟨gp, 0, none⟩) hp2).trans c0; have e1 := (hb3.cell (p := ⟨gp, 1, none⟩) hp2).trans c1; have e2 := (hb3.cell (p := ⟨gp, 2, none⟩) hp2).trans c2; have hp3 := Nat.lt_of_lt_of_le hp2 hb3.size; rw [hg3] at hv3; subst hv3; clear hown3 hls3 hct)
    | (go_at_call 27; refine (Hck.out _ _ _ Hri.out).mono ?_; rintro e w2 ⟨v2, rfl, hown2, hb2⟩; obtain ⟨g2, cap2, hv2, hls2⟩ := hown2.lies ProbR.fit; obtain ⟨gp, xp, hg2, hp1, hp2, hxp, hcp⟩ := hls2 0 _ rfl; have hxp : xp = [.int .i64 10, .int .i64 0, .string ⟨#[98]⟩] := hxp; subst hxp; have c0 := hcp 0 _ rfl; have c1 := hcp 1 _ rfl; have c2 := hcp 2 _ rfl; have hk2 := Hk1.out.below hb2 hlq; have z0 := hk2.cell 0; have z1 := hk2.cell 1; simp only [List.getElem?_cons_zero, List.getElem?_cons_succ] at z0 z1; have hlq2 := hk2.lt; rw [hg2] at hv2; subst hv2; clear hown2 hls2 hcp hk2))
  go_ret
  exact ⟨rfl, bel_trans Hb.out (bel_trans hb2 hb3)⟩
section
variable (s : ByteArray) (w : World) (hs : s.size ≤ 9223372036854775807)
include hs
set_option maxRecDepth 8000 in
set_option maxHeartbeats 4000000 in
/-- A text that is not read. -/
theorem read7_long (h : 1000 < s.size) : Calls Try.prog 26 #[.string s] w fun e w' => e = .returned (.tuple #[.agg #[.string ⟨#[]⟩, .slice none 0 0], .bool false]) ∧ Below w.heap.size w w' := by
  have h1 : (1000 : Int) < (s.size : Int) := by omega
  clear h hs
  go_enter Try.func26, Try.ntmps26
  go_wp2_with fail
  refine bodyPost_ret (by rw [results_cell_tmp rfl]; simp [go_sem]; rfl) rfl ?_
  exact ⟨rfl, bel_new w (.cells #[.string ⟨#[]⟩, .slice none 0 0] 25)⟩
set_option maxRecDepth 8000 in
set_option maxHeartbeats 4000000 in
theorem read7_bad (h : ¬ 1000 < s.size) {f : Lex.Flt} (hp : Syn.parseS s.data.toList = .bad f) : Calls Try.prog 26 #[.string s] w fun e w' => e = .returned (.tuple #[.agg #[.string ⟨#[]⟩, .slice none 0 0], .bool false]) ∧ Below w.heap.size w w' := by
  have h1 : ¬ (1000 : Int) < (s.size : Int) := by omega
  have Hp := hid (fun w => parse_no s w hs hp)
  have hk0 := Bk.new w 25 [.string ⟨#[]⟩, .slice none 0 0]
  have hb0 := bel_new w (.cells #[.string ⟨#[]⟩, .slice none 0 0] 25)
  have Hk0 := hid hk0
  have Hb0 := hid hb0
  clear h hs hp hk0 hb0
  go_enter Try.func26, Try.ntmps26
  go_upto_region 4 with (go_at_call 15; refine (Hp.out _).mono ?_; rintro e w1 ⟨x, y, z, hz, rfl, hb1⟩)
  have hk2 := Hk0.out.below hb1 Hk0.out.lt
  obtain ⟨hk3, hk4, hbel⟩ := two_new w1 25 28 [.string ⟨#[]⟩, .slice none 0 0] [.int .i64 x, .int .i64 y, .int .i64 z]
  have hk5 := hk2.below hbel hk2.lt
  have hlt := hk2.lt
  obtain ⟨br, hbr⟩ : ∃ br, br = w.heap.size := ⟨_, rfl⟩
  obtain ⟨bq, hbq⟩ : ∃ bq, bq = w1.heap.size := ⟨_, rfl⟩
  obtain ⟨wz, hwz⟩ : ∃ wz, wz = (w1.alloc (.cells #[.string ⟨#[]⟩, .slice none 0 0] 25)).alloc (.cells #[.int .i64 x, .int .i64 y, .int .i64 z] 28) := ⟨_, rfl⟩
  rw [← hwz] at hk3 hk4 hk5 hbel ⊢
  rw [← hbq] at hk3 hk4 hlt ⊢
  rw [← hbr] at hk5 hlt ⊢
  have hne : ¬ br = bq := by omega
  have hne2 : ¬ br = bq + 1 := by omega
  have hne3 : ¬ bq + 1 = br := by omega
  have x0 := hk3.cell 0
  have x1 := hk3.cell 1
  have y2 := hk4.cell 2
  have r0 := hk5.cell 0
  have r1 := hk5.cell 1
  have f0 := hk5.free 0
  have f1 := hk5.free 1
  have hl5 := hk5.lt
  have hl3 := hk3.lt
  have hl4 := hk4.lt
  simp only [List.getElem?_cons_zero, List.getElem?_cons_succ] at x0 x1 y2 r0 r1
  have Hall := hid (bel_trans Hb0.out (bel_trans hb1 hbel))
  have Hbr := hid hbr
  have Hk5 := hid hk5
  clear hk2 hk3 hk4 hk5 hbel hb1 hwz hbq hbr Hk0 Hb0
  go_region
  have hzb : (z == 0) = false := by simp [hz]
  rw [hzb]
  go_wp2_with fail
  have e0 := (Hk5.out.set 0 (.string ⟨#[]⟩)).cell 0
  have e1 := ((Hk5.out.set 0 (.string ⟨#[]⟩)).set 1 (.slice none 0 0)).cell 1
  simp only [List.set_cons_zero, List.set_cons_succ, List.getElem?_cons_zero, List.getElem?_cons_succ] at e0 e1
  refine bodyPost_ret (by rw [results_cell_tmp rfl]; simp [go_sem, e0, e1]; rfl) rfl ?_
  refine ⟨rfl, ?_⟩
  have hk : Kp (fun k => k = br) wz ((wz.setCell ⟨br, 0, none⟩ (.string ⟨#[]⟩)).setCell ⟨br, 1, none⟩ (.slice none 0 0)).drew := (((Kp.refl (fun k => k = br) wz).set (p := ⟨br, 0, none⟩) (.inl rfl) _).set (p := ⟨br, 1, none⟩) (.inl rfl) _).drew
  exact Hall.out.trans (hk.to_below Hall.out.size (fun k e => by have := Hbr.out; omega))
set_option maxRecDepth 8000 in
set_option maxHeartbeats 4000000 in
theorem read7_ok (h : ¬ 1000 < s.size) {st : List UInt8} {rs : List (List UInt8 × Nod)} (hp : Syn.parseS s.data.toList = .ok st rs) : Calls Try.prog 26 #[.string s] w fun e w' => ∃ ga ca, e = .returned (.tuple #[.agg #[.string ⟨st.toArray⟩, .slice ga rs.length ca], .bool true]) ∧ RulesM w' (From w.heap.size w') ga rs ∧ Below w.heap.size w w' := by
  have h1 : ¬ (1000 : Int) < (s.size : Int) := by omega
  have hpc := fun w => parse_calls s w hs
  rw [hp] at hpc
  simp only [ParsePost] at hpc
  obtain ⟨L, hL⟩ : ∃ L, L = rs.length := ⟨_, rfl⟩
  rw [← hL] at hpc ⊢
  have Hp := hid hpc
  have hk0 := Bk.new w 25 [.string ⟨#[]⟩, .slice none 0 0]
  have hb0 := bel_new w (.cells #[.string ⟨#[]⟩, .slice none 0 0] 25)
  have Hk0 := hid hk0
  have Hb0 := hid hb0
  clear h hs hp hk0 hb0 hpc hL
  go_enter Try.func26, Try.ntmps26
  go_upto_region 4 with (go_at_call 15; refine (Hp.out _).mono ?_; rintro e w1 ⟨ga, ca, rfl, hr, hb1⟩)
  have hk2 := Hk0.out.below hb1 Hk0.out.lt
  obtain ⟨hk3, hk4, hbel⟩ := two_new w1 25 28 [.string ⟨st.toArray⟩, .slice ga L ca] [.int .i64 0, .int .i64 0, .int .i64 0]
  have hri := (RulesM.kp hr (below_kp hbel) (fun _ _ e => e)).mono (D' := fun k => w.heap.size < k ∧ k < w1.heap.size) (fun k hk => ⟨by have := hk.1; simp at this; omega, hk.2⟩)
  have hk5 := hk2.below hbel hk2.lt
  have hlt := hk2.lt
  obtain ⟨br, hbr⟩ : ∃ br, br = w.heap.size := ⟨_, rfl⟩
  obtain ⟨bq, hbq⟩ : ∃ bq, bq = w1.heap.size := ⟨_, rfl⟩
  obtain ⟨wz, hwz⟩ : ∃ wz, wz = (w1.alloc (.cells #[.string ⟨st.toArray⟩, .slice ga L ca] 25)).alloc (.cells #[.int .i64 0, .int .i64 0, .int .i64 0] 28) := ⟨_, rfl⟩
  rw [← hwz] at hk3 hk4 hk5 hbel hri ⊢
  rw [← hbq] at hk3 hk4 hlt ⊢
  rw [← hbr] at hk5 hlt hri ⊢
  have hsz : w1.heap.size ≤ wz.heap.size := hbel.size
  have hne : ¬ br = bq := by omega
  have hne2 : ¬ br = bq + 1 := by omega
  have hne3 : ¬ bq + 1 = br := by omega
  have x0 := hk3.cell 0
  have x1 := hk3.cell 1
  have y2 := hk4.cell 2
  have r0 := hk5.cell 0
  have r1 := hk5.cell 1
  have f0 := hk5.free 0
  have f1 := hk5.free 1
  have hl5 := hk5.lt
  have hl3 := hk3.lt
  have hl4 := hk4.lt
  simp only [List.getElem?_cons_zero, List.getElem?_cons_succ] at x0 x1 y2 r0 r1
  have Hall := hid (bel_trans Hb0.out (bel_trans hb1 hbel))
  have Hbr := hid hbr
  have Hri := hid hri
  have Hk5 := hid hk5
  have Hsz := hid (And.intro hsz hbq)
  clear hsz hk2 hk3 hk4 hk5 hbel hb1 hr hri hwz hbq hbr Hk0 Hb0
  go_region
  go_wp2_with fail
  have e0 := (Hk5.out.set 0 (.string ⟨st.toArray⟩)).cell 0
  have e1 := ((Hk5.out.set 0 (.string ⟨st.toArray⟩)).set 1 (.slice ga L ca)).cell 1
  simp only [List.set_cons_zero, List.set_cons_succ, List.getElem?_cons_zero, List.getElem?_cons_succ] at e0 e1
  refine bodyPost_ret (by rw [results_cell_tmp rfl]; simp [go_sem, e0, e1]; rfl) rfl ?_
  have hk : Kp (fun k => k = br) wz ((wz.setCell ⟨br, 0, none⟩ (.string ⟨st.toArray⟩)).setCell ⟨br, 1, none⟩ (.slice ga L ca)).drew := (((Kp.refl (fun k => k = br) wz).set (p := ⟨br, 0, none⟩) (.inl rfl) _).set (p := ⟨br, 1, none⟩) (.inl rfl) _).drew
  refine ⟨ga, ca, rfl, ?_, Hall.out.trans (hk.to_below Hall.out.size (fun k e => by have := Hbr.out; omega))⟩
  exact (Hri.out.kp hk (fun k e => by have := e.1; omega)).mono fun k e => ⟨by have := e.1; have := Hbr.out; omega, by have := e.2; have := hk.size; have := Hsz.out; omega⟩
end
end Go.Proofs.Ytjaampgpihicmaa
