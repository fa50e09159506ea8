/- SyntaxParses: for every input the law returns true, and its arguments read as they did. No conditions. -/
import Derived.Test.YtjaampgpihicmaaLaw05a
import Derived.Test.YtjaampgpihicmaaRef05g
import Derived.Test.YtjaampgpihicmaaCopy05
import Derived.Test.YtjaampgpihicmaaLawRow
namespace Go.Proofs.Ytjaampgpihicmaa
open Go.RowKit
attribute [local go_sem ↓] Go.wp_at_zero Go.wp_at_succ
attribute [local go_sem] frozen_alloc_lt
open Syn (Nd Nod)

/-- What a parse answers, a grammar or a fault. -/
def UniPost (st : List UInt8) (rs : List (List UInt8 × Nod)) (fl fo fd : Int) (w : World) (e : Ending) (w' : World) : Prop :=
  ∃ ga ca, e = .returned (.tuple #[.agg #[.string ⟨st.toArray⟩, .slice ga rs.length ca], .agg #[.int .i64 fl, .int .i64 fo, .int .i64 fd]]) ∧ RulesIn w' ga rs ∧ Below w.heap.size w w'
theorem uni (l : List UInt8) : ∃ (st : List UInt8) (rs : List (List UInt8 × Nod)) (fl fo fd : Int), (∀ w e w', ParsePost w e w' (Syn.parseS l) → UniPost st rs fl fo fd w e w') ∧ rs.length ≤ 64 ∧ (∀ x ∈ rs, x.2.fits 100000) ∧ (fd = 0 → Syn.properG (st, rs) = true ∧ st.length ≤ 1000000 ∧ ∀ x ∈ rs, Syn.shortR x) := by
  cases h : Syn.parseS l with
  | ok st rs =>
    obtain ⟨h1, h2, h3, h4⟩ := Syn.parse_proper h
    obtain ⟨_, h5⟩ := Syn.parse_fits h
    have hgl : ∀ t : List UInt8, Syn.goodL t = true → t.length ≤ 1000000 := fun t ht => by
      unfold Syn.goodL at ht
      simp only [Bool.and_eq_true, decide_eq_true_eq] at ht
      omega
    refine ⟨st, rs, 0, 0, 0, fun w e w' hp => ?_, h3, h5, fun _ => ⟨?_, hgl st h1, fun x hx => ⟨hgl x.1 (h4 x hx).1, Syn.Nod.proper_short (h4 x hx).2⟩⟩⟩
    · obtain ⟨ga, ca, e1, e2, e3⟩ := hp
      exact ⟨ga, ca, e1, RulesIn.of e2, e3⟩
    · unfold Syn.properG
      rw [h1, Bool.true_and, Bool.and_eq_true, decide_eq_true_eq, List.all_eq_true]
      refine ⟨by rcases rs with _ | ⟨a, r⟩; exact absurd rfl h2; simp, fun x hx => ?_⟩
      unfold Syn.properR
      rw [(h4 x hx).1, (h4 x hx).2]
      rfl
  | bad f =>
    have hc := Syn.parse_code h
    refine ⟨[], [], f.line, f.col, f.code, fun w e w' hp => ?_, by simp, by simp, fun e => absurd e (by omega)⟩
    exact ⟨none, 0, hp.1, fun i x hx => by simp at hx, hp.2⟩
theorem parses_long (s : ByteArray) (w : World) (h : 2000 < s.size) (hs : s.size ≤ 9223372036854775807) : Calls Try.prog 3 #[.string s] w fun e w' => e = .returned (.bool true) ∧ Below w.heap.size w w' := by
  have h1 : (2000 : Int) < (s.size : Int) := by omega
  clear h
  go_enter Try.func3, Try.ntmps3
  go_wp2_with (go_at_call 14; refine (speaks05_calls _).mono ?_; rintro e w1 ⟨rfl, hb1⟩)
  go_ret
  exact ⟨rfl, hb1⟩
set_option maxRecDepth 8000 in
set_option maxHeartbeats 8000000 in
theorem parses_short (s : ByteArray) (w : World) (h : s.size ≤ 2000) : Calls Try.prog 3 #[.string s] w fun e w' => e = .returned (.bool true) ∧ Below w.heap.size w w' := by
  obtain ⟨st, rs, fl, fo, fd, hu, hl, hf, hp⟩ := uni s.data.toList
  have hc1 : ∀ w, Calls Try.prog 15 #[.string s] w (UniPost st rs fl fo fd w) := fun w => (parse_calls s w (by omega)).mono fun e w' h => hu w e w' h
  have hc2 : ∀ w, Calls Try.prog 16 #[.string s] w (UniPost st rs fl fo fd w) := fun w => (rparse_calls s w h).mono fun e w' h => hu w e w' h
  obtain ⟨L, hL⟩ : ∃ L, L = rs.length := ⟨_, rfl⟩
  unfold UniPost at hc1 hc2
  rw [← hL] at hc1 hc2 hl
  have h1 : ¬ (2000 : Int) < (s.size : Int) := by omega
  have Hc1 := hid hc1
  have Hc2 := hid hc2
  have Hf := hid hf
  have Hp := hid hp
  have HL := hid hL
  have Hl := hid hl
  clear hu hc1 hc2 hf hp hL hl h
  go_enter Try.func3, Try.ntmps3
  go_upto_region 7 with (first
    | (go_at_call 14; refine (speaks05_calls _).mono ?_; rintro e w1 ⟨rfl, hb1⟩)
    | (go_at_call 16; refine (Hc2.out _).mono ?_; rintro e w3 ⟨gb, cb, rfl, hr3, hb3⟩)
    | (go_at_call 15; refine (Hc1.out _).mono ?_; rintro e w2 ⟨ga, ca, rfl, hr2, hb2⟩))
  have hk3 := ((Bk.new w2 25 [.string ⟨st.toArray⟩, .slice ga L ca]).alloc (.cells #[.int .i64 fl, .int .i64 fo, .int .i64 fd] 28))
  have hk4 := Bk.new (w2.alloc (.cells #[.string ⟨st.toArray⟩, .slice ga L ca] 25)) 28 [.int .i64 fl, .int .i64 fo, .int .i64 fd]
  rw [show (w2.alloc (.cells #[.string ⟨st.toArray⟩, .slice ga L ca] 25)).heap.size = w2.heap.size + 1 by simp] at hk4
  have hk3' := ((hk3.below hb3 hk3.lt).alloc (.cells #[.string ⟨st.toArray⟩, .slice gb L cb] 33)).alloc (.cells #[.int .i64 fl, .int .i64 fo, .int .i64 fd] 35)
  have hk4' := ((hk4.below hb3 hk4.lt).alloc (.cells #[.string ⟨st.toArray⟩, .slice gb L cb] 33)).alloc (.cells #[.int .i64 fl, .int .i64 fo, .int .i64 fd] 35)
  have hk5 := (Bk.new w3 33 [.string ⟨st.toArray⟩, .slice gb L cb]).alloc (.cells #[.int .i64 fl, .int .i64 fo, .int .i64 fd] 35)
  have hk6 := Bk.new (w3.alloc (.cells #[.string ⟨st.toArray⟩, .slice gb L cb] 33)) 35 [.int .i64 fl, .int .i64 fo, .int .i64 fd]
  rw [show (w3.alloc (.cells #[.string ⟨st.toArray⟩, .slice gb L cb] 33)).heap.size = w3.heap.size + 1 by simp] at hk6
  have hbz := bel_trans (bel_new w3 (.cells #[.string ⟨st.toArray⟩, .slice gb L cb] 33)) (bel_new _ (.cells #[.int .i64 fl, .int .i64 fo, .int .i64 fd] 35))
  have hr3z := hr3.later hbz
  have hb2z := bel_trans (bel_trans (bel_new w2 (.cells #[.string ⟨st.toArray⟩, .slice ga L ca] 25)) (bel_new _ (.cells #[.int .i64 fl, .int .i64 fo, .int .i64 fd] 28))) (bel_trans hb3 hbz)
  have hr2z := hr2.later hb2z
  have hbw := bel_trans (bel_trans hb1 hb2) hb2z
  obtain ⟨wz, hwz⟩ : ∃ wz, wz = (w3.alloc (.cells #[.string ⟨st.toArray⟩, .slice gb L cb] 33)).alloc (.cells #[.int .i64 fl, .int .i64 fo, .int .i64 fd] 35) := ⟨_, rfl⟩
  obtain ⟨b3, hb3e⟩ : ∃ b3, b3 = w2.heap.size := ⟨_, rfl⟩
  obtain ⟨b4, hb4e⟩ : ∃ b4, b4 = w2.heap.size + 1 := ⟨_, rfl⟩
  obtain ⟨b5, hb5e⟩ : ∃ b5, b5 = w3.heap.size := ⟨_, rfl⟩
  obtain ⟨b6, hb6e⟩ : ∃ b6, b6 = w3.heap.size + 1 := ⟨_, rfl⟩
  rw [← hwz] at hk3' hk4' hk5 hk6 hr3z hr2z hbw ⊢
  rw [← hb4e] at hk4' ⊢
  rw [← hb6e] at hk6 ⊢
  rw [← hb3e] at hk3' ⊢
  rw [← hb5e] at hk5 ⊢
  have c0 := hk3'.cell 0
  have c1 := hk3'.cell 1
  have c2 := hk4'.cell 0
  have c3 := hk4'.cell 1
  have c4 := hk4'.cell 2
  have c5 := hk5.cell 0
  have c6 := hk5.cell 1
  have c7 := hk6.cell 0
  have c8 := hk6.cell 1
  have c9 := hk6.cell 2
  simp only [List.getElem?_cons_zero, List.getElem?_cons_succ] at c0 c1 c2 c3 c4 c5 c6 c7 c8 c9
  have hS : ∀ W, Below wz.heap.size wz W → W.cell? ⟨b3, 0, none⟩ = some (.string ⟨st.toArray⟩) ∧ W.cell? ⟨b3, 1, none⟩ = some (.slice ga L ca) ∧ W.cell? ⟨b4, 0, none⟩ = some (.int .i64 fl) ∧ W.cell? ⟨b4, 1, none⟩ = some (.int .i64 fo) ∧ W.cell? ⟨b4, 2, none⟩ = some (.int .i64 fd) ∧ W.cell? ⟨b5, 0, none⟩ = some (.string ⟨st.toArray⟩) ∧ W.cell? ⟨b5, 1, none⟩ = some (.slice gb L cb) ∧ W.cell? ⟨b6, 0, none⟩ = some (.int .i64 fl) ∧ W.cell? ⟨b6, 1, none⟩ = some (.int .i64 fo) ∧ W.cell? ⟨b6, 2, none⟩ = some (.int .i64 fd) := fun W hW => ⟨(hW.cell (p := ⟨b3, 0, none⟩) hk3'.lt).trans c0, (hW.cell (p := ⟨b3, 1, none⟩) hk3'.lt).trans c1, (hW.cell (p := ⟨b4, 0, none⟩) hk4'.lt).trans c2, (hW.cell (p := ⟨b4, 1, none⟩) hk4'.lt).trans c3, (hW.cell (p := ⟨b4, 2, none⟩) hk4'.lt).trans c4, (hW.cell (p := ⟨b5, 0, none⟩) hk5.lt).trans c5, (hW.cell (p := ⟨b5, 1, none⟩) hk5.lt).trans c6, (hW.cell (p := ⟨b6, 0, none⟩) hk6.lt).trans c7, (hW.cell (p := ⟨b6, 1, none⟩) hk6.lt).trans c8, (hW.cell (p := ⟨b6, 2, none⟩) hk6.lt).trans c9⟩
  have hd := (Below.refl wz.heap.size wz).drew
  have hgr := grammar05_calls wz.drew st rs ga ca (hr2z.later hd) (by have := Hl.out; have := HL.out; omega) Hf.out
  rw [← HL.out] at hgr
  have hcG : Calls Try.prog 18 #[.agg #[.string ⟨st.toArray⟩, .slice ga L ca]] wz.drew fun e w5 => ∃ gv cv, e = .returned (.agg #[.string ⟨st.toArray⟩, .slice gv L cv]) ∧ (w5.cell? ⟨b3, 0, none⟩ = some (.string ⟨st.toArray⟩) ∧ w5.cell? ⟨b3, 1, none⟩ = some (.slice ga L ca) ∧ w5.cell? ⟨b4, 0, none⟩ = some (.int .i64 fl) ∧ w5.cell? ⟨b4, 1, none⟩ = some (.int .i64 fo) ∧ w5.cell? ⟨b4, 2, none⟩ = some (.int .i64 fd) ∧ w5.cell? ⟨b5, 0, none⟩ = some (.string ⟨st.toArray⟩) ∧ w5.cell? ⟨b5, 1, none⟩ = some (.slice gb L cb) ∧ w5.cell? ⟨b6, 0, none⟩ = some (.int .i64 fl) ∧ w5.cell? ⟨b6, 1, none⟩ = some (.int .i64 fo) ∧ w5.cell? ⟨b6, 2, none⟩ = some (.int .i64 fd)) ∧ RulesIn w5 gv rs ∧ Below wz.heap.size wz w5 := by
    refine hgr.mono ?_
    rintro e w5 ⟨_, rfl, ⟨gv, cv, rfl, hv⟩, hb5⟩
    have hb6 := hd.trans hb5
    exact ⟨gv, cv, by rw [HL.out], hS w5 hb6, RulesIn.of hv, hb6⟩
  have Hr2z := hid hr2z
  have Hr3z := hid hr3z
  have HS := hid hS
  have Hbw := hid hbw
  clear hwz hb3e hb4e hb5e hb6e hk3 hk4 hk3' hk4' hk5 hk6 hbz hr3z hr2z hb2z hr3 hr2 hb3 hb2 hb1 hbw hS hgr hd
  go_cut [37] (fun v37 wx => v37 = .bool false ∧ Below wz.heap.size wz wx)
  case first =>
    go_region_held3 (fun W => W.cell? ⟨b3, 0, none⟩ = some (.string ⟨st.toArray⟩) ∧ W.cell? ⟨b3, 1, none⟩ = some (.slice ga L ca) ∧ W.cell? ⟨b4, 0, none⟩ = some (.int .i64 fl) ∧ W.cell? ⟨b4, 1, none⟩ = some (.int .i64 fo) ∧ W.cell? ⟨b4, 2, none⟩ = some (.int .i64 fd) ∧ W.cell? ⟨b5, 0, none⟩ = some (.string ⟨st.toArray⟩) ∧ W.cell? ⟨b5, 1, none⟩ = some (.slice gb L cb) ∧ W.cell? ⟨b6, 0, none⟩ = some (.int .i64 fl) ∧ W.cell? ⟨b6, 1, none⟩ = some (.int .i64 fo) ∧ W.cell? ⟨b6, 2, none⟩ = some (.int .i64 fd)) (go_keep)
      (first
        | (go_at_call 17; refine (Hid.out (Hid.out HSm)).mono ?_; rintro e w6 ⟨rfl, ⟨a0, a1, a2, a3, a4, a5, a6, a7, a8, a9⟩, hbs⟩)
        | (go_at_call 18; refine hcG.mono ?_; rintro e w5 ⟨gv, cv, rfl, ⟨e0, e1, e2, e3, e4, e5, e6, e7, e8, e9⟩, hrv, hb5⟩; have hsm := rsame_eq w5 st rs gv gb cv cb hrv (Hr3z.out.later hb5) (by have := Hl.out; have := HL.out; omega) Hf.out; rw [← HL.out] at hsm; have hsm2 : Calls Try.prog 17 #[.agg #[.string ⟨st.toArray⟩, .slice gv L cv], .agg #[.string ⟨st.toArray⟩, .slice gb L cb]] w5 (fun e w6 => e = .returned (.bool true) ∧ (w6.cell? ⟨b3, 0, none⟩ = some (.string ⟨st.toArray⟩) ∧ w6.cell? ⟨b3, 1, none⟩ = some (.slice ga L ca) ∧ w6.cell? ⟨b4, 0, none⟩ = some (.int .i64 fl) ∧ w6.cell? ⟨b4, 1, none⟩ = some (.int .i64 fo) ∧ w6.cell? ⟨b4, 2, none⟩ = some (.int .i64 fd) ∧ w6.cell? ⟨b5, 0, none⟩ = some (.string ⟨st.toArray⟩) ∧ w6.cell? ⟨b5, 1, none⟩ = some (.slice gb L cb) ∧ w6.cell? ⟨b6, 0, none⟩ = some (.int .i64 fl) ∧ w6.cell? ⟨b6, 1, none⟩ = some (.int .i64 fo) ∧ w6.cell? ⟨b6, 2, none⟩ = some (.int .i64 fd)) ∧ Below wz.heap.size wz w6) := hsm.mono (fun e w6 h6 => ⟨h6.1, HS.out w6 (bel_trans hb5 h6.2), bel_trans hb5 h6.2⟩); have HSm := hid (hid hsm2); clear hsm hsm2 hrv))
    all_goals
      go_wp2_with fail
      go_meet
      exact ⟨rfl, hbs⟩
  case rest =>
    obtain ⟨h37, hbs⟩ := hcut
    subst h37
    obtain ⟨e0, e1, e2, e3, e4, e5, e6, e7, e8, e9⟩ := HS.out wc hbs
    have Hbs := hid hbs
    clear hbs hcG c0 c1 c2 c3 c4 c5 c6 c7 c8 c9
    by_cases h0 : fd = 0
    · obtain ⟨hp1, hp2, hp3⟩ := Hp.out h0
      have hpc := properG_calls (M := 100000) (by omega) wc (st, rs) ga ca (Hr2z.out.later Hbs.out) hp2 (by show rs.length ≤ 1000000000; have := Hl.out; have := HL.out; omega) Hf.out hp3
      rw [hp1] at hpc
      simp only at hpc
      rw [← HL.out] at hpc
      subst h0
      clear hp1 hp2 hp3
      go_wp2_with (go_at_call 19; refine hpc.mono ?_; rintro e w6 ⟨rfl, hb6⟩)
      go_ret
      exact ⟨rfl, bel_trans Hbw.out (bel_trans Hbs.out hb6)⟩
    · go_wp2_with fail
      go_ret
      exact ⟨rfl, bel_trans Hbw.out Hbs.out⟩
/-- For any text the law answers true. -/
theorem parses_calls (s : ByteArray) (w : World) (hs : s.size ≤ 9223372036854775807) : Calls Try.prog 3 #[.string s] w fun e w' => e = .returned (.bool true) ∧ Below w.heap.size w w' := by
  by_cases h : 2000 < s.size
  · exact parses_long s w h hs
  · exact parses_short s w (by omega)
end Go.Proofs.Ytjaampgpihicmaa
namespace Go.Proofs.Ytjaampgpihicmaa.lawSyntaxParses
open Go.ChangeShapes Go.WideShapes Go.ChangeAt Go.RowKit
open Go.ChangeMaps (open_string shut_string)
set_option linter.unusedVariables false

set_option maxRecDepth 100000 in
theorem contract (H : Type) (enc : TypeId × Value → H) (W : World) (base : Nat) (args : Array Value) (ds gs : List (DataW H)) (before : List MemPlace)
    (hval : ∀ (j : Nat) t v, Try.f3.params[j]? = some t → args[j]? = some v → Value.okWide Try.prog W .any base t v)
    (hW : DataW.Whole enc Try.prog Try.f3.params.toList Rows.syntaxParsesSpec.vars false W args.toList ds gs before) :
    Calls Try.prog 3 args W fun e W' => ∃ v, e = .returned v ∧ Rows.syntaxParsesSpec.post enc Try.prog Try.f3 false true false false W args v W' := by
  have hW' := hW
  obtain ⟨p, q, hA0, hV, rfl, hfz, hnd⟩ := hW
  have hA : DataW.TrodAll enc Try.prog W 0 (fun _ => true) true Try.f3.params.toList args.toList ds p := hA0
  rw [Try.params3] at hA hval
  obtain ⟨v0, vs0, d0, ds0, p0, q0, hargs, rfl, rfl, h0, r0⟩ := trodAll_cons hA
  obtain ⟨rfl, rfl, rfl⟩ := trodAll_nil r0
  obtain rfl : args = #[v0] := by cases args; simp_all
  obtain ⟨rfl, rfl⟩ := trodVars_none hV
  obtain ⟨a0, rfl, rfl, rfl, w0⟩ := open_string Try.underlying9 (hval 0 9 v0 rfl rfl) h0
  clear hA0
  simp only [List.append_nil] at hW'
  refine (parses_calls a0 W (by unfold maxLen at w0; exact w0)).mono fun e W' ⟨he, hb⟩ => ?_
  subst he
  exact ⟨_, rfl, law_post (pa := []) (pv := []) hW' (fun _ _ _ => (trodAll_cons_mk (shut_bool Try.underlying4 _) trodAll_mk0)) (fun sp _ => (trodAll_cons_mk (shut_string Try.underlying9 w0) trodAll_mk0)) (fun _ _ => rfl) rfl hb (ok_one (by kernel_rfl) rfl (okWide_bool_mk Try.underlying4 _))⟩

set_option maxRecDepth 100000 in
theorem lifted (os : Os) (started : os.Started) (H : Type) (enc : TypeId × Value → H) :
    ReturnsInHanded {} Try.checked os 3 .any (Rows.syntaxParsesSpec.pre6 enc Try.prog Try.f3 Rows.syntaxParsesRow.domain false) (Rows.syntaxParsesSpec.post enc Try.prog Try.f3 false true false false) := by
  refine returnsInHanded_of_change (C := Try.checked) own started (by kernel_rfl) Try.func3
    (ChangeSpec.witness6 (enc := enc) (C := Try.checked) false ⟨#[], #[.string ⟨#[]⟩], []⟩ 8 (by kernel_rfl) (by kernel_rfl) (by kernel_rfl) (by kernel_rfl)) ?_
  intro W base args ds gs before hval hW _ _
  exact contract H enc W base args ds gs before hval hW

theorem proved : Rows.SyntaxParsesSaid :=
  OpenClaim.holds_of_wide 3 Try.f3 rfl rfl rfl rfl rfl rfl rfl ⟨rfl, rfl, rfl, rfl, rfl⟩ rfl rfl rfl rfl rfl (by kernel_rfl) Try.func3 (by kernel_rfl)
    (of_decide_eq_true (by kernel_rfl)) (by unfold Func.isWrapper; first | (rw [if_pos (by decide +kernel)]; kernel_rfl) | (rw [if_neg (by decide +kernel)]; exact ⟨rfl, rfl⟩))
    (fun os started H enc _ => lifted os started H enc)

end Go.Proofs.Ytjaampgpihicmaa.lawSyntaxParses
