/- Chapter 5 (syntax): grammar. -/
import Derived.Test.YtjaampgpihicmaaSyn11
namespace Go.Proofs.Ytjaampgpihicmaa
open Go.RowKit
attribute [local go_sem ↓] Go.wp_at_zero Go.wp_at_succ
attribute [local go_sem] frozen_alloc_lt
open Syn (Nd Nod)

theorem run_tokKind (w : World) (x y z u : Value) : (Instr.field 46 (.agg #[x, y, z, u]) 0).run Try.prog w = .ok x w := by
  simp [Instr.field, run_underlying Try.underlying46, asAgg, go_sem]
attribute [local go_sem] run_tokKind
def gramOf (st : List UInt8) : Syn.Res (List (List UInt8 × Nod)) → Syn.Res (List UInt8 × List (List UInt8 × Nod))
  | .ok rs j p => .ok (Syn.startOr st rs, rs) j p
  | .bad f => .bad f
def HeadRel (T : List Lex.Tok) (w0 : World) (B bp : Nat) (gT : Option Addr) (cT b : Nat) (w : World) : Prop := ∃ st i, Syn.headS T = .ok st i 0 ∧ GrSt w0 B bp gT cT T b st (.slice none 0 0) i w
set_option maxRecDepth 8000 in
set_option maxHeartbeats 8000000 in
theorem grammar_calls {T : List Lex.Tok} {F : Nat} {r : Syn.Res (List UInt8 × List (List UInt8 × Nod))} (hr : gramF T F = some r) {w : World} {B bp : Nat} {gT : Option Addr} {cT : Nat} (h : Par w B bp gT cT T 0 0) :
    Calls Try.prog 51 #[.pointer (some ⟨bp, 0, none⟩)] w (PEnd (isGram w.heap.size) w B bp gT cT T r) := by
  have hlt := h.k.lt
  have hf0 : Syn.far T 0 = false := Syn.far_small (by omega)
  have hb0 : Below w.heap.size w ((w.alloc (.cells #[.string ⟨#[]⟩, .slice none 0 0] 25)).alloc (.cells #[.string ⟨#[]⟩, .slice none 0 0] 25)) := ((Below.refl _ _).alloc (Nat.le_refl _) _).alloc (by simp) _
  have hst : GrSt w B bp gT cT T w.heap.size [] (.slice none 0 0) 0 ((w.alloc (.cells #[.string ⟨#[]⟩, .slice none 0 0] 25)).alloc (.cells #[.string ⟨#[]⟩, .slice none 0 0] 25)) := by
    refine ⟨?_, (Bk.new w _ _).alloc _, h.below hb0, below_gb hb0 _, hlt⟩
    have := Bk.new (w.alloc (.cells #[.string ⟨#[]⟩, .slice none 0 0] 25)) 25 [.string ⟨#[]⟩, .slice none 0 0]
    simpa using this
  have Hr := hid hr
  have Hst := hid hst
  have HF := hid hf0
  clear hr hst hb0 hf0
  go_enter Try.func51, Try.ntmps51
  go_upto_region 2 with fail
  obtain ⟨b, hb⟩ : ∃ b, b = w.heap.size := ⟨_, rfl⟩
  obtain ⟨wa, hwa⟩ : ∃ wa, wa = ((w.alloc (.cells #[.string ⟨#[]⟩, .slice none 0 0] 25)).alloc (.cells #[.string ⟨#[]⟩, .slice none 0 0] 25)) := ⟨_, rfl⟩
  obtain ⟨c, hc⟩ : ∃ c, c = b + 1 := ⟨_, rfl⟩
  rw [← hwa] at Hst ⊢
  rw [← hb] at Hst ⊢
  rw [← hc]
  have HB := hid hb
  have HC := hid hc
  have hbb : bp < b := by omega
  have hbc : bp < c := by omega
  clear hb hc hwa h hlt
  go_upto_if 7 with (go_at_call 93; refine (sign_ok Hst.out.par HF.out [37]).mono ?_; rintro e w1 ⟨rfl, hb1⟩)
  have hst1 := Hst.out.later hb1
  have Hst1 := hid hst1
  clear hst1
  go_cut [] (fun wx => HeadRel T w B bp gT cT b wx)
  case first =>
    cases hs : Syn.isS T 0 [37] with
    | true =>
      have hj := lt_last Hst1.out.par.lt Hst1.out.par.last (by unfold Syn.isS at hs; simp at hs; omega)
      have k1 : w1.cell? ⟨bp, 1, none⟩ = some (.int .i64 0) := Hst1.out.par.k.cell 1
      have fr1 := Hst1.out.par.k.free 1
      have hq1 : Par (w1.setCell ⟨bp, 1, none⟩ (.int .i64 1)) B bp gT cT T 1 0 := Hst1.out.par.at 1 hj
      have hst2 := Hst1.out.grown (gb_setb (World.grownBy.refl w1 (some bp))) hq1
      have Hst2 := hid hst2
      cases hn : Syn.nameS T 1 0 with
      | bad fl =>
        have hrb : r = .bad fl := by
          have := Hr.out
          unfold gramF Syn.headS at this
          rw [HF.out, hs, hn] at this
          simpa using this.symm
        subst hrb
        have Hn := hid hn
        clear hs hj hq1 hst2 hn
        go_wp2_with (go_at_call 94; refine (sname_calls Hst2.out.par).mono ?_; rintro e w2 hP; obtain ⟨rfl, hg2⟩ := PEnd.whenBad hP Hn.out; clear hP)
        exact ⟨rfl, PEnd.isBad rfl (gb_trans Hst2.out.gb hg2)⟩
      | ok nm i2 o2 =>
        obtain ⟨-, -, hi2, ho2⟩ := Syn.nameS_ok hn
        have hi2' : i2 = 2 := hi2
        subst hi2' ho2
        have Hn := hid hn
        have Hs := hid hs
        cases ht : Syn.takeS T [59] 2 0 with
        | bad fl =>
          have hrb : r = .bad fl := by
            have := Hr.out
            unfold gramF Syn.headS at this
            rw [HF.out, hs, hn] at this
            simp only [ht] at this
            simpa using this.symm
          subst hrb
          have Ht := hid ht
          clear hs hj hq1 hst2 hn ht hi2
          go_wp2_with (first
            | (go_at_call 94; refine (sname_calls Hst2.out.par).mono ?_; rintro e w2 hP; obtain ⟨⟨v, rfl, rfl⟩, hq2, hg2⟩ := PEnd.whenOk hP Hn.out; clear hP; have hst3 := Hst2.out.grown hg2 hq2; have x0 := hst3.g.cell 0; have f0 := hst3.g.free 0; rw [← HC.out] at x0 f0; simp only [List.getElem?_cons_zero] at x0; have Hst3 := hid hst3; clear hst3 hq2)
            | (go_at_call 95; have hst4 := Hst3.out.start HB.out nm; rw [← HC.out] at hst4; have Hst4 := hid hst4; refine (take_calls hst4.par [59]).mono ?_; rintro e w3 hP; obtain ⟨rfl, hg3⟩ := PEnd.whenBad hP Ht.out; clear hP hst4))
          exact ⟨rfl, PEnd.isBad rfl (gb_trans Hst4.out.gb hg3)⟩
        | ok u i3 o3 =>
          obtain ⟨-, hi3, ho3⟩ := Syn.takeS_ok ht
          have hi3' : i3 = 3 := hi3
          subst hi3' ho3
          have hh : Syn.headS T = .ok nm 3 0 := by
            unfold Syn.headS
            rw [HF.out, hs, hn]
            simp only [ht]
            rfl
          have Hh := hid hh
          have Ht := hid ht
          clear hs hj hq1 hst2 hn ht hi2 hi3 hh
          go_wp2_with (first
            | (go_at_call 94; refine (sname_calls Hst2.out.par).mono ?_; rintro e w2 hP; obtain ⟨⟨v, rfl, rfl⟩, hq2, hg2⟩ := PEnd.whenOk hP Hn.out; clear hP; have hst3 := Hst2.out.grown hg2 hq2; have x0 := hst3.g.cell 0; have f0 := hst3.g.free 0; rw [← HC.out] at x0 f0; simp only [List.getElem?_cons_zero] at x0; have Hst3 := hid hst3; clear hst3 hq2)
            | (go_at_call 95; have hst4 := Hst3.out.start HB.out nm; rw [← HC.out] at hst4; have Hst4 := hid hst4; refine (take_calls hst4.par [59]).mono ?_; rintro e w3 hP; obtain ⟨⟨v, rfl, rfl⟩, hq3, hg3⟩ := PEnd.whenOk hP Ht.out; clear hP hst4))
          go_meet
          exact ⟨nm, 3, Hh.out, Hst4.out.grown hg3 hq3⟩
    | false =>
      have hh : Syn.headS T = .ok [] 0 0 := by
        unfold Syn.headS
        rw [HF.out, hs]
        rfl
      clear hs
      go_wp2_with fail
      go_meet
      exact ⟨[], 0, hh, Hst1.out⟩
  case rest =>
    obtain ⟨st, i, hh, hst⟩ := hcut
    cases hrr : Syn.rulesF T F [] i 0 with
    | none =>
      have := Hr.out
      unfold gramF at this
      rw [hh] at this
      simp only [hrr] at this
      cases this
    | some rr =>
      have hrg : r = gramOf st rr := by
        have := Hr.out
        unfold gramF at this
        rw [hh] at this
        simp only [hrr] at this
        cases rr <;> simpa [gramOf] using this.symm
      subst hrg
      have Hrr := hid hrr
      have Hst0 := hid hst
      clear hh hrr hst Hst1 Hst
      go_wp2_with fail
      go_loopg [4] F (fun k v4 wr => GramRel T F rr w B bp gT cT b st k v4 wr)
      case atStart => exact ⟨F, [], i, .slice none 0 0, rfl, Nat.le_refl _, Hrr.out, rfl, by simp, OwnA.nil _ _ _ _ _, Hst0.out⟩
      case round =>
        obtain ⟨m, rs, i1, v, hkm, hk, hr1, hv4, hl, hown, hst⟩ := hrel
        obtain ⟨f, rfl⟩ : ∃ f, m = f + 1 := by
          cases m with
          | zero => simp [Syn.rulesF] at hr1
          | succ f => exact ⟨f, rfl⟩
        rw [Syn.rules_step] at hr1
        obtain ⟨ga, ca, hv⟩ := hown.slice
        obtain ⟨L, hL⟩ : ∃ L, L = rs.length := ⟨_, rfl⟩
        rw [← hL] at hv
        subst hv
        have HL := hid hL
        have Hst := hid hst
        have Hown := hid hown
        have Hkm := hid hkm
        clear hL hst hown hkm
        obtain ⟨z, hz⟩ : ∃ z : Int, z = (Syn.tk T i1).kind := ⟨_, rfl⟩
        obtain ⟨tx, li, co, hp⟩ : ∃ (tx : ByteArray) (li co : Int), Syn.far T i1 = false → ∀ w', Par w' B bp gT cT T i1 0 → Calls Try.prog 96 #[.pointer (some ⟨bp, 0, none⟩)] w' fun e w'' => e = .returned (.agg #[.int .i64 z, .string tx, .int .i64 li, .int .i64 co]) ∧ Below w'.heap.size w' w'' :=
          ⟨_, _, _, fun hf w' hp => by have := peek_ok hp hf; simp only [tokA, ← hz] at this; exact this⟩
        have Hz := hid hz
        clear hz
        by_cases hnil : rs = []
        · have hv5 : _ = Value.bool true := hv4.trans (by rw [hnil]; rfl)
          subst hv5
          clear hv4
          cases hfar : Syn.far T i1 with
          | true =>
            rw [hfar, if_pos rfl, Option.some.injEq] at hr1
            subst hr1
            have hpn := peek_no Hst.out.par hfar
            clear hfar hp hnil
            go_wp2_with (go_at_call 96; refine hpn.mono ?_; rintro e w1 ⟨rfl, hb1⟩)
            exact ⟨rfl, PEnd.isBad rfl (gb_trans Hst.out.gb (below_gb hb1 _))⟩
          | false =>
            rw [hfar, if_neg (by decide)] at hr1
            have hp := hp hfar
            rw [if_neg (by rintro ⟨e, _⟩; exact e hnil)] at hr1
            obtain ⟨w1, hw1⟩ : ∃ w1, w1 = wr := ⟨_, rfl⟩
            have Hst1 := Hst
            have x1 := Hst.out.g.cell 1
            rw [← HC.out] at x1
            simp only [List.getElem?_cons_zero, List.getElem?_cons_succ] at x1
            have hb1 := Below.refl wr.heap.size wr
            by_cases z1 : z = 1
            · by_cases h64 : rs.length = 64
              · rw [hnil] at h64
                simp at h64
              · rw [if_neg (by rintro ⟨_, e⟩; exact h64 e)] at hr1
                have L64 : ¬ (L : Int) = 64 := by have := HL.out; omega
                obtain ⟨nm, hnm⟩ : ∃ nm, nm = (Syn.tk T i1).text := ⟨_, rfl⟩
                have hn : Syn.nameS T i1 0 = .ok nm (i1 + 1) 0 := by
                  unfold Syn.nameS
                  rw [hfar, if_neg (by decide), if_pos (by have := Hz.out; omega), hnm]
                unfold Syn.ruleS at hr1
                rw [hn, Syn.bind_res] at hr1
                have Hn := hid hn
                have Hlp := hid hfar
                subst z1
                have H64 := hid h64
                have Hgl := hid Hst.out.g.lt
                clear hn hnm hfar hnil h64 hw1
                cases ht : Syn.takeS T [58] (i1 + 1) 0 with
                | bad fl =>
                  rw [ht] at hr1
                  simp only [Syn.Res.bind, Option.bind_some, Option.some.injEq] at hr1
                  subst hr1
                  have Ht := hid ht
                  clear ht
                  go_wp2_with (first
                      | (go_at_call 96; refine (hp _ Hst1.out.par).mono ?_; rintro e w2 ⟨rfl, hb2⟩; have hst2 := Hst1.out.later hb2; have y1 := hst2.g.cell 1; rw [← HC.out] at y1; simp only [List.getElem?_cons_zero, List.getElem?_cons_succ] at y1; have Hst2 := hid hst2; clear hst2)
                      | (go_at_call 94; refine (sname_calls Hst2.out.par).mono ?_; rintro e w3 hP; obtain ⟨⟨v', rfl, rfl⟩, hq3, hg3⟩ := PEnd.whenOk hP Hn.out; clear hP; have hst3 := Hst2.out.grown hg3 hq3; have hbr := Bk.new w3 51 [.string ⟨nm.toArray⟩, .int .i64 0, .string ⟨#[]⟩, .slice none 0 0]; have hst3a := hst3.later ((Below.refl _ _).alloc (Nat.le_refl _) (.cells #[.string ⟨nm.toArray⟩, .int .i64 0, .string ⟨#[]⟩, .slice none 0 0] 51)); have hbw3 : bp < w3.heap.size := hst3.par.k.lt; have Hst3 := hid hst3; have Hst3a := hid hst3a; have Hbr := hid hbr; have Hg3 := hid hg3; clear hst3 hst3a hbr hq3 hg3)
                      | (go_at_call 95; refine (take_calls Hst3a.out.par [58]).mono ?_; rintro e w4 hP; obtain ⟨rfl, hg4⟩ := PEnd.whenBad hP Ht.out; clear hP)
                      )
                  exact ⟨rfl, PEnd.isBad rfl (gb_trans Hst3a.out.gb hg4)⟩
                | ok u i2 o2 =>
                  obtain ⟨-, hi2, ho2⟩ := Syn.takeS_ok ht
                  subst hi2 ho2
                  rw [ht, Syn.bind_res] at hr1
                  have Ht := hid ht
                  clear ht
                  cases hx : Syn.altF T f (i1 + 1 + 1) 0 with
                  | none => rw [hx] at hr1; simp at hr1
                  | some x =>
                    rw [hx] at hr1
                    cases x with
                    | bad fl =>
                      simp only [Syn.Res.bind, Option.bind_some, Option.some.injEq] at hr1
                      subst hr1
                      have Hx := hid hx
                      clear hx
                      go_wp2_with (first
                      | (go_at_call 96; refine (hp _ Hst1.out.par).mono ?_; rintro e w2 ⟨rfl, hb2⟩; have hst2 := Hst1.out.later hb2; have y1 := hst2.g.cell 1; rw [← HC.out] at y1; simp only [List.getElem?_cons_zero, List.getElem?_cons_succ] at y1; have Hst2 := hid hst2; clear hst2)
                      | (go_at_call 94; refine (sname_calls Hst2.out.par).mono ?_; rintro e w3 hP; obtain ⟨⟨v', rfl, rfl⟩, hq3, hg3⟩ := PEnd.whenOk hP Hn.out; clear hP; have hst3 := Hst2.out.grown hg3 hq3; have hbr := Bk.new w3 51 [.string ⟨nm.toArray⟩, .int .i64 0, .string ⟨#[]⟩, .slice none 0 0]; have hst3a := hst3.later ((Below.refl _ _).alloc (Nat.le_refl _) (.cells #[.string ⟨nm.toArray⟩, .int .i64 0, .string ⟨#[]⟩, .slice none 0 0] 51)); have hbw3 : bp < w3.heap.size := hst3.par.k.lt; have Hst3 := hid hst3; have Hst3a := hid hst3a; have Hbr := hid hbr; have Hg3 := hid hg3; clear hst3 hst3a hbr hq3 hg3)
                      | (go_at_call 95; refine (take_calls Hst3a.out.par [58]).mono ?_; rintro e w4 hP; obtain ⟨⟨v', rfl, rfl⟩, hq4, hg4⟩ := PEnd.whenOk hP Ht.out; clear hP; have hst4 := Hst3a.out.grown hg4 hq4; have hbr4 := Hbr.out.grown hg4 (by intro e; injection e with e; omega); have Hst4 := hid hst4; have Hbr4 := hid hbr4; have Hg4 := hid hg4; clear hst4 hbr4 hq4 hg4 Hst3a)
                      | (go_at_call 98; refine (alt_all T f (i1 + 1 + 1) 0 _ Hx.out (by omega) _ B bp gT cT Hst4.out.par).mono ?_; rintro e w5 hP; obtain ⟨rfl, hg5⟩ := PEnd.whenBad hP rfl; clear hP)
                      )
                      exact ⟨rfl, PEnd.isBad rfl (gb_trans Hst4.out.gb hg5)⟩
                    | ok n j3 p3 =>
                      have hp3 := (Syn.same_o T f).1 _ _ _ _ _ hx
                      subst hp3
                      rw [Syn.bind_some] at hr1
                      have Hx := hid hx
                      clear hx
                      cases ht2 : Syn.takeS T [59] j3 0 with
                      | bad fl =>
                        rw [ht2] at hr1
                        simp only [Syn.Res.bind, Option.bind_some, Option.some.injEq] at hr1
                        subst hr1
                        have Ht2 := hid ht2
                        clear ht2
                        go_wp2_with (first
                      | (go_at_call 96; refine (hp _ Hst1.out.par).mono ?_; rintro e w2 ⟨rfl, hb2⟩; have hst2 := Hst1.out.later hb2; have y1 := hst2.g.cell 1; rw [← HC.out] at y1; simp only [List.getElem?_cons_zero, List.getElem?_cons_succ] at y1; have Hst2 := hid hst2; clear hst2)
                      | (go_at_call 95; refine (take_calls Hst3a.out.par [58]).mono ?_; rintro e w4 hP; obtain ⟨⟨v', rfl, rfl⟩, hq4, hg4⟩ := PEnd.whenOk hP Ht.out; clear hP; have hst4 := Hst3a.out.grown hg4 hq4; have hbr4 := Hbr.out.grown hg4 (by intro e; injection e with e; omega); have Hst4 := hid hst4; have Hbr4 := hid hbr4; have Hg4 := hid hg4; clear hst4 hbr4 hq4 hg4 Hst3a)
                      | (go_at_call 95; obtain ⟨hst6, hbr6, hn6, hown6⟩ := gram_fill (kc := kc) HB.out Hown.out Hgl.out (hb1.trans (hb2.mono hb1.size)) Hg3.out Hg4.out Hg5.out Hst5.out Hbr5.out Hn5.out; have Hst6 := hid hst6; have Hbr6 := hid hbr6; have Hn6 := hid hn6; have Hown6 := hid hown6; clear hst6 hbr6 hn6 hown6; refine (take_calls Hst6.out.par [59]).mono ?_; rintro e w7 hP; obtain ⟨rfl, hg7⟩ := PEnd.whenBad hP Ht2.out; clear hP)
                      | (go_at_call 94; refine (sname_calls Hst2.out.par).mono ?_; rintro e w3 hP; obtain ⟨⟨v', rfl, rfl⟩, hq3, hg3⟩ := PEnd.whenOk hP Hn.out; clear hP; have hst3 := Hst2.out.grown hg3 hq3; have hbr := Bk.new w3 51 [.string ⟨nm.toArray⟩, .int .i64 0, .string ⟨#[]⟩, .slice none 0 0]; have hst3a := hst3.later ((Below.refl _ _).alloc (Nat.le_refl _) (.cells #[.string ⟨nm.toArray⟩, .int .i64 0, .string ⟨#[]⟩, .slice none 0 0] 51)); have hbw3 : bp < w3.heap.size := hst3.par.k.lt; have Hst3 := hid hst3; have Hst3a := hid hst3a; have Hbr := hid hbr; have Hg3 := hid hg3; clear hst3 hst3a hbr hq3 hg3)
                      | (go_at_call 98; refine (alt_all T f (i1 + 1 + 1) 0 _ Hx.out (by omega) _ B bp gT cT Hst4.out.par).mono ?_; rintro e w5 hP; obtain ⟨⟨v', rfl, kg, kc, rfl, hn⟩, hq5, hg5⟩ := PEnd.whenOk hP rfl; clear hP; simp only [nodeV]; have hst5 := Hst4.out.grown hg5 hq5; have hbr5 := Hbr4.out.grown hg5 (by intro e; injection e with e; omega); have b1 := hbr5.cell 1; have b2 := hbr5.cell 2; have b3 := hbr5.cell 3; have q1 := hbr5.free 1; have q2 := hbr5.free 2; have q3 := hbr5.free 3; simp only [List.getElem?_cons_zero, List.getElem?_cons_succ] at b1 b2 b3; have Hst5 := hid hst5; have Hbr5 := hid hbr5; have Hg5 := hid hg5; have Hn5 := hid hn; clear hst5 hbr5 hq5 hg5 hn)
                      )
                        exact ⟨rfl, PEnd.isBad rfl (gb_trans Hst6.out.gb hg7)⟩
                      | ok u2 j4 p4 =>
                        obtain ⟨-, hj4, hp4⟩ := Syn.takeS_ok ht2
                        subst hj4 hp4
                        rw [ht2, Syn.bind_res, Syn.bind_some] at hr1
                        have Ht2 := hid ht2
                        have Hr1 := hid hr1
                        clear ht2 hr1
                        go_wp2_with (first
                      | (go_at_call 96; refine (hp _ Hst1.out.par).mono ?_; rintro e w2 ⟨rfl, hb2⟩; have hst2 := Hst1.out.later hb2; have y1 := hst2.g.cell 1; rw [← HC.out] at y1; simp only [List.getElem?_cons_zero, List.getElem?_cons_succ] at y1; have Hst2 := hid hst2; clear hst2)
                      | (go_at_call 95; refine (take_calls Hst3a.out.par [58]).mono ?_; rintro e w4 hP; obtain ⟨⟨v', rfl, rfl⟩, hq4, hg4⟩ := PEnd.whenOk hP Ht.out; clear hP; have hst4 := Hst3a.out.grown hg4 hq4; have hbr4 := Hbr.out.grown hg4 (by intro e; injection e with e; omega); have Hst4 := hid hst4; have Hbr4 := hid hbr4; have Hg4 := hid hg4; clear hst4 hbr4 hq4 hg4 Hst3a)
                      | (go_at_call 95; obtain ⟨hst6, hbr6, hn6, hown6⟩ := gram_fill (kc := kc) HB.out Hown.out Hgl.out (hb1.trans (hb2.mono hb1.size)) Hg3.out Hg4.out Hg5.out Hst5.out Hbr5.out Hn5.out; have Hst6 := hid hst6; have Hbr6 := hid hbr6; have Hn6 := hid hn6; have Hown6 := hid hown6; clear hst6 hbr6 hn6 hown6; refine (take_calls Hst6.out.par [59]).mono ?_; rintro e w7 hP; obtain ⟨⟨v', rfl, rfl⟩, hq7, hg7⟩ := PEnd.whenOk hP Ht2.out; clear hP; obtain ⟨hst7, hbr7, g2, cap2, w8, hrun, hown8, hst8⟩ := gram_app (x := (nm, n)) HB.out hl Hst6.out hg7 hq7 Hbr6.out Hn6.out Hown6.out (show w3.heap.size ≠ bp by omega) 23; have x7 := hst7.g.cell 1; have b0 := hbr7.cell 0; have b1 := hbr7.cell 1; have b2 := hbr7.cell 2; have b3 := hbr7.cell 3; have x8 := hst8.g.cell 1; have f8 := hst8.g.free 1; rw [← HC.out] at x7 x8 f8 hown8; simp only [List.getElem?_cons_zero, List.getElem?_cons_succ] at x7 b0 b1 b2 b3 x8; rw [← HL.out] at hrun hown8; have Hown8 := hid hown8; have Hst8 := hid hst8; have Hrun := hid hrun; clear hown8 hst8 hrun)
                      | (go_at_call 94; refine (sname_calls Hst2.out.par).mono ?_; rintro e w3 hP; obtain ⟨⟨v', rfl, rfl⟩, hq3, hg3⟩ := PEnd.whenOk hP Hn.out; clear hP; have hst3 := Hst2.out.grown hg3 hq3; have hbr := Bk.new w3 51 [.string ⟨nm.toArray⟩, .int .i64 0, .string ⟨#[]⟩, .slice none 0 0]; have hst3a := hst3.later ((Below.refl _ _).alloc (Nat.le_refl _) (.cells #[.string ⟨nm.toArray⟩, .int .i64 0, .string ⟨#[]⟩, .slice none 0 0] 51)); have hbw3 : bp < w3.heap.size := hst3.par.k.lt; have Hst3 := hid hst3; have Hst3a := hid hst3a; have Hbr := hid hbr; have Hg3 := hid hg3; clear hst3 hst3a hbr hq3 hg3)
                      | (go_at_call 98; refine (alt_all T f (i1 + 1 + 1) 0 _ Hx.out (by omega) _ B bp gT cT Hst4.out.par).mono ?_; rintro e w5 hP; obtain ⟨⟨v', rfl, kg, kc, rfl, hn⟩, hq5, hg5⟩ := PEnd.whenOk hP rfl; clear hP; simp only [nodeV]; have hst5 := Hst4.out.grown hg5 hq5; have hbr5 := Hbr4.out.grown hg5 (by intro e; injection e with e; omega); have b1 := hbr5.cell 1; have b2 := hbr5.cell 2; have b3 := hbr5.cell 3; have q1 := hbr5.free 1; have q2 := hbr5.free 2; have q3 := hbr5.free 3; simp only [List.getElem?_cons_zero, List.getElem?_cons_succ] at b1 b2 b3; have Hst5 := hid hst5; have Hbr5 := hid hbr5; have Hg5 := hid hg5; have Hn5 := hid hn; clear hst5 hbr5 hq5 hg5 hn)
                      | (at_builtin; refine wpList_app rfl _ _ _ rfl (.slice ga L ca) (.slice (some ⟨w7.heap.size, 0, none⟩) 1 1) _ w8 (by rfl) (by rfl) (by exact Hrun.out) ?_)
                      )
                        go_roundg f
                        case measure => have := Hkm.out; omega
                        case rel =>
                          have hst9 := Hst8.out.put HB.out (.slice (some ⟨g2, 0, none⟩) (L + 1) cap2)
                          rw [← HC.out] at hst9
                          refine ⟨f, rs ++ [(nm, n)], j3 + 1, _, rfl, by omega, Hr1.out, by simp, ?_, Hown8.out, hst9⟩
                          have := H64.out
                          simp
                          omega
            · rw [if_neg (by rintro ⟨e, _⟩; have := Hz.out; omega)] at hr1
              have hn : Syn.nameS T i1 0 = .bad (Syn.flt T i1 2) := by
                unfold Syn.nameS
                rw [hfar, if_neg (by decide), if_neg (by have := Hz.out; omega)]
              unfold Syn.ruleS at hr1
              rw [hn] at hr1
              simp only [Syn.Res.bind, Option.bind_some, Option.some.injEq] at hr1
              subst hr1
              have Hn := hid hn
              clear hn hfar hnil hw1
              go_wp2_with (first
                      | (go_at_call 96; refine (hp _ Hst1.out.par).mono ?_; rintro e w2 ⟨rfl, hb2⟩; have hst2 := Hst1.out.later hb2; have y1 := hst2.g.cell 1; rw [← HC.out] at y1; simp only [List.getElem?_cons_zero, List.getElem?_cons_succ] at y1; have Hst2 := hid hst2; clear hst2)
                      | (go_at_call 94; refine (sname_calls Hst2.out.par).mono ?_; rintro e w3 hP; obtain ⟨rfl, hg3⟩ := PEnd.whenBad hP Hn.out; clear hP)
                      )
              exact ⟨rfl, PEnd.isBad rfl (gb_trans Hst2.out.gb hg3)⟩
        · obtain ⟨x0, xs, hrs⟩ : ∃ x0 xs, rs = x0 :: xs := by
            cases rs with
            | nil => exact absurd rfl hnil
            | cons x0 xs => exact ⟨x0, xs, rfl⟩
          have hv5 : _ = Value.bool false := hv4.trans (by rw [hrs]; rfl)
          subst hv5
          clear hv4
          cases hfar : Syn.far T i1 with
          | true =>
            rw [hfar, if_pos rfl, Option.some.injEq] at hr1
            subst hr1
            have hpn := peek_no Hst.out.par hfar
            clear hfar hp hnil hrs
            go_wp2_with (go_at_call 96; refine hpn.mono ?_; rintro e w1 ⟨rfl, hb1⟩)
            exact ⟨rfl, PEnd.isBad rfl (gb_trans Hst.out.gb (below_gb hb1 _))⟩
          | false =>
            rw [hfar, if_neg (by decide)] at hr1
            have hp := hp hfar
            by_cases z4 : z = 4
            · rw [if_pos ⟨hnil, by have := Hz.out; omega⟩, Option.some.injEq] at hr1
              subst hr1
              subst z4
              have Hrs := hid hrs
              clear hrs hfar hnil
              by_cases hsn : st = []
              · subst hsn
                obtain ⟨g, cap, y, hv, hg1, hg2, ⟨gk, ck, rfl, hn⟩, hcc⟩ := Hown.out.at RuleR.fit (i := 0) (a := x0) (by rw [Hrs.out]; rfl)
                have hLp : (0 : Int) < (L : Int) := by have := HL.out; have := congrArg List.length Hrs.out; simp at this; omega
                have hc0 := hcc 0 _ rfl
                simp only [Nat.zero_mul, Nat.zero_add] at hc0
                injection hv with e1 e2 e3
                subst e1
                have hgc : ¬ g = c := by have := HC.out; omega
                have hgb : ¬ g = b := by omega
                have hcb : ¬ c = b := by have := HC.out; omega
                have hgw := hg2
                clear hcc hn e2 e3 hg1 hg2
                go_wp2_with (go_at_call 96; refine (hp _ Hst.out.par).mono ?_; rintro e w1 ⟨rfl, hb1⟩; have c0 := (below_kp hb1).cell hc0 (fun e => e); have hst1 := Hst.out.later hb1; have x0' := hst1.g.cell 0; have x1 := hst1.g.cell 1; have f0 := hst1.g.free 0; rw [← HC.out] at x0' x1 f0; have r0 := hst1.res.cell 0; have r1 := hst1.res.cell 1; have q0 := hst1.res.free 0; have q1 := hst1.res.free 1; simp only [List.getElem?_cons_zero, List.getElem?_cons_succ] at x0' x1 r0 r1; have Hst1 := hid hst1; clear hst1)
                have hbc' : ¬ b = c := fun e => hcb e.symm
                refine bodyPost_ret (v := .agg #[.string ⟨x0.1.toArray⟩, .slice (some ⟨g, 0, none⟩) L ca]) (by simp [results, Try.results51, go_sem, r0, r1]) rfl ?_
                have hso : Syn.startOr [] rs = x0.1 := by rw [Hrs.out]; rfl
                have hst2 := Hst1.out.start HB.out x0.1
                have hown2 := (Hown.out.later RuleR.fit hb1).kp RuleR.fit ((Kp.refl (fun k => k = b + 1) w1).set (p := ⟨b + 1, 0, none⟩) (.inl rfl) (.string ⟨x0.1.toArray⟩)) (fun k h4 _ e => by omega)
                rw [HL.out] at hst2 hown2
                have := gram_back HB.out hst2 hown2 x0.1 (.string ⟨x0.1.toArray⟩) (.slice (some ⟨g, 0, none⟩) L ca)
                rw [← HC.out, ← HL.out] at this
                simp only [gramOf, hso]
                exact this
              · have hsn' : (st == []) = false := by simpa using hsn
                have hcb : ¬ c = b := by have := HC.out; omega
                have Hsn := hid hsn
                clear hsn
                go_wp2_with (go_at_call 96; refine (hp _ Hst.out.par).mono ?_; rintro e w1 ⟨rfl, hb1⟩; have hst1 := Hst.out.later hb1; have x0' := hst1.g.cell 0; have x1 := hst1.g.cell 1; have f0 := hst1.g.free 0; rw [← HC.out] at x0' x1 f0; have r0 := hst1.res.cell 0; have r1 := hst1.res.cell 1; have q0 := hst1.res.free 0; have q1 := hst1.res.free 1; simp only [List.getElem?_cons_zero, List.getElem?_cons_succ] at x0' x1 r0 r1; have Hst1 := hid hst1; clear hst1)
                have hbc' : ¬ b = c := fun e => hcb e.symm
                refine bodyPost_ret (v := .agg #[.string ⟨st.toArray⟩, .slice ga L ca]) (by simp [results, Try.results51, go_sem, r0, r1]) rfl ?_
                have hso : Syn.startOr st rs = st := if_neg Hsn.out
                have hst2 := Hst1.out
                have hown2 := Hown.out.later RuleR.fit hb1
                rw [HL.out] at hst2 hown2
                have := gram_back HB.out hst2 hown2 st (.string ⟨st.toArray⟩) (.slice ga L ca)
                rw [← HL.out] at this
                simp only [gramOf, hso]
                exact this
            have z4' : ¬ z = 4 := z4
            rw [if_neg (by rintro ⟨_, e⟩; have := Hz.out; omega)] at hr1
            by_cases z1 : z = 1
            · by_cases h64 : rs.length = 64
              · rw [if_pos ⟨by have := Hz.out; omega, h64⟩, Option.some.injEq] at hr1
                subst hr1
                have L64 : L = 64 := by have := HL.out; omega
                subst L64
                subst z1
                have Hhr := hid hrs
                clear hrs hfar hnil h64
                go_wp2_with (first
                      | (go_at_call 96; refine (hp _ Hst1.out.par).mono ?_; rintro e w2 ⟨rfl, hb2⟩; have hst2 := Hst1.out.later hb2; have y1 := hst2.g.cell 1; rw [← HC.out] at y1; simp only [List.getElem?_cons_zero, List.getElem?_cons_succ] at y1; have Hst2 := hid hst2; clear hst2)
                      | (go_at_call 96; refine (hp _ Hst.out.par).mono ?_; rintro e w1 ⟨rfl, hb1⟩; have hst1 := Hst.out.later hb1; have x1 := hst1.g.cell 1; rw [← HC.out] at x1; simp only [List.getElem?_cons_zero, List.getElem?_cons_succ] at x1; have Hst1 := hid hst1; clear hst1)
                      | (go_at_call 97; refine (sfail_calls Hst2.out.par 6).mono ?_; rintro e w3 ⟨rfl, hb3⟩)
                      )
                exact ⟨rfl, PEnd.isBad rfl (gb_trans Hst2.out.gb (below_gb hb3 _))⟩
              · rw [if_neg (by rintro ⟨_, e⟩; exact h64 e)] at hr1
                have L64 : ¬ (L : Int) = 64 := by have := HL.out; omega
                obtain ⟨nm, hnm⟩ : ∃ nm, nm = (Syn.tk T i1).text := ⟨_, rfl⟩
                have hn : Syn.nameS T i1 0 = .ok nm (i1 + 1) 0 := by
                  unfold Syn.nameS
                  rw [hfar, if_neg (by decide), if_pos (by have := Hz.out; omega), hnm]
                unfold Syn.ruleS at hr1
                rw [hn, Syn.bind_res] at hr1
                have Hn := hid hn
                have Hlp := hid hfar
                subst z1
                have H64 := hid h64
                have Hgl := hid Hst.out.g.lt
                clear hn hnm hfar hnil h64 hrs z4
                cases ht : Syn.takeS T [58] (i1 + 1) 0 with
                | bad fl =>
                  rw [ht] at hr1
                  simp only [Syn.Res.bind, Option.bind_some, Option.some.injEq] at hr1
                  subst hr1
                  have Ht := hid ht
                  clear ht
                  go_wp2_with (first
                      | (go_at_call 96; refine (hp _ Hst1.out.par).mono ?_; rintro e w2 ⟨rfl, hb2⟩; have hst2 := Hst1.out.later hb2; have y1 := hst2.g.cell 1; rw [← HC.out] at y1; simp only [List.getElem?_cons_zero, List.getElem?_cons_succ] at y1; have Hst2 := hid hst2; clear hst2)
                      | (go_at_call 96; refine (hp _ Hst.out.par).mono ?_; rintro e w1 ⟨rfl, hb1⟩; have hst1 := Hst.out.later hb1; have x1 := hst1.g.cell 1; rw [← HC.out] at x1; simp only [List.getElem?_cons_zero, List.getElem?_cons_succ] at x1; have Hst1 := hid hst1; clear hst1)
                      | (go_at_call 94; refine (sname_calls Hst2.out.par).mono ?_; rintro e w3 hP; obtain ⟨⟨v', rfl, rfl⟩, hq3, hg3⟩ := PEnd.whenOk hP Hn.out; clear hP; have hst3 := Hst2.out.grown hg3 hq3; have hbr := Bk.new w3 51 [.string ⟨nm.toArray⟩, .int .i64 0, .string ⟨#[]⟩, .slice none 0 0]; have hst3a := hst3.later ((Below.refl _ _).alloc (Nat.le_refl _) (.cells #[.string ⟨nm.toArray⟩, .int .i64 0, .string ⟨#[]⟩, .slice none 0 0] 51)); have hbw3 : bp < w3.heap.size := hst3.par.k.lt; have Hst3 := hid hst3; have Hst3a := hid hst3a; have Hbr := hid hbr; have Hg3 := hid hg3; clear hst3 hst3a hbr hq3 hg3)
                      | (go_at_call 95; refine (take_calls Hst3a.out.par [58]).mono ?_; rintro e w4 hP; obtain ⟨rfl, hg4⟩ := PEnd.whenBad hP Ht.out; clear hP)
                      )
                  exact ⟨rfl, PEnd.isBad rfl (gb_trans Hst3a.out.gb hg4)⟩
                | ok u i2 o2 =>
                  obtain ⟨-, hi2, ho2⟩ := Syn.takeS_ok ht
                  subst hi2 ho2
                  rw [ht, Syn.bind_res] at hr1
                  have Ht := hid ht
                  clear ht
                  cases hx : Syn.altF T f (i1 + 1 + 1) 0 with
                  | none => rw [hx] at hr1; simp at hr1
                  | some x =>
                    rw [hx] at hr1
                    cases x with
                    | bad fl =>
                      simp only [Syn.Res.bind, Option.bind_some, Option.some.injEq] at hr1
                      subst hr1
                      have Hx := hid hx
                      clear hx
                      go_wp2_with (first
                      | (go_at_call 96; refine (hp _ Hst1.out.par).mono ?_; rintro e w2 ⟨rfl, hb2⟩; have hst2 := Hst1.out.later hb2; have y1 := hst2.g.cell 1; rw [← HC.out] at y1; simp only [List.getElem?_cons_zero, List.getElem?_cons_succ] at y1; have Hst2 := hid hst2; clear hst2)
                      | (go_at_call 96; refine (hp _ Hst.out.par).mono ?_; rintro e w1 ⟨rfl, hb1⟩; have hst1 := Hst.out.later hb1; have x1 := hst1.g.cell 1; rw [← HC.out] at x1; simp only [List.getElem?_cons_zero, List.getElem?_cons_succ] at x1; have Hst1 := hid hst1; clear hst1)
                      | (go_at_call 94; refine (sname_calls Hst2.out.par).mono ?_; rintro e w3 hP; obtain ⟨⟨v', rfl, rfl⟩, hq3, hg3⟩ := PEnd.whenOk hP Hn.out; clear hP; have hst3 := Hst2.out.grown hg3 hq3; have hbr := Bk.new w3 51 [.string ⟨nm.toArray⟩, .int .i64 0, .string ⟨#[]⟩, .slice none 0 0]; have hst3a := hst3.later ((Below.refl _ _).alloc (Nat.le_refl _) (.cells #[.string ⟨nm.toArray⟩, .int .i64 0, .string ⟨#[]⟩, .slice none 0 0] 51)); have hbw3 : bp < w3.heap.size := hst3.par.k.lt; have Hst3 := hid hst3; have Hst3a := hid hst3a; have Hbr := hid hbr; have Hg3 := hid hg3; clear hst3 hst3a hbr hq3 hg3)
                      | (go_at_call 95; refine (take_calls Hst3a.out.par [58]).mono ?_; rintro e w4 hP; obtain ⟨⟨v', rfl, rfl⟩, hq4, hg4⟩ := PEnd.whenOk hP Ht.out; clear hP; have hst4 := Hst3a.out.grown hg4 hq4; have hbr4 := Hbr.out.grown hg4 (by intro e; injection e with e; omega); have Hst4 := hid hst4; have Hbr4 := hid hbr4; have Hg4 := hid hg4; clear hst4 hbr4 hq4 hg4 Hst3a)
                      | (go_at_call 98; refine (alt_all T f (i1 + 1 + 1) 0 _ Hx.out (by omega) _ B bp gT cT Hst4.out.par).mono ?_; rintro e w5 hP; obtain ⟨rfl, hg5⟩ := PEnd.whenBad hP rfl; clear hP)
                      )
                      exact ⟨rfl, PEnd.isBad rfl (gb_trans Hst4.out.gb hg5)⟩
                    | ok n j3 p3 =>
                      have hp3 := (Syn.same_o T f).1 _ _ _ _ _ hx
                      subst hp3
                      rw [Syn.bind_some] at hr1
                      have Hx := hid hx
                      clear hx
                      cases ht2 : Syn.takeS T [59] j3 0 with
                      | bad fl =>
                        rw [ht2] at hr1
                        simp only [Syn.Res.bind, Option.bind_some, Option.some.injEq] at hr1
                        subst hr1
                        have Ht2 := hid ht2
                        clear ht2
                        go_wp2_with (first
                      | (go_at_call 96; refine (hp _ Hst1.out.par).mono ?_; rintro e w2 ⟨rfl, hb2⟩; have hst2 := Hst1.out.later hb2; have y1 := hst2.g.cell 1; rw [← HC.out] at y1; simp only [List.getElem?_cons_zero, List.getElem?_cons_succ] at y1; have Hst2 := hid hst2; clear hst2)
                      | (go_at_call 96; refine (hp _ Hst.out.par).mono ?_; rintro e w1 ⟨rfl, hb1⟩; have hst1 := Hst.out.later hb1; have x1 := hst1.g.cell 1; rw [← HC.out] at x1; simp only [List.getElem?_cons_zero, List.getElem?_cons_succ] at x1; have Hst1 := hid hst1; clear hst1)
                      | (go_at_call 95; refine (take_calls Hst3a.out.par [58]).mono ?_; rintro e w4 hP; obtain ⟨⟨v', rfl, rfl⟩, hq4, hg4⟩ := PEnd.whenOk hP Ht.out; clear hP; have hst4 := Hst3a.out.grown hg4 hq4; have hbr4 := Hbr.out.grown hg4 (by intro e; injection e with e; omega); have Hst4 := hid hst4; have Hbr4 := hid hbr4; have Hg4 := hid hg4; clear hst4 hbr4 hq4 hg4 Hst3a)
                      | (go_at_call 95; obtain ⟨hst6, hbr6, hn6, hown6⟩ := gram_fill (kc := kc) HB.out Hown.out Hgl.out (hb1.trans (hb2.mono hb1.size)) Hg3.out Hg4.out Hg5.out Hst5.out Hbr5.out Hn5.out; have Hst6 := hid hst6; have Hbr6 := hid hbr6; have Hn6 := hid hn6; have Hown6 := hid hown6; clear hst6 hbr6 hn6 hown6; refine (take_calls Hst6.out.par [59]).mono ?_; rintro e w7 hP; obtain ⟨rfl, hg7⟩ := PEnd.whenBad hP Ht2.out; clear hP)
                      | (go_at_call 94; refine (sname_calls Hst2.out.par).mono ?_; rintro e w3 hP; obtain ⟨⟨v', rfl, rfl⟩, hq3, hg3⟩ := PEnd.whenOk hP Hn.out; clear hP; have hst3 := Hst2.out.grown hg3 hq3; have hbr := Bk.new w3 51 [.string ⟨nm.toArray⟩, .int .i64 0, .string ⟨#[]⟩, .slice none 0 0]; have hst3a := hst3.later ((Below.refl _ _).alloc (Nat.le_refl _) (.cells #[.string ⟨nm.toArray⟩, .int .i64 0, .string ⟨#[]⟩, .slice none 0 0] 51)); have hbw3 : bp < w3.heap.size := hst3.par.k.lt; have Hst3 := hid hst3; have Hst3a := hid hst3a; have Hbr := hid hbr; have Hg3 := hid hg3; clear hst3 hst3a hbr hq3 hg3)
                      | (go_at_call 98; refine (alt_all T f (i1 + 1 + 1) 0 _ Hx.out (by omega) _ B bp gT cT Hst4.out.par).mono ?_; rintro e w5 hP; obtain ⟨⟨v', rfl, kg, kc, rfl, hn⟩, hq5, hg5⟩ := PEnd.whenOk hP rfl; clear hP; simp only [nodeV]; have hst5 := Hst4.out.grown hg5 hq5; have hbr5 := Hbr4.out.grown hg5 (by intro e; injection e with e; omega); have b1 := hbr5.cell 1; have b2 := hbr5.cell 2; have b3 := hbr5.cell 3; have q1 := hbr5.free 1; have q2 := hbr5.free 2; have q3 := hbr5.free 3; simp only [List.getElem?_cons_zero, List.getElem?_cons_succ] at b1 b2 b3; have Hst5 := hid hst5; have Hbr5 := hid hbr5; have Hg5 := hid hg5; have Hn5 := hid hn; clear hst5 hbr5 hq5 hg5 hn)
                      )
                        exact ⟨rfl, PEnd.isBad rfl (gb_trans Hst6.out.gb hg7)⟩
                      | ok u2 j4 p4 =>
                        obtain ⟨-, hj4, hp4⟩ := Syn.takeS_ok ht2
                        subst hj4 hp4
                        rw [ht2, Syn.bind_res, Syn.bind_some] at hr1
                        have Ht2 := hid ht2
                        have Hr1 := hid hr1
                        clear ht2 hr1
                        go_wp2_with (first
                      | (go_at_call 96; refine (hp _ Hst1.out.par).mono ?_; rintro e w2 ⟨rfl, hb2⟩; have hst2 := Hst1.out.later hb2; have y1 := hst2.g.cell 1; rw [← HC.out] at y1; simp only [List.getElem?_cons_zero, List.getElem?_cons_succ] at y1; have Hst2 := hid hst2; clear hst2)
                      | (go_at_call 96; refine (hp _ Hst.out.par).mono ?_; rintro e w1 ⟨rfl, hb1⟩; have hst1 := Hst.out.later hb1; have x1 := hst1.g.cell 1; rw [← HC.out] at x1; simp only [List.getElem?_cons_zero, List.getElem?_cons_succ] at x1; have Hst1 := hid hst1; clear hst1)
                      | (go_at_call 95; refine (take_calls Hst3a.out.par [58]).mono ?_; rintro e w4 hP; obtain ⟨⟨v', rfl, rfl⟩, hq4, hg4⟩ := PEnd.whenOk hP Ht.out; clear hP; have hst4 := Hst3a.out.grown hg4 hq4; have hbr4 := Hbr.out.grown hg4 (by intro e; injection e with e; omega); have Hst4 := hid hst4; have Hbr4 := hid hbr4; have Hg4 := hid hg4; clear hst4 hbr4 hq4 hg4 Hst3a)
                      | (go_at_call 95; obtain ⟨hst6, hbr6, hn6, hown6⟩ := gram_fill (kc := kc) HB.out Hown.out Hgl.out (hb1.trans (hb2.mono hb1.size)) Hg3.out Hg4.out Hg5.out Hst5.out Hbr5.out Hn5.out; have Hst6 := hid hst6; have Hbr6 := hid hbr6; have Hn6 := hid hn6; have Hown6 := hid hown6; clear hst6 hbr6 hn6 hown6; refine (take_calls Hst6.out.par [59]).mono ?_; rintro e w7 hP; obtain ⟨⟨v', rfl, rfl⟩, hq7, hg7⟩ := PEnd.whenOk hP Ht2.out; clear hP; obtain ⟨hst7, hbr7, g2, cap2, w8, hrun, hown8, hst8⟩ := gram_app (x := (nm, n)) HB.out hl Hst6.out hg7 hq7 Hbr6.out Hn6.out Hown6.out (show w3.heap.size ≠ bp by omega) 23; have x7 := hst7.g.cell 1; have b0 := hbr7.cell 0; have b1 := hbr7.cell 1; have b2 := hbr7.cell 2; have b3 := hbr7.cell 3; have x8 := hst8.g.cell 1; have f8 := hst8.g.free 1; rw [← HC.out] at x7 x8 f8 hown8; simp only [List.getElem?_cons_zero, List.getElem?_cons_succ] at x7 b0 b1 b2 b3 x8; rw [← HL.out] at hrun hown8; have Hown8 := hid hown8; have Hst8 := hid hst8; have Hrun := hid hrun; clear hown8 hst8 hrun)
                      | (go_at_call 94; refine (sname_calls Hst2.out.par).mono ?_; rintro e w3 hP; obtain ⟨⟨v', rfl, rfl⟩, hq3, hg3⟩ := PEnd.whenOk hP Hn.out; clear hP; have hst3 := Hst2.out.grown hg3 hq3; have hbr := Bk.new w3 51 [.string ⟨nm.toArray⟩, .int .i64 0, .string ⟨#[]⟩, .slice none 0 0]; have hst3a := hst3.later ((Below.refl _ _).alloc (Nat.le_refl _) (.cells #[.string ⟨nm.toArray⟩, .int .i64 0, .string ⟨#[]⟩, .slice none 0 0] 51)); have hbw3 : bp < w3.heap.size := hst3.par.k.lt; have Hst3 := hid hst3; have Hst3a := hid hst3a; have Hbr := hid hbr; have Hg3 := hid hg3; clear hst3 hst3a hbr hq3 hg3)
                      | (go_at_call 98; refine (alt_all T f (i1 + 1 + 1) 0 _ Hx.out (by omega) _ B bp gT cT Hst4.out.par).mono ?_; rintro e w5 hP; obtain ⟨⟨v', rfl, kg, kc, rfl, hn⟩, hq5, hg5⟩ := PEnd.whenOk hP rfl; clear hP; simp only [nodeV]; have hst5 := Hst4.out.grown hg5 hq5; have hbr5 := Hbr4.out.grown hg5 (by intro e; injection e with e; omega); have b1 := hbr5.cell 1; have b2 := hbr5.cell 2; have b3 := hbr5.cell 3; have q1 := hbr5.free 1; have q2 := hbr5.free 2; have q3 := hbr5.free 3; simp only [List.getElem?_cons_zero, List.getElem?_cons_succ] at b1 b2 b3; have Hst5 := hid hst5; have Hbr5 := hid hbr5; have Hg5 := hid hg5; have Hn5 := hid hn; clear hst5 hbr5 hq5 hg5 hn)
                      | (at_builtin; refine wpList_app rfl _ _ _ rfl (.slice ga L ca) (.slice (some ⟨w7.heap.size, 0, none⟩) 1 1) _ w8 (by rfl) (by rfl) (by exact Hrun.out) ?_)
                      )
                        go_roundg f
                        case measure => have := Hkm.out; omega
                        case rel =>
                          have hst9 := Hst8.out.put HB.out (.slice (some ⟨g2, 0, none⟩) (L + 1) cap2)
                          rw [← HC.out] at hst9
                          refine ⟨f, rs ++ [(nm, n)], j3 + 1, _, rfl, by omega, Hr1.out, by simp, ?_, Hown8.out, hst9⟩
                          have := H64.out
                          simp
                          omega
            · rw [if_neg (by rintro ⟨e, _⟩; have := Hz.out; omega)] at hr1
              have hn : Syn.nameS T i1 0 = .bad (Syn.flt T i1 2) := by
                unfold Syn.nameS
                rw [hfar, if_neg (by decide), if_neg (by have := Hz.out; omega)]
              unfold Syn.ruleS at hr1
              rw [hn] at hr1
              simp only [Syn.Res.bind, Option.bind_some, Option.some.injEq] at hr1
              subst hr1
              have Hn := hid hn
              clear hn hfar hnil hrs z4
              go_wp2_with (first
                      | (go_at_call 96; refine (hp _ Hst1.out.par).mono ?_; rintro e w2 ⟨rfl, hb2⟩; have hst2 := Hst1.out.later hb2; have y1 := hst2.g.cell 1; rw [← HC.out] at y1; simp only [List.getElem?_cons_zero, List.getElem?_cons_succ] at y1; have Hst2 := hid hst2; clear hst2)
                      | (go_at_call 96; refine (hp _ Hst.out.par).mono ?_; rintro e w1 ⟨rfl, hb1⟩; have hst1 := Hst.out.later hb1; have x1 := hst1.g.cell 1; rw [← HC.out] at x1; simp only [List.getElem?_cons_zero, List.getElem?_cons_succ] at x1; have Hst1 := hid hst1; clear hst1)
                      | (go_at_call 94; refine (sname_calls Hst2.out.par).mono ?_; rintro e w3 hP; obtain ⟨rfl, hg3⟩ := PEnd.whenBad hP Hn.out; clear hP)
                      )
              exact ⟨rfl, PEnd.isBad rfl (gb_trans Hst2.out.gb hg3)⟩
end Go.Proofs.Ytjaampgpihicmaa
