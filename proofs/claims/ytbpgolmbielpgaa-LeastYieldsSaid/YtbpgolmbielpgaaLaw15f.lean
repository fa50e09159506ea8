/- Chapter 15 (least): word, Check; the law of LeastYields. -/
import Derived.Test.YtbpgolmbielpgaaLaw15b
import Derived.Test.YtbpgolmbielpgaaTreeC
import Derived.Test.YtbpgolmbielpgaaTreeLaw
import Derived.Test.YtbpgolmbielpgaaSmall
namespace Go.Proofs.Ytbpgolmbielpgaa
open Go.RowKit
attribute [local go_sem ↓] Go.wp_at_zero Go.wp_at_succ
attribute [local go_sem] frozen_alloc_lt

def WordSaid (w : World) (most T : Nat) (e : Ending) (w' : World) : Prop := ∃ (ga : Option Addr) (ca : Nat) (zs : List Int), e = .returned (.slice ga zs.length ca) ∧ RowI w' w'.heap.size ga zs ∧ zs.length ≤ most ∧ (∀ z ∈ zs, 0 ≤ z ∧ z < (T : Int)) ∧ Below w.heap.size w w'
def WAt (w0 : World) (L most T : Nat) (k : Nat) (v7 v8 : Value) (w : World) : Prop :=
  ∃ (i : Nat) (vo : Value) (zs : List Int), v8 = .int .i64 i ∧ vo = v7 ∧ i ≤ L ∧ w.ownsRow w0.heap.size 3 1 vo zs.length (zs.map (Value.int .i64)) ∧ zs.length = i ∧ zs.length ≤ most ∧ (∀ z ∈ zs, 0 ≤ z ∧ z < (T : Int)) ∧ k = L - i ∧ Below w0.heap.size w0 w
set_option maxHeartbeats 2000000 in
theorem word15_calls (w : World) (gl : Option Addr) (cl : Nat) (ls : List Int) (hl : RowI w w.heap.size gl ls) (hll : ls.length ≤ 9223372036854775807) (T most : Nat) (hT : T ≤ 1000) (hm : most ≤ 1000) :
    Calls Try.prog 39 #[.slice gl ls.length cl, .int .i64 T, .int .i64 most] w (WordSaid w most T) := by
  obtain ⟨i3, hi3, y0, y1, y2⟩ := info_parts intInfo
  have hT0 : (0 : Int) ≤ (T : Int) := by omega
  have hT1 : (T : Int) ≤ 1000 := by omega
  have hm1 : (most : Int) ≤ 1000 := by omega
  go_enter Try.func39, Try.ntmps39
  go_wp2_with fail
  go_loopg [7, 8] ls.length (fun k v7 v8 wr => WAt w ls.length most T k v7 v8 wr)
  case atStart => exact ⟨0, _, [], rfl, rfl, by omega, World.ownsRow_nil _ _ _ _, rfl, by simp, (fun z hz => by simp at hz), rfl, Below.refl _ _⟩
  case round =>
    obtain ⟨i, vo, zs, rfl, rfl, hi, hown, hzl, hzm, hz, hk, hb⟩ := hrel
    have Hk := hid hk
    have Hb := hid hb
    have Hz := hid hz
    have Hzl := hid hzl
    have hi1 : (i : Int) ≤ 1000 := by omega
    have hi0 : (0 : Int) ≤ (i : Int) := by omega
    clear hk hb hz
    by_cases hgo : i < ls.length ∧ i < most ∧ 0 < T
    · obtain ⟨c1, c2, c3⟩ := hgo
      have d1 : (i : Int) < (ls.length : Int) := by omega
      have d2 : (i : Int) < (most : Int) := by omega
      have d3 : (0 : Int) < (T : Int) := by omega
      have dz : ¬ (T : Int) = 0 := by omega
      obtain ⟨g, o, rfl, hg, hc⟩ := hl.at c1
      obtain ⟨z, hze⟩ : ∃ z, z = ls[i] := ⟨_, rfl⟩
      rw [← hze] at hc
      have e0 := (Hb.out.cell (p := ⟨g, _, none⟩) hg).trans hc
      have ht1 : z.tmod (T : Int) < (T : Int) := Int.tmod_lt_of_pos z d3
      have ht2 : -(T : Int) < z.tmod (T : Int) := by have := Int.lt_tmod_of_pos z d3; omega
      have ht3 := Int.tmod_lt_of_pos (z.tmod (T : Int) + (T : Int)) d3
      have ht4 := Int.tmod_nonneg (a := z.tmod (T : Int) + (T : Int)) (T : Int) (by omega)
      obtain ⟨y, hy⟩ : ∃ y, y = (z.tmod (T : Int) + (T : Int)).tmod (T : Int) := ⟨_, rfl⟩
      have hy' : (z.tmod (T : Int) + (T : Int)).tmod (T : Int) = y := hy.symm
      rw [← hy] at ht3 ht4
      obtain ⟨g2, cap2, w4, hrun, hown4, hk4, hg4, hl4⟩ := int_app (P := Try.prog) hown 23 23 i3 Try.underlying23 hi3 y0 y1 y2 Hb.out.size (by omega) y 0
      have hb4 : Below w.heap.size wr w4 := hk4.to_below (by exact Hb.out.size) (fun k e => (World.ownsRow.lt hown k e).1)
      have hrun' : (Builtin.append_ #[23, 23] 23 #[vo, .slice (some ⟨wr.heap.size, 0, none⟩) 1 1]).run Try.prog (wr.alloc (.cells #[.int .i64 y] 3)) = .ok (.slice (some ⟨g2, 0, none⟩) (zs.length + 1) cap2) w4 := hrun
      have Hrun := hid hrun'
      have Hown4 := hid hown4
      have Hb4 := hid (Hb.out.trans hb4)
      have Hy := hid (And.intro ht3 ht4)
      clear hown hrun hown4 hk4 hg4 hl4 hb4 hrun' ht3 ht4 hzl hze hc hy
      go_wp2_with (at_builtin; refine wpList_append_run rfl _ _ _ rfl vo (.slice (some ⟨wr.heap.size, 0, none⟩) 1 1) (.slice (some ⟨g2, 0, none⟩) (zs.length + 1) cap2) w4 (by rfl) (by rfl) (by exact Hrun.out) ?_)
      go_roundg (ls.length - (i + 1))
      case measure => have hk := Hk.out; omega
      case rel =>
        have h9 := Hown4.out
        rw [List.length_append] at h9
        refine ⟨i + 1, _, zs ++ [y], by go_num, rfl, by omega, by rw [List.length_append]; exact h9, by rw [List.length_append]; have := Hzl.out; simp; omega, by rw [List.length_append]; have := Hzl.out; simp; omega, fun x hx => ?_, rfl, Hb4.out⟩
        rcases List.mem_append.1 hx with hx | hx
        · exact Hz.out x hx
        · simp at hx
          subst hx
          exact ⟨Hy.out.2, Hy.out.1⟩
    · obtain ⟨ga, ca, rfl, hrow⟩ := own_rowI hown
      have Hrow := hid hrow
      have Hzm := hid hzm
      clear hrow hown hzl
      by_cases c1 : i < ls.length
      · have d1 : (i : Int) < (ls.length : Int) := by omega
        by_cases c2 : i < most
        · have d2 : (i : Int) < (most : Int) := by omega
          have d3 : decide ((0 : Int) < (T : Int)) = false := by simp; omega
          have d4 : decide (0 < T) = false := by simp; omega
          have d5 : ¬ 0 < T := by omega
          clear hgo
          go_wp2_with fail
          go_ret
          exact ⟨ga, ca, zs, rfl, Hrow.out, Hzm.out, Hz.out, Hb.out⟩
        · have d2 : ¬ (i : Int) < (most : Int) := by omega
          clear hgo
          go_wp2_with fail
          go_ret
          exact ⟨ga, ca, zs, rfl, Hrow.out, Hzm.out, Hz.out, Hb.out⟩
      · have d1 : ¬ (i : Int) < (ls.length : Int) := by omega
        clear hgo
        go_wp2_with fail
        go_ret
        exact ⟨ga, ca, zs, rfl, Hrow.out, Hzm.out, Hz.out, Hb.out⟩
set_option maxHeartbeats 1000000 in
theorem check_all (w : World) (G : Gr) (gn gt gp : Option Addr) (cn ct cp : Nat) (h : GIn w G gn gt gp) (hs : Pl.soundB G = true) (p : Int) (kids : Fo) (gk : Option Addr) (ck : Nat) (hn : kids.nodes ≤ 1000000000000) (hat : FoAt w (fun k => k < w.heap.size) gk kids 0) :
    Calls Try.prog 41 #[.agg #[.int .i64 G.start, .int .i64 G.rules, .slice gn G.names.length cn, .slice gt G.terms.length ct, .slice gp G.prods.length cp], .agg #[.int .i64 p, .slice gk kids.len ck]] w fun e w' => e = .returned (.bool (Tr.chkT G p kids)) ∧ Below w.heap.size w w' := by
  have hsn := sndG hs
  have hch : ChIn w G gn gt gp := ⟨h, by have := hsn.t1; omega, by have := hsn.p1; omega, fun x hx => by have := hsn.r16 x hx; omega⟩
  have hk2 := (Bk.new w 41 [.int .i64 G.start, .int .i64 G.rules, .slice gn G.names.length cn, .slice gt G.terms.length ct, .slice gp G.prods.length cp]).alloc (.cells #[.int .i64 p, .slice gk kids.len ck] 45)
  have hk3 := bk_at (Bk.new (w.alloc (.cells #[.int .i64 G.start, .int .i64 G.rules, .slice gn G.names.length cn, .slice gt G.terms.length ct, .slice gp G.prods.length cp] 41)) 45 [.int .i64 p, .slice gk kids.len ck]) (show _ = w.heap.size + 1 by simp)
  have hb0 : Below w.heap.size w ((w.alloc (.cells #[.int .i64 G.start, .int .i64 G.rules, .slice gn G.names.length cn, .slice gt G.terms.length ct, .slice gp G.prods.length cp] 41)).alloc (.cells #[.int .i64 p, .slice gk kids.len ck] 45)) := bel_al (bel_al (bel_id w) _) _
  have hin := hch.later hb0
  have hat0 := (hat.below hb0 (fun _ h => h)).mono (D' := fun x => x < ((w.alloc (.cells #[.int .i64 G.start, .int .i64 G.rules, .slice gn G.names.length cn, .slice gt G.terms.length ct, .slice gp G.prods.length cp] 41)).alloc (.cells #[.int .i64 p, .slice gk kids.len ck] 45)).heap.size) (fun k hk => Nat.lt_of_lt_of_le hk hb0.size)
  have Hs := hid hs
  have Hn := hid hn
  clear hsn hch hat h hs hn
  go_enter Try.func41, Try.ntmps41
  go_upto_region 1 with fail
  obtain ⟨wa, hwa⟩ : ∃ wa, wa = ((w.alloc (.cells #[.int .i64 G.start, .int .i64 G.rules, .slice gn G.names.length cn, .slice gt G.terms.length ct, .slice gp G.prods.length cp] 41)).alloc (.cells #[.int .i64 p, .slice gk kids.len ck] 45)) := ⟨_, rfl⟩
  obtain ⟨b2, hb2⟩ : ∃ b2, b2 = w.heap.size := ⟨_, rfl⟩
  obtain ⟨b3, hb3⟩ : ∃ b3, b3 = b2 + 1 := ⟨_, rfl⟩
  rw [← hwa] at hk2 hk3 hb0 hin hat0 ⊢
  rw [← hb2] at hk2 hk3 ⊢
  rw [← hb3] at hk3 ⊢
  have g0 := hk2.cell 0
  have g1 := hk2.cell 1
  have g2 := hk2.cell 2
  have g3 := hk2.cell 3
  have g4 := hk2.cell 4
  simp only [List.getElem?_cons_zero, List.getElem?_cons_succ] at g0 g1 g2 g3 g4
  have Hin := hid hin
  have Hat0 := hid hat0
  have Hb0 := hid hb0
  have Hk2 := hid hk2
  have Hk3 := hid hk3
  clear hwa hb2 hb3 hin hat0 hb0 hk2 hk3
  go_wp2_with (first
    | (go_at_call 55; refine (sound_calls _ G gn gt gp cn ct cp Hin.out.g.n Hin.out.g.t Hin.out.g.p Hin.out.g.h1 Hin.out.g.h2 Hin.out.g.h3 Hin.out.g.h4).mono ?_; rintro e w1 ⟨rfl, hb1⟩; rw [Hs.out]; have d0 := (Hk2.out.below hb1 Hk2.out.lt).cell 0; have d1 := (Hk2.out.below hb1 Hk2.out.lt).cell 1; have d2 := (Hk2.out.below hb1 Hk2.out.lt).cell 2; have d3 := (Hk2.out.below hb1 Hk2.out.lt).cell 3; have d4 := (Hk2.out.below hb1 Hk2.out.lt).cell 4; have y0 := (Hk3.out.below hb1 Hk3.out.lt).cell 0; have y1 := (Hk3.out.below hb1 Hk3.out.lt).cell 1; simp only [List.getElem?_cons_zero, List.getElem?_cons_succ] at d0 d1 d2 d3 d4 y0 y1; have Hat1 := hid ((Hat0.out.below hb1 (fun _ h => h)).mono (D' := fun x => x < w1.heap.size) (fun k hk => Nat.lt_of_lt_of_le hk hb1.size)); have Hb1 := hid hb1; clear hb1)
    | (go_at_call 59; refine (check_calls _ _ p kids gk ck (Hin.out.later Hb1.out) rfl Hn.out Hat1.out).mono ?_; rintro e w2 ⟨rfl, hb2⟩))
  go_ret
  exact ⟨rfl, belw Hb0.out (belw Hb1.out hb2)⟩
/-- A derivation is checked. -/
theorem Fo.Dv.chk {G : Gr} (hs : Pl.soundB G = true) : ∀ {f : Fo} {xs : List Int}, Fo.Dv G.prods f xs → (∀ s ∈ xs, -(G.terms.length : Int) ≤ s) → f.len = xs.length ∧ Tr.chkF G xs f = true
  | .nil, xs, h, _ => by
    unfold Fo.Dv at h
    subst h
    exact ⟨rfl, rfl⟩
  | .cons p k r, xs, h, hx => by
    unfold Fo.Dv at h
    obtain ⟨s, ys, rfl, h1, h2⟩ := h
    have hsn := sndG hs
    obtain ⟨hr1, hr2⟩ := Fo.Dv.chk hs h2 (fun s hs => hx s (List.mem_cons_of_mem _ hs))
    have hsx := hx s (List.mem_cons_self ..)
    refine ⟨by rw [Fo.len, hr1, List.length_cons], ?_⟩
    rw [Tr.chkF, hr2, Bool.and_true]
    rcases h1 with ⟨h0, rfl, rfl⟩ | ⟨h0, q, R, rfl, hq, hk⟩
    · have e1 : Tr.thereB G p = true := by simp [Tr.thereB]; omega
      have e2 : Tr.rightS G p = [] := by unfold Tr.rightS; rw [if_pos h0]
      have e3 : Tr.rootS G p = p := by unfold Tr.rootS; rw [if_pos h0]
      rw [e1, e2, e3]
      simp [Fo.len, Tr.chkF]
    · have hql := (List.getElem?_eq_some_iff.1 hq).1
      have e1 : Tr.thereB G (q : Int) = true := by simp [Tr.thereB]; omega
      have e2 : Tr.rightS G (q : Int) = R := by unfold Tr.rightS; rw [if_neg (by omega), Int.toNat_natCast, List.getD, hq]; rfl
      have e3 : Tr.rootS G (q : Int) = s := by unfold Tr.rootS; rw [if_neg (by omega), Int.toNat_natCast, List.getD, hq]; rfl
      obtain ⟨hk1, hk2⟩ := Fo.Dv.chk hs hk (fun s' hs' => hsn.r0 _ (List.mem_of_getElem? hq) s' hs')
      rw [e1, e2, e3, hk2, hk1]
      simp
end Go.Proofs.Ytbpgolmbielpgaa
