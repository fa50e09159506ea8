/- Chapter 6 (format): format.Text: walk. -/
import Derived.Test.YtjaampgpihicmaaFmt3
import Derived.Test.YtjaampgpihicmaaSyn18
namespace Go.Proofs.Ytjaampgpihicmaa
open Go.RowKit
attribute [local go_sem ↓] Go.wp_at_zero Go.wp_at_succ
attribute [local go_sem] frozen_alloc_lt
open Syn (Nd Nod)
open Fmt (bytesG en sg Gl textG ruleG headG startG firstN bytesG_app bytesG_cons)

set_option maxHeartbeats 4000000 in
set_option maxRecDepth 8000 in
theorem text_no {M : Nat} (hM : M ≤ 1000000000) (w : World) (x : List UInt8 × List (List UInt8 × Nod)) (ga : Option Addr) (ca : Nat) (ha : RulesIn w ga x.2) (hst : x.1.length ≤ 1000000) (hla : x.2.length ≤ 1000000000) (hfa : ∀ z ∈ x.2, z.2.fits M) (hsa : ∀ z ∈ x.2, Syn.shortR z) (hp : Syn.properG x = false) :
    Calls Try.prog 38 #[.agg #[.string ⟨x.1.toArray⟩, .slice ga x.2.length ca]] w fun e w' => e = .returned (.tuple #[.string ⟨#[]⟩, .int .i64 1]) ∧ Below w.heap.size w w' := by
  have hbel := bel_new w (.cells #[.string ⟨x.1.toArray⟩, .slice ga x.2.length ca] 25)
  have hcall := properG_calls hM _ x ga ca (ha.later hbel) hst hla hfa hsa
  rw [hp] at hcall
  obtain ⟨L, hL⟩ : ∃ L, L = x.2.length := ⟨_, rfl⟩
  obtain ⟨sv, hsv⟩ : ∃ sv : ByteArray, sv = ⟨x.1.toArray⟩ := ⟨_, rfl⟩
  rw [← hL, ← hsv] at hcall hbel ⊢
  have Hbel := hid hbel
  have Hcall := hid hcall
  clear hbel hcall hL hsv ha hst hla hfa hsa hp
  go_enter Try.func38, Try.ntmps38
  go_wp2_with (go_at_call 19; refine Hcall.out.mono ?_; rintro e w2 ⟨rfl, hb2⟩)
  go_ret2
  exact ⟨rfl, bel_trans Hbel.out hb2⟩

theorem bytes_rule (z : List UInt8 × Nod) : bytesG (ruleG z) = (z.1 ++ [58, 32]) ++ (bytesG (en z.2).put ++ [59, 10]) := by
  unfold ruleG
  rw [bytesG_cons, bytesG_cons, bytesG_cons, bytesG_app]
  simp [bytesG, Gl.bytes, sg, Lex.shape]
set_option maxHeartbeats 4000000 in
set_option maxRecDepth 8000 in
theorem text_yes {M : Nat} (hM : M ≤ 1000000000) (w : World) (x : List UInt8 × List (List UInt8 × Nod)) (ga : Option Addr) (ca : Nat) (ha : RulesIn w ga x.2) (hst : x.1.length ≤ 1000000) (hla : x.2.length ≤ 1000000) (hfa : ∀ z ∈ x.2, z.2.fits M) (hsa : ∀ z ∈ x.2, Syn.shortR z) (hp : Syn.properG x = true) (hn : ∀ z ∈ x.2, z.2.row.nodes ≤ 1000000) (hlen : (bytesG (textG x.1 x.2)).length ≤ 100000000000000) :
    Calls Try.prog 38 #[.agg #[.string ⟨x.1.toArray⟩, .slice ga x.2.length ca]] w fun e w' => e = .returned (.tuple #[.string ⟨(bytesG (textG x.1 x.2)).toArray⟩, .int .i64 0]) ∧ Below w.heap.size w w' := by
  have hbel := bel_new w (.cells #[.string ⟨x.1.toArray⟩, .slice ga x.2.length ca] 25)
  have hbk := Bk.new w 25 [.string ⟨x.1.toArray⟩, .slice ga x.2.length ca]
  have hcall := properG_calls hM _ x ga ca (ha.later hbel) hst (by omega) hfa hsa
  rw [hp] at hcall
  have hpos : 0 < x.2.length := by
    unfold Syn.properG at hp
    simp only [Bool.and_eq_true, decide_eq_true_eq] at hp
    exact hp.1.2
  have hsix : ∀ z ∈ x.2, Six z.2 := fun z hz => by
    unfold Syn.properG at hp
    simp only [Bool.and_eq_true, List.all_eq_true] at hp
    have h := hp.2 z hz
    unfold Syn.properR at h
    simp only [Bool.and_eq_true] at h
    exact (six_all z.2.row (by rw [Syn.Nod.row_proper]; exact h.2) (hn z hz)).1
  obtain ⟨L, hL⟩ : ∃ L, L = x.2.length := ⟨_, rfl⟩
  obtain ⟨sv, hsv⟩ : ∃ sv : ByteArray, sv = ⟨x.1.toArray⟩ := ⟨_, rfl⟩
  obtain ⟨out, hout⟩ : ∃ out, out = bytesG (textG x.1 x.2) := ⟨_, rfl⟩
  rw [← hL, ← hsv] at hcall hbel hbk ⊢
  rw [← hout] at hlen ⊢
  obtain ⟨w0, hw0⟩ : ∃ w0, w0 = w.alloc (.cells #[.string sv, .slice ga L ca] 25) := ⟨_, rfl⟩
  have Hw0 := hid hw0
  rw [← hw0] at hbk hcall hbel
  have Hbel := hid hbel
  have Hcall := hid hcall
  have Hbk := hid hbk
  have H := hid (And.intro hL (And.intro hsv (And.intro hout (And.intro (ha.later (show Below w.heap.size w w0 from hbel)) (And.intro hsix (And.intro hlen (And.intro hpos (And.intro hsa (And.intro hla hst)))))))))
  clear hbel hcall hbk hL hsv ha hla hfa hsa hp hn hlen hsix hpos hst hout hw0
  go_enter Try.func38, Try.ntmps38
  go_upto_region 1 with fail
  rw [← Hw0.out]
  obtain ⟨q, hq⟩ : ∃ q, q = w.heap.size := ⟨_, rfl⟩
  have Hq := hid hq
  rw [← hq] at Hbk ⊢
  clear hq
  have c0 := Hbk.out.cell 0
  have c1 := Hbk.out.cell 1
  simp only [List.getElem?_cons_zero, List.getElem?_cons_succ] at c0 c1
  go_upto_region 3 with (go_at_call 19; refine Hcall.out.mono ?_; rintro e w1 ⟨rfl, hb1⟩)
  have hr1 := H.out.2.2.2.1.later hb1
  have hbk1 := Hbk.out.below hb1 Hbk.out.lt
  have H1 := hid (And.intro hr1 (And.intro hbk1 hb1))
  clear hr1 hbk1 hb1 c0 c1
  go_upto_region 4 with fail
  have hb2 := bel_new w1 (.cells #[.pointer none, .slice none 0 0] 140)
  have hwr := WrIs.new w1
  obtain ⟨w2, hw2⟩ : ∃ w2, w2 = w1.alloc (.cells #[.pointer none, .slice none 0 0] 140) := ⟨_, rfl⟩
  obtain ⟨b, hb⟩ : ∃ b, b = w1.heap.size := ⟨_, rfl⟩
  have hbk2 := H1.out.2.1.below hb2 H1.out.2.1.lt
  have hr2 : RulesM w2 (fun k => k < w1.heap.size) ga x.2 := by rw [hw2]; exact RulesM.kp H1.out.1 (below_kp hb2) (fun _ _ e => e)
  rw [← hw2] at hwr hb2 hbk2 ⊢
  rw [← hb] at hwr hb2 hr2 ⊢
  obtain ⟨y, hy⟩ : ∃ y, x.2[0]? = some y := ⟨_, List.getElem?_eq_getElem H.out.2.2.2.2.2.2.1⟩
  obtain ⟨g, off, gk, ck, hga, hg, a0, -⟩ := hr2 0 y hy
  have Hrr := hid hr2
  subst hga
  rw [Nat.zero_mul, Nat.add_zero] at a0
  obtain ⟨nv, hnv⟩ : ∃ nv : ByteArray, nv = ⟨y.1.toArray⟩ := ⟨_, rfl⟩
  rw [← hnv] at a0
  have hfirst : firstN x.2 = y.1 := by
    unfold firstN
    rw [List.head?_eq_getElem?, hy]
    rfl
  have c0 := hbk2.cell 0
  have c1 := hbk2.cell 1
  simp only [List.getElem?_cons_zero, List.getElem?_cons_succ] at c0 c1
  have hL0 : (0 : Int) < (L : Int) := by have := H.out.1; have := H.out.2.2.2.2.2.2.1; omega
  have H2 := hid (And.intro hwr (And.intro hb2 (And.intro hbk2 (And.intro hw2 (And.intro hb (And.intro hfirst (And.intro hy hnv)))))))
  clear hwr hb2 hbk2 hr2 hw2 hb hfirst hy hnv hg
  obtain ⟨c, hc⟩ : ∃ c, (!sv.toList == nv.toList) = c := ⟨_, rfl⟩
  have hcs : c = decide (x.1 ≠ firstN x.2) := by
    rw [← hc, H.out.2.1, H2.out.2.2.2.2.2.2.2, H2.out.2.2.2.2.2.1, Lib.toList_data, Lib.toList_data]
    by_cases h : x.1 = y.1 <;> simp [h]
  have Hc := hid hcs
  clear hcs
  go_region
  go_upto_if 17 with fail
  go_cut [] from 17 to 23 (fun wx => Wrote b b (bytesG (headG x.1 x.2)) w2 wx)
  case first =>
    cases c with
    | false =>
      have hx : x.1 = firstN x.2 := by have := Hc.out; simpa using this
      have he : bytesG (headG x.1 x.2) = [] := by unfold headG; rw [if_pos hx]; rfl
      have He := hid he
      clear hx he hc
      go_wp2_with fail
      go_meet
      rw [He.out]
      exact ⟨H2.out.1.below (below_drewN (Below.refl _ _) 1), below_drewN (Below.refl _ _) 1, (WrKp.refl b w2).drew⟩
    | true =>
      have hx : x.1 ≠ firstN x.2 := by have := Hc.out; simpa using this
      have he : bytesG (headG x.1 x.2) = [37] ++ x.1 ++ [59, 10] := by unfold headG; rw [if_neg hx]; simp [startG, bytesG, Gl.bytes, sg, Lex.shape]
      have hss : sv.size ≤ 1000000 := by rw [H.out.2.1, Lib.size_eq]; exact H.out.2.2.2.2.2.2.2.2.2
      obtain ⟨s1, hs1⟩ : ∃ s1 : ByteArray, s1 = ((⟨#[37]⟩ : ByteArray) ++ sv) ++ (⟨#[59, 10]⟩ : ByteArray) := ⟨_, rfl⟩
      have hs2 : s1 = ⟨([37] ++ x.1 ++ [59, 10]).toArray⟩ := by rw [hs1, H.out.2.1]; apply ByteArray.ext; simp
      have hcall := wrString_calls b b [] ([37] ++ x.1 ++ [59, 10]) w2.drew (H2.out.1.below (below_drewN (Below.refl _ _) 1)) (by have := H.out.2.2.2.2.2.2.2.2.2; simp; omega) (Nat.le_of_lt H2.out.1.lt)
      rw [← hs2, hs1] at hcall
      have Hcall2 := hid hcall
      have He := hid he
      clear hx he hc hs1 hs2 hcall
      go_wp2_with (go_at_call 82; refine Hcall2.out.mono ?_; rintro e w3 ⟨rfl, hw3⟩)
      go_meet
      rw [He.out]
      exact hw3.first (below_drewN (Below.refl _ _) 1) (WrKp.refl b w2).drew
  case rest =>
    have hk := H2.out.2.2.1.wrt hcut.2.2 (by rw [H2.out.2.2.2.2.1]; have h1 := H1.out.2.1.lt; omega) (by decide)
    have c0 := hk.cell 0
    have c1 := hk.cell 1
    simp only [List.getElem?_cons_zero, List.getElem?_cons_succ] at c0 c1
    have Hcut := hid hcut
    clear hcut hk hc a0
    have hL6 : (L : Int) ≤ 1000000 := by have := H.out.1; have := H.out.2.2.2.2.2.2.2.2.1; omega
    go_upto_region 7 with fail
    go_loopg [27] L (fun k v27 wr => ∃ (i : Nat) (m : List UInt8), v27 = .int .i64 i ∧ i ≤ L ∧ k = L - i ∧ m ++ bytesG ((x.2.drop i).flatMap ruleG) = out ∧ Wrote b b m w2 wr)
    case atStart => exact ⟨0, _, rfl, Nat.zero_le _, rfl, by rw [List.drop_zero, H.out.2.2.1]; unfold textG; rw [bytesG_app], Hcut.out⟩
    case round =>
      obtain ⟨i, m, rfl, hi, hk, hm, hwr⟩ := hrel
      have Hk := hid hk
      have Hi := hid hi
      have Hm := hid hm
      have Hwr := hid hwr
      clear hk hi hm hwr c0 c1 hL0
      rcases Nat.lt_or_ge i L with hlt | hge
      · have hltL : (i : Int) < (L : Int) := by omega
        have hi0 : (0 : Int) ≤ (i : Int) := by omega
        obtain ⟨z, hz⟩ : ∃ z, x.2[i]? = some z := ⟨_, List.getElem?_eq_getElem (by rw [← H.out.1]; exact hlt)⟩
        have hzm : z ∈ x.2 := List.mem_of_getElem? hz
        obtain ⟨g1, o1, gz, cz, hga, hg1, a0, a1, a2, a3, hkm⟩ := Hrr.out i z hz
        injection hga with hga
        injection hga with e1 e2
        subst e1 e2
        have hgb : g < b := hg1
        have hgw : g < wr.heap.size := Nat.lt_of_lt_of_le hgb (Nat.le_of_lt Hwr.out.1.lt)
        have d0 := (Hwr.out.2.1.cell (p := ⟨g, _, none⟩) hgb).trans a0
        have d1 := (Hwr.out.2.1.cell (p := ⟨g, _, none⟩) hgb).trans a1
        have d2 := (Hwr.out.2.1.cell (p := ⟨g, _, none⟩) hgb).trans a2
        have d3 := (Hwr.out.2.1.cell (p := ⟨g, _, none⟩) hgb).trans a3
        obtain ⟨zv, hzv⟩ : ∃ zv : ByteArray, zv = ⟨z.1.toArray⟩ := ⟨_, rfl⟩
        obtain ⟨ka, hka⟩ : ∃ ka : Int, ka = z.2.kind := ⟨_, rfl⟩
        obtain ⟨ta, hta⟩ : ∃ ta : ByteArray, ta = ⟨z.2.text.toArray⟩ := ⟨_, rfl⟩
        obtain ⟨K, hK⟩ : ∃ K, K = z.2.kids.len := ⟨_, rfl⟩
        have hzs : zv.size ≤ 1000000 := by rw [hzv, Lib.size_eq]; exact (H.out.2.2.2.2.2.2.2.1 z hzm).1
        have hnv : nodeV z.2 gz cz = .agg #[.int .i64 ka, .string ta, .slice gz K cz] := by unfold nodeV; rw [hka, hta, hK]
        rw [← hzv] at d0
        rw [← hka] at d1
        rw [← hta] at d2
        rw [← hK] at d3
        have hy : m ++ (z.1 ++ [58, 32]) ++ bytesG (en z.2).put ++ [59, 10] ++ bytesG ((x.2.drop (i + 1)).flatMap ruleG) = out := by
          rw [← Hm.out, show x.2.drop i = z :: x.2.drop (i + 1) from by rw [List.drop_eq_getElem_cons (by rw [← H.out.1]; exact hlt)]; congr 1; exact (List.getElem?_eq_some_iff.1 hz).2, List.flatMap_cons, bytesG_app, bytes_rule]
          simp only [List.append_assoc]
        have hl3 : m.length + (z.1 ++ [58, 32]).length + (bytesG (en z.2).put).length + 2 ≤ 100000000000000 := by
          have h := congrArg List.length hy
          have := H.out.2.2.2.2.2.1
          simp only [List.length_append, List.length_cons, List.length_nil] at h ⊢
          omega
        have Hy := hid hy
        have Hl3 := hid hl3
        have Hsz := hid (H.out.2.2.2.2.1 z hzm).1
        have Hkm := hid hkm
        have Hnv := hid hnv
        have hcat : zv ++ (⟨#[58, 32]⟩ : ByteArray) = ⟨(z.1 ++ [58, 32]).toArray⟩ := by rw [hzv]; apply ByteArray.ext; simp
        have hbk := Bk.new wr 51 [.string zv, .int .i64 ka, .string ta, .slice gz K cz]
        have hb1 : Below wr.heap.size wr (wr.alloc (.cells #[.string zv, .int .i64 ka, .string ta, .slice gz K cz] 51)) := (Below.refl _ _).alloc (Nat.le_refl _) _
        have hyb : wr.heap.size ≠ b := by have := Hwr.out.1.lt; omega
        have hm1 := hid (And.intro hz hlt)
        clear a0 a1 a2 a3 hkm hka hta hK hnv hzv hy hl3 hz hzm hg1 hgb hlt
        go_upto_region 9 with fail
        obtain ⟨w3, hw3e⟩ : ∃ w3, w3 = wr.alloc (.cells #[.string zv, .int .i64 ka, .string ta, .slice gz K cz] 51) := ⟨_, rfl⟩
        obtain ⟨v, hve⟩ : ∃ v, v = wr.heap.size := ⟨_, rfl⟩
        have Hw3 := hid (show Wrote b b m wr w3 from by rw [hw3e]; exact ⟨Hwr.out.1.below hb1, hb1.mono (Nat.le_of_lt Hwr.out.1.lt), WrKp.below hb1⟩)
        rw [← hw3e] at hbk ⊢
        rw [← hve] at hbk hyb ⊢
        clear hb1 hw3e d0 d1 d2 d3 hgw hve
        have f0 := hbk.cell 0
        simp only [List.getElem?_cons_zero] at f0
        have Hbk := hid hbk
        have hc1 := wrString_calls b b m (z.1 ++ [58, 32]) w3 Hw3.out.1 (by have := Hl3.out; omega) (Nat.le_of_lt Hw3.out.1.lt)
        rw [← hcat] at hc1
        have Hc1 := hid hc1
        clear hbk hc1 hcat
        go_upto_region 10 with (go_at_call 82; refine Hc1.out.mono ?_; rintro e w4 ⟨rfl, hw4⟩)
        have hbk4 := Hbk.out.wrt hw4.2.2 hyb (by decide)
        have e1 := hbk4.cell 1
        have e2 := hbk4.cell 2
        have e3 := hbk4.cell 3
        simp only [List.getElem?_cons_zero, List.getElem?_cons_succ] at e1 e2 e3
        have hput : Calls Try.prog 83 #[.pointer (some ⟨b, 0, none⟩), .agg #[.int .i64 ka, .string ta, .slice gz K cz]] w4 (WroteV b b (m ++ (z.1 ++ [58, 32]) ++ bytesG (en z.2).put) w4) := by
          have h := Hsz.out w4 gz cz b b (m ++ (z.1 ++ [58, 32])) (nd_below Hkm.out ((Hwr.out.2.1.trans Hw3.out.2.1).trans hw4.2.1)) hw4.1 (by have := Hl3.out; rw [List.length_append]; omega)
          rwa [Hnv.out] at h
        have Hput := hid hput
        have Hw4 := hid hw4
        clear hput hw4 hbk4 f0
        go_upto_region 11 with (go_at_call 83; refine Hput.out.mono ?_; rintro e w5 ⟨rfl, hw5⟩)
        have Hc2 := hid (wrString_calls b b (m ++ (z.1 ++ [58, 32]) ++ bytesG (en z.2).put) [59, 10] w5 hw5.1 (by have := Hl3.out; simp only [List.length_append, List.length_cons, List.length_nil] at this ⊢; omega) (Nat.le_of_lt hw5.1.lt))
        have Hw5 := hid hw5
        clear hw5 e1 e2 e3
        go_wp2_with (go_at_call 82; refine Hc2.out.mono ?_; rintro e w6 ⟨rfl, hw6⟩; have Hw6 := hid hw6; clear hw6)
        go_roundg (L - (i + 1))
        case measure => have hk := Hk.out; have := hm1.out.2; omega
        case rel => exact ⟨i + 1, _, by go_num, hm1.out.2, rfl, Hy.out, (((Hwr.out.trans Hw3.out).trans Hw4.out).trans Hw5.out).trans Hw6.out⟩
      · have hgeL : ¬ (i : Int) < (L : Int) := by omega
        have he : m = out := by
          have := Hm.out
          rw [List.drop_eq_nil_of_le (by rw [← H.out.1]; exact hge)] at this
          simpa [bytesG] using this
        have hs := wrText_calls b b m wr Hwr.out.1 (Nat.le_of_lt Hwr.out.1.lt)
        rw [he] at hs
        have Hs := hid hs
        clear hs he hge
        go_wp2_with (go_at_call 84; refine Hs.out.mono ?_; rintro e w4 ⟨rfl, hw4⟩)
        go_ret2
        refine ⟨rfl, ?_⟩
        have h2 := H2.out.2.1.trans (Hwr.out.2.1.trans hw4.2.1)
        rw [H2.out.2.2.2.2.1] at h2
        exact bel_trans Hbel.out (bel_trans H1.out.2.2 h2)
end Go.Proofs.Ytjaampgpihicmaa
