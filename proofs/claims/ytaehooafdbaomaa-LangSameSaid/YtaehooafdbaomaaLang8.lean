/- Chapter 10 (lang): Words: walk. -/
import Derived.Test.YtaehooafdbaomaaLang7
import Derived.Test.YtaehooafdbaomaaOwnA
namespace Go.Proofs.Ytaehooafdbaomaa
open Go.RowKit
attribute [local go_sem ↓] Go.wp_at_zero Go.wp_at_succ
attribute [local go_sem] frozen_alloc_lt

/-- A text as numbers. -/
def toI (z : List UInt8) : List Int := z.map fun b => (b.toNat : Int)
theorem toI_len (z : List UInt8) : (toI z).length = z.length := by simp [toI]
/-- A word in memory. -/
def WdR (w : World) (D : Nat → Prop) (a : List UInt8) (x : List Value) : Prop := ∃ ga ca, x = [.slice ga a.length ca] ∧ RowID w D ga (toI a)
theorem WdR.fit : FitA WdR 1 :=
  ⟨fun ⟨_, _, e, _⟩ => by rw [e]; rfl, fun hD ⟨ga, ca, e, h⟩ => ⟨ga, ca, e, h.mono hD⟩, fun hk hd ⟨ga, ca, e, h⟩ => ⟨ga, ca, e, h.kp hk hd⟩, fun ⟨_, _, e, _⟩ u hu => by rw [e] at hu; simp at hu; subst hu; rfl⟩
def WordsOk (G : Gr) (most : Nat) (w : World) (e : Ending) (w' : World) : Prop :=
  ∃ (v : Value) (ss : List (List UInt8)), e = .returned (.tuple #[v, .int .i64 0]) ∧ ss.Pairwise WLt ∧ (∀ z, z ∈ ss ↔ Lg.Der G.prods [G.start] z ∧ z.length ≤ most) ∧ ss.length ≤ 4096 ∧ OwnA WdR 1 w' w.heap.size 22 v ss
theorem own_str {w : World} {B : Nat} {v : Value} {ss : List (List UInt8)} (h : w.ownsRow B 9 1 v ss.length (ss.map encStr)) : ∃ ga cap, v = .slice ga ss.length cap ∧ ∀ i z, ss[i]? = some z → ∃ g, ga = some ⟨g, 0, none⟩ ∧ g < w.heap.size ∧ w.cell? ⟨g, i, none⟩ = some (.string ⟨z.toArray⟩) := by
  obtain ⟨ga, cap, hv, hc⟩ := own_slice h
  refine ⟨ga, cap, hv, fun i z hz => ?_⟩
  obtain ⟨g, h1, h2, h3, h4⟩ := hc i (encStr z) (by rw [List.getElem?_map, hz]; rfl)
  exact ⟨g, h1, h3, h4⟩
def WoAt (w0 : World) (B : Nat) (ss : List (List UInt8)) (k : Nat) (v8 v24 : Value) (w : World) : Prop :=
  ∃ (i : Nat) (vo : Value), vo = v8 ∧ v24 = .int .i64 i ∧ i ≤ ss.length ∧ k = ss.length - i ∧ OwnA WdR 1 w B 22 vo (ss.take i) ∧ Below w0.heap.size w0 w
def WiAt (w0 : World) (gw : Nat) (z : List UInt8) (k : Nat) (v33 : Value) (w : World) : Prop :=
  ∃ j : Nat, v33 = .int .i64 j ∧ j ≤ z.length ∧ k = z.length - j ∧ Bk w gw 3 (((toI z).take j ++ List.replicate (z.length - j) 0).map (Value.int .i64)) ∧ Kp (fun k => k = gw) w0 w
set_option maxHeartbeats 8000000 in
set_option maxRecDepth 8000 in
theorem words_calls (w : World) (G : Gr) (gn gt gp : Option Addr) (cn ct cp : Nat) (most : Nat) (hm : most ≤ 64) (hs : Pl.soundB G = true) (hg : GIn w G gn gt gp) (hc : CapP w gp G.prods) :
    Calls Try.prog 53 #[.agg #[.int .i64 G.start, .int .i64 G.rules, .slice gn G.names.length cn, .slice gt G.terms.length ct, .slice gp G.prods.length cp], .int .i64 (most : Int)] w fun e w' => (WordsOk G most w e w' ∨ AllLong G most e) ∧ Below w.heap.size w w' := by
  obtain ⟨i3, hi3, z0, z1, z2⟩ := info_parts intInfo
  obtain ⟨i4, hi4, y0, y1, y2⟩ := info_parts (show (Try.prog.info? 22).map (fun i => (i.zero, i.size, i.bytes)) = some (some (.slice none 0 0), 1, 24) by kernel_rfl)
  have hk1 := Bk.new w 30 [.int .i64 G.start, .int .i64 G.rules, .slice gn G.names.length cn, .slice gt G.terms.length ct, .slice gp G.prods.length cp]
  have hb1 : Below w.heap.size w (w.alloc (.cells #[.int .i64 G.start, .int .i64 G.rules, .slice gn G.names.length cn, .slice gt G.terms.length ct, .slice gp G.prods.length cp] 30)) := bel_al (bel_id w) _
  obtain ⟨w1, hw1⟩ : ∃ w1, w1 = w.alloc (.cells #[.int .i64 G.start, .int .i64 G.rules, .slice gn G.names.length cn, .slice gt G.terms.length ct, .slice gp G.prods.length cp] 30) := ⟨_, rfl⟩
  obtain ⟨b2, hb2⟩ : ∃ b2, b2 = w.heap.size := ⟨_, rfl⟩
  rw [← hw1] at hk1 hb1
  rw [← hb2] at hk1
  have x0 := hk1.cell 0
  have x1 := hk1.cell 1
  have x2 := hk1.cell 2
  have x3 := hk1.cell 3
  have x4 := hk1.cell 4
  simp only [List.getElem?_cons_zero, List.getElem?_cons_succ] at x0 x1 x2 x3 x4
  have hall := all_calls w1 G gn gt gp cn ct cp most hm hs (hg.later hb1) (hc.later hb1)
  have Hm := hid hm
  have Hall := hid hall
  have Hw1 := hid (And.intro hw1 hb2)
  have Hb1 := hid hb1
  clear hk1 hb1 hw1 hb2 hall hg hc hs hm
  go_enter Try.func53, Try.ntmps53
  go_upto_region 1 with fail
  rw [← Hw1.out.1, ← Hw1.out.2]
  go_upto_region 2 with (go_at_call 95; refine Hall.out.mono ?_; rintro e w2 ⟨hcase, hb2⟩; rcases hcase with ⟨v, ss, rfl, hp, hmem, hlen, hown⟩ | ⟨rfl, hlong⟩)
  · have hbw2 : Below w.heap.size w w2 := Hb1.out.trans (hb2.mono Hb1.out.size)
    obtain ⟨gs, cs, rfl, hcs⟩ := own_str hown
    have Hcs := hid hcs
    have Hbw2 := hid hbw2
    have Hp := hid (And.intro hp hmem)
    have hsm : ∀ z ∈ ss, z.length ≤ 64 := fun z hz => by have := ((hmem z).1 hz).2; have := Hm.out; omega
    have Hsm := hid hsm
    clear hbw2 hcs hown hb2 x0 x1 x2 x3 x4 hp hmem hsm
    go_wp2_with fail
    go_loopg [8, 24] ss.length (fun k v8 v24 wr => WoAt w2 w2.heap.size ss k v8 v24 wr)
    case atStart => exact ⟨0, _, rfl, rfl, Nat.zero_le _, rfl, OwnA.nil _ _ _ _ _, Below.refl _ _⟩
    case round =>
      obtain ⟨i, vo, rfl, rfl, hi, hk, hout, hbr⟩ := hrel
      have Hk := hid hk
      have Hout := hid hout
      have Hbr := hid hbr
      by_cases hlt : i < ss.length
      · obtain ⟨z, hze⟩ : ∃ z, z = ss[i] := ⟨_, rfl⟩
        have hz : ss[i]? = some z := by rw [hze]; exact List.getElem?_eq_getElem hlt
        obtain ⟨g, rfl, hgl, hcz⟩ := Hcs.out i z hz
        have hcz := (hbr.cell (p := ⟨g, _, none⟩) hgl).trans hcz
        have hz64 := Hsm.out z (List.mem_of_getElem? hz)
        have hlt' : (i : Int) < (ss.length : Int) := by omega
        have hi0 : (0 : Int) ≤ (i : Int) := by omega
        obtain ⟨A, hA⟩ : ∃ A : ByteArray, A = ⟨z.toArray⟩ := ⟨_, rfl⟩
        have hsA : A.size = z.length := by rw [hA]; rfl
        rw [← hA] at hcz
        obtain ⟨n, hn⟩ : ∃ n, n = z.length := ⟨_, rfl⟩
        rw [← hn] at hsA hz64
        have HA := hid (And.intro hA hn)
        have Hz := hid hz
        have Hlt := hid hlt
        have hn64 : (n : Int) ≤ 64 := by omega
        obtain ⟨wo, rfl⟩ : ∃ wo : World, wo = wr := ⟨_, rfl⟩
        clear hk hout hbr hz hze hA hn hgl hlt
        go_upto_region 9 with (at_make; refine wpList_make_bk _ rfl _ _ _ rfl 3 i3 _ Try.underlying22 hi3 z0 z1 rfl _ _ n rfl rfl rfl rfl (by rw [z2]; omega) (by omega) ?_; intro w3 hba hk3)
        have hb3 : Below wo.heap.size wo w3 := hk3.to_below (Nat.le_refl _) (fun k hk => hk.elim)
        obtain ⟨gw, hgw⟩ : ∃ gw, gw = wo.heap.size := ⟨_, rfl⟩
        rw [← hgw] at hba ⊢
        have hba3 : Bk w3 gw 3 (((toI z).take 0 ++ List.replicate (z.length - 0) 0).map (Value.int .i64)) := hba.of (by rw [HA.out.2]; simp)
        have Hb3 := hid hb3
        have Hgw := hid hgw
        have Hba3 := hid hba3
        clear hba hk3 hb3 hgw hba3 hcz
        go_wp2_with fail
        go_loopg [33] n (fun k v33 wr => WiAt w3 gw z k v33 wr)
        case atStart => exact ⟨0, rfl, Nat.zero_le _, HA.out.2, Hba3.out, Kp.refl _ _⟩
        case round =>
          obtain ⟨j, rfl, hj, hk, hb, hbj⟩ := hrel
          have HkJ := hid hk
          have Hbj := hid hbj
          have Hbk := hid hb
          by_cases hlj : j < n
          · have hlj' : (j : Int) < (n : Int) := by omega
            have hj0 : (0 : Int) ≤ (j : Int) := by omega
            have cv := hb.cell j
            have fv := hb.free j
            have hjz : j < z.length := by rw [← HA.out.2]; exact hlj
            have cv0 : wr.cell? ⟨gw, j, none⟩ = some (.int .i64 0) := by
              rw [cv, List.getElem?_map, List.getElem?_append_right (by simp [toI_len]; omega), List.length_take, toI_len, List.getElem?_replicate, if_pos (by omega)]
              rfl
            have hjA : j < A.size := by omega
            obtain ⟨c, hc⟩ : ∃ c : Nat, c = z[j].toNat := ⟨_, rfl⟩
            have hc256 : c < 256 := by rw [hc]; exact UInt8.toNat_lt _
            have hAc : (A[j]'hjA).toNat = c := by
              have hA := HA.out.1
              subst hA
              rw [hc]; rfl
            have hci : (c : Int) < 256 := by omega
            have hc0 : (0 : Int) ≤ (c : Int) := by omega
            have hwc : wrap64 (c : Int) = (c : Int) := by unfold wrap64; omega
            have hks : Kp (fun k => k = gw) wr (wr.setCell ⟨gw, j, none⟩ (.int .i64 (c : Int))) := (Kp.refl (fun k => k = gw) wr).set (p := ⟨gw, j, none⟩) (.inl rfl) _
            have hfin : Bk (wr.setCell ⟨gw, j, none⟩ (.int .i64 (c : Int))) gw 3 (((toI z).take (j + 1) ++ List.replicate (z.length - (j + 1)) 0).map (Value.int .i64)) := by
              refine (hb.set j (.int .i64 (c : Int))).of ?_
              rw [List.map_append, List.map_append, List.set_append_right _ _ (by simp [toI_len]; omega)]
              have h1 : ((toI z).take j).length = j := by simp [toI_len]; omega
              rw [List.length_map, h1, Nat.sub_self, show z.length - j = (z.length - (j + 1)) + 1 by omega, List.replicate_succ, List.map_cons, List.set_cons_zero, List.take_succ_eq_append_getElem (by rw [toI_len]; exact hjz), List.map_append, List.append_assoc]
              simp [toI, hc]
            have hbj2 := hbj.trans hks
            have Hfin := hid (And.intro hfin hbj2)
            have Hlj := hid hlj
            clear hk hbj hb hlj cv hc hc256 hjz hfin hks hbj2
            go_wp2_with fail
            go_roundg (n - (j + 1))
            case measure => have := HkJ.out; have := Hlj.out; have := HA.out.2; omega
            case rel => exact ⟨j + 1, by go_num, by rw [← HA.out.2]; exact Hlj.out, by rw [HA.out.2], Hfin.out.1, Hfin.out.2⟩
          · have hge : ¬ (j : Int) < (n : Int) := by omega
            have hjl : j = z.length := by rw [← HA.out.2] at hj ⊢; omega
            have hrow : Bk wr gw 3 ((toI z).map (Value.int .i64)) := hb.of (by rw [hjl, List.take_of_length_le (by rw [toI_len]; exact Nat.le_refl _)]; simp)
            have hgw := Hgw.out
            have hbo : Below wo.heap.size wo wr := Hb3.out.trans (hbj.to_below (by have := Hb3.out.size; omega) (fun k e => by omega))
            have hbb : Below w2.heap.size w2 wr := Hbr.out.trans (hbo.mono Hbr.out.size)
            have hout := Hout.out.later WdR.fit hbo
            have hoo : ∀ k, vo.ownBlock = some k → k ≠ gw := fun k e => by have := (Hout.out.lt k e).2; omega
            have hwd : WdR wr (fun q => w2.heap.size ≤ q ∧ q < wr.heap.size ∧ vo.ownBlock ≠ some q) z [.slice (some ⟨gw, 0, none⟩) z.length n] := ⟨_, _, rfl, fun q hq => by
              refine ⟨gw, 0, .int .i64 (toI z)[q], rfl, ⟨by have := Hbr.out.size; omega, hrow.lt, fun e => hoo gw e rfl⟩, ?_, ?_⟩
              · rw [Nat.zero_add, hrow.cell q, List.getElem?_map, List.getElem?_eq_getElem hq]; rfl
              · simp [List.getD, List.getElem?_eq_getElem hq]⟩
            obtain ⟨gA, capA, wA, hrun, hownA, hkA, hgA, hlA⟩ := hout.app (P := Try.prog) WdR.fit 23 23 i4 (.slice none 0 0) 24 Try.underlying23 hi4 y0 y1 y2 rfl (by omega) (by omega) hbb.size (by rw [List.length_take]; have := Hlt.out; omega) z _ hwd 0
            have hti : (ss.take i).length = i := by rw [List.length_take]; have := Hlt.out; omega
            rw [hti, ← HA.out.2] at hrun
            have hrun' : (Builtin.append_ #[23, 23] 23 #[vo, .slice (some ⟨wr.heap.size, 0, none⟩) 1 1]).run Try.prog (wr.alloc (.cells #[.slice (some ⟨gw, 0, none⟩) n n] 22)) = .ok (.slice (some ⟨gA, 0, none⟩) (i + 1) capA) wA := hrun
            rw [hti] at hownA
            have htk : ss.take i ++ [z] = ss.take (i + 1) := by
              obtain ⟨h1, h2⟩ := List.getElem?_eq_some_iff.1 Hz.out
              rw [List.take_succ_eq_append_getElem h1, h2]
            rw [htk] at hownA
            have hbA : Below w2.heap.size w2 wA := hbb.trans (hkA.to_below hbb.size (fun k e => (hout.lt k e).1))
            have Hrun := hid hrun'
            have HownA := hid (And.intro hownA hbA)
            clear hk hbj hb hlj hj hjl hrow hgw hbo hbb hout hoo hwd hrun hownA hkA hgA hlA hti hrun' htk hbA
            go_wp2_with (at_builtin; refine wpList_append_run rfl _ _ _ rfl vo (.slice (some ⟨wr.heap.size, 0, none⟩) 1 1) (.slice (some ⟨gA, 0, none⟩) (i + 1) capA) wA (by rfl) (by rfl) (by exact Hrun.out) ?_)
            go_roundg (ss.length - (i + 1))
            case measure => have := Hk.out; have := Hlt.out; omega
            case rel => exact ⟨i + 1, _, rfl, by go_num, Hlt.out, rfl, HownA.out.1, HownA.out.2⟩
      · have hge : ¬ (i : Int) < (ss.length : Int) := by omega
        have hil : i = ss.length := by omega
        subst hil
        rw [List.take_length] at hout
        have Hout2 := hid hout
        clear hk hout hbr hlt hi
        go_wp2_with fail
        go_ret2
        refine ⟨.inl ⟨_, ss, rfl, Hp.out.1, Hp.out.2, hlen, ?_⟩, Hbw2.out.trans (Hbr.out.mono Hbw2.out.size)⟩
        obtain ⟨xs, h1, h2⟩ := Hout2.out
        exact ⟨xs, own_mono h1 Hbw2.out.size, h2.mono WdR.fit (fun k hk => ⟨Nat.le_trans Hbw2.out.size hk.1, hk.2⟩)⟩
  · have hbw2 : Below w.heap.size w w2 := Hb1.out.trans (hb2.mono Hb1.out.size)
    have Hbw2 := hid (And.intro hbw2 hlong)
    clear hbw2 hlong hb2 x0 x1 x2 x3 x4
    go_wp2_with fail
    go_ret2
    exact ⟨.inr ⟨rfl, Hbw2.out.2⟩, Hbw2.out.1⟩
end Go.Proofs.Ytaehooafdbaomaa
