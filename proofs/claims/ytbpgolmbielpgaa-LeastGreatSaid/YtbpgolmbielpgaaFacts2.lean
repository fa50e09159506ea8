/- Chapter 9 (facts): uses; the closure add. -/
import Derived.Test.YtbpgolmbielpgaaFacts1
namespace Go.Proofs.Ytbpgolmbielpgaa
open Go.RowKit
attribute [local go_sem ↓] Go.wp_at_zero Go.wp_at_succ
attribute [local go_sem] frozen_alloc_lt

def UsesAt (wd : World) (b bo n : Nat) (ps : List (Int × List Int)) (res : List (List Int)) (k : Nat) (v15 : Value) (w : World) : Prop :=
  ∃ (i : Nat) (ls : List (List Int)) (vs : List Value), v15 = .int .i64 i ∧ i ≤ ps.length ∧ ls.length = n ∧ OwnII w (bo + 1) 3 bo 23 ls vs ∧ Facts.usesS ls i (ps.drop i) = res ∧
    (∀ l ∈ ls, l.length ≤ 16 * i) ∧ k = ps.length - i ∧ Below (b + 1) wd w
def UsesIn (wd : World) (b bo n : Nat) (ps : List (Int × List Int)) (r : List Int) (i : Nat) (res : List (List Int)) (k : Nat) (v23 : Value) (w : World) : Prop :=
  ∃ (j : Nat) (ls : List (List Int)) (vs : List Value), v23 = .int .i64 j ∧ j ≤ r.length ∧ ls.length = n ∧ OwnII w (bo + 1) 3 bo 23 ls vs ∧
    Facts.usesS (Facts.rowU ls i (r.drop j)) (i + 1) (ps.drop (i + 1)) = res ∧ (∀ l ∈ ls, l.length ≤ 16 * i + j) ∧ k = r.length - j ∧ Below (b + 1) wd w

/-- A row of rows in new blocks. -/
def IIPost (w : World) (n : Nat) (ls : List (List Int)) (e : Ending) (w' : World) : Prop :=
  ∃ (g cap : Nat), e = .returned (.slice (some ⟨g, 0, none⟩) n cap) ∧ RowIID w' (fun k => w.heap.size ≤ k ∧ k < w'.heap.size) (some ⟨g, 0, none⟩) ls ∧ Below w.heap.size w w'

theorem mem_set_len {ls : List (List Int)} {a : Nat} {l' : List Int} {m : Nat} (h : ∀ l ∈ ls, l.length ≤ m) (hl : l'.length ≤ m + 1) : ∀ l ∈ ls.set a l', l.length ≤ m + 1 := by
  intro l hl'
  rcases List.mem_or_eq_of_mem_set hl' with h1 | h1
  · have := h l h1; omega
  · rw [h1]; exact hl

set_option maxHeartbeats 4000000 in
set_option maxRecDepth 8000 in
theorem uses_calls (w : World) (G : Gr) (gn gt gp : Option Addr) (cn ct cp : Nat) (hp : RowP w w.heap.size gp G.prods) (hs : SndG G) :
    Calls Try.prog 78 #[.agg #[.int .i64 G.start, .int .i64 G.rules, .slice gn G.names.length cn, .slice gt G.terms.length ct, .slice gp G.prods.length cp]] w fun e w' =>
      IIPost w G.names.length (Facts.usesS (List.replicate G.names.length []) 0 G.prods) e w' := by
  generalize hres : Facts.usesS (List.replicate G.names.length []) 0 G.prods = res
  have Hres := hid hres
  have Hs := hid hs
  clear hres
  obtain ⟨i2, hi2, y0, y1, y2⟩ := info_parts intsInfo
  obtain ⟨i3, hi3, z0, z1, z2⟩ := info_parts intInfo
  obtain ⟨hn0, hn1, ht1, hp1, -, -, -, -, -, -, -⟩ := hs
  obtain ⟨st, ru, ns, ts, ps⟩ := G
  simp only at *
  have hb0 : Below w.heap.size w (w.alloc (.cells #[.int .i64 st, .int .i64 ru, .slice gn ns.length cn, .slice gt ts.length ct, .slice gp ps.length cp] 41)) := (Below.refl _ _).alloc (Nat.le_refl _) _
  have hp0 := hp.below hb0
  have hbk : Bk (w.alloc (.cells #[.int .i64 st, .int .i64 ru, .slice gn ns.length cn, .slice gt ts.length ct, .slice gp ps.length cp] 41)) w.heap.size 41 [.int .i64 st, .int .i64 ru, .slice gn ns.length cn, .slice gt ts.length ct, .slice gp ps.length cp] := Bk.new w _ _
  go_enter Try.func78, Try.ntmps78
  go_upto_region 1 with (fail)
  obtain ⟨wd, hwd⟩ : ∃ wd, wd = (w.alloc (.cells #[.int .i64 st, .int .i64 ru, .slice gn ns.length cn, .slice gt ts.length ct, .slice gp ps.length cp] 41)) := ⟨_, rfl⟩
  obtain ⟨b, hbb⟩ : ∃ b, b = w.heap.size := ⟨_, rfl⟩
  have hzd : wd.heap.size = b + 1 := by rw [hwd, hbb]; simp
  rw [← hwd] at hb0 hp0 hbk ⊢
  rw [← hbb] at hbk hp0 ⊢
  have Hbb := hid hbb
  have Hzd := hid hzd
  clear hwd hbb hzd hp
  have g2 := hbk.cell 2
  have g4 := hbk.cell 4
  simp only [List.getElem?_cons_zero, List.getElem?_cons_succ] at g2 g4
  go_upto_region 2 with (at_make; refine wpList_make_bk _ rfl _ _ _ rfl 23 i2 _ Try.underlying52 hi2 y0 y1 rfl _ _ ns.length rfl rfl rfl rfl (by rw [y2]; omega) (by omega) ?_; intro w1 hbo hk1)
  have hb1 : Below (b + 1) wd w1 := hk1.to_below (by rw [Hzd.out]; omega) (fun k hk => hk.elim)
  have hbo' : b + 1 ≤ wd.heap.size := by rw [Hzd.out]; omega
  obtain ⟨bo, hboe⟩ : ∃ bo, bo = wd.heap.size := ⟨_, rfl⟩
  rw [← hboe] at hbo hbo' ⊢
  clear hboe hk1
  have hown : OwnII w1 (bo + 1) 3 bo 23 _ _ := OwnII.made hbo (Nat.lt_succ_self _)
  have hbk1 := hbk.below hb1 (by omega)
  have hp1' := hp0.below (hb1.mono (by omega))
  clear hbk hbo g2 g4
  have g4 := hbk1.cell 4
  simp only [List.getElem?_cons_zero, List.getElem?_cons_succ] at g4
  go_wp2_with fail
  go_loopg [15] ps.length (fun k v15 wr => UsesAt wd b bo ns.length ps res k v15 wr)
  case atStart => exact ⟨0, _, _, rfl, by omega, by simp, hown, by rw [List.drop_zero]; exact Hres.out, fun l hl => by simp at hl; rw [hl.2]; simp, rfl, hb1⟩
  case round =>
    clear hown hb1 hbk1 hp1' g4
    obtain ⟨i, ls, vs, rfl, hi, hln, hown, hu, hle, hk, hb⟩ := hrel
    have Hk := hid hk
    have Hu := hid hu
    have Hle := hid hle
    have Hln := hid hln
    clear hk hu hle hln
    have hpr := hp0.below (hb.mono (by omega))
    by_cases hlt : i < ps.length
    · have hlt' : (i : Int) < (ps.length : Int) := by omega
      obtain ⟨x, hx⟩ : ∃ x, x = ps[i] := ⟨_, rfl⟩
      have hxm : x ∈ ps := by rw [hx]; exact List.getElem_mem hlt
      have hxi : ps[i]? = some x := by rw [hx]; exact List.getElem?_eq_getElem hlt
      have hr16 := Hs.out.r16 x hxm
      have hs0 := Hs.out.r0 x hxm
      have hs1 := Hs.out.r1 x hxm
      have hu := Hu.out
      rw [List.drop_eq_getElem_cons hlt, ← hx, Facts.usesS] at hu
      obtain ⟨l, r⟩ := x
      simp only at hu hr16 hs0 hs1
      obtain ⟨g, off, gr, cr, rfl, hg, hc0, hc1, hri⟩ := hpr i _ hxi
      simp only at hc0 hc1 hri
      have Hu := hid hu
      have Hs0 := hid hs0
      have Hs1 := hid hs1
      clear hx hxi hxm hu hs0 hs1
      go_wp2_with fail
      have hbx : Below (b + 1) wd (wr.alloc (.cells #[.int .i64 l, .slice gr r.length cr] 35)) := hb.alloc (by have := hb.size; rw [Hzd.out] at this; exact this) _
      have hown1 := hown.alloc (.cells #[.int .i64 l, .slice gr r.length cr] 35)
      have hri1 : RowI (wr.alloc (.cells #[.int .i64 l, .slice gr r.length cr] 35)) b gr r := hri.below ((Below.refl b wr).alloc (by have := hb.size; rw [Hzd.out] at this; omega) _)
      obtain ⟨wx, hwx⟩ : ∃ wx, wx = wr.alloc (.cells #[.int .i64 l, .slice gr r.length cr] 35) := ⟨_, rfl⟩
      rw [← hwx] at hbx hown1 hri1 ⊢
      clear hwx hri hown hb hc0 hc1 hpr
      obtain ⟨cx, hcx⟩ : ∃ cx, cx = wr.heap.size := ⟨_, rfl⟩
      rw [← hcx]
      clear hcx
      go_loopg [23] r.length (fun k v23 wq => UsesIn wd b bo ns.length ps r i res k v23 wq ∧ RowI wq b gr r)
      case atStart => exact ⟨⟨0, ls, vs, rfl, by omega, Hln.out, hown1, by rw [List.drop_zero]; exact Hu.out, fun l hl => by have := Hle.out l hl; omega, rfl, hbx⟩, hri1⟩
      case round =>
        clear hown1 hbx hri1 Hu Hle Hln
        obtain ⟨⟨j, ls, vs, rfl, hj, hln, hown, hu, hle, hk, hb⟩, hri⟩ := hrel
        have Hkj := hid hk
        have Hle := hid hle
        clear hk hle
        by_cases hlj : j < r.length
        · have hlj' : (j : Int) < (r.length : Int) := by omega
          obtain ⟨s, hs⟩ : ∃ s, s = r[j] := ⟨_, rfl⟩
          have hsm : s ∈ r := by rw [hs]; exact List.getElem_mem hlj
          have h0 := Hs0.out s hsm
          have h1 := Hs1.out s hsm
          obtain ⟨gr, ofr, rfl, hgr, hcr⟩ := hri.at hlj
          rw [← hs] at hcr
          rw [List.drop_eq_getElem_cons hlj, ← hs, Facts.rowU, Facts.stepU] at hu
          clear hs hsm
          by_cases hpos : 0 ≤ s
          · obtain ⟨a, rfl⟩ := Int.eq_ofNat_of_zero_le hpos
            rw [if_pos hpos, show ((a : Int)).toNat = a by simp] at hu
            have ha : a < ls.length := by omega
            have ha' : (a : Int) < (ns.length : Int) := by omega
            obtain ⟨la, hla⟩ : ∃ la, la = ls[a] := ⟨_, rfl⟩
            have hla' : ls[a]? = some la := by rw [hla]; exact List.getElem?_eq_getElem ha
            rw [show ls.getD a [] = la by simp [List.getD, hla']] at hu
            have hlen := Hle.out la (by rw [hla]; exact List.getElem_mem ha)
            obtain ⟨v, hv, hcv, hov⟩ := hown.at hla'
            have Hu := hid hu
            have Hla := hid hla'
            have Hv := hid hv
            have Hlen := hid hlen
            have hbq : b + 1 ≤ wr.heap.size := by have := hb.size; rw [Hzd.out] at this; omega
            have hfr := hown.bk.free a
            have hlt := hown.bk.lt
            have Hln := hid hln
            have hzz : bo + 1 ≤ wr.heap.size := by omega
            have hne := hown.ne hv
            clear hu hla hla' hv hln hlen
            go_wp2_with (at_builtin; refine wpList_append_one _ rfl _ _ _ rfl (bo + 1) 3 i3 _ Try.underlying23 hi3 z0 z1 (by rw [z2]; omega) rfl v la.length _ rfl (hov.alloc _) ⟨wr.heap.size, 0, none⟩ (.int .i64 i) rfl (by simp) rfl (by have := Hlen.out; omega) (by simp; omega) (wr.heap.size + 1) (by simp) ?_; intro g2 cap2 w2 hown2 hgr2 hat2 hlt2; have hbk2 := (hown.alloc (.cells #[.int .i64 i] 3)).bk.grown hgr2 hne; have hc2 := hbk2.cell a; have hf2 := hbk2.free a; rw [Hv.out] at hc2)
            have hvlt := hown.lt v (List.mem_of_getElem? Hv.out)
            have hst : Below (b + 1) wr (w2.setCell ⟨bo, a, none⟩ (.slice (some ⟨g2, 0, none⟩) (la.length + 1) cap2)) :=
              (((Below.refl _ wr).alloc hbq _).grown hgr2 (by simp; omega) (fun k hk => by have := (hvlt k hk).1; omega)).setCell (p := ⟨bo, a, none⟩) hbo' _
            go_roundg (r.length - (j + 1))
            case measure => have hk := Hkj.out; omega
            case rel =>
              exact ⟨⟨j + 1, _, _, by go_num, by omega, by rw [List.length_set]; exact Hln.out, (hown.alloc _).put Hla.out Hv.out hgr2 (by rw [List.map_append]; exact hown2) ⟨g2, rfl, by rcases hat2 with h | h; exact .inl h; exact .inr (by simp; omega)⟩,
                Hu.out, fun m hm => by have := mem_set_len (m := 16 * i + j) Hle.out (by simp; exact Hlen.out) m hm; omega, rfl, hb.trans hst⟩, hri.below (hst.mono (by omega))⟩
          · rw [if_neg hpos] at hu
            have Hu := hid hu
            have Hln := hid hln
            clear hu hln
            go_wp2_with fail
            go_roundg (r.length - (j + 1))
            case measure => have hk := Hkj.out; omega
            case rel => exact ⟨⟨j + 1, _, _, by go_num, by omega, Hln.out, hown, Hu.out, fun m hm => by have := Hle.out m hm; omega, rfl, hb⟩, hri⟩
        · have hge : ¬ (j : Int) < (r.length : Int) := by omega
          rw [List.drop_eq_nil_of_le (by omega), Facts.rowU] at hu
          have Hu := hid hu
          have Hln := hid hln
          clear hu hln
          go_wp2_with fail
          go_roundg (ps.length - (i + 1))
          case measure => have hk := Hk.out; omega
          case rel => exact ⟨i + 1, _, _, by go_num, by omega, Hln.out, hown, Hu.out, fun m hm => by have := Hle.out m hm; omega, rfl, hb⟩
    · have hge : ¬ (i : Int) < (ps.length : Int) := by omega
      have hu := Hu.out
      rw [List.drop_eq_nil_of_le (by omega), Facts.usesS] at hu
      have Hu := hid hu
      clear hu
      go_wp2_with fail
      go_ret
      have hr := hown.rows
      rw [Hu.out] at hr
      exact ⟨bo, ns.length, rfl, hr.mono (fun k hk => ⟨by rw [← Hbb.out]; omega, hk.2⟩), hb0.trans (hb.mono (by rw [← Hbb.out]; omega))⟩
end Go.Proofs.Ytbpgolmbielpgaa
