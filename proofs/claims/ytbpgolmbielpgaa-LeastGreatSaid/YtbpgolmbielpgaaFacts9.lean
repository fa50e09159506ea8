/- Chapter 9 (facts): Loops. -/
import Derived.Test.YtbpgolmbielpgaaFacts8
namespace Go.Proofs.Ytbpgolmbielpgaa
open Go.RowKit
attribute [local go_sem ↓] Go.wp_at_zero Go.wp_at_succ
attribute [local go_sem] frozen_alloc_lt

namespace Facts
/-- A symbol that can't be empty. -/
def firmP (nul : Int → Bool) (s : Int) : Bool := decide (s < 0) || !nul s
def loopF (nul : Int → Bool) (r : List Int) : List Int := r.filter fun s => decide (0 ≤ s) && (r.countP (firmP nul) == 0 || r.countP (firmP nul) == 1 && !nul s)
end Facts

def LopAt (B : Nat) (wd : World) (bo n : Nat) (f : List Int → List Int) (ps : List (Int × List Int)) (res : List (List Int)) (k : Nat) (v26 : Value) (w : World) : Prop :=
  ∃ (i : Nat) (ls : List (List Int)) (vs : List Value), v26 = .int .i64 i ∧ i ≤ ps.length ∧ ls.length = n ∧ OwnII w (bo + 1) 3 bo 23 ls vs ∧ Facts.allT f ls (ps.drop i) = res ∧
    (∀ l ∈ ls, l.length ≤ 16 * i) ∧ k = ps.length - i ∧ Below B wd w
def LopFirm (nul : Int → Bool) (r : List Int) (wx : World) (k : Nat) (v7 v33 : Value) (w : World) : Prop :=
  ∃ (j c : Nat), v33 = .int .i64 j ∧ v7 = .int .i64 c ∧ j ≤ r.length ∧ c + (r.drop j).countP (Facts.firmP nul) = r.countP (Facts.firmP nul) ∧ c ≤ j ∧ k = r.length - j ∧ w = wx
def LopIn (B : Nat) (wd : World) (bo n : Nat) (f : List Int → List Int) (q : Int → Bool) (ps : List (Int × List Int)) (a : Nat) (r : List Int) (i cx : Nat) (cells : List Value) (res : List (List Int)) (k : Nat) (v52 : Value) (w : World) : Prop :=
  ∃ (j : Nat) (ls : List (List Int)) (vs : List Value), v52 = .int .i64 j ∧ j ≤ r.length ∧ ls.length = n ∧ OwnII w (bo + 1) 3 bo 23 ls vs ∧
    Facts.allT f (Facts.appT ls a ((r.drop j).filter q)) (ps.drop (i + 1)) = res ∧ (∀ l ∈ ls, l.length ≤ 16 * i + j) ∧ Bk w cx 35 cells ∧ k = r.length - j ∧ Below B wd w
def LopOut (B : Nat) (wd : World) (bo bb n : Nat) (ls : List (List Int)) (k : Nat) (v93 : Value) (w : World) : Prop :=
  ∃ (i : Nat) (bs : List Bool), v93 = .int .i64 i ∧ i ≤ n ∧ bs.length = n ∧ Bk w bb 4 (bs.map Value.bool) ∧ RowIID w (fun k => k < bb) (some ⟨bo, 0, none⟩) ls ∧
    (∀ a : Nat, a < i → (Facts.inB bs a = true ↔ Facts.Come ls (ls.getD a []) a)) ∧ k = n - i ∧ Below B wd w

/-- What Loops tells. -/
def LopYes (w : World) (G : Gr) (e : Ending) (w' : World) : Prop :=
  ∃ (ga : Option Addr) (cap : Nat) (bs nb : List Bool) (lss : List (List Int)), e = .returned (.slice ga G.names.length cap) ∧ bs.length = G.names.length ∧ RowB w' w'.heap.size ga bs ∧ (∀ a : Int, 0 ≤ a → (Facts.inB nb a = true ↔ Facts.Gen G.prods false a)) ∧
    lss = Facts.allT (Facts.loopF (Facts.inB nb)) (List.replicate G.names.length []) G.prods ∧ (∀ a : Nat, a < G.names.length → (Facts.inB bs a = true ↔ Facts.Come lss (lss.getD a []) a)) ∧ Below w.heap.size w w'

set_option maxHeartbeats 1000000 in
theorem loops_no (w : World) (G : Gr) (gn gt gp : Option Addr) (cn ct cp : Nat) (h : GIn w G gn gt gp) (hs : Pl.soundB G = false) :
    Calls Try.prog 46 #[.agg #[.int .i64 G.start, .int .i64 G.rules, .slice gn G.names.length cn, .slice gt G.terms.length ct, .slice gp G.prods.length cp]] w (NoPost w) := by
  have hb0 : Below w.heap.size w (w.alloc (.cells #[.int .i64 G.start, .int .i64 G.rules, .slice gn G.names.length cn, .slice gt G.terms.length ct, .slice gp G.prods.length cp] 41)) := (Below.refl _ _).alloc (Nat.le_refl _) _
  have h1 := h.later hb0
  have Hs := hid hs
  clear hs
  go_enter Try.func46, Try.ntmps46
  go_wp2_with (go_at_call 55; refine (sound_is _ _ G gn gt gp cn ct cp false Hs.out h1.n h1.t h1.p (Nat.le_refl _) h1.h1 h1.h2 h1.h3 h1.h4).mono ?_; rintro e w1 ⟨rfl, hb1⟩)
  go_ret
  exact ⟨rfl, hb0.trans (hb1.mono hb0.size)⟩

set_option maxHeartbeats 8000000 in
set_option maxRecDepth 100000 in
theorem loops_yes (w : World) (G : Gr) (gn gt gp : Option Addr) (cn ct cp : Nat) (hG : GIn w G gn gt gp) (hs : Pl.soundB G = true) :
    Calls Try.prog 46 #[.agg #[.int .i64 G.start, .int .i64 G.rules, .slice gn G.names.length cn, .slice gt G.terms.length ct, .slice gp G.prods.length cp]] w (LopYes w G) := by
  obtain ⟨i2, hi2, y0, y1, y2⟩ := info_parts intsInfo
  obtain ⟨i3, hi3, z0, z1, z2⟩ := info_parts intInfo
  obtain ⟨i4, hi4, x0, x1, x2⟩ := info_parts boolInfo
  have hsg := sndG hs
  have Hsg := hid hsg
  have Hs := hid hs
  clear hs
  obtain ⟨hn0, hn1, ht1, hp1, hst0, hst1, -, -, -, -, -⟩ := hsg
  obtain ⟨st, ru, ns, ts, ps⟩ := G
  simp only at *
  have hb0 : Below w.heap.size w (w.alloc (.cells #[.int .i64 st, .int .i64 ru, .slice gn ns.length cn, .slice gt ts.length ct, .slice gp ps.length cp] 41)) := (Below.refl _ _).alloc (Nat.le_refl _) _
  have hG0 := hG.later hb0
  have hbk : Bk (w.alloc (.cells #[.int .i64 st, .int .i64 ru, .slice gn ns.length cn, .slice gt ts.length ct, .slice gp ps.length cp] 41)) w.heap.size 41 [.int .i64 st, .int .i64 ru, .slice gn ns.length cn, .slice gt ts.length ct, .slice gp ps.length cp] := Bk.new w _ _
  go_enter Try.func46, Try.ntmps46
  go_upto_region 1 with (fail)
  obtain ⟨wd, hwd⟩ : ∃ wd, wd = (w.alloc (.cells #[.int .i64 st, .int .i64 ru, .slice gn ns.length cn, .slice gt ts.length ct, .slice gp ps.length cp] 41)) := ⟨_, rfl⟩
  obtain ⟨b, hbb⟩ : ∃ b, b = w.heap.size := ⟨_, rfl⟩
  rw [← hwd] at hb0 hG0 hbk ⊢
  rw [← hbb] at hbk ⊢
  clear hwd hbb hG
  have g0 := hbk.cell 0
  have g1 := hbk.cell 1
  have g2 := hbk.cell 2
  have g3 := hbk.cell 3
  have g4 := hbk.cell 4
  simp only [List.getElem?_cons_zero, List.getElem?_cons_succ] at g0 g1 g2 g3 g4
  go_upto_region 3 with (go_at_call 55; refine (sound_is wd _ ⟨st, ru, ns, ts, ps⟩ gn gt gp cn ct cp true Hs.out hG0.n hG0.t hG0.p (Nat.le_refl _) hG0.h1 hG0.h2 hG0.h3 hG0.h4).mono ?_; rintro e w1 ⟨rfl, hb1⟩)
  have hbk1 := hbk.below hb1 hbk.lt
  have hG1 := hG0.later hb1
  have hbw1 := hb0.trans (hb1.mono hb0.size)
  clear hb1 g0 g1 g2 g3 g4 hb0 hG0 hbk
  have g0 := hbk1.cell 0
  have g1 := hbk1.cell 1
  have g2 := hbk1.cell 2
  have g3 := hbk1.cell 3
  have g4 := hbk1.cell 4
  simp only [List.getElem?_cons_zero, List.getElem?_cons_succ] at g0 g1 g2 g3 g4
  go_upto_region 4 with (go_at_call 33; refine (null_yes w1 ⟨st, ru, ns, ts, ps⟩ gn gt gp cn ct cp hG1 Hs.out).mono ?_; rintro e w2 ⟨gb, cb, nb, rfl, hnl, hnr, hng, hb2⟩)
  have hbk2 := hbk1.below hb2 hbk1.lt
  have hG2 := hG1.later hb2
  have hbw2 := hbw1.trans (hb2.mono hbw1.size)
  have Hnl := hid hnl
  have Hng := hid hng
  clear hb2 g0 g1 g2 g3 g4 hbw1 hG1 hbk1 hnl hng
  have g2 := hbk2.cell 2
  simp only [List.getElem?_cons_zero, List.getElem?_cons_succ] at g2
  have Hnl : Hid (nb.length = ns.length) := Hnl
  go_upto_region 5 with (at_make; refine wpList_make_bk _ rfl _ _ _ rfl 23 i2 _ Try.underlying52 hi2 y0 y1 rfl _ _ ns.length rfl rfl rfl rfl (by rw [y2]; omega) (by omega) ?_; intro w3 hbo hk3)
  obtain ⟨B, hB⟩ : ∃ B, B = w2.heap.size := ⟨_, rfl⟩
  have hB3 : Below B w2 w3 := hk3.to_below (by omega) (fun k hk => hk.elim)
  rw [← hB] at hbo ⊢
  have hown : OwnII w3 (B + 1) 3 B 23 _ _ := OwnII.made hbo (Nat.lt_succ_self _)
  have HB := hid hB
  have hbB : b < B := by have := hbk2.lt; omega
  clear g2 hk3 hbo hB
  have hbk3 := hbk2.below hB3 hbB
  have g4 := hbk3.cell 4
  simp only [List.getElem?_cons_zero, List.getElem?_cons_succ] at g4
  obtain ⟨res, hres⟩ : ∃ res, res = Facts.allT (Facts.loopF (Facts.inB nb)) (List.replicate ns.length []) ps := ⟨_, rfl⟩
  have Hres := hid hres
  clear hres
  go_wp2_with fail
  clear g4 hbk3
  go_loopg [26] ps.length (fun k v26 wr => LopAt B w2 B ns.length (Facts.loopF (Facts.inB nb)) ps res k v26 wr)
  case atStart => exact ⟨0, _, _, rfl, by omega, by simp, hown, by rw [List.drop_zero]; exact Hres.out.symm, fun l hl => by simp at hl; rw [hl.2]; simp, rfl, hB3⟩
  case round =>
    clear hown hB3
    obtain ⟨i, ls, vs, rfl, hi, hln, hown, hu, hle, hk, hb⟩ := hrel
    have Hk := hid hk
    have Hu := hid hu
    have Hle := hid hle
    have Hln := hid hln
    clear hk hu hle hln
    have hzr : B + 1 ≤ wr.heap.size := hown.bk.lt
    by_cases hlt : i < ps.length
    · have hlt' : (i : Int) < (ps.length : Int) := by omega
      obtain ⟨x, hx⟩ : ∃ x, x = ps[i] := ⟨_, rfl⟩
      have hxm : x ∈ ps := by rw [hx]; exact List.getElem_mem hlt
      have hxi : ps[i]? = some x := by rw [hx]; exact List.getElem?_eq_getElem hlt
      have hr16 := Hsg.out.r16 x hxm
      have hl0 := Hsg.out.l0 x hxm
      have hl1 : x.1 < (ns.length : Int) := Hsg.out.l1 x hxm
      have Hs0 := hid (Hsg.out.r0 x hxm)
      have Hs1 := hid (Hsg.out.r1 x hxm)
      have hu := Hu.out
      rw [List.drop_eq_getElem_cons hlt, ← hx, Facts.allT] at hu
      obtain ⟨g', off, gr, cr, rfl, hg', hd0, hd1, hrid⟩ := hG2.p i _ hxi
      rw [← HB.out] at hg' hrid
      have hc0 := (hb.cell (p := ⟨g', off + i * 2, none⟩) (show g' < B by omega)).trans hd0
      have hc1 := (hb.cell (p := ⟨g', off + i * 2 + 1, none⟩) (show g' < B by omega)).trans hd1
      obtain ⟨l, r⟩ := x
      simp only at hr16 hl0 hl1 hc0 hc1 hrid hu
      obtain ⟨a, rfl⟩ := Int.eq_ofNat_of_zero_le hl0
      rw [Int.toNat_natCast] at hu
      have Hu := hid hu
      clear hx hxi hxm hd0 hd1 hu
      go_wp2_with fail
      have hxk := Bk.new wr 35 [.int .i64 a, .slice gr r.length cr]
      have hown1 := hown.alloc (.cells #[.int .i64 a, .slice gr r.length cr] 35)
      have hbx : Below B w2 (wr.alloc (.cells #[.int .i64 a, .slice gr r.length cr] 35)) := hb.alloc (by omega) _
      obtain ⟨wx, hwx⟩ : ∃ wx, wx = wr.alloc (.cells #[.int .i64 a, .slice gr r.length cr] 35) := ⟨_, rfl⟩
      obtain ⟨cx, hcx⟩ : ∃ cx, cx = wr.heap.size := ⟨_, rfl⟩
      rw [← hwx, ← hcx] at hxk
      rw [← hwx] at hown1 hbx
      rw [← hwx, ← hcx]
      have hcb : B + 1 ≤ cx := by omega
      have hrix := hrid.below hbx
      have hnx := hnr.below (W' := wx) (by rw [← HB.out]; exact hbx)
      clear hwx hcx hown hb hc0 hc1 hzr
      go_loopg [7, 33] r.length (fun k v7 v33 wq => LopFirm (Facts.inB nb) r wx k v7 v33 wq)
      case atStart => exact ⟨0, 0, rfl, rfl, by omega, by simp, by omega, rfl, rfl⟩
      case round =>
        obtain ⟨j, c, rfl, rfl, hj, hcc, hcj, hkj, rfl⟩ := hrel
        have Hkj := hid hkj
        clear hkj
        by_cases hlj : j < r.length
        · have hlj' : (j : Int) < (r.length : Int) := by omega
          obtain ⟨s, hs⟩ : ∃ s, s = r[j] := ⟨_, rfl⟩
          have hsm : s ∈ r := by rw [hs]; exact List.getElem_mem hlj
          have h0 : -(ts.length : Int) ≤ s := Hs0.out s hsm
          have h1 : s < (ns.length : Int) := Hs1.out s hsm
          obtain ⟨gr, ofr, rfl, hgr, hcr⟩ := hrix.at hlj
          rw [← hs] at hcr
          rw [List.drop_eq_getElem_cons hlj, ← hs, List.countP_cons] at hcc
          clear hs hsm
          by_cases hpos : 0 ≤ s
          · obtain ⟨m, rfl⟩ := Int.eq_ofNat_of_zero_le hpos
            have hm : m < nb.length := by rw [Hnl.out]; omega
            obtain ⟨gb', ofb, rfl, hgb, hcb2⟩ := hnx.at hm
            have hnbm : Facts.inB nb m = nb[m] := by simp [Facts.inB, List.getD, List.getElem?_eq_getElem hm]
            have hfirm : Facts.firmP (Facts.inB nb) (m : Int) = !nb[m] := by simp [Facts.firmP, hnbm]; omega
            rw [hfirm] at hcc
            cases hv : nb[m] with
            | true =>
              rw [hv] at hcb2 hcc
              have Hcc := hid hcc
              clear hcc hv hfirm hnbm
              go_wp2_with fail
              go_roundg (r.length - (j + 1))
              case measure => have hk := Hkj.out; omega
              case rel => exact ⟨j + 1, c, by go_num, rfl, by omega, by have := Hcc.out; simp at this; exact this, by omega, rfl, rfl⟩
            | false =>
              rw [hv] at hcb2 hcc
              have Hcc := hid hcc
              clear hcc hv hfirm hnbm
              go_wp2_with fail
              go_roundg (r.length - (j + 1))
              case measure => have hk := Hkj.out; omega
              case rel => exact ⟨j + 1, c + 1, by go_num, by go_num, by omega, by have := Hcc.out; simp at this; omega, by omega, rfl, rfl⟩
          · have hneg : s < 0 := by omega
            have hfirm : Facts.firmP (Facts.inB nb) s = true := by simp [Facts.firmP, hneg]
            rw [hfirm] at hcc
            have Hcc := hid hcc
            clear hcc hfirm
            go_wp2_with fail
            go_roundg (r.length - (j + 1))
            case measure => have hk := Hkj.out; omega
            case rel => exact ⟨j + 1, c + 1, by go_num, by go_num, by omega, by have := Hcc.out; simp at this; omega, by omega, rfl, rfl⟩
        · have hge : ¬ (j : Int) < (r.length : Int) := by omega
          rw [List.drop_eq_nil_of_le (by omega), List.countP_nil, Nat.add_zero] at hcc
          have hc1 := hxk.cell 1
          simp only [List.getElem?_cons_zero, List.getElem?_cons_succ] at hc1
          have Hcc := hid hcc
          have hc16 : c ≤ 16 := by omega
          obtain ⟨q, hq⟩ : ∃ q : Int → Bool, q = fun s => decide (0 ≤ s) && (c == 0 || c == 1 && !Facts.inB nb s) := ⟨_, rfl⟩
          have hfq : Facts.loopF (Facts.inB nb) r = r.filter q := by rw [hq]; unfold Facts.loopF; rw [← hcc]
          have hu := Hu.out
          rw [hfq] at hu
          have Hu2 := hid hu
          have Hq := hid hq
          clear hcc hq hfq hu
          go_wp2_with fail
          go_loopg [52] r.length (fun k v52 wq => LopIn B w2 B ns.length (Facts.loopF (Facts.inB nb)) q ps a r i cx [.int .i64 a, .slice gr r.length cr] res k v52 wq)
          case atStart => exact ⟨0, ls, vs, rfl, by omega, Hln.out, hown1, by rw [List.drop_zero]; exact Hu2.out, fun l hl => by have := Hle.out l hl; omega, hxk, rfl, hbx⟩
          case round =>
            clear hown1 hbx hxk Hu Hu2 Hle Hln hc1 hrix hnx
            obtain ⟨k2, ls, vs, rfl, hj2, hln, hown, hu, hle, hxk, hk, hb⟩ := hrel
            have Hkj2 := hid hk
            have Hle := hid hle
            have Hln := hid hln
            clear hk hle hln
            have hri := hrid.below hb
            have hnx := hnr.below (by rw [← HB.out]; exact hb)
            have hzr : B + 1 ≤ wr.heap.size := hown.bk.lt
            by_cases hlj2 : k2 < r.length
            · have hlj2' : (k2 : Int) < (r.length : Int) := by omega
              obtain ⟨s, hs⟩ : ∃ s, s = r[k2] := ⟨_, rfl⟩
              have hsm : s ∈ r := by rw [hs]; exact List.getElem_mem hlj2
              have h0 : -(ts.length : Int) ≤ s := Hs0.out s hsm
              have h1 : s < (ns.length : Int) := Hs1.out s hsm
              obtain ⟨gr, ofr, rfl, hgr, hcr⟩ := hri.at hlj2
              rw [← hs] at hcr
              rw [List.drop_eq_getElem_cons hlj2, ← hs] at hu
              clear hs hsm
              by_cases hpos : 0 ≤ s
              · obtain ⟨m, rfl⟩ := Int.eq_ofNat_of_zero_le hpos
                have hm : m < nb.length := by rw [Hnl.out]; omega
                obtain ⟨gb', ofb, rfl, hgb, hcb2⟩ := hnx.at hm
                have hnbm : Facts.inB nb m = nb[m] := by simp [Facts.inB, List.getD, List.getElem?_eq_getElem hm]
                have hqm : q (m : Int) = (c == 0 || c == 1 && !nb[m]) := by rw [Hq.out]; simp [hnbm]
                by_cases hc0 : c = 0
                · subst hc0
                  rw [List.filter_cons, hqm, if_pos (by simp), Facts.appT] at hu
                  clear hqm hnbm hcb2
                  have ha : a < ls.length := by rw [Hln.out]; omega
                  obtain ⟨la, hla⟩ : ∃ la, la = ls[a] := ⟨_, rfl⟩
                  have hla' : ls[a]? = some la := by rw [hla]; exact List.getElem?_eq_getElem ha
                  rw [show ls.getD a [] = la by simp [List.getD, hla']] at hu
                  have hlen := Hle.out la (by rw [hla]; exact List.getElem_mem ha)
                  obtain ⟨v, g2, cap2, w5, hv, hcv, hcv1, hrun, hc2, hf2, hput, hvb, hov, hk2, hk3⟩ := hown.app (P := Try.prog) 23 23 i3 Try.underlying23 hi3 z0 z1 z2 hzr hla' (by omega) m 1
                  have hvx : ¬ v.ownBlock = some cx := hxk.own_ne hov (by decide)
                  have hx0 := hxk.cell 0
                  have hx1 := (hxk.alloc (.cells #[.int .i64 (m : Int)] 3)).cell 0
                  have hx2 := (hxk.kp hk2 hvx).cell 0
                  simp only [List.getElem?_cons_zero] at hx0 hx1 hx2
                  have hxk3 := hxk.kp hk3 (fun e => e.elim (fun e => by omega) hvx)
                  have hb3 := hb.trans (hk3.to_below (B := B) (by omega) (fun k e => by
                    rcases e with e | e
                    · omega
                    · have := hvb k e; omega))
                  have Hu3 := hid hu
                  have Hput := hid hput
                  have Hlen := hid hlen
                  have haa : (a : Int) < (ns.length : Int) := hl1
                  clear hu hla hla' hv hov hk2 hk3 hput hlen hvx hvb
                  go_wp2_with fail
                  go_region_law ((refine step_append_run (by rfl) _ _ _ (by rfl) v (.slice (some ⟨wr.heap.size, 0, none⟩) 1 1) _ w5 (by go_simp) (by go_simp) (by exact hrun) ?_))
                  all_goals
                    go_wp2_with fail
                    go_roundg (r.length - (k2 + 1))
                    case measure => have hk := Hkj2.out; omega
                    case rel =>
                      exact ⟨k2 + 1, _, _, by go_num, by omega, by rw [List.length_set]; exact Hln.out, Hput.out, Hu3.out, fun m hm => by have := mem_set_len (m := 16 * i + k2) Hle.out (by simp; exact Hlen.out) m hm; omega, hxk3, rfl, hb3⟩
                · by_cases hc1 : c = 1
                  · subst hc1
                    cases hv0 : nb[m] with
                    | true =>
                      rw [hv0] at hcb2 hqm
                      rw [List.filter_cons, hqm, if_neg (by simp)] at hu
                      have Hu3 := hid hu
                      clear hu hqm hnbm hv0
                      go_wp2_with fail
                      go_roundg (r.length - (k2 + 1))
                      case measure => have hk := Hkj2.out; omega
                      case rel => exact ⟨k2 + 1, _, _, by go_num, by omega, Hln.out, hown, Hu3.out, fun m hm => by have := Hle.out m hm; omega, hxk, rfl, hb⟩
                    | false =>
                      rw [hv0] at hcb2 hqm
                      rw [List.filter_cons, hqm, if_pos (by simp), Facts.appT] at hu
                      clear hqm hnbm hv0
                      have ha : a < ls.length := by rw [Hln.out]; omega
                      obtain ⟨la, hla⟩ : ∃ la, la = ls[a] := ⟨_, rfl⟩
                      have hla' : ls[a]? = some la := by rw [hla]; exact List.getElem?_eq_getElem ha
                      rw [show ls.getD a [] = la by simp [List.getD, hla']] at hu
                      have hlen := Hle.out la (by rw [hla]; exact List.getElem_mem ha)
                      obtain ⟨v, g2, cap2, w5, hv, hcv, hcv1, hrun, hc2, hf2, hput, hvb, hov, hk2, hk3⟩ := hown.app (P := Try.prog) 23 23 i3 Try.underlying23 hi3 z0 z1 z2 hzr hla' (by omega) m 1
                      have hvx : ¬ v.ownBlock = some cx := hxk.own_ne hov (by decide)
                      have hx0 := hxk.cell 0
                      have hx1 := (hxk.alloc (.cells #[.int .i64 (m : Int)] 3)).cell 0
                      have hx2 := (hxk.kp hk2 hvx).cell 0
                      simp only [List.getElem?_cons_zero] at hx0 hx1 hx2
                      have hxk3 := hxk.kp hk3 (fun e => e.elim (fun e => by omega) hvx)
                      have hb3 := hb.trans (hk3.to_below (B := B) (by omega) (fun k e => by
                        rcases e with e | e
                        · omega
                        · have := hvb k e; omega))
                      have Hu3 := hid hu
                      have Hput := hid hput
                      have Hlen := hid hlen
                      have haa : (a : Int) < (ns.length : Int) := hl1
                      clear hu hla hla' hv hov hk2 hk3 hput hlen hvx hvb
                      go_wp2_with fail
                      go_region_law ((refine step_append_run (by rfl) _ _ _ (by rfl) v (.slice (some ⟨wr.heap.size, 0, none⟩) 1 1) _ w5 (by go_simp) (by go_simp) (by exact hrun) ?_))
                      all_goals
                        go_wp2_with fail
                        go_roundg (r.length - (k2 + 1))
                        case measure => have hk := Hkj2.out; omega
                        case rel =>
                          exact ⟨k2 + 1, _, _, by go_num, by omega, by rw [List.length_set]; exact Hln.out, Hput.out, Hu3.out, fun m hm => by have := mem_set_len (m := 16 * i + k2) Hle.out (by simp; exact Hlen.out) m hm; omega, hxk3, rfl, hb3⟩
                  · have hc0' : ((c : Int) == 0) = false := by simp; omega
                    have hc1' : ((c : Int) == 1) = false := by simp; omega
                    rw [List.filter_cons, hqm, if_neg (by simp [hc0, hc1])] at hu
                    have Hu3 := hid hu
                    clear hu hqm hnbm
                    go_wp2_with fail
                    go_roundg (r.length - (k2 + 1))
                    case measure => have hk := Hkj2.out; omega
                    case rel => exact ⟨k2 + 1, _, _, by go_num, by omega, Hln.out, hown, Hu3.out, fun m hm => by have := Hle.out m hm; omega, hxk, rfl, hb⟩
              · have hqm : q s = false := by rw [Hq.out]; simp [hpos]
                rw [List.filter_cons, hqm, if_neg (by simp)] at hu
                have Hu3 := hid hu
                clear hu hqm
                go_wp2_with fail
                go_roundg (r.length - (k2 + 1))
                case measure => have hk := Hkj2.out; omega
                case rel => exact ⟨k2 + 1, _, _, by go_num, by omega, Hln.out, hown, Hu3.out, fun m hm => by have := Hle.out m hm; omega, hxk, rfl, hb⟩
            · have hge2 : ¬ (k2 : Int) < (r.length : Int) := by omega
              rw [List.drop_eq_nil_of_le (by omega)] at hu
              have Hu3 : Hid (Facts.allT (Facts.loopF (Facts.inB nb)) ls (ps.drop (i + 1)) = res) := hid hu
              clear hu
              go_wp2_with fail
              go_roundg (ps.length - (i + 1))
              case measure => have hk := Hk.out; omega
              case rel => exact ⟨i + 1, _, _, by go_num, by omega, Hln.out, hown, Hu3.out, fun m hm => by have := Hle.out m hm; omega, rfl, hb⟩
    · have hge : ¬ (i : Int) < (ps.length : Int) := by omega
      have hu := Hu.out
      rw [List.drop_eq_nil_of_le (by omega), Facts.allT] at hu
      subst hu
      have hbkr := hbk2.below hb hbB
      have g2 := hbkr.cell 2
      simp only [List.getElem?_cons_zero, List.getElem?_cons_succ] at g2
      have hrow := hown.rows
      have hmem : ∀ (k : Nat) l, ls[k]? = some l → ∀ s ∈ l, 0 ≤ s ∧ s < (ns.length : Int) := by
        intro k l hkl s hs
        have hm := (Facts.allT_mem (Facts.loopF (Facts.inB nb)) k s ps (List.replicate ns.length []) (fun x hx => ⟨Hsg.out.l0 x hx, by simpa using Hsg.out.l1 x hx⟩)).1 (by rw [← Hres.out]; simp [List.getD, hkl]; exact hs)
        rcases hm with hm | ⟨x, hx, -, hm⟩
        · rw [List.getD, List.getElem?_replicate] at hm
          by_cases hkn : k < ns.length <;> simp [hkn] at hm
        · have hm2 := List.mem_filter.1 hm
          simp at hm2
          exact ⟨hm2.2.1, Hsg.out.r1 x hx s hm2.1⟩
      have hsum : (ls.map List.length).sum ≤ 100000 := by
        have := Facts.allT_sum (Facts.loopF (Facts.inB nb)) 16 ps (List.replicate ns.length []) (fun x hx => Nat.le_trans (List.length_filter_le _ _) (Hsg.out.r16 x hx))
        rw [← Hres.out] at this
        simp at this
        omega
      have Hmem := hid hmem
      have Hsum := hid hsum
      clear hmem hsum hbkr
      go_upto_region 23 with (at_make; refine wpList_make_bk _ rfl _ _ _ rfl 4 i4 _ Try.underlying61 hi4 x0 x1 rfl _ _ ns.length rfl rfl rfl rfl (by rw [x2]; omega) (by omega) ?_; intro w6 hkb hk6)
      have hrow6 := (hrow.mono (D' := fun k => k < wr.heap.size) (fun k hk => hk.2)).kp hk6 (fun _ _ h => h)
      have hb6 := hb.trans (hk6.to_below (B := B) (by omega) (fun k hk => hk.elim))
      obtain ⟨bb, hbbe⟩ : ∃ bb, bb = wr.heap.size := ⟨_, rfl⟩
      rw [← hbbe] at hkb hrow6 hzr ⊢
      have hbbB : B + 1 ≤ bb := hzr
      clear hbbe hk6 hrow hown hb g2 hzr
      go_wp2_with fail
      go_loopg [93] ns.length (fun k v93 wr => LopOut B w2 B bb ns.length ls k v93 wr)
      case atStart => exact ⟨0, List.replicate ns.length false, rfl, by omega, by simp, hkb.of (by simp), hrow6, fun a ha => by omega, rfl, hb6⟩
      case round =>
        clear hkb hrow6 hb6
        obtain ⟨m, bs, rfl, hm, hbl, hkb, hrow, hbs, hk, hb⟩ := hrel
        have Hkm := hid hk
        have Hbs := hid hbs
        have Hbl := hid hbl
        clear hk hbs hbl
        have hlb := hkb.lt
        by_cases hlm : m < ns.length
        · have hlm' : (m : Int) < (ns.length : Int) := by omega
          obtain ⟨gs', off, gl, cl, e1, hgs, hcl, hrl, hcn⟩ := hrow.at0 (i := m) (by rw [Hln.out]; exact hlm)
          simp only [Option.some.injEq, Addr.mk.injEq] at e1
          obtain ⟨rfl, rfl, -⟩ := e1
          rw [Nat.zero_add] at hcl
          obtain ⟨l, hle⟩ : ∃ l, l = ls[m]'(by rw [Hln.out]; exact hlm) := ⟨_, rfl⟩
          rw [← hle] at hcl hrl
          have hlg : ls[m]? = some l := by rw [hle]; exact List.getElem?_eq_getElem _
          have Hcn := hid hcn
          have Hlg := hid hlg
          have hll : l.length ≤ 100000 := by
            have h1 : ∀ (ls : List (List Int)) (m : Nat) l, ls[m]? = some l → l.length ≤ (ls.map List.length).sum := by
              intro ls
              induction ls with
              | nil => intro m l h; simp at h
              | cons x t ih =>
                intro m l h
                cases m with
                | zero => simp at h; subst h; simp
                | succ m => have := ih m l (by simpa using h); simp; omega
            have := h1 ls m l hlg
            have := Hsum.out
            omega
          clear hle hcn hlg
          go_wp2_with (go_at_call 62; refine (spread_calls wr _ _ (some ⟨B, 0, none⟩) gl ns.length cl ns.length ls l hrow Hln.out (by omega) hrl Hcn.out (fun k hk => by omega) Hmem.out (fun a ha => Hmem.out m l Hlg.out a ha) (by have := Hsum.out; omega)).mono ?_; rintro e w7 ⟨ba, bs7, rfl, hba, hbl7, hkb7, hcm7, hb7⟩; have hc7 := hkb7.cell m; have hcb7 := (hkb.below hb7 hlb).cell m; have hfb7 := (hkb.below hb7 hlb).free m; simp only [List.getElem?_map, List.getElem?_eq_getElem (show m < bs7.length by omega), List.getElem?_eq_getElem (show m < bs.length by rw [Hbl.out]; omega), Option.map_some] at hc7 hcb7; have Hcm7 := hid hcm7; clear hcm7)
          have hkb8 := ((hkb.below hb7 hlb).set m (.bool bs7[m])).of (cs' := (bs.set m bs7[m]).map Value.bool) (by simp)
          have hk8 : Kp (fun k => k = bb ∨ wr.heap.size ≤ k) wr (w7.setCell ⟨bb, m, none⟩ (.bool bs7[m])) := Kp.set (S := fun k => k = bb ∨ wr.heap.size ≤ k) ((Kp.refl _ wr).below hb7 (fun k hk _ => hk)) (.inl (.inl rfl)) _
          have hin7 : Facts.inB bs7 m = bs7[m] := by simp [Facts.inB, List.getD, List.getElem?_eq_getElem (show m < bs7.length by omega)]
          have hgl : ls.getD m [] = l := by simp [List.getD, Hlg.out]
          go_roundg (ns.length - (m + 1))
          case measure => have hk := Hkm.out; omega
          case rel =>
            refine ⟨m + 1, _, by go_num, by omega, by rw [List.length_set]; exact Hbl.out, hkb8, hrow.kp hk8 (fun k hk e => by rcases e with e | e <;> omega), fun a ha => ?_, rfl, (hb.trans (hb7.mono (by omega))).setCell (p := ⟨bb, m, none⟩) (show B ≤ bb by omega) _⟩
            by_cases ham : a = m
            · subst ham
              rw [show Facts.inB (bs.set a bs7[a]) a = bs7[a] by simp [Facts.inB, List.getD, List.getElem?_set_self (show a < bs.length by rw [Hbl.out]; omega)], ← hin7, hgl]
              exact Hcm7.out a (by omega)
            · rw [show Facts.inB (bs.set m bs7[m]) a = Facts.inB bs a by simp [Facts.inB, List.getD, List.getElem?_set_ne (Ne.symm ham)]]
              exact Hbs.out a (by omega)
        · have hge : ¬ (m : Int) < (ns.length : Int) := by omega
          have hme : m = ns.length := by omega
          have Hme := hid hme
          clear hme
          go_wp2_with fail
          go_ret
          exact ⟨_, _, bs, nb, ls, rfl, Hbl.out, bk_rowB hkb, Hng.out, Hres.out, fun a ha => Hbs.out a (by rw [Hme.out]; exact ha), hbw2.trans (hb.mono (by rw [HB.out]; exact hbw2.size))⟩
end Go.Proofs.Ytbpgolmbielpgaa
