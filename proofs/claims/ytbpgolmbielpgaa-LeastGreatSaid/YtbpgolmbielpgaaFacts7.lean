/- Chapter 9 (facts): Reachable. -/
import Derived.Test.YtbpgolmbielpgaaSteps
namespace Go.Proofs.Ytbpgolmbielpgaa
open Go.RowKit
attribute [local go_sem ↓] Go.wp_at_zero Go.wp_at_succ
attribute [local go_sem] frozen_alloc_lt

namespace Facts
def ntS (r : List Int) : List Int := r.filter fun s => decide (0 ≤ s)
end Facts

def StpAt (wd : World) (b bo n : Nat) (f : List Int → List Int) (ps : List (Int × List Int)) (res : List (List Int)) (k : Nat) (v18 : Value) (w : World) : Prop :=
  ∃ (i : Nat) (ls : List (List Int)) (vs : List Value), v18 = .int .i64 i ∧ i ≤ ps.length ∧ ls.length = n ∧ OwnII w (bo + 1) 3 bo 23 ls vs ∧ Facts.allT f ls (ps.drop i) = res ∧
    (∀ l ∈ ls, l.length ≤ 16 * i) ∧ k = ps.length - i ∧ Below (b + 1) wd w
def StpIn (wd : World) (b bo n : Nat) (f : List Int → List Int) (ps : List (Int × List Int)) (a : Nat) (r : List Int) (i cx : Nat) (cells : List Value) (res : List (List Int)) (k : Nat) (v25 : Value) (w : World) : Prop :=
  ∃ (j : Nat) (ls : List (List Int)) (vs : List Value), v25 = .int .i64 j ∧ j ≤ r.length ∧ ls.length = n ∧ OwnII w (bo + 1) 3 bo 23 ls vs ∧
    Facts.allT f (Facts.appT ls a (f (r.drop j))) (ps.drop (i + 1)) = res ∧ (∀ l ∈ ls, l.length ≤ 16 * i + j) ∧ Bk w cx 35 cells ∧ k = r.length - j ∧ Below (b + 1) wd w

def ReachPost (w : World) (G : Gr) (lss : List (List Int)) (zs : List Int) (e : Ending) (w' : World) : Prop :=
  Below w.heap.size w w' ∧ ((Pl.soundB G = false ∧ e = .returned (.slice none 0 0)) ∨ (Pl.soundB G = true ∧ ∃ (ga : Option Addr) (cap : Nat) (bs : List Bool), e = .returned (.slice ga G.names.length cap) ∧ bs.length = G.names.length ∧ RowB w' w'.heap.size ga bs ∧
    ∀ a : Int, 0 ≤ a → (Facts.inB bs a = true ↔ Facts.Come lss zs a)))

set_option maxHeartbeats 8000000 in
set_option maxRecDepth 100000 in
theorem reachable_calls (w : World) (G : Gr) (gn gt gp : Option Addr) (cn ct cp : Nat) (hn : RowS w w.heap.size gn G.names) (ht : RowS w w.heap.size gt G.terms) (hp : RowP w w.heap.size gp G.prods)
    (h1 : G.names.length ≤ 9223372036854775807) (h2 : G.terms.length ≤ 9223372036854775807) (h3 : G.prods.length ≤ 9223372036854775807) (h4 : ∀ x ∈ G.prods, x.2.length ≤ 9223372036854775807) :
    Calls Try.prog 44 #[.agg #[.int .i64 G.start, .int .i64 G.rules, .slice gn G.names.length cn, .slice gt G.terms.length ct, .slice gp G.prods.length cp]] w
      (ReachPost w G (Facts.allT Facts.ntS (List.replicate G.names.length []) G.prods) [G.start]) := by
  have H4 := hid h4
  clear h4
  generalize hres : Facts.allT Facts.ntS (List.replicate G.names.length []) G.prods = res
  have Hres := hid hres
  clear hres
  obtain ⟨i2, hi2, y0, y1, y2⟩ := info_parts intsInfo
  obtain ⟨i3, hi3, z0, z1, z2⟩ := info_parts intInfo
  cases hs : Pl.soundB G with
  | false =>
    have Hs := hid hs
    clear hs
    obtain ⟨st, ru, ns, ts, ps⟩ := G
    simp only at *
    have hb0 : Below w.heap.size w (w.alloc (.cells #[.int .i64 st, .int .i64 ru, .slice gn ns.length cn, .slice gt ts.length ct, .slice gp ps.length cp] 41)) := (Below.refl _ _).alloc (Nat.le_refl _) _
    have hn0' := hn.below hb0
    have ht0' := ht.below hb0
    have hp0' := hp.below hb0
    clear hn ht hp
    go_enter Try.func44, Try.ntmps44
    go_wp2_with (go_at_call 55; refine (sound_is _ _ ⟨st, ru, ns, ts, ps⟩ gn gt gp cn ct cp false Hs.out hn0' ht0' hp0' (by simp) h1 h2 h3 H4.out).mono ?_; rintro e w1 ⟨rfl, hb1⟩)
    go_ret
    exact ⟨hb0.trans (hb1.mono hb0.size), .inl ⟨Hs.out, rfl⟩⟩
  | true =>
    have hsg := sndG hs
    have Hsg := hid hsg
    have Hs := hid hs
    clear hs
    obtain ⟨hn0, hn1, ht1, hp1, hst0, hst1, -, -, -, -, -⟩ := hsg
    obtain ⟨st, ru, ns, ts, ps⟩ := G
    simp only at *
    have hb0 : Below w.heap.size w (w.alloc (.cells #[.int .i64 st, .int .i64 ru, .slice gn ns.length cn, .slice gt ts.length ct, .slice gp ps.length cp] 41)) := (Below.refl _ _).alloc (Nat.le_refl _) _
    have hn0' := hn.below hb0
    have ht0' := ht.below hb0
    have hp0' := hp.below hb0
    have hbk : Bk (w.alloc (.cells #[.int .i64 st, .int .i64 ru, .slice gn ns.length cn, .slice gt ts.length ct, .slice gp ps.length cp] 41)) w.heap.size 41 [.int .i64 st, .int .i64 ru, .slice gn ns.length cn, .slice gt ts.length ct, .slice gp ps.length cp] := Bk.new w _ _
    go_enter Try.func44, Try.ntmps44
    go_upto_region 1 with (fail)
    obtain ⟨wd, hwd⟩ : ∃ wd, wd = (w.alloc (.cells #[.int .i64 st, .int .i64 ru, .slice gn ns.length cn, .slice gt ts.length ct, .slice gp ps.length cp] 41)) := ⟨_, rfl⟩
    obtain ⟨b, hbb⟩ : ∃ b, b = w.heap.size := ⟨_, rfl⟩
    have hzd : wd.heap.size = b + 1 := by rw [hwd, hbb]; simp
    rw [← hwd] at hb0 hn0' ht0' hp0' hbk ⊢
    rw [← hbb] at hbk hn0' ht0' hp0' ⊢
    have Hbb := hid hbb
    have Hzd := hid hzd
    clear hwd hbb hzd hp hn ht
    have g0 := hbk.cell 0
    have g1 := hbk.cell 1
    have g2 := hbk.cell 2
    have g3 := hbk.cell 3
    have g4 := hbk.cell 4
    simp only [List.getElem?_cons_zero, List.getElem?_cons_succ] at g0 g1 g2 g3 g4
    go_upto_region 3 with (go_at_call 55; refine (sound_is wd b ⟨st, ru, ns, ts, ps⟩ gn gt gp cn ct cp true Hs.out hn0' ht0' hp0' (by rw [Hzd.out]; omega) h1 h2 h3 H4.out).mono ?_; rintro e w1 ⟨rfl, hb1⟩)
    have hB1 : Below (b + 1) wd w1 := hb1.mono (by rw [Hzd.out]; omega)
    have hbk1 := hbk.below hB1 (by omega)
    have hz1 : b + 1 ≤ w1.heap.size := by have := hb1.size; rw [Hzd.out] at this; exact this
    clear hb1 g0 g1 g2 g3 g4
    have g2 := hbk1.cell 2
    simp only [List.getElem?_cons_zero, List.getElem?_cons_succ] at g2
    go_upto_region 4 with (at_make; refine wpList_make_bk _ rfl _ _ _ rfl 23 i2 _ Try.underlying52 hi2 y0 y1 rfl _ _ ns.length rfl rfl rfl rfl (by rw [y2]; omega) (by omega) ?_; intro w2 hbo hk2)
    have hB2 : Below (b + 1) wd w2 := hB1.trans (hk2.to_below hz1 (fun k hk => hk.elim))
    obtain ⟨bo, hboe⟩ : ∃ bo, bo = w1.heap.size := ⟨_, rfl⟩
    rw [← hboe] at hbo hz1 ⊢
    have hown : OwnII w2 (bo + 1) 3 bo 23 _ _ := OwnII.made hbo (Nat.lt_succ_self _)
    have hbk2 := hbk.below hB2 (by omega)
    clear g2 hbk1 hB1 hk2 hboe hbo
    have g4 := hbk2.cell 4
    simp only [List.getElem?_cons_zero, List.getElem?_cons_succ] at g4
    go_wp2_with fail
    clear g4 hbk2
    go_loopg [18] ps.length (fun k v18 wr => StpAt wd b bo ns.length Facts.ntS ps res k v18 wr)
    case atStart => exact ⟨0, _, _, rfl, by omega, by simp, hown, by rw [List.drop_zero]; exact Hres.out, fun l hl => by simp at hl; rw [hl.2]; simp, rfl, hB2⟩
    case round =>
      clear hown hB2
      obtain ⟨i, ls, vs, rfl, hi, hln, hown, hu, hle, hk, hb⟩ := hrel
      have Hk := hid hk
      have Hu := hid hu
      have Hle := hid hle
      have Hln := hid hln
      clear hk hu hle hln
      have hzr : bo + 1 ≤ wr.heap.size := hown.bk.lt
      by_cases hlt : i < ps.length
      · have hlt' : (i : Int) < (ps.length : Int) := by omega
        obtain ⟨x, hx⟩ : ∃ x, x = ps[i] := ⟨_, rfl⟩
        have hxm : x ∈ ps := by rw [hx]; exact List.getElem_mem hlt
        have hxi : ps[i]? = some x := by rw [hx]; exact List.getElem?_eq_getElem hlt
        have hr16 := Hsg.out.r16 x hxm
        have hl0 := Hsg.out.l0 x hxm
        have hl1 : x.1 < (ns.length : Int) := Hsg.out.l1 x hxm
        have Hs0 := hid (Hsg.out.r0 x hxm)
        have Hs1 := hid (Hsg.out.r1 x hxm)
        have hu := Hu.out
        rw [List.drop_eq_getElem_cons hlt, ← hx, Facts.allT] at hu
        obtain ⟨g', off, gr, cr, rfl, hg', hd0, hd1, hrid⟩ := hp0' i _ hxi
        have hc0 := (hb.cell (p := ⟨g', off + i * 2, none⟩) (show g' < b + 1 by omega)).trans hd0
        have hc1 := (hb.cell (p := ⟨g', off + i * 2 + 1, none⟩) (show g' < b + 1 by omega)).trans hd1
        obtain ⟨l, r⟩ := x
        simp only at hr16 hl0 hl1 hc0 hc1 hrid hu
        obtain ⟨a, rfl⟩ := Int.eq_ofNat_of_zero_le hl0
        rw [Int.toNat_natCast] at hu
        have Hu := hid hu
        clear hx hxi hxm hd0 hd1 hu
        go_wp2_with fail
        have hxk := Bk.new wr 35 [.int .i64 a, .slice gr r.length cr]
        have hown1 := hown.alloc (.cells #[.int .i64 a, .slice gr r.length cr] 35)
        have hbx : Below (b + 1) wd (wr.alloc (.cells #[.int .i64 a, .slice gr r.length cr] 35)) := hb.alloc (by omega) _
        obtain ⟨wx, hwx⟩ : ∃ wx, wx = wr.alloc (.cells #[.int .i64 a, .slice gr r.length cr] 35) := ⟨_, rfl⟩
        obtain ⟨cx, hcx⟩ : ∃ cx, cx = wr.heap.size := ⟨_, rfl⟩
        rw [← hwx, ← hcx] at hxk
        rw [← hwx] at hown1 hbx
        rw [← hwx, ← hcx]
        have hcb : bo + 1 ≤ cx := by omega
        clear hwx hcx hown hb hc0 hc1 hzr
        go_loopg [25] r.length (fun k v25 wq => StpIn wd b bo ns.length Facts.ntS ps a r i cx [.int .i64 a, .slice gr r.length cr] res k v25 wq)
        case atStart => exact ⟨0, ls, vs, rfl, by omega, Hln.out, hown1, by rw [List.drop_zero]; exact Hu.out, fun l hl => by have := Hle.out l hl; omega, hxk, rfl, hbx⟩
        case round =>
          clear hown1 hbx hxk Hu Hle Hln
          obtain ⟨j, ls, vs, rfl, hj, hln, hown, hu, hle, hxk, hk, hb⟩ := hrel
          have Hkj := hid hk
          have Hle := hid hle
          have Hln := hid hln
          clear hk hle hln
          have hri := hrid.below (hb.mono (by omega))
          have hzr : bo + 1 ≤ wr.heap.size := hown.bk.lt
          by_cases hlj : j < r.length
          · have hlj' : (j : Int) < (r.length : Int) := by omega
            obtain ⟨s, hs⟩ : ∃ s, s = r[j] := ⟨_, rfl⟩
            have hsm : s ∈ r := by rw [hs]; exact List.getElem_mem hlj
            have h0 : -(ts.length : Int) ≤ s := Hs0.out s hsm
            have h1 : s < (ns.length : Int) := Hs1.out s hsm
            obtain ⟨gr, ofr, rfl, hgr, hcr⟩ := hri.at hlj
            rw [← hs] at hcr
            rw [List.drop_eq_getElem_cons hlj, ← hs] at hu
            clear hs hsm
            by_cases hpos : 0 ≤ s
            · rw [show Facts.ntS (s :: r.drop (j + 1)) = s :: Facts.ntS (r.drop (j + 1)) by simp [Facts.ntS, hpos], Facts.appT] at hu
              have ha : a < ls.length := by rw [Hln.out]; omega
              obtain ⟨la, hla⟩ : ∃ la, la = ls[a] := ⟨_, rfl⟩
              have hla' : ls[a]? = some la := by rw [hla]; exact List.getElem?_eq_getElem ha
              rw [show ls.getD a [] = la by simp [List.getD, hla']] at hu
              have hlen := Hle.out la (by rw [hla]; exact List.getElem_mem ha)
              obtain ⟨v, g2, cap2, w2, hv, hcv, hcv1, hrun, hc2, hf2, hput, hvb, hov, hk2, hk3⟩ := hown.app (P := Try.prog) 23 23 i3 Try.underlying23 hi3 z0 z1 z2 hzr hla' (by omega) s 1
              have hvx : ¬ v.ownBlock = some cx := hxk.own_ne hov (by decide)
              have hx0 := hxk.cell 0
              have hx1 := (hxk.alloc (.cells #[.int .i64 s] 3)).cell 0
              have hx2 := (hxk.kp hk2 hvx).cell 0
              simp only [List.getElem?_cons_zero] at hx0 hx1 hx2
              have hxk3 := hxk.kp hk3 (fun e => e.elim (fun e => by omega) hvx)
              have hb3 := hb.trans (hk3.to_below (B := b + 1) (by omega) (fun k e => by
                rcases e with e | e
                · omega
                · have := hvb k e; omega))
              have Hu := hid hu
              have Hput := hid hput
              have Hlen := hid hlen
              have haa : (a : Int) < (ns.length : Int) := hl1
              clear hu hla hla' hv hov hk2 hk3 hput hlen hvx hvb
              go_wp2_with fail
              go_region_law ((refine step_append_run (by rfl) _ _ _ (by rfl) v (.slice (some ⟨wr.heap.size, 0, none⟩) 1 1) _ w2 (by go_simp) (by go_simp) (by exact hrun) ?_))
              all_goals
                go_wp2_with fail
                go_roundg (r.length - (j + 1))
                case measure => have hk := Hkj.out; omega
                case rel =>
                  exact ⟨j + 1, _, _, by go_num, by omega, by rw [List.length_set]; exact Hln.out, Hput.out, Hu.out, fun m hm => by have := mem_set_len (m := 16 * i + j) Hle.out (by simp; exact Hlen.out) m hm; omega, hxk3, rfl, hb3⟩
            · rw [show Facts.ntS (s :: r.drop (j + 1)) = Facts.ntS (r.drop (j + 1)) by simp [Facts.ntS, hpos]] at hu
              have Hu := hid hu
              clear hu
              go_wp2_with fail
              go_roundg (r.length - (j + 1))
              case measure => have hk := Hkj.out; omega
              case rel => exact ⟨j + 1, _, _, by go_num, by omega, Hln.out, hown, Hu.out, fun m hm => by have := Hle.out m hm; omega, hxk, rfl, hb⟩
          · have hge : ¬ (j : Int) < (r.length : Int) := by omega
            rw [List.drop_eq_nil_of_le (by omega)] at hu
            have Hu : Hid (Facts.allT Facts.ntS ls (ps.drop (i + 1)) = res) := hid hu
            clear hu
            go_wp2_with fail
            go_roundg (ps.length - (i + 1))
            case measure => have hk := Hk.out; omega
            case rel => exact ⟨i + 1, _, _, by go_num, by omega, Hln.out, hown, Hu.out, fun m hm => by have := Hle.out m hm; omega, rfl, hb⟩
      · have hge : ¬ (i : Int) < (ps.length : Int) := by omega
        have hu := Hu.out
        rw [List.drop_eq_nil_of_le (by omega), Facts.allT] at hu
        subst hu
        have hbkr := hbk.below hb (by omega)
        have g0 := hbkr.cell 0
        simp only [List.getElem?_cons_zero] at g0
        have hrow := hown.rows
        have hk1 : Kp (fun _ => False) wr (wr.alloc (.cells #[.int .i64 st] 3)) := (Kp.refl _ wr).alloc _
        have hrow1 := hrow.kp hk1 (fun _ _ h => h)
        have hst1' : RowID (wr.alloc (.cells #[.int .i64 st] 3)) (fun k => k = wr.heap.size) (some ⟨wr.heap.size, 0, none⟩) [st] := by
          intro i hi
          have : i = 0 := by simp at hi; omega
          subst this
          exact ⟨wr.heap.size, 0, _, rfl, rfl, (Bk.new wr 3 [.int .i64 st]).cell 0, rfl⟩
        have hmem : ∀ (k : Nat) l, ls[k]? = some l → ∀ s ∈ l, 0 ≤ s ∧ s < (ns.length : Int) := by
          intro k l hkl s hs
          have hm := (Facts.allT_mem Facts.ntS k s ps (List.replicate ns.length []) (fun x hx => ⟨Hsg.out.l0 x hx, by simpa using Hsg.out.l1 x hx⟩)).1 (by rw [Hres.out]; simp [List.getD, hkl]; exact hs)
          rcases hm with hm | ⟨x, hx, -, hm⟩
          · simp [List.getD, List.getElem?_replicate] at hm
            split at hm <;> simp at hm
          · simp [Facts.ntS] at hm
            exact ⟨hm.2, Hsg.out.r1 x hx s hm.1⟩
        have hsum : (ls.map List.length).sum ≤ 100000 := by
          have := Facts.allT_sum Facts.ntS 16 ps (List.replicate ns.length []) (fun x hx => Nat.le_trans (List.length_filter_le _ _) (Hsg.out.r16 x hx))
          rw [Hres.out] at this
          simp at this
          omega
        have Hmem := hid hmem
        have Hsum := hid hsum
        have hwz : w.heap.size ≤ (wr.alloc (.cells #[.int .i64 st] 3)).heap.size := by have := (hb0.trans (hb.mono (by rw [← Hbb.out]; omega))).size; simp; omega
        clear hmem hsum hk1 hrow hbkr
        go_wp2_with (go_at_call 62; refine (spread_calls _ _ _ (some ⟨bo, 0, none⟩) (some ⟨wr.heap.size, 0, none⟩) ns.length 1 ns.length ls [st] hrow1 Hln.out (by omega) hst1' (by simp) (fun k hk => by have := hk.2; simp; omega) Hmem.out (fun a ha => by simp at ha; subst ha; exact ⟨hst0, hst1⟩) (by have := Hsum.out; simp; omega)).mono ?_; rintro e w4 ⟨ba, bs, rfl, hba, hbl, hkb, hcm, hb4⟩)
        go_ret
        exact ⟨(hb0.trans (hb.mono (by rw [← Hbb.out]; omega))).trans ((((Below.refl w.heap.size wr).alloc (by have := (hb0.trans (hb.mono (by rw [← Hbb.out]; omega))).size; omega) (.cells #[.int .i64 st] 3))).trans (hb4.mono hwz)), .inr ⟨Hs.out, _, _, bs, rfl, hbl, bk_rowB hkb, hcm⟩⟩
end Go.Proofs.Ytbpgolmbielpgaa
