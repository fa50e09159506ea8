/- Chapter 9 (facts): what a sound grammar is; length; add (the closure in close); uses. -/
import Derived.Test.YtaehooafdbaomaaGin
import Derived.Test.YtaehooafdbaomaaOwnII
import Derived.Test.YtaehooafdbaomaaMake
import Derived.Deep.RegionLaw
namespace Go.Proofs.Ytaehooafdbaomaa
open Go.RowKit
attribute [local go_sem ↓] Go.wp_at_zero Go.wp_at_succ
attribute [local go_sem] frozen_alloc_lt

theorem boolInfo : (Try.prog.info? 4).map (fun i => (i.zero, i.size, i.bytes)) = some (some (.bool false), 1, 1) := by kernel_rfl

namespace Facts
def bound : Int := 1099511627776
/-- The length of a right side over what is known, from n on; none where a symbol is known to derive nothing. -/
def lengthS (ks : List Int) : List Int → Int → Option Int
  | [], n => some n
  | s :: r, n =>
    let k := if 0 ≤ s then ks.getD s.toNat 0 else 1
    if k < 0 then none else lengthS ks r (min (n + k) bound)

def stepU (ls : List (List Int)) (i s : Int) : List (List Int) := if 0 ≤ s then ls.set s.toNat (ls.getD s.toNat [] ++ [i]) else ls
def rowU (ls : List (List Int)) (i : Int) : List Int → List (List Int)
  | [] => ls
  | s :: r => rowU (stepU ls i s) i r
def usesS (ls : List (List Int)) (i : Nat) : List (Int × List Int) → List (List Int)
  | [] => ls
  | x :: r => usesS (rowU ls i x.2) (i + 1) r
end Facts

def LenAt (ks zs : List Int) (res : Option Int) (w0 : World) (k : Nat) (v6 v13 : Value) (w : World) : Prop :=
  ∃ (i : Nat) (n : Int), v13 = .int .i64 i ∧ v6 = .int .i64 n ∧ i ≤ zs.length ∧ 0 ≤ n ∧ n ≤ 1099511627776 ∧ Facts.lengthS ks (zs.drop i) n = res ∧ k = zs.length - i ∧ w = w0

def lenV : Option Int → Value
  | none => .tuple #[.int .i64 0, .bool false]
  | some n => .tuple #[.int .i64 n, .bool true]

set_option maxHeartbeats 2000000 in
theorem length_calls (w : World) (left : Int) (ga gk : Option Addr) (cap capk : Nat) (zs ks : List Int) (hz : RowI w w.heap.size ga zs) (hk : RowI w w.heap.size gk ks)
    (hzl : zs.length ≤ 70000) (_hkl : ks.length ≤ 70000) (hin : ∀ s ∈ zs, s < ks.length) (hlo : ∀ s ∈ zs, -70000 ≤ s) (hkb : ∀ k ∈ ks, -1 ≤ k ∧ k ≤ 1099511627776) :
    Calls Try.prog 100 #[.agg #[.int .i64 left, .slice ga zs.length cap], .slice gk ks.length capk] w fun e w' =>
      e = .returned (lenV (Facts.lengthS ks zs 0)) ∧ w' = w.alloc (.cells #[.int .i64 left, .slice ga zs.length cap] 97) := by
  generalize hres : Facts.lengthS ks zs 0 = res
  have Hres := hid hres
  clear hres
  have hb1 : Below w.heap.size w (w.alloc (.cells #[.int .i64 left, .slice ga zs.length cap] 97)) := (Below.refl _ _).alloc (Nat.le_refl _) _
  have hz1 := hz.below hb1
  have hk1 := hk.below hb1
  go_enter Try.func100, Try.ntmps100
  go_wp2_with fail
  obtain ⟨wd, hwd⟩ : ∃ wd, wd = w.alloc (.cells #[.int .i64 left, .slice ga zs.length cap] 97) := ⟨_, rfl⟩
  rw [← hwd] at hz1 hk1 hb1 ⊢
  obtain ⟨bb, hbb⟩ : ∃ bb, bb = w.heap.size := ⟨_, rfl⟩
  rw [← hbb] at hz1 hk1 ⊢
  have Hwd := hid hwd
  clear hwd hbb
  go_loopg [6, 13] zs.length (fun k v6 v13 wr => LenAt ks zs res wd k v6 v13 wr)
  case atStart => exact ⟨0, 0, rfl, rfl, by omega, by omega, by omega, by rw [List.drop_zero]; exact Hres.out, rfl, rfl⟩
  case round =>
    obtain ⟨i, n, rfl, rfl, hi, hn0, hn1, hl, hkk, rfl⟩ := hrel
    have Hk := hid hkk
    clear hkk
    by_cases hlt : i < zs.length
    · have hlt' : (i : Int) < (zs.length : Int) := by omega
      obtain ⟨s, hs⟩ : ∃ s, s = zs[i] := ⟨_, rfl⟩
      have hmem : s ∈ zs := by rw [hs]; exact List.getElem_mem hlt
      have h1 := hin s hmem
      have h2 := hlo s hmem
      obtain ⟨g, off, rfl, hg, hc⟩ := hz1.at hlt
      rw [← hs] at hc
      rw [List.drop_eq_getElem_cons hlt, ← hs] at hl
      simp only [Facts.lengthS] at hl
      clear hs hmem
      by_cases h0 : 0 ≤ s
      · obtain ⟨m, rfl⟩ := Int.eq_ofNat_of_zero_le h0
        have hm : m < ks.length := by omega
        have hm' : (m : Int) < (ks.length : Int) := by omega
        obtain ⟨kv, hkv⟩ : ∃ kv, kv = ks[m] := ⟨_, rfl⟩
        have hkv2 := hkb kv (by rw [hkv]; exact List.getElem_mem hm)
        obtain ⟨g2, off2, rfl, hg2, hc2⟩ := hk1.at hm
        rw [← hkv] at hc2
        have hget : ks.getD m 0 = kv := by simp [List.getD, hkv, List.getElem?_eq_getElem hm]
        rw [if_pos h0, show ((m : Int)).toNat = m by simp, hget] at hl
        clear hkv hget
        by_cases hneg : kv < 0
        · rw [if_pos hneg] at hl
          have Hl := hid hl
          clear hl
          go_wp2_with fail
          go_ret2
          rw [← Hl.out, ← Hwd.out]
          exact ⟨rfl, rfl⟩
        · rw [if_neg hneg] at hl
          have Hl := hid hl
          have hnn : (0 : Int) ≤ kv := by omega
          clear hl
          go_wp2_with fail
          all_goals
            go_roundg (zs.length - (i + 1))
            case measure => have hk := Hk.out; omega
            case rel =>
              first
                | exact ⟨i + 1, n + kv, by go_num, rfl, by omega, by omega, by omega, by rw [show n + kv = min (n + kv) Facts.bound by unfold Facts.bound; omega]; exact Hl.out, rfl, rfl⟩
                | exact ⟨i + 1, 1099511627776, by go_num, rfl, by omega, by omega, by omega, by rw [show (1099511627776 : Int) = min (n + kv) Facts.bound by unfold Facts.bound; omega]; exact Hl.out, rfl, rfl⟩
      · rw [if_neg h0, if_neg (by omega)] at hl
        have Hl := hid hl
        clear hl
        go_wp2_with fail
        all_goals
          go_roundg (zs.length - (i + 1))
          case measure => have hk := Hk.out; omega
          case rel =>
            first
              | exact ⟨i + 1, n + 1, by go_num, rfl, by omega, by omega, by omega, by rw [show n + 1 = min (n + 1) Facts.bound by unfold Facts.bound; omega]; exact Hl.out, rfl, rfl⟩
              | exact ⟨i + 1, 1099511627776, by go_num, rfl, by omega, by omega, by omega, by rw [show (1099511627776 : Int) = min (n + 1) Facts.bound by unfold Facts.bound; omega]; exact Hl.out, rfl, rfl⟩
    · have hge : ¬ (i : Int) < (zs.length : Int) := by omega
      rw [List.drop_eq_nil_of_le (by omega)] at hl
      have Hl := hid hl
      clear hl
      go_wp2_with fail
      go_ret2
      rw [← Hl.out, ← Hwd.out]
      exact ⟨rfl, rfl⟩
end Go.Proofs.Ytaehooafdbaomaa
/- Chapter 9 (facts): uses; the closure add. -/
namespace Go.Proofs.Ytaehooafdbaomaa
open Go.RowKit
attribute [local go_sem ↓] Go.wp_at_zero Go.wp_at_succ
attribute [local go_sem] frozen_alloc_lt

def UsesAt (wd : World) (b bo n : Nat) (ps : List (Int × List Int)) (res : List (List Int)) (k : Nat) (v15 : Value) (w : World) : Prop :=
  ∃ (i : Nat) (ls : List (List Int)) (vs : List Value), v15 = .int .i64 i ∧ i ≤ ps.length ∧ ls.length = n ∧ OwnII w (bo + 1) 3 bo 22 ls vs ∧ Facts.usesS ls i (ps.drop i) = res ∧
    (∀ l ∈ ls, l.length ≤ 16 * i) ∧ k = ps.length - i ∧ Below (b + 1) wd w
def UsesIn (wd : World) (b bo n : Nat) (ps : List (Int × List Int)) (r : List Int) (i : Nat) (res : List (List Int)) (k : Nat) (v23 : Value) (w : World) : Prop :=
  ∃ (j : Nat) (ls : List (List Int)) (vs : List Value), v23 = .int .i64 j ∧ j ≤ r.length ∧ ls.length = n ∧ OwnII w (bo + 1) 3 bo 22 ls vs ∧
    Facts.usesS (Facts.rowU ls i (r.drop j)) (i + 1) (ps.drop (i + 1)) = res ∧ (∀ l ∈ ls, l.length ≤ 16 * i + j) ∧ k = r.length - j ∧ Below (b + 1) wd w

/-- A row of rows in new blocks. -/
def IIPost (w : World) (n : Nat) (ls : List (List Int)) (e : Ending) (w' : World) : Prop :=
  ∃ (g cap : Nat), e = .returned (.slice (some ⟨g, 0, none⟩) n cap) ∧ RowIID w' (fun k => w.heap.size ≤ k ∧ k < w'.heap.size) (some ⟨g, 0, none⟩) ls ∧ Below w.heap.size w w'

theorem mem_set_len {ls : List (List Int)} {a : Nat} {l' : List Int} {m : Nat} (h : ∀ l ∈ ls, l.length ≤ m) (hl : l'.length ≤ m + 1) : ∀ l ∈ ls.set a l', l.length ≤ m + 1 := by
  intro l hl'
  rcases List.mem_or_eq_of_mem_set hl' with h1 | h1
  · have := h l h1; omega
  · rw [h1]; exact hl

set_option maxHeartbeats 4000000 in
set_option maxRecDepth 8000 in
theorem uses_calls (w : World) (G : Gr) (gn gt gp : Option Addr) (cn ct cp : Nat) (hp : RowP w w.heap.size gp G.prods) (hs : SndG G) :
    Calls Try.prog 137 #[.agg #[.int .i64 G.start, .int .i64 G.rules, .slice gn G.names.length cn, .slice gt G.terms.length ct, .slice gp G.prods.length cp]] w fun e w' =>
      IIPost w G.names.length (Facts.usesS (List.replicate G.names.length []) 0 G.prods) e w' := by
  generalize hres : Facts.usesS (List.replicate G.names.length []) 0 G.prods = res
  have Hres := hid hres
  have Hs := hid hs
  clear hres
  obtain ⟨i2, hi2, y0, y1, y2⟩ := info_parts intsInfo
  obtain ⟨i3, hi3, z0, z1, z2⟩ := info_parts intInfo
  obtain ⟨hn0, hn1, ht1, hp1, -, -, -, -, -, -, -⟩ := hs
  obtain ⟨st, ru, ns, ts, ps⟩ := G
  simp only at *
  have hb0 : Below w.heap.size w (w.alloc (.cells #[.int .i64 st, .int .i64 ru, .slice gn ns.length cn, .slice gt ts.length ct, .slice gp ps.length cp] 30)) := (Below.refl _ _).alloc (Nat.le_refl _) _
  have hp0 := hp.below hb0
  have hbk : Bk (w.alloc (.cells #[.int .i64 st, .int .i64 ru, .slice gn ns.length cn, .slice gt ts.length ct, .slice gp ps.length cp] 30)) w.heap.size 30 [.int .i64 st, .int .i64 ru, .slice gn ns.length cn, .slice gt ts.length ct, .slice gp ps.length cp] := Bk.new w _ _
  go_enter Try.func137, Try.ntmps137
  go_upto_region 1 with (fail)
  obtain ⟨wd, hwd⟩ : ∃ wd, wd = (w.alloc (.cells #[.int .i64 st, .int .i64 ru, .slice gn ns.length cn, .slice gt ts.length ct, .slice gp ps.length cp] 30)) := ⟨_, rfl⟩
  obtain ⟨b, hbb⟩ : ∃ b, b = w.heap.size := ⟨_, rfl⟩
  have hzd : wd.heap.size = b + 1 := by rw [hwd, hbb]; simp
  rw [← hwd] at hb0 hp0 hbk ⊢
  rw [← hbb] at hbk hp0 ⊢
  have Hbb := hid hbb
  have Hzd := hid hzd
  clear hwd hbb hzd hp
  have g2 := hbk.cell 2
  have g4 := hbk.cell 4
  simp only [List.getElem?_cons_zero, List.getElem?_cons_succ] at g2 g4
  go_upto_region 2 with (at_make; refine wpList_make_bk _ rfl _ _ _ rfl 22 i2 _ Try.underlying23 hi2 y0 y1 rfl _ _ ns.length rfl rfl rfl rfl (by rw [y2]; omega) (by omega) ?_; intro w1 hbo hk1)
  have hb1 : Below (b + 1) wd w1 := hk1.to_below (by rw [Hzd.out]; omega) (fun k hk => hk.elim)
  have hbo' : b + 1 ≤ wd.heap.size := by rw [Hzd.out]; omega
  obtain ⟨bo, hboe⟩ : ∃ bo, bo = wd.heap.size := ⟨_, rfl⟩
  rw [← hboe] at hbo hbo' ⊢
  clear hboe hk1
  have hown : OwnII w1 (bo + 1) 3 bo 22 _ _ := OwnII.made hbo (Nat.lt_succ_self _)
  have hbk1 := hbk.below hb1 (by omega)
  have hp1' := hp0.below (hb1.mono (by omega))
  clear hbk hbo g2 g4
  have g4 := hbk1.cell 4
  simp only [List.getElem?_cons_zero, List.getElem?_cons_succ] at g4
  go_wp2_with fail
  go_loopg [15] ps.length (fun k v15 wr => UsesAt wd b bo ns.length ps res k v15 wr)
  case atStart => exact ⟨0, _, _, rfl, by omega, by simp, hown, by rw [List.drop_zero]; exact Hres.out, fun l hl => by simp at hl; rw [hl.2]; simp, rfl, hb1⟩
  case round =>
    clear hown hb1 hbk1 hp1' g4
    obtain ⟨i, ls, vs, rfl, hi, hln, hown, hu, hle, hk, hb⟩ := hrel
    have Hk := hid hk
    have Hu := hid hu
    have Hle := hid hle
    have Hln := hid hln
    clear hk hu hle hln
    have hpr := hp0.below (hb.mono (by omega))
    by_cases hlt : i < ps.length
    · have hlt' : (i : Int) < (ps.length : Int) := by omega
      obtain ⟨x, hx⟩ : ∃ x, x = ps[i] := ⟨_, rfl⟩
      have hxm : x ∈ ps := by rw [hx]; exact List.getElem_mem hlt
      have hxi : ps[i]? = some x := by rw [hx]; exact List.getElem?_eq_getElem hlt
      have hr16 := Hs.out.r16 x hxm
      have hs0 := Hs.out.r0 x hxm
      have hs1 := Hs.out.r1 x hxm
      have hu := Hu.out
      rw [List.drop_eq_getElem_cons hlt, ← hx, Facts.usesS] at hu
      obtain ⟨l, r⟩ := x
      simp only at hu hr16 hs0 hs1
      obtain ⟨g, off, gr, cr, rfl, hg, hc0, hc1, hri⟩ := hpr i _ hxi
      simp only at hc0 hc1 hri
      have Hu := hid hu
      have Hs0 := hid hs0
      have Hs1 := hid hs1
      clear hx hxi hxm hu hs0 hs1
      go_wp2_with fail
      have hbx : Below (b + 1) wd (wr.alloc (.cells #[.int .i64 l, .slice gr r.length cr] 97)) := hb.alloc (by have := hb.size; rw [Hzd.out] at this; exact this) _
      have hown1 := hown.alloc (.cells #[.int .i64 l, .slice gr r.length cr] 97)
      have hri1 : RowI (wr.alloc (.cells #[.int .i64 l, .slice gr r.length cr] 97)) b gr r := hri.below ((Below.refl b wr).alloc (by have := hb.size; rw [Hzd.out] at this; omega) _)
      obtain ⟨wx, hwx⟩ : ∃ wx, wx = wr.alloc (.cells #[.int .i64 l, .slice gr r.length cr] 97) := ⟨_, rfl⟩
      rw [← hwx] at hbx hown1 hri1 ⊢
      clear hwx hri hown hb hc0 hc1 hpr
      obtain ⟨cx, hcx⟩ : ∃ cx, cx = wr.heap.size := ⟨_, rfl⟩
      rw [← hcx]
      clear hcx
      go_loopg [23] r.length (fun k v23 wq => UsesIn wd b bo ns.length ps r i res k v23 wq ∧ RowI wq b gr r)
      case atStart => exact ⟨⟨0, ls, vs, rfl, by omega, Hln.out, hown1, by rw [List.drop_zero]; exact Hu.out, fun l hl => by have := Hle.out l hl; omega, rfl, hbx⟩, hri1⟩
      case round =>
        clear hown1 hbx hri1 Hu Hle Hln
        obtain ⟨⟨j, ls, vs, rfl, hj, hln, hown, hu, hle, hk, hb⟩, hri⟩ := hrel
        have Hkj := hid hk
        have Hle := hid hle
        clear hk hle
        by_cases hlj : j < r.length
        · have hlj' : (j : Int) < (r.length : Int) := by omega
          obtain ⟨s, hs⟩ : ∃ s, s = r[j] := ⟨_, rfl⟩
          have hsm : s ∈ r := by rw [hs]; exact List.getElem_mem hlj
          have h0 := Hs0.out s hsm
          have h1 := Hs1.out s hsm
          obtain ⟨gr, ofr, rfl, hgr, hcr⟩ := hri.at hlj
          rw [← hs] at hcr
          rw [List.drop_eq_getElem_cons hlj, ← hs, Facts.rowU, Facts.stepU] at hu
          clear hs hsm
          by_cases hpos : 0 ≤ s
          · obtain ⟨a, rfl⟩ := Int.eq_ofNat_of_zero_le hpos
            rw [if_pos hpos, show ((a : Int)).toNat = a by simp] at hu
            have ha : a < ls.length := by omega
            have ha' : (a : Int) < (ns.length : Int) := by omega
            obtain ⟨la, hla⟩ : ∃ la, la = ls[a] := ⟨_, rfl⟩
            have hla' : ls[a]? = some la := by rw [hla]; exact List.getElem?_eq_getElem ha
            rw [show ls.getD a [] = la by simp [List.getD, hla']] at hu
            have hlen := Hle.out la (by rw [hla]; exact List.getElem_mem ha)
            obtain ⟨v, hv, hcv, hov⟩ := hown.at hla'
            have Hu := hid hu
            have Hla := hid hla'
            have Hv := hid hv
            have Hlen := hid hlen
            have hbq : b + 1 ≤ wr.heap.size := by have := hb.size; rw [Hzd.out] at this; omega
            have hfr := hown.bk.free a
            have hlt := hown.bk.lt
            have Hln := hid hln
            have hzz : bo + 1 ≤ wr.heap.size := by omega
            have hne := hown.ne hv
            clear hu hla hla' hv hln hlen
            go_wp2_with (at_builtin; refine wpList_append_one _ rfl _ _ _ rfl (bo + 1) 3 i3 _ Try.underlying22 hi3 z0 z1 (by rw [z2]; omega) rfl v la.length _ rfl (hov.alloc _) ⟨wr.heap.size, 0, none⟩ (.int .i64 i) rfl (by simp) rfl (by have := Hlen.out; omega) (by simp; omega) (wr.heap.size + 1) (by simp) ?_; intro g2 cap2 w2 hown2 hgr2 hat2 hlt2; have hbk2 := (hown.alloc (.cells #[.int .i64 i] 3)).bk.grown hgr2 hne; have hc2 := hbk2.cell a; have hf2 := hbk2.free a; rw [Hv.out] at hc2)
            have hvlt := hown.lt v (List.mem_of_getElem? Hv.out)
            have hst : Below (b + 1) wr (w2.setCell ⟨bo, a, none⟩ (.slice (some ⟨g2, 0, none⟩) (la.length + 1) cap2)) :=
              (((Below.refl _ wr).alloc hbq _).grown hgr2 (by simp; omega) (fun k hk => by have := (hvlt k hk).1; omega)).setCell (p := ⟨bo, a, none⟩) hbo' _
            go_roundg (r.length - (j + 1))
            case measure => have hk := Hkj.out; omega
            case rel =>
              exact ⟨⟨j + 1, _, _, by go_num, by omega, by rw [List.length_set]; exact Hln.out, (hown.alloc _).put Hla.out Hv.out hgr2 (by rw [List.map_append]; exact hown2) ⟨g2, rfl, by rcases hat2 with h | h; exact .inl h; exact .inr (by simp; omega)⟩,
                Hu.out, fun m hm => by have := mem_set_len (m := 16 * i + j) Hle.out (by simp; exact Hlen.out) m hm; omega, rfl, hb.trans hst⟩, hri.below (hst.mono (by omega))⟩
          · rw [if_neg hpos] at hu
            have Hu := hid hu
            have Hln := hid hln
            clear hu hln
            go_wp2_with fail
            go_roundg (r.length - (j + 1))
            case measure => have hk := Hkj.out; omega
            case rel => exact ⟨⟨j + 1, _, _, by go_num, by omega, Hln.out, hown, Hu.out, fun m hm => by have := Hle.out m hm; omega, rfl, hb⟩, hri⟩
        · have hge : ¬ (j : Int) < (r.length : Int) := by omega
          rw [List.drop_eq_nil_of_le (by omega), Facts.rowU] at hu
          have Hu := hid hu
          have Hln := hid hln
          clear hu hln
          go_wp2_with fail
          go_roundg (ps.length - (i + 1))
          case measure => have hk := Hk.out; omega
          case rel => exact ⟨i + 1, _, _, by go_num, by omega, Hln.out, hown, Hu.out, fun m hm => by have := Hle.out m hm; omega, rfl, hb⟩
    · have hge : ¬ (i : Int) < (ps.length : Int) := by omega
      have hu := Hu.out
      rw [List.drop_eq_nil_of_le (by omega), Facts.usesS] at hu
      have Hu := hid hu
      clear hu
      go_wp2_with fail
      go_ret
      have hr := hown.rows
      rw [Hu.out] at hr
      exact ⟨bo, ns.length, rfl, hr.mono (fun k hk => ⟨by rw [← Hbb.out]; omega, hk.2⟩), hb0.trans (hb.mono (by rw [← Hbb.out]; omega))⟩
end Go.Proofs.Ytaehooafdbaomaa
/- Chapter 9 (facts), plain law: the closure by counters is the least one. No program. -/
namespace Go.Proofs.Ytaehooafdbaomaa

namespace Facts
/-- A nonterminal is in the set where all symbols of one of its productions are; of terminals T says so. -/
inductive Gen (ps : List (Int × List Int)) (T : Bool) : Int → Prop
  | mk (x : Int × List Int) (hx : x ∈ ps) (h0 : ∀ s ∈ x.2, s < 0 → T = true) (h1 : ∀ s ∈ x.2, 0 ≤ s → Gen ps T s) : Gen ps T x.1

def inB (bs : List Bool) (x : Int) : Bool := bs.getD x.toNat false
def openS (T : Bool) (dn : Int → Bool) (x : Int) : Bool := if x < 0 then !T else !dn x
/-- In the set, and its uses have been looked at. -/
def dnS (bs : List Bool) (work : List Int) (x : Int) : Bool := inB bs x && !work.contains x

def addB (bs : List Bool) (l : Int) : List Bool := if inB bs l then bs else bs.set l.toNat true
def addW (bs : List Bool) (work : List Int) (l : Int) : List Int := if inB bs l then work else work ++ [l]

theorem inB_set (bs : List Bool) (l x : Int) (hl : 0 ≤ l) (hn : l.toNat < bs.length) (hx : 0 ≤ x) : inB (bs.set l.toNat true) x = (x == l || inB bs x) := by
  unfold inB
  by_cases h : x = l
  · subst h
    simp [List.getD, List.getElem?_set_self hn]
  · have : l.toNat ≠ x.toNat := by omega
    simp [List.getD, List.getElem?_set_ne this, h]

theorem inB_addB (bs : List Bool) (l x : Int) (hl : 0 ≤ l) (hn : l.toNat < bs.length) (hx : 0 ≤ x) : inB (addB bs l) x = (x == l || inB bs x) := by
  unfold addB
  by_cases h : inB bs l = true
  · rw [if_pos h]
    by_cases hxl : x = l
    · subst hxl; simp [h]
    · simp [hxl]
  · rw [if_neg h]; exact inB_set bs l x hl hn hx

theorem addB_length (bs : List Bool) (l : Int) : (addB bs l).length = bs.length := by unfold addB; split <;> simp

theorem dnS_add (bs : List Bool) (work : List Int) (l x : Int) (hl : 0 ≤ l) (hn : l.toNat < bs.length) (hx : 0 ≤ x) : dnS (addB bs l) (addW bs work l) x = dnS bs work x := by
  unfold dnS
  rw [inB_addB bs l x hl hn hx]
  unfold addW
  by_cases h : inB bs l = true
  · rw [if_pos h]
    by_cases hxl : x = l
    · subst hxl; simp [h]
    · have e : (x == l) = false := by simpa using hxl
      simp [e]
  · rw [if_neg h]
    by_cases hxl : x = l
    · subst hxl
      simp only [Bool.not_eq_true] at h
      simp [h]
    · have e : (x == l) = false := by simpa using hxl
      simp [e, hxl]

theorem countP_congr' {p q : Int → Bool} : ∀ (r : List Int), (∀ s ∈ r, p s = q s) → r.countP p = r.countP q
  | [], _ => rfl
  | x :: r, h => by
    rw [List.countP_cons, List.countP_cons, h x (by simp), countP_congr' r (fun s hs => h s (by simp [hs]))]

theorem openS_congr {T : Bool} {d d' : Int → Bool} (h : ∀ x, 0 ≤ x → d x = d' x) (s : Int) : openS T d s = openS T d' s := by
  unfold openS
  split
  · rfl
  · rw [h s (by omega)]

/-- What holds of the set, the counters and the work list; s is being looked at, 'done' of its uses are behind. -/
structure Inv (ps : List (Int × List Int)) (T : Bool) (n : Nat) (bs : List Bool) (ms : List Int) (work : List Int) (ex : Int → Bool) (dn : List Int) : Prop where
  lb : bs.length = n
  lm : ms.length = ps.length
  sound : ∀ a : Int, 0 ≤ a → inB bs a = true → Gen ps T a
  win : ∀ s ∈ work, 0 ≤ s ∧ s < n ∧ inB bs s = true
  nodup : work.Nodup
  cnt : ∀ (i : Nat) x, ps[i]? = some x → ms.getD i 0 = (x.2.countP (openS T (fun y => dnS bs work y && !ex y)) : Int) - dn.count (i : Int)
  zero : ∀ (i : Nat) x, ps[i]? = some x → ms.getD i 0 = 0 → inB bs x.1 = true

/-- While the counters are first filled: those of productions before j are. -/
structure Inv0 (ps : List (Int × List Int)) (T : Bool) (n : Nat) (bs : List Bool) (ms : List Int) (work : List Int) (j : Nat) : Prop where
  lb : bs.length = n
  lm : ms.length = ps.length
  sound : ∀ a : Int, 0 ≤ a → inB bs a = true → Gen ps T a
  win : ∀ s ∈ work, 0 ≤ s ∧ s < n ∧ inB bs s = true
  nodup : work.Nodup
  none : ∀ a : Int, 0 ≤ a → dnS bs work a = false
  cnt : ∀ (i : Nat) x, ps[i]? = some x → i < j → ms.getD i 0 = (x.2.countP (openS T (fun _ => false)) : Int)
  rest : ∀ i : Nat, j ≤ i → ms.getD i 0 = 0
  zero : ∀ (i : Nat) x, ps[i]? = some x → i < j → ms.getD i 0 = 0 → inB bs x.1 = true

section
variable {ps : List (Int × List Int)} {T : Bool} {n : Nat} {bs : List Bool} {ms work us : List Int} {ex : Int → Bool} {dn : List Int} {j : Nat} {s : Int}

theorem Inv0.start (ps : List (Int × List Int)) (T : Bool) (n : Nat) : Inv0 ps T n (List.replicate n false) (List.replicate ps.length 0) [] 0 := by
  have hb : ∀ a : Int, inB (List.replicate n false) a = false := by
    intro a
    unfold inB
    simp [List.getD, List.getElem?_replicate]
    split <;> simp
  refine ⟨by simp, by simp, fun a _ h => (by rw [hb] at h; cases h), by simp, List.nodup_nil, fun a _ => by unfold dnS; rw [hb]; rfl, fun i x _ h => by omega, fun i _ => ?_, fun i x _ h => by omega⟩
  simp [List.getD, List.getElem?_replicate]
  split <;> simp

theorem nodup_addW (hw : work.Nodup) (hi : ∀ s ∈ work, 0 ≤ s ∧ s < n ∧ inB bs s = true) (l : Int) : (addW bs work l).Nodup := by
  unfold addW
  split
  · exact hw
  · rename_i h
    rw [List.nodup_append]
    refine ⟨hw, by simp, fun a ha b hb => ?_⟩
    simp at hb
    subst hb
    rintro rfl
    exact h (hi a ha).2.2

theorem win_add (hi : ∀ s ∈ work, 0 ≤ s ∧ s < n ∧ inB bs s = true) (hlb : bs.length = n) {l : Int} (h0 : 0 ≤ l) (h1 : l < n) : ∀ s ∈ addW bs work l, 0 ≤ s ∧ s < n ∧ inB (addB bs l) s = true := by
  intro s hs
  have hn : l.toNat < bs.length := by omega
  have : s ∈ work ∨ s = l := by
    unfold addW at hs
    split at hs
    · exact .inl hs
    · simpa using hs
  rcases this with h | rfl
  · obtain ⟨a, b, c⟩ := hi s h
    exact ⟨a, b, by rw [inB_addB bs l s h0 hn a]; simp [c]⟩
  · exact ⟨h0, h1, by rw [inB_addB bs s s h0 hn h0]; simp⟩

/-- The counter of production j is filled; its left side is added where that is nought. -/
theorem Inv0.step (h : Inv0 ps T n bs ms work j) {x : Int × List Int} (hx : ps[j]? = some x) (h0 : 0 ≤ x.1) (h1 : x.1 < n) (c : Nat) (hc : c = x.2.countP (openS T (fun _ => false))) :
    Inv0 ps T n (if c = 0 then addB bs x.1 else bs) (ms.set j (c : Int)) (if c = 0 then addW bs work x.1 else work) (j + 1) := by
  have hjm : j < ms.length := by rw [h.lm]; exact (List.getElem?_eq_some_iff.1 hx).1
  have hn : x.1.toNat < bs.length := by rw [h.lb]; omega
  have hcnt : ∀ (i : Nat) y, ps[i]? = some y → i < j + 1 → (ms.set j (c : Int)).getD i 0 = (y.2.countP (openS T (fun _ => false)) : Int) := by
    intro i y hy hi
    by_cases hij : i = j
    · subst hij
      rw [hx] at hy; cases hy
      simp [List.getD, List.getElem?_set_self hjm, hc]
    · rw [← h.cnt i y hy (by omega)]
      simp [List.getD, List.getElem?_set_ne (Ne.symm hij)]
  have hrest : ∀ i : Nat, j + 1 ≤ i → (ms.set j (c : Int)).getD i 0 = 0 := by
    intro i hi
    have e1 : (ms.set j (c : Int)).getD i 0 = ms.getD i 0 := by simp [List.getD, List.getElem?_set_ne (show j ≠ i by omega)]
    rw [e1]
    exact h.rest i (by omega)
  by_cases hc0 : c = 0
  · rw [if_pos hc0, if_pos hc0]
    have hgen : Gen ps T x.1 := by
      refine Gen.mk x (List.mem_of_getElem? hx) (fun s hs hs0 => ?_) (fun s hs hs0 => ?_)
      · have := List.countP_eq_zero.1 (hc ▸ hc0 : x.2.countP (openS T (fun _ => false)) = 0) s hs
        simp [openS, hs0] at this
        exact this
      · have := List.countP_eq_zero.1 (hc ▸ hc0 : x.2.countP (openS T (fun _ => false)) = 0) s hs
        simp [openS, show ¬ s < 0 by omega] at this
    refine ⟨by rw [addB_length]; exact h.lb, by rw [List.length_set]; exact h.lm, fun a ha hb => ?_, win_add h.win h.lb h0 h1, nodup_addW h.nodup h.win _, fun a ha => ?_, hcnt, hrest, fun i y hy hi hz => ?_⟩
    · rw [inB_addB bs x.1 a h0 hn ha] at hb
      by_cases e : a = x.1
      · rw [e]; exact hgen
      · simp [e] at hb; exact h.sound a ha hb
    · rw [dnS_add bs work x.1 a h0 hn ha]; exact h.none a ha
    · by_cases hij : i = j
      · subst hij
        rw [hx] at hy; cases hy
        rw [inB_addB bs x.1 x.1 h0 hn h0]; simp
      · have hz' : ms.getD i 0 = 0 := by
          have : (ms.set j (c : Int)).getD i 0 = ms.getD i 0 := by simp [List.getD, List.getElem?_set_ne (Ne.symm hij)]
          rw [← this]; exact hz
        have hy0 := h.zero i y hy (by omega) hz'
        by_cases hneg : 0 ≤ y.1
        · rw [inB_addB bs x.1 y.1 h0 hn hneg]; simp [hy0]
        · unfold inB at hy0 ⊢
          rw [show y.1.toNat = (0 : Int).toNat by omega] at hy0 ⊢
          have := inB_addB bs x.1 0 h0 hn (by omega)
          unfold inB at this
          rw [this, hy0]; simp
  · rw [if_neg hc0, if_neg hc0]
    refine ⟨h.lb, by rw [List.length_set]; exact h.lm, h.sound, h.win, h.nodup, h.none, hcnt, hrest, fun i y hy hi hz => ?_⟩
    by_cases hij : i = j
    · subst hij
      rw [hcnt i y hy hi] at hz
      rw [hx] at hy; cases hy
      omega
    · have hz' : ms.getD i 0 = 0 := by
        have : (ms.set j (c : Int)).getD i 0 = ms.getD i 0 := by simp [List.getD, List.getElem?_set_ne (Ne.symm hij)]
        rw [← this]; exact hz
      exact h.zero i y hy (by omega) hz'

theorem Inv0.done (h : Inv0 ps T n bs ms work ps.length) : Inv ps T n bs ms work (fun _ => false) [] := by
  refine ⟨h.lb, h.lm, h.sound, h.win, h.nodup, fun i x hx => ?_, fun i x hx hz => h.zero i x hx (List.getElem?_eq_some_iff.1 hx).1 hz⟩
  rw [h.cnt i x hx (List.getElem?_eq_some_iff.1 hx).1, List.count_nil, Int.natCast_zero, Int.sub_zero]
  congr 1
  exact countP_congr' _ fun s _ => openS_congr (fun y hy => by simp [h.none y hy]) s

/-- The last of the work list is taken off. -/
theorem Inv.pop (h : Inv ps T n bs ms (work ++ [s]) (fun _ => false) []) : Inv ps T n bs ms work (fun y => y == s) [] := by
  have hs := h.win s (by simp)
  have hnd := List.nodup_append.1 h.nodup
  refine ⟨h.lb, h.lm, h.sound, fun a ha => h.win a (by simp [ha]), hnd.1, fun i x hx => ?_, h.zero⟩
  rw [h.cnt i x hx]
  congr 2
  refine countP_congr' _ fun a _ => openS_congr (fun y hy => ?_) a
  unfold dnS
  by_cases e : y = s
  · subst e; simp
  · simp [e]

/-- All uses of s have been looked at. -/
theorem Inv.end (h : Inv ps T n bs ms work (fun y => y == s) us) (hw : s ∉ work) (hs : inB bs s = true) (h0 : 0 ≤ s) (hu : ∀ (i : Nat) x, ps[i]? = some x → us.count (i : Int) = x.2.count s) : Inv ps T n bs ms work (fun _ => false) [] := by
  refine ⟨h.lb, h.lm, h.sound, h.win, h.nodup, fun i x hx => ?_, h.zero⟩
  rw [h.cnt i x hx, hu i x hx, List.count_nil, Int.natCast_zero, Int.sub_zero]
  have : ∀ r : List Int, r.countP (openS T fun y => dnS bs work y && !(y == s)) = r.countP (openS T fun y => dnS bs work y && !false) + r.count s := by
    intro r
    induction r with
    | nil => rfl
    | cons a r ih =>
      rw [List.countP_cons, List.countP_cons, List.count_cons, ih]
      by_cases e : a = s
      · subst e
        have hd : dnS bs work a = true := by unfold dnS; simp [hs, hw]
        simp [openS, show ¬ a < 0 by omega, hd]
        omega
      · have : openS T (fun y => dnS bs work y && !(y == s)) a = openS T (fun y => dnS bs work y && !false) a := by
          have e' : (a == s) = false := by simpa using e
          unfold openS
          simp [e']
        rw [this]
        simp [e]
        omega
  rw [this]
  omega

/-- One use: its counter goes down; its left side is added where that is nought. -/
theorem Inv.step (h : Inv ps T n bs ms work (fun y => y == s) dn) (hw : s ∉ work) (hs : inB bs s = true) (h0s : 0 ≤ s) {i : Nat} {x : Int × List Int} (hx : ps[i]? = some x) (h0 : 0 ≤ x.1) (h1 : x.1 < n)
    (hle : dn.count (i : Int) + 1 ≤ x.2.count s) (c : Int) (hc : c = ms.getD i 0 - 1) :
    Inv ps T n (if c = 0 then addB bs x.1 else bs) (ms.set i c) (if c = 0 then addW bs work x.1 else work) (fun y => y == s) (dn ++ [(i : Int)]) ∧ 0 ≤ c := by
  have him : i < ms.length := by rw [h.lm]; exact (List.getElem?_eq_some_iff.1 hx).1
  have hn : x.1.toNat < bs.length := by rw [h.lb]; omega
  have hci := h.cnt i x hx
  have hge : ∀ r : List Int, r.count s ≤ r.countP (openS T fun y => dnS bs work y && !(y == s)) := by
    intro r
    rw [List.count]
    exact List.countP_mono_left fun a _ ha => by
      simp at ha
      subst ha
      simp [openS, show ¬ a < 0 by omega]
  have hgi := hge x.2
  have hc0' : 0 ≤ c := by omega
  refine ⟨?_, hc0'⟩
  have hcnt : ∀ (d : Int → Bool), (∀ y, 0 ≤ y → d y = (dnS bs work y && !(y == s))) → ∀ (k : Nat) y, ps[k]? = some y → (ms.set i c).getD k 0 = (y.2.countP (openS T d) : Int) - (dn ++ [(i : Int)]).count (k : Int) := by
    intro d hd k y hy
    rw [countP_congr' (q := openS T fun y => dnS bs work y && !(y == s)) _ (fun a _ => openS_congr hd a)]
    by_cases hki : k = i
    · subst hki
      rw [hx] at hy; cases hy
      simp only [List.getD, List.getElem?_set_self him, Option.getD_some, List.count_append, List.count_singleton]
      simp
      omega
    · have e1 : (ms.set i c).getD k 0 = ms.getD k 0 := by simp [List.getD, List.getElem?_set_ne (Ne.symm hki)]
      rw [e1, h.cnt k y hy, List.count_append, List.count_singleton]
      have : ((i : Int) == (k : Int)) = false := by simp; omega
      rw [this]
      simp
  have hzero : ∀ (bs' : List Bool), (∀ y : Int, inB bs y = true → inB bs' y = true) → (c = 0 → inB bs' x.1 = true) → ∀ (k : Nat) y, ps[k]? = some y → (ms.set i c).getD k 0 = 0 → inB bs' y.1 = true := by
    intro bs' hb hc0 k y hy hz
    by_cases hki : k = i
    · subst hki
      rw [hx] at hy; cases hy
      simp only [List.getD, List.getElem?_set_self him, Option.getD_some] at hz
      exact hc0 hz
    · have e1 : (ms.set i c).getD k 0 = ms.getD k 0 := by simp [List.getD, List.getElem?_set_ne (Ne.symm hki)]
      rw [e1] at hz
      exact hb _ (h.zero k y hy hz)
  by_cases hc0 : c = 0
  · rw [if_pos hc0, if_pos hc0]
    have heq : x.2.countP (openS T fun y => dnS bs work y && !(y == s)) = x.2.count s := by omega
    have hall : ∀ r : List Int, r.countP (openS T fun y => dnS bs work y && !(y == s)) = r.count s → ∀ a ∈ r, openS T (fun y => dnS bs work y && !(y == s)) a = true → a = s := by
      intro r
      induction r with
      | nil => intro _ a ha; simp at ha
      | cons b r ih =>
        intro he a ha hop
        have hgr := hge r
        rw [List.countP_cons, List.count_cons] at he
        by_cases hb : b = s
        · subst hb
          have : openS T (fun y => dnS bs work y && !(y == b)) b = true := by simp [openS, show ¬ b < 0 by omega]
          rw [this] at he
          simp at he
          rcases List.mem_cons.1 ha with rfl | ha
          · rfl
          · exact ih he a ha hop
        · have : (b == s) = false := by simp [hb]
          rw [this] at he
          by_cases ho : openS T (fun y => dnS bs work y && !(y == s)) b = true
          · rw [ho] at he; simp at he; omega
          · simp only [Bool.not_eq_true] at ho
            rw [ho] at he
            simp at he
            rcases List.mem_cons.1 ha with rfl | ha
            · rw [ho] at hop; cases hop
            · exact ih he a ha hop
    have hgen : Gen ps T x.1 := by
      refine Gen.mk x (List.mem_of_getElem? hx) (fun a ha ha0 => ?_) (fun a ha ha0 => ?_)
      · cases hT : T
        · have := hall x.2 heq a ha (by simp [openS, ha0, hT])
          omega
        · rfl
      · by_cases ho : openS T (fun y => dnS bs work y && !(y == s)) a = true
        · rw [hall x.2 heq a ha ho]; exact h.sound s h0s hs
        · simp [openS, show ¬ a < 0 by omega, dnS] at ho
          exact h.sound a ha0 ho.1.1
    have hmono : ∀ y : Int, inB bs y = true → inB (addB bs x.1) y = true := by
      intro y hy
      by_cases hy0 : 0 ≤ y
      · rw [inB_addB bs x.1 y h0 hn hy0]; simp [hy]
      · have := inB_addB bs x.1 0 h0 hn (by omega)
        unfold inB at this hy ⊢
        rw [show y.toNat = (0 : Int).toNat by omega] at hy ⊢
        rw [this, hy]; simp
    refine ⟨by rw [addB_length]; exact h.lb, by rw [List.length_set]; exact h.lm, fun a ha hb => ?_, win_add h.win h.lb h0 h1, nodup_addW h.nodup h.win _, hcnt _ (fun y hy => by rw [dnS_add bs work x.1 y h0 hn hy]), hzero _ hmono (fun _ => by rw [inB_addB bs x.1 x.1 h0 hn h0]; simp)⟩
    rw [inB_addB bs x.1 a h0 hn ha] at hb
    by_cases e : a = x.1
    · rw [e]; exact hgen
    · simp [e] at hb; exact h.sound a ha hb
  · rw [if_neg hc0, if_neg hc0]
    exact ⟨h.lb, by rw [List.length_set]; exact h.lm, h.sound, h.win, h.nodup, hcnt _ (fun y _ => rfl), hzero _ (fun _ h => h) (fun e => absurd e hc0)⟩

theorem step_notin (hw : s ∉ work) (hs : inB bs s = true) (l : Int) : s ∉ addW bs work l := by
  unfold addW
  split
  · exact hw
  · rename_i h
    simp only [List.mem_append, List.mem_singleton, not_or]
    exact ⟨hw, fun e => h (by rw [← e]; exact hs)⟩

theorem inB_mono (hlb : bs.length = n) {l : Int} (h0 : 0 ≤ l) (h1 : l < n) {y : Int} (hy0 : 0 ≤ y) (hy : inB bs y = true) : inB (addB bs l) y = true := by
  rw [inB_addB bs l y h0 (by omega) hy0]; simp [hy]

/-- Nothing is left to do: the set is the least one. -/
theorem Inv.least (h : Inv ps T n bs ms [] (fun _ => false) []) (_hr : ∀ x ∈ ps, 0 ≤ x.1) : ∀ a : Int, 0 ≤ a → (inB bs a = true ↔ Gen ps T a) := by
  intro a ha
  refine ⟨h.sound a ha, fun hg => ?_⟩
  clear ha
  induction hg with
  | mk x hx h0 h1 ih =>
    obtain ⟨i, hi⟩ := List.getElem?_of_mem hx
    refine h.zero i x hi ?_
    rw [h.cnt i x hi]
    have : x.2.countP (openS T fun y => dnS bs [] y && !false) = 0 := by
      rw [List.countP_eq_zero]
      intro s hs
      unfold openS
      split
      · rename_i hneg; simp [h0 s hs hneg]
      · rename_i hneg
        have := ih s hs (by omega)
        simp [dnS, this]
    rw [this]
    simp
end

/-- The uses of a nonterminal, in order. -/
def usesOf (a : Nat) (i : Nat) : List (Int × List Int) → List Int
  | [] => []
  | x :: r => List.replicate (x.2.count (a : Int)) (i : Int) ++ usesOf a (i + 1) r

theorem stepU_length (ls : List (List Int)) (i s : Int) : (stepU ls i s).length = ls.length := by unfold stepU; split <;> simp
theorem rowU_length (i : Int) : ∀ (r : List Int) (ls : List (List Int)), (rowU ls i r).length = ls.length
  | [], ls => rfl
  | s :: r, ls => by rw [rowU, rowU_length i r, stepU_length]
theorem usesS_length : ∀ (ps : List (Int × List Int)) (ls : List (List Int)) (i : Nat), (usesS ls i ps).length = ls.length
  | [], ls, i => rfl
  | x :: r, ls, i => by rw [usesS, usesS_length r, rowU_length]

theorem stepU_at (ls : List (List Int)) (i s : Int) (a : Nat) (hs : s < ls.length) (ha : a < ls.length) : (stepU ls i s).getD a [] = ls.getD a [] ++ (if s = (a : Int) then [i] else []) := by
  unfold stepU
  by_cases h0 : 0 ≤ s
  · rw [if_pos h0]
    by_cases e : s = (a : Int)
    · subst e
      simp [List.getD, List.getElem?_set_self (show a < ls.length from ha), List.getElem?_eq_getElem ha]
    · have : s.toNat ≠ a := by omega
      simp [List.getD, List.getElem?_set_ne this, e]
  · rw [if_neg h0, if_neg (by omega)]; simp

theorem rowU_at (i : Int) (a : Nat) : ∀ (r : List Int) (ls : List (List Int)), (∀ s ∈ r, s < ls.length) → a < ls.length → (rowU ls i r).getD a [] = ls.getD a [] ++ List.replicate (r.count (a : Int)) i
  | [], ls, _, _ => by simp [rowU]
  | s :: r, ls, h, ha => by
    rw [rowU, rowU_at i a r _ (by rw [stepU_length]; exact fun t ht => h t (by simp [ht])) (by rw [stepU_length]; exact ha), stepU_at ls i s a (h s (by simp)) ha, List.append_assoc, List.count_cons]
    congr 1
    by_cases e : s = (a : Int)
    · subst e
      simp [List.replicate_succ]
    · have e' : (s == (a : Int)) = false := by simpa using e
      simp [e]

theorem usesS_at (a : Nat) : ∀ (ps : List (Int × List Int)) (ls : List (List Int)) (i : Nat), (∀ x ∈ ps, ∀ s ∈ x.2, s < ls.length) → a < ls.length → (usesS ls i ps).getD a [] = ls.getD a [] ++ usesOf a i ps
  | [], ls, i, _, _ => by simp [usesS, usesOf]
  | x :: r, ls, i, h, ha => by
    rw [usesS, usesS_at a r _ (i + 1) (by rw [rowU_length]; exact fun y hy => h y (by simp [hy])) (by rw [rowU_length]; exact ha), rowU_at (i : Int) a x.2 ls (h x (by simp)) ha, usesOf, List.append_assoc]

theorem usesOf_mem (a : Nat) : ∀ (ps : List (Int × List Int)) (i : Nat) (e : Int), e ∈ usesOf a i ps → ∃ (k : Nat) (x : Int × List Int), e = ((i + k : Nat) : Int) ∧ ps[k]? = some x
  | [], i, e, h => by simp [usesOf] at h
  | x :: r, i, e, h => by
    rcases List.mem_append.1 h with h | h
    · exact ⟨0, x, by rw [(List.mem_replicate.1 h).2]; rfl, rfl⟩
    · obtain ⟨k, y, h1, h2⟩ := usesOf_mem a r (i + 1) e h
      exact ⟨k + 1, y, by rw [h1]; omega, h2⟩

theorem usesOf_count (a : Nat) : ∀ (ps : List (Int × List Int)) (i k : Nat) (x : Int × List Int), ps[k]? = some x → (usesOf a i ps).count ((i + k : Nat) : Int) = x.2.count (a : Int)
  | y :: r, i, 0, x, h => by
    simp at h
    subst h
    rw [usesOf, List.count_append, List.count_replicate]
    have : (usesOf a (i + 1) r).count ((i + 0 : Nat) : Int) = 0 := by
      rw [List.count_eq_zero]
      intro hm
      obtain ⟨k, _, h1, _⟩ := usesOf_mem a r (i + 1) _ hm
      omega
    rw [this]
    simp
  | y :: r, i, k + 1, x, h => by
    rw [usesOf, List.count_append, List.count_replicate]
    have : ((i : Int) == ((i + (k + 1) : Nat) : Int)) = false := by simp; omega
    rw [this]
    have := usesOf_count a r (i + 1) k x (by simpa using h)
    rw [show i + (k + 1) = i + 1 + k by omega, this]
    simp

/-- What uses gives, of nonterminal a. -/
theorem uses_all {n : Nat} {ps : List (Int × List Int)} (h : ∀ x ∈ ps, ∀ s ∈ x.2, s < (n : Int)) {a : Nat} (ha : a < n) : (usesS (List.replicate n []) 0 ps)[a]? = some (usesOf a 0 ps) := by
  have h1 := usesS_at a ps (List.replicate n []) 0 (by simpa using h) (by simpa using ha)
  have hl : a < (usesS (List.replicate n []) 0 ps).length := by rw [usesS_length]; simpa using ha
  rw [List.getElem?_eq_getElem hl]
  simp [List.getD, List.getElem?_eq_getElem hl, ha] at h1
  rw [h1]

/-- How much is left to do. -/
def msr (bs : List Bool) (work : List Int) : Nat := 2 * bs.count false + work.length
theorem count_set_true : ∀ (bs : List Bool) (a : Nat), bs[a]? = some false → (bs.set a true).count false + 1 = bs.count false
  | [], a, h => by simp at h
  | b :: r, 0, h => by simp at h; subst h; simp
  | b :: r, a + 1, h => by
    have := count_set_true r a (by simpa using h)
    rw [List.set_cons_succ, List.count_cons, List.count_cons]
    omega
theorem msr_add (bs : List Bool) (work : List Int) (l : Int) (hl : l.toNat < bs.length) : msr (addB bs l) (addW bs work l) ≤ msr bs work := by
  unfold msr addB addW
  by_cases h : inB bs l = true
  · rw [if_pos h, if_pos h]; exact Nat.le_refl _
  · rw [if_neg h, if_neg h]
    have h2 : bs[l.toNat]? = some false := by
      rw [List.getElem?_eq_getElem hl]
      unfold inB at h
      simp [List.getD, List.getElem?_eq_getElem hl] at h
      simp [h]
    have := count_set_true bs l.toNat h2
    simp
    omega
theorem take_count {us : List Int} {j : Nat} (hj : j < us.length) : (us.take j).count us[j] + 1 ≤ us.count us[j] := by
  have h : us.count us[j] = (us.take j).count us[j] + (us.drop j).count us[j] := by rw [← List.count_append, List.take_append_drop]
  rw [h, List.drop_eq_getElem_cons hj, List.count_cons]
  simp
theorem take_snoc (us : List Int) (j : Nat) (hj : j < us.length) : us.take (j + 1) = us.take j ++ [us[j]] := List.take_succ_eq_append_getElem hj
theorem usesOf_length (a : Nat) : ∀ (ps : List (Int × List Int)) (i : Nat), (∀ x ∈ ps, x.2.length ≤ 16) → (usesOf a i ps).length ≤ 16 * ps.length
  | [], _, _ => by simp [usesOf]
  | x :: r, i, h => by
    have h1 := usesOf_length a r (i + 1) (fun y hy => h y (by simp [hy]))
    have h2 := h x (by simp)
    have h3 : x.2.count (a : Int) ≤ x.2.length := List.count_le_length
    rw [usesOf, List.length_append, List.length_replicate, List.length_cons]
    omega
end Facts
end Go.Proofs.Ytaehooafdbaomaa
/- Chapter 9 (facts): the closure add. -/
namespace Go.Proofs.Ytaehooafdbaomaa
open Go.RowKit
attribute [local go_sem ↓] Go.wp_at_zero Go.wp_at_succ
attribute [local go_sem] frozen_alloc_lt

/-- The memory that close and its closure share: the set's box and row, the work list's box and row. -/
structure AddSt (w : World) (bi ba bw B n : Nat) (bs : List Bool) (work : List Int) (v : Value) : Prop where
  ki : Bk w bi 133 [.slice (some ⟨ba, 0, none⟩) n n]
  ka : Bk w ba 4 (bs.map Value.bool)
  kw : Bk w bw 22 [v]
  own : w.ownsRow B 3 1 v work.length (work.map (Value.int .i64))
  li : bi < B
  la : ba < B
  lw : bw < B
  ia : bi ≠ ba
  iw : bi ≠ bw
  aw : ba ≠ bw

def AddPost (w : World) (bi ba bw B n : Nat) (bs : List Bool) (work : List Int) (v : Value) (e : Ending) (w' : World) : Prop :=
  e = .returned (.tuple #[]) ∧ ∃ v', AddSt w' bi ba bw B n bs work v' ∧ Kp (fun k => k = ba ∨ k = bw ∨ v.ownBlock = some k) w w' ∧ (∀ g, v'.ownBlock = some g → v.ownBlock = some g ∨ w.heap.size ≤ g)

theorem AddSt.kp {w w' : World} {bi ba bw B n : Nat} {bs : List Bool} {work : List Int} {v : Value} {S : Nat → Prop} (h : AddSt w bi ba bw B n bs work v) (hk : Kp S w w') (hi : ¬ S bi) (ha : ¬ S ba) (hw : ¬ S bw) (hv : ∀ g, v.ownBlock = some g → ¬ S g) :
    AddSt w' bi ba bw B n bs work v := ⟨h.ki.kp hk hi, h.ka.kp hk ha, h.kw.kp hk hw, own_kp h.own hk hv, h.li, h.la, h.lw, h.ia, h.iw, h.aw⟩

set_option maxHeartbeats 2000000 in
set_option maxRecDepth 8000 in
theorem add_calls (w : World) (bi ba bw B n : Nat) (bs : List Bool) (work : List Int) (v : Value) (h : AddSt w bi ba bw B n bs work v) (hB : B ≤ w.heap.size) (l : Int) (h0 : 0 ≤ l) (h1 : l < n) (hbs : bs.length = n) (_hn : n ≤ 256) (hwk : work.length ≤ 1000000) :
    Calls Try.prog 136 #[.int .i64 l, .pointer (some ⟨bi, 0, none⟩), .pointer (some ⟨bw, 0, none⟩)] w (AddPost w bi ba bw B n (Facts.addB bs l) (Facts.addW bs work l) v) := by
  obtain ⟨i3, hi3, z0, z1, z2⟩ := info_parts intInfo
  obtain ⟨a, rfl⟩ := Int.eq_ofNat_of_zero_le h0
  have ha : a < bs.length := by omega
  have ha' : (a : Int) < (n : Int) := h1
  have c0 := h.ki.cell 0
  have ca := h.ka.cell a
  have cw := h.kw.cell 0
  have fa := h.ka.free a
  have fw := h.kw.free 0
  simp only [List.getElem?_cons_zero, List.getElem?_map, List.getElem?_eq_getElem ha, Option.map_some] at c0 ca cw
  have hbs' : Facts.inB bs a = bs[a] := by simp [Facts.inB, List.getD, List.getElem?_eq_getElem ha]
  have lw := h.kw.lt
  have law := h.aw
  have hne := World.new_ne w _ c0
  have hvw : some bw ≠ v.ownBlock := by
    intro e
    have := (h.own.lt bw e.symm).1
    have := h.lw
    omega
  have hva : some ba ≠ v.ownBlock := by
    intro e
    have := (h.own.lt ba e.symm).1
    have := h.la
    omega
  have hvi : some bi ≠ v.ownBlock := by
    intro e
    have := (h.own.lt bi e.symm).1
    have := h.li
    omega
  unfold Facts.addB Facts.addW
  rw [hbs']
  cases hb : bs[a] with
  | true =>
    rw [hb] at ca
    rw [if_pos rfl, if_pos rfl]
    clear hb hbs' hbs ha
    go_enter Try.func136, Try.ntmps136
    go_wp2_with fail
    go_end0
    exact ⟨rfl, v, h, Kp.refl _ w, fun g hg => .inl hg⟩
  | false =>
    rw [hb] at ca
    rw [if_neg (by simp), if_neg (by simp)]
    clear hb hbs' hbs ha
    go_enter Try.func136, Try.ntmps136
    go_upto_region 2 with fail
    have hka1 := h.ka.set a (.bool true)
    have hkw1 := h.kw.far (p := ⟨ba, a, none⟩) (Ne.symm law) (.bool true)
    have hki1 := h.ki.far (p := ⟨ba, a, none⟩) h.ia (.bool true)
    have hown1 := own_set h.own (p := ⟨ba, a, none⟩) (fun e => hva e.symm) (.bool true)
    have hk1 : Kp (fun k => k = ba) w (w.setCell ⟨ba, a, none⟩ (.bool true)) := Kp.set (S := fun k => k = ba) (Kp.refl _ w) (.inl rfl) _
    have hz1 : (w.setCell ⟨ba, a, none⟩ (.bool true)).heap.size = w.heap.size := by simp [World.setCell]
    obtain ⟨w1, hw1⟩ : ∃ w1, w1 = w.setCell ⟨ba, a, none⟩ (.bool true) := ⟨_, rfl⟩
    rw [← hw1] at hka1 hkw1 hki1 hown1 hk1 hz1 ⊢
    have hB1 : B ≤ w1.heap.size := by omega
    have hz0 : w.heap.size ≤ w1.heap.size := by omega
    have Hz1 := hid hz1
    clear hw1 c0 ca cw fa fw hne hz1
    have cw := hkw1.cell 0
    have fw := hkw1.free 0
    have hlw1 := hkw1.lt
    simp only [List.getElem?_cons_zero] at cw
    go_wp2_with (at_builtin; go_loud (refine wpList_append_one _ rfl _ _ _ rfl B 3 i3 _ Try.underlying22 hi3 z0 z1 (by rw [z2]; omega) rfl v work.length _ rfl (hown1.alloc _) ⟨w1.heap.size, 0, none⟩ (.int .i64 a) rfl (by simp) rfl (by omega) (by simp; omega) (w1.heap.size + 1) (by simp) ?_); intro g2 cap2 w2 hown2 hgr2 hat2 hlt2; have hbk2 := (hkw1.alloc (.cells #[.int .i64 a] 3)).grown hgr2 hvw; have hc2 := hbk2.cell 0; have hf2 := hbk2.free 0; simp only [List.getElem?_cons_zero] at hc2)
    go_end0
    refine ⟨rfl, _, ⟨?_, ?_, hbk2.set 0 _, ?_, h.li, h.la, h.lw, h.ia, h.iw, h.aw⟩, ?_, fun g hg => ?_⟩
    · exact (((hki1.alloc _).grown hgr2 hvi).far (p := ⟨bw, 0, none⟩) h.iw _)
    · refine (((hka1.alloc _).grown hgr2 hva).far (p := ⟨bw, 0, none⟩) h.aw _).of ?_
      simp
    · have := own_set hown2 (p := ⟨bw, 0, none⟩) (fun e => by have e1 := (hown2.lt bw e).1; have e2 := h.lw; omega) (.slice (some ⟨g2, 0, none⟩) (work.length + 1) cap2)
      simpa using this
    · exact (Kp.set (S := fun k => k = ba ∨ k = bw ∨ v.ownBlock = some k) (((hk1.mono (fun k _ e => .inl e)).alloc _).grown hgr2 (fun k hk _ => .inr (.inr hk))) (.inl (.inr (.inl rfl))) _)
    · simp only [Value.ownBlock, Option.some.injEq] at hg
      subst hg
      rcases hat2 with h | h
      · exact .inl h
      · exact .inr (by omega)
end Go.Proofs.Ytaehooafdbaomaa
