/- Chapter 9, the document's answer: Shortest: walk. -/
import Derived.Test.YtaehooafdbaomaaShoGen
namespace Go.Proofs.Ytaehooafdbaomaa
open Go.RowKit
attribute [local go_sem ↓] Go.wp_at_zero Go.wp_at_succ
attribute [local go_sem] frozen_alloc_lt

def RShoF (wd : World) (b g n : Nat) (k : Nat) (v4 : Value) (w : World) : Prop :=
  ∃ (i : Nat), v4 = .int .i64 i ∧ i ≤ n ∧ Bk w g 3 ((List.replicate i (-1) ++ List.replicate (n - i) 0).map (Value.int .i64)) ∧ k = n - i ∧ Below (b + 1) wd w
def RShoL (w1 : World) (ks : List Int) (r : List Int) (res : Option Int) (k : Nat) (v7 v9 : Value) (w : World) : Prop :=
  ∃ (j : Nat) (n : Int), v9 = .int .i64 j ∧ v7 = .int .i64 n ∧ j ≤ r.length ∧ n ≤ 1099511627776 ∧ -1 ≤ n ∧ (n < 0 → res = none) ∧ (0 ≤ n → Facts.lengthS ks (r.drop j) n = res) ∧ k = r.length - j ∧ w = w1

set_option maxHeartbeats 8000000 in
set_option maxRecDepth 100000 in
theorem rshort_calls (w : World) (G : Gr) (gn gt gp : Option Addr) (cn ct cp : Nat) (h : GIn w G gn gt gp) (hs : Pl.soundB G = true) :
    Calls Try.prog 87 #[.agg #[.int .i64 G.start, .int .i64 G.rules, .slice gn G.names.length cn, .slice gt G.terms.length ct, .slice gp G.prods.length cp]] w (ShoYes w G) := by
  obtain ⟨i3, hi3, z0, z1, z2⟩ := info_parts intInfo
  have Hsg := hid (sndG hs)
  have hn1 := Hsg.out.n1
  have hp1 := Hsg.out.p1
  obtain ⟨hn, ht, hp, h1, h2, h3, h4⟩ := h
  obtain ⟨st, ru, ns, ts, ps⟩ := G
  simp only at *
  have hb0 : Below w.heap.size w (w.alloc (.cells #[.int .i64 st, .int .i64 ru, .slice gn ns.length cn, .slice gt ts.length ct, .slice gp ps.length cp] 33)) := (Below.refl _ _).alloc (Nat.le_refl _) _
  have hp0' := hp.below hb0
  have hbk : Bk (w.alloc (.cells #[.int .i64 st, .int .i64 ru, .slice gn ns.length cn, .slice gt ts.length ct, .slice gp ps.length cp] 33)) w.heap.size 33 [.int .i64 st, .int .i64 ru, .slice gn ns.length cn, .slice gt ts.length ct, .slice gp ps.length cp] := Bk.new w _ _
  go_enter Try.func87, Try.ntmps87
  go_upto_region 1 with (fail)
  obtain ⟨wd, hwd⟩ : ∃ wd, wd = (w.alloc (.cells #[.int .i64 st, .int .i64 ru, .slice gn ns.length cn, .slice gt ts.length ct, .slice gp ps.length cp] 33)) := ⟨_, rfl⟩
  obtain ⟨b, hbb⟩ : ∃ b, b = w.heap.size := ⟨_, rfl⟩
  have hzd : wd.heap.size = b + 1 := by rw [hwd, hbb]; simp
  rw [← hwd] at hb0 hp0' hbk ⊢
  rw [← hbb] at hbk hp0' ⊢
  have Hbb := hid hbb
  have Hzd := hid hzd
  clear hwd hbb hzd hp hn ht h1 h2 h3 h4 hs
  have g2 := hbk.cell 2
  simp only [List.getElem?_cons_zero, List.getElem?_cons_succ] at g2
  go_upto_region 2 with (at_make; refine wpList_make_bk _ rfl _ _ _ rfl 3 i3 _ Try.underlying22 hi3 z0 z1 rfl _ _ ns.length rfl rfl rfl rfl (by rw [z2]; omega) (by omega) ?_; intro w1 hba hk1)
  have hb1 : Below (b + 1) wd w1 := hk1.to_below (by rw [Hzd.out]; omega) (fun k hk => hk.elim)
  obtain ⟨g, hge⟩ : ∃ g, g = wd.heap.size := ⟨_, rfl⟩
  rw [← hge] at hba ⊢
  have hgb : b + 1 ≤ g := by rw [hge, Hzd.out]; omega
  have hba2 : Bk w1 g 3 ((List.replicate 0 (-1) ++ List.replicate (ns.length - 0) 0).map (Value.int .i64)) := hba.of (by simp)
  clear hba hk1 hge g2
  go_wp2_with fail
  go_loopg [4] ns.length (fun k v4 wr => RShoF wd b g ns.length k v4 wr)
  case atStart => exact ⟨0, rfl, by omega, hba2, rfl, hb1⟩
  case round =>
    clear hba2 hb1
    obtain ⟨i, rfl, hi, hkg, hk, hb⟩ := hrel
    have Hk := hid hk
    clear hk
    by_cases hlt : i < ns.length
    · have hlt' : (i : Int) < (ns.length : Int) := by omega
      have hi0 : (0 : Int) ≤ (i : Int) := by omega
      have cb := hkg.cell i
      have fb := hkg.free i
      have hci : (List.replicate i (-1 : Int) ++ List.replicate (ns.length - i) 0)[i]? = some 0 := by
        rw [List.getElem?_append_right (by simp)]
        simp [List.getElem?_replicate]
        omega
      simp only [List.getElem?_map, hci, Option.map_some] at cb
      have hst : (List.replicate i (-1 : Int) ++ List.replicate (ns.length - i) 0).set i (-1) = List.replicate (i + 1) (-1) ++ List.replicate (ns.length - (i + 1)) 0 := by
        rw [List.set_append_right _ _ (by simp)]
        simp only [List.length_replicate, Nat.sub_self]
        rw [show ns.length - i = (ns.length - (i + 1)) + 1 by omega, List.replicate_succ, List.set_cons_zero, List.replicate_succ']
        simp
      have hset : Bk (wr.setCell ⟨g, i, none⟩ (.int .i64 (-1))) g 3 ((List.replicate (i + 1) (-1) ++ List.replicate (ns.length - (i + 1)) 0).map (Value.int .i64)) := (hkg.set i (.int .i64 (-1))).of (by rw [← List.map_set, hst])
      have hbs := hb.setCell (p := ⟨g, i, none⟩) (by exact hgb) (.int .i64 (-1))
      have Hset := hid hset
      clear hset hst hci
      go_wp2_with fail
      go_roundg (ns.length - (i + 1))
      case measure => have hk := Hk.out; omega
      case rel => exact ⟨i + 1, by go_num, by omega, Hset.out, rfl, hbs⟩
    · have hge : ¬ (i : Int) < (ns.length : Int) := by omega
      have hkf : Bk wr g 3 ((List.replicate ns.length (-1)).map (Value.int .i64)) := by
        have hin : i = ns.length := by omega
        rw [hin] at hkg
        exact hkg.of (by simp)
      clear hkg Hk
      go_wp2_with fail
      go_loopg [5] (2 * Facts.potS (List.replicate ns.length (-1)) + 1) (fun k v4 wr => Sho1 wd b g ns.length ps k v4 wr)
      case atStart => exact ⟨_, true, rfl, hkf, Facts.Sho.start ps ns.length, (fun h => by cases h), rfl, hb⟩
      case round =>
        clear hkf hb
        obtain ⟨ks, more, rfl, hkg, hsho, hfix, hk, hb⟩ := hrel
        have Hk := hid hk
        have Hsho := hid hsho
        have Hfix : Hid (more = false → Facts.fixS ps ks) := hid hfix
        clear hk hsho hfix
        rcases Bool.eq_false_or_eq_true more with hmr | hmr
        rotate_left
        · have hfx := Hid.out Hfix hmr
          have Hfx := hid hfx
          subst hmr
          clear Hfix hfx
          go_wp2_with fail
          go_ret
          exact ⟨g, _, ks, rfl, by rw [← Hbb.out]; omega, hkg, Hsho.out, Hfx.out, hb0.trans (hb.mono (by rw [← Hbb.out]; omega))⟩
        · subst hmr
          clear Hfix
          go_wp2_with fail
          go_loopg [5, 6] ps.length (fun k v4 v21 wr => Sho2 wd b g ns.length ps (Facts.potS ks) k v4 v21 wr)
          case atStart => exact ⟨0, ks, false, rfl, rfl, by omega, hkg, Hsho.out, fun _ j x hj => by omega, by simp, rfl, hb⟩
          case round =>
            clear hkg hb
            obtain ⟨i, ks2, more, rfl, rfl, hi, hkg, hsho, hfix, hpot, hki, hb⟩ := hrel
            have Hki := hid hki
            have Hsho2 := hid hsho
            have Hfix2 : Hid (more = false → ∀ (j : Nat) (x : Int × List Int), j < i → ps[j]? = some x → ∀ m, Facts.lengthS ks2 x.2 0 = some m → 0 ≤ Facts.atK ks2 x.1 ∧ Facts.atK ks2 x.1 ≤ m) := hid hfix
            have Hpot := hid hpot
            clear hki hsho hfix hpot
            have hbkr := hbk.below hb (by omega)
            have g4 := hbkr.cell 4
            simp only [List.getElem?_cons_zero, List.getElem?_cons_succ] at g4
            by_cases hlt : i < ps.length
            · have hlt' : (i : Int) < (ps.length : Int) := by omega
              have hi0 : (0 : Int) ≤ (i : Int) := by omega
              obtain ⟨x, hx⟩ : ∃ x, x = ps[i] := ⟨_, rfl⟩
              have hxm : x ∈ ps := by rw [hx]; exact List.getElem_mem hlt
              have hxi : ps[i]? = some x := by rw [hx]; exact List.getElem?_eq_getElem hlt
              have hr16 := Hsg.out.r16 x hxm
              have hl0 := Hsg.out.l0 x hxm
              have hl1 : x.1 < (ns.length : Int) := Hsg.out.l1 x hxm
              have Hs1 := hid (Hsg.out.r1 x hxm)
              obtain ⟨g', off, gr, cr, rfl, hg', hd0, hd1, hrid⟩ := hp0' i _ hxi
              have hc0 := (hb.cell (p := ⟨g', off + i * 2, none⟩) (show g' < b + 1 by omega)).trans hd0
              have hc1 := (hb.cell (p := ⟨g', off + i * 2 + 1, none⟩) (show g' < b + 1 by omega)).trans hd1
              obtain ⟨l, r⟩ := x
              simp only at hr16 hl0 hl1 hc0 hc1 hrid
              obtain ⟨a, rfl⟩ := Int.eq_ofNat_of_zero_le hl0
              have Hxi := hid hxi
              have Hxm := hid hxm
              clear hx hxi hxm hd0 hd1
              have hri := hrid.below (hb.mono (by omega))
              have hkl : ks2.length = ns.length := Hsho2.out.len
              have hka : a < ks2.length := by omega
              have hkk : ks2[a]? = some ks2[a] := List.getElem?_eq_getElem hka
              obtain ⟨kv, hkv⟩ : ∃ kv, kv = ks2[a] := ⟨_, rfl⟩
              rw [← hkv] at hkk
              have hat : Facts.atK ks2 a = kv := by simp [Facts.atK, List.getD, hkk]
              have hkvr := Hsho2.out.rng kv (by rw [hkv]; exact List.getElem_mem hka)
              have hkc := hkg.cell a
              have hkf := hkg.free a
              simp only [List.getElem?_map, hkk, Option.map_some] at hkc
              have Hkk := hid hkk
              have Hat := hid hat
              have Hkl := hid hkl
              clear hkk hat hkl hkv
              obtain ⟨res, hres⟩ : ∃ res, res = Facts.lengthS ks2 r 0 := ⟨_, rfl⟩
              have Hres := hid hres
              clear hres
              go_wp2_with fail
              go_loopg [7, 9] r.length (fun k v7 v9 wq => RShoL wr ks2 r res k v7 v9 wq)
              case atStart => exact ⟨0, 0, rfl, rfl, by omega, by omega, by omega, (fun h => by omega), (fun _ => by rw [List.drop_zero]; exact Hres.out.symm), rfl, rfl⟩
              case round =>
                obtain ⟨j, n, rfl, rfl, hj, hn1, hn0, hneg, hpos, hk, rfl⟩ := hrel
                have Hkj := hid hk
                have Hneg : Hid (n < 0 → res = none) := hid hneg
                have Hpos : Hid (0 ≤ n → Facts.lengthS ks2 (r.drop j) n = res) := hid hpos
                clear hk hneg hpos
                by_cases hgo : j < r.length ∧ 0 ≤ n
                · obtain ⟨hlj, hnn⟩ := hgo
                  have hlj' : (j : Int) < (r.length : Int) := by omega
                  have hj0 : (0 : Int) ≤ (j : Int) := by omega
                  have hl := Hid.out Hpos hnn
                  rw [List.drop_eq_getElem_cons hlj] at hl
                  simp only [Facts.lengthS] at hl
                  obtain ⟨s, hs⟩ : ∃ s, s = r[j] := ⟨_, rfl⟩
                  have hsm : s ∈ r := by rw [hs]; exact List.getElem_mem hlj
                  have hs1 : s < (ns.length : Int) := Hs1.out s hsm
                  obtain ⟨gr', ofr, rfl, hgr, hcr⟩ := hri.at hlj
                  rw [← hs] at hcr hl
                  clear hs hsm Hneg Hpos
                  by_cases hps : 0 ≤ s
                  · obtain ⟨d, rfl⟩ := Int.eq_ofNat_of_zero_le hps
                    have hd : d < ks2.length := by rw [Hkl.out]; omega
                    have hnd : ¬ (d : Int) < 0 := by omega
                    have cd := hkg.cell d
                    simp only [List.getElem?_map, List.getElem?_eq_getElem hd, Option.map_some] at cd
                    obtain ⟨kd, hkd⟩ : ∃ kd, kd = ks2[d] := ⟨_, rfl⟩
                    have hkdr := Hsho2.out.rng kd (by rw [hkd]; exact List.getElem_mem hd)
                    have hget : ks2.getD d 0 = kd := by simp [List.getD, hkd, List.getElem?_eq_getElem hd]
                    rw [← hkd] at cd
                    rw [if_pos hps, show ((d : Int)).toNat = d by simp, hget] at hl
                    clear hkd hget
                    by_cases hkn : kd < 0
                    · rw [if_pos hkn] at hl
                      have Hl := hid hl
                      clear hl
                      go_wp2_with fail
                      go_roundg (r.length - (j + 1))
                      case measure => have hk := Hkj.out; omega
                      case rel => exact ⟨j + 1, -1, by go_num, rfl, by omega, by omega, by omega, (fun _ => Hl.out.symm), (fun h => by omega), rfl, rfl⟩
                    · rw [if_neg hkn] at hl
                      have Hl := hid hl
                      clear hl
                      have hnk : 0 ≤ n + kd := by omega
                      by_cases hcap : 1099511627776 < n + kd
                      · go_wp2_with fail
                        go_roundg (r.length - (j + 1))
                        case measure => have hk := Hkj.out; omega
                        case rel => exact ⟨j + 1, 1099511627776, by go_num, rfl, by omega, by omega, by omega, (fun h => by omega), (fun _ => by rw [← Hl.out]; unfold Facts.bound; congr 1; omega), rfl, rfl⟩
                      · go_wp2_with fail
                        go_roundg (r.length - (j + 1))
                        case measure => have hk := Hkj.out; omega
                        case rel => exact ⟨j + 1, n + kd, by go_num, rfl, by omega, by omega, by omega, (fun h => by omega), (fun _ => by rw [← Hl.out]; unfold Facts.bound; congr 1; omega), rfl, rfl⟩
                  · have hsn : s < 0 := by omega
                    rw [if_neg hps, if_neg (by omega)] at hl
                    have Hl := hid hl
                    clear hl
                    by_cases hcap : 1099511627776 < n + 1
                    · go_wp2_with fail
                      go_roundg (r.length - (j + 1))
                      case measure => have hk := Hkj.out; omega
                      case rel => exact ⟨j + 1, 1099511627776, by go_num, rfl, by omega, by omega, by omega, (fun h => by omega), (fun _ => by rw [← Hl.out]; unfold Facts.bound; congr 1; omega), rfl, rfl⟩
                    · go_wp2_with fail
                      go_roundg (r.length - (j + 1))
                      case measure => have hk := Hkj.out; omega
                      case rel => exact ⟨j + 1, n + 1, by go_num, rfl, by omega, by omega, by omega, (fun h => by omega), (fun _ => by rw [← Hl.out]; unfold Facts.bound; congr 1; omega), rfl, rfl⟩
                · have hresn : (n < 0 ∧ res = none) ∨ (0 ≤ n ∧ res = some n) := by
                    rcases Int.lt_or_le n 0 with h | h
                    · exact .inl ⟨h, Hid.out Hneg h⟩
                    · have h2 := Hid.out Hpos h
                      have hjr : r.drop j = [] := List.drop_eq_nil_of_le (by omega)
                      rw [hjr] at h2
                      exact .inr ⟨h, h2.symm⟩
                  have Hf2 : Hid (more = false → ∀ (j : Nat) (x : Int × List Int), j < i → ps[j]? = some x → ∀ m, Facts.lengthS ks2 x.2 0 = some m → 0 ≤ Facts.atK ks2 x.1 ∧ Facts.atK ks2 x.1 ≤ m) := Hfix2
                  have hnext : (∀ m, res = some m → 0 ≤ kv ∧ kv ≤ m) → more = false → ∀ (j : Nat) (x : Int × List Int), j < i + 1 → ps[j]? = some x → ∀ m, Facts.lengthS ks2 x.2 0 = some m → 0 ≤ Facts.atK ks2 x.1 ∧ Facts.atK ks2 x.1 ≤ m := by
                    intro hno hm j x hj hx m hlm
                    by_cases hji : j = i
                    · subst hji
                      have hxx := Hxi.out
                      rw [hx] at hxx
                      injection hxx with hxx
                      subst hxx
                      rw [Hat.out]
                      exact hno m (by rw [Hres.out]; exact hlm)
                    · exact Hid.out Hf2 hm j x (by omega) hx m hlm
                  have Hnext := hid hnext
                  have Hresn := hid hresn
                  have Hgo := hid hgo
                  clear hnext Hf2 Hfix2 Hneg Hpos hresn hgo
                  rcases Int.lt_or_le n 0 with hnn | hnn
                  · have hrn : res = none := by
                      rcases Hresn.out with h | h
                      · exact h.2
                      · exact absurd h.1 (by omega)
                    have Hrn := hid hrn
                    have hn9 : ¬ 0 ≤ n := by omega
                    clear hrn
                    by_cases hlj : j < r.length
                    · have hlj' : (j : Int) < (r.length : Int) := by omega
                      go_wp2_with fail
                      go_roundg (ps.length - (i + 1))
                      case measure => have hk := Hki.out; omega
                      case rel => exact ⟨i + 1, ks2, more, by go_num, rfl, by omega, hkg, Hsho2.out, Hnext.out (fun m hm => by rw [Hrn.out] at hm; cases hm), Hpot.out, rfl, hb⟩
                    · have hge : ¬ (j : Int) < (r.length : Int) := by omega
                      go_wp2_with fail
                      go_roundg (ps.length - (i + 1))
                      case measure => have hk := Hki.out; omega
                      case rel => exact ⟨i + 1, ks2, more, by go_num, rfl, by omega, hkg, Hsho2.out, Hnext.out (fun m hm => by rw [Hrn.out] at hm; cases hm), Hpot.out, rfl, hb⟩
                  · have hrs : res = some n := by
                      rcases Hresn.out with h | h
                      · exact absurd h.1 (by omega)
                      · exact h.2
                    have hge : ¬ (j : Int) < (r.length : Int) := by
                      have := Hgo.out
                      omega
                    have hlm : Facts.lengthS ks2 r 0 = some n := by rw [← Hres.out, hrs]
                    have Hput := hid (Hsho2.out.put Hxm.out hl0 hl1 hlm (fun s hs => Hs1.out s hs))
                    have Hrs := hid hrs
                    clear hrs hlm
                    by_cases himp : kv < 0 ∨ n < kv
                    · have hpl := Facts.potS_set ks2 a kv n Hkk.out hnn (by omega)
                      have hpot := Hpot.out
                      have Hpn := hid (show Facts.potS (ks2.set a n) < Facts.potS ks by
                        cases more <;> simp at hpot <;> omega)
                      clear hpl hpot
                      have hset := (hkg.set a (.int .i64 n)).of (cs' := (ks2.set a n).map (Value.int .i64)) (by simp)
                      have hbx3 := hb.setCell (p := ⟨g, a, none⟩) hgb (.int .i64 n)
                      have Hset := hid hset
                      clear hset
                      rcases Int.lt_or_le kv 0 with hneg | hnk
                      · go_wp2_with fail
                        go_roundg (ps.length - (i + 1))
                        case measure => have hk := Hki.out; omega
                        case rel => exact ⟨i + 1, ks2.set a n, true, by go_num, rfl, by omega, Hset.out, Hput.out, (fun h => by cases h), by simpa using Hpn.out, rfl, hbx3⟩
                      · have hlt2 : n < kv := by omega
                        have hk0 : ¬ kv < 0 := by omega
                        go_wp2_with fail
                        go_roundg (ps.length - (i + 1))
                        case measure => have hk := Hki.out; omega
                        case rel => exact ⟨i + 1, ks2.set a n, true, by go_num, rfl, by omega, Hset.out, Hput.out, (fun h => by cases h), by simpa using Hpn.out, rfl, hbx3⟩
                    · have hn1' : ¬ kv < 0 := fun h => himp (.inl h)
                      have hn2' : ¬ n < kv := fun h => himp (.inr h)
                      go_wp2_with fail
                      go_roundg (ps.length - (i + 1))
                      case measure => have hk := Hki.out; omega
                      case rel => exact ⟨i + 1, ks2, more, by go_num, rfl, by omega, hkg, Hsho2.out, Hnext.out (fun m' hm => by rw [Hrs.out] at hm; injection hm with hm; omega), Hpot.out, rfl, hb⟩
            · have hge : ¬ (i : Int) < (ps.length : Int) := by omega
              have hie : i = ps.length := by omega
              have Hie := hid hie
              have Hf2 : Hid (more = false → ∀ (j : Nat) (x : Int × List Int), j < i → ps[j]? = some x → ∀ m, Facts.lengthS ks2 x.2 0 = some m → 0 ≤ Facts.atK ks2 x.1 ∧ Facts.atK ks2 x.1 ≤ m) := Hfix2
              clear hie Hfix2
              go_wp2_with fail
              go_roundg (2 * Facts.potS ks2 + (if more then 1 else 0))
              case measure => have hk := Hk.out; have hp := Hpot.out; cases more <;> simp at hp hk ⊢ <;> omega
              case rel => exact ⟨ks2, more, rfl, hkg, Hsho2.out, (fun hm x hx m hlm => by
                obtain ⟨j, hj⟩ := List.getElem?_of_mem hx
                exact Hid.out Hf2 hm j x (by rw [Hie.out]; exact (List.getElem?_eq_some_iff.1 hj).1) hj m hlm), rfl, hb⟩
end Go.Proofs.Ytaehooafdbaomaa
