/- Chapter 9, the document's answer: Reachable: law and walk. -/
import Derived.Test.YtbpgolmbielpgaaRef9
namespace Go.Proofs.Ytbpgolmbielpgaa
open Go.RowKit
attribute [local go_sem ↓] Go.wp_at_zero Go.wp_at_succ
attribute [local go_sem] frozen_alloc_lt

namespace Facts
/-- What holds of the set all along. -/
structure ReaR (S : List (List Int)) (st : Int) (n : Nat) (bs : List Bool) : Prop where
  len : bs.length = n
  snd : ∀ a : Int, 0 ≤ a → inB bs a = true → Come S [st] a
  st : inB bs st = true
/-- Nothing is to be added. -/
def fixR (ps : List (Int × List Int)) (bs : List Bool) : Prop := ∀ x ∈ ps, inB bs x.1 = true → ∀ s ∈ x.2, 0 ≤ s → inB bs s = true

theorem inB_rep (n : Nat) (a : Int) : inB (List.replicate n false) a = false := by
  unfold inB
  rw [List.getD, List.getElem?_replicate]
  split <;> rfl
theorem ReaR.start (S : List (List Int)) (n z : Nat) (hz : z < n) : ReaR S z n ((List.replicate n false).set z true) := by
  refine ⟨by simp, fun a ha h => ?_, ?_⟩
  · rw [show z = (z : Int).toNat from (Int.toNat_natCast z).symm, inB_set _ (z : Int) a (by omega) (by simpa using hz) ha, inB_rep, Bool.or_false, beq_iff_eq] at h
    rw [h]
    exact .base _ (by simp)
  · have e := inB_set (List.replicate n false) (z : Int) z (by omega) (by simpa using hz) (by omega)
    rw [Int.toNat_natCast] at e
    rw [e]
    simp
theorem ntS_mem {r : List Int} {s : Int} : s ∈ ntS r ↔ s ∈ r ∧ 0 ≤ s := by simp [ntS]
theorem ReaR.put {ps : List (Int × List Int)} {st : Int} {n : Nat} {bs : List Bool} (h : ReaR (allT ntS (List.replicate n []) ps) st n bs) (hps : ∀ x ∈ ps, 0 ≤ x.1 ∧ x.1 < (n : Int)) (hst : 0 ≤ st) {x : Int × List Int} (hx : x ∈ ps) (hi : inB bs x.1 = true) {d : Nat} (hd : (d : Int) ∈ x.2) (hn : d < n) :
    ReaR (allT ntS (List.replicate n []) ps) st n (bs.set d true) := by
  obtain ⟨h0, h1⟩ := hps x hx
  have hdn : (d : Int).toNat < bs.length := by rw [h.len, Int.toNat_natCast]; exact hn
  have e : bs.set d true = bs.set (d : Int).toNat true := by rw [Int.toNat_natCast]
  refine ⟨by rw [List.length_set]; exact h.len, fun a ha hin => ?_, ?_⟩
  · rw [e, inB_set bs d a (by omega) hdn ha] at hin
    simp only [Bool.or_eq_true, beq_iff_eq] at hin
    rcases hin with rfl | hin
    · refine .step x.1 _ (h.snd x.1 h0 hi) ?_
      obtain ⟨k, hk⟩ := Int.eq_ofNat_of_zero_le h0
      rw [hk, Int.toNat_natCast]
      exact (allT_mem _ k (d : Int) ps _ (fun y hy => by simpa using hps y hy)).2 (.inr ⟨x, hx, hk, ntS_mem.2 ⟨hd, by omega⟩⟩)
    · exact h.snd a ha hin
  · rw [e, inB_set bs d st (by omega) hdn hst, h.st, Bool.or_true]
theorem ReaR.least {ps : List (Int × List Int)} {st : Int} {n : Nat} {bs : List Bool} (h : ReaR (allT ntS (List.replicate n []) ps) st n bs) (hps : ∀ x ∈ ps, 0 ≤ x.1 ∧ x.1 < (n : Int)) (hst : 0 ≤ st) (hf : fixR ps bs) (a : Int) (ha : 0 ≤ a) :
    inB bs a = true ↔ Come (allT ntS (List.replicate n []) ps) [st] a := by
  refine ⟨h.snd a ha, fun hc => ?_⟩
  have key : 0 ≤ a ∧ inB bs a = true := by
    clear ha
    induction hc with
    | base c hc =>
      have : c = st := by simpa using hc
      rw [this]
      exact ⟨hst, h.st⟩
    | step s c _ hm ih =>
      obtain ⟨h0, h1⟩ := ih
      obtain ⟨k, hk⟩ := Int.eq_ofNat_of_zero_le h0
      rw [hk, Int.toNat_natCast] at hm
      rcases (allT_mem _ k c ps _ (fun y hy => by simpa using hps y hy)).1 hm with h2 | ⟨x, hx, h2, h3⟩
      · exfalso
        rw [List.getD, List.getElem?_replicate] at h2
        split at h2 <;> cases h2
      · obtain ⟨h4, h5⟩ := ntS_mem.1 h3
        exact ⟨h5, hf x hx (by rw [h2, ← hk]; exact h1) c h4 h5⟩
  exact key.2
end Facts

def Rea1 (wd : World) (b g n : Nat) (st : Int) (ps : List (Int × List Int)) (S : List (List Int)) (k : Nat) (v4 : Value) (w : World) : Prop :=
  ∃ (bs : List Bool) (more : Bool), v4 = .bool more ∧ Bk w g 4 (bs.map Value.bool) ∧ Facts.ReaR S st n bs ∧ (more = false → Facts.fixR ps bs) ∧ k = 2 * bs.count false + (if more then 1 else 0) ∧ Below (b + 1) wd w
def PrevR (ps : List (Int × List Int)) (bs : List Bool) (i : Nat) : Prop := ∀ (j : Nat) x, j < i → ps[j]? = some x → Facts.inB bs x.1 = true → ∀ s ∈ x.2, 0 ≤ s → Facts.inB bs s = true
def HereR (bs : List Bool) (l : Int) (r : List Int) (j : Nat) : Prop := ∀ (t : Nat) s, t < j → r[t]? = some s → Facts.inB bs l = true → 0 ≤ s → Facts.inB bs s = true
def Rea2 (wd : World) (b g n : Nat) (st : Int) (ps : List (Int × List Int)) (S : List (List Int)) (P : Nat) (k : Nat) (v4 v5 : Value) (w : World) : Prop :=
  ∃ (i : Nat) (bs : List Bool) (more : Bool), v5 = .int .i64 i ∧ v4 = .bool more ∧ i ≤ ps.length ∧ Bk w g 4 (bs.map Value.bool) ∧ Facts.ReaR S st n bs ∧
    (more = false → PrevR ps bs i) ∧ (if more then bs.count false < P else bs.count false ≤ P) ∧ k = ps.length - i ∧ Below (b + 1) wd w
def Rea3 (wd : World) (b g n : Nat) (st : Int) (ps : List (Int × List Int)) (S : List (List Int)) (P i : Nat) (l : Int) (r : List Int) (k : Nat) (v4 v7 : Value) (w : World) : Prop :=
  ∃ (j : Nat) (bs : List Bool) (more : Bool), v7 = .int .i64 j ∧ v4 = .bool more ∧ j ≤ r.length ∧ Bk w g 4 (bs.map Value.bool) ∧ Facts.ReaR S st n bs ∧
    (more = false → PrevR ps bs i ∧ HereR bs l r j) ∧ (if more then bs.count false < P else bs.count false ≤ P) ∧ k = r.length - j ∧ Below (b + 1) wd w

theorem HereR.snoc {bs : List Bool} {l : Int} {r : List Int} {j : Nat} (h : HereR bs l r j) (hj : ∀ s, r[j]? = some s → Facts.inB bs l = true → 0 ≤ s → Facts.inB bs s = true) : HereR bs l r (j + 1) := by
  intro t s ht hs
  by_cases e : t = j
  · subst e; exact hj s hs
  · exact h t s (by omega) hs
theorem PrevR.snoc {ps : List (Int × List Int)} {bs : List Bool} {i : Nat} {x : Int × List Int} (hx : ps[i]? = some x) (h : PrevR ps bs i) (hh : HereR bs x.1 x.2 x.2.length) : PrevR ps bs (i + 1) := by
  intro j y hj hy hin s hs hs0
  by_cases e : j = i
  · subst e
    rw [hx] at hy
    cases hy
    obtain ⟨t, ht⟩ := List.getElem?_of_mem hs
    exact hh t s (List.getElem?_eq_some_iff.1 ht).1 ht hin hs0
  · exact h j y (by omega) hy hin s hs hs0

set_option maxHeartbeats 8000000 in
set_option maxRecDepth 100000 in
theorem rreach_calls (w : World) (G : Gr) (gn gt gp : Option Addr) (cn ct cp : Nat) (h : GIn w G gn gt gp) (hs : Pl.soundB G = true) :
    Calls Try.prog 45 #[.agg #[.int .i64 G.start, .int .i64 G.rules, .slice gn G.names.length cn, .slice gt G.terms.length ct, .slice gp G.prods.length cp]] w
      (BPost w G.names.length (Facts.Come (Facts.allT Facts.ntS (List.replicate G.names.length []) G.prods) [G.start])) := by
  obtain ⟨i4, hi4, z0, z1, z2⟩ := info_parts boolInfo
  have Hsg := hid (sndG hs)
  have hn1 := Hsg.out.n1
  have hp1 := Hsg.out.p1
  obtain ⟨hn, ht, hp, h1, h2, h3, h4⟩ := h
  obtain ⟨st, ru, ns, ts, ps⟩ := G
  simp only at *
  have hst0 : 0 ≤ st := Hsg.out.s0
  have hst1 : st < (ns.length : Int) := Hsg.out.s1
  obtain ⟨z, rfl⟩ := Int.eq_ofNat_of_zero_le hst0
  have Hps : Hid (∀ x ∈ ps, 0 ≤ x.1 ∧ x.1 < (ns.length : Int)) := hid fun x hx => ⟨Hsg.out.l0 x hx, Hsg.out.l1 x hx⟩
  generalize hS : Facts.allT Facts.ntS (List.replicate ns.length []) ps = S
  have HS := hid hS
  clear hS
  have hb0 : Below w.heap.size w (w.alloc (.cells #[.int .i64 z, .int .i64 ru, .slice gn ns.length cn, .slice gt ts.length ct, .slice gp ps.length cp] 57)) := (Below.refl _ _).alloc (Nat.le_refl _) _
  have hp0' := hp.below hb0
  have hbk : Bk (w.alloc (.cells #[.int .i64 z, .int .i64 ru, .slice gn ns.length cn, .slice gt ts.length ct, .slice gp ps.length cp] 57)) w.heap.size 57 [.int .i64 z, .int .i64 ru, .slice gn ns.length cn, .slice gt ts.length ct, .slice gp ps.length cp] := Bk.new w _ _
  go_enter Try.func45, Try.ntmps45
  go_upto_region 1 with (fail)
  obtain ⟨wd, hwd⟩ : ∃ wd, wd = (w.alloc (.cells #[.int .i64 z, .int .i64 ru, .slice gn ns.length cn, .slice gt ts.length ct, .slice gp ps.length cp] 57)) := ⟨_, rfl⟩
  obtain ⟨b, hbb⟩ : ∃ b, b = w.heap.size := ⟨_, rfl⟩
  have hzd : wd.heap.size = b + 1 := by rw [hwd, hbb]; simp
  rw [← hwd] at hb0 hp0' hbk ⊢
  rw [← hbb] at hbk hp0' ⊢
  have Hbb := hid hbb
  have Hzd := hid hzd
  clear hwd hbb hzd hp hn ht h1 h2 h3 h4 hs
  have g2 := hbk.cell 2
  simp only [List.getElem?_cons_zero, List.getElem?_cons_succ] at g2
  go_upto_region 2 with (at_make; refine wpList_make_bk _ rfl _ _ _ rfl 4 i4 _ Try.underlying61 hi4 z0 z1 rfl _ _ ns.length rfl rfl rfl rfl (by rw [z2]; omega) (by omega) ?_; intro w1 hba hk1)
  have hb1 : Below (b + 1) wd w1 := hk1.to_below (by rw [Hzd.out]; omega) (fun k hk => hk.elim)
  obtain ⟨g, hge⟩ : ∃ g, g = wd.heap.size := ⟨_, rfl⟩
  rw [← hge] at hba ⊢
  have hgb : b + 1 ≤ g := by rw [hge, Hzd.out]; omega
  have hba2 : Bk w1 g 4 ((List.replicate ns.length false).map Value.bool) := hba.of (by simp)
  have hbk1 := hbk.below hb1 (by omega)
  clear hba hk1 hge g2
  have hz : z < ns.length := by omega
  have g0 := hbk1.cell 0
  have cb := hba2.cell z
  have fb := hba2.free z
  simp only [List.getElem?_cons_zero, List.getElem?_map, List.getElem?_replicate, hz, if_true, Option.map_some] at g0 cb
  have hset0 : Bk (w1.setCell ⟨g, z, none⟩ (.bool true)) g 4 (((List.replicate ns.length false).set z true).map Value.bool) := (hba2.set z (.bool true)).of (by simp)
  have hbs0 := hb1.setCell (p := ⟨g, z, none⟩) (by exact hgb) (.bool true)
  have hst := Facts.ReaR.start S ns.length z hz
  have Hst := hid hst
  clear hst hba2 hb1 hbk1
  go_wp2_with fail
  clear g0 cb fb
  go_loopg [4] (2 * ((List.replicate ns.length false).set z true).count false + 1) (fun k v4 wr => Rea1 wd b g ns.length z ps S k v4 wr)
  case atStart => exact ⟨_, true, rfl, hset0, Hst.out, (fun h => by cases h), rfl, hbs0⟩
  case round =>
    clear hset0 hbs0
    obtain ⟨bs, more, rfl, hkg, hnul, hfix, hk, hb⟩ := hrel
    have Hk := hid hk
    have Hnul := hid hnul
    have Hfix : Hid (more = false → Facts.fixR ps bs) := hid hfix
    clear hk hnul hfix
    rcases Bool.eq_false_or_eq_true more with hmr | hmr
    rotate_left
    · have hfx := Hid.out Hfix hmr
      have Hfx := hid hfx
      subst hmr
      clear Hfix hfx
      go_wp2_with fail
      go_ret
      exact ⟨some ⟨g, 0, none⟩, ns.length, bs, rfl, Hnul.out.len, bk_rowB hkg, fun a ha => by have h := Hnul.out; have e := HS.out; subst e; exact h.least Hps.out (by omega) Hfx.out a ha, hb0.trans (hb.mono (by rw [← Hbb.out]; omega))⟩
    · subst hmr
      clear Hfix
      go_wp2_with fail
      go_loopg [4, 5] ps.length (fun k v4 v5 wr => Rea2 wd b g ns.length z ps S (bs.count false) k v4 v5 wr)
      case atStart => exact ⟨0, bs, false, rfl, rfl, by omega, hkg, Hnul.out, fun _ j x hj => by omega, by simp, rfl, hb⟩
      case round =>
        clear hkg hb
        obtain ⟨i, bs2, more, rfl, rfl, hi, hkg, hnul, hfix, hpot, hki, hb⟩ := hrel
        have Hki := hid hki
        have Hnul2 := hid hnul
        have Hfix2 : Hid (more = false → PrevR ps bs2 i) := hid hfix
        have Hpot := hid hpot
        clear hki hnul hfix hpot
        have hbkr := hbk.below hb (by omega)
        have g4 := hbkr.cell 4
        simp only [List.getElem?_cons_zero, List.getElem?_cons_succ] at g4
        by_cases hlt : i < ps.length
        · have hlt' : (i : Int) < (ps.length : Int) := by omega
          have hi0 : (0 : Int) ≤ (i : Int) := by omega
          obtain ⟨x, hx⟩ : ∃ x, x = ps[i] := ⟨_, rfl⟩
          have hxm : x ∈ ps := by rw [hx]; exact List.getElem_mem hlt
          have hxi : ps[i]? = some x := by rw [hx]; exact List.getElem?_eq_getElem hlt
          have hr16 := Hsg.out.r16 x hxm
          have hl0 := Hsg.out.l0 x hxm
          have hl1 : x.1 < (ns.length : Int) := Hsg.out.l1 x hxm
          have Hs1 := hid (Hsg.out.r1 x hxm)
          obtain ⟨g', off, gr, cr, rfl, hg', hd0, hd1, hrid⟩ := hp0' i _ hxi
          have hc0 := (hb.cell (p := ⟨g', off + i * 2, none⟩) (show g' < b + 1 by omega)).trans hd0
          have hc1 := (hb.cell (p := ⟨g', off + i * 2 + 1, none⟩) (show g' < b + 1 by omega)).trans hd1
          obtain ⟨l, r⟩ := x
          simp only at hr16 hl0 hl1 hc0 hc1 hd0 hd1 hrid
          obtain ⟨a, rfl⟩ := Int.eq_ofNat_of_zero_le hl0
          have Hxi := hid hxi
          have Hxm := hid hxm
          clear hx hxi hxm
          go_wp2_with fail
          clear hc0 hc1 g4 hbkr
          go_loopg [4, 7] r.length (fun k v4 v7 wq => Rea3 wd b g ns.length z ps S (bs.count false) i a r k v4 v7 wq)
          case atStart => exact ⟨0, bs2, more, rfl, rfl, by omega, hkg, Hnul2.out, fun hm => ⟨Hid.out Hfix2 hm, fun t s ht => by omega⟩, Hpot.out, rfl, hb⟩
          case round =>
            clear hkg hb Hnul2 Hfix2 Hpot
            obtain ⟨j, bs2, more, rfl, rfl, hj, hkg, hnul, hfix, hpot, hkj, hb⟩ := hrel
            have Hkj := hid hkj
            have Hnul2 := hid hnul
            have Hfix2 : Hid (more = false → PrevR ps bs2 i ∧ HereR bs2 a r j) := hid hfix
            have Hpot := hid hpot
            clear hkj hnul hfix hpot
            have hri := hrid.below (hb.mono (by omega))
            by_cases hlj : j < r.length
            · have hlj' : (j : Int) < (r.length : Int) := by omega
              have hj0 : (0 : Int) ≤ (j : Int) := by omega
              have hbkr := hbk.below hb (by omega)
              have g4 := hbkr.cell 4
              simp only [List.getElem?_cons_zero, List.getElem?_cons_succ] at g4
              have hc0 := (hb.cell (p := ⟨g', off + i * 2, none⟩) (show g' < b + 1 by omega)).trans hd0
              have ha : a < bs2.length := by rw [Hnul2.out.len]; omega
              have cb := hkg.cell a
              simp only [List.getElem?_map, List.getElem?_eq_getElem ha, Option.map_some] at cb
              have hia : Facts.inB bs2 a = bs2[a] := by simp [Facts.inB, List.getD, List.getElem?_eq_getElem ha]
              obtain ⟨va, hva⟩ : ∃ va, va = bs2[a] := ⟨_, rfl⟩
              rw [← hva] at cb hia
              have Hia := hid hia
              clear hia hva hbkr
              cases va with
              | false =>
                go_wp2_with fail
                go_roundg (r.length - (j + 1))
                case measure => have hk := Hkj.out; omega
                case rel => exact ⟨j + 1, bs2, more, by go_num, rfl, by omega, hkg, Hnul2.out, fun hm => ⟨(Hid.out Hfix2 hm).1, (Hid.out Hfix2 hm).2.snoc fun s _ h => by rw [Hia.out] at h; cases h⟩, Hpot.out, rfl, hb⟩
              | true =>
                obtain ⟨s, hs⟩ : ∃ s, s = r[j] := ⟨_, rfl⟩
                have hsm : s ∈ r := by rw [hs]; exact List.getElem_mem hlj
                have hsj : r[j]? = some s := by rw [hs]; exact List.getElem?_eq_getElem hlj
                have hs1 : s < (ns.length : Int) := Hs1.out s hsm
                obtain ⟨gr', ofr, rfl, hgr, hcr⟩ := hri.at hlj
                rw [← hs] at hcr
                have Hsj := hid hsj
                have Hsm := hid hsm
                clear hs hsm hsj
                by_cases hpos : 0 ≤ s
                · obtain ⟨d, rfl⟩ := Int.eq_ofNat_of_zero_le hpos
                  have hd : d < bs2.length := by rw [Hnul2.out.len]; omega
                  have cd := hkg.cell d
                  have fd := hkg.free d
                  simp only [List.getElem?_map, List.getElem?_eq_getElem hd, Option.map_some] at cd
                  have hid' : Facts.inB bs2 d = bs2[d] := by simp [Facts.inB, List.getD, List.getElem?_eq_getElem hd]
                  obtain ⟨vd, hvd⟩ : ∃ vd, vd = bs2[d] := ⟨_, rfl⟩
                  rw [← hvd] at cd hid'
                  have Hid' := hid hid'
                  have Hvd := hid hvd
                  clear hid' hvd
                  cases vd with
                  | true =>
                    go_wp2_with fail
                    go_roundg (r.length - (j + 1))
                    case measure => have hk := Hkj.out; omega
                    case rel => exact ⟨j + 1, bs2, more, by go_num, rfl, by omega, hkg, Hnul2.out, fun hm => ⟨(Hid.out Hfix2 hm).1, (Hid.out Hfix2 hm).2.snoc fun s h _ _ => by rw [Hsj.out] at h; injection h with h; rw [← h]; exact Hid'.out⟩, Hpot.out, rfl, hb⟩
                  | false =>
                    have hset : Bk (wr.setCell ⟨g, d, none⟩ (.bool true)) g 4 ((bs2.set d true).map Value.bool) := (hkg.set d (.bool true)).of (by simp)
                    have hput : Facts.ReaR S z ns.length (bs2.set d true) := by
                      have h := Hnul2.out
                      have e := HS.out
                      subst e
                      exact h.put Hps.out (by omega) Hxm.out Hia.out Hsm.out (by omega)
                    have hcnt := Facts.count_set_true bs2 d (by rw [List.getElem?_eq_getElem hd, ← Hvd.out])
                    have hbs := hb.setCell (p := ⟨g, d, none⟩) (by exact hgb) (.bool true)
                    have Hset := hid hset
                    have Hput := hid hput
                    have Hcnt := hid hcnt
                    clear hset hput hcnt
                    go_wp2_with fail
                    go_roundg (r.length - (j + 1))
                    case measure => have hk := Hkj.out; omega
                    case rel => exact ⟨j + 1, bs2.set d true, true, by go_num, rfl, by omega, Hset.out, Hput.out, (fun h => by cases h), by have h1 := Hcnt.out; have h2 := Hpot.out; simp; cases more <;> simp at h2 <;> omega, rfl, hbs⟩
                · have hneg : s < 0 := by omega
                  go_wp2_with fail
                  go_roundg (r.length - (j + 1))
                  case measure => have hk := Hkj.out; omega
                  case rel => exact ⟨j + 1, bs2, more, by go_num, rfl, by omega, hkg, Hnul2.out, fun hm => ⟨(Hid.out Hfix2 hm).1, (Hid.out Hfix2 hm).2.snoc fun s h _ h0 => by rw [Hsj.out] at h; injection h with h; omega⟩, Hpot.out, rfl, hb⟩
            · have hge : ¬ (j : Int) < (r.length : Int) := by omega
              have hjr : j = r.length := by omega
              have hnx : more = false → PrevR ps bs2 (i + 1) := fun hm => PrevR.snoc Hxi.out (Hid.out Hfix2 hm).1 (hjr ▸ (Hid.out Hfix2 hm).2)
              have Hnx : Hid (more = false → PrevR ps bs2 (i + 1)) := hid hnx
              clear hjr hnx Hfix2
              go_wp2_with fail
              go_roundg (ps.length - (i + 1))
              case measure => have hk := Hki.out; omega
              case rel => exact ⟨i + 1, bs2, more, by go_num, rfl, by omega, hkg, Hnul2.out, Hid.out Hnx, Hpot.out, rfl, hb⟩
        · have hge : ¬ (i : Int) < (ps.length : Int) := by omega
          have hie : i = ps.length := by omega
          have Hie := hid hie
          have Hf2 : Hid (more = false → PrevR ps bs2 i) := Hfix2
          clear hie Hfix2
          go_wp2_with fail
          go_roundg (2 * bs2.count false + (if more then 1 else 0))
          case measure => have hk := Hk.out; have hp := Hpot.out; cases more <;> simp at hp hk ⊢ <;> omega
          case rel => exact ⟨bs2, more, rfl, hkg, Hnul2.out, (fun hm x hx hin => by
            obtain ⟨j, hj⟩ := List.getElem?_of_mem hx
            exact Hid.out Hf2 hm j x (by rw [Hie.out]; exact (List.getElem?_eq_some_iff.1 hj).1) hj hin), rfl, hb⟩
end Go.Proofs.Ytbpgolmbielpgaa
