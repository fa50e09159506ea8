/- Chapter 9, the document's answer: Nullable: law and walk. -/
import Derived.Test.YtbpgolmbielpgaaFacts8
namespace Go.Proofs.Ytbpgolmbielpgaa
open Go.RowKit
attribute [local go_sem ↓] Go.wp_at_zero Go.wp_at_succ
attribute [local go_sem] frozen_alloc_lt

namespace Facts
def allN (bs : List Bool) (r : List Int) : Bool := r.all fun s => decide (0 ≤ s) && inB bs s
/-- What holds of the set all along. -/
structure NulR (ps : List (Int × List Int)) (n : Nat) (bs : List Bool) : Prop where
  len : bs.length = n
  snd : ∀ a : Int, 0 ≤ a → inB bs a = true → Gen ps false a
/-- Nothing is to be added. -/
def fixN (ps : List (Int × List Int)) (bs : List Bool) : Prop := ∀ x ∈ ps, allN bs x.2 = true → inB bs x.1 = true

theorem NulR.start (ps : List (Int × List Int)) (n : Nat) : NulR ps n (List.replicate n false) := by
  refine ⟨by simp, fun a _ h => ?_⟩
  unfold inB at h
  simp [List.getD, List.getElem?_replicate] at h
  split at h <;> simp at h
theorem NulR.put {ps : List (Int × List Int)} {n : Nat} {bs : List Bool} (h : NulR ps n bs) {x : Int × List Int} (hx : x ∈ ps) (h0 : 0 ≤ x.1) (h1 : x.1 < n) (ha : allN bs x.2 = true) : NulR ps n (bs.set x.1.toNat true) := by
  refine ⟨by rw [List.length_set]; exact h.len, fun a ha0 hin => ?_⟩
  rw [inB_set bs x.1 a h0 (by rw [h.len]; omega) ha0] at hin
  simp only [Bool.or_eq_true, beq_iff_eq] at hin
  rcases hin with rfl | hin
  · have hall := List.all_eq_true.1 ha
    refine Gen.mk x hx (fun s hs hs0 => ?_) (fun s hs hs0 => ?_)
    · have := hall s hs
      simp at this
      omega
    · have := hall s hs
      simp at this
      exact h.snd s hs0 this.2
  · exact h.snd a ha0 hin
theorem NulR.least {ps : List (Int × List Int)} {n : Nat} {bs : List Bool} (h : NulR ps n bs) (hf : fixN ps bs) (a : Int) (ha : 0 ≤ a) : inB bs a = true ↔ Gen ps false a := by
  refine ⟨h.snd a ha, fun hg => ?_⟩
  clear ha
  induction hg with
  | mk x hx h0 h1 ih =>
    refine hf x hx (List.all_eq_true.2 fun s hs => ?_)
    have hs0 : 0 ≤ s := by
      rcases Int.lt_or_le s 0 with h | h
      · exact absurd (h0 s hs h) (by decide)
      · exact h
    simp [hs0, ih s hs hs0]
/-- Two rows of bools that hold of the same nonterminals. -/
theorem inB_same {bs bs' : List Bool} {n : Nat} {p : Int → Prop} (h : bs.length = n) (h' : bs'.length = n) (hp : ∀ a : Int, 0 ≤ a → (inB bs a = true ↔ p a)) (hp' : ∀ a : Int, 0 ≤ a → (inB bs' a = true ↔ p a)) : bs = bs' := by
  refine List.ext_getElem (by rw [h, h']) fun i hi hi' => ?_
  have e1 : inB bs i = bs[i] := by simp [inB, List.getD, List.getElem?_eq_getElem hi]
  have e2 : inB bs' i = bs'[i] := by simp [inB, List.getD, List.getElem?_eq_getElem hi']
  have h3 := (hp i (by omega)).trans (hp' i (by omega)).symm
  rw [e1, e2] at h3
  exact Bool.eq_iff_iff.2 h3
end Facts

def Nul1 (wd : World) (b g n : Nat) (ps : List (Int × List Int)) (k : Nat) (v4 : Value) (w : World) : Prop :=
  ∃ (bs : List Bool) (more : Bool), v4 = .bool more ∧ Bk w g 4 (bs.map Value.bool) ∧ Facts.NulR ps n bs ∧ (more = false → Facts.fixN ps bs) ∧ k = 2 * bs.count false + (if more then 1 else 0) ∧ Below (b + 1) wd w
def Nul2 (wd : World) (b g n : Nat) (ps : List (Int × List Int)) (P : Nat) (k : Nat) (v4 v5 : Value) (w : World) : Prop :=
  ∃ (i : Nat) (bs : List Bool) (more : Bool), v5 = .int .i64 i ∧ v4 = .bool more ∧ i ≤ ps.length ∧ Bk w g 4 (bs.map Value.bool) ∧ Facts.NulR ps n bs ∧
    (more = false → ∀ (j : Nat) x, j < i → ps[j]? = some x → Facts.allN bs x.2 = true → Facts.inB bs x.1 = true) ∧ (if more then bs.count false < P else bs.count false ≤ P) ∧ k = ps.length - i ∧ Below (b + 1) wd w
def Nul3 (w1 : World) (bs : List Bool) (r : List Int) (k : Nat) (v6 v8 : Value) (w : World) : Prop :=
  ∃ (j : Nat) (al : Bool), v8 = .int .i64 j ∧ v6 = .bool al ∧ j ≤ r.length ∧ Facts.allN bs (r.take j) = al ∧ k = r.length - j ∧ w = w1

theorem allN_snoc (bs : List Bool) (r : List Int) (j : Nat) (h : j < r.length) : Facts.allN bs (r.take (j + 1)) = (Facts.allN bs (r.take j) && (decide (0 ≤ r[j]) && Facts.inB bs r[j])) := by
  unfold Facts.allN
  rw [List.take_succ_eq_append_getElem h]
  simp only [List.all_append, List.all_cons, List.all_nil, Bool.and_true]

set_option maxHeartbeats 8000000 in
set_option maxRecDepth 100000 in
theorem rnull_calls (w : World) (G : Gr) (gn gt gp : Option Addr) (cn ct cp : Nat) (h : GIn w G gn gt gp) (hs : Pl.soundB G = true) :
    Calls Try.prog 34 #[.agg #[.int .i64 G.start, .int .i64 G.rules, .slice gn G.names.length cn, .slice gt G.terms.length ct, .slice gp G.prods.length cp]] w (BPost w G.names.length (Facts.Gen G.prods false)) := by
  obtain ⟨i4, hi4, z0, z1, z2⟩ := info_parts boolInfo
  have Hsg := hid (sndG hs)
  have hn1 := Hsg.out.n1
  have hp1 := Hsg.out.p1
  obtain ⟨hn, ht, hp, h1, h2, h3, h4⟩ := h
  obtain ⟨st, ru, ns, ts, ps⟩ := G
  simp only at *
  have hb0 : Below w.heap.size w (w.alloc (.cells #[.int .i64 st, .int .i64 ru, .slice gn ns.length cn, .slice gt ts.length ct, .slice gp ps.length cp] 57)) := (Below.refl _ _).alloc (Nat.le_refl _) _
  have hp0' := hp.below hb0
  have hbk : Bk (w.alloc (.cells #[.int .i64 st, .int .i64 ru, .slice gn ns.length cn, .slice gt ts.length ct, .slice gp ps.length cp] 57)) w.heap.size 57 [.int .i64 st, .int .i64 ru, .slice gn ns.length cn, .slice gt ts.length ct, .slice gp ps.length cp] := Bk.new w _ _
  go_enter Try.func34, Try.ntmps34
  go_upto_region 1 with (fail)
  obtain ⟨wd, hwd⟩ : ∃ wd, wd = (w.alloc (.cells #[.int .i64 st, .int .i64 ru, .slice gn ns.length cn, .slice gt ts.length ct, .slice gp ps.length cp] 57)) := ⟨_, rfl⟩
  obtain ⟨b, hbb⟩ : ∃ b, b = w.heap.size := ⟨_, rfl⟩
  have hzd : wd.heap.size = b + 1 := by rw [hwd, hbb]; simp
  rw [← hwd] at hb0 hp0' hbk ⊢
  rw [← hbb] at hbk hp0' ⊢
  have Hbb := hid hbb
  have Hzd := hid hzd
  clear hwd hbb hzd hp hn ht h1 h2 h3 h4 hs
  have g2 := hbk.cell 2
  simp only [List.getElem?_cons_zero, List.getElem?_cons_succ] at g2
  go_upto_region 2 with (at_make; refine wpList_make_bk _ rfl _ _ _ rfl 4 i4 _ Try.underlying61 hi4 z0 z1 rfl _ _ ns.length rfl rfl rfl rfl (by rw [z2]; omega) (by omega) ?_; intro w1 hba hk1)
  have hb1 : Below (b + 1) wd w1 := hk1.to_below (by rw [Hzd.out]; omega) (fun k hk => hk.elim)
  obtain ⟨g, hge⟩ : ∃ g, g = wd.heap.size := ⟨_, rfl⟩
  rw [← hge] at hba ⊢
  have hgb : b + 1 ≤ g := by rw [hge, Hzd.out]; omega
  have hba2 : Bk w1 g 4 ((List.replicate ns.length false).map Value.bool) := hba.of (by simp)
  clear hba hk1 hge g2
  go_wp2_with fail
  go_loopg [4] (2 * (List.replicate ns.length false).count false + 1) (fun k v4 wr => Nul1 wd b g ns.length ps k v4 wr)
  case atStart => exact ⟨_, true, rfl, hba2, Facts.NulR.start ps ns.length, (fun h => by cases h), rfl, hb1⟩
  case round =>
    clear hba2 hb1
    obtain ⟨bs, more, rfl, hkg, hnul, hfix, hk, hb⟩ := hrel
    have Hk := hid hk
    have Hnul := hid hnul
    have Hfix : Hid (more = false → Facts.fixN ps bs) := hid hfix
    clear hk hnul hfix
    rcases Bool.eq_false_or_eq_true more with hmr | hmr
    rotate_left
    · have hfx := Hid.out Hfix hmr
      have Hfx := hid hfx
      subst hmr
      clear Hfix hfx
      go_wp2_with fail
      go_ret
      exact ⟨some ⟨g, 0, none⟩, ns.length, bs, rfl, Hnul.out.len, bk_rowB hkg, fun a ha => Hnul.out.least Hfx.out a ha, hb0.trans (hb.mono (by rw [← Hbb.out]; omega))⟩
    · subst hmr
      clear Hfix
      go_wp2_with fail
      go_loopg [4, 5] ps.length (fun k v4 v5 wr => Nul2 wd b g ns.length ps (bs.count false) k v4 v5 wr)
      case atStart => exact ⟨0, bs, false, rfl, rfl, by omega, hkg, Hnul.out, fun _ j x hj => by omega, by simp, rfl, hb⟩
      case round =>
        clear hkg hb
        obtain ⟨i, bs2, more, rfl, rfl, hi, hkg, hnul, hfix, hpot, hki, hb⟩ := hrel
        have Hki := hid hki
        have Hnul2 := hid hnul
        have Hfix2 : Hid (more = false → ∀ (j : Nat) (x : Int × List Int), j < i → ps[j]? = some x → Facts.allN bs2 x.2 = true → Facts.inB bs2 x.1 = true) := hid hfix
        have Hpot := hid hpot
        clear hki hnul hfix hpot
        have hbkr := hbk.below hb (by omega)
        have g4 := hbkr.cell 4
        simp only [List.getElem?_cons_zero, List.getElem?_cons_succ] at g4
        by_cases hlt : i < ps.length
        · have hlt' : (i : Int) < (ps.length : Int) := by omega
          have hi0 : (0 : Int) ≤ (i : Int) := by omega
          obtain ⟨x, hx⟩ : ∃ x, x = ps[i] := ⟨_, rfl⟩
          have hxm : x ∈ ps := by rw [hx]; exact List.getElem_mem hlt
          have hxi : ps[i]? = some x := by rw [hx]; exact List.getElem?_eq_getElem hlt
          have hr16 := Hsg.out.r16 x hxm
          have hl0 := Hsg.out.l0 x hxm
          have hl1 : x.1 < (ns.length : Int) := Hsg.out.l1 x hxm
          have Hs1 := hid (Hsg.out.r1 x hxm)
          obtain ⟨g', off, gr, cr, rfl, hg', hd0, hd1, hrid⟩ := hp0' i _ hxi
          have hc0 := (hb.cell (p := ⟨g', off + i * 2, none⟩) (show g' < b + 1 by omega)).trans hd0
          have hc1 := (hb.cell (p := ⟨g', off + i * 2 + 1, none⟩) (show g' < b + 1 by omega)).trans hd1
          obtain ⟨l, r⟩ := x
          simp only at hr16 hl0 hl1 hc0 hc1 hrid
          obtain ⟨a, rfl⟩ := Int.eq_ofNat_of_zero_le hl0
          have Hxi := hid hxi
          have Hxm := hid hxm
          clear hx hxi hxm hd0 hd1
          have hri := hrid.below (hb.mono (by omega))
          have ha : a < bs2.length := by rw [Hnul2.out.len]; omega
          have cb := hkg.cell a
          have fb := hkg.free a
          simp only [List.getElem?_map, List.getElem?_eq_getElem ha, Option.map_some] at cb
          have hia : Facts.inB bs2 a = bs2[a] := by simp [Facts.inB, List.getD, List.getElem?_eq_getElem ha]
          obtain ⟨va, hva⟩ : ∃ va, va = bs2[a] := ⟨_, rfl⟩
          rw [← hva] at cb hia
          have Hia := hid hia
          have Hva := hid hva
          clear hia hva
          go_wp2_with fail
          go_loopg [6, 8] r.length (fun k v6 v8 wq => Nul3 wr bs2 r k v6 v8 wq)
          case atStart => exact ⟨0, true, rfl, rfl, by omega, rfl, rfl, rfl⟩
          case round =>
            obtain ⟨j, al, rfl, rfl, hj, hal, hk, rfl⟩ := hrel
            have Hkj := hid hk
            have Hal := hid hal
            clear hk hal
            by_cases hlj : j < r.length
            · have hlj' : (j : Int) < (r.length : Int) := by omega
              have hj0 : (0 : Int) ≤ (j : Int) := by omega
              have hsn := allN_snoc bs2 r j hlj
              rw [Hal.out] at hsn
              cases al with
              | false =>
                have Hsn := hid hsn
                clear hsn
                go_wp2_with fail
                go_roundg (r.length - (j + 1))
                case measure => have hk := Hkj.out; omega
                case rel => exact ⟨j + 1, false, by go_num, rfl, by omega, by rw [Hsn.out]; rfl, rfl, rfl⟩
              | true =>
                obtain ⟨s, hs⟩ : ∃ s, s = r[j] := ⟨_, rfl⟩
                have hsm : s ∈ r := by rw [hs]; exact List.getElem_mem hlj
                have hs1 : s < (ns.length : Int) := Hs1.out s hsm
                obtain ⟨gr', ofr, rfl, hgr, hcr⟩ := hri.at hlj
                rw [← hs] at hcr hsn
                have Hsn := hid hsn
                clear hs hsm hsn
                by_cases hpos : 0 ≤ s
                · obtain ⟨d, rfl⟩ := Int.eq_ofNat_of_zero_le hpos
                  have hd : d < bs2.length := by rw [Hnul2.out.len]; omega
                  have cd := hkg.cell d
                  simp only [List.getElem?_map, List.getElem?_eq_getElem hd, Option.map_some] at cd
                  have hid' : Facts.inB bs2 d = bs2[d] := by simp [Facts.inB, List.getD, List.getElem?_eq_getElem hd]
                  obtain ⟨vd, hvd⟩ : ∃ vd, vd = bs2[d] := ⟨_, rfl⟩
                  rw [← hvd] at cd hid'
                  have Hid' := hid hid'
                  clear hid' hvd
                  go_wp2_with fail
                  go_roundg (r.length - (j + 1))
                  case measure => have hk := Hkj.out; omega
                  case rel => exact ⟨j + 1, vd, by go_num, rfl, by omega, by rw [Hsn.out, Hid'.out]; simp, rfl, rfl⟩
                · have hneg : s < 0 := by omega
                  go_wp2_with fail
                  go_roundg (r.length - (j + 1))
                  case measure => have hk := Hkj.out; omega
                  case rel => exact ⟨j + 1, false, by go_num, rfl, by omega, by rw [Hsn.out]; simp; omega, rfl, rfl⟩
            · have hge : ¬ (j : Int) < (r.length : Int) := by omega
              have hjr : j = r.length := by omega
              have hall : Facts.allN bs2 r = al := by rw [← Hal.out, hjr, List.take_length]
              have Hall := hid hall
              have Hf2 : Hid (more = false → ∀ (j : Nat) (x : Int × List Int), j < i → ps[j]? = some x → Facts.allN bs2 x.2 = true → Facts.inB bs2 x.1 = true) := Hfix2
              have hnext : (al = true → va = true) → more = false → ∀ (j : Nat) (x : Int × List Int), j < i + 1 → ps[j]? = some x → Facts.allN bs2 x.2 = true → Facts.inB bs2 x.1 = true := by
                intro hno hm j x hj hx hax
                by_cases hji : j = i
                · subst hji
                  have hxx := Hxi.out
                  rw [hx] at hxx
                  injection hxx with hxx
                  subst hxx
                  rw [Hia.out]
                  exact hno (by rw [← Hall.out]; exact hax)
                · exact Hid.out Hf2 hm j x (by omega) hx hax
              have Hnext := hid hnext
              clear hall hjr hnext Hf2 Hfix2
              cases al with
              | false =>
                go_wp2_with fail
                go_roundg (ps.length - (i + 1))
                case measure => have hk := Hki.out; omega
                case rel => exact ⟨i + 1, bs2, more, by go_num, rfl, by omega, hkg, Hnul2.out, Hnext.out (fun h => by cases h), Hpot.out, rfl, hb⟩
              | true =>
                cases va with
                | true =>
                  go_wp2_with fail
                  go_roundg (ps.length - (i + 1))
                  case measure => have hk := Hki.out; omega
                  case rel => exact ⟨i + 1, bs2, more, by go_num, rfl, by omega, hkg, Hnul2.out, Hnext.out (by intros; first | rfl | trivial), Hpot.out, rfl, hb⟩
                | false =>
                  have hset : Bk (wr.setCell ⟨g, a, none⟩ (.bool true)) g 4 ((bs2.set a true).map Value.bool) := (hkg.set a (.bool true)).of (by simp)
                  have hput : Facts.NulR ps ns.length (bs2.set a true) := Hnul2.out.put Hxm.out hl0 hl1 Hall.out
                  have hcnt := Facts.count_set_true bs2 a (by rw [List.getElem?_eq_getElem ha, ← Hva.out])
                  have hbs := hb.setCell (p := ⟨g, a, none⟩) (by exact hgb) (.bool true)
                  have Hset := hid hset
                  have Hput := hid hput
                  have Hcnt := hid hcnt
                  clear hset hput hcnt
                  go_wp2_with fail
                  go_roundg (ps.length - (i + 1))
                  case measure => have hk := Hki.out; omega
                  case rel => exact ⟨i + 1, bs2.set a true, true, by go_num, rfl, by omega, Hset.out, Hput.out, (fun h => by cases h), by have h1 := Hcnt.out; have h2 := Hpot.out; simp; cases more <;> simp at h2 <;> omega, rfl, hbs⟩
        · have hge : ¬ (i : Int) < (ps.length : Int) := by omega
          have hie : i = ps.length := by omega
          have Hie := hid hie
          have Hf2 : Hid (more = false → ∀ (j : Nat) (x : Int × List Int), j < i → ps[j]? = some x → Facts.allN bs2 x.2 = true → Facts.inB bs2 x.1 = true) := Hfix2
          clear hie Hfix2
          go_wp2_with fail
          go_roundg (2 * bs2.count false + (if more then 1 else 0))
          case measure => have hk := Hk.out; have hp := Hpot.out; cases more <;> simp at hp hk ⊢ <;> omega
          case rel => exact ⟨bs2, more, rfl, hkg, Hnul2.out, (fun hm x hx hax => by
            obtain ⟨j, hj⟩ := List.getElem?_of_mem hx
            exact Hid.out Hf2 hm j x (by rw [Hie.out]; exact (List.getElem?_eq_some_iff.1 hj).1) hj hax), rfl, hb⟩
end Go.Proofs.Ytbpgolmbielpgaa
