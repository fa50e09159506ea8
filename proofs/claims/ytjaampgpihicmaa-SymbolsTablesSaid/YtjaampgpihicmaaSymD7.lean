/- Chapter 7 (symbols), the document's side: Terminals of any grammar. -/
import Derived.Test.YtjaampgpihicmaaSymD5
namespace Go.Proofs.Ytjaampgpihicmaa
open Go.RowKit
attribute [local go_sem ↓] Go.wp_at_zero Go.wp_at_succ
attribute [local go_sem] frozen_alloc_lt
open Syn (Nd Nod)

set_option maxRecDepth 8000 in
set_option maxHeartbeats 8000000 in
theorem rterms_calls (w : World) (st : List UInt8) (rs : List (List UInt8 × Nod)) (ga : Option Addr) (ca : Nat) (hin : RulesIn w ga rs) (hl : rs.length ≤ 1000) (hfit : ∀ x ∈ rs, x.2.fits 100000) (hmost : Syn.bodies rs ≤ 800000) :
    Calls Try.prog 34 #[.agg #[.string ⟨st.toArray⟩, .slice ga rs.length ca]] w (TxSaid ((rs.flatMap fun x => x.2.lits).foldl nameA []) w) := by
  obtain ⟨L, hL⟩ : ∃ L, L = rs.length := ⟨_, rfl⟩
  have hbx := Bk.new w 33 [.string ⟨st.toArray⟩, .slice ga rs.length ca]
  have hbn := bel_new w (.cells #[.string ⟨st.toArray⟩, .slice ga rs.length ca] 33)
  have hst0 : DgSt w w.heap.size st rs ga ca (.slice none 0 0) [] (w.alloc (.cells #[.string ⟨st.toArray⟩, .slice ga rs.length ca] 33)) := ⟨hbx, TxO.nil _ _, hbn, rfl⟩
  rw [← hL] at hl hst0 ⊢
  obtain ⟨wa, hwa⟩ : ∃ wa, wa = w.alloc (.cells #[.string ⟨st.toArray⟩, .slice ga L ca] 33) := ⟨_, rfl⟩
  obtain ⟨bq, hbq⟩ : ∃ bq, bq = w.heap.size := ⟨_, rfl⟩
  obtain ⟨f2, hf2⟩ : ∃ f2, f2 = (rs.flatMap fun x => x.2.lits).foldl nameA [] := ⟨_, rfl⟩
  rw [← hf2]
  rw [← hwa] at hst0
  rw [← hbq] at hst0
  have HW := hid hwa
  have HQ := hid hbq
  have HL := hid hL
  have Hin := hid hin
  have Hst0 := hid hst0
  have Hfit := hid hfit
  have Hmost := hid hmost
  have Hf2 := hid hf2
  clear hwa hbq hL hin hst0 hfit hmost hbx hbn hf2
  go_enter Try.func34, Try.ntmps34
  go_upto_region 1 with fail
  rw [← HW.out, ← HQ.out]
  go_wp2_with fail
  go_loopg [3, 4] L (fun k v3 v4 wx => Nm2 Nod.lits w bq st rs ga ca f2 k v3 v4 wx)
  case atStart => exact ⟨0, [], rfl, by rw [HL.out]; rfl, Nat.zero_le _, Hst0.out, by rw [List.drop_zero, Hf2.out], by rw [List.drop_zero]; have := Hmost.out; simp; omega⟩
  case round =>
    obtain ⟨i, ss, rfl, hk, hil, hs1, hall, hmo⟩ := hrel
    have q1 := hs1.arg.cell 1
    have hbl := hs1.arg.lt
    simp only [List.getElem?_cons_zero, List.getElem?_cons_succ, ← HL.out] at q1
    rcases Nat.lt_or_ge i rs.length with hlt | hge
    · have hltL : (i : Int) < (L : Int) := by have := HL.out; omega
      have hi0 : (0 : Int) ≤ (i : Int) := by omega
      obtain ⟨x, hxx⟩ : ∃ x, x = rs[i] := ⟨_, rfl⟩
      have hgx : rs[i]? = some x := by rw [hxx]; exact List.getElem?_eq_getElem hlt
      have hxm : x ∈ rs := by rw [hxx]; exact List.getElem_mem hlt
      obtain ⟨g1, o1, gk1, ck1, hga, hg1, a0, a1, a2, a3, hk1⟩ := Hin.out i x hgx
      have c1 := (hs1.bel.cell (p := ⟨g1, _, none⟩) hg1).trans a1
      have c2 := (hs1.bel.cell (p := ⟨g1, _, none⟩) hg1).trans a2
      have c3 := (hs1.bel.cell (p := ⟨g1, _, none⟩) hg1).trans a3
      have hl1 : g1 < wr.heap.size := Nat.lt_of_lt_of_le hg1 hs1.bel.size
      rw [List.drop_eq_getElem_cons hlt, ← hxx] at hall hmo
      rw [List.flatMap_cons, List.foldl_append] at hall
      rw [Syn.bodies] at hmo
      have hk2 : NdIn w gk1 x.2.kids 0 := hk1
      have hrc := rlits_all x.2.kids.nodes x.2 wr gk1 ck1 rfl (hk2.later hs1.bel) (Hfit.out x hxm) (by omega)
      simp only [nodeV] at hrc
      obtain ⟨kx, hkx⟩ : ∃ kx : Int, kx = x.2.kind := ⟨_, rfl⟩
      obtain ⟨tx, htx⟩ : ∃ tx, tx = x.2.text := ⟨_, rfl⟩
      obtain ⟨Lx, hLx⟩ : ∃ Lx, Lx = x.2.kids.len := ⟨_, rfl⟩
      obtain ⟨ns, hns⟩ : ∃ ns, ns = x.2.lits := ⟨_, rfl⟩
      obtain ⟨M, hM⟩ : ∃ M, M = ns.length := ⟨_, rfl⟩
      obtain ⟨fin, hfin⟩ : ∃ fin, fin = ns.foldl nameA ss := ⟨_, rfl⟩
      rw [← hns, ← hkx, ← htx, ← hLx] at hrc
      rw [← hns, ← hfin] at hall
      rw [← hkx] at c1
      rw [← htx] at c2
      rw [← hLx] at c3
      have hMn : M ≤ x.2.kids.nodes + 1 := by
        rw [hM, hns]
        unfold Syn.Nod.lits
        have := Nd.lits_len x.2.kids
        split
        · simp
        · split <;> simp <;> omega
      have hrc2 : Calls Try.prog 81 #[.agg #[.int .i64 kx, .string ⟨tx.toArray⟩, .slice gk1 Lx ck1]] wr fun e w2 => ∃ gr cr, e = .returned (.slice gr M cr) ∧ Hid (TxD w2 (fun k => wr.heap.size ≤ k ∧ k < w2.heap.size) gr ns ∧ DgSt w bq st rs ga ca u3 ss w2 ∧ wr.heap.size ≤ w2.heap.size) := by
        refine hrc.mono ?_
        rintro e w2 ⟨v2, rfl, ho2, hb2⟩
        obtain ⟨gr, cr, rfl, hd2⟩ := ho2.read
        exact ⟨gr, cr, by rw [hM], hid ⟨hd2, hs1.later hb2, hb2.size⟩⟩
      have hvl : ∀ q, u3.ownBlock = some q → q < wr.heap.size := fun q e => (hs1.own.lt q e).2
      obtain ⟨lo, hlo⟩ : ∃ lo, lo = wr.heap.size := ⟨_, rfl⟩
      rw [← hlo] at hrc2 hvl
      have Hfin := hid hfin
      have Hvl := hid hvl
      have HM := hid (And.intro hM hMn)
      have Hall := hid hall
      have Hmo := hid hmo
      have Hk := hid hk
      have Hlt := hid hlt
      subst hga
      clear hs1 hrc hvl hlo hfin hM hns hMn hk2 hall hmo hk hlt hil hkx htx hLx hgx hxx hxm a0 a1 a2 a3 hk1
      go_upto_region 6 with (go_at_call 81; refine hrc2.mono ?_; rintro e w2 ⟨gr, cr, rfl, H2⟩)
      obtain ⟨wp, hwp⟩ : ∃ wp : World, wp = wr := ⟨_, rfl⟩
      have hM1 : (M : Int) ≤ 900001 := by have h1 := HM.out.2; have h2 := Hmo.out; omega
      clear hrc2 q1 hbl c1 c2 c3 hl1
      go_wp2_with fail
      go_loopg [3, 6] M (fun k v3 v6 wx => Nm3 w bq st rs (some ⟨g1, o1, none⟩) ca lo w2.heap.size ns fin (Syn.bodies (rs.drop (i + 1))) w2 k v3 v6 wx)
      case atStart =>
        refine ⟨0, ss, rfl, by rw [HM.out.1]; rfl, Nat.zero_le _, H2.out.2.1, by rw [Hfin.out]; rfl, ?_, Kp.refl _ _, fun q e => by have := Hvl.out q e; omega, Nat.le_refl _⟩
        have h1 := Hmo.out
        have h2 := HM.out
        omega
      case round =>
        obtain ⟨j, ss3, rfl, hk3, hj, hs8, hf8, hmo8, hkp8, hvg8, hhi8⟩ := hrel
        rcases Nat.lt_or_ge j ns.length with hjl | hjge
        · have hjM : (j : Int) < (M : Int) := by have := HM.out.1; omega
          have hj0 : (0 : Int) ≤ (j : Int) := by omega
          obtain ⟨t, ht⟩ : ∃ t, t = ns[j] := ⟨_, rfl⟩
          have hnt : ns[j]? = some t := by rw [ht]; exact List.getElem?_eq_getElem hjl
          have hdr : ns.drop j = t :: ns.drop (j + 1) := by rw [ht]; exact List.drop_eq_getElem_cons hjl
          rw [hdr, List.foldl_cons] at hf8
          have hd8 := H2.out.1.kp hkp8 (fun k hk e => e hk)
          obtain ⟨gq, oq, hgr, hgD, hgl, hct⟩ := hd8.at hnt
          obtain ⟨gv, cv, rfl, hrd⟩ := hs8.own.read
          have hic := in_calls hrd cv t (by omega)
          obtain ⟨Q, hQ⟩ : ∃ Q, Q = ss3.length := ⟨_, rfl⟩
          rw [← hQ] at hic ⊢
          have Hs8 := hid hs8
          have Hkp8 := hid hkp8
          have Hvg8 := hid (And.intro hvg8 hhi8)
          have Hmo8 := hid hmo8
          have Hk3 := hid hk3
          have Hj := hid (And.intro hj hjl)
          have HQl := hid hQ
          subst hgr
          clear hs8 hkp8 hvg8 hhi8 hmo8 hk3 hj hjl hd8 hnt ht hdr hgD hrd
          by_cases hc : ss3.contains t = true
          · rw [hc] at hic
            have e : nameA ss3 t = ss3 := by unfold nameA; rw [if_pos hc]
            rw [e] at hf8
            have Hf8 := hid hf8
            clear hf8 e hc hQ
            go_wp2_with (go_at_call 77; refine hic.mono ?_; rintro e wx ⟨rfl, hwx⟩; subst wx)
            go_roundg (M - (j + 1))
            case measure => have := Hk3.out; have := HM.out.1; have := Hj.out.2; omega
            case rel => exact ⟨j + 1, ss3, by go_num, by rw [HM.out.1], Hj.out.2, by rw [HQl.out]; exact Hs8.out, Hf8.out, by have := Hmo8.out; omega, Hkp8.out, by have := Hvg8.out.1; rwa [← HQl.out] at this, Hvg8.out.2⟩
          · have hc' : ss3.contains t = false := by simpa using hc
            rw [hc'] at hic
            have e : nameA ss3 t = ss3 ++ [t] := by unfold nameA; rw [if_neg hc]
            rw [e] at hf8
            obtain ⟨v', w5, hrun, hs5, hk5, hg5⟩ := Hs8.out.app t (by have := Hmo8.out; omega) 71 0 (N := wr.heap.size) rfl
            rw [← hQ] at hrun
            have Hf8 := hid hf8
            have Hs5 := hid hs5
            have Hk5 := hid hk5
            have Hg5 := hid hg5
            clear hf8 e hc hc' hs5 hk5 hg5 hQ
            go_wp2_with (first
              | (at_builtin; refine wpList_app rfl _ _ _ rfl (.slice gv Q cv) (.slice (some ⟨wr.heap.size, 0, none⟩) 1 1) v' w5 (by go_simp) (by go_simp) (by exact hrun) ?_)
              | (go_at_call 77; refine hic.mono ?_; rintro e wx ⟨rfl, hwx⟩; subst wx))
            go_roundg (M - (j + 1))
            case measure => have := Hk3.out; have := HM.out.1; have := Hj.out.2; omega
            case rel =>
              refine ⟨j + 1, _, by go_num, by rw [HM.out.1], Hj.out.2, Hs5.out, Hf8.out, ?_, Hkp8.out.trans (Hk5.out.mono fun q _ e => Hvg8.out.1 q e), fun q e => ?_, ?_⟩
              · have := Hmo8.out
                have := Hj.out.2
                rw [List.length_append, List.length_singleton]
                omega
              · have := Hvg8.out.2
                rcases Hg5.out q e with h7 | h7
                · exact Hvg8.out.1 _ h7
                · omega
              · have := Hvg8.out.2
                have := Hk5.out.size
                omega
        · have hjM : ¬ (j : Int) < (M : Int) := by have := HM.out.1; omega
          rw [List.drop_of_length_le hjge, List.foldl_nil] at hf8
          have Hs8 := hid hs8
          have Hf8 := hid hf8
          have Hmo8 := hid hmo8
          clear hs8 hf8 hmo8 hkp8 hvg8 hhi8 hk3 hj hjge
          go_wp2_with fail
          go_roundg (L - (i + 1))
          case measure => have := Hk.out; have := HL.out; have := Hlt.out; omega
          case rel => exact ⟨i + 1, ss3, by go_num, by rw [HL.out], Hlt.out, Hs8.out, by rw [Hf8.out]; exact Hall.out, by have := Hmo8.out; omega⟩
    · have hgeL : ¬ (i : Int) < (L : Int) := by have := HL.out; omega
      rw [List.drop_of_length_le hge, List.flatMap_nil, List.foldl_nil] at hall
      have Hs1 := hid hs1
      have Hall := hid hall
      clear hs1 hall hk hil hmo hge
      go_wp2_with fail
      go_ret
      exact ⟨_, rfl, by rw [← Hall.out, ← HQ.out]; exact Hs1.out.own.base (by omega), Hs1.out.bel⟩
end Go.Proofs.Ytjaampgpihicmaa
