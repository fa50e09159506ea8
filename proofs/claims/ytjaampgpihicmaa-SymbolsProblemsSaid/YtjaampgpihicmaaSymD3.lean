/- Chapter 7 (symbols), the document's side: Check of any grammar. -/
import Derived.Test.YtjaampgpihicmaaSymD1
import Derived.Test.YtjaampgpihicmaaSymD2
import Derived.Deep.RegionLaw
import Derived.Deep.CutBlock
import Derived.Deep.DeepCutAuto
import Derived.BigQuiet
namespace Go.Proofs.Ytjaampgpihicmaa
open Go.RowKit
attribute [local go_sem ↓] Go.wp_at_zero Go.wp_at_succ
attribute [local go_sem] frozen_alloc_lt
open Syn (Nd Nod)

theorem rprobInfo : (Try.prog.info? 66).map (fun i => (i.zero, i.size, i.bytes)) = some (some (.agg #[.int .i64 0, .int .i64 0, .string ⟨#[]⟩]), 3, 32) := by kernel_rfl
/-- In Check: out is v. -/
structure RkSt (w0 : World) (bq : Nat) (st : List UInt8) (rs : List (List UInt8 × Nod)) (ga : Option Addr) (ca : Nat) (v : Value) (ls : List Prob) (w : World) : Prop where
  arg : Bk w bq 33 [.string ⟨st.toArray⟩, .slice ga rs.length ca]
  own : OwnA ProbR 3 w (bq + 1) 66 v ls
  bel : Below w0.heap.size w0 w
  bb : bq = w0.heap.size
section
variable {w0 : World} {bq : Nat} {st : List UInt8} {rs : List (List UInt8 × Nod)} {ga : Option Addr} {ca : Nat} {v : Value} {ls : List Prob} {w : World}
theorem RkSt.kp {S : Nat → Prop} (h : RkSt w0 bq st rs ga ca v ls w) {w' : World} (hk : Kp S w w') (hs : ∀ k, S k → bq < k) (hv : ∀ g, v.ownBlock = some g → ¬ S g) : RkSt w0 bq st rs ga ca v ls w' := by
  have := h.bb
  have := h.bel.size
  exact ⟨h.arg.kp hk (fun e => by have := hs _ e; omega), h.own.flat ProbR.flat hk hv, h.bel.trans (hk.to_below (by omega) (fun k e => by have := hs k e; omega)), h.bb⟩
theorem RkSt.later (h : RkSt w0 bq st rs ga ca v ls w) {w' : World} (hb : Below w.heap.size w w') : RkSt w0 bq st rs ga ca v ls w' := h.kp (below_kp hb) (fun _ e => e.elim) (fun _ _ e => e)
theorem RkSt.app (h : RkSt w0 bq st rs ga ca v ls w) (p : Prob) (hl : ls.length ≤ 1000000) (ty : TypeId) (q : Nat) {N : Nat} (hN : w.heap.size = N) :
    ∃ g2 cap2 w5, (Builtin.append_ #[61, 61] ty #[v, .slice (some ⟨N, 0, none⟩) 1 1]).run Try.prog ((w.alloc (.cells #[.int .i64 p.code, .int .i64 p.rule, .string ⟨p.name.toArray⟩] 66)).drewN q) = .ok (.slice (some ⟨g2, 0, none⟩) (ls.length + 1) cap2) w5 ∧
      RkSt w0 bq st rs ga ca (.slice (some ⟨g2, 0, none⟩) (ls.length + 1) cap2) (ls ++ [p]) w5 ∧ Kp (fun k => v.ownBlock = some k) w w5 ∧ (v.ownBlock = some g2 ∨ w.heap.size < g2) := by
  subst hN
  have hbb := h.bb
  have hbs := h.bel.size
  have hbl := h.arg.lt
  obtain ⟨i0, hi0, y0, y1, y2⟩ := info_parts rprobInfo
  obtain ⟨g2, cap2, w5, h1, h2, h3, h4, _⟩ := h.own.app (P := Try.prog) ProbR.fit 61 ty i0 _ 32 Try.underlying61 hi0 y0 y1 y2 rfl (by omega) (by omega) (by omega) hl p [.int .i64 p.code, .int .i64 p.rule, .string ⟨p.name.toArray⟩] rfl q
  have hs : ∀ k, v.ownBlock = some k → bq + 1 ≤ k := fun k e => (h.own.lt k e).1
  exact ⟨g2, cap2, w5, h1, ⟨h.arg.kp h3 (fun e => by have := hs _ e; omega), h2, h.bel.trans (h3.to_below (by omega) (fun k e => by have := hs k e; omega)), hbb⟩, h3, h4⟩
end
theorem OwnA.base2 {w : World} {B B' : Nat} {T : TypeId} {v : Value} {ls : List Prob} (h : OwnA ProbR 3 w B T v ls) (hb : B' ≤ B) : OwnA ProbR 3 w B' T v ls := h.base hb
def RkRel (w0 : World) (bq : Nat) (st : List UInt8) (rs : List (List UInt8 × Nod)) (ga : Option Addr) (ca : Nat) (k : Nat) (v3 v4 : Value) (w : World) : Prop :=
  ∃ (i : Nat) (ls : List Prob), v4 = .int .i64 i ∧ k = rs.length - i ∧ i ≤ rs.length ∧ RkSt w0 bq st rs ga ca v3 ls w ∧ ls ++ probsFrom rs i (rs.drop i) = probsFrom rs 0 rs ∧ ls.length + Syn.bodies (rs.drop i) ≤ 900000
/-- Names that F does not know, each once: 'once' told by the names ahead. -/
def newR (F : List UInt8 → Bool) : List (List UInt8) → List (List UInt8) → List (List UInt8)
  | _, [] => []
  | seen, t :: r => if (!F t && !seen.contains t) = true then t :: newR F (seen ++ [t]) r else newR F (seen ++ [t]) r
theorem newN_newR (F : List UInt8 → Bool) : ∀ (r told seen : List (List UInt8)), (∀ u, F u = false → told.contains u = seen.contains u) → Syn.newN F r told = newR F seen r
  | [], _, _, _ => rfl
  | t :: r, told, seen, h => by
    rw [Syn.newN, newR]
    have hs : ∀ u, (seen ++ [t]).contains u = (seen.contains u || u == t) := fun u => by rw [Bool.eq_iff_iff]; simp
    have ht : ∀ u, (t :: told).contains u = (told.contains u || u == t) := fun u => by rw [Bool.eq_iff_iff]; simp [or_comm]
    by_cases hF : F t = true
    · rw [hF]
      simp only [Bool.not_true, Bool.false_and, Bool.false_eq_true, if_false]
      refine newN_newR F r told (seen ++ [t]) fun u hu => ?_
      have : (u == t) = false := by
        rw [beq_eq_false_iff_ne]
        intro e
        rw [e, hF] at hu
        cases hu
      rw [hs, this, Bool.or_false, h u hu]
    · have hF' : F t = false := by simpa using hF
      rw [h t hF']
      by_cases hc : seen.contains t = true
      · rw [hc]
        simp only [Bool.not_true, Bool.and_false, Bool.false_eq_true, if_false]
        refine newN_newR F r told (seen ++ [t]) fun u hu => ?_
        rw [hs, h u hu]
        by_cases e : u = t
        · subst e; rw [hc]; simp
        · simp [e]
      · have hc' : seen.contains t = false := by simpa using hc
        rw [hF', hc']
        simp only [Bool.not_false, Bool.and_self, if_true]
        rw [newN_newR F r (t :: told) (seen ++ [t]) fun u hu => by rw [ht, hs, h u hu]]
def RlRel (w0 : World) (bq : Nat) (st : List UInt8) (rs : List (List UInt8 × Nod)) (ga : Option Addr) (ca i lo hi : Nat) (ns : List (List UInt8)) (fin : List Prob) (most : Nat) (wt : World) (k : Nat) (v3 v6 : Value) (w : World) : Prop :=
  ∃ (j : Nat) (ls : List Prob), v6 = .int .i64 j ∧ k = ns.length - j ∧ j ≤ ns.length ∧ RkSt w0 bq st rs ga ca v3 ls w ∧ ls ++ (newR (fun t => (firstAt rs 0 t).isSome) (ns.take j) (ns.drop j)).map (fun t => (⟨10, i, t⟩ : Prob)) = fin ∧ ls.length + (ns.length - j) + most ≤ 900000 ∧ Kp (fun q => ¬ (lo ≤ q ∧ q < hi)) wt w ∧ (∀ q, v3.ownBlock = some q → ¬ (lo ≤ q ∧ q < hi)) ∧ hi ≤ w.heap.size
theorem probs_len (all : List (List UInt8 × Nod)) : ∀ (r : List (List UInt8 × Nod)) (i : Nat), (probsFrom all i r).length ≤ Syn.bodies r
  | [], _ => by simp [probsFrom]
  | x :: r, i => by
    rw [probsFrom, List.length_append, Syn.bodies, probsOf, List.length_append, List.length_map]
    have h1 := probs_len all r (i + 1)
    have h2 := Syn.newN_len (fun t => (firstAt all 0 t).isSome) x.2.refs []
    have h3 : x.2.refs.length ≤ x.2.kids.nodes + 1 := by
      unfold Syn.Nod.refs
      have := Nd.refs_len x.2.kids
      split <;> simp <;> omega
    split <;> simp <;> omega
theorem checkS_len (st : List UInt8) (rs : List (List UInt8 × Nod)) {M : Nat} (hl : M + 1 ≤ 200000) (h : Syn.bodies rs ≤ M) : (checkS st rs).length ≤ 200000 := by
  unfold checkS
  rw [List.length_append]
  have := probs_len rs rs 0
  split <;> simp <;> omega
theorem firstAt_le : ∀ {rs : List (List UInt8 × Nod)} {k i : Nat} {x : List UInt8 × Nod}, rs[i]? = some x → ∃ f, firstAt rs k x.1 = some f ∧ k ≤ f ∧ f ≤ k + i
  | [], _, _, _, h => by simp at h
  | y :: r, k, i, x, h => by
    unfold firstAt
    by_cases e : x.1 = y.1
    · exact ⟨k, if_pos e, Nat.le_refl _, by omega⟩
    · rw [if_neg e]
      cases i with
      | zero => simp at h; subst h; exact absurd rfl e
      | succ i =>
        obtain ⟨f, h1, h2, h3⟩ := firstAt_le (rs := r) (k := k + 1) (i := i) (x := x) (by simpa using h)
        exact ⟨f, h1, by omega, by omega⟩
set_option maxRecDepth 8000 in
set_option maxHeartbeats 8000000 in
theorem rcheck_calls (w : World) (st : List UInt8) (rs : List (List UInt8 × Nod)) (ga : Option Addr) (ca : Nat) (hin : RulesIn w ga rs) (hl : rs.length ≤ 100000) (hfit : ∀ x ∈ rs, x.2.fits 100000) (hmost : Syn.bodies rs ≤ 900000) :
    Calls Try.prog 28 #[.agg #[.string ⟨st.toArray⟩, .slice ga rs.length ca]] w fun e w' => ∃ v, e = .returned v ∧ OwnA ProbR 3 w' w.heap.size 66 v (checkS st rs) ∧ Below w.heap.size w w' := by
  obtain ⟨L, hL⟩ : ∃ L, L = rs.length := ⟨_, rfl⟩
  have hbx := Bk.new w 33 [.string ⟨st.toArray⟩, .slice ga rs.length ca]
  have hbn := bel_new w (.cells #[.string ⟨st.toArray⟩, .slice ga rs.length ca] 33)
  have hst0 : RkSt w w.heap.size st rs ga ca (.slice none 0 0) [] (w.alloc (.cells #[.string ⟨st.toArray⟩, .slice ga rs.length ca] 33)) := ⟨hbx, OwnA.nil _ _ _ _ _, hbn, rfl⟩
  rw [← hL] at hl hst0 ⊢
  obtain ⟨wa, hwa⟩ : ∃ wa, wa = w.alloc (.cells #[.string ⟨st.toArray⟩, .slice ga L ca] 33) := ⟨_, rfl⟩
  obtain ⟨bq, hbq⟩ : ∃ bq, bq = w.heap.size := ⟨_, rfl⟩
  rw [← hwa] at hst0
  rw [← hbq] at hst0
  have HW := hid hwa
  have HQ := hid hbq
  have HL := hid hL
  have Hin := hid hin
  have Hst0 := hid hst0
  have Hfit := hid hfit
  have Hmost := hid hmost
  clear hwa hbq hL hin hst0 hfit hmost hbx hbn
  go_enter Try.func28, Try.ntmps28
  go_upto_region 1 with fail
  rw [← HW.out, ← HQ.out]
  go_wp2_with fail
  go_loopg [3, 4] L (fun k v3 v4 wr => RkRel w bq st rs ga ca k v3 v4 wr)
  case atStart => exact ⟨0, [], rfl, by rw [HL.out]; rfl, Nat.zero_le _, Hst0.out, by simp, by simpa using Hmost.out⟩
  case round =>
    obtain ⟨i, ls, rfl, hk, hil, hs1, hall, hmost⟩ := hrel
    have q0 := hs1.arg.cell 0
    have q1 := hs1.arg.cell 1
    have hbl := hs1.arg.lt
    simp only [List.getElem?_cons_zero, List.getElem?_cons_succ, ← HL.out] at q0 q1
    rcases Nat.lt_or_ge i rs.length with hlt | hge
    · have hltL : (i : Int) < (L : Int) := by have := HL.out; omega
      have hi0 : (0 : Int) ≤ (i : Int) := by omega
      obtain ⟨x, hxx⟩ : ∃ x, x = rs[i] := ⟨_, rfl⟩
      have hxm : x ∈ rs := by rw [hxx]; exact List.getElem_mem hlt
      have hgx : rs[i]? = some x := by rw [hxx]; exact List.getElem?_eq_getElem hlt
      obtain ⟨g1, o1, gk1, ck1, hga, hg1, a0, a1, a2, a3, hk1⟩ := Hin.out i x hgx
      have c0 := (hs1.bel.cell (p := ⟨g1, _, none⟩) hg1).trans a0
      have c1 := (hs1.bel.cell (p := ⟨g1, _, none⟩) hg1).trans a1
      have c2 := (hs1.bel.cell (p := ⟨g1, _, none⟩) hg1).trans a2
      have c3 := (hs1.bel.cell (p := ⟨g1, _, none⟩) hg1).trans a3
      have hg1' : g1 < w.heap.size := hg1
      have hl1 : g1 < wr.heap.size := Nat.lt_of_lt_of_le hg1 hs1.bel.size
      have hdrop : rs.drop i = x :: rs.drop (i + 1) := by rw [hxx]; exact List.drop_eq_getElem_cons hlt
      rw [hdrop, probsFrom] at hall
      rw [hdrop, Syn.bodies] at hmost
      obtain ⟨nx, hnx⟩ : ∃ nx, nx = x.1 := ⟨_, rfl⟩
      obtain ⟨f, hf, -, hfi⟩ := firstAt_le (k := 0) hgx
      rw [← hnx] at hf c0
      rw [Nat.zero_add] at hfi
      obtain ⟨kx, hkx⟩ : ∃ kx : Int, kx = x.2.kind := ⟨_, rfl⟩
      obtain ⟨tx, htx⟩ : ∃ tx, tx = x.2.text := ⟨_, rfl⟩
      obtain ⟨Lx, hLx⟩ : ∃ Lx, Lx = x.2.kids.len := ⟨_, rfl⟩
      rw [← hnx] at a0
      rw [← hkx] at a1 c1
      rw [← htx] at a2 c2
      rw [← hLx] at a3 c3
      have HA := hid (And.intro (And.intro a0 a1) (And.intro a2 a3))
      have HX := hid (And.intro hkx (And.intro htx hLx))
      have hR : ruleOf rs nx = (f : Int) := by unfold ruleOf; rw [hf]
      have hfd := rfirst_calls wr.drew st rs ga ca nx ((Hin.out.later hs1.bel).later ((Below.refl wr.heap.size wr).drew)) (by have := HL.out; omega)
      rw [hR, ← HL.out] at hfd
      have hfI : (f : Int) ≤ 100000 := by omega
      have hs2 := (hs1.later ((Below.refl wr.heap.size wr).drew)).later (bel_new wr.drew (.cells #[.string ⟨st.toArray⟩, .slice ga L ca] 33))
      have Hs2 := hid hs2
      have Hk := hid hk
      have Hall := hid hall
      have Hmo := hid hmost
      have Hf := hid (And.intro hf hfi)
      have Hk1 := hid hk1
      have Hlt := hid hlt
      have Hx := hid (And.intro hgx (And.intro hnx hxm))
      have Hvb := hid (show ∀ q, u3.ownBlock = some q → bq < q from fun q e => (hs1.own.lt q e).1)
      subst hga
      clear hk hil hs1 hall hmost hf hfi hgx hnx hxx hxm hlt hdrop hR hs2 a0 a1 a2 a3 hk1 hkx htx hLx
      go_upto_region 5 with fail
      go_cut [23] from 14 to 22 (fun v23 wx => v23 = .bool (decide (f < i)) ∧ RkSt w bq st rs (some ⟨g1, o1, none⟩) ca u3 ls wx)
      case first =>
        go_region_law (go_simp; go_at_call 35; refine hfd.mono ?_; rintro e wx ⟨rfl, rfl⟩)
        all_goals
          go_wp2_with fail
          go_meet
          exact ⟨rfl, Hs2.out⟩
      case rest =>
        obtain ⟨h23, hs3⟩ := hcut
        subst h23
        have Hs3 := hid hs3
        have q0 := hs3.arg.cell 0
        have q1 := hs3.arg.cell 1
        have hbl := hs3.arg.lt
        have c0 := (hs3.bel.cell (p := ⟨g1, _, none⟩) hg1').trans HA.out.1.1
        have hl1 : g1 < wc.heap.size := Nat.lt_of_lt_of_le hg1' hs3.bel.size
        simp only [List.getElem?_cons_zero, List.getElem?_cons_succ, ← HL.out] at q0 q1
        clear hs3
        go_upto_if 23 with fail
        go_cut [3] from 23 to 34 (fun v3 wx => ∃ ls2, RkSt w bq st rs (some ⟨g1, o1, none⟩) ca v3 ls2 wx ∧ ls2 = ls ++ (if firstAt rs 0 nx = some i then [] else [⟨9, i, nx⟩]))
        case first =>
          by_cases hfi : f < i
          · have e : ¬ firstAt rs 0 nx = some i := by rw [Hf.out.1]; intro e; injection e with e; omega
            have He := hid e
            obtain ⟨g2, cap2, w5, hrun, hs5, hk5, _⟩ := Hs3.out.app ⟨9, i, nx⟩ (by have := Hmo.out; omega) 61 0 (N := wc.heap.size) rfl
            have Hs5 := hid hs5
            clear e hs5 hk5
            go_wp2_with (at_builtin; refine wpList_app rfl _ _ _ rfl u3 (.slice (some ⟨wc.heap.size, 0, none⟩) 1 1) _ w5 (by go_simp) (by go_simp) (by exact hrun) ?_)
            go_meet
            exact ⟨_, Hs5.out, by rw [if_neg He.out]⟩
          · have e : firstAt rs 0 nx = some i := by rw [Hf.out.1]; have := Hf.out.2; congr 1; omega
            have He := hid e
            clear e
            go_wp2_with fail
            go_meet
            exact ⟨ls, Hs3.out, by rw [if_pos He.out, List.append_nil]⟩
        case rest =>
          obtain ⟨ls2, hs4, hls2⟩ := hcut
          have q0 := hs4.arg.cell 0
          have q1 := hs4.arg.cell 1
          have hbl := hs4.arg.lt
          have c1 := (hs4.bel.cell (p := ⟨g1, _, none⟩) hg1').trans HA.out.1.2
          have c2 := (hs4.bel.cell (p := ⟨g1, _, none⟩) hg1').trans HA.out.2.1
          have c3 := (hs4.bel.cell (p := ⟨g1, _, none⟩) hg1').trans HA.out.2.2
          have hl1 : g1 < wc.heap.size := Nat.lt_of_lt_of_le hg1' hs4.bel.size
          simp only [List.getElem?_cons_zero, List.getElem?_cons_succ, ← HL.out] at q0 q1
          have hk2 : NdIn w gk1 x.2.kids 0 := Hk1.out
          have hrc := rrefs_all x.2.kids.nodes x.2 wc gk1 ck1 rfl (hk2.later hs4.bel) (Hfit.out x Hx.out.2.2) (by have := Hmo.out; omega)
          simp only [nodeV] at hrc
          rw [← HX.out.1, ← HX.out.2.1, ← HX.out.2.2] at hrc
          obtain ⟨ns, hns⟩ : ∃ ns, ns = x.2.refs := ⟨_, rfl⟩
          obtain ⟨M, hM⟩ : ∃ M, M = ns.length := ⟨_, rfl⟩
          rw [← hns] at hrc
          have hMn : M ≤ x.2.kids.nodes + 1 := by
            rw [hM, hns]
            unfold Syn.Nod.refs
            have := Nd.refs_len x.2.kids
            split <;> simp <;> omega
          have hrc2 : Calls Try.prog 76 #[.agg #[.int .i64 kx, .string ⟨tx.toArray⟩, .slice gk1 Lx ck1]] wc fun e w2 => ∃ gr cr, e = .returned (.slice gr M cr) ∧ M ≤ cr ∧ Hid (TxD w2 (fun k => wc.heap.size ≤ k ∧ k < w2.heap.size) gr ns ∧ RkSt w bq st rs (some ⟨g1, o1, none⟩) ca u3 ls2 w2 ∧ wc.heap.size ≤ w2.heap.size) := by
            refine hrc.mono ?_
            rintro e w2 ⟨v2, rfl, ho2, hb2⟩
            obtain ⟨gr, cr, rfl, hd2⟩ := ho2.read
            exact ⟨gr, cr, by rw [hM], by rw [hM]; exact ho2.cap, hid ⟨hd2, hs4.later hb2, hb2.size⟩⟩
          have hvl : ∀ q, u3.ownBlock = some q → q < wc.heap.size := fun q e => (hs4.own.lt q e).2
          obtain ⟨lo, hlo⟩ : ∃ lo, lo = wc.heap.size := ⟨_, rfl⟩
          rw [← hlo] at hrc2 hvl
          obtain ⟨fin, hfin⟩ : ∃ fin, fin = ls2 ++ (newR (fun t => (firstAt rs 0 t).isSome) [] ns).map (fun t => (⟨10, i, t⟩ : Prob)) := ⟨_, rfl⟩
          have Hfin := hid hfin
          have Hlo := hid hlo
          have Hvl := hid hvl
          have HM := hid (And.intro hM (And.intro hns hMn))
          have Hls2 := hid hls2
          clear hs4 hls2 hrc hvl hlo hfin hM hns hMn hk2
          go_upto_region 8 with (go_at_call 76; refine hrc2.mono ?_; rintro e w2 ⟨gr, cr, rfl, hMc, H2⟩)
          obtain ⟨wo, hwo⟩ : ∃ wo : World, wo = wr := ⟨_, rfl⟩
          have hM1 : (M : Int) ≤ 900001 := by have h1 := HM.out.2.2; have h2 := Hmo.out; omega
          clear hrc2 q0 q1 hbl c0 c1 c2 c3 hl1 hfd
          go_wp2_with fail
          go_loopg [3, 6] M (fun k v3 v6 wx => RlRel w bq st rs (some ⟨g1, o1, none⟩) ca i lo w2.heap.size ns fin (Syn.bodies (rs.drop (i + 1))) w2 k v3 v6 wx)
          case atStart =>
            refine ⟨0, ls2, rfl, by rw [HM.out.1]; rfl, Nat.zero_le _, H2.out.2.1, by rw [Hfin.out]; rfl, ?_, Kp.refl _ _, fun q e => by have := Hvl.out q e; omega, Nat.le_refl _⟩
            have h1 := Hmo.out
            have h2 := HM.out.2.2
            have h3 : ls2.length ≤ ls.length + 1 := by rw [Hls2.out, List.length_append]; split <;> simp
            have h4 := HM.out.1
            omega
          case round =>
            obtain ⟨j, ls3, rfl, hk3, hj, hs8, hf8, hmo8, hkp8, hvg8, hhi8⟩ := hrel
            have q0 := hs8.arg.cell 0
            have q1 := hs8.arg.cell 1
            have hbl := hs8.arg.lt
            simp only [List.getElem?_cons_zero, List.getElem?_cons_succ, ← HL.out] at q0 q1
            rcases Nat.lt_or_ge j ns.length with hjl | hjge
            · have hjM : (j : Int) < (M : Int) := by have := HM.out.1; omega
              have hj0 : (0 : Int) ≤ (j : Int) := by omega
              obtain ⟨t, ht⟩ : ∃ t, t = ns[j] := ⟨_, rfl⟩
              have hnt : ns[j]? = some t := by rw [ht]; exact List.getElem?_eq_getElem hjl
              have hdr : ns.drop j = t :: ns.drop (j + 1) := by rw [ht]; exact List.drop_eq_getElem_cons hjl
              have htk : ns.take (j + 1) = ns.take j ++ [t] := by rw [ht]; exact List.take_succ_eq_append_getElem hjl
              rw [hdr, newR, ← htk] at hf8
              have hd8 := H2.out.1.kp hkp8 (fun k hk e => e hk)
              obtain ⟨gq, oq, hgr, hgD, hgl, hct⟩ := hd8.at hnt
              have hjc : (j : Int) ≤ (cr : Int) := by omega
              have hlk : ∀ wy, Kp (fun _ => False) wr wy → RulesIn wy (some ⟨g1, o1, none⟩) rs := fun wy hy => (RulesM.kp Hin.out ((below_kp hs8.bel).trans hy) (fun _ _ e => e)).mono fun k hk => by have h1 := hs8.bel.size; have h2 := hy.size; have h3 : k < w.heap.size := hk; omega
              have Hlk := hid hlk
              have Hs8 := hid hs8
              have Hkp8 := hid hkp8
              have Hvg8 := hid (And.intro hvg8 hhi8)
              have Hf8 := hid hf8
              have Hmo8 := hid hmo8
              have Hk3 := hid hk3
              have Hj := hid (And.intro hj hjl)
              have Hd8 := hid hd8
              have Hnt := hid hnt
              subst hgr
              clear hlk hs8 hkp8 hvg8 hhi8 hf8 hmo8 hk3 hj hjl hd8 hnt ht hdr htk hgD
              obtain ⟨bb, hbb⟩ : ∃ bb, bb = (!(firstAt rs 0 t).isSome && !(ns.take j).contains t) := ⟨_, rfl⟩
              have Hbb := hid hbb
              clear hbb
              go_upto_region 11 with fail
              go_cut [65] from 48 to 64 (fun v65 wx => v65 = .bool bb ∧ Kp (fun _ => False) wr wx)
              case first =>
                cases hf : firstAt rs 0 t with
                | some f2 =>
                  have hbb : bb = false := by rw [Hbb.out, hf]; rfl
                  have hR : ruleOf rs t = (f2 : Int) := by unfold ruleOf; rw [hf]
                  have hfd := rfirst_calls wr.drew st rs (some ⟨g1, o1, none⟩) ca t (Hlk.out _ ((Kp.refl _ wr).drew)) (by have := HL.out; omega)
                  rw [hR, ← HL.out] at hfd
                  have hn0 : ¬ ((f2 : Int) < 0) := by omega
                  have hnb : decide ((f2 : Int) < 0) = false := by simp
                  clear hf hR
                  subst hbb
                  refine wp_region_held_drew (S := fun W : World => W.cell? ⟨bq, 0, none⟩ = some (.string ⟨st.toArray⟩) ∧ W.cell? ⟨bq, 1, none⟩ = some (.slice (some ⟨g1, o1, none⟩) L ca) ∧ W.cell? ⟨gq, oq + j, none⟩ = some (.string ⟨t.toArray⟩)) (by kernel_rfl) ⟨q0, q1, hct⟩ (fun hHeld => ?_)
                  refine wpAnyH_take (i := 1) (v := ?_) rfl (by kernel_rfl) (by kernel_rfl) (by kernel_rfl) (fun _ _ _ h => h) (Or.inl ⟨by kernel_rfl, ?_⟩) (by assumption) ?_
                  rotate_left
                  · intro w hSw
                    try dsimp only at hSw
                    go_simp
                    try with_reducible rfl
                  try simp only [Act.put, List.setIfInBounds_toArray]
                  refine wpAnyH_take (i := 2) (v := ?_) rfl (by kernel_rfl) (by kernel_rfl) (by kernel_rfl) (fun _ _ _ h => h) (Or.inl ⟨by kernel_rfl, ?_⟩) (by assumption) ?_
                  rotate_left
                  · intro w hSw
                    try dsimp only at hSw
                    go_simp
                    try with_reducible rfl
                  try simp only [Act.put]
                  refine wpAnyH_take (i := 3) (v := ?_) rfl (by kernel_rfl) (by kernel_rfl) (by kernel_rfl) (fun _ _ _ h => h) (Or.inl ⟨by kernel_rfl, ?_⟩) (by assumption) ?_
                  rotate_left
                  · intro w hSw
                    try dsimp only at hSw
                    go_simp
                    try with_reducible rfl
                  try simp only [Act.put]
                  refine wpAnyH_take (i := 0) (v := ?_) rfl (by kernel_rfl) (by kernel_rfl) (by kernel_rfl) (fun _ _ _ h => h) (Or.inl ⟨by kernel_rfl, ?_⟩) (by assumption) ?_
                  rotate_left
                  · intro w hSw
                    try dsimp only at hSw
                    go_simp
                    try with_reducible rfl
                  try simp only [Act.put]
                  refine wpAnyH_take (i := 4) (v := ?_) rfl (by kernel_rfl) (by kernel_rfl) (by kernel_rfl) (fun _ _ _ h => h) (Or.inl ⟨by kernel_rfl, ?_⟩) (by assumption) ?_
                  rotate_left
                  · intro w hSw
                    try dsimp only at hSw
                    go_simp
                    try with_reducible rfl
                  try simp only [Act.put]
                  refine wpAnyH_ready (rs := [5]) (by kernel_rfl) (by simp) ?_
                  refine AllReadyH.cons (o := ({ dst := some 53, op := Op.call { callee := Callee.value (Operand.func 35), args := #[Operand.tmp 48, Operand.tmp 52], argTypes := #[33, 9] }, type := 3, pos := "ref.go:101", after := #[{ on := 0, ground := Ground.data }, { on := 4, ground := Ground.data }], guard := none } : Oper)) rfl (fun K hK => ?_) AllReadyH.nil
                  go_simp
                  go_at_call 35
                  refine hfd.mono ?_
                  rintro e wx ⟨rfl, rfl⟩
                  try go_simp
                  refine hK.out _ _ ⟨((Kp.refl (fun _ => False) wr.drew).alloc _).cell hHeld.1 (fun e => e), ((Kp.refl (fun _ => False) wr.drew).alloc _).cell hHeld.2.1 (fun e => e), ((Kp.refl (fun _ => False) wr.drew).alloc _).cell hHeld.2.2 (fun e => e)⟩ (fun hH2 => ?_)
                  clear hK K hHeld
                  have hHeld := hH2
                  clear hH2
                  try simp only [Act.put, List.setIfInBounds_toArray, List.set_cons_zero, List.set_cons_succ]
                  refine wpAnyH_take (i := 6) (v := ?_) rfl (by kernel_rfl) (by kernel_rfl) (by kernel_rfl) (fun _ _ _ h => h) (Or.inl ⟨by kernel_rfl, ?_⟩) (by assumption) ?_
                  rotate_left
                  · intro w hSw
                    try dsimp only at hSw
                    go_simp
                    try with_reducible rfl
                  try simp only [Act.put, List.setIfInBounds_toArray]
                  refine wpAnyH_take (i := 7) (v := ?_) rfl (by kernel_rfl) (by kernel_rfl) (by kernel_rfl) (fun _ _ _ h => h) (Or.inl ⟨by kernel_rfl, ?_⟩) (by assumption) ?_
                  rotate_left
                  · intro w hSw
                    try dsimp only at hSw
                    go_simp
                    try with_reducible rfl
                  try simp only [Act.put]
                  refine wpAnyH_take (i := 8) (v := undef) rfl (by kernel_rfl) (by kernel_rfl) (by kernel_rfl) (fun _ _ _ h => h) (Or.inr ⟨by kernel_rfl, rfl⟩) (by assumption) ?_
                  try simp only [Act.put]
                  refine wpAnyH_take (i := 9) (v := undef) rfl (by kernel_rfl) (by kernel_rfl) (by kernel_rfl) (fun _ _ _ h => h) (Or.inr ⟨by kernel_rfl, rfl⟩) (by assumption) ?_
                  try simp only [Act.put]
                  refine wpAnyH_take (i := 10) (v := undef) rfl (by kernel_rfl) (by kernel_rfl) (by kernel_rfl) (fun _ _ _ h => h) (Or.inr ⟨by kernel_rfl, rfl⟩) (by assumption) ?_
                  try simp only [Act.put]
                  refine wpAnyH_take (i := 11) (v := undef) rfl (by kernel_rfl) (by kernel_rfl) (by kernel_rfl) (fun _ _ _ h => h) (Or.inr ⟨by kernel_rfl, rfl⟩) (by assumption) ?_
                  try simp only [Act.put]
                  refine wpAnyH_take (i := 12) (v := undef) rfl (by kernel_rfl) (by kernel_rfl) (by kernel_rfl) (fun _ _ _ h => h) (Or.inr ⟨by kernel_rfl, rfl⟩) (by assumption) ?_
                  try simp only [Act.put]
                  refine wpAnyH_take (i := 13) (v := undef) rfl (by kernel_rfl) (by kernel_rfl) (by kernel_rfl) (fun _ _ _ h => h) (Or.inr ⟨by kernel_rfl, rfl⟩) (by assumption) ?_
                  try simp only [Act.put]
                  refine wpAnyH_take (i := 14) (v := undef) rfl (by kernel_rfl) (by kernel_rfl) (by kernel_rfl) (fun _ _ _ h => h) (Or.inr ⟨by kernel_rfl, rfl⟩) (by assumption) ?_
                  try simp only [Act.put]
                  refine wpAnyH_take (i := 15) (v := undef) rfl (by kernel_rfl) (by kernel_rfl) (by kernel_rfl) (fun _ _ _ h => h) (Or.inr ⟨by kernel_rfl, rfl⟩) (by assumption) ?_
                  try simp only [Act.put]
                  refine wpAnyH_take (i := 16) (v := undef) rfl (by kernel_rfl) (by kernel_rfl) (by kernel_rfl) (fun _ _ _ h => h) (Or.inr ⟨by kernel_rfl, rfl⟩) (by assumption) ?_
                  try simp only [Act.put]
                  refine wpAnyH_take (i := 17) (v := ?_) rfl (by kernel_rfl) (by kernel_rfl) (by kernel_rfl) (fun _ _ _ h => h) (Or.inl ⟨by kernel_rfl, ?_⟩) (by assumption) ?_
                  rotate_left
                  · intro w hSw
                    try dsimp only at hSw
                    go_simp
                    try with_reducible rfl
                  try simp only [Act.put]
                  refine wpAnyH_done (by kernel_rfl) ?_ _
                  go_wp2_with fail
                  go_meet
                  exact ⟨rfl, ((Kp.refl _ wr).drew).alloc _⟩
                | none =>
                  have hbb : bb = !(ns.take j).contains t := by rw [Hbb.out, hf]; rfl
                  have hR : ruleOf rs t = -1 := by unfold ruleOf; rw [hf]
                  have hfd := rfirst_calls wr.drew st rs (some ⟨g1, o1, none⟩) ca t (Hlk.out _ ((Kp.refl _ wr).drew)) (by have := HL.out; omega)
                  rw [hR, ← HL.out] at hfd
                  have hic : ∀ wy, Kp (fun _ => False) wr wy → ∀ c, Calls Try.prog 77 #[.slice (some ⟨gq, oq, none⟩) j c, .string ⟨t.toArray⟩] wy fun e w' => e = .returned (.bool ((ns.take j).contains t)) ∧ w' = wy := fun wy hy c => by
                    have h1 := in_calls ((Hd8.out.kp hy (fun _ _ e => e)).take j) c t (by rw [List.length_take]; have := HM.out.2.2; have := Hmo.out; have := Hj.out.1; omega)
                    rwa [show (ns.take j).length = j by rw [List.length_take]; have := Hj.out.1; omega] at h1
                  obtain ⟨ct, hct2⟩ : ∃ ct, ct = (ns.take j).contains t := ⟨_, rfl⟩
                  rw [← hct2] at hic hbb
                  have Hic := hid hic
                  clear hf hR hic hct2
                  subst hbb
                  refine wp_region_held_drew (S := fun W : World => W.cell? ⟨bq, 0, none⟩ = some (.string ⟨st.toArray⟩) ∧ W.cell? ⟨bq, 1, none⟩ = some (.slice (some ⟨g1, o1, none⟩) L ca) ∧ W.cell? ⟨gq, oq + j, none⟩ = some (.string ⟨t.toArray⟩)) (by kernel_rfl) ⟨q0, q1, hct⟩ (fun hHeld => ?_)
                  refine wpAnyH_take (i := 1) (v := ?_) rfl (by kernel_rfl) (by kernel_rfl) (by kernel_rfl) (fun _ _ _ h => h) (Or.inl ⟨by kernel_rfl, ?_⟩) (by assumption) ?_
                  rotate_left
                  · intro w hSw
                    try dsimp only at hSw
                    go_simp
                    try with_reducible rfl
                  try simp only [Act.put, List.setIfInBounds_toArray]
                  refine wpAnyH_take (i := 2) (v := ?_) rfl (by kernel_rfl) (by kernel_rfl) (by kernel_rfl) (fun _ _ _ h => h) (Or.inl ⟨by kernel_rfl, ?_⟩) (by assumption) ?_
                  rotate_left
                  · intro w hSw
                    try dsimp only at hSw
                    go_simp
                    try with_reducible rfl
                  try simp only [Act.put]
                  refine wpAnyH_take (i := 3) (v := ?_) rfl (by kernel_rfl) (by kernel_rfl) (by kernel_rfl) (fun _ _ _ h => h) (Or.inl ⟨by kernel_rfl, ?_⟩) (by assumption) ?_
                  rotate_left
                  · intro w hSw
                    try dsimp only at hSw
                    go_simp
                    try with_reducible rfl
                  try simp only [Act.put]
                  refine wpAnyH_take (i := 0) (v := ?_) rfl (by kernel_rfl) (by kernel_rfl) (by kernel_rfl) (fun _ _ _ h => h) (Or.inl ⟨by kernel_rfl, ?_⟩) (by assumption) ?_
                  rotate_left
                  · intro w hSw
                    try dsimp only at hSw
                    go_simp
                    try with_reducible rfl
                  try simp only [Act.put]
                  refine wpAnyH_take (i := 4) (v := ?_) rfl (by kernel_rfl) (by kernel_rfl) (by kernel_rfl) (fun _ _ _ h => h) (Or.inl ⟨by kernel_rfl, ?_⟩) (by assumption) ?_
                  rotate_left
                  · intro w hSw
                    try dsimp only at hSw
                    go_simp
                    try with_reducible rfl
                  try simp only [Act.put]
                  refine wpAnyH_ready (rs := [5]) (by kernel_rfl) (by simp) ?_
                  refine AllReadyH.cons (o := ({ dst := some 53, op := Op.call { callee := Callee.value (Operand.func 35), args := #[Operand.tmp 48, Operand.tmp 52], argTypes := #[33, 9] }, type := 3, pos := "ref.go:101", after := #[{ on := 0, ground := Ground.data }, { on := 4, ground := Ground.data }], guard := none } : Oper)) rfl (fun K hK => ?_) AllReadyH.nil
                  go_simp
                  go_at_call 35
                  refine hfd.mono ?_
                  rintro e wx ⟨rfl, rfl⟩
                  try go_simp
                  refine hK.out _ _ ⟨((Kp.refl (fun _ => False) wr.drew).alloc _).cell hHeld.1 (fun e => e), ((Kp.refl (fun _ => False) wr.drew).alloc _).cell hHeld.2.1 (fun e => e), ((Kp.refl (fun _ => False) wr.drew).alloc _).cell hHeld.2.2 (fun e => e)⟩ (fun hH2 => ?_)
                  clear hK K hHeld
                  have hHeld := hH2
                  clear hH2
                  try simp only [Act.put, List.setIfInBounds_toArray, List.set_cons_zero, List.set_cons_succ]
                  refine wpAnyH_take (i := 6) (v := ?_) rfl (by kernel_rfl) (by kernel_rfl) (by kernel_rfl) (fun _ _ _ h => h) (Or.inl ⟨by kernel_rfl, ?_⟩) (by assumption) ?_
                  rotate_left
                  · intro w hSw
                    try dsimp only at hSw
                    go_simp
                    try with_reducible rfl
                  try simp only [Act.put, List.setIfInBounds_toArray]
                  refine wpAnyH_take (i := 7) (v := ?_) rfl (by kernel_rfl) (by kernel_rfl) (by kernel_rfl) (fun _ _ _ h => h) (Or.inl ⟨by kernel_rfl, ?_⟩) (by assumption) ?_
                  rotate_left
                  · intro w hSw
                    try dsimp only at hSw
                    go_simp
                    try with_reducible rfl
                  try simp only [Act.put]
                  refine wpAnyH_take (i := 8) (v := ?_) rfl (by kernel_rfl) (by kernel_rfl) (by kernel_rfl) (fun _ _ _ h => h) (Or.inl ⟨by kernel_rfl, ?_⟩) (by assumption) ?_
                  rotate_left
                  · intro w hSw
                    try dsimp only at hSw
                    go_simp
                    try with_reducible rfl
                  try simp only [Act.put]
                  refine wpAnyH_take (i := 9) (v := ?_) rfl (by kernel_rfl) (by kernel_rfl) (by kernel_rfl) (fun _ _ _ h => h) (Or.inl ⟨by kernel_rfl, ?_⟩) (by assumption) ?_
                  rotate_left
                  · intro w hSw
                    try dsimp only at hSw
                    go_simp
                    try with_reducible rfl
                  try simp only [Act.put]
                  refine wpAnyH_take (i := 10) (v := ?_) rfl (by kernel_rfl) (by kernel_rfl) (by kernel_rfl) (fun _ _ _ h => h) (Or.inl ⟨by kernel_rfl, ?_⟩) (by assumption) ?_
                  rotate_left
                  · intro w hSw
                    try dsimp only at hSw
                    go_simp
                    try with_reducible rfl
                  try simp only [Act.put]
                  refine wpAnyH_take (i := 11) (v := ?_) rfl (by kernel_rfl) (by kernel_rfl) (by kernel_rfl) (fun _ _ _ h => h) (Or.inl ⟨by kernel_rfl, ?_⟩) (by assumption) ?_
                  rotate_left
                  · intro w hSw
                    try dsimp only at hSw
                    go_simp
                    try with_reducible rfl
                  try simp only [Act.put]
                  refine wpAnyH_take (i := 12) (v := ?_) rfl (by kernel_rfl) (by kernel_rfl) (by kernel_rfl) (fun _ _ _ h => h) (Or.inl ⟨by kernel_rfl, ?_⟩) (by assumption) ?_
                  rotate_left
                  · intro w hSw
                    try dsimp only at hSw
                    go_simp
                    try with_reducible rfl
                  try simp only [Act.put]
                  refine wpAnyH_take (i := 13) (v := ?_) rfl (by kernel_rfl) (by kernel_rfl) (by kernel_rfl) (fun _ _ _ h => h) (Or.inl ⟨by kernel_rfl, ?_⟩) (by assumption) ?_
                  rotate_left
                  · intro w hSw
                    try dsimp only at hSw
                    go_simp
                    try with_reducible rfl
                  try simp only [Act.put]
                  refine wpAnyH_take (i := 14) (v := ?_) rfl (by kernel_rfl) (by kernel_rfl) (by kernel_rfl) (fun _ _ _ h => h) (Or.inl ⟨by kernel_rfl, ?_⟩) (by assumption) ?_
                  rotate_left
                  · intro w hSw
                    try dsimp only at hSw
                    go_simp
                    try with_reducible rfl
                  try simp only [Act.put]
                  refine wpAnyH_ready (rs := [15]) (by kernel_rfl) (by simp) ?_
                  refine AllReadyH.cons (o := ({ dst := some 63, op := Op.call { callee := Callee.value (Operand.func 77), args := #[Operand.tmp 58, Operand.tmp 62], argTypes := #[71, 9] }, type := 4, pos := "ref.go:101", after := #[{ on := 10, ground := Ground.data }, { on := 14, ground := Ground.data }, { on := 7, ground := Ground.chain }, { on := 7, ground := Ground.guard }], guard := some (7, true) } : Oper)) rfl (fun K hK => ?_) AllReadyH.nil
                  go_simp
                  go_at_call 77
                  refine (Hic.out _ (((Kp.refl _ wr).drew).alloc _) _).mono ?_
                  rintro e wx ⟨rfl, hwx⟩
                  subst hwx
                  try go_simp
                  refine hK.out _ _ hHeld (fun hH2 => ?_)
                  clear hK K hHeld
                  have hHeld := hH2
                  clear hH2
                  try simp only [Act.put, List.setIfInBounds_toArray, List.set_cons_zero, List.set_cons_succ]
                  refine wpAnyH_take (i := 16) (oi := ({ dst := some 64, op := Op.unOp UnOp.not 4 (Operand.tmp 63), type := 4, pos := "ref.go:101", after := #[{ on := 15, ground := Ground.data }, { on := 7, ground := Ground.guard }], guard := some (7, true) } : Oper)) (v := ?_) rfl (by kernel_rfl) (by kernel_rfl) (by kernel_rfl) (fun _ _ _ h => h) (Or.inl ⟨by kernel_rfl, ?_⟩) (by assumption) ?_
                  rotate_left
                  · intro w hSw
                    try dsimp only at hSw
                    go_simp
                    try with_reducible rfl
                  try simp only [Act.put, List.setIfInBounds_toArray, List.set_cons_zero, List.set_cons_succ]
                  refine wpAnyH_take (i := 17) (oi := ({ dst := some 65, op := Op.pick (Operand.tmp 55) (Operand.tmp 64) (Operand.const (Value.bool false)), type := 4, pos := "ref.go:101", after := #[{ on := 7, ground := Ground.data }, { on := 16, ground := Ground.data }], guard := none } : Oper)) (v := ?_) rfl (by kernel_rfl) (by kernel_rfl) (by kernel_rfl) (fun _ _ _ h => h) (Or.inl ⟨by kernel_rfl, ?_⟩) (by assumption) ?_
                  rotate_left
                  · intro w hSw
                    try dsimp only at hSw
                    go_simp
                    try with_reducible rfl
                  try simp only [Act.put, List.setIfInBounds_toArray, List.set_cons_zero, List.set_cons_succ]
                  refine wpAnyH_done (by kernel_rfl) ?_ _
                  go_wp2_with fail
                  go_meet
                  exact ⟨rfl, ((Kp.refl _ wr).drew).alloc _⟩
              case rest =>
                obtain ⟨h65, hk5⟩ := hcut
                subst h65
                have hs5 := Hs8.out.kp hk5 (fun _ e => e.elim) (fun _ _ e => e)
                have hkp5 := Hkp8.out.trans (hk5.mono fun _ _ e => e.elim)
                obtain ⟨gq', oq', hgr', -, hgl5, hct5⟩ := (Hd8.out.kp hk5 (fun _ _ e => e)).at Hnt.out
                injection hgr' with hgr'
                injection hgr' with e1 e2
                subst e1 e2
                have q0 := hs5.arg.cell 0
                have q1 := hs5.arg.cell 1
                have hbl := hs5.arg.lt
                simp only [List.getElem?_cons_zero, List.getElem?_cons_succ, ← HL.out] at q0 q1
                have hsz5 := hk5.size
                have Hs5 := hid hs5
                have Hkp5 := hid hkp5
                have Hk5 := hid hk5
                clear hs5 hkp5 hk5
                cases hb : bb with
                | true =>
                  subst hb
                  have hf9 := Hf8.out
                  rw [if_pos Hbb.out.symm, List.map_cons, ← List.singleton_append, ← List.append_assoc] at hf9
                  obtain ⟨g2, cap2, w5, hrun, hs6, hk6, hg6⟩ := Hs5.out.app ⟨10, i, t⟩ (by have := Hmo8.out; omega) 61 0 (N := wc.heap.size) rfl
                  have Hf9 := hid hf9
                  have Hs6 := hid hs6
                  have Hk6 := hid hk6
                  have Hg6 := hid hg6
                  clear hf9 hs6 hk6 hg6
                  go_wp2_with (at_builtin; refine wpList_app rfl _ _ _ rfl u3 (.slice (some ⟨wc.heap.size, 0, none⟩) 1 1) _ w5 (by go_simp) (by go_simp) (by exact hrun) ?_)
                  go_roundg (M - (j + 1))
                  case measure => have := Hk3.out; have := HM.out.1; have := Hj.out.2; omega
                  case rel =>
                    refine ⟨j + 1, _, by go_num, by rw [HM.out.1], Hj.out.2, Hs6.out, Hf9.out, ?_, Hkp5.out.trans (Hk6.out.mono fun q _ e => Hvg8.out.1 q e), fun q e => ?_, ?_⟩
                    · have := Hmo8.out
                      have := Hj.out.2
                      rw [List.length_append, List.length_singleton]
                      omega
                    · have e : g2 = q := by simpa [Value.ownBlock] using e
                      subst e
                      have := Hvg8.out.2
                      rcases Hg6.out with h7 | h7
                      · exact Hvg8.out.1 _ h7
                      · omega
                    · have := Hvg8.out.2
                      have := Hk6.out.size
                      omega
                | false =>
                  subst hb
                  have hf9 := Hf8.out
                  rw [if_neg (fun e => by rw [← Hbb.out] at e; cases e)] at hf9
                  have Hf9 := hid hf9
                  clear hf9
                  go_wp2_with fail
                  go_roundg (M - (j + 1))
                  case measure => have := Hk3.out; have := HM.out.1; have := Hj.out.2; omega
                  case rel => exact ⟨j + 1, ls3, by go_num, by rw [HM.out.1], Hj.out.2, Hs5.out, Hf9.out, by have := Hmo8.out; omega, Hkp5.out, Hvg8.out.1, by have := Hvg8.out.2; omega⟩
            · have hjM : ¬ (j : Int) < (M : Int) := by have := HM.out.1; omega
              have hjn : j = ns.length := by omega
              rw [List.drop_of_length_le hjge, newR, List.map_nil, List.append_nil] at hf8
              have hall2 : ls3 ++ probsFrom rs (i + 1) (rs.drop (i + 1)) = probsFrom rs 0 rs := by
                rw [← Hall.out, hf8, Hfin.out, Hls2.out]
                unfold probsOf
                rw [newN_newR _ _ [] [] (fun u _ => rfl), ← HM.out.2.1, ← Hx.out.2.1]
                simp only [List.append_assoc]
              have Hall2 := hid hall2
              have Hs8 := hid hs8
              have Hmo8 := hid hmo8
              clear hall2 hs8 hf8 hmo8 hkp8 hvg8 hhi8 hk3 hj hjge
              go_wp2_with fail
              go_roundg (L - (i + 1))
              case measure => have := Hk.out; have := HL.out; have := Hlt.out; omega
              case rel => exact ⟨i + 1, ls3, by go_num, by rw [HL.out], Hlt.out, Hs8.out, Hall2.out, by have := Hmo8.out; omega⟩
    · have hgeL : ¬ (i : Int) < (L : Int) := by have := HL.out; omega
      rw [List.drop_of_length_le hge, probsFrom, List.append_nil] at hall
      have hfd := rfirst_calls wr st rs ga ca st (Hin.out.later hs1.bel) (by have := HL.out; omega)
      rw [← HL.out] at hfd
      have hs2 := hs1.later (bel_new wr (.cells #[.string ⟨st.toArray⟩, .slice ga L ca] 33))
      have hb2 := hs2.bel
      have q2 := hs2.arg.cell 0
      have hbl2 := hs2.arg.lt
      simp only [List.getElem?_cons_zero] at q2
      have Hs2 := hid hs2
      have Hmo := hid hmost
      obtain ⟨wz, hwz⟩ : ∃ wz, wz = wr.alloc (.cells #[.string ⟨st.toArray⟩, .slice ga L ca] 33) := ⟨_, rfl⟩
      rw [← hwz] at hfd Hs2 q2 hbl2 hb2
      have Hb2 := hid hb2
      cases hf : firstAt rs 0 st with
      | some f =>
        have hR : ruleOf rs st = (f : Int) := by unfold ruleOf; rw [hf]
        rw [hR] at hfd
        have e : checkS st rs = ls := by unfold checkS; rw [hf, hall]; simp
        have He := hid e
        have hnf : ¬ ((f : Int) < 0) := by omega
        clear e hR hf hall hs1 hs2 hmost hk hil hge hb2 hwz
        go_wp2_with (go_at_call 35; refine hfd.mono ?_; rintro e wx ⟨rfl, hwx⟩; subst hwx)
        go_ret
        exact ⟨_, rfl, by rw [He.out, ← HQ.out]; exact Hs2.out.own.base2 (by omega), Hb2.out⟩
      | none =>
        have hR : ruleOf rs st = -1 := by unfold ruleOf; rw [hf]
        rw [hR] at hfd
        have e : checkS st rs = ls ++ [⟨19, -1, st⟩] := by unfold checkS; rw [hf, hall]; simp
        have He := hid e
        obtain ⟨g2, cap2, w5, hrun, hs5, hk5, _⟩ := Hs2.out.app ⟨19, -1, st⟩ (by have := Hmo.out; omega) 61 0 (N := wz.heap.size) rfl
        have Hs5 := hid hs5
        clear e hR hf hall hs1 hs2 hmost hk hil hge hb2 hwz hs5 hk5
        go_wp2_with (first
          | (at_builtin; refine wpList_app rfl _ _ _ rfl u3 (.slice (some ⟨wz.heap.size, 0, none⟩) 1 1) _ w5 (by go_simp) (by go_simp) (by exact hrun) ?_)
          | (go_at_call 35; refine hfd.mono ?_; rintro e wx ⟨rfl, hwx⟩; subst hwx))
        go_ret
        exact ⟨_, rfl, by rw [He.out, ← HQ.out]; exact Hs5.out.own.base2 (by omega), Hs5.out.bel⟩
end Go.Proofs.Ytjaampgpihicmaa
