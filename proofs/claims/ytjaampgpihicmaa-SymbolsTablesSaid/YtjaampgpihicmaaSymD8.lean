/- Chapter 7 (symbols): Terminals of any grammar. -/
import Derived.Test.YtjaampgpihicmaaSymD4
import Derived.Test.YtjaampgpihicmaaSym8
import Derived.Test.YtjaampgpihicmaaSymLaw1
namespace Go.Proofs.Ytjaampgpihicmaa
open Go.RowKit
attribute [local go_sem ↓] Go.wp_at_zero Go.wp_at_succ
attribute [local go_sem] frozen_alloc_lt
open Syn (Nd Nod)

theorem toldF_snoc (ss : List (List UInt8)) (t u : List UInt8) : (if u = t then some (Value.bool true) else toldF ss u) = toldF (ss ++ [t]) u := by
  unfold toldF
  by_cases h : u = t
  · simp [h]
  · simp [h]
/-- In terminals: known is in block bm, out is v. -/
structure TmSt (bm B : Nat) (v : Value) (ss : List (List UInt8)) (w : World) : Prop where
  map : MapS w bm ss.length (toldF ss)
  own : TxO w B v ss
  lt : bm < B
  le : B ≤ w.heap.size
section
variable {bm B : Nat} {v : Value} {ss : List (List UInt8)} {w w' : World}
theorem TmSt.later (h : TmSt bm B v ss w) (hb : Below w.heap.size w w') : TmSt bm B v ss w' := ⟨h.map.kp (below_kp hb) (fun e => e), h.own.later hb, h.lt, Nat.le_trans h.le hb.size⟩
set_option maxRecDepth 8000 in
/-- A text that is new: the map, then the row. -/
theorem TmSt.put (h : TmSt bm B v ss w) (t : List UInt8) (ht : t.length ≤ 1000000) (hl : ss.length ≤ 1000000) (_hn : ss.contains t = false) :
    ∃ w5, (Instr.mapUpdate 130 (.map (some bm)) (.string ⟨t.toArray⟩) (.bool true)).run Try.prog w = .ok () w5 ∧ (∀ {g i : Nat} {u : Value}, g ≠ bm → w.cell? ⟨g, i, none⟩ = some u → w5.cell? ⟨g, i, none⟩ = some u) ∧ w.heap.size ≤ w5.heap.size ∧
    ∃ v' w6, (Builtin.append_ #[71, 71] 71 #[v, .slice (some ⟨w5.heap.size, 0, none⟩) 1 1]).run Try.prog (w5.alloc (.cells #[.string ⟨t.toArray⟩] 9)) = .ok v' w6 ∧ TmSt bm B v' (ss ++ [t]) w6 ∧ Kp (fun k => k = bm ∨ v.ownBlock = some k) w w6 := by
  obtain ⟨w5, hput, hm5, hg5⟩ := h.map.put t (.bool true) (by unfold maxLen; omega) (by unfold maxLen; omega) 130 4 Try.underlying130
  have hk5 : Kp (fun k => k = bm) w w5 := (Kp.refl _ w).grown hg5 (fun k hk _ => by injection hk with hk; exact hk.symm)
  have hlt := h.lt
  have hle := h.le
  have ho5 := h.own.kp hk5 (fun g hg e => by have := (h.own.lt g hg).1; omega)
  obtain ⟨v', w6, h1, h2, h3, h4, h5⟩ := ho5.app t (by omega) (by have := hk5.size; omega) 71 0 (N := w5.heap.size) rfl
  have hs : ∀ k, v.ownBlock = some k → B ≤ k := fun k e => (h.own.lt k e).1
  refine ⟨w5, hput, fun hg hc => hk5.cell hc hg, hk5.size, v', w6, h1, ⟨?_, h2, hlt, by have := h4.size; have := hk5.size; omega⟩, (hk5.mono fun k _ e => .inl e).trans (h3.mono fun k _ e => .inr e)⟩
  have hm6 := hm5.kp h3 (fun e => by have := hs _ e; omega)
  rw [List.length_append, List.length_singleton]
  exact hm6.same fun u => toldF_snoc ss t u
end
def TmSays (m : Nat) : Prop := ∀ (n : Nod) (w : World) (ga : Option Addr) (ca bm B : Nat) (v : Value) (ss : List (List UInt8)), n.kids.nodes = m → NdAt w (fun k => k < bm) ga n.kids 0 → n.fits 100000 → n.short → ss.length + m + 1 ≤ 900000 → TmSt bm B v ss w →
  Calls Try.prog 80 #[nodeV n ga ca, .map (some bm), v] w fun e w' => ∃ v', e = .returned v' ∧ TmSt bm B v' (n.lits.foldl nameA ss) w' ∧ Kp (fun k => k = bm ∨ B ≤ k) w w'
def TmRel (w0 : World) (ga : Option Addr) (L m bm B : Nat) (fin : List (List UInt8)) (k : Nat) (v2 v39 : Value) (w : World) : Prop :=
  ∃ (i : Nat) (r : Nd) (ss : List (List UInt8)), v39 = .int .i64 i ∧ TmSt bm B v2 ss w ∧ NdAt w0 (fun k => k < bm) ga r i ∧ r.fits 100000 ∧ r.short ∧ i + r.len = L ∧ r.lits.foldl nameA ss = fin ∧ k = r.len ∧ ss.length + r.nodes + 1 ≤ 900000 ∧ r.nodes ≤ m ∧ Kp (fun k => k = bm ∨ B ≤ k) w0 w
set_option maxRecDepth 8000 in
set_option maxHeartbeats 8000000 in
theorem terms_step (m : Nat) (ih : ∀ m', m' < m → TmSays m') : TmSays m := by
  intro n w ga ca bm B v ss hm hin hfit hsh hlen hst
  obtain ⟨kn, hkn⟩ : ∃ kn : Int, kn = n.kind := ⟨_, rfl⟩
  obtain ⟨L, hL⟩ : ∃ L, L = n.kids.len := ⟨_, rfl⟩
  obtain ⟨tx, htx⟩ : ∃ tx, tx = n.text := ⟨_, rfl⟩
  simp only [nodeV, ← hkn, ← hL, ← htx]
  have hb0 := bel_new w (.cells #[.int .i64 kn, .string ⟨tx.toArray⟩, .slice ga L ca] 49)
  have hbx := Bk.new w 49 [.int .i64 kn, .string ⟨tx.toArray⟩, .slice ga L ca]
  have hst0 := hst.later hb0
  have hkw : Kp (fun k => k = bm ∨ B ≤ k) w (w.alloc (.cells #[.int .i64 kn, .string ⟨tx.toArray⟩, .slice ga L ca] 49)) := (Kp.refl _ w).alloc _
  have hsz := hst.le
  have hbm := hst.lt
  obtain ⟨wa, hwa⟩ : ∃ wa, wa = w.alloc (.cells #[.int .i64 kn, .string ⟨tx.toArray⟩, .slice ga L ca] 49) := ⟨_, rfl⟩
  obtain ⟨bq, hbq⟩ : ∃ bq, bq = w.heap.size := ⟨_, rfl⟩
  rw [← hwa] at hb0 hst0 hkw hbx
  rw [← hbq] at hbx
  have htl : tx.length ≤ 1000000 := by rw [htx]; exact hsh.1
  have hget := hst0.map.get tx (by unfold maxLen; omega) 130 4 Try.underlying130 (zero_bool _)
  have hgt : (toldF ss tx).getD (.bool false) = .bool (ss.contains tx) := by
    unfold toldF
    cases ss.contains tx <;> rfl
  rw [hgt] at hget
  have x0 := hbx.cell 0
  have x1 := hbx.cell 1
  have x2 := hbx.cell 2
  have hlq := hbx.lt
  simp only [List.getElem?_cons_zero, List.getElem?_cons_succ] at x0 x1 x2
  have HW := hid hwa
  have HQ := hid hbq
  have Hst0 := hid hst0
  have Hkw := hid hkw
  have Hbm := hid (And.intro hsz hbm)
  by_cases h1 : n.kind = 2
  · have hk1 : kn = 2 := by omega
    subst hk1
    have e0 : n.lits = [tx] := by unfold Syn.Nod.lits; rw [if_pos h1, htx]
    rw [e0, List.foldl_cons, List.foldl_nil]
    cases hc : ss.contains tx with
    | true =>
      rw [hc] at hget
      have e : nameA ss tx = ss := by unfold nameA; rw [if_pos hc]
      rw [e]
      clear hkn hL hb0 e e0 h1 hm hin hfit hlen ih hwa hst hst0 hkw hsz hbm hc hgt htx hsh htl hbx hbq
      go_enter Try.func80, Try.ntmps80
      go_upto_region 1 with fail
      rw [← HW.out, ← HQ.out]
      go_wp2_with fail
      go_ret
      exact ⟨_, rfl, Hst0.out, Hkw.out⟩
    | false =>
      rw [hc] at hget
      have e : nameA ss tx = ss ++ [tx] := by unfold nameA; rw [if_neg (by rw [hc]; exact Bool.false_ne_true)]
      rw [e]
      obtain ⟨w5, hput, hcell, hsz5, v', w6, hrun, hst6, hk6⟩ := hst0.put tx htl (by omega) hc
      have hne : bq ≠ bm := by omega
      have y0 := hcell hne x0
      have y1 := hcell hne x1
      have hlq5 : bq < w5.heap.size := by omega
      have hvq : ∀ q, v.ownBlock = some q → q < bq := fun q e => by have := (hst.own.lt q e).2; omega
      have hk6' : ¬ (bq = bm ∨ v.ownBlock = some bq) := fun e => e.elim hne fun e => by have := hvq _ e; omega
      have z0 := hk6.cell x0 hk6'
      have z1 := hk6.cell x1 hk6'
      have hlq6 : bq < w6.heap.size := by have := hk6.size; omega
      have Hst6 := hid hst6
      have Hk6 := hid (hkw.trans (hk6.mono fun k _ e => e.imp id fun e => (hst.own.lt k e).1))
      clear hkn hL hb0 e e0 h1 hm hin hfit hlen ih hwa hst hst0 hkw hsz hbm hc hgt htx hsh htl hbx hbq hcell hst6 hk6 hk6' hvq x2
      go_enter Try.func80, Try.ntmps80
      go_upto_region 1 with fail
      rw [← HW.out, ← HQ.out]
      go_wp2_with (at_builtin; refine wpList_app rfl _ _ _ rfl v (.slice (some ⟨w5.heap.size, 0, none⟩) 1 1) v' w6 (by go_simp) (by go_simp) (by exact hrun) ?_)
      go_ret
      exact ⟨_, rfl, Hst6.out, Hk6.out⟩
  · by_cases h2 : n.kind = 1
    · have hk1 : kn = 1 := by omega
      subst hk1
      have e0 : n.lits = [] := by unfold Syn.Nod.lits; rw [if_neg h1, if_pos h2]
      rw [e0, List.foldl_nil]
      clear hkn hL hb0 e0 h1 h2 hm hin hfit hlen ih hwa hst hst0 hkw hsz hbm hgt hget htx hsh htl hbx hbq
      go_enter Try.func80, Try.ntmps80
      go_upto_region 1 with fail
      rw [← HW.out, ← HQ.out]
      go_wp2_with fail
      go_ret
      exact ⟨_, rfl, Hst0.out, Hkw.out⟩
    · have e0 : n.lits = n.kids.lits := by unfold Syn.Nod.lits; rw [if_neg h1, if_neg h2]
      rw [e0]
      obtain ⟨fin, hfin⟩ : ∃ fin, fin = n.kids.lits.foldl nameA ss := ⟨_, rfl⟩
      rw [← hfin]
      have hk1 : (kn == 2) = false := by simp; omega
      have hk2 : (kn == 1) = false := by simp; omega
      have hk3 : ¬ kn = 2 := by omega
      have hk4 : ¬ kn = 1 := by omega
      have hL1 : L ≤ 100000 := by have := hfit.1; omega
      have Hfin := hid hfin
      have Hin := hid hin
      have Hfit := hid (And.intro hfit.2 hsh.2)
      have Hlen := hid hlen
      have Hm := hid hm
      have Hih := hid ih
      have HL := hid hL
      have Hbx := hid hbx
      clear hkn hL hb0 e0 h1 h2 hm hin hfit hlen ih hwa hst hst0 hkw hsz hbm hgt hget htx hsh htl hbx hbq hfin
      go_enter Try.func80, Try.ntmps80
      go_upto_region 1 with fail
      rw [← HW.out, ← HQ.out]
      go_wp2_with fail
      go_loopg [2, 39] L (fun k v2 v39 wx => TmRel w ga L m bm B fin k v2 v39 wx)
      case atStart => exact ⟨0, n.kids, ss, rfl, Hst0.out, Hin.out, Hfit.out.1, Hfit.out.2, by rw [HL.out]; omega, Hfin.out.symm, HL.out, by have := Hm.out; have := Hlen.out; omega, by have := Hm.out; omega, Hkw.out⟩
      case round =>
        obtain ⟨i, r, ss1, rfl, hst, hr, hf, hsh, hi, hss, hkk, hmx, hnm, hkp⟩ := hrel
        cases r with
        | nil =>
          have hge : ¬ (i : Int) < (L : Int) := by simp only [Nd.len] at hi; omega
          have e : ss1 = fin := by simpa [Syn.Nd.lits] using hss
          have He := hid e
          have Hst := hid hst
          have Hkp := hid hkp
          clear hss e hr hf hsh hmx hnm hi hst hkp hkk
          go_wp2_with fail
          go_ret
          exact ⟨_, rfl, He.out ▸ Hst.out, Hkp.out⟩
        | cons a t kids r1 =>
          have hlt : (i : Int) < (L : Int) := by simp only [Nd.len] at hi; omega
          have hi0 : (0 : Int) ≤ (i : Int) := by omega
          have hd : ∀ k, k < bm → ¬ (k = bm ∨ B ≤ k) := fun k hk e => by have := hst.lt; omega
          have hr' := NdAt.kp hkp hd hr
          unfold NdAt at hr hr'
          obtain ⟨⟨g1, o1, gm, cm, hga, hg1, a0, a1, a2, hk1'⟩, hr1'⟩ := hr'
          obtain ⟨-, hr1⟩ := hr
          simp only [Nd.nodes] at hnm hmx
          simp only [Syn.Nd.fits] at hf
          simp only [Syn.Nd.short] at hsh
          have hgl : g1 < wr.heap.size := by have := hst.lt; have := hst.le; omega
          have hbw := bel_new wr (.cells #[.int .i64 a, .string ⟨t.toArray⟩, .slice gm kids.len cm] 49)
          have hpc := Hih.out kids.nodes (by have := Hm.out; omega) ⟨a, t, kids⟩ (wr.alloc (.cells #[.int .i64 a, .string ⟨t.toArray⟩, .slice gm kids.len cm] 49)) gm cm bm B u2 ss1 rfl (NdAt.kp (below_kp hbw) (fun _ _ e => e) hk1') ⟨hf.1, hf.2.1⟩ ⟨hsh.1, hsh.2.1⟩ (by omega) (hst.later hbw)
          simp only [nodeV] at hpc
          have hall2 : r1.lits.foldl nameA ((Nod.lits ⟨a, t, kids⟩).foldl nameA ss1) = fin := by
            rw [← hss]
            unfold Syn.Nod.lits
            rw [Syn.Nd.lits, List.foldl_append]
          have hlen2 : ((Nod.lits ⟨a, t, kids⟩).foldl nameA ss1).length + r1.nodes + 1 ≤ 900000 := by
            have h1 : (Nod.lits ⟨a, t, kids⟩).length ≤ 1 + kids.nodes := by
              unfold Syn.Nod.lits
              have := Nd.lits_len kids
              split
              · simp
              · split <;> simp <;> omega
            have := foldA_len (Nod.lits ⟨a, t, kids⟩) ss1
            omega
          have hkp2 : Kp (fun k => k = bm ∨ B ≤ k) w (wr.alloc (.cells #[.int .i64 a, .string ⟨t.toArray⟩, .slice gm kids.len cm] 49)) := hkp.alloc _
          have Hkp2 := hid hkp2
          have Hr := hid (And.intro hr1 (And.intro hf.2.2 hsh.2.2))
          have Hall2 := hid (And.intro hall2 hlen2)
          have Hi := hid (And.intro hi hkk)
          have Hnd2 := hid (show r1.nodes ≤ m by omega)
          subst hga
          clear hss hall2 hlen2 hnm hmx hf hsh hr1 hr1' hk1' hst hkp hkp2 hi hkk hd hbw
          go_wp2_with (go_at_call 80; refine hpc.mono ?_; rintro e w2 ⟨v', rfl, hst2, hk2⟩; have Hst2 := hid hst2; have Hk2 := hid hk2; clear hst2 hk2)
          go_roundg r1.len
          case measure => have := Hi.out.2; simp only [Nd.len] at this; omega
          case rel => exact ⟨i + 1, r1, _, by go_num, Hst2.out, Hr.out.1, Hr.out.2.1, Hr.out.2.2, by have := Hi.out.1; simp only [Nd.len] at this; omega, Hall2.out.1, rfl, Hall2.out.2, Hnd2.out, Hkp2.out.trans Hk2.out⟩
theorem terms_all (m : Nat) : TmSays m := by
  induction m using Nat.strongRecOn with
  | ind m ih => exact terms_step m ih
def RtRel (w0 : World) (rs : List (List UInt8 × Nod)) (bm : Nat) (fin : List (List UInt8)) (k : Nat) (v3 v11 : Value) (w : World) : Prop :=
  ∃ (i : Nat) (ss : List (List UInt8)), v11 = .int .i64 i ∧ i ≤ rs.length ∧ k = rs.length - i ∧ TmSt bm (bm + 1) v3 ss w ∧ ((rs.drop i).flatMap fun x => x.2.lits).foldl nameA ss = fin ∧ ss.length + Syn.bodies (rs.drop i) ≤ 890000 ∧ Kp (fun k => bm ≤ k) w0 w
set_option maxRecDepth 8000 in
set_option maxHeartbeats 8000000 in
theorem terminals_calls (w : World) (st : List UInt8) (rs : List (List UInt8 × Nod)) (ga : Option Addr) (ca : Nat) (hin : RulesIn w ga rs) (hl : rs.length ≤ 1000) (hfit : ∀ x ∈ rs, x.2.fits 100000) (hsh : ∀ x ∈ rs, x.2.short) (hmost : Syn.bodies rs ≤ 800000) :
    Calls Try.prog 33 #[.agg #[.string ⟨st.toArray⟩, .slice ga rs.length ca]] w (TxSaid ((rs.flatMap fun x => x.2.lits).foldl nameA []) w) := by
  have hmm := @run_makeMap Try.prog
  obtain ⟨L, hL⟩ : ∃ L, L = rs.length := ⟨_, rfl⟩
  have hbx := (Bk.new w 25 [.string ⟨st.toArray⟩, .slice ga rs.length ca]).alloc (.map #[] 0)
  have hmp := MapS.made (w.alloc (.cells #[.string ⟨st.toArray⟩, .slice ga rs.length ca] 25))
  have hkn : Kp (fun _ => False) w ((w.alloc (.cells #[.string ⟨st.toArray⟩, .slice ga rs.length ca] 25)).alloc (.map #[] 0)) := ((Kp.refl _ w).alloc _).alloc _
  obtain ⟨fin, hfin⟩ : ∃ fin, fin = (rs.flatMap fun x => x.2.lits).foldl nameA [] := ⟨_, rfl⟩
  rw [← hfin]
  rw [← hL] at hl hbx hmp hkn ⊢
  rw [show (w.alloc (.cells #[.string ⟨st.toArray⟩, .slice ga L ca] 25)).heap.size = w.heap.size + 1 by simp] at hmp
  obtain ⟨wm, hwm⟩ : ∃ wm, wm = (w.alloc (.cells #[.string ⟨st.toArray⟩, .slice ga L ca] 25)).alloc (.map #[] 0) := ⟨_, rfl⟩
  have hwms : wm.heap.size = w.heap.size + 2 := by rw [hwm]; simp
  obtain ⟨bq, hbq⟩ : ∃ bq, bq = w.heap.size := ⟨_, rfl⟩
  obtain ⟨bm, hbm⟩ : ∃ bm, bm = w.heap.size + 1 := ⟨_, rfl⟩
  rw [← hwm] at hbx hmp hkn
  rw [← hbq] at hbx
  rw [← hbm] at hmp
  have hst0 : TmSt bm (bm + 1) (.slice none 0 0) [] wm := ⟨hmp.same fun t => by simp [toldF], TxO.nil _ _, by omega, by omega⟩
  have x1 := hbx.cell 1
  have hlq := hbx.lt
  simp only [List.getElem?_cons_zero, List.getElem?_cons_succ] at x1
  have HW := hid hwm
  have HQ := hid hbq
  have HM := hid (And.intro hbm hwms)
  have HL := hid hL
  have Hin := hid hin
  have Hfit := hid (And.intro hfit hsh)
  have Hmost := hid hmost
  have Hst0 := hid hst0
  have Hkn := hid hkn
  have Hfin := hid hfin
  clear hwm hbq hbm hL hin hfit hsh hmost hst0 hkn hbx hmp hfin hwms
  go_enter Try.func33, Try.ntmps33
  go_upto_region 3 with fail
  rw [← HW.out, ← HM.out.1, ← HQ.out]
  clear hmm
  go_wp2_with fail
  go_loopg [3, 11] L (fun k v3 v11 wx => RtRel wm rs bm fin k v3 v11 wx)
  case atStart => exact ⟨0, [], rfl, Nat.zero_le _, by rw [HL.out]; rfl, Hst0.out, by rw [List.drop_zero, Hfin.out], by rw [List.drop_zero]; have := Hmost.out; simp; omega, Kp.refl _ _⟩
  case round =>
    obtain ⟨i, ss, rfl, hil, hk, hst, hall, hmo, hkp⟩ := hrel
    rcases Nat.lt_or_ge i rs.length with hlt | hge
    · have hltL : (i : Int) < (L : Int) := by have := HL.out; omega
      have hi0 : (0 : Int) ≤ (i : Int) := by omega
      obtain ⟨x, hxx⟩ : ∃ x, x = rs[i] := ⟨_, rfl⟩
      have hgx : rs[i]? = some x := by rw [hxx]; exact List.getElem?_eq_getElem hlt
      have hxm : x ∈ rs := by rw [hxx]; exact List.getElem_mem hlt
      obtain ⟨g1, o1, gk1, ck1, hga, hg1, a0, a1, a2, a3, hk1⟩ := Hin.out i x hgx
      have hgb : ∀ k, k < w.heap.size → ¬ bm ≤ k := fun k h1 h2 => by have := HM.out.1; omega
      have hg1' : g1 < w.heap.size := hg1
      have c0 := hkp.cell (Hkn.out.cell a0 (fun e => e)) (hgb _ hg1)
      have c1 := hkp.cell (Hkn.out.cell a1 (fun e => e)) (hgb _ hg1)
      have c2 := hkp.cell (Hkn.out.cell a2 (fun e => e)) (hgb _ hg1)
      have c3 := hkp.cell (Hkn.out.cell a3 (fun e => e)) (hgb _ hg1)
      have hl1 : g1 < wr.heap.size := by have := Hkn.out.size; have := hkp.size; omega
      rw [List.drop_eq_getElem_cons hlt, ← hxx] at hall hmo
      rw [List.flatMap_cons, List.foldl_append] at hall
      rw [Syn.bodies] at hmo
      have hk2 : NdAt w (fun k => k < w.heap.size) gk1 x.2.kids 0 := hk1
      have hk3 : NdAt wr (fun k => k < bm) gk1 x.2.kids 0 := (NdAt.kp hkp hgb (NdAt.kp Hkn.out (fun _ _ e => e) hk2)).mono fun k (h : k < w.heap.size) => by have := HM.out.1; omega
      obtain ⟨nx, hnx⟩ : ∃ nx, nx = x.1 := ⟨_, rfl⟩
      obtain ⟨kx, hkx⟩ : ∃ kx : Int, kx = x.2.kind := ⟨_, rfl⟩
      obtain ⟨tx, htx⟩ : ∃ tx, tx = x.2.text := ⟨_, rfl⟩
      obtain ⟨Lx, hLx⟩ : ∃ Lx, Lx = x.2.kids.len := ⟨_, rfl⟩
      have hbw := bel_new wr (.cells #[.string ⟨nx.toArray⟩, .int .i64 kx, .string ⟨tx.toArray⟩, .slice gk1 Lx ck1] 51)
      have hpc := terms_all x.2.kids.nodes x.2 _ gk1 ck1 bm (bm + 1) u3 ss rfl (NdAt.kp (below_kp hbw) (fun _ _ e => e) hk3) (Hfit.out.1 x hxm) (Hfit.out.2 x hxm) (by omega) (hst.later hbw)
      simp only [nodeV] at hpc
      rw [← hkx, ← htx, ← hLx] at hpc
      rw [← hnx] at c0
      rw [← hkx] at c1
      rw [← htx] at c2
      rw [← hLx] at c3
      have hlen2 : (x.2.lits.foldl nameA ss).length + Syn.bodies (rs.drop (i + 1)) ≤ 890000 := by
        have h1 : x.2.lits.length ≤ 1 + x.2.kids.nodes := by
          unfold Syn.Nod.lits
          have := Nd.lits_len x.2.kids
          split
          · simp
          · split <;> simp <;> omega
        have := foldA_len x.2.lits ss
        omega
      have hkp2 : Kp (fun k => bm ≤ k) wm (wr.alloc (.cells #[.string ⟨nx.toArray⟩, .int .i64 kx, .string ⟨tx.toArray⟩, .slice gk1 Lx ck1] 51)) := hkp.alloc _
      have Hkp2 := hid hkp2
      have Hall := hid (And.intro hall hlen2)
      have Hk := hid hk
      have Hlt := hid hlt
      subst hga
      clear hk hil hst hall hmo hkp hkp2 hlen2 hgx hxx hxm hlt hnx hkx htx hLx hbw hk1 hk2 hk3 hgb a0 a1 a2 a3
      go_wp2_with (go_at_call 80; refine hpc.mono ?_; rintro e w2 ⟨v', rfl, hst2, hk2⟩; have Hst2 := hid hst2; have Hk2 := hid hk2; clear hst2 hk2)
      go_roundg (L - (i + 1))
      case measure => have := Hk.out; have := HL.out; have := Hlt.out; omega
      case rel => exact ⟨i + 1, _, by go_num, Hlt.out, by rw [HL.out], Hst2.out, Hall.out.1, Hall.out.2, Hkp2.out.trans (Hk2.out.mono fun k _ e => by omega)⟩
    · have hgeL : ¬ (i : Int) < (L : Int) := by have := HL.out; omega
      rw [List.drop_of_length_le hge, List.flatMap_nil, List.foldl_nil] at hall
      have Hst := hid hst
      have Hall := hid hall
      have Hkp := hid hkp
      clear hk hil hst hall hmo hkp hge
      go_wp2_with fail
      go_ret
      have h1 := HM.out.1
      exact ⟨_, rfl, Hall.out ▸ Hst.out.own.base (by omega), (Hkn.out.to_below (Nat.le_refl _) (fun k e => e.elim)).trans (Hkp.out.to_below (by have := HM.out.2; omega) (fun k e => by omega))⟩
end Go.Proofs.Ytjaampgpihicmaa
