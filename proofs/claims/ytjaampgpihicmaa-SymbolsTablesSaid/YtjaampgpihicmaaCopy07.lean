/- primerlaw07.node and grammar: the program's nodes and rules, copied to the document's. -/
import Derived.Test.YtjaampgpihicmaaSyn16
namespace Go.Proofs.Ytjaampgpihicmaa
open Go.RowKit
attribute [local go_sem ↓] Go.wp_at_zero Go.wp_at_succ
attribute [local go_sem] frozen_alloc_lt
open Syn (Nd Nod)

theorem cpNodeInfo07 : (Try.prog.info? 85).map (fun i => (i.zero, i.size, i.bytes)) = some (some (.agg #[.int .i64 0, .string ⟨#[]⟩, .slice none 0 0]), 3, 48) := by kernel_rfl
theorem cpRuleInfo07 : (Try.prog.info? 94).map (fun i => (i.zero, i.size, i.bytes)) = some (some (.agg #[.string ⟨#[]⟩, .int .i64 0, .string ⟨#[]⟩, .slice none 0 0]), 4, 64) := by kernel_rfl
/-- In node: the argument's block bq, the result's b, the copy's bn, its kids' row v. -/
structure Cp07 (w0 : World) (bq b bn : Nat) (n : Nod) (g0 : Option Addr) (ck : Nat) (v : Value) (ls : List Nod) (w : World) : Prop where
  arg : Bk w bq 49 [.int .i64 n.kind, .string ⟨n.text.toArray⟩, .slice g0 n.kids.len ck]
  res : Bk w b 85 [.int .i64 0, .string ⟨#[]⟩, .slice none 0 0]
  out : Bk w bn 85 [.int .i64 n.kind, .string ⟨n.text.toArray⟩, v]
  own : OwnA NodR 3 w (bn + 1) 85 v ls
  bel : Below w0.heap.size w0 w
  bb : bq = w0.heap.size ∧ b = w0.heap.size + 1 ∧ bn = w0.heap.size + 2
section
variable {w0 : World} {bq b bn : Nat} {n : Nod} {g0 : Option Addr} {ck : Nat} {v : Value} {ls : List Nod} {w : World}
theorem Cp07.later (h : Cp07 w0 bq b bn n g0 ck v ls w) {w' : World} (hb : Below w.heap.size w w') : Cp07 w0 bq b bn n g0 ck v ls w' :=
  ⟨h.arg.below hb h.arg.lt, h.res.below hb h.res.lt, h.out.below hb h.out.lt, h.own.later NodR.fit hb, bel_trans h.bel hb, h.bb⟩
theorem Cp07.app (h : Cp07 w0 bq b bn n g0 ck v ls w) {nn : Nod} {gm : Option Addr} {cm : Nat} (hk : NdAt w (fun q => bn + 1 ≤ q ∧ q < w.heap.size ∧ v.ownBlock ≠ some q) gm nn.kids 0) (hl : ls.length ≤ 1000000) (ty : TypeId) (q : Nat) {N : Nat} (hN : w.heap.size = N) :
    ∃ g2 cap2 w5, (Builtin.append_ #[83, 83] ty #[v, .slice (some ⟨N, 0, none⟩) 1 1]).run Try.prog ((w.alloc (.cells #[.int .i64 nn.kind, .string ⟨nn.text.toArray⟩, .slice gm nn.kids.len cm] 85)).drewN q) = .ok (.slice (some ⟨g2, 0, none⟩) (ls.length + 1) cap2) w5 ∧
      (w5.cell? ⟨bn, 2, none⟩ = some v ∧ w5.frozen? ⟨bn, 2, none⟩ = false ∧ bn < w5.heap.size) ∧
      Cp07 w0 bq b bn n g0 ck (.slice (some ⟨g2, 0, none⟩) (ls.length + 1) cap2) (ls ++ [nn]) (w5.setCell ⟨bn, 2, none⟩ (.slice (some ⟨g2, 0, none⟩) (ls.length + 1) cap2)) := by
  subst hN
  obtain ⟨b1, b2, b3⟩ := h.bb
  have hbl := h.out.lt
  obtain ⟨i0, hi0, y0, y1, y2⟩ := info_parts cpNodeInfo07
  obtain ⟨g2, cap2, w5, hrun, h2, h3, h4, h5⟩ := h.own.app (P := Try.prog) NodR.fit 83 ty i0 _ 48 Try.underlying83 hi0 y0 y1 y2 rfl (by omega) (by omega) (by omega) hl nn [.int .i64 nn.kind, .string ⟨nn.text.toArray⟩, .slice gm nn.kids.len cm] ⟨gm, cm, rfl, hk⟩ q
  have hs : ∀ k, v.ownBlock = some k → bn + 1 ≤ k := fun k hk => (h.own.lt k hk).1
  have hn5 := h.out.kp h3 (fun e => by have := hs _ e; omega)
  have hsz := h3.size
  have c2 := hn5.cell 2
  have f2 := hn5.free 2
  simp only [List.getElem?_cons_zero, List.getElem?_cons_succ] at c2
  refine ⟨g2, cap2, w5, hrun, ⟨c2, f2, hn5.lt⟩, ?_⟩
  have hkn : Kp (fun k => k = bn) w5 (w5.setCell ⟨bn, 2, none⟩ (.slice (some ⟨g2, 0, none⟩) (ls.length + 1) cap2)) := (Kp.refl (fun k => k = bn) w5).set (p := ⟨bn, 2, none⟩) (.inl rfl) _
  refine ⟨(h.arg.kp h3 (fun e => by have := hs _ e; omega)).kp hkn (fun e => by omega), (h.res.kp h3 (fun e => by have := hs _ e; omega)).kp hkn (fun e => by omega), hn5.set 2 _, ?_, (h.bel.trans (h3.to_below (by omega) (fun k e => by have := hs k e; omega))).trans (hkn.to_below (by omega) (fun k e => by omega)), b1, b2, b3⟩
  exact h2.kp NodR.fit hkn (fun k h1 _ e => by omega)
theorem Cp07.fin (h : Cp07 w0 bq b bn n g0 ck v ls w) (hls : n.kids = Nd.ofList ls) : ∃ ga ca, v = .slice ga n.kids.len ca ∧ isNode w0.heap.size n (nodeV n ga ca) (((w.setCell ⟨b, 0, none⟩ (.int .i64 n.kind)).setCell ⟨b, 1, none⟩ (.string ⟨n.text.toArray⟩)).setCell ⟨b, 2, none⟩ v) ∧ Below w0.heap.size w0 (((w.setCell ⟨b, 0, none⟩ (.int .i64 n.kind)).setCell ⟨b, 1, none⟩ (.string ⟨n.text.toArray⟩)).setCell ⟨b, 2, none⟩ v) := by
  obtain ⟨b1, b2, b3⟩ := h.bb
  have hbl := h.out.lt
  obtain ⟨ga, ca, hv, hc⟩ := h.own.lies NodR.fit
  have hn : NdAt w (From (bn + 1) w) ga n.kids 0 := by
    rw [hls]
    refine NdAt.row fun i m hm => ?_
    obtain ⟨g, x, e, h1, h2, h3, h4⟩ := hc i m hm
    exact ⟨g, x, e, ⟨h1, h2⟩, h3, fun k u hu => by rw [Nat.zero_add]; exact h4 k u hu⟩
  have hkp := kp_set3 w b (.int .i64 n.kind) (.string ⟨n.text.toArray⟩) v
  refine ⟨ga, ca, by rw [hv, hls, Nd.ofList_len], ⟨ga, ca, rfl, (hn.kp hkp (fun k hk e => by have := hk.1; omega)).mono fun k hk => ⟨by have := hk.1; omega, Nat.lt_of_lt_of_le hk.2 hkp.size⟩⟩, h.bel.trans (hkp.to_below (by omega) (fun k e => by omega))⟩
end
def NodeSays07 (m : Nat) : Prop := ∀ (w : World) (n : Nod) (g0 : Option Addr) (ck : Nat), n.kids.nodes = m → NdIn w g0 n.kids 0 → n.fits 100000 →
  Calls Try.prog 78 #[nodeV n g0 ck] w fun e w' => ∃ v, e = .returned v ∧ isNode w.heap.size n v w' ∧ Below w.heap.size w w'
def CpRel07 (w0 : World) (bq b bn : Nat) (n : Nod) (g0 : Option Addr) (ck : Nat) (k : Nat) (v4 : Value) (w : World) : Prop :=
  ∃ (v : Value) (ls : List Nod) (r : Nd) (i : Nat), v4 = .int .i64 i ∧ k = r.len ∧ ls.length = i ∧ i + r.len = n.kids.len ∧ n.kids = (Nd.ofList ls).app r ∧ NdIn w0 g0 r i ∧ r.fits 100000 ∧ r.nodes ≤ n.kids.nodes ∧ Cp07 w0 bq b bn n g0 ck v ls w
set_option maxRecDepth 8000 in
set_option maxHeartbeats 4000000 in
theorem node_step07 (m : Nat) (ih : ∀ m', m' < m → NodeSays07 m') : NodeSays07 m := by
  intro w n g0 ck hm hin hfit
  have hb0 := bel_trans (bel_trans (bel_new w (.cells #[.int .i64 n.kind, .string ⟨n.text.toArray⟩, .slice g0 n.kids.len ck] 49)) (bel_new _ (.cells #[.int .i64 0, .string ⟨#[]⟩, .slice none 0 0] 85))) (bel_new _ (.cells #[.int .i64 n.kind, .string ⟨n.text.toArray⟩, .slice none 0 0] 85))
  have k0 := ((Bk.new w 49 [.int .i64 n.kind, .string ⟨n.text.toArray⟩, .slice g0 n.kids.len ck]).alloc (.cells #[.int .i64 0, .string ⟨#[]⟩, .slice none 0 0] 85)).alloc (.cells #[.int .i64 n.kind, .string ⟨n.text.toArray⟩, .slice none 0 0] 85)
  have k1 := (Bk.new (w.alloc (.cells #[.int .i64 n.kind, .string ⟨n.text.toArray⟩, .slice g0 n.kids.len ck] 49)) 85 [.int .i64 0, .string ⟨#[]⟩, .slice none 0 0]).alloc (.cells #[.int .i64 n.kind, .string ⟨n.text.toArray⟩, .slice none 0 0] 85)
  have k2 := Bk.new ((w.alloc (.cells #[.int .i64 n.kind, .string ⟨n.text.toArray⟩, .slice g0 n.kids.len ck] 49)).alloc (.cells #[.int .i64 0, .string ⟨#[]⟩, .slice none 0 0] 85)) 85 [.int .i64 n.kind, .string ⟨n.text.toArray⟩, .slice none 0 0]
  rw [show (w.alloc (.cells #[.int .i64 n.kind, .string ⟨n.text.toArray⟩, .slice g0 n.kids.len ck] 49)).heap.size = w.heap.size + 1 by simp] at k1
  rw [show ((w.alloc (.cells #[.int .i64 n.kind, .string ⟨n.text.toArray⟩, .slice g0 n.kids.len ck] 49)).alloc (.cells #[.int .i64 0, .string ⟨#[]⟩, .slice none 0 0] 85)).heap.size = w.heap.size + 2 by simp] at k2
  have hst : Cp07 w w.heap.size (w.heap.size + 1) (w.heap.size + 2) n g0 ck (.slice none 0 0) [] _ := ⟨k0, k1, k2, OwnA.nil _ _ _ _ _, hb0, rfl, rfl, rfl⟩
  obtain ⟨wa, hwa⟩ : ∃ wa, wa = ((w.alloc (.cells #[.int .i64 n.kind, .string ⟨n.text.toArray⟩, .slice g0 n.kids.len ck] 49)).alloc (.cells #[.int .i64 0, .string ⟨#[]⟩, .slice none 0 0] 85)).alloc (.cells #[.int .i64 n.kind, .string ⟨n.text.toArray⟩, .slice none 0 0] 85) := ⟨_, rfl⟩
  obtain ⟨bq, hbq⟩ : ∃ bq, bq = w.heap.size := ⟨_, rfl⟩
  obtain ⟨b, hb⟩ : ∃ b, b = w.heap.size + 1 := ⟨_, rfl⟩
  obtain ⟨bn, hbn⟩ : ∃ bn, bn = w.heap.size + 2 := ⟨_, rfl⟩
  obtain ⟨L, hL⟩ : ∃ L, L = n.kids.len := ⟨_, rfl⟩
  obtain ⟨kn, hkn⟩ : ∃ kn : Int, kn = n.kind := ⟨_, rfl⟩
  have hL1 : L ≤ 100000 := by have := hfit.1; omega
  rw [← hwa, ← hbn, ← hb, ← hbq] at hst
  have Hst := hid hst
  have HW := hid hwa
  have HB := hid (And.intro hbq (And.intro hb hbn))
  have HL := hid hL
  have HKN := hid hkn
  have Hin := hid hin
  have Hfit := hid hfit
  have Hm := hid hm
  have Hih := hid ih
  simp only [nodeV]
  rw [← hL, ← hkn]
  rw [← hL, ← hkn] at HW
  clear hst hwa hbq hb hbn hL hkn hin hfit hm ih hb0 k0 k1 k2
  go_enter Try.func78, Try.ntmps78
  go_upto_block 0 with fail
  rw [← HW.out, ← HB.out.2.2, ← HB.out.2.1, ← HB.out.1]
  go_wp2_with fail
  go_loopg [4] L (fun k v4 wr => CpRel07 w bq b bn n g0 ck k v4 wr)
  case atStart => exact ⟨_, [], n.kids, 0, rfl, HL.out, rfl, by omega, rfl, Hin.out, Hfit.out.2, Nat.le_refl _, Hst.out⟩
  case round =>
    obtain ⟨v, ls, r, i, rfl, hk, hll, hsum, hkids, hr, hrf, hrn, hst⟩ := hrel
    have q2 := hst.arg.cell 2
    simp only [List.getElem?_cons_zero, List.getElem?_cons_succ] at q2
    rw [← HL.out] at q2 hsum
    have hbq := hst.arg.lt
    cases r with
    | nil =>
      have hge : ¬ (i : Int) < (L : Int) := by simp only [Nd.len] at hsum; omega
      have hfin := hst.fin (by rw [hkids, Nd.app_nil])
      obtain ⟨ga, ca, rfl, hres⟩ := hfin
      have r0 := hst.res.cell 0
      have r1 := hst.res.cell 1
      have r2 := hst.res.cell 2
      have fr0 := hst.res.free 0
      have fr1 := hst.res.free 1
      have fr2 := hst.res.free 2
      have n0 := hst.out.cell 0
      have n1 := hst.out.cell 1
      have n2 := hst.out.cell 2
      simp only [List.getElem?_cons_zero, List.getElem?_cons_succ, ← HKN.out, ← HL.out] at r0 r1 r2 n0 n1 n2
      have hlb := hst.res.lt
      have hlbn := hst.out.lt
      rw [← HL.out, ← HKN.out] at hres
      have Hres := hid hres
      clear hst hk hll hsum hkids hr hrf hrn hres
      go_wp2_with fail
      refine bodyPost_ret (v := nodeV n ga ca) (by simp [results, Try.results78, go_sem, nodeV, r0, r1, r2, ← HL.out, ← HKN.out]) rfl ?_
      exact ⟨_, rfl, Hres.out⟩
    | cons a t k r1 =>
      have hlt : (i : Int) < (L : Int) := by simp only [Nd.len] at hsum; omega
      have hi0 : (0 : Int) ≤ (i : Int) := by omega
      have hkids2 : n.kids = (Nd.ofList (ls ++ [⟨a, t, k⟩])).app r1 := by
        rw [hkids, Nd.ofList_snoc, Nd.app_assoc]
        rfl
      unfold NdIn NdAt at hr
      obtain ⟨⟨g1, o1, gm, cm, hga, hg1, a0, a1, a2, hk1⟩, hr1⟩ := hr
      simp only [Nd.nodes] at hrn
      simp only [Syn.Nd.fits] at hrf
      have Hhga := hid hga
      have al := (hst.bel.cell (p := ⟨g1, _, none⟩) hg1).trans a0
      have al1 := (hst.bel.cell (p := ⟨g1, _, none⟩) hg1).trans a1
      have al2 := (hst.bel.cell (p := ⟨g1, _, none⟩) hg1).trans a2
      have hl1 : g1 < wr.heap.size := Nat.lt_of_lt_of_le hg1 hst.bel.size
      have hk1' : NdIn w gm k 0 := hk1
      have hpc := fun wy (hy : Below wr.heap.size wr wy) => Hih.out k.nodes (by have := Hm.out; omega) wy ⟨a, t, k⟩ gm cm rfl ((hk1'.later hst.bel).later hy) ⟨hrf.1, hrf.2.1⟩
      simp only [nodeV] at hpc
      have Hpc := hid hpc
      have n2 := hst.out.cell 2
      simp only [List.getElem?_cons_zero, List.getElem?_cons_succ] at n2
      have hlbn := hst.out.lt
      have Hst1 := hid hst
      have Hk := hid hk
      have Hll := hid (And.intro hll hsum)
      have Hkids := hid hkids2
      have Hr1 := hid (And.intro hr1 (And.intro hrf.2.2 hrn))
      have Hbb := hid hst.bb
      subst hga
      clear hst hk hll hsum hkids hkids2 hr1 hrf hrn a0 a1 a2 hk1 hk1' hpc Hhga
      have hcall : Calls Try.prog 78 #[.agg #[.int .i64 a, .string ⟨t.toArray⟩, .slice gm k.len cm]] wr.drew fun e w3 => ∃ gn cn, e = .returned (.agg #[.int .i64 a, .string ⟨t.toArray⟩, .slice gn k.len cn]) ∧ w3.cell? ⟨bn, 2, none⟩ = some v ∧ bn < w3.heap.size ∧
          ∃ g2 cap2 w5, (Builtin.append_ #[83, 83] 83 #[v, .slice (some ⟨w3.heap.size, 0, none⟩) 1 1]).run Try.prog ((w3.alloc (.cells #[.int .i64 a, .string ⟨t.toArray⟩, .slice gn k.len cn] 85)).drewN 0) = .ok (.slice (some ⟨g2, 0, none⟩) (ls.length + 1) cap2) w5 ∧
          w5.cell? ⟨bn, 2, none⟩ = some v ∧ w5.frozen? ⟨bn, 2, none⟩ = false ∧ bn < w5.heap.size ∧ Cp07 w bq b bn n (some ⟨g1, o1, none⟩) ck (.slice (some ⟨g2, 0, none⟩) (ls.length + 1) cap2) (ls ++ [⟨a, t, k⟩]) (w5.setCell ⟨bn, 2, none⟩ (.slice (some ⟨g2, 0, none⟩) (ls.length + 1) cap2)) := by
        have hd := (Below.refl wr.heap.size wr).drew
        refine (Hpc.out _ hd).mono ?_
        rintro e w3 ⟨vv, rfl, ⟨gn, cn, rfl, hn3⟩, hb3⟩
        have hst3 := Hst1.out.later (hd.trans hb3)
        have n3 := hst3.out.cell 2
        simp only [List.getElem?_cons_zero, List.getElem?_cons_succ] at n3
        have hl3 := Hst1.out.out.lt
        obtain ⟨g2, cap2, w5, hrun, ⟨m2, mf, ml⟩, hst6⟩ := hst3.app (nn := ⟨a, t, k⟩) (cm := cn) (hn3.mono fun q hq => by
          have h1 : wr.heap.size ≤ q := hq.1
          exact ⟨by omega, hq.2, fun e => by have h2 := (Hst1.out.own.lt q e).2; omega⟩) (by have := Hll.out; omega) 83 0 (N := w3.heap.size) rfl
        exact ⟨gn, cn, rfl, n3, hst3.out.lt, g2, cap2, w5, hrun, m2, mf, ml, hst6⟩
      go_upto_region 5 with fail
      go_region_law
        (first
          | (have hrun0 := hrun; refine step_app (by rfl) _ _ _ (by rfl) v (.slice (some ⟨w3.heap.size, 0, none⟩) 1 1) _ w5 (by go_simp) (by go_simp) (by exact hrun) ?_)
          | (go_simp; go_at_call 78; refine hcall.mono ?_; rintro e w3 ⟨gn, cn, rfl, n3, hln3, g2, cap2, w5, hrun, m2, mf, ml, hst6⟩; have Hst6 := hid hst6; clear hst6))
      all_goals
        go_wp2_with fail
        go_roundg r1.len
        case measure => have := Hk.out; simp only [Nd.len] at this; omega
        case rel => exact ⟨_, ls ++ [⟨a, t, k⟩], r1, i + 1, by go_num, rfl, by have := Hll.out; simp; omega, by have := Hll.out; simp only [Nd.len] at this; rw [← HL.out]; omega, Hkids.out, Hr1.out.1, Hr1.out.2.1, by have := Hr1.out.2.2; omega, Hst6.out⟩
theorem node07_calls (m : Nat) : NodeSays07 m := by
  induction m using Nat.strongRecOn with
  | ind m ih => exact node_step07 m ih
theorem cell_far07 {w : World} {b g i j : Nat} {u x : Value} (h : ¬ g = b) (hc : w.cell? ⟨g, j, none⟩ = some x) : (w.setCell ⟨b, i, none⟩ u).cell? ⟨g, j, none⟩ = some x :=
  (((Kp.refl (fun k => k = b) w).set (p := ⟨b, i, none⟩) (.inl rfl) u).cell hc h)
/-- In grammar: the argument's block bq, the result's b, the copy's bn, its rules' row v. -/
structure Cg07 (w0 : World) (bq b bn : Nat) (st : List UInt8) (g0 : Option Addr) (L ck : Nat) (v : Value) (ls : List (List UInt8 × Nod)) (w : World) : Prop where
  arg : Bk w bq 25 [.string ⟨st.toArray⟩, .slice g0 L ck]
  res : Bk w b 33 [.string ⟨#[]⟩, .slice none 0 0]
  out : Bk w bn 33 [.string ⟨st.toArray⟩, v]
  own : OwnA RuleR 4 w (bn + 1) 94 v ls
  bel : Below w0.heap.size w0 w
  bb : bq = w0.heap.size ∧ b = w0.heap.size + 1 ∧ bn = w0.heap.size + 2
section
variable {w0 : World} {bq b bn : Nat} {st : List UInt8} {g0 : Option Addr} {L ck : Nat} {v : Value} {ls : List (List UInt8 × Nod)} {w : World}
theorem Cg07.later (h : Cg07 w0 bq b bn st g0 L ck v ls w) {w' : World} (hb : Below w.heap.size w w') : Cg07 w0 bq b bn st g0 L ck v ls w' :=
  ⟨h.arg.below hb h.arg.lt, h.res.below hb h.res.lt, h.out.below hb h.out.lt, h.own.later RuleR.fit hb, bel_trans h.bel hb, h.bb⟩
theorem Cg07.app (h : Cg07 w0 bq b bn st g0 L ck v ls w) {x : List UInt8 × Nod} {gm : Option Addr} {cm : Nat} (hk : NdAt w (fun q => bn + 1 ≤ q ∧ q < w.heap.size ∧ v.ownBlock ≠ some q) gm x.2.kids 0) (hl : ls.length ≤ 1000000) (ty : TypeId) (q : Nat) {N : Nat} (hN : w.heap.size = N) :
    ∃ g2 cap2 w5, (Builtin.append_ #[31, 31] ty #[v, .slice (some ⟨N, 0, none⟩) 1 1]).run Try.prog ((w.alloc (.cells #[.string ⟨x.1.toArray⟩, .int .i64 x.2.kind, .string ⟨x.2.text.toArray⟩, .slice gm x.2.kids.len cm] 94)).drewN q) = .ok (.slice (some ⟨g2, 0, none⟩) (ls.length + 1) cap2) w5 ∧
      (w5.cell? ⟨bn, 1, none⟩ = some v ∧ w5.frozen? ⟨bn, 1, none⟩ = false ∧ bn < w5.heap.size ∧ Kp (fun k => v.ownBlock = some k) w w5) ∧
      Cg07 w0 bq b bn st g0 L ck (.slice (some ⟨g2, 0, none⟩) (ls.length + 1) cap2) (ls ++ [x]) (w5.setCell ⟨bn, 1, none⟩ (.slice (some ⟨g2, 0, none⟩) (ls.length + 1) cap2)) := by
  subst hN
  obtain ⟨b1, b2, b3⟩ := h.bb
  have hbl := h.out.lt
  obtain ⟨i0, hi0, y0, y1, y2⟩ := info_parts cpRuleInfo07
  obtain ⟨g2, cap2, w5, hrun, h2, h3, h4, h5⟩ := h.own.app (P := Try.prog) RuleR.fit 31 ty i0 _ 64 Try.underlying31 hi0 y0 y1 y2 rfl (by omega) (by omega) (by omega) hl x [.string ⟨x.1.toArray⟩, .int .i64 x.2.kind, .string ⟨x.2.text.toArray⟩, .slice gm x.2.kids.len cm] ⟨gm, cm, rfl, hk⟩ q
  have hs : ∀ k, v.ownBlock = some k → bn + 1 ≤ k := fun k hk => (h.own.lt k hk).1
  have hn5 := h.out.kp h3 (fun e => by have := hs _ e; omega)
  have hsz := h3.size
  have c2 := hn5.cell 1
  have f2 := hn5.free 1
  simp only [List.getElem?_cons_zero, List.getElem?_cons_succ] at c2
  refine ⟨g2, cap2, w5, hrun, ⟨c2, f2, hn5.lt, h3⟩, ?_⟩
  have hkn : Kp (fun k => k = bn) w5 (w5.setCell ⟨bn, 1, none⟩ (.slice (some ⟨g2, 0, none⟩) (ls.length + 1) cap2)) := (Kp.refl (fun k => k = bn) w5).set (p := ⟨bn, 1, none⟩) (.inl rfl) _
  refine ⟨(h.arg.kp h3 (fun e => by have := hs _ e; omega)).kp hkn (fun e => by omega), (h.res.kp h3 (fun e => by have := hs _ e; omega)).kp hkn (fun e => by omega), hn5.set 1 _, ?_, (h.bel.trans (h3.to_below (by omega) (fun k e => by have := hs k e; omega))).trans (hkn.to_below (by omega) (fun k e => by omega)), b1, b2, b3⟩
  exact h2.kp RuleR.fit hkn (fun k h1 _ e => by omega)
theorem Cg07.fin (h : Cg07 w0 bq b bn st g0 L ck v ls w) : ∃ ga ca, v = .slice ga ls.length ca ∧ isGram w0.heap.size (st, ls) (.agg #[.string ⟨st.toArray⟩, .slice ga ls.length ca]) ((w.setCell ⟨b, 0, none⟩ (.string ⟨st.toArray⟩)).setCell ⟨b, 1, none⟩ v) ∧ Below w0.heap.size w0 ((w.setCell ⟨b, 0, none⟩ (.string ⟨st.toArray⟩)).setCell ⟨b, 1, none⟩ v) := by
  obtain ⟨b1, b2, b3⟩ := h.bb
  have hbl := h.out.lt
  obtain ⟨ga, ca, hv, hc⟩ := h.own.lies RuleR.fit
  have hn : RulesM w (From (bn + 1) w) ga ls := by
    intro i x hx
    obtain ⟨g, y, e, h1, h2, ⟨gk, ck, rfl, hn⟩, h4⟩ := hc i x hx
    exact ⟨g, 0, gk, ck, e, ⟨h1, h2⟩, by rw [Nat.zero_add]; exact h4 0 _ rfl, by rw [Nat.zero_add]; exact h4 1 _ rfl, by rw [Nat.zero_add]; exact h4 2 _ rfl, by rw [Nat.zero_add]; exact h4 3 _ rfl, hn⟩
  have hkp : Kp (fun k => k = b) w ((w.setCell ⟨b, 0, none⟩ (.string ⟨st.toArray⟩)).setCell ⟨b, 1, none⟩ v) := ((Kp.refl (fun k => k = b) w).set (p := ⟨b, 0, none⟩) (.inl rfl) _).set (p := ⟨b, 1, none⟩) (.inl rfl) _
  refine ⟨ga, ca, hv, ⟨ga, ca, rfl, (hn.kp hkp (fun k hk e => by have := hk.1; omega)).mono fun k hk => ⟨by have := hk.1; omega, Nat.lt_of_lt_of_le hk.2 hkp.size⟩⟩, h.bel.trans (hkp.to_below (by omega) (fun k e => by omega))⟩
end
def CgRel07 (w0 : World) (bq b bn : Nat) (st : List UInt8) (rs : List (List UInt8 × Nod)) (g0 : Option Addr) (ck : Nat) (k : Nat) (v4 : Value) (w : World) : Prop :=
  ∃ (v : Value) (i : Nat), v4 = .int .i64 i ∧ k = rs.length - i ∧ i ≤ rs.length ∧ Cg07 w0 bq b bn st g0 rs.length ck v (rs.take i) w
set_option maxRecDepth 8000 in
set_option maxHeartbeats 64000000 in
theorem grammar07_calls (w : World) (st : List UInt8) (rs : List (List UInt8 × Nod)) (g0 : Option Addr) (ck : Nat) (hin : RulesIn w g0 rs) (hlen : rs.length ≤ 100000) (hfit : ∀ x ∈ rs, x.2.fits 100000) :
    Calls Try.prog 29 #[.agg #[.string ⟨st.toArray⟩, .slice g0 rs.length ck]] w fun e w' => ∃ v, e = .returned v ∧ isGram w.heap.size (st, rs) v w' ∧ Below w.heap.size w w' := by
  have hb0 := bel_trans (bel_trans (bel_new w (.cells #[.string ⟨st.toArray⟩, .slice g0 rs.length ck] 25)) (bel_new _ (.cells #[.string ⟨#[]⟩, .slice none 0 0] 33))) (bel_new _ (.cells #[.string ⟨st.toArray⟩, .slice none 0 0] 33))
  have k0 := ((Bk.new w 25 [.string ⟨st.toArray⟩, .slice g0 rs.length ck]).alloc (.cells #[.string ⟨#[]⟩, .slice none 0 0] 33)).alloc (.cells #[.string ⟨st.toArray⟩, .slice none 0 0] 33)
  have k1 := (Bk.new (w.alloc (.cells #[.string ⟨st.toArray⟩, .slice g0 rs.length ck] 25)) 33 [.string ⟨#[]⟩, .slice none 0 0]).alloc (.cells #[.string ⟨st.toArray⟩, .slice none 0 0] 33)
  have k2 := Bk.new ((w.alloc (.cells #[.string ⟨st.toArray⟩, .slice g0 rs.length ck] 25)).alloc (.cells #[.string ⟨#[]⟩, .slice none 0 0] 33)) 33 [.string ⟨st.toArray⟩, .slice none 0 0]
  rw [show (w.alloc (.cells #[.string ⟨st.toArray⟩, .slice g0 rs.length ck] 25)).heap.size = w.heap.size + 1 by simp] at k1
  rw [show ((w.alloc (.cells #[.string ⟨st.toArray⟩, .slice g0 rs.length ck] 25)).alloc (.cells #[.string ⟨#[]⟩, .slice none 0 0] 33)).heap.size = w.heap.size + 2 by simp] at k2
  have hst : Cg07 w w.heap.size (w.heap.size + 1) (w.heap.size + 2) st g0 rs.length ck (.slice none 0 0) [] _ := ⟨k0, k1, k2, OwnA.nil _ _ _ _ _, hb0, rfl, rfl, rfl⟩
  obtain ⟨wa, hwa⟩ : ∃ wa, wa = ((w.alloc (.cells #[.string ⟨st.toArray⟩, .slice g0 rs.length ck] 25)).alloc (.cells #[.string ⟨#[]⟩, .slice none 0 0] 33)).alloc (.cells #[.string ⟨st.toArray⟩, .slice none 0 0] 33) := ⟨_, rfl⟩
  obtain ⟨bq, hbq⟩ : ∃ bq, bq = w.heap.size := ⟨_, rfl⟩
  obtain ⟨b, hb⟩ : ∃ b, b = w.heap.size + 1 := ⟨_, rfl⟩
  obtain ⟨bn, hbn⟩ : ∃ bn, bn = w.heap.size + 2 := ⟨_, rfl⟩
  obtain ⟨L, hL⟩ : ∃ L, L = rs.length := ⟨_, rfl⟩
  have hL1 : L ≤ 100000 := by omega
  rw [← hwa, ← hbn, ← hb, ← hbq] at hst
  have Hst := hid hst
  have HB := hid (And.intro hbq (And.intro hb hbn))
  have HL := hid hL
  have Hin := hid hin
  have Hfit := hid hfit
  rw [← hL]
  rw [← hL] at hwa
  have HW := hid hwa
  clear hst hwa hbq hb hbn hL hin hfit hb0 k0 k1 k2 hlen
  go_enter Try.func29, Try.ntmps29
  go_upto_block 0 with fail
  rw [← HW.out, ← HB.out.2.2, ← HB.out.2.1, ← HB.out.1]
  go_wp2_with fail
  go_loopg [4] L (fun k v4 wr => CgRel07 w bq b bn st rs g0 ck k v4 wr)
  case atStart => exact ⟨_, 0, rfl, by rw [HL.out]; rfl, Nat.zero_le _, Hst.out⟩
  case round =>
    obtain ⟨v, i, rfl, hk, hil, hst⟩ := hrel
    have q2 := hst.arg.cell 1
    simp only [List.getElem?_cons_zero, List.getElem?_cons_succ] at q2
    rw [← HL.out] at q2 hil hk
    have hbq := hst.arg.lt
    by_cases hlt' : i < L
    · have hlt : (i : Int) < (L : Int) := by omega
      have hi0 : (0 : Int) ≤ (i : Int) := by omega
      have hir : i < rs.length := by rw [← HL.out]; exact hlt'
      obtain ⟨x, hx⟩ : ∃ x, x = rs[i]'hir := ⟨_, rfl⟩
      have hgx : rs[i]? = some x := by rw [hx]; exact List.getElem?_eq_getElem hir
      have htake : rs.take (i + 1) = rs.take i ++ [x] := by rw [hx]; exact List.take_succ_eq_append_getElem hir
      obtain ⟨g1, o1, gm, cm, hga, hg1, a0, a1, a2, a3, hk1⟩ := Hin.out i x hgx
      have hfx := Hfit.out x (List.mem_of_getElem? hgx)
      have al := (hst.bel.cell (p := ⟨g1, _, none⟩) hg1).trans a0
      have al1 := (hst.bel.cell (p := ⟨g1, _, none⟩) hg1).trans a1
      have al2 := (hst.bel.cell (p := ⟨g1, _, none⟩) hg1).trans a2
      have al3 := (hst.bel.cell (p := ⟨g1, _, none⟩) hg1).trans a3
      have hl1 : g1 < wr.heap.size := Nat.lt_of_lt_of_le hg1 hst.bel.size
      have hk1' : NdIn w gm x.2.kids 0 := hk1
      have hpc := fun wy (hy : Below wr.heap.size wr wy) => node07_calls x.2.kids.nodes wy x.2 gm cm rfl ((hk1'.later hst.bel).later hy) hfx
      simp only [nodeV] at hpc
      have Hpc := hid hpc
      have n2 := hst.out.cell 1
      simp only [List.getElem?_cons_zero, List.getElem?_cons_succ] at n2
      have hlbn := hst.out.lt
      have Hst1 := hid hst
      have Hk := hid hk
      have Htake := hid htake
      have Hilt := hid hlt'
      obtain ⟨kx, hkx⟩ : ∃ kx : Int, kx = x.2.kind := ⟨_, rfl⟩
      obtain ⟨tx, htx⟩ : ∃ tx, tx = x.2.text := ⟨_, rfl⟩
      obtain ⟨nx, hnx⟩ : ∃ nx, nx = x.1 := ⟨_, rfl⟩
      have Hx := hid (And.intro hkx (And.intro htx hnx))
      rw [← hkx] at al1
      rw [← htx] at al2
      rw [← hnx] at al
      clear hst hk hil htake hlt' hir hx hgx hfx a0 a1 a2 a3 hk1 hk1' hpc hkx htx hnx
      subst hga
      have hgbn : ¬ g1 = bn := by have := HB.out.2.2; omega
      have hg1w : g1 < w.heap.size := hg1
      have hqbn : ¬ bq = bn := by have := HB.out.2.2; have := HB.out.1; omega
      obtain ⟨M, hM⟩ : ∃ M, M = (rs.take i).length := ⟨_, rfl⟩
      have HM := hid hM
      have hM1 : M ≤ 1000000 := by rw [List.length_take] at hM; omega
      clear hM
      have hcall : Calls Try.prog 78 #[.agg #[.int .i64 kx, .string ⟨tx.toArray⟩, .slice gm x.2.kids.len cm]] wr.drew fun e w3 => ∃ gn cn, e = .returned (.agg #[.int .i64 kx, .string ⟨tx.toArray⟩, .slice gn x.2.kids.len cn]) ∧ w3.cell? ⟨bn, 1, none⟩ = some v ∧ bn < w3.heap.size ∧ (w3.cell? ⟨bq, 1, none⟩ = some (.slice (some ⟨g1, o1, none⟩) L ck) ∧ w3.cell? ⟨g1, o1 + i * 4, none⟩ = some (.string ⟨nx.toArray⟩) ∧ w3.cell? ⟨g1, o1 + i * 4 + 1, none⟩ = some (.int .i64 kx) ∧ w3.cell? ⟨g1, o1 + i * 4 + 2, none⟩ = some (.string ⟨tx.toArray⟩) ∧ w3.cell? ⟨g1, o1 + i * 4 + 3, none⟩ = some (.slice gm x.2.kids.len cm)) ∧ g1 < w3.heap.size ∧ bq < w3.heap.size ∧
          ∃ g2 cap2 w5, (Builtin.append_ #[31, 31] 31 #[v, .slice (some ⟨w3.heap.size, 0, none⟩) 1 1]).run Try.prog ((w3.alloc (.cells #[.string ⟨nx.toArray⟩, .int .i64 kx, .string ⟨tx.toArray⟩, .slice gn x.2.kids.len cn] 94)).drewN 0) = .ok (.slice (some ⟨g2, 0, none⟩) (M + 1) cap2) w5 ∧
          w5.cell? ⟨bn, 1, none⟩ = some v ∧ w5.frozen? ⟨bn, 1, none⟩ = false ∧ bn < w5.heap.size ∧ (w5.cell? ⟨bq, 1, none⟩ = some (.slice (some ⟨g1, o1, none⟩) L ck) ∧ w5.cell? ⟨g1, o1 + i * 4, none⟩ = some (.string ⟨nx.toArray⟩) ∧ w5.cell? ⟨g1, o1 + i * 4 + 1, none⟩ = some (.int .i64 kx) ∧ w5.cell? ⟨g1, o1 + i * 4 + 2, none⟩ = some (.string ⟨tx.toArray⟩) ∧ w5.cell? ⟨g1, o1 + i * 4 + 3, none⟩ = some (.slice gm x.2.kids.len cm)) ∧ Cg07 w bq b bn st (some ⟨g1, o1, none⟩) rs.length ck (.slice (some ⟨g2, 0, none⟩) (M + 1) cap2) (rs.take (i + 1)) (w5.setCell ⟨bn, 1, none⟩ (.slice (some ⟨g2, 0, none⟩) (M + 1) cap2)) := by
        have hd := (Below.refl wr.heap.size wr).drew
        obtain ⟨e1, e2, e3⟩ := Hx.out
        rw [e3] at al ⊢
        rw [e2] at al2 ⊢
        rw [e1] at al1 ⊢
        refine (Hpc.out _ hd).mono ?_
        rintro e w3 ⟨vv, rfl, ⟨gn, cn, rfl, hn3⟩, hb3⟩
        have hb3' := hd.trans hb3
        have hst3 := Hst1.out.later hb3'
        have n3 := hst3.out.cell 1
        have q3 := hst3.arg.cell 1
        simp only [List.getElem?_cons_zero, List.getElem?_cons_succ] at n3 q3
        rw [← HL.out] at q3
        have hl3 := Hst1.out.out.lt
        have hg3 : g1 < w3.heap.size := Nat.lt_of_lt_of_le hl1 hb3'.size
        have c0 := (hb3'.cell (p := ⟨g1, _, none⟩) hl1).trans al
        have c1 := (hb3'.cell (p := ⟨g1, _, none⟩) hl1).trans al1
        have c2 := (hb3'.cell (p := ⟨g1, _, none⟩) hl1).trans al2
        have c3 := (hb3'.cell (p := ⟨g1, _, none⟩) hl1).trans al3
        obtain ⟨g2, cap2, w5, hrun, ⟨m2, mf, ml, hkp5⟩, hst6⟩ := hst3.app (x := x) (cm := cn) (hn3.mono fun q hq => by
          have h1 : wr.heap.size ≤ q := hq.1
          exact ⟨by omega, hq.2, fun e => by have h2 := (Hst1.out.own.lt q e).2; omega⟩) (by rw [← HM.out]; exact hM1) 31 0 (N := w3.heap.size) rfl
        have hbq := hst3.bb
        have ho1 : ¬ v.ownBlock = some g1 := fun e => by have := (hst3.own.lt g1 e).1; omega
        have ho2 : ¬ v.ownBlock = some bq := fun e => by have := (hst3.own.lt bq e).1; omega
        rw [Htake.out]
        rw [← HM.out] at hrun hst6
        exact ⟨gn, cn, rfl, n3, hst3.out.lt, ⟨q3, c0, c1, c2, c3⟩, hg3, hst3.arg.lt, g2, cap2, w5, hrun, m2, mf, ml, ⟨hkp5.cell q3 ho2, hkp5.cell c0 ho1, hkp5.cell c1 ho1, hkp5.cell c2 ho1, hkp5.cell c3 ho1⟩, hst6⟩
      go_upto_region 5 with fail
      go_region_law
        (first
          | (have hrun0 := hrun; refine step_app (by rfl) _ _ _ (by rfl) v (.slice (some ⟨w3.heap.size, 0, none⟩) 1 1) _ w5 (by go_simp) (by go_simp) (by exact hrun) ?_)
          | (go_simp; go_at_call 78; refine hcall.mono ?_; rintro e w3 ⟨gn, cn, rfl, n3, hln3, ⟨c0, c1, c2, c3, c4⟩, hg3, hq3, g2, cap2, w5, hrun, m2, mf, ml, ⟨d0, d1, d2, d3, d4⟩, hst6⟩; have Hst6 := hid hst6; clear hst6))
      all_goals
        go_wp2_with fail
        go_roundg (L - (i + 1))
        case measure => have := Hk.out; have := Hilt.out; omega
        case rel => exact ⟨_, i + 1, by go_num, by rw [HL.out], by have := Hilt.out; rw [← HL.out]; omega, Hst6.out⟩
    · have hge : ¬ (i : Int) < (L : Int) := by omega
      have hiL : i = rs.length := by rw [← HL.out]; omega
      rw [hiL, List.take_length] at hst
      obtain ⟨ga, ca, rfl, hres⟩ := hst.fin
      have r0 := hst.res.cell 0
      have r1 := hst.res.cell 1
      have fr0 := hst.res.free 0
      have fr1 := hst.res.free 1
      have n0 := hst.out.cell 0
      have n1 := hst.out.cell 1
      rw [← HL.out] at n1 hres
      simp only [List.getElem?_cons_zero, List.getElem?_cons_succ] at r0 r1 n0 n1
      have hlb := hst.res.lt
      have hlbn := hst.out.lt
      have Hres := hid hres
      clear hst hk hil hiL hlt' hres
      go_wp2_with fail
      refine bodyPost_ret (v := .agg #[.string ⟨st.toArray⟩, .slice ga L ca]) (by simp [results, Try.results29, go_sem, r0, r1]) rfl ?_
      exact ⟨_, rfl, Hres.out⟩
end Go.Proofs.Ytjaampgpihicmaa
