/- Chapter 14: told: a tree copied to the document's. -/
import Derived.Test.YtaehooafdbaomaaTreeRead
import Derived.Test.YtaehooafdbaomaaTreeSame
namespace Go.Proofs.Ytaehooafdbaomaa
open Go.RowKit
attribute [local go_sem ↓] Go.wp_at_zero Go.wp_at_succ
attribute [local go_sem] frozen_alloc_lt

/-- A tree that is built, in its box; the answer's box. -/
structure KSt (TT : TypeId) (bt b6 : Nat) (n : Int) (v : Value) (ls : List (Int × Fo)) (w : World) : Prop where
  tb : Bk w bt TT [.int .i64 n, v]
  res : Bk w b6 TT [.int .i64 0, .slice none 0 0]
  own : OwnA TreR 2 w (bt + 1) TT v ls
  bb : b6 < bt
section
variable {TT TL : TypeId} {bt b6 : Nat} {n : Int} {v : Value} {ls : List (Int × Fo)} {w w' : World}
theorem KSt.kp {S : Nat → Prop} (h : KSt TT bt b6 n v ls w) (hk : Kp S w w') (hS : ∀ k, S k → k < bt ∧ k ≠ b6) : KSt TT bt b6 n v ls w' :=
  ⟨h.tb.kp hk (fun e => by have := (hS _ e).1; omega), h.res.kp hk (fun e => (hS _ e).2 rfl), h.own.kp TreR.fit hk (fun k h1 _ e => by have := (hS _ e).1; omega), h.bb⟩
theorem KSt.later (h : KSt TT bt b6 n v ls w) (hb : Below w.heap.size w w') : KSt TT bt b6 n v ls w' := h.kp (S := fun _ => False) (below_kpT hb) (fun _ e => e.elim)
theorem KSt.app (h : KSt TT bt b6 n v ls w) (hu : Try.prog.underlying TL = some (.slice TT)) (hinf : (Try.prog.info? TT).map (fun i => (i.zero, i.size, i.bytes)) = some (some (.agg #[.int .i64 0, .slice none 0 0]), 2, 32)) {a : Int × Fo} {gk : Option Addr} {ck : Nat} (hk : FoAt w (fun q => bt + 1 ≤ q ∧ q < w.heap.size ∧ v.ownBlock ≠ some q) gk a.2 0) (hl : ls.length ≤ 1000000) (ty : TypeId) (q : Nat) {N : Nat} (hN : w.heap.size = N) :
    ∃ g2 cap2 w5, (Builtin.append_ #[TL, TL] ty #[v, .slice (some ⟨N, 0, none⟩) 1 1]).run Try.prog ((w.alloc (.cells #[.int .i64 a.1, .slice gk a.2.len ck] TT)).drewN q) = .ok (.slice (some ⟨g2, 0, none⟩) (ls.length + 1) cap2) w5 ∧
      (w5.cell? ⟨bt, 1, none⟩ = some v ∧ w5.frozen? ⟨bt, 1, none⟩ = false ∧ bt < w5.heap.size) ∧
      KSt TT bt b6 n (.slice (some ⟨g2, 0, none⟩) (ls.length + 1) cap2) (ls ++ [a]) (w5.setCell ⟨bt, 1, none⟩ (.slice (some ⟨g2, 0, none⟩) (ls.length + 1) cap2)) ∧
      Kp (fun k => bt ≤ k) w (w5.setCell ⟨bt, 1, none⟩ (.slice (some ⟨g2, 0, none⟩) (ls.length + 1) cap2)) := by
  subst hN
  have hbb := h.bb
  have hbl := h.tb.lt
  obtain ⟨i0, hi0, y0, y1, y2⟩ := info_parts hinf
  obtain ⟨g2, cap2, w5, hrun, h2, h3, h4, h5⟩ := h.own.app (P := Try.prog) TreR.fit TL ty i0 _ 32 hu hi0 y0 y1 y2 rfl (by omega) (by omega) (by omega) hl a [.int .i64 a.1, .slice gk a.2.len ck] ⟨gk, ck, rfl, hk⟩ q
  have hs : ∀ k, v.ownBlock = some k → bt + 1 ≤ k := fun k hk => (h.own.lt k hk).1
  have hn5 := h.tb.kp h3 (fun e => by have := hs _ e; omega)
  have c1 := hn5.cell 1
  have f1 := hn5.free 1
  simp only [List.getElem?_cons_zero, List.getElem?_cons_succ] at c1
  have hkn : Kp (fun k => k = bt) w5 (w5.setCell ⟨bt, 1, none⟩ (.slice (some ⟨g2, 0, none⟩) (ls.length + 1) cap2)) := (Kp.refl (fun k => k = bt) w5).set (p := ⟨bt, 1, none⟩) (.inl rfl) _
  refine ⟨g2, cap2, w5, hrun, ⟨c1, f1, hn5.lt⟩, ⟨hn5.set 1 _, (h.res.kp h3 (fun e => by have := hs _ e; omega)).kp hkn (fun e => by omega), h2.kp TreR.fit hkn (fun k h1 _ e => by omega), h.bb⟩, ?_⟩
  exact (h3.mono fun k _ e => by have := hs _ e; omega).trans (hkn.mono fun k _ e => by omega)
/-- The kids, read. -/
theorem KSt.row (h : KSt TT bt b6 n v ls w) : ∃ ga ca, v = .slice ga ls.length ca ∧ FoAt w (fun k => bt + 1 ≤ k ∧ k < w.heap.size) ga (Fo.ofList ls) 0 := by
  obtain ⟨ga, ca, rfl, hlies⟩ := h.own.lies TreR.fit
  refine ⟨ga, ca, rfl, FoAt.row fun j a hj => ?_⟩
  obtain ⟨g, x, e, h1, h2, h3, h4⟩ := hlies j a hj
  exact ⟨g, x, e, ⟨h1, h2⟩, h3, fun q u hu => by rw [Nat.zero_add]; exact h4 q u hu⟩
end
theorem rtreeInfo : (Try.prog.info? 50).map (fun i => (i.zero, i.size, i.bytes)) = some (some (.agg #[.int .i64 0, .slice none 0 0]), 2, 32) := by kernel_rfl
/-- A tree that was made: all its blocks are new. -/
def ToldT (p : Int) (kids : Fo) (w : World) (e : Ending) (w' : World) : Prop := ∃ gk ck, e = .returned (.agg #[.int .i64 p, .slice gk kids.len ck]) ∧ FoAt w' (fun k => w.heap.size ≤ k ∧ k < w'.heap.size) gk kids 0 ∧ Below w.heap.size w w'
def ToAt (w0 : World) (b1 bt b2 : Nat) (p : Int) (kids : Fo) (gk : Option Addr) (L : Nat) (g : Nat) (v4 : Value) (w : World) : Prop :=
  ∃ (i : Nat) (v : Value) (ls : List (Int × Fo)) (r : Fo), v4 = .int .i64 i ∧ i + r.len = L ∧ ls.length = i ∧ (Fo.ofList ls).app r = kids ∧ g = r.len ∧ FoAt w0 (fun k => k < b1) gk r i ∧ KSt 50 bt b2 p v ls w ∧ Below bt w0 w
def ToldSays (m : Nat) : Prop := ∀ (p : Int) (kids : Fo) (w : World) (gk : Option Addr) (ck : Nat), kids.nodes = m → kids.nodes ≤ 900000 → FoAt w (fun k => k < w.heap.size) gk kids 0 →
    Calls Try.prog 23 #[.agg #[.int .i64 p, .slice gk kids.len ck]] w (ToldT p kids w)
set_option maxRecDepth 8000 in
set_option maxHeartbeats 8000000 in
theorem told_step (m : Nat) (ih : ∀ m', m' < m → ToldSays m') : ToldSays m := by
  intro p kids w gk ck hm hmax hat
  have hlen := kids.len_le
  have hk1 := ((Bk.new w 45 [.int .i64 p, .slice gk kids.len ck]).alloc (.cells #[.int .i64 0, .slice none 0 0] 50)).alloc (.cells #[.int .i64 p, .slice none 0 0] 50)
  have hk2 := (bk_at (Bk.new (w.alloc (.cells #[.int .i64 p, .slice gk kids.len ck] 45)) 50 [.int .i64 0, .slice none 0 0]) (show _ = w.heap.size + 1 by simp)).alloc (.cells #[.int .i64 p, .slice none 0 0] 50)
  have hk3 := bk_at (Bk.new ((w.alloc (.cells #[.int .i64 p, .slice gk kids.len ck] 45)).alloc (.cells #[.int .i64 0, .slice none 0 0] 50)) 50 [.int .i64 p, .slice none 0 0]) (show _ = w.heap.size + 1 + 1 by simp)
  have hb0 : Below w.heap.size w (((w.alloc (.cells #[.int .i64 p, .slice gk kids.len ck] 45)).alloc (.cells #[.int .i64 0, .slice none 0 0] 50)).alloc (.cells #[.int .i64 p, .slice none 0 0] 50)) := bel_al (bel_al (bel_al (bel_id w) _) _) _
  have hat0 := hat.below hb0 (fun _ h => h)
  obtain ⟨wa, hwa⟩ : ∃ wa, wa = (((w.alloc (.cells #[.int .i64 p, .slice gk kids.len ck] 45)).alloc (.cells #[.int .i64 0, .slice none 0 0] 50)).alloc (.cells #[.int .i64 p, .slice none 0 0] 50)) := ⟨_, rfl⟩
  obtain ⟨b1, hb1⟩ : ∃ b1, b1 = w.heap.size := ⟨_, rfl⟩
  obtain ⟨b2, hb2⟩ : ∃ b2, b2 = w.heap.size + 1 := ⟨_, rfl⟩
  obtain ⟨bt, hbt⟩ : ∃ bt, bt = w.heap.size + 1 + 1 := ⟨_, rfl⟩
  rw [← hwa] at hk1 hk2 hk3 hb0 hat0
  rw [← hb1] at hk1 hat0
  rw [← hb2] at hk2
  rw [← hbt] at hk3
  obtain ⟨L, hL⟩ : ∃ L, L = kids.len := ⟨_, rfl⟩
  rw [← hL] at hk1 hwa hlen ⊢
  have hbtl : bt < wa.heap.size := hk3.lt
  have hst0 : KSt 50 bt b2 p (.slice none 0 0) [] wa := ⟨hk3, hk2, OwnA.nil _ _ _ _ _, by omega⟩
  have hlm : (L : Int) ≤ 900000 := by omega
  have h12 : b1 < bt := by omega
  have Hwa := hid (And.intro hwa (And.intro hb1 (And.intro hb2 hbt)))
  have HL := hid hL
  have Hk1 := hid hk1
  have Hst0 := hid hst0
  have Hb0 := hid hb0
  have Hat0 := hid hat0
  have Hm := hid hm
  have Hlen := hid (And.intro hlen hmax)
  have Hw := hid (show w.heap.size ≤ b1 ∧ w.heap.size ≤ b2 ∧ w.heap.size ≤ bt by omega)
  have Ih := hid ih
  have z0 := hk1.cell 0
  have z1 := hk1.cell 1
  simp only [List.getElem?_cons_zero, List.getElem?_cons_succ] at z0 z1
  clear hwa hb1 hb2 hbt hL hk1 hk2 hk3 hst0 hb0 hat0 hm hlen hmax ih hat
  go_enter Try.func23, Try.ntmps23
  go_upto_region 3 with fail
  rw [← Hwa.out.1, ← Hwa.out.2.2.2, ← Hwa.out.2.2.1, ← Hwa.out.2.1]
  clear z0
  go_wp2_with fail
  go_loopg [4] L (fun g v4 wr => ToAt wa b1 bt b2 p kids gk L g v4 wr)
  case atStart => exact ⟨0, _, [], kids, rfl, by rw [Nat.zero_add]; exact HL.out.symm, rfl, rfl, HL.out, Hat0.out, Hst0.out, Below.refl _ _⟩
  case round =>
    obtain ⟨i, v, ls, r, rfl, hi, hll, happ, hg, hr, hst, hbw⟩ := hrel
    have Hg := hid hg
    have Hst := hid hst
    have Hbw := hid hbw
    have Hll := hid hll
    have Happ := hid happ
    have y1 := (hbw.cell (p := ⟨b1, _, none⟩) h12).trans z1
    have hbtr := hst.tb.lt
    clear hg hll happ
    cases r with
    | nil =>
      simp only [Fo.len, Nat.add_zero] at hi
      have hge : ¬ (i : Int) < (L : Int) := by omega
      obtain ⟨ga, ca, rfl, hrow⟩ := hst.row
      have u0 := hst.tb.cell 0
      have u1 := hst.tb.cell 1
      have r0 := hst.res.cell 0
      have r1 := hst.res.cell 1
      have fr0 := hst.res.free 0
      have fr1 := hst.res.free 1
      have hlr := hst.res.lt
      simp only [List.getElem?_cons_zero, List.getElem?_cons_succ] at u0 u1 r0 r1
      have Hrow := hid hrow
      clear hst hbw hrow hi
      go_wp2_with fail
      refine bodyPost_ret (v := .agg #[.int .i64 p, .slice ga ls.length ca]) (by simp [results, Try.results23, go_sem, r0, r1]) rfl ?_
      have hks : Kp (fun k => k = b2) wr ((wr.setCell ⟨b2, 0, none⟩ (.int .i64 p)).setCell ⟨b2, 1, none⟩ (.slice ga ls.length ca)) := ((Kp.refl (fun k => k = b2) wr).set (p := ⟨b2, 0, none⟩) (.inl rfl) _).set (p := ⟨b2, 1, none⟩) (.inl rfl) _
      have hbb := Hst.out.bb
      have hkk : Fo.ofList ls = kids := by rw [← Happ.out, Fo.app_nil']
      have hll : ls.length = kids.len := by rw [← hkk, Fo.ofList_len]
      rw [hkk] at Hrow
      refine ⟨ga, ca, by rw [hll], (FoAt.kp hks (fun k hk e => by have := hk.1; omega) Hrow.out).mono fun k hk => ⟨by have := hk.1; have := Hw.out.2.2; omega, Nat.lt_of_lt_of_le hk.2 hks.size⟩, ?_⟩
      exact (Hb0.out.trans (Hbw.out.mono Hw.out.2.2)).trans (hks.to_below (Nat.le_trans Hb0.out.size Hbw.out.size) (fun k e => by have := Hw.out.2.1; omega))
    | cons q k r' =>
      simp only [Fo.len] at hi
      unfold FoAt at hr
      obtain ⟨⟨g1, o1, ga', ca', rfl, hg1, c0, c1, hk'⟩, hr'⟩ := hr
      have hlt : (i : Int) < (L : Int) := by omega
      have hi0 : (0 : Int) ≤ (i : Int) := by omega
      have c0' := (hbw.cell (p := ⟨g1, _, none⟩) (Nat.lt_trans hg1 h12)).trans c0
      have c1' := (hbw.cell (p := ⟨g1, _, none⟩) (Nat.lt_trans hg1 h12)).trans c1
      have u1 := hst.tb.cell 1
      simp only [List.getElem?_cons_zero, List.getElem?_cons_succ] at u1
      have hkn : k.nodes < m ∧ k.nodes ≤ 900000 := by
        have h1 := congrArg Fo.nodes Happ.out
        rw [Fo.nodes_app, Fo.nodes] at h1
        have := Hm.out
        have := Hlen.out
        omega
      have hwr : Below wr.heap.size wr wr.drew := (Below.refl _ _).drew
      have hka : FoAt wr.drew (fun q => q < wr.drew.heap.size) ga' k 0 := ((hk'.below ((hbw.mono (Nat.le_of_lt h12)).drew) (fun _ h => h)).mono (fun q (hq : q < b1) => by show q < wr.heap.size; omega))
      have hc := Ih.out k.nodes hkn.1 q k wr.drew ga' ca' rfl hkn.2 hka
      have hcall : Calls Try.prog 23 #[.agg #[.int .i64 q, .slice ga' k.len ca']] wr.drew fun e w3 => ∃ gk ck, e = .returned (.agg #[.int .i64 q, .slice gk k.len ck]) ∧ w3.cell? ⟨bt, 1, none⟩ = some v ∧ bt < w3.heap.size ∧
          ∃ g2 cap2 w5, (Builtin.append_ #[48, 48] 48 #[v, .slice (some ⟨w3.heap.size, 0, none⟩) 1 1]).run Try.prog ((w3.alloc (.cells #[.int .i64 q, .slice gk k.len ck] 50)).drewN 0) = .ok (.slice (some ⟨g2, 0, none⟩) (ls.length + 1) cap2) w5 ∧
          w5.cell? ⟨bt, 1, none⟩ = some v ∧ w5.frozen? ⟨bt, 1, none⟩ = false ∧ bt < w5.heap.size ∧ Hid (KSt 50 bt b2 p (.slice (some ⟨g2, 0, none⟩) (ls.length + 1) cap2) (ls ++ [(q, k)]) (w5.setCell ⟨bt, 1, none⟩ (.slice (some ⟨g2, 0, none⟩) (ls.length + 1) cap2)) ∧ Below bt wa (w5.setCell ⟨bt, 1, none⟩ (.slice (some ⟨g2, 0, none⟩) (ls.length + 1) cap2))) := by
        refine hc.mono ?_
        rintro e w3 ⟨gk3, ck3, rfl, hfo, hb3⟩
        have hb13 : Below wr.heap.size wr w3 := hwr.trans hb3
        have hst3 := Hst.out.later hb13
        have n3 := hst3.tb.cell 1
        simp only [List.getElem?_cons_zero, List.getElem?_cons_succ] at n3
        obtain ⟨g2, cap2, w5, hrun, ⟨m2, mf, ml⟩, hst6, hk6⟩ := hst3.app (TL := 48) Try.underlying48 rtreeInfo (a := (q, k)) (ck := ck3) (hfo.mono fun x hx => by
          have h1 : wr.heap.size ≤ x := hx.1
          exact ⟨by omega, hx.2, fun e => by have h2 := (Hst.out.own.lt x e).2; omega⟩) (by have := Hll.out; omega) 48 0 (N := w3.heap.size) rfl
        exact ⟨gk3, ck3, rfl, n3, hst3.tb.lt, g2, cap2, w5, hrun, m2, mf, ml, hst6, (Hbw.out.trans (hb13.mono (Nat.le_of_lt hbtr))).trans (hk6.to_below (Nat.le_of_lt hst3.tb.lt) (fun k e => e))⟩
      have Hi := hid hi
      have Hr' := hid hr'
      obtain ⟨nl, hnl⟩ : ∃ nl, nl = ls.length := ⟨_, rfl⟩
      rw [← hnl] at hcall
      clear hc hka hkn hi hr' c0 c1 hk' hst hbw hwr hnl
      go_upto_region 5 with fail
      go_region_law
        (first
          | (have hrun0 := hrun; refine step_app (by rfl) _ _ _ (by rfl) v (.slice (some ⟨w3.heap.size, 0, none⟩) 1 1) _ w5 (by go_simp) (by go_simp) (by exact hrun) ?_)
          | (go_simp; go_at_call 23; refine hcall.mono ?_; rintro e w3 ⟨gk3, ck3, rfl, n3, hln3, g2, cap2, w5, hrun, m2, mf, ml, hst6⟩))
      all_goals
        go_wp2_with fail
        go_roundg r'.len
        case measure => have := Hg.out; rw [Fo.len] at this; omega
        case rel => exact ⟨i + 1, _, ls ++ [(q, k)], r', by go_num, by have := Hi.out; omega, by rw [List.length_append, Hll.out]; rfl, by rw [Fo.ofList_snoc]; exact Happ.out, rfl, Hr'.out, hst6.out.1, hst6.out.2⟩
theorem told_calls (m : Nat) : ToldSays m := by
  induction m using Nat.strongRecOn with
  | ind m ih => exact told_step m ih
end Go.Proofs.Ytaehooafdbaomaa
