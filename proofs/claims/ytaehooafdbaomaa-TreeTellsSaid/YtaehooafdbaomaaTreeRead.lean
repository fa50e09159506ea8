/- Chapter 14 (tree): the reader of a tree. -/
import Derived.Test.YtaehooafdbaomaaTreeSpec
import Derived.Test.YtaehooafdbaomaaOctGet
import Derived.Test.YtaehooafdbaomaaOwnA
import Derived.Deep.DeepCutAuto
namespace Go.Proofs.Ytaehooafdbaomaa
open Go.RowKit
attribute [local go_sem ↓] Go.wp_at_zero Go.wp_at_succ
attribute [local go_sem] frozen_alloc_lt

def TreR (w : World) (D : Nat → Prop) (a : Int × Fo) (x : List Value) : Prop := ∃ gk ck, x = [.int .i64 a.1, .slice gk a.2.len ck] ∧ FoAt w D gk a.2 0
theorem TreR.fit : FitA TreR 2 where
  len := by rintro w D a x ⟨_, _, rfl, _⟩; rfl
  mono := by
    rintro w D D' a x hD ⟨gk, ck, h1, h2⟩
    exact ⟨gk, ck, h1, FoAt.mono hD h2⟩
  kp := by
    rintro w w' D S a x hk hd ⟨gk, ck, h1, h2⟩
    exact ⟨gk, ck, h1, FoAt.kp hk hd h2⟩
  one := by
    rintro w D a x ⟨gk, ck, rfl, _⟩ u hu
    simp at hu
    rcases hu with rfl | rfl <;> rfl
/-- A forest out of a row. -/
theorem FoAt.row {w : World} {D : Nat → Prop} {ga : Option Addr} : ∀ {ls : List (Int × Fo)} {i : Nat}, (∀ (j : Nat) (a : Int × Fo), ls[j]? = some a → ∃ g x, ga = some ⟨g, 0, none⟩ ∧ D g ∧ TreR w D a x ∧ ∀ k u, x[k]? = some u → w.cell? ⟨g, (i + j) * 2 + k, none⟩ = some u) → FoAt w D ga (Fo.ofList ls) i
  | [], _, _ => trivial
  | a :: r, i, h => by
    unfold Fo.ofList FoAt
    obtain ⟨g, x, h1, h2, ⟨gk, ck, h3, h4⟩, h5⟩ := h 0 a rfl
    subst h3
    refine ⟨⟨g, 0, gk, ck, h1, h2, ?_, ?_, h4⟩, FoAt.row fun j b hj => ?_⟩
    · have := h5 0 _ rfl
      rw [Nat.zero_add]
      simpa using this
    · have := h5 1 _ rfl
      rw [Nat.zero_add]
      simpa using this
    · obtain ⟨g', x', e1, e2, e3, e4⟩ := h (j + 1) b (by simpa using hj)
      exact ⟨g', x', e1, e2, e3, fun k u hu => by have := e4 k u hu; rwa [show i + 1 + j = i + (j + 1) by omega]⟩
theorem below_kpT {S : Nat → Prop} {w w' : World} (hb : Below w.heap.size w w') : Kp S w w' := ⟨hb.os, hb.tape, hb.output, hb.size, fun k hk _ => hb.block k hk⟩
def rdCells (G : Gr) (gn gt gp : Option Addr) (cn ct cp : Nat) (l : List UInt8) (c : Nat) : List Value := [.int .i64 G.start, .int .i64 G.rules, .slice gn G.names.length cn, .slice gt G.terms.length ct, .slice gp G.prods.length cp, .string ⟨l.toArray⟩, .int .i64 c]
def stopV (e : Nat) : Value := .iface 109 (.agg #[.int .i64 e])
def RdPost (G : Gr) (gn gt gp : Option Addr) (cn ct cp br : Nat) (w : World) (r : RR (Int × Fo)) (e : Ending) (w' : World) : Prop := Kp (fun k => k = br) w w' ∧ match r with
  | .ok a l' c' => (∃ gk ck, e = .returned (.agg #[.int .i64 a.1, .slice gk a.2.len ck]) ∧ FoAt w' (fun k => w.heap.size ≤ k ∧ k < w'.heap.size) gk a.2 0) ∧ Bk w' br 113 (rdCells G gn gt gp cn ct cp l' c')
  | .bad e0 => e = .panicked [{ v := stopV e0, recovered := false }]
theorem RdPost.bad {G : Gr} {gn gt gp : Option Addr} {cn ct cp br : Nat} {w w' : World} {r : RR (Int × Fo)} {e0 : Nat} (hr : r = .bad e0) (hk : Kp (fun k => k = br) w w') : RdPost G gn gt gp cn ct cp br w r (.panicked [{ v := stopV e0, recovered := false }]) w' := by
  subst hr
  exact ⟨hk, rfl⟩
theorem treeInfoR : (Try.prog.info? 45).map (fun i => (i.zero, i.size, i.bytes)) = some (some (.agg #[.int .i64 0, .slice none 0 0]), 2, 32) := by kernel_rfl
theorem ext_drop (l : List UInt8) (k : Nat) : (⟨l.toArray⟩ : ByteArray).extract k l.length = ⟨(l.drop k).toArray⟩ := by
  apply ByteArray.ext
  rw [ByteArray.data_extract]
  simp [List.take_of_length_le]
/-- In tree: the reader, the tree that is built, the result's cell. -/
structure RdSt (G : Gr) (gn gt gp : Option Addr) (cn ct cp : Nat) (wg w0 : World) (br bt b6 : Nat) (n : Int) (l : List UInt8) (c : Nat) (v : Value) (ls : List (Int × Fo)) (w : World) : Prop where
  rd : Bk w br 113 (rdCells G gn gt gp cn ct cp l c)
  tb : Bk w bt 45 [.int .i64 n, v]
  res : Bk w b6 45 [.int .i64 0, .slice none 0 0]
  own : OwnA TreR 2 w (bt + 1) 45 v ls
  kp : Kp (fun k => k = br) w0 w
  bb : b6 = w0.heap.size ∧ b6 < bt ∧ br < w0.heap.size ∧ wg.heap.size ≤ br
section
variable {G : Gr} {gn gt gp : Option Addr} {cn ct cp : Nat} {wg w0 : World} {br bt b6 : Nat} {n : Int} {l : List UInt8} {c : Nat} {v : Value} {ls : List (Int × Fo)} {w w' : World}
/-- A kid was read. -/
theorem RdSt.called (h : RdSt G gn gt gp cn ct cp wg w0 br bt b6 n l c v ls w) (hk : Kp (fun k => k = br) w w') {l' : List UInt8} {c' : Nat} (hb : Bk w' br 113 (rdCells G gn gt gp cn ct cp l' c')) : RdSt G gn gt gp cn ct cp wg w0 br bt b6 n l' c' v ls w' := by
  obtain ⟨b1, b2, b3, b4⟩ := h.bb
  exact ⟨hb, h.tb.kp hk (fun e => by omega), h.res.kp hk (fun e => by omega), h.own.kp TreR.fit hk (fun k h1 _ e => by omega), h.kp.trans hk, b1, b2, b3, b4⟩
theorem RdSt.app (h : RdSt G gn gt gp cn ct cp wg w0 br bt b6 n l c v ls w) {a : Int × Fo} {gk : Option Addr} {ck : Nat} (hk : FoAt w (fun q => bt + 1 ≤ q ∧ q < w.heap.size ∧ v.ownBlock ≠ some q) gk a.2 0) (hl : ls.length ≤ 1000000) (ty : TypeId) (q : Nat) {N : Nat} (hN : w.heap.size = N) :
    ∃ g2 cap2 w5, (Builtin.append_ #[43, 43] ty #[v, .slice (some ⟨N, 0, none⟩) 1 1]).run Try.prog ((w.alloc (.cells #[.int .i64 a.1, .slice gk a.2.len ck] 45)).drewN q) = .ok (.slice (some ⟨g2, 0, none⟩) (ls.length + 1) cap2) w5 ∧
      (w5.cell? ⟨bt, 1, none⟩ = some v ∧ w5.frozen? ⟨bt, 1, none⟩ = false ∧ bt < w5.heap.size) ∧
      RdSt G gn gt gp cn ct cp wg w0 br bt b6 n l c (.slice (some ⟨g2, 0, none⟩) (ls.length + 1) cap2) (ls ++ [a]) (w5.setCell ⟨bt, 1, none⟩ (.slice (some ⟨g2, 0, none⟩) (ls.length + 1) cap2)) := by
  subst hN
  obtain ⟨b1, b2, b3, b4⟩ := h.bb
  have hbl := h.tb.lt
  obtain ⟨i0, hi0, y0, y1, y2⟩ := info_parts treeInfoR
  obtain ⟨g2, cap2, w5, hrun, h2, h3, h4, h5⟩ := h.own.app (P := Try.prog) TreR.fit 43 ty i0 _ 32 Try.underlying43 hi0 y0 y1 y2 rfl (by omega) (by omega) (by omega) hl a [.int .i64 a.1, .slice gk a.2.len ck] ⟨gk, ck, rfl, hk⟩ q
  have hs : ∀ k, v.ownBlock = some k → bt + 1 ≤ k := fun k hk => (h.own.lt k hk).1
  have hn5 := h.tb.kp h3 (fun e => by have := hs _ e; omega)
  have c1 := hn5.cell 1
  have f1 := hn5.free 1
  simp only [List.getElem?_cons_zero, List.getElem?_cons_succ] at c1
  have hkn : Kp (fun k => k = bt) w5 (w5.setCell ⟨bt, 1, none⟩ (.slice (some ⟨g2, 0, none⟩) (ls.length + 1) cap2)) := (Kp.refl (fun k => k = bt) w5).set (p := ⟨bt, 1, none⟩) (.inl rfl) _
  refine ⟨g2, cap2, w5, hrun, ⟨c1, f1, hn5.lt⟩, (h.rd.kp h3 (fun e => by have := hs _ e; omega)).kp hkn (fun e => by omega), hn5.set 1 _, (h.res.kp h3 (fun e => by have := hs _ e; omega)).kp hkn (fun e => by omega), h2.kp TreR.fit hkn (fun k h1 _ e => by omega), ?_, b1, b2, b3, b4⟩
  have hk0 : Kp (fun k => w0.heap.size ≤ k) w (w5.setCell ⟨bt, 1, none⟩ (.slice (some ⟨g2, 0, none⟩) (ls.length + 1) cap2)) := (h3.mono fun k _ e => by have := hs _ e; omega).trans (hkn.mono fun k _ e => by omega)
  exact ((h.kp.mono (S' := fun k => k = br ∨ w0.heap.size ≤ k) fun k _ e => .inl e).trans (hk0.mono fun k _ e => .inr e)).mono fun k hk e => e.elim id (fun e => by omega)
end
def Right2Said (wg w : World) (xs : List Int) (e : Ending) (w' : World) : Prop := ∃ ga ca, e = .returned (.slice ga xs.length ca) ∧ RowI wg wg.heap.size ga xs ∧ Below w.heap.size w w'
set_option maxHeartbeats 1000000 in
theorem right2_calls (w wg : World) (G : Gr) (gn gt gp : Option Addr) (cn ct cp : Nat) (h : ChIn wg G gn gt gp) (hbg : Below wg.heap.size wg w) (p : Int) (hp : p < (G.prods.length : Int)) : Calls Try.prog 110 #[.agg #[.int .i64 G.start, .int .i64 G.rules, .slice gn G.names.length cn, .slice gt G.terms.length ct, .slice gp G.prods.length cp], .int .i64 p] w (Right2Said wg w (Tr.rightS G p)) := by
  have hb0 : Below w.heap.size w (w.alloc (.cells #[.int .i64 G.start, .int .i64 G.rules, .slice gn G.names.length cn, .slice gt G.terms.length ct, .slice gp G.prods.length cp] 30)) := bel_al (bel_id w) _
  by_cases c : p < 0
  · have e : Tr.rightS G p = [] := by unfold Tr.rightS; rw [if_pos c]
    rw [e]
    clear e h hbg
    go_enter Try.func110, Try.ntmps110
    go_wp2
    go_ret
    exact ⟨none, 0, rfl, fun j hj => by simp at hj, hb0⟩
  · obtain ⟨q, rfl⟩ := Int.eq_ofNat_of_zero_le (show 0 ≤ p by omega)
    have hq : q < G.prods.length := by omega
    have hx : G.prods[q]? = some G.prods[q] := List.getElem?_eq_getElem hq
    have e : Tr.rightS G (q : Int) = G.prods[q].2 := by unfold Tr.rightS; rw [if_neg c, Int.toNat_natCast, List.getD, hx]; rfl
    obtain ⟨g, off, gr, cr, rfl, hg, e0, e1, hr⟩ := h.g.p q _ hx
    obtain ⟨l, hl⟩ : ∃ l, l = G.prods[q].2 := ⟨_, rfl⟩
    rw [← hl] at e e1 hr
    rw [e]
    have e1' := (hb0.cell (p := ⟨g, _, none⟩) (Nat.lt_of_lt_of_le hg hbg.size)).trans ((hbg.cell (p := ⟨g, _, none⟩) hg).trans e1)
    have h3 := h.h3
    have Hr := hid hr
    clear e h hx hr e0 hl e1 hbg
    go_enter Try.func110, Try.ntmps110
    go_wp2
    go_ret
    exact ⟨gr, cr, rfl, Hr.out, hb0⟩
def RdRel (G : Gr) (gn gt gp : Option Addr) (cn ct cp : Nat) (wg w0 : World) (br bt b6 f lm : Nat) (n : Int) (xs : List Int) (R : RR (Int × Fo)) (k : Nat) (v86 : Value) (w : World) : Prop :=
  ∃ (i : Nat) (v : Value) (ls : List (Int × Fo)) (l : List UInt8) (c : Nat), v86 = .int .i64 i ∧ i ≤ xs.length ∧ k = xs.length - i ∧ RdSt G gn gt gp cn ct cp wg w0 br bt b6 n l c v ls w ∧ Tr.contK n ls (Tr.readK (Tr.readT G f) (xs.drop i) l c) = R ∧ l.length ≤ lm ∧ c ≤ 65536 ∧ ls.length = i
def ReadSays (G : Gr) (gn gt gp : Option Addr) (cn ct cp : Nat) (f : Nat) : Prop := ∀ (sy : Int) (an : Bool) (l : List UInt8) (c br : Nat) (w wg : World), l.length < f → l.length ≤ 1000000000 → c ≤ 65536 → ChIn wg G gn gt gp → wg.heap.size ≤ br → Below wg.heap.size wg w → Bk w br 113 (rdCells G gn gt gp cn ct cp l c) →
  Calls Try.prog 67 #[.pointer (some ⟨br, 0, none⟩), .int .i64 sy, .bool an] w (RdPost G gn gt gp cn ct cp br w (Tr.readT G f (if an = true then none else some sy) l c))
section
variable {G : Gr} {gn gt gp : Option Addr} {cn ct cp : Nat}
set_option maxRecDepth 8000 in
set_option maxHeartbeats 4000000 in
theorem read_step (f : Nat) (ih : ReadSays G gn gt gp cn ct cp f) : ReadSays G gn gt gp cn ct cp (f + 1) := by
  intro sy an l c br w wg hlf hlm hc hG hbr hbw hbk
  obtain ⟨R, hR⟩ : ∃ R, R = Tr.readT G (f + 1) (if an = true then none else some sy) l c := ⟨_, rfl⟩
  rw [← hR]
  have hb0 := (Below.refl w.heap.size w).alloc (Nat.le_refl _) (.cells #[.int .i64 0, .slice none 0 0] 45)
  have hres := Bk.new w 45 [.int .i64 0, .slice none 0 0]
  have hbk0 := hbk.alloc (.cells #[.int .i64 0, .slice none 0 0] 45)
  obtain ⟨wa, hwa⟩ : ∃ wa, wa = w.alloc (.cells #[.int .i64 0, .slice none 0 0] 45) := ⟨_, rfl⟩
  obtain ⟨b6, hb6⟩ : ∃ b6, b6 = w.heap.size := ⟨_, rfl⟩
  rw [← hwa] at hb0 hres hbk0
  rw [← hb6] at hres
  have hget := get_calls ⟨l.toArray⟩ wa (by show l.toArray.size ≤ _; simp; omega)
  rw [show (⟨l.toArray⟩ : ByteArray).data.toList = l by simp] at hget
  have x5 := hbk0.cell 5
  have hlb := hbk0.lt
  simp only [rdCells, List.getElem?_cons_zero, List.getElem?_cons_succ] at x5
  have Hwa := hid hwa
  have Hb6 := hid hb6
  have Hb0 := hid hb0
  have Hres := hid hres
  have Hbk0 := hid hbk0
  have HG := hid (And.intro hG (And.intro hbr hbw))
  have Hbr := hid hbk.lt
  have HR := hid hR
  have Hl := hid (And.intro hlf (And.intro hlm hc))
  clear hwa hb6 hb0 hres hbk0 hG hbr hbw hbk hR hlf hlm hc
  cases hgs : Oct.getS l with
  | bad e0 =>
    rw [hgs] at hget
    simp only [Oct.goV] at hget
    have He := hid (show R = .bad e0 by rw [HR.out, Tr.readT, hgs])
    have hne : ¬ (e0 : Int) = 0 := by have := Oct.getS_code hgs; omega
    have hneb : ((e0 : Int) != 0) = true := by simpa using hne
    clear hgs
    go_enter Try.func67, Try.ntmps67
    go_upto_region 1 with fail
    rw [← Hwa.out, ← Hb6.out]
    go_wp2_with (go_at_call 107; refine hget.mono ?_; rintro e w2 ⟨rfl, m, rfl⟩)
    exact ⟨rfl, RdPost.bad He.out ((below_kpT Hb0.out).drewN m)⟩
  | ok n k =>
    obtain ⟨hput, hnm, hk0, hkl, hk8⟩ := Oct.put_getS hgs
    rw [hgs] at hget
    simp only [Oct.goV] at hget
    have hRk : R = if Tr.thereB G n = false then .bad 10 else if Tr.kindOk G (if an = true then none else some sy) n = false then .bad 7 else if c = 65536 then .bad 6 else
        match Tr.readK (Tr.readT G f) (Tr.rightS G n) (l.drop k) (c + 1) with
        | .bad e => .bad e
        | .ok fo l' c' => .ok (n, fo) l' c' := by
      rw [HR.out, Tr.readT, hgs]
      rfl
    have hch : ∀ W, Kp (fun _ => False) wa W → ChIn W G gn gt gp := fun W hk => by
      obtain ⟨h1, h2, h3⟩ := HG.out
      have h4 : Below wg.heap.size wg W := (h3.trans (Hb0.out.mono h3.size)).trans (hk.to_below (by have := h3.size; have := Hb0.out.size; omega) (fun _ e => e.elim))
      exact h1.later h4
    have Hch := hid hch
    have HRk := hid hRk
    have Hn := hid (And.intro hput (And.intro hnm (And.intro hk0 (And.intro hkl hk8))))
    clear hgs hch hRk hput hnm hk0 hkl hk8
    have hgcell : ∀ W, Kp (fun _ => False) wa W → Bk W br 113 (rdCells G gn gt gp cn ct cp l c) := fun W hk => Hbk0.out.kp hk (fun e => e)
    have Hgc := hid hgcell
    clear hgcell
    have hth := fun W hk => there_calls W G gn gt gp cn ct cp (Hch.out W hk) n
    have Hth := hid hth
    clear hth
    by_cases hthere : Tr.thereB G n = false
    · have He := hid (show R = .bad 10 by rw [HRk.out, if_pos hthere])
      rw [hthere] at Hth
      clear hthere
      go_enter Try.func67, Try.ntmps67
      go_upto_region 1 with fail
      rw [← Hwa.out, ← Hb6.out]
      go_wp2_with (first
        | (go_at_call 108; refine (Hth.out _ ((Kp.refl _ wa).drewN m)).mono ?_; rintro e w4 ⟨rfl, hb4⟩)
        | (go_at_call 107; refine hget.mono ?_; rintro e w2 ⟨rfl, m, rfl⟩; have hbk2 := Hgc.out _ ((Kp.refl _ wa).drewN m); have y0 := hbk2.cell 0; have y1 := hbk2.cell 1; have y2 := hbk2.cell 2; have y3 := hbk2.cell 3; have y4 := hbk2.cell 4; simp only [rdCells, List.getElem?_cons_zero, List.getElem?_cons_succ] at y0 y1 y2 y3 y4; clear hbk2))
      exact ⟨rfl, RdPost.bad He.out ((below_kpT Hb0.out).trans (((Kp.refl _ wa).drewN m).trans (below_kpT hb4)))⟩
    · have hthere' : Tr.thereB G n = true := by simpa using hthere
      rw [hthere'] at Hth
      have hnp : n < (G.prods.length : Int) := by
        unfold Tr.thereB at hthere'
        simp only [Bool.and_eq_true, decide_eq_true_eq] at hthere'
        exact hthere'.1
      have hrt := fun W hk => root_calls W G gn gt gp cn ct cp (Hch.out W hk) n hnp
      have Hrt := hid hrt
      have hrk2 : R = if Tr.kindOk G (if an = true then none else some sy) n = false then .bad 7 else if c = 65536 then .bad 6 else
        match Tr.readK (Tr.readT G f) (Tr.rightS G n) (l.drop k) (c + 1) with
        | .bad e => .bad e
        | .ok fo l' c' => .ok (n, fo) l' c' := by rw [HRk.out, if_neg hthere]
      have HRk2 := hid hrk2
      have Hnp := hid hnp
      obtain ⟨q, hq⟩ : ∃ q, q = !Tr.kindOk G (if an = true then none else some sy) n := ⟨_, rfl⟩
      have Hq := hid hq
      obtain ⟨rt, hrt2⟩ : ∃ rt, rt = Tr.rootS G n := ⟨_, rfl⟩
      rw [← hrt2] at Hrt
      have hqq : (an = true ∧ q = false) ∨ (an = false ∧ rt = sy ∧ q = false) ∨ (an = false ∧ ¬ rt = sy ∧ q = true) := by
        rw [hq, hrt2]
        cases an with
        | true => exact .inl ⟨rfl, rfl⟩
        | false =>
          by_cases h : Tr.rootS G n = sy
          · exact .inr (.inl ⟨rfl, h, by simp [Tr.kindOk, h]⟩)
          · exact .inr (.inr ⟨rfl, h, by simp [Tr.kindOk, h]⟩)
      have Hqq := hid hqq
      clear hthere hthere' hrt hrk2 hq hrt2 hnp hqq
      go_enter Try.func67, Try.ntmps67
      go_upto_region 1 with fail
      rw [← Hwa.out, ← Hb6.out]
      go_upto_region 6 with (first
        | (go_at_call 108; refine (Hth.out _ ((Kp.refl _ wa).drewN m)).mono ?_; rintro e w4 ⟨rfl, hb4⟩)
        | (go_at_call 107; refine hget.mono ?_; rintro e w2 ⟨rfl, m, rfl⟩; have hbk2 := Hgc.out _ ((Kp.refl _ wa).drewN m); have y0 := hbk2.cell 0; have y1 := hbk2.cell 1; have y2 := hbk2.cell 2; have y3 := hbk2.cell 3; have y4 := hbk2.cell 4; simp only [rdCells, List.getElem?_cons_zero, List.getElem?_cons_succ] at y0 y1 y2 y3 y4; clear hbk2))
      have hk4 : Kp (fun _ => False) wa w4 := ((Kp.refl _ wa).drewN m).trans (below_kpT hb4)
      have hbk4 := Hgc.out _ hk4
      have z0 := hbk4.cell 0
      have z1 := hbk4.cell 1
      have z2 := hbk4.cell 2
      have z3 := hbk4.cell 3
      have z4 := hbk4.cell 4
      have hlb4 := hbk4.lt
      simp only [rdCells, List.getElem?_cons_zero, List.getElem?_cons_succ] at z0 z1 z2 z3 z4
      have Hk4 := hid hk4
      clear hk4 hbk4 hb4 y0 y1 y2 y3 y4 hget x5
      go_cut [38] from 39 to 50 (fun v38 wx => v38 = .bool q ∧ Kp (fun _ => False) wa wx)
      case first =>
        rcases Hqq.out with ⟨rfl, rfl⟩ | ⟨rfl, hrs, rfl⟩ | ⟨rfl, hrs, rfl⟩
        · go_wp2_with fail
          go_meet
          exact ⟨rfl, Hk4.out⟩
        · subst hrs
          go_wp2_with (go_at_call 109; refine (Hrt.out _ Hk4.out).mono ?_; rintro e w5 ⟨rfl, hb5⟩)
          go_meet
          exact ⟨rfl, Hk4.out.trans (below_kpT hb5)⟩
        · have hrb : (rt != sy) = true := by simpa using hrs
          go_wp2_with (go_at_call 109; refine (Hrt.out _ Hk4.out).mono ?_; rintro e w5 ⟨rfl, hb5⟩)
          go_meet
          exact ⟨rfl, Hk4.out.trans (below_kpT hb5)⟩
      case rest =>
        obtain ⟨rfl, hk5⟩ := hcut
        clear z0 z1 z2 z3 z4 hlb4
        have Hk5 := hid hk5
        have hbk5 := Hgc.out _ hk5
        have z5 := hbk5.cell 5
        have z6 := hbk5.cell 6
        have hlb5 := hbk5.lt
        simp only [rdCells, List.getElem?_cons_zero, List.getElem?_cons_succ] at z5 z6
        clear hk5 hbk5
        cases hqv : q with
        | true =>
          have He := hid (show R = .bad 7 by
            have h1 := Hq.out
            rw [hqv] at h1
            rw [HRk2.out, if_pos (by simpa using h1.symm)])
          subst hqv
          go_wp2_with fail
          exact ⟨rfl, RdPost.bad He.out ((below_kpT Hb0.out).trans (Hk5.out.mono fun _ _ e => e.elim))⟩
        | false =>
          have hko : ¬ Tr.kindOk G (if an = true then none else some sy) n = false := by
            have h1 := Hq.out
            rw [hqv] at h1
            intro e
            rw [e] at h1
            cases h1
          have hrk3 := HRk2.out
          rw [if_neg hko] at hrk3
          subst hqv
          clear hko
          by_cases hc6 : c = 65536
          · have He := hid (show R = .bad 6 by rw [hrk3, if_pos hc6])
            subst hc6
            clear hrk3
            go_wp2_with fail
            exact ⟨rfl, RdPost.bad He.out ((below_kpT Hb0.out).trans (Hk5.out.mono fun _ _ e => e.elim))⟩
          · rw [if_neg hc6] at hrk3
            have HR3 := hid hrk3
            have hc7 : ¬ (c : Int) = 65536 := by omega
            have hc8 : (c : Int) ≤ 65536 := by have := Hl.out.2.2; omega
            have hkz : (k : Int) ≤ (l.length : Int) := by have := Hn.out.2.2.2.1; omega
            have hkz' : k ≤ l.length := Hn.out.2.2.2.1
            clear hrk3 hc6
            have hbk5 := Hgc.out _ Hk5.out
            have f5 := hbk5.free 5
            have f6 := hbk5.free 6
            have hres5 := Hres.out.kp Hk5.out (fun e => e)
            obtain ⟨w5, hw5⟩ : ∃ w5, w5 = ((wc.setCell ⟨br, 5, none⟩ (.string ⟨(l.drop k).toArray⟩)).setCell ⟨br, 6, none⟩ (.int .i64 ((c : Int) + 1))).alloc (.cells #[.int .i64 n, .slice none 0 0] 45) := ⟨_, rfl⟩
            have hbrb : br < w.heap.size := by
              have h1 := HG.out.2.2.size
              have h2 := Hbr.out
              omega
            have hst0 : RdSt G gn gt gp cn ct cp wg w br wc.heap.size b6 n (l.drop k) (c + 1) (.slice none 0 0) [] w5 := by
              rw [hw5]
              have h1 := (hbk5.set 5 (.string ⟨(l.drop k).toArray⟩)).set 6 (.int .i64 ((c : Int) + 1))
              have hne : b6 ≠ br := by have := Hb6.out; omega
              have h2 := ((hres5.far (p := ⟨br, 5, none⟩) hne (.string ⟨(l.drop k).toArray⟩)).far (p := ⟨br, 6, none⟩) hne (.int .i64 ((c : Int) + 1)))
              have hk9 : Kp (fun k => k = br) wc ((wc.setCell ⟨br, 5, none⟩ (.string ⟨(l.drop k).toArray⟩)).setCell ⟨br, 6, none⟩ (.int .i64 ((c : Int) + 1))) := ((Kp.refl (fun k => k = br) wc).set (p := ⟨br, 5, none⟩) (.inl rfl) _).set (p := ⟨br, 6, none⟩) (.inl rfl) _
              have hs9 : ((wc.setCell ⟨br, 5, none⟩ (.string ⟨(l.drop k).toArray⟩)).setCell ⟨br, 6, none⟩ (.int .i64 ((c : Int) + 1))).heap.size = wc.heap.size := by simp [World.setCell]
              have h3 := Bk.new ((wc.setCell ⟨br, 5, none⟩ (.string ⟨(l.drop k).toArray⟩)).setCell ⟨br, 6, none⟩ (.int .i64 ((c : Int) + 1))) 45 [.int .i64 n, .slice none 0 0]
              rw [hs9] at h3
              refine ⟨?_, h3, h2.alloc _, OwnA.nil _ _ _ _ _, ?_, Hb6.out, ?_, hbrb, HG.out.2.1⟩
              · have h4 := h1.alloc (.cells #[.int .i64 n, .slice none 0 0] 45)
                simpa [rdCells] using h4
              · exact (((below_kpT Hb0.out).trans (Hk5.out.mono fun _ _ e => e.elim)).trans hk9).alloc _
              · have h5 := Hres.out.lt
                have h6 := Hk5.out.size
                omega
            obtain ⟨bt, hbt⟩ : ∃ bt, bt = wc.heap.size := ⟨_, rfl⟩
            rw [← hbt] at hst0
            obtain ⟨xs, hxs⟩ : ∃ xs, xs = Tr.rightS G n := ⟨_, rfl⟩
            obtain ⟨M, hM⟩ : ∃ M, M = xs.length := ⟨_, rfl⟩
            have hbg5 : Below wg.heap.size wg w5 := HG.out.2.2.trans (hst0.kp.to_below HG.out.2.2.size (fun k e => by have := HG.out.2.1; omega))
            have hri := right2_calls w5 wg G gn gt gp cn ct cp HG.out.1 hbg5 n Hnp.out
            unfold Right2Said at hri
            rw [← hxs, ← hM] at hri
            have hx16 : M ≤ 1000000 := by
              rw [hM, hxs]
              exact HG.out.1.right_le n
            have Hst0 := hid hst0
            have HW5 := hid hw5
            have Hbt := hid hbt
            have HX := hid (And.intro hxs hM)
            clear hbk5 hres5 hw5 hst0 hbt hxs hM hbg5 hbrb
            go_upto_region 13 with fail
            rw [ext_drop, ← HW5.out, ← Hbt.out]
            have t0 := Hst0.out.rd.cell 0
            have t1 := Hst0.out.rd.cell 1
            have t2 := Hst0.out.rd.cell 2
            have t3 := Hst0.out.rd.cell 3
            have t4 := Hst0.out.rd.cell 4
            have tl := Hst0.out.rd.lt
            simp only [rdCells, List.getElem?_cons_zero, List.getElem?_cons_succ] at t0 t1 t2 t3 t4
            clear f5 f6 z5 z6 hlb5
            go_wp2_with (go_at_call 110; refine hri.mono ?_; rintro e w6 ⟨gx, cx, rfl, hrow, hb6'⟩; have Hrow := hid hrow; have Hst6 := hid (Hst0.out.called (below_kpT hb6') (Hst0.out.rd.kp (below_kpT (S := fun _ => False) hb6') (fun e => e))); clear hrow hb6')
            clear t0 t1 t2 t3 t4 tl hri
            go_loopg [86] M (fun g v86 wx => RdRel G gn gt gp cn ct cp wg w br bt b6 f (l.length - 1) n xs R g v86 wx)
            case atStart =>
              refine ⟨0, _, [], _, _, rfl, Nat.zero_le _, by rw [HX.out.2]; rfl, Hst6.out, ?_, ?_, ?_, rfl⟩
              · rw [List.drop_zero, HR3.out, HX.out.1]
                unfold Tr.contK
                rfl
              · rw [List.length_drop]
                have := Hn.out.2.2.1
                omega
              · omega
            case round =>
              obtain ⟨i, v, ls, l1, c1, rfl, hi, hg, hst, hcont, hl1, hc1, hll⟩ := hrel
              have u0 := hst.tb.cell 0
              have u1 := hst.tb.cell 1
              have ul := hst.tb.lt
              simp only [List.getElem?_cons_zero, List.getElem?_cons_succ] at u0 u1
              rcases Nat.lt_or_ge i xs.length with hlt | hge
              · have hltM : (i : Int) < (M : Int) := by have := HX.out.2; omega
                have hi0 : (0 : Int) ≤ (i : Int) := by omega
                obtain ⟨sx, hsx⟩ : ∃ sx, sx = xs[i] := ⟨_, rfl⟩
                have hbgr : Below wg.heap.size wg wr := HG.out.2.2.trans (hst.kp.to_below HG.out.2.2.size (fun k e => by have := HG.out.2.1; omega))
                obtain ⟨g1, o1, hgx, hgl, hcx⟩ := Hrow.out.at hlt
                rw [← hsx] at hcx
                have hcx2 := (hbgr.cell (p := ⟨g1, _, none⟩) hgl).trans hcx
                have hgl2 : g1 < wr.heap.size := Nat.lt_of_lt_of_le hgl hbgr.size
                have hdr : xs.drop i = sx :: xs.drop (i + 1) := by rw [hsx]; exact List.drop_eq_getElem_cons hlt
                rw [hdr, Tr.readK] at hcont
                have hc := ih sx false l1 c1 br wr.drew wg (by have := Hl.out.1; have := Hn.out.2.2.1; have := Hn.out.2.2.2.1; omega) (by have := Hl.out.2.1; omega) hc1 HG.out.1 HG.out.2.1 (hbgr.drew) (hst.rd.kp ((Kp.refl (fun _ => False) wr).drew) (fun e => e))
                rw [if_neg (by decide)] at hc
                have Hst := hid hst
                have Hg := hid (And.intro hg hlt)
                have Hll := hid (And.intro hll (And.intro hl1 hc1))
                subst hgx
                clear hst hg hlt hll hl1 hc1 hbgr hgl hcx hdr hsx hi
                cases hrd : Tr.readT G f (some sx) l1 c1 with
                | bad e0 =>
                  rw [hrd] at hc hcont
                  have He := hid (show R = .bad e0 from hcont.symm)
                  have hc2 : Calls Try.prog 67 #[.pointer (some ⟨br, 0, none⟩), .int .i64 sx, .bool false] wr.drew fun e w' => e = .panicked [{ v := stopV e0, recovered := false }] ∧ Kp (fun k => k = br) wr.drew w' := hc.mono fun e w' h => ⟨h.2, h.1⟩
                  clear hrd hcont hc
                  go_upto_region 16 with fail
                  refine wp_region_held_drew (S := fun W : World => W.cell? ⟨bt, 1, none⟩ = some v) (by kernel_rfl) u1 (fun hHeld => ?_)
                  refine wpAnyH_take (i := 0) (v := ?_) rfl (by kernel_rfl) (by kernel_rfl) (by kernel_rfl) (fun _ _ _ h => h) (Or.inl ⟨by kernel_rfl, ?_⟩) (by assumption) ?_
                  rotate_left
                  · intro w hSw
                    try dsimp only at hSw
                    go_simp
                    try with_reducible rfl
                  try simp only [Act.put, List.setIfInBounds_toArray]
                  refine wpAnyH_take (i := 2) (v := ?_) rfl (by kernel_rfl) (by kernel_rfl) (by kernel_rfl) (fun _ _ _ h => h) (Or.inl ⟨by kernel_rfl, ?_⟩) (by assumption) ?_
                  rotate_left
                  · intro w hSw
                    try dsimp only at hSw
                    go_simp
                    try with_reducible rfl
                  try simp only [Act.put]
                  refine wpAnyH_take (i := 3) (v := ?_) rfl (by kernel_rfl) (by kernel_rfl) (by kernel_rfl) (fun _ _ _ h => h) (Or.inl ⟨by kernel_rfl, ?_⟩) (by assumption) ?_
                  rotate_left
                  · intro w hSw
                    try dsimp only at hSw
                    go_simp
                    try with_reducible rfl
                  try simp only [Act.put]
                  refine wpAnyH_take (i := 1) (v := ?_) rfl (by kernel_rfl) (by kernel_rfl) (by kernel_rfl) (fun _ _ _ h => h) (Or.inl ⟨by kernel_rfl, ?_⟩) (by assumption) ?_
                  rotate_left
                  · intro w hSw
                    try dsimp only at hSw
                    go_simp
                    try with_reducible rfl
                  try simp only [Act.put]
                  refine wpAnyH_ready (rs := [4]) (by kernel_rfl) (by simp) ?_
                  refine AllReadyH.cons (o := ({ dst := some 94, op := Op.call { callee := Callee.value (Operand.func 67), args := #[Operand.tmp 92, Operand.tmp 93, Operand.const (Value.bool false)], argTypes := #[111, 3, 4] }, type := 45, pos := "tree.go:155", after := #[{ on := 2, ground := Ground.data }, { on := 3, ground := Ground.data }], guard := none } : Oper)) rfl (fun K hK => ?_) AllReadyH.nil
                  go_simp
                  go_at_call 67
                  refine hc2.mono ?_
                  rintro e w7 ⟨rfl, hk7⟩
                  go_simp
                  exact ⟨rfl, RdPost.bad He.out (Hst.out.kp.drew.trans hk7)⟩
                | ok a l2 c2 =>
                  rw [hrd] at hc hcont
                  obtain ⟨hl2, hc2⟩ := Tr.readT_le G f _ _ _ _ _ _ Hll.out.2.2 hrd
                  have hcont2 : Tr.contK n (ls ++ [a]) (Tr.readK (Tr.readT G f) (xs.drop (i + 1)) l2 c2) = R := by
                    rw [← hcont]
                    simp only []
                    cases h9 : Tr.readK (Tr.readT G f) (xs.drop (i + 1)) l2 c2 with
                    | bad e => rfl
                    | ok fo l3 c3 =>
                      show RR.ok (n, (Fo.ofList (ls ++ [a])).app fo) l3 c3 = RR.ok (n, (Fo.ofList ls).app (Fo.cons a.1 a.2 fo)) l3 c3
                      rw [Fo.ofList_snoc]
                  obtain ⟨ap, hap⟩ : ∃ ap, ap = a.1 := ⟨_, rfl⟩
                  have hcall : Calls Try.prog 67 #[.pointer (some ⟨br, 0, none⟩), .int .i64 sx, .bool false] wr.drew fun e w3 => ∃ gk ck, e = .returned (.agg #[.int .i64 ap, .slice gk a.2.len ck]) ∧ w3.cell? ⟨bt, 1, none⟩ = some v ∧ bt < w3.heap.size ∧
                      ∃ g2 cap2 w5, (Builtin.append_ #[43, 43] 43 #[v, .slice (some ⟨w3.heap.size, 0, none⟩) 1 1]).run Try.prog ((w3.alloc (.cells #[.int .i64 ap, .slice gk a.2.len ck] 45)).drewN 0) = .ok (.slice (some ⟨g2, 0, none⟩) (ls.length + 1) cap2) w5 ∧
                      w5.cell? ⟨bt, 1, none⟩ = some v ∧ w5.frozen? ⟨bt, 1, none⟩ = false ∧ bt < w5.heap.size ∧ RdSt G gn gt gp cn ct cp wg w br bt b6 n l2 c2 (.slice (some ⟨g2, 0, none⟩) (ls.length + 1) cap2) (ls ++ [a]) (w5.setCell ⟨bt, 1, none⟩ (.slice (some ⟨g2, 0, none⟩) (ls.length + 1) cap2)) := by
                    refine hc.mono ?_
                    rintro e w3 ⟨hk3, ⟨gk, ck, rfl, hfo⟩, hrd3⟩
                    have hst3 := Hst.out.called ((Kp.refl (fun k => k = br) wr).drew.trans hk3) hrd3
                    have n3 := hst3.tb.cell 1
                    simp only [List.getElem?_cons_zero, List.getElem?_cons_succ] at n3
                    have hbtl := Hst.out.tb.lt
                    obtain ⟨g2, cap2, w5, hrun, ⟨m2, mf, ml⟩, hst6⟩ := hst3.app (a := a) (ck := ck) (hfo.mono fun q hq => by
                      have h1 : wr.heap.size ≤ q := hq.1
                      exact ⟨by omega, hq.2, fun e => by have h2 := (Hst.out.own.lt q e).2; omega⟩) (by have := Hll.out.1; have := Hg.out.2; have := HX.out.2; omega) 43 0 (N := w3.heap.size) rfl
                    rw [← hap] at hrun
                    exact ⟨gk, ck, by rw [hap], n3, hst3.tb.lt, g2, cap2, w5, hrun, m2, mf, ml, hst6⟩
                  have Hcont2 := hid hcont2
                  have Hl2 := hid (And.intro hl2 hc2)
                  obtain ⟨nl, hnl⟩ : ∃ nl, nl = ls.length := ⟨_, rfl⟩
                  rw [← hnl] at hcall
                  clear hc hcont hrd hcont2 hl2 hc2 hap hnl
                  go_upto_region 16 with fail
                  go_region_law
                    (first
                      | (have hrun0 := hrun; refine step_app (by rfl) _ _ _ (by rfl) v (.slice (some ⟨w3.heap.size, 0, none⟩) 1 1) _ w5 (by go_simp) (by go_simp) (by exact hrun) ?_)
                      | (go_simp; go_at_call 67; refine hcall.mono ?_; rintro e w3 ⟨gk, ck, rfl, n3, hln3, g2, cap2, w5, hrun, m2, mf, ml, hst6⟩; have Hst6 := hid hst6; clear hst6))
                  all_goals
                    go_wp2_with fail
                    go_roundg (M - (i + 1))
                    case measure => have := Hg.out.1; have := Hg.out.2; have := HX.out.2; omega
                    case rel => exact ⟨i + 1, _, ls ++ [a], l2, c2, by go_num, Hg.out.2, by rw [HX.out.2], Hst6.out, Hcont2.out, by have := Hl2.out.1; have := Hll.out.2.1; omega, Hl2.out.2, by rw [List.length_append, Hll.out.1]; rfl⟩
              · have hgeM : ¬ (i : Int) < (M : Int) := by have := HX.out.2; omega
                rw [List.drop_of_length_le hge, Tr.readK] at hcont
                have hR : R = .ok (n, Fo.ofList ls) l1 c1 := by
                  rw [← hcont]
                  show RR.ok (n, (Fo.ofList ls).app .nil) l1 c1 = _
                  rw [Fo.app_nil']
                obtain ⟨ga, ca, rfl, hlies⟩ := hst.own.lies TreR.fit
                have hn : FoAt wr (fun k => bt + 1 ≤ k ∧ k < wr.heap.size) ga (Fo.ofList ls) 0 := by
                  refine FoAt.row fun j a hj => ?_
                  obtain ⟨g, x, e, h1, h2, h3, h4⟩ := hlies j a hj
                  exact ⟨g, x, e, ⟨h1, h2⟩, h3, fun q u hu => by rw [Nat.zero_add]; exact h4 q u hu⟩
                have r0 := hst.res.cell 0
                have r1 := hst.res.cell 1
                have fr0 := hst.res.free 0
                have fr1 := hst.res.free 1
                have hlr := hst.res.lt
                simp only [List.getElem?_cons_zero, List.getElem?_cons_succ] at r0 r1
                have Hst := hid hst
                have Hn2 := hid hn
                have HRR := hid hR
                clear hst hn hR hcont hlies hg hi hge hll hl1 hc1
                go_wp2_with fail
                refine bodyPost_ret (v := .agg #[.int .i64 n, .slice ga ls.length ca]) (by simp [results, Try.results67, go_sem, r0, r1]) rfl ?_
                have hbb := Hst.out.bb
                have hks : Kp (fun k => k = b6) wr ((wr.setCell ⟨b6, 0, none⟩ (.int .i64 n)).setCell ⟨b6, 1, none⟩ (.slice ga ls.length ca)) := ((Kp.refl (fun k => k = b6) wr).set (p := ⟨b6, 0, none⟩) (.inl rfl) _).set (p := ⟨b6, 1, none⟩) (.inl rfl) _
                have hkw := Hst.out.kp
                rw [HRR.out]
                refine ⟨((hkw.mono (S' := fun k => k = br ∨ w.heap.size ≤ k) fun k _ e => .inl e).trans (hks.mono fun k _ e => .inr (by omega))).mono fun k hk e => e.elim id (fun e => by omega), ⟨ga, ca, by rw [Fo.ofList_len], ?_⟩, Hst.out.rd.kp hks (fun e => by omega)⟩
                exact (FoAt.kp hks (fun k hk e => by have := hk.1; omega) Hn2.out).mono fun k hk => ⟨by have := hk.1; omega, Nat.lt_of_lt_of_le hk.2 hks.size⟩
theorem read_all (f : Nat) : ReadSays G gn gt gp cn ct cp f := by
  induction f with
  | zero =>
    intro sy an l c br w wg hlf
    omega
  | succ f ih => exact read_step f ih
end
end Go.Proofs.Ytaehooafdbaomaa
