/- Chapter 14 (tree): Text. -/
import Derived.Test.YtaehooafdbaomaaTreePut
import Derived.Test.YtaehooafdbaomaaTreeCk
namespace Go.Proofs.Ytaehooafdbaomaa
open Go.RowKit
attribute [local go_sem ↓] Go.wp_at_zero Go.wp_at_succ
attribute [local go_sem] frozen_alloc_lt

namespace Tr
def nameS (l : List ByteArray) (i : Nat) : List UInt8 := (l.getD i ⟨#[]⟩).data.toList
/-- The text of a tree whose kids' text is body. -/
def txtT (G : Gr) (p : Int) (body : List UInt8) : List UInt8 :=
  if p < 0 then Lex.quoteS (nameS G.terms (-1 - p).toNat) else (40 :: nameS G.names ((G.prods.getD p.toNat (0, [])).1).toNat) ++ (body ++ [41])
def txtF (G : Gr) : Fo → List UInt8
  | .nil => []
  | .cons p k r => (32 :: txtT G p (txtF G k)) ++ txtF G r
end Tr
/-- Names and terminals are short. -/
structure ShortG (G : Gr) : Prop where
  n : ∀ s ∈ G.names, s.size ≤ 65536
  t : ∀ s ∈ G.terms, s.size ≤ 65536
theorem nameS_len {l : List ByteArray} (h : ∀ s ∈ l, s.size ≤ 65536) (i : Nat) : (Tr.nameS l i).length ≤ 65536 := by
  unfold Tr.nameS
  rw [List.getD]
  cases hx : l[i]? with
  | none => simp
  | some x =>
    have := h x (List.mem_of_getElem? hx)
    rw [← Lib.size_eq]
    exact this
theorem quoteS_len (l : List UInt8) : (Lex.quoteS l).length ≤ 4 * l.length + 2 := by
  unfold Lex.quoteS
  have := Lex.quoteF_len (Lex.quoteQ l) l
  simp only [List.length_cons, List.length_append, List.length_nil]
  omega
theorem txtT_len {G : Gr} (h : ShortG G) (p : Int) (body : List UInt8) : (Tr.txtT G p body).length ≤ 300000 + body.length := by
  unfold Tr.txtT
  split
  · have := quoteS_len (Tr.nameS G.terms (-1 - p).toNat)
    have := nameS_len h.t (-1 - p).toNat
    omega
  · have := nameS_len h.n ((G.prods.getD p.toNat (0, [])).1).toNat
    simp only [List.length_cons, List.length_append, List.length_nil]
    omega
theorem txtF_len {G : Gr} (h : ShortG G) : ∀ f : Fo, (Tr.txtF G f).length ≤ 300001 * f.nodes
  | .nil => by simp [Tr.txtF]
  | .cons p k r => by
    have h1 := txtF_len h k
    have h2 := txtF_len h r
    have h3 := txtT_len h p (Tr.txtF G k)
    simp only [Tr.txtF, Fo.nodes, List.length_append, List.length_cons]
    omega
/-- The trees of a forest are a grammar's. -/
def Tr.okF (G : Gr) : Fo → Prop
  | .nil => True
  | .cons p k r => Tr.thereB G p = true ∧ Tr.okF G k ∧ Tr.okF G r
def TTextAt (w0 : World) (G : Gr) (B b : Nat) (ga : Option Addr) (len N : Nat) (res : List UInt8) (k : Nat) (v38 : Value) (w : World) : Prop :=
  ∃ (i : Nat) (r : Fo) (l : List UInt8), v38 = .int .i64 i ∧ FoAt w0 (fun k => k < B) ga r i ∧ i + r.len = len ∧ l ++ Tr.txtF G r = res ∧ BldIs B b l w ∧ Below B w0 w ∧ BldKp b w0 w ∧ k = r.len ∧ r.nodes ≤ N ∧ l.length + 300001 * r.nodes ≤ 100000000000000 ∧ Tr.okF G r
def TTextSays (G : Gr) (gn gt gp : Option Addr) (cn ct cp : Nat) (m : Nat) : Prop := ∀ (p : Int) (kids : Fo) (w wg : World) (gk : Option Addr) (ck B b : Nat) (l : List UInt8), kids.nodes = m → Tr.thereB G p = true → Tr.okF G kids → ChIn wg G gn gt gp → wg.heap.size ≤ B → Below wg.heap.size wg w → FoAt w (fun k => k < B) gk kids 0 → BldIs B b l w → l.length + 300000 + 300001 * kids.nodes ≤ 100000000000000 →
    Calls Try.prog 75 #[.pointer (some ⟨b, 0, none⟩), .agg #[.int .i64 G.start, .int .i64 G.rules, .slice gn G.names.length cn, .slice gt G.terms.length ct, .slice gp G.prods.length cp], .agg #[.int .i64 p, .slice gk kids.len ck]] w (WroteSaid B b (l ++ Tr.txtT G p (Tr.txtF G kids)) w)
section
variable {G : Gr} {gn gt gp : Option Addr} {cn ct cp : Nat} (hS : SndG G) (hsh : ShortG G)
include hS hsh
set_option maxRecDepth 8000 in
set_option maxHeartbeats 4000000 in
theorem ttext_step (m : Nat) (ih : ∀ m', m' < m → TTextSays G gn gt gp cn ct cp m') : TTextSays G gn gt gp cn ct cp m := by
  intro p kids w wg gk ck B b l hm hth hok hG hgB hgw hat hbi hlen
  have hkl := kids.len_le
  have hBw : B ≤ w.heap.size := Nat.le_trans hbi.le (Nat.le_of_lt hbi.lt)
  have hgk := (Bk.new w 30 [.int .i64 G.start, .int .i64 G.rules, .slice gn G.names.length cn, .slice gt G.terms.length ct, .slice gp G.prods.length cp]).alloc (.cells #[.int .i64 p, .slice gk kids.len ck] 45)
  have hbk := Bk.new (w.alloc (.cells #[.int .i64 G.start, .int .i64 G.rules, .slice gn G.names.length cn, .slice gt G.terms.length ct, .slice gp G.prods.length cp] 30)) 45 [.int .i64 p, .slice gk kids.len ck]
  have hb0 : Below w.heap.size w ((w.alloc (.cells #[.int .i64 G.start, .int .i64 G.rules, .slice gn G.names.length cn, .slice gt G.terms.length ct, .slice gp G.prods.length cp] 30)).alloc (.cells #[.int .i64 p, .slice gk kids.len ck] 45)) := bel_al (bel_al (bel_id w) _) _
  rw [show (w.alloc (.cells #[.int .i64 G.start, .int .i64 G.rules, .slice gn G.names.length cn, .slice gt G.terms.length ct, .slice gp G.prods.length cp] 30)).heap.size = w.heap.size + 1 by simp] at hbk
  obtain ⟨wa, hwa⟩ : ∃ wa, wa = ((w.alloc (.cells #[.int .i64 G.start, .int .i64 G.rules, .slice gn G.names.length cn, .slice gt G.terms.length ct, .slice gp G.prods.length cp] 30)).alloc (.cells #[.int .i64 p, .slice gk kids.len ck] 45)) := ⟨_, rfl⟩
  obtain ⟨a, ha⟩ : ∃ a, a = w.heap.size := ⟨_, rfl⟩
  obtain ⟨t, ht⟩ : ∃ t, t = w.heap.size + 1 := ⟨_, rfl⟩
  rw [← hwa] at hgk hbk hb0
  rw [← ha] at hgk
  rw [← ht] at hbk
  have hat0 := hat.below hb0 (fun k (hk : k < B) => Nat.lt_of_lt_of_le hk hBw)
  have hbi0 := hbi.below hb0
  have hkp0 := BldKp.below (b := b) hb0
  have hgw0 := hgw.trans (hb0.mono (Nat.le_trans hgB hBw))
  have hgl := hgk.lt
  have htl := hbk.lt
  have hab : a ≠ b := by have := hbi.lt; omega
  have htb : t ≠ b := by have := hbi.lt; omega
  have x0 := hgk.cell 0
  have x1 := hgk.cell 1
  have x2 := hgk.cell 2
  have x3 := hgk.cell 3
  have x4 := hgk.cell 4
  have y0 := hbk.cell 0
  have y1 := hbk.cell 1
  simp only [List.getElem?_cons_zero, List.getElem?_cons_succ] at x0 x1 x2 x3 x4 y0 y1
  have hBa : B ≤ wa.heap.size := Nat.le_trans hBw hb0.size
  have Hwa := hid hwa
  have HA := hid (And.intro ha ht)
  have Hb0 := hid (hb0.mono hBw)
  have Hat0 := hid hat0
  have Hbi0 := hid hbi0
  have Hkp0 := hid hkp0
  have Hgw0 := hid hgw0
  have Hgk := hid hgk
  have Hbk := hid hbk
  have Hab := hid hab
  have Htb := hid htb
  have HG := hid hG
  have HgB := hid hgB
  have Hm := hid hm
  have Hlen := hid hlen
  have HBa := hid hBa
  have Hok := hid hok
  have hlm : kids.len ≤ 100000000000000 := by omega
  obtain ⟨L, hL⟩ : ∃ L, L = kids.len := ⟨_, rfl⟩
  have HL := hid hL
  clear hwa ha ht hb0 hat0 hbi0 hkp0 hgw0 hgk hbk hab htb hG hgB hm hlen hat hbi hkl hBw hgw hBa hok
  by_cases hp : p < 0
  · obtain ⟨j, hj⟩ : ∃ j : Nat, -1 - p = (j : Int) := ⟨(-1 - p).toNat, by omega⟩
    have hjt : j < G.terms.length := by
      unfold Tr.thereB at hth
      simp at hth
      omega
    obtain ⟨tj, htj⟩ : ∃ tj, tj = G.terms[j] := ⟨_, rfl⟩
    have hrow : ∃ g off : Nat, gt = some ⟨g, off, none⟩ ∧ g < wg.heap.size ∧ wg.cell? ⟨g, off + j, none⟩ = some (.string tj) := by
      rw [htj]
      exact HG.out.g.t.at hjt
    obtain ⟨g, off, hgt, hgb, hc⟩ := hrow
    have hcw := (Hgw0.out.cell (p := ⟨g, off + j, none⟩) hgb).trans hc
    have hj0 : (0 : Int) ≤ (j : Int) := by omega
    have hj2 : (j : Int) ≤ 1000000 := by have := HG.out.h2; omega
    have hj1 : (j : Int) < (G.terms.length : Int) := by omega
    have hsz : tj.size ≤ 65536 := by rw [htj]; exact hsh.t _ (List.getElem_mem hjt)
    have hq := quote_calls tj wa hsz
    have Hres : Hid (Tr.txtT G p (Tr.txtF G kids) = Lex.quoteS tj.data.toList) := by
      show _ = _
      unfold Tr.txtT Tr.nameS
      rw [htj, if_pos hp, hj, Int.toNat_natCast, List.getD, List.getElem?_eq_getElem hjt]
      rfl
    rw [Hres.out]
    have hql := quoteS_len tj.data.toList
    rw [← Lib.size_eq] at hql
    have Hql := hid hql
    have Hjt := hid hjt
    subst hgt
    clear hc hgb hth htj hql hjt
    go_enter Try.func75, Try.ntmps75
    go_upto_region 1 with fail
    rw [← Hwa.out, ← HA.out.2, ← HA.out.1]
    go_wp2_with (first
      | (go_at_call 116; refine hq.mono ?_; rintro e w1 ⟨rfl, hb1⟩; have Hb1 := hid hb1; clear hb1)
      | (go_at_call 114; refine (bldWriteString B b l (Lex.quoteS tj.data.toList) w1 (Hbi0.out.below Hb1.out) (by have := Hql.out; have := Hlen.out; omega) (by have := Hb1.out.size; have := HBa.out; omega)).mono ?_; rintro e w2 ⟨rfl, hbi2, hb2, hkp2⟩))
    refine bodyPost_ret (results_none rfl _ _ _) rfl ?_
    exact ⟨rfl, hbi2, Hb0.out.trans ((Hb1.out.mono HBa.out).trans hb2), Hkp0.out.trans ((BldKp.below Hb1.out).trans hkp2)⟩
  · obtain ⟨q, rfl⟩ : ∃ q : Nat, p = (q : Int) := ⟨p.toNat, by omega⟩
    have hqt : q < G.prods.length := by
      unfold Tr.thereB at hth
      simp at hth
      omega
    obtain ⟨x, hx⟩ : ∃ x, G.prods[q]? = some x := ⟨_, List.getElem?_eq_getElem hqt⟩
    have hxm := List.mem_of_getElem? hx
    obtain ⟨g, off, gr, cr, hgp, hgb, hc, -, -⟩ := HG.out.g.p q x hx
    have hcw := (Hgw0.out.cell (p := ⟨g, off + q * 2, none⟩) hgb).trans hc
    obtain ⟨e, he⟩ : ∃ e : Nat, x.1 = (e : Int) := ⟨x.1.toNat, by have := hS.l0 x hxm; omega⟩
    have hen : e < G.names.length := by have := hS.l1 x hxm; omega
    obtain ⟨nm, hnm⟩ : ∃ nm, nm = G.names[e] := ⟨_, rfl⟩
    have hrow : ∃ g off : Nat, gn = some ⟨g, off, none⟩ ∧ g < wg.heap.size ∧ wg.cell? ⟨g, off + e, none⟩ = some (.string nm) := by
      rw [hnm]
      exact HG.out.g.n.at hen
    obtain ⟨g2, off2, hgn, hgb2, hc2⟩ := hrow
    have hcw2 := (Hgw0.out.cell (p := ⟨g2, off2 + e, none⟩) hgb2).trans hc2
    rw [he] at hcw
    have hsz : nm.size ≤ 65536 := by rw [hnm]; exact hsh.n _ (List.getElem_mem hen)
    have Hres : Hid (Tr.txtT G q (Tr.txtF G kids) = (40 :: nm.data.toList) ++ (Tr.txtF G kids ++ [41])) := by
      show _ = _
      unfold Tr.txtT Tr.nameS
      rw [hnm, if_neg hp, Int.toNat_natCast, show G.prods.getD q (0, []) = x by rw [List.getD, hx]; rfl, he, Int.toNat_natCast, List.getD, List.getElem?_eq_getElem hen]
      rfl
    rw [Hres.out]
    have hq0 : (0 : Int) ≤ (q : Int) := by omega
    have hq1 : (q : Int) < (G.prods.length : Int) := by omega
    have he0 : (0 : Int) ≤ (e : Int) := by omega
    have he1 : (e : Int) < (G.names.length : Int) := by omega
    subst hgp
    subst hgn
    have HX := hid (And.intro hgb hgb2)
    obtain ⟨res, hres⟩ : ∃ res, res = l ++ ((40 :: nm.data.toList) ++ (Tr.txtF G kids ++ [41])) := ⟨_, rfl⟩
    rw [← hres]
    have Hres2 := hid hres
    have Hsz := hid hsz
    have hsz2 : (⟨#[40]⟩ : ByteArray).size + nm.size ≤ 9223372036854775807 := by have : (⟨#[40]⟩ : ByteArray).size = 1 := rfl; omega
    have hadd : ((⟨#[40]⟩ : ByteArray) ++ nm) = ⟨(40 :: nm.data.toList).toArray⟩ := by
      apply ByteArray.ext
      simp
    have hlim : ¬ 9223372036854775807 < 1 + nm.size := by omega
    have hlim2 : 1 + nm.size ≤ 9223372036854775807 := by omega
    clear hth hx hxm hc hc2 hnm hen hqt hgb hgb2 hres hsz2 he
    go_enter Try.func75, Try.ntmps75
    go_upto_region 3 with fail
    rw [← Hwa.out, ← HA.out.2, ← HA.out.1]
    have hkeep : ∀ W, BldKp b wa W → Below B wa W → W.cell? ⟨a, 2, none⟩ = some (.slice (some ⟨g2, off2, none⟩) G.names.length cn) ∧ W.cell? ⟨a, 4, none⟩ = some (.slice (some ⟨g, off, none⟩) G.prods.length cp) ∧ W.cell? ⟨t, 0, none⟩ = some (.int .i64 q) ∧ W.cell? ⟨g, off + q * 2, none⟩ = some (.int .i64 e) ∧ W.cell? ⟨g2, off2 + e, none⟩ = some (.string nm) := by
      intro W hk hb
      have k1 := Hgk.out.bld hk Hab.out (by decide)
      have k2 := Hbk.out.bld hk Htb.out (by decide)
      exact ⟨k1.cell 2, k1.cell 4, k2.cell 0, (hb.cell (p := ⟨g, _, none⟩) (Nat.lt_of_lt_of_le HX.out.1 HgB.out)).trans hcw, (hb.cell (p := ⟨g2, _, none⟩) (Nat.lt_of_lt_of_le HX.out.2 HgB.out)).trans hcw2⟩
    have Hkeep := hid hkeep
    have H0 : Hid (BldKp b wa wa.drew ∧ Below B wa wa.drew) := hid ⟨(BldKp.refl _ _).drew, (Below.refl _ _).drew⟩
    obtain ⟨e00, e01, e02, e03, e04⟩ := hkeep wa.drew H0.out.1 H0.out.2
    clear hkeep x0 x1 x2 x3 x4 y0 y1 hcw hcw2
    have hwr := bldWriteString B b l (40 :: nm.data.toList) wa.drew Hbi0.out.drew (by have h1 := Hsz.out; have h2 := Hlen.out; rw [Lib.size_eq] at h1; simp only [List.length_cons]; omega) HBa.out
    go_region_held3 (fun W => W.cell? ⟨a, 2, none⟩ = some (.slice (some ⟨g2, off2, none⟩) G.names.length cn) ∧ W.cell? ⟨a, 4, none⟩ = some (.slice (some ⟨g, off, none⟩) G.prods.length cp) ∧ W.cell? ⟨t, 0, none⟩ = some (.int .i64 q) ∧ W.cell? ⟨g, off + q * 2, none⟩ = some (.int .i64 e) ∧ W.cell? ⟨g2, off2 + e, none⟩ = some (.string nm))
      (first | exact ⟨‹_›, ‹_›, ‹_›, ‹_›, ‹_›⟩)
      (first | (go_at_call 114; refine hwr.mono ?_; rintro e1 w2 ⟨rfl, hbi2, hb2, hkp2⟩; obtain ⟨e10, e11, e12, e13, e14⟩ := Hkeep.out w2 (H0.out.1.trans hkp2) (H0.out.2.trans hb2)))
    have hgk2 := Hgk.out.bld (H0.out.1.trans hkp2) Hab.out (by decide)
    have hbk2 := Hbk.out.bld (H0.out.1.trans hkp2) Htb.out (by decide)
    have hat2 := Hat0.out.below (H0.out.2.trans hb2) (fun k hk => hk)
    have z1 := hbk2.cell 1
    simp only [List.getElem?_cons_zero, List.getElem?_cons_succ] at z1
    rw [← hL] at z1
    have hb02 := Hb0.out.trans (H0.out.2.trans hb2)
    have hkp02 := Hkp0.out.trans (H0.out.1.trans hkp2)
    have hgw2 := Hgw0.out.trans ((H0.out.2.trans hb2).mono HgB.out)
    have Hb02 := hid hb02
    have Hkp02 := hid hkp02
    have Hgk2 := hid hgk2
    have Hat2 := hid hat2
    have Hbi2 := hid hbi2
    have Hgw2 := hid hgw2
    obtain ⟨res1, hres1⟩ : ∃ res1, res1 = (l ++ (40 :: nm.data.toList)) ++ Tr.txtF G kids := ⟨_, rfl⟩
    have Hres1 := hid hres1
    have Hfin : Hid (res1 ++ [41] = res) := by
      show _ = _
      rw [Hres1.out, Hres2.out]
      simp only [List.append_assoc]
    have hlm2 : (L : Int) ≤ 100000000000000 := by have := HL.out; omega
    clear hb02 hkp02 hgk2 hbk2 hat2 hbi2 hgw2 hb2 hkp2 hwr e00 e01 e02 e03 e04 e10 e11 e12 e13 e14 hlm hL hres1 hadd hlim hlim2
    clear hq0 hq1 he0 he1 Hgk Hbk Hat0 Hbi0 hp
    go_wp2
    go_loopg [38] L (fun k v38 wr => TTextAt w2 G B b gk L kids.nodes res1 k v38 wr)
    case atStart => exact ⟨0, kids, l ++ (40 :: nm.data.toList), rfl, Hat2.out, by rw [HL.out]; omega, Hres1.out.symm, Hbi2.out, Below.refl _ _, BldKp.refl _ _, HL.out, Nat.le_refl _, by have h1 := Hlen.out; have h2 := Hsz.out; rw [Lib.size_eq] at h2; rw [List.length_append, List.length_cons]; omega, Hok.out⟩
    case round =>
      clear z1
      obtain ⟨i, r, lr, rfl, hr, hi, hl, hbr, hbw, hkw, hkk, hn1, hn2, hok⟩ := hrel
      have hBr : B ≤ wr.heap.size := by have := hbr.lt; have := hbr.le; omega
      cases r with
      | nil =>
        simp only [Fo.len, Tr.txtF, Nat.add_zero, List.append_nil] at hi hl
        subst hi
        have hge : ¬ (i : Int) < (i : Int) := by omega
        have hw := bldWriteByte B b lr 41 wr hbr (by omega) hBr
        rw [show (41 : UInt8).toNat = 41 from rfl] at hw
        have Hl := hid hl
        have Hw := hid hw
        clear hl hkk hn1 hn2 hw
        go_wp2_with (go_at_call 117; refine (Hid.out Hw).mono ?_; rintro e1 w4 ⟨rfl, hbi4, hb4, hkp4⟩)
        refine bodyPost_end (results_none rfl _ _ _) rfl ?_
        exact ⟨rfl, by rw [← Hfin.out, ← Hl.out]; exact hbi4, Hb02.out.trans (hbw.trans hb4), Hkp02.out.trans (hkw.trans hkp4)⟩
      | cons p k r' =>
        simp only [Fo.len, Tr.txtF] at hi hl
        unfold Tr.okF at hok
        unfold FoAt at hr
        obtain ⟨⟨g5, off5, ga', ca', rfl, hg, c0, c1, hk'⟩, hr'⟩ := hr
        have hlt : (i : Int) < (L : Int) := by omega
        have hi0 : (0 : Int) ≤ (i : Int) := by omega
        have c0' := (hbw.cell (p := ⟨g5, _, none⟩) hg).trans c0
        have c1' := (hbw.cell (p := ⟨g5, _, none⟩) hg).trans c1
        rw [Fo.nodes] at hn1 hn2
        have hlt' : k.nodes < m := by have := Hm.out; omega
        have hba : Below wr.heap.size wr (wr.alloc (.cells #[.int .i64 p, .slice ga' k.len ca'] 45)) := (Below.refl _ _).alloc (Nat.le_refl _) _
        have hka := (hk'.below hbw (fun _ hk => hk)).below hba (fun k (hk : k < B) => Nat.lt_of_lt_of_le hk hBr)
        have hw := bldWriteByte B b lr 32 _ (hbr.below hba) (by omega) (Nat.le_trans hBr hba.size)
        rw [show (32 : UInt8).toNat = 32 from rfl] at hw
        have hgk4 := (Hgk2.out.bld hkw Hab.out (by decide)).alloc (.cells #[.int .i64 p, .slice ga' k.len ca'] 45)
        have htk4 := Bk.new wr 45 [.int .i64 p, .slice ga' k.len ca']
        have hsb : wr.heap.size ≠ b := by have := hbr.lt; omega
        have hgw4 := Hgw2.out.trans ((hbw.trans (hba.mono hBr)).mono HgB.out)
        have hcall : ∀ W, Below B (wr.alloc (.cells #[.int .i64 p, .slice ga' k.len ca'] 45)) W → BldIs B b (lr ++ [32]) W → _ := fun W hB4 hbi4 =>
          ih k.nodes hlt' p k W wg ga' ca' B b (lr ++ [32]) rfl hok.1 hok.2.1 HG.out HgB.out (hgw4.trans (hB4.mono HgB.out)) (hka.below hB4 (fun _ hk => hk)) hbi4 (by rw [List.length_append, List.length_singleton]; omega)
        have hn3 : ((lr ++ [32]) ++ Tr.txtT G p (Tr.txtF G k)).length + 300001 * r'.nodes ≤ 100000000000000 := by
          have h1 := txtF_len hsh k
          have h2 := txtT_len hsh p (Tr.txtF G k)
          simp only [List.length_append, List.length_singleton]
          omega
        have Hok2 := hid hok.2.2
        have Hn3 := hid hn3
        have Hn1 := hid hn1
        have Hw := hid hw
        have Hcall := hid hcall
        have Hr' := hid hr'
        have Hba := hid hba
        have Hl := hid hl
        have Hi := hid hi
        have Hk := hid hkk
        have HBr := hid hBr
        have Hg4 := hid hgk4
        have Ht4 := hid htk4
        have Hsb := hid hsb
        have Hbw := hid hbw
        have Hkw := hid hkw
        clear hcall hka hr' hba hl hi hkk c0 c1 hk' hlt' hBr hn1 hn2 hn3 hok hw hgk4 htk4 hsb hgw4 hbw hkw hbr
        go_wp2_with (first
          | (go_at_call 117; refine (Hid.out Hw).mono ?_; rintro e1 w4 ⟨rfl, hbi4, hb4, hkp4⟩; have h4g := (Hid.out Hg4).bld hkp4 Hab.out (by decide); have h4t := (Hid.out Ht4).bld hkp4 (Hid.out Hsb) (by decide); have q0 := h4g.cell 0; have q1 := h4g.cell 1; have q2 := h4g.cell 2; have q3 := h4g.cell 3; have q4 := h4g.cell 4; have s0 := h4t.cell 0; have s1 := h4t.cell 1; simp only [List.getElem?_cons_zero, List.getElem?_cons_succ] at q0 q1 q2 q3 q4 s0 s1; have hc4 := (Hid.out Hcall) w4 hb4 hbi4; have Hc4 := hid hc4; have Hb4 := hid hb4; have Hkp4 := hid hkp4; clear hc4 hb4 hkp4 h4g h4t hbi4 c0' c1')
          | (go_at_call 75; refine (Hid.out Hc4).mono ?_; rintro e w5 ⟨rfl, hbi5, hb5, hkp5⟩))
        go_roundg r'.len
        case measure => have := Hk.out; rw [Fo.len] at this; omega
        case rel => exact ⟨i + 1, r', _, by go_num, Hr'.out, by have := Hi.out; omega, by rw [← Hl.out]; simp only [List.append_assoc, List.cons_append, List.nil_append], hbi5, ((Hbw.out.trans (Hba.out.mono HBr.out)).trans Hb4.out).trans hb5, ((Hkw.out.trans (BldKp.below Hba.out)).trans Hkp4.out).trans hkp5, rfl, by have := Hn1.out; omega, Hn3.out, Hok2.out⟩
theorem ttext_calls (m : Nat) : TTextSays G gn gt gp cn ct cp m := by
  induction m using Nat.strongRecOn with
  | ind m ih => exact ttext_step hS hsh m ih
end
theorem Pl.apartS_short {most : Int} : ∀ (ss : List ByteArray) (seen : List (List UInt8)), Pl.apartS most seen ss = true → ∀ s ∈ ss, (s.size : Int) ≤ most
  | [], _, _, s, hs => by simp at hs
  | x :: r, seen, h, s, hs => by
    unfold Pl.apartS at h
    split at h
    · cases h
    · rename_i h1
      rcases List.mem_cons.1 hs with rfl | hs
      · simp only [not_or] at h1
        omega
      · exact Pl.apartS_short r _ h s hs
theorem shortG {G : Gr} (h : Pl.soundB G = true) : ShortG G := by
  unfold Pl.soundB at h
  split at h
  · cases h
  · rename_i h1
    split at h
    · cases h
    · rename_i h2
      simp only [not_or] at h1 h2
      exact ⟨fun s hs => by have := Pl.apartS_short _ _ (by simpa using h1.2.2.2.2) s hs; omega, fun s hs => by have := Pl.apartS_short _ _ (by simpa using h2.2.1) s hs; omega⟩
theorem Tr.okF_of (G : Gr) : ∀ (f : Fo) (xs : List Int), f.len = xs.length → Tr.chkF G xs f = true → Tr.okF G f
  | .nil, _, _, _ => trivial
  | .cons p k r, [], h, _ => by simp [Fo.len] at h
  | .cons p k r, s :: ys, h, hc => by
    simp only [Tr.chkF, Bool.and_eq_true, decide_eq_true_eq] at hc
    obtain ⟨⟨⟨h1, h2, h3⟩, _⟩, h4⟩ := hc
    exact ⟨h1, Tr.okF_of G k _ h2.symm h3, Tr.okF_of G r ys (by simpa [Fo.len] using h) h4⟩
/-- What Text answers. -/
def Tr.textS (G : Gr) (p : Int) (kids : Fo) : List UInt8 := if (Pl.soundB G && Tr.chkT G p kids) = true then Tr.txtT G p (Tr.txtF G kids) else []
section
variable (w : World) (G : Gr) (gn gt gp : Option Addr) (cn ct cp : Nat) (h : GIn w G gn gt gp) (p : Int) (kids : Fo) (gk : Option Addr) (ck : Nat) (hn : kids.nodes ≤ 300000000) (hat : FoAt w (fun k => k < w.heap.size) gk kids 0)
include h hn hat
set_option maxHeartbeats 2000000 in
/-- tree.Text of any tree by any grammar. -/
theorem treeText_calls :
    Calls Try.prog 30 #[.agg #[.int .i64 G.start, .int .i64 G.rules, .slice gn G.names.length cn, .slice gt G.terms.length ct, .slice gp G.prods.length cp], .agg #[.int .i64 p, .slice gk kids.len ck]] w fun e w' => e = .returned (.string ⟨(Tr.textS G p kids).toArray⟩) ∧ Below w.heap.size w w' := by
  have hk2 := (Bk.new w 30 [.int .i64 G.start, .int .i64 G.rules, .slice gn G.names.length cn, .slice gt G.terms.length ct, .slice gp G.prods.length cp]).alloc (.cells #[.int .i64 p, .slice gk kids.len ck] 45)
  have hk3 := bk_at (Bk.new (w.alloc (.cells #[.int .i64 G.start, .int .i64 G.rules, .slice gn G.names.length cn, .slice gt G.terms.length ct, .slice gp G.prods.length cp] 30)) 45 [.int .i64 p, .slice gk kids.len ck]) (show _ = w.heap.size + 1 by simp)
  have hb0 : Below w.heap.size w ((w.alloc (.cells #[.int .i64 G.start, .int .i64 G.rules, .slice gn G.names.length cn, .slice gt G.terms.length ct, .slice gp G.prods.length cp] 30)).alloc (.cells #[.int .i64 p, .slice gk kids.len ck] 45)) := bel_al (bel_al (bel_id w) _) _
  have hck := tcheck_all _ G gn gt gp cn ct cp (h.later hb0) p kids gk ck (by omega) ((hat.below hb0 (fun _ h => h)).mono (fun k hk => Nat.lt_of_lt_of_le hk hb0.size))
  obtain ⟨wa, hwa⟩ : ∃ wa, wa = ((w.alloc (.cells #[.int .i64 G.start, .int .i64 G.rules, .slice gn G.names.length cn, .slice gt G.terms.length ct, .slice gp G.prods.length cp] 30)).alloc (.cells #[.int .i64 p, .slice gk kids.len ck] 45)) := ⟨_, rfl⟩
  obtain ⟨b2, hb2⟩ : ∃ b2, b2 = w.heap.size := ⟨_, rfl⟩
  obtain ⟨b3, hb3⟩ : ∃ b3, b3 = b2 + 1 := ⟨_, rfl⟩
  rw [← hwa] at hk2 hk3 hb0 hck
  rw [← hb2] at hk2 hk3
  rw [← hb3] at hk3
  have g0 := hk2.cell 0
  have g1 := hk2.cell 1
  have g2 := hk2.cell 2
  have g3 := hk2.cell 3
  have g4 := hk2.cell 4
  have y0 := hk3.cell 0
  have y1 := hk3.cell 1
  simp only [List.getElem?_cons_zero, List.getElem?_cons_succ] at g0 g1 g2 g3 g4 y0 y1
  have Hb0 := hid hb0
  have Hk2 := hid hk2
  have Hk3 := hid hk3
  have Hwa := hid hwa
  have HB := hid (And.intro hb2 hb3)
  have Hn := hid hn
  have H := hid h
  have Hat := hid hat
  clear hwa hb2 hb3 hb0 hk2 hk3 hn h hat
  cases hc : (Pl.soundB G && Tr.chkT G p kids) with
  | false =>
    rw [hc] at hck
    have he : Tr.textS G p kids = [] := by unfold Tr.textS; rw [if_neg (by simp [hc])]
    rw [he]
    clear he hc
    go_enter Try.func30, Try.ntmps30
    go_upto_region 1 with fail
    rw [← Hwa.out, ← HB.out.1, ← HB.out.2]
    go_wp2_with (go_at_call 24; refine hck.mono ?_; rintro e w1 ⟨rfl, hb1⟩)
    go_ret
    exact ⟨rfl, belw Hb0.out hb1⟩
  | true =>
    rw [hc] at hck
    have he : Tr.textS G p kids = Tr.txtT G p (Tr.txtF G kids) := by unfold Tr.textS; rw [if_pos hc]
    rw [he]
    simp only [Bool.and_eq_true] at hc
    obtain ⟨hs, hct⟩ := hc
    have hsn := sndG hs
    have hsh := shortG hs
    unfold Tr.chkT at hct
    simp only [Bool.and_eq_true, decide_eq_true_eq] at hct
    have hok := Tr.okF_of G kids _ hct.2.1.symm hct.2.2
    have hch : ChIn w G gn gt gp := ⟨H.out, by have := hsn.t1; omega, by have := hsn.p1; omega, fun x hx => by have := hsn.r16 x hx; omega⟩
    have hcall : ∀ (w1 : World) (B b : Nat), w.heap.size ≤ B → Below w.heap.size w w1 → BldIs B b [] w1 → _ := fun w1 B b hB hb1 hbi =>
      ttext_calls (gn := gn) (gt := gt) (gp := gp) (cn := cn) (ct := ct) (cp := cp) hsn hsh kids.nodes p kids w1 w gk ck B b [] rfl hct.1 hok hch hB hb1 ((Hat.out.below hb1 (fun _ h => h)).mono (fun k hk => Nat.lt_of_lt_of_le hk hB)) hbi (by have := Hn.out; simp; omega)
    have Hcall := hid hcall
    clear hcall hch hok hct hsh hsn hs he
    go_enter Try.func30, Try.ntmps30
    go_upto_region 1 with fail
    rw [← Hwa.out, ← HB.out.1, ← HB.out.2]
    go_upto_region 3 with (go_at_call 24; refine hck.mono ?_; rintro e w1 ⟨rfl, hb1⟩)
    have hb2 := belw hb1 (bel_al (bel_id w1) (.cells #[.pointer none, .slice none 0 0] 121))
    have hz1 := hb1.size
    have d2 := (Hk2.out.below hb2 Hk2.out.lt)
    have d3 := (Hk3.out.below hb2 Hk3.out.lt)
    have hc2 := Hcall.out _ _ _ (Nat.le_trans Hb0.out.size hz1) (belw Hb0.out hb2) (BldIs.new w1)
    rw [List.nil_append] at hc2
    have Hb1 := hid (belw Hb0.out hb2)
    obtain ⟨w2, hw2⟩ : ∃ w2, w2 = (w1.alloc (.cells #[.pointer none, .slice none 0 0] 121)) := ⟨_, rfl⟩
    rw [← hw2] at d2 d3 hc2 Hb1
    have hs2 : w2.heap.size = w1.heap.size + 1 := by rw [hw2]; simp
    obtain ⟨N1, hN1⟩ : ∃ N1, N1 = w1.heap.size := ⟨_, rfl⟩
    rw [← hN1] at hc2 hz1
    rw [← hN1] at hs2
    have u0 := d2.cell 0
    have u1 := d2.cell 1
    have u2 := d2.cell 2
    have u3 := d2.cell 3
    have u4 := d2.cell 4
    have z0 := d3.cell 0
    have z1 := d3.cell 1
    simp only [List.getElem?_cons_zero, List.getElem?_cons_succ] at u0 u1 u2 u3 u4 z0 z1
    have Hs2 := hid (And.intro hs2 (Nat.le_trans Hb0.out.size hz1))
    have HN1 := hid hN1
    have Hw2 := hid hw2
    clear hs2 hN1 hw2 hz1 hb1 hb2 d2 d3 g0 g1 g2 g3 g4 y0 y1
    go_upto_region 4 with fail
    rw [← Hw2.out, ← HN1.out]
    go_wp2_with (first
      | (go_at_call 75; refine hc2.mono ?_; rintro e w3 ⟨rfl, hbi3, hb3, hkp3⟩)
      | (go_at_call 71; refine (bldString N1 N1 _ w3 hbi3 (Nat.le_of_lt hbi3.lt)).mono ?_; rintro e w4 ⟨rfl, hbi4, hb4, hkp4⟩))
    go_ret
    exact ⟨rfl, Hb1.out.trans ((hb3.trans hb4).mono Hs2.out.2)⟩
end
end Go.Proofs.Ytaehooafdbaomaa
