/- Chapter 5, the document's Parse of a text that is scanned. -/
import Derived.Test.YtjaampgpihicmaaRef05e
import Derived.Test.YtjaampgpihicmaaLexRef3
namespace Go.Proofs.Ytjaampgpihicmaa
open Go.RowKit
attribute [local go_sem ↓] Go.wp_at_zero Go.wp_at_succ
attribute [local go_sem] frozen_alloc_lt
open Syn (Nd Nod)

theorem scan_kinds {l : List UInt8} {T : List Lex.Tok} (h : Lex.scan l = .good T) : T.length ≤ l.length + 1 ∧ 0 < T.length ∧ (Syn.tk T (T.length - 1)).kind = 4 ∧ ∀ i, 0 < (Syn.tk T i).kind := by
  obtain ⟨ts, e, rfl, h2, h3, h4⟩ := Lex.scan_ok h
  have hek : e.kind = 4 := congrArg Prod.fst h2
  have h5 : ∀ i, ts.length ≤ i → (Syn.tk (ts ++ [e]) i).kind = 4 := fun i hi => by
    rcases Nat.lt_or_ge i (ts.length + 1) with h | h
    · have : i = 0 + ts.length := by omega
      rw [this, Syn.tk_app']
      exact hek
    · exact Syn.tk_end (by simp; omega)
  refine ⟨by simp; omega, by simp, h5 _ (by simp), fun i => ?_⟩
  rcases Nat.lt_or_ge i ts.length with h1 | h1
  · have e1 : Syn.tk (ts ++ [e]) i = ts[i] := by rw [Syn.tk_app h1]; unfold Syn.tk; rw [List.getD, List.getElem?_eq_getElem h1]; rfl
    rw [e1]
    rcases h3 _ (List.getElem_mem h1) with ⟨a, _⟩ | ⟨a, _⟩ | ⟨a, _⟩ <;> omega
  · rw [h5 i h1]; decide
/-- Tokens that Scan has made. -/
theorem rtoks_read {w : World} {base g cap : Nat} {ts : List Lex.Tok} (h : w.ownsRow base 157 4 (.slice (some ⟨g, 0, none⟩) ts.length cap) ts.length (toksV ts)) (hg : g < w.heap.size) : TokR w w.heap.size (some ⟨g, 0, none⟩) ts := by
  have hc : ∀ (j : Nat) (u : Value), (toksV ts)[j]? = some u → w.cell? ⟨g, j, none⟩ = some u := by
    intro j u hu
    have := h.cells (g := g) rfl j u hu
    rwa [addr_add0] at this
  have hat : ∀ (ts : List Lex.Tok) (i : Nat) (t : Lex.Tok), ts[i]? = some t → ∀ j u, (tokV t)[j]? = some u → (toksV ts)[i * 4 + j]? = some u := by
    intro ts
    induction ts with
    | nil => intro i t h; simp at h
    | cons a r ih =>
      intro i t h j u hu
      have hl : (tokV a).length = 4 := rfl
      have e : toksV (a :: r) = tokV a ++ toksV r := rfl
      rw [e]
      cases i with
      | zero =>
        simp at h
        subst h
        rw [Nat.zero_mul, Nat.zero_add, List.getElem?_append_left (List.getElem?_eq_some_iff.1 hu).1]
        exact hu
      | succ i =>
        rw [List.getElem?_append_right (by omega), hl, show (i + 1) * 4 + j - 4 = i * 4 + j by omega]
        exact ih i t (by simpa using h) j u hu
  intro i t ht
  refine ⟨g, 0, rfl, hg, ?_, ?_, ?_, ?_⟩
  · rw [Nat.zero_add]; exact hc _ _ (hat ts i t ht 0 _ rfl)
  · rw [Nat.zero_add]; exact hc _ _ (hat ts i t ht 1 _ rfl)
  · rw [Nat.zero_add]; exact hc _ _ (hat ts i t ht 2 _ rfl)
  · rw [Nat.zero_add]; exact hc _ _ (hat ts i t ht 3 _ rfl)
def RHd (T : List Lex.Tok) (w0 : World) (B bp : Nat) (gT : Option Addr) (cT b bg : Nat) (w : World) : Prop :=
  ∃ st i o f, RGr w0 B bp gT cT T b bg st (.slice none 0 0) [] i o f w.heap.size w ∧ ((f = no ∧ o = 0 ∧ Syn.headS T = .ok st i 0) ∨ (f.code ≠ 0 ∧ Syn.headS T = .bad f))
def ROutP (T : List Lex.Tok) (R : Syn.Res (List (List UInt8 × Nod))) (w0 : World) (B bp : Nat) (gT : Option Addr) (cT b bg : Nat) (st : List UInt8) (w : World) : Prop :=
  ∃ v rs i o f, RGr w0 B bp gT cT T b bg st v rs i o f w.heap.size w ∧ ((f = no ∧ (∃ j p, R = .ok rs j p) ∧ rs ≠ []) ∨ (f.code ≠ 0 ∧ R = .bad f))
def RPRel (T : List Lex.Tok) (R : Syn.Res (List (List UInt8 × Nod))) (w0 : World) (B bp : Nat) (gT : Option Addr) (cT b bg : Nat) (st : List UInt8) (k : Nat) (w : World) : Prop :=
  ∃ m v rs i o f, k = m ∧ RGr w0 B bp gT cT T b bg st v rs i o f w.heap.size w ∧ rs.length ≤ 65 ∧ ((f = no ∧ o = 0 ∧ Syn.rulesF T m rs i 0 = some R ∧ rs.length ≤ 64) ∨ (f.code ≠ 0 ∧ R = .bad f))
/-- A rule's name is read; it stands in its block. -/
def RNm (T : List Lex.Tok) (R : Syn.Res (List (List UInt8 × Nod))) (K : List UInt8 → Nat → Prop) (w0 : World) (B bp : Nat) (gT : Option Addr) (cT b bg : Nat) (st : List UInt8) (v : Value) (rs : List (List UInt8 × Nod)) (H br : Nat) (w : World) : Prop :=
  ∃ nm j o f, RGr w0 B bp gT cT T b bg st v rs j o f H w ∧ Bk w br 94 [.string ⟨nm.toArray⟩, .int .i64 0, .string ⟨#[]⟩, .slice none 0 0] ∧ ((f = no ∧ o = 0 ∧ K nm j ∧ rs.length + 1 ≤ 64) ∨ (f.code ≠ 0 ∧ R = .bad f))
/-- A rule's body is read. -/
def RBd (T : List Lex.Tok) (R : Syn.Res (List (List UInt8 × Nod))) (K : List UInt8 → Nod → Nat → Prop) (w0 : World) (B bp : Nat) (gT : Option Addr) (cT b bg : Nat) (st : List UInt8) (v : Value) (rs : List (List UInt8 × Nod)) (H br : Nat) (w : World) : Prop :=
  ∃ x gk ck j o f, RGr w0 B bp gT cT T b bg st v rs j o f H w ∧ RRu H br x gk ck w ∧ ((f = no ∧ o = 0 ∧ K x.1 x.2 j ∧ rs.length + 1 ≤ 64) ∨ (f.code ≠ 0 ∧ R = .bad f))
/-- What parse answers, out of its parts. -/
theorem parts_of {T : List Lex.Tok} {st : List UInt8} {i o : Nat} {f : Lex.Flt} (h : (f = no ∧ o = 0 ∧ Syn.headS T = .ok st i 0) ∨ (f.code ≠ 0 ∧ Syn.headS T = .bad f)) :
    ∃ R, ((f = no ∧ o = 0 ∧ Syn.rulesF T (5 * T.length + 6) [] i 0 = some R) ∨ (f.code ≠ 0 ∧ R = .bad f)) ∧ (∀ rs j p, R = .ok rs j p → Syn.parseT T = .ok (Syn.startOr st rs) rs) ∧ ∀ g, R = .bad g → Syn.parseT T = .bad g := by
  rcases h with ⟨rfl, rfl, h⟩ | ⟨h1, h⟩
  · obtain ⟨x, hx, _⟩ := Syn.rules_fine T (5 * T.length + 6) [] i 0 (by omega)
    refine ⟨x, .inl ⟨rfl, rfl, hx⟩, fun rs j p e => ?_, fun g e => ?_⟩ <;> (subst e; unfold Syn.parseT; simp only [h, hx])
  · refine ⟨.bad f, .inr ⟨h1, rfl⟩, (fun rs j p e => by cases e), fun g e => ?_⟩
    cases e
    unfold Syn.parseT
    simp only [h]
theorem rparse_results (W : World) (b c : Nat) (x y : Value) (l m n : Value) (tmps : Array Value) (h2 : tmps[2]?.getD undef = .pointer (some ⟨b, 0, none⟩)) (h3 : tmps[3]?.getD undef = .pointer (some ⟨c, 0, none⟩)) (hb : Bk W b 33 [x, y]) (hc : Bk W c 35 [l, m, n]) :
    (results Try.f16 tmps).run Try.prog W = .ok (.tuple #[.agg #[x, y], .agg #[l, m, n]]) W := by
  have b0 := hb.cell 0
  have b1 := hb.cell 1
  have c0 := hc.cell 0
  have c1 := hc.cell 1
  have c2 := hc.cell 2
  simp only [List.getElem?_cons_zero, List.getElem?_cons_succ] at b0 b1 c0 c1 c2
  simp only [results, Try.results16]
  simp [h2, h3, go_sem, b0, b1, c0, c1, c2]
set_option maxRecDepth 8000 in
set_option maxHeartbeats 8000000 in
theorem rparse_good (s : ByteArray) (w : World) (hs : s.size ≤ 2000) {T : List Lex.Tok} (h : Lex.scan s.data.toList = .good T) :
    Calls Try.prog 16 #[.string s] w fun e w' => ParsePost w e w' (Syn.parseT T) := by
  obtain ⟨hTl, hT0, hTe, hK⟩ := scan_kinds h
  have hT : T.length ≤ 4096 := by have : s.data.toList.length = s.size := by simp
                                  omega
  have hb0 : Below w.heap.size w ((w.alloc (.cells #[.string ⟨#[]⟩, .slice none 0 0] 33)).alloc (.cells #[.int .i64 0, .int .i64 0, .int .i64 0] 35)) := bel_trans (bel_new _ _) (bel_new _ _)
  have hsc := rscan_calls s ((w.alloc (.cells #[.string ⟨#[]⟩, .slice none 0 0] 33)).alloc (.cells #[.int .i64 0, .int .i64 0, .int .i64 0] 35)) (by omega)
  rw [h] at hsc
  have rb := (Bk.new w 33 [.string ⟨#[]⟩, .slice none 0 0]).alloc (.cells #[.int .i64 0, .int .i64 0, .int .i64 0] 35)
  have rc := Bk.new (w.alloc (.cells #[.string ⟨#[]⟩, .slice none 0 0] 33)) 35 [.int .i64 0, .int .i64 0, .int .i64 0]
  rw [show (w.alloc (.cells #[.string ⟨#[]⟩, .slice none 0 0] 33)).heap.size = w.heap.size + 1 by simp] at rc
  simp only [RScanPost] at hsc
  obtain ⟨wa, hwa⟩ : ∃ wa, wa = ((w.alloc (.cells #[.string ⟨#[]⟩, .slice none 0 0] 33)).alloc (.cells #[.int .i64 0, .int .i64 0, .int .i64 0] 35)) := ⟨_, rfl⟩
  have hwas : wa.heap.size = w.heap.size + 2 := by rw [hwa]; simp
  obtain ⟨b, hb⟩ : ∃ b, b = w.heap.size := ⟨_, rfl⟩
  obtain ⟨c, hc⟩ : ∃ c, c = w.heap.size + 1 := ⟨_, rfl⟩
  rw [← hwa] at hb0 hsc rb rc
  rw [← hc] at rc
  rw [← hb] at rb
  have HW := hid hwa
  have HWS := hid hwas
  have HB := hid hb
  have HC := hid hc
  have HT := hid (And.intro (And.intro hTl hT0) (And.intro hTe hK))
  have Hb0 := hid hb0
  clear hwa hwas hb hc hTl hT0 hTe hK h hb0
  go_enter Try.func16, Try.ntmps16
  go_upto_region 1 with fail
  rw [← HW.out, ← HC.out, ← HB.out]
  go_upto_region 6 with (go_at_call 52; refine hsc.mono ?_; rintro e w1 ⟨tv, rfl, hown, hb1⟩; obtain ⟨g, cap, rfl, -, hg⟩ := hown.form HT.out.1.2)
  have htr := rtoks_read hown hg
  have hgge : wa.heap.size ≤ g := (hown.lt g rfl).1
  have rb1 := rb.below hb1 rb.lt
  have rc1 := rc.below hb1 rc.lt
  have hw1 := hb1.size
  have hbl1 : Below b w w1 := by
    rw [HB.out]
    exact Hb0.out.trans (hb1.mono (by have := HWS.out; omega))
  have hk3 : Kp (fun _ => False) w1 (((w1.alloc (.cells #[.int .i64 0, .int .i64 0, .int .i64 0] 35)).alloc (.cells #[.slice (some ⟨g, 0, none⟩) T.length cap, .int .i64 0, .int .i64 0, .int .i64 0, .int .i64 0, .int .i64 0] 108)).alloc (.cells #[.string ⟨#[]⟩, .slice none 0 0] 33)) := (((Kp.refl _ w1).alloc _).alloc _).alloc _
  have rp := (Bk.new (w1.alloc (.cells #[.int .i64 0, .int .i64 0, .int .i64 0] 35)) 108 [.slice (some ⟨g, 0, none⟩) T.length cap, .int .i64 0, .int .i64 0, .int .i64 0, .int .i64 0, .int .i64 0]).alloc (.cells #[.string ⟨#[]⟩, .slice none 0 0] 33)
  have rg := Bk.new ((w1.alloc (.cells #[.int .i64 0, .int .i64 0, .int .i64 0] 35)).alloc (.cells #[.slice (some ⟨g, 0, none⟩) T.length cap, .int .i64 0, .int .i64 0, .int .i64 0, .int .i64 0, .int .i64 0] 108)) 33 [.string ⟨#[]⟩, .slice none 0 0]
  rw [show (w1.alloc (.cells #[.int .i64 0, .int .i64 0, .int .i64 0] 35)).heap.size = w1.heap.size + 1 by simp] at rp
  rw [show ((w1.alloc (.cells #[.int .i64 0, .int .i64 0, .int .i64 0] 35)).alloc (.cells #[.slice (some ⟨g, 0, none⟩) T.length cap, .int .i64 0, .int .i64 0, .int .i64 0, .int .i64 0, .int .i64 0] 108)).heap.size = w1.heap.size + 1 + 1 by simp] at rg
  obtain ⟨wq, hwq⟩ : ∃ wq, wq = (((w1.alloc (.cells #[.int .i64 0, .int .i64 0, .int .i64 0] 35)).alloc (.cells #[.slice (some ⟨g, 0, none⟩) T.length cap, .int .i64 0, .int .i64 0, .int .i64 0, .int .i64 0, .int .i64 0] 108)).alloc (.cells #[.string ⟨#[]⟩, .slice none 0 0] 33)) := ⟨_, rfl⟩
  have hwqs : wq.heap.size = w1.heap.size + 3 := by rw [hwq]; simp
  obtain ⟨bg, hbg⟩ : ∃ bg, bg = w1.heap.size + 1 + 1 := ⟨_, rfl⟩
  obtain ⟨bp, hbp⟩ : ∃ bp, bp = w1.heap.size + 1 := ⟨_, rfl⟩
  rw [← hwq] at hk3 rp rg ⊢
  rw [← hbg] at rg ⊢
  rw [← hbp] at rp ⊢
  have hcb : c = b + 1 := by have := HB.out; have := HC.out; omega
  have hgr : RGr w bp bp (some ⟨g, 0, none⟩) cap T b bg [] (.slice none 0 0) [] 0 0 no wq.heap.size wq := by
    refine ⟨rb1.kp hk3 (fun e => e), ?_, rg, OwnA.nil _ _ _ _ _, fun k hk => by simp [Value.ownBlock] at hk, ⟨?_, rp, Nat.le_refl _, by omega, HT.out.1.2, HT.out.2.1⟩, hbl1.trans (hk3.to_below (by have := HB.out; have := HWS.out; omega) (fun _ e => e.elim)), HB.out, ?_, ?_, ?_, Nat.le_refl _⟩
    · have := rc1.kp hk3 (fun e => e)
      rw [hcb] at this
      exact this
    · intro i t ht
      obtain ⟨g', off, e, h1, h2, h3, h4, h5⟩ := htr i t ht
      exact ⟨g', off, e, by omega, hk3.cell h2 (fun e => e), hk3.cell h3 (fun e => e), hk3.cell h4 (fun e => e), hk3.cell h5 (fun e => e)⟩
    · have := HB.out; have := HWS.out; omega
    · omega
    · omega
  have Hgr := hid hgr
  have HCB := hid hcb
  have Hlt := hid (And.intro (show c < bp by have := HC.out; have := HWS.out; omega) (And.intro (show bp < bg by omega) hwqs))
  clear hgr hcb hwqs hwq hbg hbp hk3 rp rg rb1 rc1 hbl1 htr hown hgge hb1 hw1 hg hsc rb rc
  go_upto_if 26 with (go_at_call 53; refine (ris_ok hT Hgr.out.sta [37]).mono ?_; rintro e w2 ⟨rfl, hg2, hs2⟩)
  have hgr2 := Hgr.out.grown hg2 hs2
  have Hgr2 := hid hgr2
  clear hgr2 hg2 hs2 Hgr
  have hf0 : Syn.far T 0 = false := far_no hT HT.out.1.2
  go_cut [] (fun wx => RHd T w bp bp (some ⟨g, 0, none⟩) cap b bg wx)
  case first =>
    cases hs : Syn.isS T 0 [37] with
    | false =>
      have Hs := hid hs
      clear hs
      go_wp2_with fail
      go_meet
      have hb5 := Hgr2.out.bb
      exact ⟨[], 0, 0, no, Hgr2.out.up (by omega) (Nat.le_refl _), .inl ⟨rfl, rfl, by unfold Syn.headS; rw [hf0, Hs.out]; rfl⟩⟩
    | true =>
      have hj := lt_last Hgr2.out.sta.lt Hgr2.out.sta.last (by unfold Syn.isS at hs; simp at hs; omega)
      have k1 := Hgr2.out.sta.k.cell 1
      have fr1 := Hgr2.out.sta.k.free 1
      simp only [List.getElem?_cons_zero, List.getElem?_cons_succ] at k1
      have hgr3 : RGr w bp bp (some ⟨g, 0, none⟩) cap T b bg [] (.slice none 0 0) [] 1 0 no wq.heap.size (w2.setCell ⟨bp, 1, none⟩ (.int .i64 1)) := Hgr2.out.at 1 hj
      have Hgr3 := hid hgr3
      have Hf0 := hid hf0
      have Hs := hid hs
      clear hgr3 hj hf0 hs
      cases hn : Syn.nameS T 1 0 with
      | bad fl =>
        have hfl := Syn.nameS_code hn
        have Hfl := hid hfl
        have Hn := hid hn
        clear hfl hn
        go_wp2_with (first
          | (go_at_call 55; refine (rneed_bad (Hid.out Hgr5).sta Hfl.out [59]).mono ?_; rintro e4 w4 ⟨rfl, hg4, hs4⟩)
          | (go_at_call 54; refine (rname_no Hgr3.out.sta).mono ?_; rintro e3 w3 hP; obtain ⟨am, _, j3, o3, rfl, rfl, hs3, hg3⟩ := SEnd.whenBad hP Hn.out; clear hP; have hgr4 := Hgr3.out.grown hg3 hs3; have c0 := hgr4.g.cell 0; have c1 := hgr4.g.free 0; have hl3 := hgr4.g.lt; simp only [List.getElem?_cons_zero] at c0; have Hgr5 := hid (hgr4.start am); clear hgr4 hs3 hg3))
        go_meet
        have hgr6 := Hgr5.out.grown hg4 hs4
        have hb5 := hgr6.bb
        exact ⟨_, _, _, fl, hgr6.up (by omega) (Nat.le_refl _), .inr ⟨Hfl.out, by unfold Syn.headS; rw [Hf0.out, Hs.out, Hn.out]; rfl⟩⟩
      | ok nm i2 o2 =>
        obtain ⟨-, -, hi2, ho2⟩ := Syn.nameS_ok hn
        subst ho2
        have Hn := hid hn
        clear hn hi2
        cases ht : Syn.takeS T [59] i2 0 with
        | bad fl =>
          have hfl := Syn.takeS_code ht
          have Hfl := hid hfl
          have Ht := hid ht
          clear hfl ht
          go_wp2_with (first
            | (go_at_call 55; refine (rneed_no (Hid.out Hgr5).sta [59]).mono ?_; rintro e4 w4 hP; obtain ⟨_, _, j4, o4, rfl, rfl, hs4, hg4⟩ := SEnd.whenBad hP Ht.out; clear hP)
            | (go_at_call 54; refine (rname_no Hgr3.out.sta).mono ?_; rintro e3 w3 hP; obtain ⟨⟨_, rfl, rfl⟩, hs3, hg3⟩ := SEnd.whenOk hP Hn.out; clear hP; have hgr4 := Hgr3.out.grown hg3 hs3; have c0 := hgr4.g.cell 0; have c1 := hgr4.g.free 0; have hl3 := hgr4.g.lt; simp only [List.getElem?_cons_zero] at c0; have Hgr5 := hid (hgr4.start nm); clear hgr4 hs3 hg3))
          go_meet
          have hgr6 := Hgr5.out.grown hg4 hs4
          have hb5 := hgr6.bb
          exact ⟨_, _, _, fl, hgr6.up (by omega) (Nat.le_refl _), .inr ⟨Hfl.out, by unfold Syn.headS; rw [Hf0.out, Hs.out, Hn.out]; simp only [Bool.false_eq_true, if_false, if_true, Ht.out]⟩⟩
        | ok u i3 o3 =>
          obtain ⟨-, -, ho3⟩ := Syn.takeS_ok ht
          subst ho3
          have Ht := hid ht
          clear ht
          go_wp2_with (first
            | (go_at_call 55; refine (rneed_no (Hid.out Hgr5).sta [59]).mono ?_; rintro e4 w4 hP; obtain ⟨⟨_, rfl, rfl⟩, hs4, hg4⟩ := SEnd.whenOk hP Ht.out; clear hP)
            | (go_at_call 54; refine (rname_no Hgr3.out.sta).mono ?_; rintro e3 w3 hP; obtain ⟨⟨_, rfl, rfl⟩, hs3, hg3⟩ := SEnd.whenOk hP Hn.out; clear hP; have hgr4 := Hgr3.out.grown hg3 hs3; have c0 := hgr4.g.cell 0; have c1 := hgr4.g.free 0; have hl3 := hgr4.g.lt; simp only [List.getElem?_cons_zero] at c0; have Hgr5 := hid (hgr4.start nm); clear hgr4 hs3 hg3))
          go_meet
          have hgr6 := Hgr5.out.grown hg4 hs4
          have hb5 := hgr6.bb
          exact ⟨_, _, _, no, hgr6.up (by omega) (Nat.le_refl _), .inl ⟨rfl, rfl, by unfold Syn.headS; rw [Hf0.out, Hs.out, Hn.out]; simp only [Bool.false_eq_true, if_false, if_true, Ht.out]⟩⟩
  case rest =>
    obtain ⟨st, i, o, f, hgr, hcase⟩ := hcut
    obtain ⟨R, hR, hok, hbd⟩ := parts_of hcase
    have Hgr := hid hgr
    have HR := hid hR
    have Hok := hid hok
    have Hbd := hid hbd
    clear hcase hgr hR hok hbd hf0 Hgr2
    go_upto_block 0 with fail
    go_cut [] (fun wx => ROutP T R w bp bp (some ⟨g, 0, none⟩) cap b bg st wx)
    case first =>
      go_wp2_with fail
      go_loopg [] (5 * T.length + 6) (fun k wr => RPRel T R w bp bp (some ⟨g, 0, none⟩) cap b bg st k wr)
      case atStart =>
        refine ⟨_, _, [], i, o, f, rfl, Hgr.out, by simp, ?_⟩
        rcases HR.out with ⟨h1, h2, h3⟩ | h
        · exact .inl ⟨h1, h2, h3, by simp⟩
        · exact .inr h
      case round =>
        obtain ⟨m, v, rs, i1, o1, f1, hkm, hgr1, hlr, hcase⟩ := hrel
        have k4 := hgr1.sta.k.cell 4
        simp only [List.getElem?_cons_zero, List.getElem?_cons_succ] at k4
        rcases hcase with ⟨rfl, rfl, hr1, hl64⟩ | ⟨hf1, hR1⟩
        · simp only [no] at k4
          obtain ⟨f', rfl⟩ : ∃ f', m = f' + 1 := by
            cases m with
            | zero => simp [Syn.rulesF] at hr1
            | succ f => exact ⟨f, rfl⟩
          rw [Syn.rulesF, far_no hT hgr1.sta.lt, if_neg (by decide)] at hr1
          have hlook := rlook_ok hT hgr1.sta
          obtain ⟨t, ht⟩ : ∃ t, t = Syn.tk T i1 := ⟨_, rfl⟩
          rw [← ht] at hlook hr1
          obtain ⟨z, hz⟩ : ∃ z : Int, z = t.kind := ⟨_, rfl⟩
          rw [← hz] at hlook
          obtain ⟨ga, ca, hv⟩ := hgr1.own.slice
          obtain ⟨L, hL⟩ : ∃ L, L = rs.length := ⟨_, rfl⟩
          obtain ⟨H, hH⟩ : ∃ H, H = wr.heap.size := ⟨_, rfl⟩
          rw [← hH] at hgr1
          rw [← hL] at hv
          have Hgr1 := hid hgr1
          have Hr1 := hid hr1
          have Hkm := hid hkm
          have Hl64 := hid hl64
          have HTk := hid ht
          have HZ := hid hz
          have HL := hid hL
          have HV := hid hv
          have Hlook := hid hlook
          clear hgr1 hr1 hkm hl64 hlr ht hz hL hv hlook hH
          go_upto_region 12 with (go_at_call 56; refine Hlook.out.mono ?_; rintro e w2 ⟨rfl, hg2, hs2⟩)
          have hgr2 := Hgr1.out.grown hg2 hs2
          have n1 := hgr2.g.cell 1
          simp only [List.getElem?_cons_zero, List.getElem?_cons_succ] at n1
          rw [HV.out] at n1
          have Hgr2 := hid hgr2
          clear hgr2 hg2 hs2 k4
          go_cut [57] (fun v57 wx => wx = w2 ∧ v57 = .bool (decide (rs ≠ [] ∧ t.kind = 4)))
          case first =>
            have hz := HZ.out
            have hL := HL.out
            by_cases hz4 : z = 4
            · have ht4 : t.kind = 4 := by omega
              by_cases hL0 : 0 < (L : Int)
              · have hne : rs ≠ [] := by intro e; rw [e] at hL; simp at hL; omega
                have Hd := hid (And.intro ht4 hne)
                clear hz hL ht4 hne
                subst hz4
                go_wp2_with fail
                go_meet
                exact ⟨rfl, congrArg Value.bool ((decide_eq_true (by omega)).trans (decide_eq_true (And.intro Hd.out.2 Hd.out.1)).symm)⟩
              · have hne : ¬ rs ≠ [] := by intro e; exact e (List.eq_nil_of_length_eq_zero (by omega))
                have Hd := hid hne
                clear hz hL ht4 hne
                subst hz4
                go_wp2_with fail
                go_meet
                exact ⟨rfl, congrArg Value.bool ((decide_eq_false (by omega)).trans (decide_eq_false (fun e => Hd.out e.1)).symm)⟩
            · have ht4 : ¬ t.kind = 4 := by omega
              have Hd := hid ht4
              clear hz hL ht4
              go_wp2_with fail
              go_meet
              exact ⟨rfl, by rw [decide_eq_false (fun e => Hd.out e.2)]⟩
          case rest =>
            obtain ⟨hwc, h57⟩ := hcut
            subst hwc h57
            cases hd : decide (rs ≠ [] ∧ t.kind = 4) with
            | true =>
              have hd2 := of_decide_eq_true hd
              have Hd := hid hd2
              clear hd hd2
              go_wp2_with fail
              go_meet
              have hr1 := Hr1.out
              rw [if_pos Hd.out, Option.some.injEq] at hr1
              have hb5 := Hgr2.out.bb
              exact ⟨v, rs, i1, 0, no, Hgr2.out.up (by omega) (Nat.le_refl _), .inl ⟨rfl, ⟨_, _, hr1.symm⟩, Hd.out.1⟩⟩
            | false =>
              have hd2 := of_decide_eq_false hd
              have hr2 := Hr1.out
              rw [if_neg hd2] at hr2
              have Hr2 := hid hr2
              clear hd hd2 hr2 Hr1
              go_upto_region 13 with fail
              go_cut [65] (fun v65 wx => wx = wc ∧ v65 = .bool (decide (t.kind = 1 ∧ rs.length = 64)))
              case first =>
                have hz := HZ.out
                have hL := HL.out
                by_cases hz1 : z = 1
                · have ht1 : t.kind = 1 := by omega
                  by_cases hL0 : (L : Int) = 64
                  · have hl : rs.length = 64 := by omega
                    have Hd := hid (And.intro ht1 hl)
                    have hL2 : L = 64 := by omega
                    clear hz hL ht1 hl hL0
                    subst hz1 hL2
                    go_wp2_with fail
                    go_meet
                    exact ⟨rfl, by rw [decide_eq_true Hd.out]⟩
                  · have hl : ¬ rs.length = 64 := by omega
                    have Hd := hid hl
                    clear hz hL ht1 hl
                    subst hz1
                    go_wp2_with fail
                    go_meet
                    exact ⟨rfl, congrArg Value.bool ((by simpa using hL0 : ((L : Int) == 64) = false).trans (decide_eq_false (fun e => Hd.out e.2)).symm)⟩
                · have ht1 : ¬ t.kind = 1 := by omega
                  have Hd := hid ht1
                  clear hz hL ht1
                  go_wp2_with fail
                  go_meet
                  exact ⟨rfl, by rw [decide_eq_false (fun e => Hd.out e.1)]⟩
              case rest =>
                obtain ⟨hwc, h65⟩ := hcut
                subst hwc h65
                go_upto_if 65 with fail
                go_cut [] (fun wx => ∃ j o f2, RGr w bp bp (some ⟨g, 0, none⟩) cap T b bg st v rs j o f2 H wx ∧ ((f2 = no ∧ o = 0 ∧ K1 T f' rs R j ∧ ((Syn.tk T j).kind = 1 → rs.length + 1 ≤ 64)) ∨ (f2.code ≠ 0 ∧ R = .bad f2)))
                case first =>
                  cases hd : decide (t.kind = 1 ∧ rs.length = 64) with
                  | true =>
                    have Hd := hid (of_decide_eq_true hd)
                    clear hd
                    go_wp2_with (go_at_call 57; refine (rbad_calls Hgr2.out.sta 6).mono ?_; rintro e w3 ⟨rfl, hg3, hs3⟩)
                    go_meet
                    have hr2 := Hr2.out
                    rw [if_pos Hd.out, Option.some.injEq] at hr2
                    simp only [first, no, if_true] at hs3
                    exact ⟨i1, 0, _, Hgr2.out.grown hg3 hs3, .inr ⟨by show (6 : Nat) ≠ 0; decide, hr2.symm⟩⟩
                  | false =>
                    have Hd := hid (of_decide_eq_false hd)
                    clear hd
                    go_wp2_with fail
                    go_meet
                    have hr2 := Hr2.out
                    rw [if_neg Hd.out] at hr2
                    exact ⟨i1, 0, no, Hgr2.out, .inl ⟨rfl, rfl, hr2, fun e => by have := Hd.out; have := Hl64.out; rw [← HTk.out] at e; omega⟩⟩
                case rest =>
                  obtain ⟨j1, o2, f2, hgr3, hc3⟩ := hcut
                  have Hgr3 := hid hgr3
                  have Hc3 := hid hc3
                  clear hgr3 hc3 n1 Hgr2 Hr2
                  go_upto_region 15 with fail
                  go_cut [10] (fun v10 wx => ∃ br, v10 = .pointer (some ⟨br, 0, none⟩) ∧ H ≤ br ∧ RNm T R (K2 T f' rs R) w bp bp (some ⟨g, 0, none⟩) cap b bg st v rs H br wx)
                  case first =>
                    rcases Hc3.out with ⟨rfl, rfl, hk, hl⟩ | ⟨hf2, hR2⟩
                    · unfold K1 at hk
                      cases hn : Syn.nameS T j1 0 with
                      | bad fl =>
                        rw [hn] at hk
                        simp only [Syn.Res.bind, Option.some.injEq] at hk
                        subst hk
                        have hfl := Syn.nameS_code hn
                        have Hfl := hid hfl
                        have Hn := hid hn
                        clear hfl hn hl
                        go_wp2_with (go_at_call 54; refine (rname_no Hgr3.out.sta).mono ?_; rintro e3 w3 hP; obtain ⟨am, _, j3, o3, rfl, rfl, hs3, hg3⟩ := SEnd.whenBad hP Hn.out; clear hP)
                        go_meet
                        have hgr4 := Hgr3.out.grown hg3 hs3
                        have hb5 := hgr4.bb
                        exact ⟨_, rfl, by omega, am, _, _, _, hgr4.kp ((Kp.refl (fun _ => False) w3).alloc _) (fun _ e => e.elim), Bk.new w3 _ [.string ⟨am.toArray⟩, .int .i64 0, .string ⟨#[]⟩, .slice none 0 0], .inr ⟨Hfl.out, rfl⟩⟩
                      | ok nm j2 o2 =>
                        obtain ⟨hk1, -, -, ho2⟩ := Syn.nameS_ok hn
                        subst ho2
                        have hl' := hl hk1
                        rw [hn] at hk
                        simp only [Syn.Res.bind] at hk
                        have Hk := hid (And.intro hk hl')
                        have Hn := hid hn
                        clear hk1 hl hk hn hl'
                        go_wp2_with (go_at_call 54; refine (rname_no Hgr3.out.sta).mono ?_; rintro e3 w3 hP; obtain ⟨⟨_, rfl, rfl⟩, hs3, hg3⟩ := SEnd.whenOk hP Hn.out; clear hP)
                        go_meet
                        have hgr4 := Hgr3.out.grown hg3 hs3
                        have hb5 := hgr4.bb
                        exact ⟨_, rfl, by omega, nm, _, _, _, hgr4.kp ((Kp.refl (fun _ => False) w3).alloc _) (fun _ e => e.elim), Bk.new w3 _ [.string ⟨nm.toArray⟩, .int .i64 0, .string ⟨#[]⟩, .slice none 0 0], .inl ⟨rfl, rfl, Hk.out.1, Hk.out.2⟩⟩
                    · have Hf2 := hid hf2
                      have HR2 := hid hR2
                      clear hf2 hR2
                      go_wp2_with (go_at_call 54; refine (rname_bad Hgr3.out.sta Hf2.out).mono ?_; rintro e3 w3 ⟨rfl, hg3, hs3⟩)
                      go_meet
                      have hgr4 := Hgr3.out.grown hg3 hs3
                      have hb5 := hgr4.bb
                      exact ⟨_, rfl, by omega, [], _, _, _, hgr4.kp ((Kp.refl (fun _ => False) w3).alloc _) (fun _ e => e.elim), Bk.new w3 _ [.string ⟨#[]⟩, .int .i64 0, .string ⟨#[]⟩, .slice none 0 0], .inr ⟨Hf2.out, HR2.out⟩⟩
                  case rest =>
                    obtain ⟨br, h10, hHb, hnm⟩ := hcut
                    subst h10
                    have HHb := hid hHb
                    clear hHb Hgr3 Hc3
                    obtain ⟨nm, j2, o3, f3, hgr4, hbr4, hc4⟩ := hnm
                    obtain ⟨fc, hfc⟩ : ∃ fc : Int, fc = f3.code := ⟨_, rfl⟩
                    have k4 := hgr4.sta.k.cell 4
                    simp only [List.getElem?_cons_zero, List.getElem?_cons_succ, ← hfc] at k4
                    have Hfc := hid hfc
                    have Hgr4 := hid hgr4
                    have Hbr4 := hid hbr4
                    have Hc4 := hid hc4
                    clear hfc hgr4 hbr4 hc4
                    go_upto_if 76 with fail
                    go_cut [] (fun wx => RNm T R (K3 T f' rs R) w bp bp (some ⟨g, 0, none⟩) cap b bg st v rs H br wx)
                    case first =>
                      rcases Hc4.out with ⟨rfl, rfl, hk, hl⟩ | ⟨hf3, hR3⟩
                      · have h0 : fc = 0 := Hfc.out
                        subst h0
                        unfold K2 at hk
                        cases hts : Syn.takeS T [58] j2 0 with
                        | bad fl =>
                          rw [hts] at hk
                          simp only [Syn.Res.bind, Option.some.injEq] at hk
                          subst hk
                          have Hfl := hid (Syn.takeS_code hts)
                          have Hts := hid hts
                          clear hts hl
                          go_wp2_with (go_at_call 55; refine (rneed_no Hgr4.out.sta [58]).mono ?_; rintro e3 w3 hP; obtain ⟨_, _, j3, o3, rfl, rfl, hs3, hg3⟩ := SEnd.whenBad hP Hts.out; clear hP)
                          go_meet
                          have hb5 := Hgr4.out.bb
                          exact ⟨nm, _, _, _, Hgr4.out.grown hg3 hs3, Hbr4.out.grown hg3 (by intro e; injection e with e; have := HHb.out; omega), .inr ⟨Hfl.out, rfl⟩⟩
                        | ok u j3 o3 =>
                          obtain ⟨-, -, ho3⟩ := Syn.takeS_ok hts
                          subst ho3
                          rw [hts] at hk
                          simp only [Syn.Res.bind] at hk
                          have Hk := hid (And.intro hk hl)
                          have Hts := hid hts
                          clear hts hl hk
                          go_wp2_with (go_at_call 55; refine (rneed_no Hgr4.out.sta [58]).mono ?_; rintro e3 w3 hP; obtain ⟨⟨_, rfl, rfl⟩, hs3, hg3⟩ := SEnd.whenOk hP Hts.out; clear hP)
                          go_meet
                          have hb5 := Hgr4.out.bb
                          exact ⟨nm, _, _, _, Hgr4.out.grown hg3 hs3, Hbr4.out.grown hg3 (by intro e; injection e with e; have := HHb.out; omega), .inl ⟨rfl, rfl, Hk.out.1, Hk.out.2⟩⟩
                      · have hfz : ¬ fc = 0 := by have := Hfc.out; omega
                        have Hf3 := hid (And.intro hf3 hR3)
                        clear hf3 hR3
                        go_wp2_with fail
                        go_meet
                        exact ⟨nm, _, _, _, Hgr4.out, Hbr4.out, .inr Hf3.out⟩
                    case rest =>
                      have hnm := hcut
                      clear hcut k4 Hfc Hgr4 Hbr4 Hc4 fc
                      obtain ⟨nm, j2, o3, f3, hgr4, hbr4, hc4⟩ := hnm
                      obtain ⟨fc, hfc⟩ : ∃ fc : Int, fc = f3.code := ⟨_, rfl⟩
                      have k4 := hgr4.sta.k.cell 4
                      simp only [List.getElem?_cons_zero, List.getElem?_cons_succ, ← hfc] at k4
                      have Hfc := hid hfc
                      have Hgr4 := hid hgr4
                      have Hbr4 := hid hbr4
                      have Hc4 := hid hc4
                      clear hfc hgr4 hbr4 hc4
                      go_upto_if 84 with fail
                      go_cut [] (fun wx => RBd T R (K4 T f' rs R) w bp bp (some ⟨g, 0, none⟩) cap b bg st v rs H br wx)
                      case first =>
                        rcases Hc4.out with ⟨rfl, rfl, hk, hl⟩ | ⟨hf3, hR3⟩
                        · have h0 : fc = 0 := Hfc.out
                          subst h0
                          unfold K3 at hk
                          cases hx : Syn.altF T f' j2 0 with
                          | none => rw [hx] at hk; simp at hk
                          | some x =>
                            rw [hx] at hk
                            simp only [Option.bind_some] at hk
                            have halt := ralt_all hT HT.out.2.2 f' j2 0 x hx (by omega) _ _ _ _ _ Hgr4.out.sta
                            have Halt := hid halt
                            have hbrl := Hbr4.out.lt
                            have hb5 := Hgr4.out.bb
                            have hbb : bp < H := by omega
                            have hbrp : ¬ br = bp := by have := HHb.out; omega
                            have Hbrl := hid hbrl
                            clear halt hb5 hbrl
                            cases x with
                            | bad fl =>
                              simp only [Syn.Res.bind, Option.some.injEq] at hk
                              subst hk
                              have Hfl := hid ((Syn.parsed_code T f').1 _ _ _ hx)
                              clear hx hl
                              go_wp2_with (go_at_call 58; refine Halt.out.mono ?_; rintro e3 w3 hP; obtain ⟨am, vv, j3, o3, rfl, ⟨gm, cm, rfl, hn⟩, hs3, hg3⟩ := SEnd.whenBad hP rfl; clear hP; simp only [nodeV]; have hx3 := Hbr4.out.grown hg3 (by intro e; injection e with e; exact hbrp e); have hl3 := hx3.lt; have a1 := hx3.cell 1; have a2 := hx3.cell 2; have a3 := hx3.cell 3; have q1 := hx3.free 1; have q2 := hx3.free 2; have q3 := hx3.free 3; simp only [List.getElem?_cons_zero, List.getElem?_cons_succ] at a1 a2 a3; obtain ⟨hxp, hkx⟩ := RRu.put (H := H) (cm := cm) hx3 HHb.out Hbrl.out hn; have hgr5 := (Hgr4.out.grown hg3 hs3).kp hkx (fun k e => by have := HHb.out; omega); have Hgr5 := hid hgr5; have Hxp := hid hxp; clear hgr5 hkx hxp hn hx3)
                              go_meet
                              exact ⟨_, _, _, _, _, _, Hgr5.out, Hxp.out, .inr ⟨Hfl.out, rfl⟩⟩
                            | ok bd j3 o3 =>
                              have ho3 := (Syn.same_o T f').1 _ _ _ _ _ hx
                              subst ho3
                              simp only [Syn.Res.bind] at hk
                              have Hk := hid (And.intro hk hl)
                              clear hx hl hk
                              go_wp2_with (go_at_call 58; refine Halt.out.mono ?_; rintro e3 w3 hP; obtain ⟨⟨vv, rfl, gm, cm, rfl, hn⟩, hs3, hg3⟩ := SEnd.whenOk hP rfl; clear hP; simp only [nodeV]; have hx3 := Hbr4.out.grown hg3 (by intro e; injection e with e; exact hbrp e); have hl3 := hx3.lt; have a1 := hx3.cell 1; have a2 := hx3.cell 2; have a3 := hx3.cell 3; have q1 := hx3.free 1; have q2 := hx3.free 2; have q3 := hx3.free 3; simp only [List.getElem?_cons_zero, List.getElem?_cons_succ] at a1 a2 a3; obtain ⟨hxp, hkx⟩ := RRu.put (H := H) (cm := cm) hx3 HHb.out Hbrl.out hn; have hgr5 := (Hgr4.out.grown hg3 hs3).kp hkx (fun k e => by have := HHb.out; omega); have Hgr5 := hid hgr5; have Hxp := hid hxp; clear hgr5 hkx hxp hn hx3)
                              go_meet
                              exact ⟨_, _, _, _, _, _, Hgr5.out, Hxp.out, .inl ⟨rfl, rfl, Hk.out.1, Hk.out.2⟩⟩
                        · have hfz : ¬ fc = 0 := by have := Hfc.out; omega
                          have Hf3 := hid (And.intro hf3 hR3)
                          clear hf3 hR3
                          go_wp2_with fail
                          go_meet
                          exact ⟨(nm, ⟨0, [], .nil⟩), none, 0, _, _, _, Hgr4.out, ⟨Hbr4.out, HHb.out, trivial⟩, .inr Hf3.out⟩
                      case rest =>
                        have hnm := hcut
                        clear hcut k4 Hfc Hgr4 Hbr4 Hc4 fc
                        obtain ⟨x, gx, cx, j2, o3, f3, hgr4, hbr4, hc4⟩ := hnm
                        obtain ⟨fc, hfc⟩ : ∃ fc : Int, fc = f3.code := ⟨_, rfl⟩
                        have k4 := hgr4.sta.k.cell 4
                        simp only [List.getElem?_cons_zero, List.getElem?_cons_succ, ← hfc] at k4
                        have Hfc := hid hfc
                        have Hgr4 := hid hgr4
                        have Hbr4 := hid hbr4
                        have Hc4 := hid hc4
                        clear hfc hgr4 hbr4 hc4
                        go_upto_if 93 with fail
                        go_cut [] (fun wx => RBd T R (K5 T f' rs R) w bp bp (some ⟨g, 0, none⟩) cap b bg st v rs H br wx)
                        case first =>
                          have hb5 := Hgr4.out.bb
                          have hbb : bp < H := by omega
                          clear hb5
                          rcases Hc4.out with ⟨rfl, rfl, hk, hl⟩ | ⟨hf3, hR3⟩
                          · have h0 : fc = 0 := Hfc.out
                            subst h0
                            unfold K4 at hk
                            cases hts : Syn.takeS T [59] j2 0 with
                            | bad fl =>
                              rw [hts] at hk
                              simp only [Syn.Res.bind, Option.some.injEq] at hk
                              subst hk
                              have Hfl := hid (Syn.takeS_code hts)
                              have Hts := hid hts
                              clear hts hl
                              go_wp2_with (go_at_call 55; refine (rneed_no Hgr4.out.sta [59]).mono ?_; rintro e3 w3 hP; obtain ⟨_, _, j3, o3, rfl, rfl, hs3, hg3⟩ := SEnd.whenBad hP Hts.out; clear hP)
                              go_meet
                              exact ⟨x, _, _, _, _, _, Hgr4.out.grown hg3 hs3, Hbr4.out.grown hg3 hbb, .inr ⟨Hfl.out, rfl⟩⟩
                            | ok u j3 o3 =>
                              obtain ⟨-, -, ho3⟩ := Syn.takeS_ok hts
                              subst ho3
                              rw [hts] at hk
                              simp only [Syn.Res.bind] at hk
                              have Hk := hid (And.intro hk hl)
                              have Hts := hid hts
                              clear hts hl hk
                              go_wp2_with (go_at_call 55; refine (rneed_no Hgr4.out.sta [59]).mono ?_; rintro e3 w3 hP; obtain ⟨⟨_, rfl, rfl⟩, hs3, hg3⟩ := SEnd.whenOk hP Hts.out; clear hP)
                              go_meet
                              exact ⟨x, _, _, _, _, _, Hgr4.out.grown hg3 hs3, Hbr4.out.grown hg3 hbb, .inl ⟨rfl, rfl, Hk.out.1, Hk.out.2⟩⟩
                          · have hfz : ¬ fc = 0 := by have := Hfc.out; omega
                            have Hf3 := hid (And.intro hf3 hR3)
                            clear hf3 hR3
                            go_wp2_with fail
                            go_meet
                            exact ⟨x, _, _, _, _, _, Hgr4.out, Hbr4.out, .inr Hf3.out⟩
                        case rest =>
                          have hnm := hcut
                          clear hcut k4 Hfc Hgr4 Hbr4 Hc4 fc
                          obtain ⟨x, gx, cx, j2, o3, f3, hgr4, hbr4, hc4⟩ := hnm
                          have n1 := hgr4.g.cell 1
                          have hlg := hgr4.g.lt
                          have hlr := hbr4.blk.lt
                          have a0 := hbr4.blk.cell 0
                          have a1 := hbr4.blk.cell 1
                          have a2 := hbr4.blk.cell 2
                          have a3 := hbr4.blk.cell 3
                          simp only [List.getElem?_cons_zero, List.getElem?_cons_succ] at n1 a0 a1 a2 a3
                          obtain ⟨g2, cap2, w5, hrun, ⟨m1, mf, ml⟩, hgr6⟩ := hgr4.app (x := x) (ck := cx) (hbr4.kids.mono fun q hq => ⟨hq.1, hq.2.1⟩) (by have := Hl64.out; omega) 31 0 (N := wc.heap.size) rfl
                          have Hgr6 := hid hgr6
                          have Hc4 := hid hc4
                          have Hrun := hid hrun
                          clear hgr6 hgr4 hbr4 hc4 hrun
                          go_wp2_with (at_builtin; refine wpList_app rfl _ _ _ rfl v (.slice (some ⟨wc.heap.size, 0, none⟩) 1 1) _ w5 (by go_simp) (by go_simp) (by exact Hrun.out) ?_)
                          go_roundg f'
                          case measure => have := Hkm.out; omega
                          case rel =>
                            refine ⟨f', _, rs ++ [x], j2, o3, f3, rfl, Hgr6.out.up (by simp [World.setCell]) (Nat.le_refl _), by have := Hl64.out; simp; omega, ?_⟩
                            rcases Hc4.out with ⟨h1, h2, h3, h4⟩ | h
                            · exact .inl ⟨h1, h2, h3, by simpa using h4⟩
                            · exact .inr h
        · have hfz : ¬ (f1.code : Int) = 0 := by omega
          have Hgr1 := hid hgr1
          have Hf := hid (And.intro hf1 hR1)
          clear hgr1 hkm hlr hf1 hR1
          go_wp2_with fail
          go_meet
          exact ⟨v, rs, i1, o1, f1, Hgr1.out, .inr Hf.out⟩
    case rest =>
      obtain ⟨v, rs, i3, o3, f3, hgr, hcase⟩ := hcut
      have hbb := hgr.bb
      have hcb := HCB.out
      have hne : ¬ b = c := by omega
      have hne2 : ¬ c = b := by omega
      have hbgb : ¬ bg = b := by omega
      have hbgc : ¬ bg = c := by omega
      have hlb := hgr.res.lt
      have hlc := hgr.flt.lt
      have hlg := hgr.g.lt
      have hlp := hgr.sta.k.lt
      have hfl := hgr.flt
      rw [← hcb] at hfl hlc
      have r0 := hgr.res.cell 0
      have r1 := hgr.res.cell 1
      have fr0 := hgr.res.free 0
      have fr1 := hgr.res.free 1
      have s0 := hfl.cell 0
      have s1 := hfl.cell 1
      have s2 := hfl.cell 2
      have fs0 := hfl.free 0
      have fs1 := hfl.free 1
      have fs2 := hfl.free 2
      have n0 := hgr.g.cell 0
      have n1 := hgr.g.cell 1
      have fn0 := hgr.g.free 0
      have k2 := hgr.sta.k.cell 2
      have k3 := hgr.sta.k.cell 3
      have k4 := hgr.sta.k.cell 4
      simp only [List.getElem?_cons_zero, List.getElem?_cons_succ] at r0 r1 s0 s1 s2 n0 n1 k2 k3 k4
      rcases hcase with ⟨rfl, ⟨jj, pp, hRok⟩, hrs⟩ | ⟨hf3, hRb⟩
      · simp only [no] at k4
        have hpr := Hok.out rs jj pp hRok
        obtain ⟨x0, rs1, hx0⟩ : ∃ x0 rs1, rs = x0 :: rs1 := by
          cases rs with
          | nil => exact absurd rfl hrs
          | cons a r => exact ⟨a, r, rfl⟩
        have hat := hgr.own.at (RuleH.fit _) (i := 0) (a := x0) (by rw [hx0]; rfl)
        have hst0 : Syn.startOr st rs = if st = [] then x0.1 else st := by unfold Syn.startOr; rw [hx0]; rfl
        obtain ⟨g5, cap5, cs, hv, hg5, hg6, ⟨gx, cx, hcs, hnx⟩, hcells⟩ := hat
        have c0 := hcells 0 (.string ⟨x0.1.toArray⟩) (by rw [hcs]; rfl)
        simp only [Nat.zero_mul, Nat.zero_add] at c0
        have hg5g : ¬ g5 = bg := by omega
        have hL0 : (0 : Int) < (rs.length : Int) := by rw [hx0]; simp
        obtain ⟨L, hL⟩ : ∃ L, L = rs.length := ⟨_, rfl⟩
        obtain ⟨ga2, ca2, hv2, hrm⟩ := own_rrules hgr.own
        have Hbb := hid hbb
        rw [hv] at hv2
        injection hv2 with e1 e2 e3
        subst e1 e3
        rw [hst0] at hpr
        have Hpr := hid hpr
        rw [← hL] at hL0
        rw [hv, ← hL] at n1
        have HL := hid hL
        have Hgr3 := hid hgr
        have HV := hid hv
        have Hfl := hid hfl
        have Hrm := hid hrm
        have fin : ∀ (W1 : World) (nm : List UInt8), RGr w bp bp (some ⟨g, 0, none⟩) cap T b bg nm v rs i3 o3 no wc.heap.size W1 → Kp (fun k => k = bg) wc W1 →
            ∃ (hB : Bk (((((W1.setCell ⟨b, 0, none⟩ (.string ⟨nm.toArray⟩)).setCell ⟨b, 1, none⟩ (.slice (some ⟨g5, 0, none⟩) L cap5)).setCell ⟨c, 0, none⟩ (.int .i64 0)).setCell ⟨c, 1, none⟩ (.int .i64 0)).setCell ⟨c, 2, none⟩ (.int .i64 0)) b 33 [.string ⟨nm.toArray⟩, .slice (some ⟨g5, 0, none⟩) L cap5])
              (hC : Bk (((((W1.setCell ⟨b, 0, none⟩ (.string ⟨nm.toArray⟩)).setCell ⟨b, 1, none⟩ (.slice (some ⟨g5, 0, none⟩) L cap5)).setCell ⟨c, 0, none⟩ (.int .i64 0)).setCell ⟨c, 1, none⟩ (.int .i64 0)).setCell ⟨c, 2, none⟩ (.int .i64 0)) c 35 [.int .i64 0, .int .i64 0, .int .i64 0]),
              ParsePost w (.returned (.tuple #[.agg #[.string ⟨nm.toArray⟩, .slice (some ⟨g5, 0, none⟩) L cap5], .agg #[.int .i64 0, .int .i64 0, .int .i64 0]])) (((((W1.setCell ⟨b, 0, none⟩ (.string ⟨nm.toArray⟩)).setCell ⟨b, 1, none⟩ (.slice (some ⟨g5, 0, none⟩) L cap5)).setCell ⟨c, 0, none⟩ (.int .i64 0)).setCell ⟨c, 1, none⟩ (.int .i64 0)).setCell ⟨c, 2, none⟩ (.int .i64 0)) (.ok nm rs) := by
          intro W1 nm h1 hk1
          have hk2 : Kp (fun k => k = b ∨ k = c) W1 (((((W1.setCell ⟨b, 0, none⟩ (.string ⟨nm.toArray⟩)).setCell ⟨b, 1, none⟩ (.slice (some ⟨g5, 0, none⟩) L cap5)).setCell ⟨c, 0, none⟩ (.int .i64 0)).setCell ⟨c, 1, none⟩ (.int .i64 0)).setCell ⟨c, 2, none⟩ (.int .i64 0)) :=
            (((((Kp.refl (fun k => k = b ∨ k = c) W1).set (p := ⟨b, 0, none⟩) (.inl (.inl rfl)) _).set (p := ⟨b, 1, none⟩) (.inl (.inl rfl)) _).set (p := ⟨c, 0, none⟩) (.inl (.inr rfl)) _).set (p := ⟨c, 1, none⟩) (.inl (.inr rfl)) _).set (p := ⟨c, 2, none⟩) (.inl (.inr rfl)) _
          have hfl1 := h1.flt
          rw [← hcb] at hfl1
          refine ⟨((((h1.res.set 0 _).set 1 _).far (p := ⟨c, 0, none⟩) hne _).far (p := ⟨c, 1, none⟩) hne _).far (p := ⟨c, 2, none⟩) hne _, ((((hfl1.far (p := ⟨b, 0, none⟩) hne2 _).far (p := ⟨b, 1, none⟩) hne2 _).set 0 _).set 1 _).set 2 _, some ⟨g5, 0, none⟩, cap5, by rw [HL.out], ?_, ?_⟩
          · have hb3 := Hbb.out
            exact (((Hrm.out.kp hk1 (fun k hk e => by have := hk.1; omega)).kp hk2 (fun k hk e => by have := hk.1; omega))).mono fun k hk => ⟨by have := hk.1; omega, Nat.lt_of_lt_of_le hk.2 (Nat.le_trans hk1.size hk2.size)⟩
          · have hb3 := Hbb.out
            have hb4 := h1.bb
            rw [← HB.out]
            exact h1.bel.trans (hk2.to_below (by omega) (fun k e => by omega))
        have Fin := hid fin
        clear hgr hRok hrs hx0 hst0 hv hcs hnx hcells hL hbb hcb hfl hrm fin hpr
        by_cases hst : st = []
        · have hpr2 := Hpr.out
          rw [if_pos hst] at hpr2
          have Hpr2 := hid hpr2
          clear hpr2
          subst hst
          go_wp2_with fail
          obtain ⟨hB, hC, hP⟩ := Fin.out (wc.setCell ⟨bg, 0, none⟩ (.string ⟨x0.1.toArray⟩)) x0.1 (Hgr3.out.start x0.1) ((Kp.refl (fun k => k = bg) wc).set (p := ⟨bg, 0, none⟩) (.inl rfl) _)
          exact bodyPost_ret (rparse_results _ b c _ _ _ _ _ _ (by rfl) (by rfl) hB hC) rfl (by rw [Hpr2.out]; exact hP)
        · have hpr2 := Hpr.out
          rw [if_neg hst] at hpr2
          have Hpr2 := hid hpr2
          clear hpr2
          have hst2 : (st == []) = false := by simpa using hst
          clear hst
          go_wp2_with fail
          obtain ⟨hB, hC, hP⟩ := Fin.out wc st Hgr3.out (Kp.refl _ wc)
          exact bodyPost_ret (rparse_results _ b c _ _ _ _ _ _ (by rfl) (by rfl) hB hC) rfl (by rw [Hpr2.out]; exact hP)
      · have hpr := Hbd.out f3 hRb
        obtain ⟨fl, hfl1⟩ : ∃ fl : Int, fl = f3.line := ⟨_, rfl⟩
        obtain ⟨fo, hfo⟩ : ∃ fo : Int, fo = f3.col := ⟨_, rfl⟩
        obtain ⟨fd, hfd⟩ : ∃ fd : Int, fd = f3.code := ⟨_, rfl⟩
        have hfz : ¬ fd = 0 := by omega
        have hpp : ∀ e w', ParsePost w e w' (Syn.parseT T) = (e = .returned (.tuple #[.agg #[.string ⟨#[]⟩, .slice none 0 0], .agg #[.int .i64 fl, .int .i64 fo, .int .i64 fd]]) ∧ Below w.heap.size w w') := fun e w' => by rw [hpr, hfl1, hfo, hfd]; rfl
        have Hpp := hid hpp
        clear hpp
        rw [← hfl1] at k2
        rw [← hfo] at k3
        rw [← hfd] at k4
        have Hgr3 := hid hgr
        have Hfl := hid hfl
        have Hbb := hid hbb
        clear hgr hfl hbb hcb hpr hRb hf3 hfl1 hfo hfd
        go_wp2_with fail
        go_region
        go_wp2
        have hne3 : ¬ b = c := hne
        refine bodyPost_ret (rparse_results _ b c (.string ⟨#[]⟩) (.slice none 0 0) (.int .i64 fl) (.int .i64 fo) (.int .i64 fd) _ (by rfl) (by rfl) ?_ ?_) rfl ?_
        · refine Bk.drew ?_
          exact ((((Hgr3.out.res.set 0 _).set 1 _).far (p := ⟨c, 0, none⟩) hne _).far (p := ⟨c, 1, none⟩) hne _).far (p := ⟨c, 2, none⟩) hne _
        · refine Bk.drew ?_
          exact ((((Hfl.out.far (p := ⟨b, 0, none⟩) hne2 _).far (p := ⟨b, 1, none⟩) hne2 _).set 0 _).set 1 _).set 2 _
        rw [Hpp.out]
        refine ⟨rfl, ?_⟩
        have hb3 := Hbb.out
        have hcb := HCB.out
        rw [← HB.out]
        refine Below.drew ?_
        refine Below.setCell ?_ (by show b ≤ c; omega) _
        refine Below.setCell ?_ (by show b ≤ c; omega) _
        refine Below.setCell ?_ (by show b ≤ c; omega) _
        refine Below.setCell ?_ (by show b ≤ b; omega) _
        refine Below.setCell ?_ (by show b ≤ b; omega) _
        exact Hgr3.out.bel
end Go.Proofs.Ytjaampgpihicmaa
