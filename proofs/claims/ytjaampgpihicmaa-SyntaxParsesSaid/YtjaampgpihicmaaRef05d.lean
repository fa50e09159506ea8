/- Chapter 5, the document's parser: alt, given row; both of any fuel. -/
import Derived.Test.YtjaampgpihicmaaRef05c
namespace Go.Proofs.Ytjaampgpihicmaa
open Go.RowKit
attribute [local go_sem ↓] Go.wp_at_zero Go.wp_at_succ
attribute [local go_sem] frozen_alloc_lt
open Syn (Nd Nod)

def RARel (T : List Lex.Tok) (F : Nat) (r : Syn.Res Nod) (w0 : World) (B bp : Nat) (gT : Option Addr) (cT b bn : Nat) (k : Nat) (w : World) : Prop :=
  ∃ m v ls i o fl, k = m ∧ m ≤ F ∧ RwSt w0 B bp gT cT T b bn 4 v ls i o fl w.heap.size w ∧ ls.length ≤ 1000000 ∧ ((fl = no ∧ Syn.altM T m (Nd.ofList ls) i o = some r ∧ o ≤ 16 ∧ ls.length ≤ i + 1) ∨ (fl.code ≠ 0 ∧ r = .bad fl))
/-- The first row stands in a row of its own. -/
theorem alt_start {w0 w1 : World} {B bp : Nat} {gT : Option Addr} {cT : Nat} {T : List Lex.Tok} {b i o : Nat} {f : Lex.Flt} {n : Nod} {gk : Option Addr} {ck : Nat}
    (hres : Bk w1 b 85 [.int .i64 0, .string ⟨#[]⟩, .slice none 0 0]) (hs : Sta w1 B bp gT cT T i o f) (hg : w0.grownBy w1 (some bp)) (hb : bp < b) (hb0 : b = w0.heap.size) (hn : NdAt w1 (From (b + 1) w1) gk n.kids 0) {N : Nat} (hN : w1.heap.size = N) :
    RwSt w0 B bp gT cT T b (N + 1) 4 (.slice (some ⟨N, 0, none⟩) 1 1) [n] i o f (N + 2) ((w1.alloc (.cells #[.int .i64 n.kind, .string ⟨n.text.toArray⟩, .slice gk n.kids.len ck] 85)).alloc (.cells #[.int .i64 4, .string ⟨#[]⟩, .slice (some ⟨N, 0, none⟩) 1 1] 85)) := by
  subst hN
  have hbl := hres.lt
  have hown : OwnA (NodH (fun k => k ≠ w1.heap.size + 1 ∧ k < w1.heap.size + 2)) 3 (w1.alloc (.cells #[.int .i64 n.kind, .string ⟨n.text.toArray⟩, .slice gk n.kids.len ck] 85)) (b + 1) 85 (.slice (some ⟨w1.heap.size, 0, none⟩) 1 1) [n] :=
    OwnA.one (NodH.fit _) (x := [.int .i64 n.kind, .string ⟨n.text.toArray⟩, .slice gk n.kids.len ck]) ⟨gk, ck, rfl, hn.mono fun k hk => ⟨hk, by have := hk.2; omega, by have := hk.2; omega⟩⟩ (by omega)
  have hnb := Bk.new (w1.alloc (.cells #[.int .i64 n.kind, .string ⟨n.text.toArray⟩, .slice gk n.kids.len ck] 85)) 85 [.int .i64 4, .string ⟨#[]⟩, .slice (some ⟨w1.heap.size, 0, none⟩) 1 1]
  rw [show (w1.alloc (.cells #[.int .i64 n.kind, .string ⟨n.text.toArray⟩, .slice gk n.kids.len ck] 85)).heap.size = w1.heap.size + 1 by simp] at hnb
  refine ⟨(hres.alloc _).alloc _, hnb, hown.alloc (NodH.fit _) _, fun g hg => ?_, hs.below (bel_trans (bel_new _ _) (bel_new _ _)), gb_alloc (gb_alloc hg _) _, hb, hb0, by omega, by omega, by simp⟩
  have hg' : w1.heap.size = g := by simpa [Value.ownBlock] using hg
  omega
set_option maxRecDepth 8000 in
set_option maxHeartbeats 8000000 in
theorem ralt_calls {T : List Lex.Tok} (hT : T.length ≤ 4096) {F : Nat} (ha : ∀ f, f < F → RRowSays T f) : RAltSays T F := by
  intro i o r hr ho w B bp gT cT h
  obtain ⟨F, rfl⟩ : ∃ f, F = f + 1 := by
    cases F with
    | zero => simp [Syn.altF] at hr
    | succ f => exact ⟨f, rfl⟩
  rw [Syn.altF] at hr
  have hlt := h.k.lt
  have hb0 : Below w.heap.size w (w.alloc (.cells #[.int .i64 0, .string ⟨#[]⟩, .slice none 0 0] 85)) := bel_new _ _
  have h0 := h.below hb0
  have rb0 := Bk.new w 85 [.int .i64 0, .string ⟨#[]⟩, .slice none 0 0]
  cases hx : Syn.rowF T F .nil i o with
  | none => rw [hx] at hr; simp at hr
  | some x =>
    rw [hx] at hr
    simp only [Option.bind_some] at hr
    have hat := ha F (by omega) i o x hx ho _ B bp gT cT h0
    rw [show (w.alloc (.cells #[.int .i64 0, .string ⟨#[]⟩, .slice none 0 0] 85)).heap.size = w.heap.size + 1 by simp] at hat
    have hrow : Calls Try.prog 104 #[.pointer (some ⟨bp, 0, none⟩)] (w.alloc (.cells #[.int .i64 0, .string ⟨#[]⟩, .slice none 0 0] 85)) fun e w' => ∃ (n : Nod) (gk : Option Addr) (ck j p : Nat) (fl : Lex.Flt), e = .returned (nodeV n gk ck) ∧ NdAt w' (From (w.heap.size + 1) w') gk n.kids 0 ∧ Sta w' B bp gT cT T j p fl ∧ w.grownBy w' (some bp) ∧ Bk w' w.heap.size 85 [.int .i64 0, .string ⟨#[]⟩, .slice none 0 0] ∧
        ((fl = no ∧ Syn.altM T F (Nd.ofList [n]) j p = some r ∧ p ≤ 16) ∨ (fl.code ≠ 0 ∧ r = .bad fl)) := by
      refine hat.mono ?_
      intro e w' hP
      cases x with
      | bad fl =>
        obtain ⟨n, v, j, p, rfl, ⟨gk, ck, rfl, hn⟩, hs, hg⟩ := SEnd.whenBad hP rfl
        simp only [Syn.Res.bind, Option.some.injEq] at hr
        exact ⟨n, gk, ck, j, p, fl, rfl, hn, hs, gb_trans (below_gb hb0 _) hg, rb0.grown hg (by intro e; injection e with e; omega), .inr ⟨(Syn.parsed_code T F).2.2.1 _ _ _ _ hx, hr.symm⟩⟩
      | ok n j p =>
        obtain ⟨⟨v, rfl, gk, ck, rfl, hn⟩, hs, hg⟩ := SEnd.whenOk hP rfl
        have hp := (Syn.same_o T F).2.2.1 _ _ _ _ _ _ hx
        subst hp
        exact ⟨n, gk, ck, j, p, no, rfl, hn, hs, gb_trans (below_gb hb0 _) hg, rb0.grown hg (by intro e; injection e with e; omega), .inl ⟨rfl, hr, ho⟩⟩
    have Hrow := hid hrow
    have Rb0 := hid rb0
    have Ha := hid ha
    clear hr ho ha h h0 hb0 rb0 hx hat hrow
    go_enter Try.func58, Try.ntmps58
    go_upto_block 0 with (go_at_call 104; refine Hrow.out.mono ?_; rintro e w1 ⟨n, gk, ck, j, p, fl, rfl, hcase⟩; simp only [nodeV])
    obtain ⟨hn, hs1, hg1, rb1, hcase⟩ := hcase
    have hst := alt_start (ck := ck) rb1 hs1 hg1 hlt rfl hn (N := w1.heap.size) rfl
    have hle1 := hg1.size
    obtain ⟨wa, hwa⟩ : ∃ wa, wa = ((w1.alloc (.cells #[.int .i64 n.kind, .string ⟨n.text.toArray⟩, .slice gk n.kids.len ck] 85)).alloc (.cells #[.int .i64 4, .string ⟨#[]⟩, .slice (some ⟨w1.heap.size, 0, none⟩) 1 1] 85)) := ⟨_, rfl⟩
    have hwas : wa.heap.size = w1.heap.size + 2 := by rw [hwa]; simp
    obtain ⟨bn, hbn⟩ : ∃ bn, bn = w1.heap.size + 1 := ⟨_, rfl⟩
    obtain ⟨b, hb⟩ : ∃ b, b = w.heap.size := ⟨_, rfl⟩
    obtain ⟨vs, hvs⟩ : ∃ vs, vs = Value.slice (some ⟨w1.heap.size, 0, none⟩) 1 1 := ⟨_, rfl⟩
    rw [← hwa, ← hwas, ← hbn, ← hvs, ← hb] at hst
    rw [← hwa, ← hbn, ← hb]
    have Hst := hid hst
    have HB := hid hb
    have Hcase := hid hcase
    have Hwl := hid (And.intro hs1.lt hs1.len)
    clear hst hb hcase hwa hwas hbn hvs hn hs1 hg1 rb1 hle1
    go_cut [] (fun wx => ROut T r w B bp gT cT b bn 4 wx)
    case rest =>
      obtain ⟨v, ls, i2, o2, f2, hll, hst, hr2⟩ := hcut
      obtain ⟨b1, b2, b3, b4, b5⟩ := hst.bb
      have hbn2 : ¬ bn = b := by omega
      have hlb : b < wc.heap.size := by omega
      have hlbn : bn < wc.heap.size := by omega
      have r0 := hst.res.cell 0
      have r1 := hst.res.cell 1
      have r2 := hst.res.cell 2
      have fr0 := hst.res.free 0
      have fr1 := hst.res.free 1
      have fr2 := hst.res.free 2
      have n0 := hst.n.cell 0
      have n1 := hst.n.cell 1
      have n2 := hst.n.cell 2
      simp only [List.getElem?_cons_zero, List.getElem?_cons_succ] at r0 r1 r2 n0 n1 n2
      have Hst := hid hst
      have Hr2 := hid hr2
      have Hll := hid hll
      by_cases hone : ls.length = 1
      · obtain ⟨n, rfl⟩ : ∃ n, ls = [n] := by
          match ls, hone with
          | [n], _ => exact ⟨n, rfl⟩
        obtain ⟨g, cap, x, hv, hg1, hg2, ⟨gk, ck, rfl, hn⟩, hc⟩ := hst.own.at (NodH.fit _) (i := 0) (a := n) rfl
        simp only [List.length_singleton] at hv
        subst hv
        have hgb : ¬ g = b := by omega
        have c0 := hc 0 _ rfl
        have c1 := hc 1 _ rfl
        have c2 := hc 2 _ rfl
        simp only [Nat.zero_mul, Nat.zero_add] at c0 c1 c2
        have Hn := hid hn
        clear hn hc hone hst hr2 hll b1 b2 b3 b4 b5
        go_wp2_with fail
        refine bodyPost_ret (v := nodeV n gk ck) (by simp [results, Try.results58, go_sem, nodeV, r0, r1, r2]) rfl ?_
        have hfin := RwSt.fin Hst.out (n := n) (gk := gk) (ck := ck) (r := r) (Hn.out.mono fun k hk => ⟨hk.1.1, hk.1.2.1⟩) Hr2.out
        exact hfin
      · obtain ⟨ga, ca, rfl⟩ := hst.own.slice
        obtain ⟨L, hL⟩ : ∃ L, L = ls.length := ⟨_, rfl⟩
        have hone' : ¬ (L : Int) = 1 := by omega
        rw [← hL] at n2
        have HL := hid hL
        have Hone := hid hone
        clear hone hst hr2 hll b1 b2 b3 b4 b5 hL
        go_wp2_with fail
        refine bodyPost_ret (v := nodeV ⟨4, [], Nd.ofList ls⟩ ga ca) (by simp [results, Try.results58, go_sem, nodeV, r0, r1, r2, Nd.ofList_len, HL.out]) rfl ?_
        have hr3 := Hr2.out
        rw [Syn.pack_more 4 Hone.out] at hr3
        obtain ⟨ga2, ca2, e2, hn⟩ := own_rnodes Hst.out.own
        injection e2 with e3 e4 e5
        subst e3
        have hfin := RwSt.fin Hst.out (n := ⟨4, [], Nd.ofList ls⟩) (gk := ga) (ck := ca) (r := r) hn hr3
        rw [Nd.ofList_len, ← HL.out] at hfin
        exact hfin
    case first =>
      go_wp2_with fail
      go_loopg [] F (fun k wr => RARel T F r w B bp gT cT b bn k wr)
      case atStart =>
        refine ⟨F, _, [n], j, p, fl, rfl, Nat.le_refl _, Hst.out, by simp, ?_⟩
        rcases Hcase.out with ⟨h1, h2, h3⟩ | h
        · exact .inl ⟨h1, h2, h3, by simp⟩
        · exact .inr h
      case round =>
        obtain ⟨m, v, ls, i1, o1, f1, hkm, hk, hst, hll, hcase⟩ := hrel
        have hbb := hst.bb
        rcases hcase with ⟨rfl, hr1, ho1, hl1⟩ | ⟨hf1, hr1⟩
        · obtain ⟨f, rfl⟩ : ∃ f, m = f + 1 := by
            cases m with
            | zero => simp [Syn.altM] at hr1
            | succ f => exact ⟨f, rfl⟩
          rw [Syn.altM, far_no hT hst.sta.lt, if_neg (by decide)] at hr1
          have his := ris_ok hT hst.sta [124]
          cases hs : Syn.isS T i1 [124] with
          | false =>
            rw [hs, if_neg (by decide), Option.some.injEq] at hr1
            rw [hs] at his
            have Hst1 := hid hst
            have Hr1 := hid hr1
            clear hs hr1 hst hll hkm hk hbb
            go_wp2_with (go_at_call 53; refine his.mono ?_; rintro e w2 ⟨rfl, hg2, hs2⟩)
            go_meet
            have hst2 := Hst1.out.grown hg2 hs2
            have hb5 := hst2.bb
            exact ⟨v, ls, i1, o1, no, by have := hst2.sta.lt; have := hst2.sta.len; omega, hst2.up (by omega) (Nat.le_refl _), .inl ⟨rfl, Hr1.out.symm⟩⟩
          | true =>
            rw [hs, if_pos rfl] at hr1
            rw [hs] at his
            have hj := lt_last hst.sta.lt hst.sta.last (by unfold Syn.isS at hs; simp at hs; omega)
            have hil := hst.sta.lt
            have hiT := hst.sta.len
            obtain ⟨y, hy⟩ : ∃ y : Int, y = i1 := ⟨_, rfl⟩
            have hy0 : 0 ≤ y := by omega
            have hy1 : y + 1 ≤ 1000000 := by omega
            have hbpn : ¬ bn = bp := by omega
            have hl6 : ls.length ≤ 999999 := by omega
            cases hx : Syn.rowF T f .nil (i1 + 1) o1 with
            | none => rw [hx] at hr1; simp at hr1
            | some x =>
              rw [hx] at hr1
              simp only [Option.bind_some] at hr1
              have hat := Ha.out f (by omega) (i1 + 1) o1 x hx ho1
              have hrow : ∀ wz, RwSt w B bp gT cT T b bn 4 v ls (i1 + 1) o1 no wr.heap.size wz → Calls Try.prog 104 #[.pointer (some ⟨bp, 0, none⟩)] wz fun e w' => ∃ (n : Nod) (gk : Option Addr) (ck j p : Nat) (fl : Lex.Flt), e = .returned (nodeV n gk ck) ∧ NdAt w' (fun q => wr.heap.size ≤ q ∧ q < w'.heap.size) gk n.kids 0 ∧ RwSt w B bp gT cT T b bn 4 v ls j p fl wr.heap.size w' ∧
                  ((fl = no ∧ Syn.altM T f (Nd.ofList (ls ++ [n])) j p = some r ∧ p ≤ 16 ∧ ls.length + 1 ≤ j + 1) ∨ (fl.code ≠ 0 ∧ r = .bad fl)) := by
                intro wz hwz
                refine (hat wz B bp gT cT hwz.sta).mono ?_
                intro e w' hP
                have hwz5 := hwz.bb
                cases x with
                | bad fl =>
                  obtain ⟨n, v, j, p, rfl, ⟨gk, ck, rfl, hn⟩, hs, hg⟩ := SEnd.whenBad hP rfl
                  simp only [Syn.Res.bind, Option.some.injEq] at hr1
                  exact ⟨n, gk, ck, j, p, fl, rfl, hn.mono fun q hq => ⟨by have := hq.1; omega, hq.2⟩, hwz.grown hg hs, .inr ⟨(Syn.parsed_code T f).2.2.1 _ _ _ _ hx, hr1.symm⟩⟩
                | ok n j p =>
                  obtain ⟨⟨v, rfl, gk, ck, rfl, hn⟩, hs, hg⟩ := SEnd.whenOk hP rfl
                  have hp := (Syn.same_o T f).2.2.1 _ _ _ _ _ _ hx
                  have hle := ((Syn.agree_all T T 0 f).2.2.1 _ _ _ _ _ _ hx).1
                  subst hp
                  exact ⟨n, gk, ck, j, p, no, rfl, hn.mono fun q hq => ⟨by have := hq.1; omega, hq.2⟩, hwz.grown hg hs, .inl ⟨rfl, by rw [Nd.ofList_snoc]; exact hr1, ho1, by omega⟩⟩
              have Hst1 := hid hst
              have Hr1 := hid hr1
              have Hrow2 := hid hrow
              have Hkm := hid hkm
              have Hk := hid hk
              have Hj := hid hj
              have Hy := hid hy
              have Hbb := hid hbb
              have Hll := hid hl6
              clear hs hr1 hst hll hkm hk hbb hrow hj hy hil hiT hx hat hl6 ho1 hl1
              go_upto_region 4 with (go_at_call 53; refine his.mono ?_; rintro e w2 ⟨rfl, hg2, hs2⟩; have k1 := hs2.k.cell 1; have fr1 := hs2.k.free 1; simp only [List.getElem?_cons_zero, List.getElem?_cons_succ] at k1; rw [← Hy.out] at k1)
              have hstA := (Hst1.out.grown hg2 hs2).at (i1 + 1) Hj.out
              rw [Int.natCast_add, Int.natCast_one, ← Hy.out] at hstA
              obtain ⟨wq, hwq⟩ : ∃ wq, wq = w2.setCell ⟨bp, 1, none⟩ (.int .i64 (y + 1)) := ⟨_, rfl⟩
              rw [← hwq] at hstA ⊢
              have hstq := hstA.kp ((Kp.refl (fun _ => False) wq).drewN 1) (fun _ e => e.elim)
              have n2 := hstA.n.cell 2
              simp only [List.getElem?_cons_zero, List.getElem?_cons_succ] at n2
              have Hstq := hid hstq
              clear hwq hstA hstq k1 fr1 hg2 hs2 his
              go_region_law
                (first
                  | (have hrun0 := hrun; refine step_app (by rfl) _ _ _ (by rfl) v (.slice (some ⟨w3.heap.size, 0, none⟩) 1 1) _ w5 (by go_simp) (by go_simp) (by exact hrun) ?_)
                  | (go_simp; go_at_call 104; refine (Hrow2.out _ Hstq.out).mono ?_; rintro e w3 ⟨nn, gk2, ck2, j2, p2, f2, rfl, hn3, hst3, hcase3⟩; simp only [nodeV]; have n3 := hst3.n.cell 2; have hln3 := hst3.n.lt; simp only [List.getElem?_cons_zero, List.getElem?_cons_succ] at n3; obtain ⟨g2, cap2, w5, hrun, ⟨m0, m1, m2, mf, ml⟩, hst6⟩ := hst3.app (ck := ck2) hn3 (by have := Hll.out; omega) 83 0 (N := w3.heap.size) rfl; have Hst6 := hid hst6; have Hcase3 := hid hcase3; clear hst6 hcase3 hst3 hn3))
              all_goals
                go_wp2_with fail
                go_roundg f
                case measure => have := Hkm.out; omega
                case rel =>
                  refine ⟨f, _, ls ++ [nn], j2, p2, f2, rfl, by have := Hk.out; omega, Hst6.out.up (by simp [World.setCell]) (Nat.le_refl _), by have := Hll.out; simp; omega, ?_⟩
                  rcases Hcase3.out with ⟨h1, h2, h3, h4⟩ | h
                  · exact .inl ⟨h1, h2, h3, by simpa using h4⟩
                  · exact .inr h
        · have his := ris_bad hst.sta hf1 [124]
          have Hst1 := hid hst
          have Hr1 := hid (And.intro hr1 hll)
          clear hr1 hst hll hkm hk hbb hf1
          go_wp2_with (go_at_call 53; refine his.mono ?_; rintro e w2 ⟨rfl, hg2, hs2⟩)
          go_meet
          have hst2 := Hst1.out.grown hg2 hs2
          have hb5 := hst2.bb
          exact ⟨v, ls, i1, o1, f1, Hr1.out.2, hst2.up (by omega) (Nat.le_refl _), .inr Hr1.out.1⟩
theorem ralt_all {T : List Lex.Tok} (hT : T.length ≤ 4096) (hK : ∀ i, 0 < (Syn.tk T i).kind) (f : Nat) : RAltSays T f := by
  induction f using Nat.strongRecOn with
  | ind f ih =>
    refine ralt_calls hT fun g hg => rrow_calls hT hK fun g' hg' => ih g' (by omega)
end Go.Proofs.Ytjaampgpihicmaa
