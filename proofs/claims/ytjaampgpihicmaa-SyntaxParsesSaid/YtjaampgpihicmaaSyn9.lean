/- Chapter 5 (syntax): alternation, given row. -/
import Derived.Test.YtjaampgpihicmaaSyn8
namespace Go.Proofs.Ytjaampgpihicmaa
open Go.RowKit
attribute [local go_sem ↓] Go.wp_at_zero Go.wp_at_succ
attribute [local go_sem] frozen_alloc_lt
open Syn (Nd Nod)

def AltSays (T : List Lex.Tok) (f : Nat) : Prop := ∀ (i o : Nat) (x : Syn.Res Nod), Syn.altF T f i o = some x → o ≤ 16 → ∀ (w : World) (B bp : Nat) (gT : Option Addr) (cT : Nat), Par w B bp gT cT T i o →
  Calls Try.prog 98 #[.pointer (some ⟨bp, 0, none⟩)] w (PEnd (isNode w.heap.size) w B bp gT cT T x)
def AltRel (T : List Lex.Tok) (F : Nat) (r : Syn.Res Nod) (w0 : World) (B bp : Nat) (gT : Option Addr) (cT b : Nat) (k : Nat) (v3 : Value) (w : World) : Prop :=
  ∃ (m : Nat) (ls : List Nod) (i o : Nat), k = m ∧ m ≤ F ∧ Syn.altM T m (Nd.ofList ls) i o = some r ∧ o ≤ 16 ∧ ls.length ≤ i + 1 ∧ OwnA NodR 3 w (b + 1) 49 v3 ls ∧ Par w B bp gT cT T i o ∧ w0.grownBy w (some bp) ∧ Bk w b 49 [.int .i64 0, .string ⟨#[]⟩, .slice none 0 0]
theorem nodes_app {w : World} {b : Nat} {v3 : Value} {ls : List Nod} {nn : Nod} {gk : Option Addr} {ck : Nat} (hown : OwnA NodR 3 w (b + 1) 49 v3 ls) (hk : NdAt w (fun q => b + 1 ≤ q ∧ q < w.heap.size ∧ v3.ownBlock ≠ some q) gk nn.kids 0) (hl : ls.length ≤ 1000000) (hB : b + 1 ≤ w.heap.size) (ty : TypeId) (q : Nat) {H : Nat} (hH : w.heap.size = H) :
    ∃ g2 cap2 w2, (Builtin.append_ #[47, 47] ty #[v3, .slice (some ⟨H, 0, none⟩) 1 1]).run Try.prog ((w.alloc (.cells #[.int .i64 nn.kind, .string ⟨nn.text.toArray⟩, .slice gk nn.kids.len ck] 49)).drewN q) = .ok (.slice (some ⟨g2, 0, none⟩) (ls.length + 1) cap2) w2 ∧
      OwnA NodR 3 w2 (b + 1) 49 (.slice (some ⟨g2, 0, none⟩) (ls.length + 1) cap2) (ls ++ [nn]) ∧ Kp (fun k => v3.ownBlock = some k) w w2 := by
  subst hH
  obtain ⟨i0, hi0, y0, y1, y2⟩ := info_parts nodeInfo
  obtain ⟨g2, cap2, w2, h1, h2, h3, h4, h5⟩ := hown.app (P := Try.prog) NodR.fit 47 ty i0 _ 48 Try.underlying47 hi0 y0 y1 y2 rfl (by omega) (by omega) hB hl nn _ ⟨gk, ck, rfl, hk⟩ q
  exact ⟨g2, cap2, w2, h1, h2, h3⟩

/-- A node is handed back in the result's cells. -/
theorem node_back0 {T : List Lex.Tok} {w w1 : World} {B bp b : Nat} {gT : Option Addr} {cT : Nat} {i o : Nat} {n : Nod} {gk : Option Addr} {ck : Nat} (hb : b = w.heap.size) (hbb : bp < b) (hg : w.grownBy w1 (some bp)) (hq : Par w1 B bp gT cT T i o) (hn : NdAt w1 (From (b + 1) w1) gk n.kids 0) :
    PEnd (isNode w.heap.size) w B bp gT cT T (.ok n i o) (.returned (nodeV n gk ck)) (((w1.setCell ⟨b, 0, none⟩ (.int .i64 n.kind)).setCell ⟨b, 1, none⟩ (.string ⟨n.text.toArray⟩)).setCell ⟨b, 2, none⟩ (.slice gk n.kids.len ck)) := by
  have hkp := kp_set3 w1 b (.int .i64 n.kind) (.string ⟨n.text.toArray⟩) (.slice gk n.kids.len ck)
  have hn2 := (hn.kp hkp (fun k hk e => by have := hk.1; omega)).mono (D' := From w.heap.size _) fun k hk => ⟨by have := hk.1; omega, Nat.lt_of_lt_of_le hk.2 hkp.size⟩
  refine PEnd.isOk rfl ?_ ⟨gk, ck, rfl, hn2⟩ (hq.kp hkp (fun k e => by omega))
  subst hb
  refine gb_set ?_ (.inr (Nat.le_refl _)) _
  refine gb_set ?_ (.inr (Nat.le_refl _)) _
  refine gb_set ?_ (.inr (Nat.le_refl _)) _
  exact hg
set_option maxRecDepth 8000 in
set_option maxHeartbeats 8000000 in
theorem alt_calls {T : List Lex.Tok} {F : Nat} (ha : ∀ f, f < F → RowSays T f) : AltSays T F := by
  intro i o r hr ho w B bp gT cT h
  obtain ⟨F, rfl⟩ : ∃ f, F = f + 1 := by
    cases F with
    | zero => simp [Syn.altF] at hr
    | succ f => exact ⟨f, rfl⟩
  rw [Syn.altF] at hr
  have hlt := h.k.lt
  have hb0 : Below w.heap.size w (w.alloc (.cells #[.int .i64 0, .string ⟨#[]⟩, .slice none 0 0] 49)) := (Below.refl _ _).alloc (Nat.le_refl _) _
  have h0 := h.below hb0
  have rb0 := Bk.new w 49 [.int .i64 0, .string ⟨#[]⟩, .slice none 0 0]
  cases hx : Syn.rowF T F .nil i o with
  | none => rw [hx] at hr; simp at hr
  | some x =>
    rw [hx] at hr
    have hat := ha F (by omega) i o x hx ho _ B bp gT cT h0
    cases x with
    | bad fl =>
      simp only [Option.bind_some, Syn.Res.bind, Option.some.injEq] at hr
      subst hr
      have Hat := hid hat
      have Hb0 := hid hb0
      clear hat hx ha h h0 hb0 rb0
      go_enter Try.func98, Try.ntmps98
      go_wp2_with (go_at_call 128; refine Hat.out.mono ?_; rintro e w1 hP; obtain ⟨rfl, hg⟩ := PEnd.whenBad hP rfl; clear hP)
      exact ⟨rfl, PEnd.isBad rfl (gb_trans (below_gb Hb0.out _) hg)⟩
    | ok n j p =>
      have hp2 := (Syn.same_o T F).2.2.1 _ _ _ _ _ _ hx
      subst hp2
      have hr1 : Syn.altM T F (Nd.ofList [n]) j p = some r := hr
      have Hat := hid hat
      have Hb0 := hid hb0
      have Hr1 := hid hr1
      have Ha := hid ha
      have Rb0 := hid rb0
      have Ho := hid ho
      clear hat hx ha h h0 hb0 rb0 hr hr1 ho
      go_enter Try.func98, Try.ntmps98
      go_wp2_with (go_at_call 128; refine Hat.out.mono ?_; rintro e w1 hP; obtain ⟨⟨v, rfl, kg, kc, rfl, hn⟩, hq, hg⟩ := PEnd.whenOk hP rfl; clear hP; simp only [nodeV])
      have hsz : (w.alloc (.cells #[.int .i64 0, .string ⟨#[]⟩, .slice none 0 0] 49)).heap.size = w.heap.size + 1 := by simp
      have hsz1 := hg.size
      rw [hsz] at hn hsz1
      have hown := OwnA.one (T := 49) (B := w.heap.size + 1) NodR.fit (a := n) ⟨kg, kc, rfl, hn⟩ hsz1
      have hal : Below w1.heap.size w1 (w1.alloc (.cells #[.int .i64 n.kind, .string ⟨n.text.toArray⟩, .slice kg n.kids.len kc] 49)) := (Below.refl _ _).alloc (Nat.le_refl _) _
      have hq0 := hq.below hal
      have hg0 := gb_alloc (gb_trans (below_gb Hb0.out _) hg) (.cells #[.int .i64 n.kind, .string ⟨n.text.toArray⟩, .slice kg n.kids.len kc] 49)
      have hrb := (Rb0.out.grown hg (by intro e; injection e with e; omega)).alloc (.cells #[.int .i64 n.kind, .string ⟨n.text.toArray⟩, .slice kg n.kids.len kc] 49)
      obtain ⟨b, hb⟩ : ∃ b, b = w.heap.size := ⟨_, rfl⟩
      obtain ⟨wa, hwa⟩ : ∃ wa, wa = w1.alloc (.cells #[.int .i64 n.kind, .string ⟨n.text.toArray⟩, .slice kg n.kids.len kc] 49) := ⟨_, rfl⟩
      obtain ⟨bn, hbn⟩ : ∃ bn, bn = w1.heap.size := ⟨_, rfl⟩
      rw [← hwa] at hown hq0 hg0 hrb ⊢
      rw [← hb] at hown hrb ⊢
      rw [← hbn] at hown ⊢
      have hbb : bp < b := by omega
      have HB := hid hb
      have Hown0 := hid hown
      have Hq0 := hid hq0
      have Hg0 := hid hg0
      have Hrb := hid hrb
      clear hwa hb hbn hown hq0 hg0 hrb hal hn hq hg hlt hsz hsz1
      go_loopg [3] F (fun k v3 wr => AltRel T F r w B bp gT cT b k v3 wr)
      case atStart => exact ⟨F, [n], j, p, rfl, Nat.le_refl _, Hr1.out, Ho.out, by simp, Hown0.out, Hq0.out, Hg0.out, Hrb.out⟩
      case round =>
        obtain ⟨m, ls, i1, o1, hkm, hk, hr1, ho1, hl1, hown, hp1, hg1, hrb1⟩ := hrel
        obtain ⟨f, rfl⟩ : ∃ f, m = f + 1 := by
          cases m with
          | zero => simp [Syn.altM] at hr1
          | succ f => exact ⟨f, rfl⟩
        rw [Syn.altM] at hr1
        obtain ⟨ga, ca, hv⟩ := hown.slice
        obtain ⟨L, hL⟩ : ∃ L, L = ls.length := ⟨_, rfl⟩
        rw [← hL] at hv
        have HL := hid hL
        have Hown := hid hown
        have Hp1 := hid hp1
        have Hg1 := hid hg1
        have Hrb1 := hid hrb1
        have Hkm := hid hkm
        have Ho1 := hid ho1
        have Hl1 := hid hl1
        have Hr1 := hid hr1
        clear hL hown hg1 hrb1 hkm ho1 hl1
        have hv' := hv
        subst hv'
        cases hfar : Syn.far T i1 with
        | true =>
          rw [hfar, if_pos rfl, Option.some.injEq] at hr1
          subst hr1
          have hs := sign_no hp1 hfar [124]
          clear hfar hp1 hv
          go_wp2_with (go_at_call 93; refine hs.mono ?_; rintro e w2 ⟨rfl, hb2⟩)
          exact ⟨rfl, PEnd.isBad rfl (gb_trans Hg1.out (below_gb hb2 _))⟩
        | false =>
          rw [hfar, if_neg (by decide)] at hr1
          cases hs : Syn.isS T i1 [124] with
          | true =>
            rw [hs, if_pos rfl] at hr1
            have hsn := sign_ok hp1 hfar [124]
            rw [hs] at hsn
            have hj := lt_last hp1.lt hp1.last (by unfold Syn.isS at hs; simp at hs; omega)
            have hi1 : i1 < 1000000 := by have := hp1.len; have := hp1.lt; omega
            cases hx : Syn.rowF T f .nil (i1 + 1) o1 with
            | none => rw [hx] at hr1; simp at hr1
            | some x =>
              rw [hx] at hr1
              obtain ⟨y, hy⟩ : ∃ y : Int, y = i1 := ⟨_, rfl⟩
              have hy1 : y < 1000000 := by omega
              have hy0 : 0 ≤ y := by omega
              have hpar : ∀ w2, Below wr.heap.size wr w2 → Par (w2.setCell ⟨bp, 1, none⟩ (.int .i64 (y + 1))) B bp gT cT T (i1 + 1) o1 := fun w2 hb2 => by
                have := (hp1.below hb2).at (i1 + 1) hj
                rw [Int.natCast_add, Int.natCast_one, ← hy] at this
                exact this
              have hrow := Ha.out f (by omega) (i1 + 1) o1 x hx Ho1.out
              have Hy := hid hy
              have Hpar := hid hpar
              have Hx := hid hx
              have Hi1 := hid hi1
              clear hs hfar hj hy hpar hx hi1 hp1 hv
              cases x with
              | bad fl =>
                simp only [Option.bind_some, Syn.Res.bind, Option.some.injEq] at hr1
                subst hr1
                go_wp2_with (first
                  | (go_at_call 93; refine hsn.mono ?_; rintro e w2 ⟨rfl, hb2⟩; have k1 := (Hp1.out.below hb2).k.cell 1; have fr1 := (Hp1.out.below hb2).k.free 1; simp only [List.getElem?_cons_zero, List.getElem?_cons_succ] at k1; rw [← Hy.out] at k1)
                  | (go_at_call 128; refine (hrow _ B bp gT cT (Hpar.out w2 hb2)).mono ?_; rintro e w3 hP; obtain ⟨rfl, hg3⟩ := PEnd.whenBad hP rfl; clear hP))
                exact ⟨rfl, PEnd.isBad rfl (gb_trans Hg1.out (gb_trans (gb_setb (below_gb hb2 _)) hg3))⟩
              | ok n' j' p' =>
                have hp2 := (Syn.same_o T f).2.2.1 _ _ _ _ _ _ Hx.out
                have hle := ((Syn.agree_all T T 0 f).2.2.1 _ _ _ _ _ _ Hx.out).1
                subst hp2
                have hr2 : Syn.altM T f (Nd.ofList (ls ++ [n'])) j' p' = some r := by rw [Nd.ofList_snoc]; exact hr1
                have Hr2 := hid hr2
                have Hle := hid hle
                clear hr1 hr2 hle
                go_wp2_with (first
                  | (go_at_call 93; refine hsn.mono ?_; rintro e w2 ⟨rfl, hb2⟩; have k1 := (Hp1.out.below hb2).k.cell 1; have fr1 := (Hp1.out.below hb2).k.free 1; simp only [List.getElem?_cons_zero, List.getElem?_cons_succ] at k1; rw [← Hy.out] at k1)
                  | (go_at_call 128; refine (hrow _ B bp gT cT (Hpar.out w2 hb2)).mono ?_; rintro e w3 hP; obtain ⟨⟨v, rfl, kg2, kc2, rfl, hn⟩, hq, hg3⟩ := PEnd.whenOk hP rfl; clear hP; simp only [nodeV]; have hkp := (((below_kp hb2).mono (S' := fun k => k = bp) (fun _ _ e => e.elim)).set (p := ⟨bp, 1, none⟩) (.inl rfl) (.int .i64 (y + 1))).trans (gb_kp hg3); have hs2 : (w2.setCell ⟨bp, 1, none⟩ (.int .i64 (y + 1))).heap.size = w2.heap.size := (by simp [World.setCell]); rw [hs2] at hn; have hown3 := Hown.out.kp NodR.fit hkp (fun k hk1 _ e => by omega); have hsw := hb2.size; have hrl := Hrb1.out.lt; have hw3 := hkp.size; obtain ⟨g2, cap2, w5, hrun, hown5, hkp5⟩ := nodes_app hown3 (hn.mono (fun k hk => ⟨by have := hk.1; omega, hk.2, fun e => by have := (Hown.out.lt k e).2; have := hk.1; omega⟩)) (by have := Hl1.out; have := Hi1.out; omega) (by omega) 47 0 rfl; rw [← HL.out] at hrun hown5; have Hq := hid hq; have Hown5 := hid hown5; have Hkp5 := hid hkp5; have Hkp := hid hkp; have Hg3 := hid hg3; have Hrun := hid hrun; clear hrun)
                  | (at_builtin; refine wpList_app rfl _ _ _ rfl (.slice ga L ca) (.slice (some ⟨w3.heap.size, 0, none⟩) 1 1) _ w5 (by rfl) (by rfl) (by exact Hrun.out) ?_))
                go_roundg f
                case measure => have := Hkm.out; omega
                case rel =>
                  have hs : ∀ k, (Value.slice ga L ca).ownBlock = some k → b + 1 ≤ k := fun k hk => (Hown.out.lt k hk).1
                  refine ⟨f, ls ++ [n'], j', p', rfl, by omega, Hr2.out, Ho1.out, by have := Hl1.out; have := Hle.out; simp; omega, by have := Hown5.out; rw [HL.out] at this ⊢; exact this, Hq.out.kp Hkp5.out (fun k hk => by have := hs k hk; omega), ?_, ?_⟩
                  · exact gb_then_kp (gb_trans Hg1.out (gb_trans (gb_setb (below_gb hb2 _)) Hg3.out)) Hkp5.out (fun k hk => by have := hs k hk; have := HB.out; omega)
                  · exact (Hrb1.out.kp Hkp.out (by omega)).kp Hkp5.out (fun e => by have := hs b e; omega)
          | false =>
            rw [hs, if_neg (by decide), Option.some.injEq] at hr1
            subst hr1
            have hsn := sign_ok hp1 hfar [124]
            rw [hs] at hsn
            clear hs hfar hv
            by_cases hone : ls.length = 1
            · obtain ⟨n', rfl⟩ : ∃ n', ls = [n'] := by
                match ls, hone with
                | [n'], _ => exact ⟨n', rfl⟩
              clear hone
              obtain ⟨g, cap, x, hv, hg1, hg2, ⟨kg2, kc2, rfl, hn⟩, hc⟩ := Hown.out.at NodR.fit (i := 0) (a := n') rfl
              have hL1 : L = 1 := HL.out
              subst hL1
              have hv0 : Value.slice ga 1 ca = Value.slice (some ⟨g, 0, none⟩) 1 cap := hv
              injection hv0 with e1 e2 e3
              subst e1
              have Hn := hid hn
              have Hc := hid hc
              clear hn hc hv e2 e3
              go_wp2_with (go_at_call 93; refine hsn.mono ?_; rintro e w2 ⟨rfl, hb2⟩; (have rb2 := Hrb1.out.below hb2 Hrb1.out.lt); (have hl2 : b < w2.heap.size := rb2.lt); (have r0 := rb2.cell 0); (have r1 := rb2.cell 1); (have r2 := rb2.cell 2); (have f0 := rb2.free 0); (have f1 := rb2.free 1); (have f2 := rb2.free 2); simp only [List.getElem?_cons_zero, List.getElem?_cons_succ] at r0 r1 r2; have hgl : g < w2.heap.size := Nat.lt_of_lt_of_le hg2 hb2.size; have hgb : ¬ g = b := (by omega); have hk := below_kp hb2; have c0 := hk.cell (Hc.out 0 _ rfl) (fun e => e); have c1 := hk.cell (Hc.out 1 _ rfl) (fun e => e); have c2 := hk.cell (Hc.out 2 _ rfl) (fun e => e); simp only [Nat.zero_mul, Nat.zero_add] at c0 c1 c2)
              refine bodyPost_ret (v := nodeV n' kg2 kc2) (by simp [results, Try.results98, go_sem, nodeV, r0, r1, r2]) rfl ?_
              rw [Syn.pack_one]
              exact node_back0 (n := n') (ck := kc2) HB.out hbb (gb_trans Hg1.out (below_gb hb2 _)) (Hp1.out.below hb2) ((Hn.out.kp hk (fun k hk e => e)).mono fun k hk' => ⟨hk'.1, Nat.lt_of_lt_of_le hk'.2.1 hk.size⟩)
            · have hone' : ¬ (L : Int) = 1 := by have := HL.out; omega
              have Hone := hid hone
              clear hone
              go_wp2_with (go_at_call 93; refine hsn.mono ?_; rintro e w2 ⟨rfl, hb2⟩; (have rb2 := Hrb1.out.below hb2 Hrb1.out.lt); (have hl2 : b < w2.heap.size := rb2.lt); (have r0 := rb2.cell 0); (have r1 := rb2.cell 1); (have r2 := rb2.cell 2); (have f0 := rb2.free 0); (have f1 := rb2.free 1); (have f2 := rb2.free 2); simp only [List.getElem?_cons_zero, List.getElem?_cons_succ] at r0 r1 r2)
              refine bodyPost_ret (v := nodeV ⟨4, [], Nd.ofList ls⟩ ga ca) (by simp [results, Try.results98, go_sem, nodeV, r0, r1, r2, Nd.ofList_len, HL.out]) rfl ?_
              rw [Syn.pack_more 4 Hone.out]
              obtain ⟨ga2, ca2, e2, hn⟩ := own_nodes (Hown.out.later NodR.fit hb2)
              injection e2 with e3 e4 e5
              subst e3
              have hfin := node_back0 (n := ⟨4, [], Nd.ofList ls⟩) (ck := ca) HB.out hbb (gb_trans Hg1.out (below_gb hb2 _)) (Hp1.out.below hb2) hn
              rw [Nd.ofList_len, ← HL.out] at hfin
              exact hfin
end Go.Proofs.Ytjaampgpihicmaa
