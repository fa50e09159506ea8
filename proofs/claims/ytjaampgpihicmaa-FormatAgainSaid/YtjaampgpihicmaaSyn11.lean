/- Chapter 5 (syntax): alternation, given row. -/
import Derived.Test.YtjaampgpihicmaaSyn8
namespace Go.Proofs.Ytjaampgpihicmaa
open Go.RowKit
attribute [local go_sem ↓] Go.wp_at_zero Go.wp_at_succ
attribute [local go_sem] frozen_alloc_lt
open Syn (Nd Nod)

def AltSays (T : List Lex.Tok) (f : Nat) : Prop := ∀ (i o : Nat) (x : Syn.Res Nod), Syn.altF T f i o = some x → o ≤ 16 → ∀ (w : World) (B bp : Nat) (gT : Option Addr) (cT : Nat), Par w B bp gT cT T i o →
  Calls Try.prog 98 #[.pointer (some ⟨bp, 0, none⟩)] w (PEnd (isNode w.heap.size) w B bp gT cT T x)
def AltRel (T : List Lex.Tok) (F : Nat) (r : Syn.Res Nod) (w0 : World) (B bp : Nat) (gT : Option Addr) (cT b : Nat) (k : Nat) (v3 : Value) (w : World) : Prop :=
  ∃ (m : Nat) (ls : List Nod) (i o : Nat), k = m ∧ m ≤ F ∧ Syn.altM T m (Nd.ofList ls) i o = some r ∧ o ≤ 16 ∧ ls.length ≤ i + 1 ∧ OwnA NodR 3 w (b + 1) 49 v3 ls ∧ Par w B bp gT cT T i o ∧ w0.grownBy w (some bp) ∧ Bk w b 49 [.int .i64 0, .string ⟨#[]⟩, .slice none 0 0]
theorem nodes_app {w : World} {b : Nat} {v3 : Value} {ls : List Nod} {nn : Nod} {gk : Option Addr} {ck : Nat} (hown : OwnA NodR 3 w (b + 1) 49 v3 ls) (hk : NdAt w (fun q => b + 1 ≤ q ∧ q < w.heap.size ∧ v3.ownBlock ≠ some q) gk nn.kids 0) (hl : ls.length ≤ 1000000) (hB : b + 1 ≤ w.heap.size) (ty : TypeId) (q : Nat) {H : Nat} (hH : w.heap.size = H) :
    ∃ g2 cap2 w2, (Builtin.append_ #[47, 47] ty #[v3, .slice (some ⟨H, 0, none⟩) 1 1]).run Try.prog ((w.alloc (.cells #[.int .i64 nn.kind, .string ⟨nn.text.toArray⟩, .slice gk nn.kids.len ck] 49)).drewN q) = .ok (.slice (some ⟨g2, 0, none⟩) (ls.length + 1) cap2) w2 ∧
      OwnA NodR 3 w2 (b + 1) 49 (.slice (some ⟨g2, 0, none⟩) (ls.length + 1) cap2) (ls ++ [nn]) ∧ Kp (fun k => v3.ownBlock = some k) w w2 := by
  subst hH
  obtain ⟨i0, hi0, y0, y1, y2⟩ := info_parts nodeInfo
  obtain ⟨g2, cap2, w2, h1, h2, h3, h4, h5⟩ := hown.app (P := Try.prog) NodR.fit 47 ty i0 _ 48 Try.underlying47 hi0 y0 y1 y2 rfl (by omega) (by omega) hB hl nn _ ⟨gk, ck, rfl, hk⟩ q
  exact ⟨g2, cap2, w2, h1, h2, h3⟩

/-- A node is handed back in the result's cells. -/
theorem node_back0 {T : List Lex.Tok} {w w1 : World} {B bp b : Nat} {gT : Option Addr} {cT : Nat} {i o : Nat} {n : Nod} {gk : Option Addr} {ck : Nat} (hb : b = w.heap.size) (hbb : bp < b) (hg : w.grownBy w1 (some bp)) (hq : Par w1 B bp gT cT T i o) (hn : NdAt w1 (From (b + 1) w1) gk n.kids 0) :
    PEnd (isNode w.heap.size) w B bp gT cT T (.ok n i o) (.returned (nodeV n gk ck)) (((w1.setCell ⟨b, 0, none⟩ (.int .i64 n.kind)).setCell ⟨b, 1, none⟩ (.string ⟨n.text.toArray⟩)).setCell ⟨b, 2, none⟩ (.slice gk n.kids.len ck)) := by
  have hkp := kp_set3 w1 b (.int .i64 n.kind) (.string ⟨n.text.toArray⟩) (.slice gk n.kids.len ck)
  have hn2 := (hn.kp hkp (fun k hk e => by have := hk.1; omega)).mono (D' := From w.heap.size _) fun k hk => ⟨by have := hk.1; omega, Nat.lt_of_lt_of_le hk.2 hkp.size⟩
  refine PEnd.isOk rfl ?_ ⟨gk, ck, rfl, hn2⟩ (hq.kp hkp (fun k e => by omega))
  subst hb
  refine gb_set ?_ (.inr (Nat.le_refl _)) _
  refine gb_set ?_ (.inr (Nat.le_refl _)) _
  refine gb_set ?_ (.inr (Nat.le_refl _)) _
  exact hg
set_option maxRecDepth 8000 in
set_option maxHeartbeats 8000000 in
theorem alt_calls {T : List Lex.Tok} {F : Nat} (ha : ∀ f, f < F → RowSays T f) : AltSays T F := by
  intro i o r hr ho w B bp gT cT h
  obtain ⟨F, rfl⟩ : ∃ f, F = f + 1 := by
    cases F with
    | zero => simp [Syn.altF] at hr
    | succ f => exact ⟨f, rfl⟩
  rw [Syn.altF] at hr
  have hlt := h.k.lt
  have hb0 : Below w.heap.size w (w.alloc (.cells #[.int .i64 0, .string ⟨#[]⟩, .slice none 0 0] 49)) := (Below.refl _ _).alloc (Nat.le_refl _) _
  have h0 := h.below hb0
  have rb0 := Bk.new w 49 [.int .i64 0, .string ⟨#[]⟩, .slice none 0 0]
  cases hx : Syn.rowF T F .nil i o with
  | none => rw [hx] at hr; simp at hr
  | some x =>
    rw [hx] at hr
    have hat := ha F (by omega) i o x hx ho _ B bp gT cT h0
    cases x with
    | bad fl =>
      simp only [Option.bind_some, Syn.Res.bind, Option.some.injEq] at hr
      subst hr
      have Hat := hid hat
      have Hb0 := hid hb0
      clear hat hx ha h h0 hb0 rb0
      go_enter Try.func98, Try.ntmps98
      go_wp2_with (go_at_call 128; refine Hat.out.mono ?_; rintro e w1 hP; obtain ⟨rfl, hg⟩ := PEnd.whenBad hP rfl; clear hP)
      exact ⟨rfl, PEnd.isBad rfl (gb_trans (below_gb Hb0.out _) hg)⟩
    | ok n j p =>
      have hp2 := (Syn.same_o T F).2.2.1 _ _ _ _ _ _ hx
      subst hp2
      have hr1 : Syn.altM T F (Nd.ofList [n]) j p = some r := hr
      have Hat := hid hat
      have Hb0 := hid hb0
      have Hr1 := hid hr1
      have Ha := hid ha
      have Rb0 := hid rb0
      have Ho := hid ho
      clear hat hx ha h h0 hb0 rb0 hr hr1 ho
      go_enter Try.func98, Try.ntmps98
      go_wp2_with (go_at_call 128; refine Hat.out.mono ?_; rintro e w1 hP; obtain ⟨⟨v, rfl, kg, kc, rfl, hn⟩, hq, hg⟩ := PEnd.whenOk hP rfl; clear hP; simp only [nodeV])
      have hsz : (w.alloc (.cells #[.int .i64 0, .string ⟨#[]⟩, .slice none 0 0] 49)).heap.size = w.heap.size + 1 := by simp
      have hsz1 := hg.size
      rw [hsz] at hn hsz1
      have hown := OwnA.one (T := 49) (B := w.heap.size + 1) NodR.fit (a := n) ⟨kg, kc, rfl, hn⟩ hsz1
      have hal : Below w1.heap.size w1 (w1.alloc (.cells #[.int .i64 n.kind, .string ⟨n.text.toArray⟩, .slice kg n.kids.len kc] 49)) := (Below.refl _ _).alloc (Nat.le_refl _) _
      have hq0 := hq.below hal
      have hg0 := gb_alloc (gb_trans (below_gb Hb0.out _) hg) (.cells #[.int .i64 n.kind, .string ⟨n.text.toArray⟩, .slice kg n.kids.len kc] 49)
      have hrb := (Rb0.out.grown hg (by intro e; injection e with e; omega)).alloc (.cells #[.int .i64 n.kind, .string ⟨n.text.toArray⟩, .slice kg n.kids.len kc] 49)
      obtain ⟨b, hb⟩ : ∃ b, b = w.heap.size := ⟨_, rfl⟩
      obtain ⟨wa, hwa⟩ : ∃ wa, wa = w1.alloc (.cells #[.int .i64 n.kind, .string ⟨n.text.toArray⟩, .slice kg n.kids.len kc] 49) := ⟨_, rfl⟩
      obtain ⟨bn, hbn⟩ : ∃ bn, bn = w1.heap.size := ⟨_, rfl⟩
      rw [← hwa] at hown hq0 hg0 hrb ⊢
      rw [← hb] at hown hrb ⊢
      rw [← hbn] at hown ⊢
      have hbb : bp < b := by omega
      have HB := hid hb
      have Hown0 := hid hown
      have Hq0 := hid hq0
      have Hg0 := hid hg0
      have Hrb := hid hrb
      clear hwa hb hbn hown hq0 hg0 hrb hal hn hq hg hlt hsz hsz1
      go_loopg [3] F (fun k v3 wr => AltRel T F r w B bp gT cT b k v3 wr)
      case atStart => exact ⟨F, [n], j, p, rfl, Nat.le_refl _, Hr1.out, Ho.out, by simp, Hown0.out, Hq0.out, Hg0.out, Hrb.out⟩
      case round =>
        obtain ⟨m, ls, i1, o1, hkm, hk, hr1, ho1, hl1, hown, hp1, hg1, hrb1⟩ := hrel
        obtain ⟨f, rfl⟩ : ∃ f, m = f + 1 := by
          cases m with
          | zero => simp [Syn.altM] at hr1
          | succ f => exact ⟨f, rfl⟩
        rw [Syn.altM] at hr1
        obtain ⟨ga, ca, hv⟩ := hown.slice
        obtain ⟨L, hL⟩ : ∃ L, L = ls.length := ⟨_, rfl⟩
        rw [← hL] at hv
        have HL := hid hL
        have Hown := hid hown
        have Hp1 := hid hp1
        have Hg1 := hid hg1
        have Hrb1 := hid hrb1
        have Hkm := hid hkm
        have Ho1 := hid ho1
        have Hl1 := hid hl1
        have Hr1 := hid hr1
        clear hL hown hg1 hrb1 hkm ho1 hl1
        have hv' := hv
        subst hv'
        cases hfar : Syn.far T i1 with
        | true =>
          rw [hfar, if_pos rfl, Option.some.injEq] at hr1
          subst hr1
          have hs := sign_no hp1 hfar [124]
          clear hfar hp1 hv
          go_wp2_with (go_at_call 93; refine hs.mono ?_; rintro e w2 ⟨rfl, hb2⟩)
          exact ⟨rfl, PEnd.isBad rfl (gb_trans Hg1.out (below_gb hb2 _))⟩
        | false =>
          rw [hfar, if_neg (by decide)] at hr1
          cases hs : Syn.isS T i1 [124] with
          | true =>
            rw [hs, if_pos rfl] at hr1
            have hsn := sign_ok hp1 hfar [124]
            rw [hs] at hsn
            have hj := lt_last hp1.lt hp1.last (by unfold Syn.isS at hs; simp at hs; omega)
            have hi1 : i1 < 1000000 := by have := hp1.len; have := hp1.lt; omega
            cases hx : Syn.rowF T f .nil (i1 + 1) o1 with
            | none => rw [hx] at hr1; simp at hr1
            | some x =>
              rw [hx] at hr1
              obtain ⟨y, hy⟩ : ∃ y : Int, y = i1 := ⟨_, rfl⟩
              have hy1 : y < 1000000 := by omega
              have hy0 : 0 ≤ y := by omega
              have hpar : ∀ w2, Below wr.heap.size wr w2 → Par (w2.setCell ⟨bp, 1, none⟩ (.int .i64 (y + 1))) B bp gT cT T (i1 + 1) o1 := fun w2 hb2 => by
                have := (hp1.below hb2).at (i1 + 1) hj
                rw [Int.natCast_add, Int.natCast_one, ← hy] at this
                exact this
              have hrow := Ha.out f (by omega) (i1 + 1) o1 x hx Ho1.out
              have Hy := hid hy
              have Hpar := hid hpar
              have Hx := hid hx
              have Hi1 := hid hi1
              clear hs hfar hj hy hpar hx hi1 hp1 hv
              cases x with
              | bad fl =>
                simp only [Option.bind_some, Syn.Res.bind, Option.some.injEq] at hr1
                subst hr1
                go_wp2_with (first
                  | (go_at_call 93; refine hsn.mono ?_; rintro e w2 ⟨rfl, hb2⟩; have k1 := (Hp1.out.below hb2).k.cell 1; have fr1 := (Hp1.out.below hb2).k.free 1; simp only [List.getElem?_cons_zero, List.getElem?_cons_succ] at k1; rw [← Hy.out] at k1)
                  | (go_at_call 128; refine (hrow _ B bp gT cT (Hpar.out w2 hb2)).mono ?_; rintro e w3 hP; obtain ⟨rfl, hg3⟩ := PEnd.whenBad hP rfl; clear hP))
                exact ⟨rfl, PEnd.isBad rfl (gb_trans Hg1.out (gb_trans (gb_setb (below_gb hb2 _)) hg3))⟩
              | ok n' j' p' =>
                have hp2 := (Syn.same_o T f).2.2.1 _ _ _ _ _ _ Hx.out
                have hle := ((Syn.agree_all T T 0 f).2.2.1 _ _ _ _ _ _ Hx.out).1
                subst hp2
                have hr2 : Syn.altM T f (Nd.ofList (ls ++ [n'])) j' p' = some r := by rw [Nd.ofList_snoc]; exact hr1
                have Hr2 := hid hr2
                have Hle := hid hle
                clear hr1 hr2 hle
                go_wp2_with (first
                  | (go_at_call 93; refine hsn.mono ?_; rintro e w2 ⟨rfl, hb2⟩; have k1 := (Hp1.out.below hb2).k.cell 1; have fr1 := (Hp1.out.below hb2).k.free 1; simp only [List.getElem?_cons_zero, List.getElem?_cons_succ] at k1; rw [← Hy.out] at k1)
                  | (go_at_call 128; refine (hrow _ B bp gT cT (Hpar.out w2 hb2)).mono ?_; rintro e w3 hP; obtain ⟨⟨v, rfl, kg2, kc2, rfl, hn⟩, hq, hg3⟩ := PEnd.whenOk hP rfl; clear hP; simp only [nodeV]; have hkp := (((below_kp hb2).mono (S' := fun k => k = bp) (fun _ _ e => e.elim)).set (p := ⟨bp, 1, none⟩) (.inl rfl) (.int .i64 (y + 1))).trans (gb_kp hg3); have hs2 : (w2.setCell ⟨bp, 1, none⟩ (.int .i64 (y + 1))).heap.size = w2.heap.size := (by simp [World.setCell]); rw [hs2] at hn; have hown3 := Hown.out.kp NodR.fit hkp (fun k hk1 _ e => by omega); have hsw := hb2.size; have hrl := Hrb1.out.lt; have hw3 := hkp.size; obtain ⟨g2, cap2, w5, hrun, hown5, hkp5⟩ := nodes_app hown3 (hn.mono (fun k hk => ⟨by have := hk.1; omega, hk.2, fun e => by have := (Hown.out.lt k e).2; have := hk.1; omega⟩)) (by have := Hl1.out; have := Hi1.out; omega) (by omega) 47 0 rfl; rw [← HL.out] at hrun hown5; have Hq := hid hq; have Hown5 := hid hown5; have Hkp5 := hid hkp5; have Hkp := hid hkp; have Hg3 := hid hg3; have Hrun := hid hrun; clear hrun)
                  | (at_builtin; refine wpList_app rfl _ _ _ rfl (.slice ga L ca) (.slice (some ⟨w3.heap.size, 0, none⟩) 1 1) _ w5 (by rfl) (by rfl) (by exact Hrun.out) ?_))
                go_roundg f
                case measure => have := Hkm.out; omega
                case rel =>
                  have hs : ∀ k, (Value.slice ga L ca).ownBlock = some k → b + 1 ≤ k := fun k hk => (Hown.out.lt k hk).1
                  refine ⟨f, ls ++ [n'], j', p', rfl, by omega, Hr2.out, Ho1.out, by have := Hl1.out; have := Hle.out; simp; omega, by have := Hown5.out; rw [HL.out] at this ⊢; exact this, Hq.out.kp Hkp5.out (fun k hk => by have := hs k hk; omega), ?_, ?_⟩
                  · exact gb_then_kp (gb_trans Hg1.out (gb_trans (gb_setb (below_gb hb2 _)) Hg3.out)) Hkp5.out (fun k hk => by have := hs k hk; have := HB.out; omega)
                  · exact (Hrb1.out.kp Hkp.out (by omega)).kp Hkp5.out (fun e => by have := hs b e; omega)
          | false =>
            rw [hs, if_neg (by decide), Option.some.injEq] at hr1
            subst hr1
            have hsn := sign_ok hp1 hfar [124]
            rw [hs] at hsn
            clear hs hfar hv
            by_cases hone : ls.length = 1
            · obtain ⟨n', rfl⟩ : ∃ n', ls = [n'] := by
                match ls, hone with
                | [n'], _ => exact ⟨n', rfl⟩
              clear hone
              obtain ⟨g, cap, x, hv, hg1, hg2, ⟨kg2, kc2, rfl, hn⟩, hc⟩ := Hown.out.at NodR.fit (i := 0) (a := n') rfl
              have hL1 : L = 1 := HL.out
              subst hL1
              have hv0 : Value.slice ga 1 ca = Value.slice (some ⟨g, 0, none⟩) 1 cap := hv
              injection hv0 with e1 e2 e3
              subst e1
              have Hn := hid hn
              have Hc := hid hc
              clear hn hc hv e2 e3
              go_wp2_with (go_at_call 93; refine hsn.mono ?_; rintro e w2 ⟨rfl, hb2⟩; (have rb2 := Hrb1.out.below hb2 Hrb1.out.lt); (have hl2 : b < w2.heap.size := rb2.lt); (have r0 := rb2.cell 0); (have r1 := rb2.cell 1); (have r2 := rb2.cell 2); (have f0 := rb2.free 0); (have f1 := rb2.free 1); (have f2 := rb2.free 2); simp only [List.getElem?_cons_zero, List.getElem?_cons_succ] at r0 r1 r2; have hgl : g < w2.heap.size := Nat.lt_of_lt_of_le hg2 hb2.size; have hgb : ¬ g = b := (by omega); have hk := below_kp hb2; have c0 := hk.cell (Hc.out 0 _ rfl) (fun e => e); have c1 := hk.cell (Hc.out 1 _ rfl) (fun e => e); have c2 := hk.cell (Hc.out 2 _ rfl) (fun e => e); simp only [Nat.zero_mul, Nat.zero_add] at c0 c1 c2)
              refine bodyPost_ret (v := nodeV n' kg2 kc2) (by simp [results, Try.results98, go_sem, nodeV, r0, r1, r2]) rfl ?_
              rw [Syn.pack_one]
              exact node_back0 (n := n') (ck := kc2) HB.out hbb (gb_trans Hg1.out (below_gb hb2 _)) (Hp1.out.below hb2) ((Hn.out.kp hk (fun k hk e => e)).mono fun k hk' => ⟨hk'.1, Nat.lt_of_lt_of_le hk'.2.1 hk.size⟩)
            · have hone' : ¬ (L : Int) = 1 := by have := HL.out; omega
              have Hone := hid hone
              clear hone
              go_wp2_with (go_at_call 93; refine hsn.mono ?_; rintro e w2 ⟨rfl, hb2⟩; (have rb2 := Hrb1.out.below hb2 Hrb1.out.lt); (have hl2 : b < w2.heap.size := rb2.lt); (have r0 := rb2.cell 0); (have r1 := rb2.cell 1); (have r2 := rb2.cell 2); (have f0 := rb2.free 0); (have f1 := rb2.free 1); (have f2 := rb2.free 2); simp only [List.getElem?_cons_zero, List.getElem?_cons_succ] at r0 r1 r2)
              refine bodyPost_ret (v := nodeV ⟨4, [], Nd.ofList ls⟩ ga ca) (by simp [results, Try.results98, go_sem, nodeV, r0, r1, r2, Nd.ofList_len, HL.out]) rfl ?_
              rw [Syn.pack_more 4 Hone.out]
              obtain ⟨ga2, ca2, e2, hn⟩ := own_nodes (Hown.out.later NodR.fit hb2)
              injection e2 with e3 e4 e5
              subst e3
              have hfin := node_back0 (n := ⟨4, [], Nd.ofList ls⟩) (ck := ca) HB.out hbb (gb_trans Hg1.out (below_gb hb2 _)) (Hp1.out.below hb2) hn
              rw [Nd.ofList_len, ← HL.out] at hfin
              exact hfin
end Go.Proofs.Ytjaampgpihicmaa
/- Chapter 5 (syntax): alternation, row, atom of any fuel. -/
namespace Go.Proofs.Ytjaampgpihicmaa
open Go.RowKit
open Syn (Nd Nod)

theorem arnd_all {T : List Lex.Tok} {f : Nat} (ha : ∀ g, g < f → AltSays T g) {e : List UInt8} {i o : Nat} {r : Syn.Res Nod} (hr : Syn.arndF T f e i o = some r) (ho : o ≤ 16) (hk : (Syn.tk T i).kind ≠ 4) {B bp : Nat} {gT : Option Addr} {cT : Nat} :
    ∀ w, Par w B bp gT cT T i o → Calls Try.prog 148 #[.pointer (some ⟨bp, 0, none⟩), .string ⟨e.toArray⟩] w (PEnd (isNode w.heap.size) w B bp gT cT T r) := by
  intro w h
  cases f with
  | zero => simp [Syn.arndF] at hr
  | succ f =>
    rw [Syn.arndF] at hr
    by_cases h16 : o = 16
    · rw [if_pos h16, Option.some.injEq] at hr
      subst hr h16
      exact around_deep h e
    · rw [if_neg h16] at hr
      cases hx : Syn.altF T f (i + 1) (o + 1) with
      | none => rw [hx] at hr; simp at hr
      | some x =>
        rw [hx] at hr
        have hr2 : r = arndOf T e x := by
          cases x with
          | bad fl =>
            simp only [Option.bind_some, Syn.Res.bind, Option.some.injEq] at hr
            rw [← hr]; rfl
          | ok n j p =>
            simp only [Option.bind_some, Syn.Res.bind] at hr
            cases ht : Syn.takeS T e j p with
            | bad fl => rw [ht] at hr; simp only [Option.some.injEq] at hr; rw [← hr]; simp [arndOf, ht]
            | ok u j2 p2 =>
              rw [ht] at hr
              simp only [Option.some.injEq] at hr
              rw [← hr]
              simp [arndOf, ht]
        rw [hr2]
        refine around_calls h e (by omega) hk (fun n j p hxe => ?_) (fun w' h' => ha f (by omega) (i + 1) (o + 1) x hx (by omega) w' B bp gT cT h')
        subst hxe
        exact (Syn.same_o T f).1 _ _ _ _ _ hx
theorem atom_all {T : List Lex.Tok} {f : Nat} (ha : ∀ g, g < f → AltSays T g) : AtomSays T f := by
  intro i o x hx ho w B bp gT cT h
  cases f with
  | zero => simp [Syn.atomF] at hx
  | succ f =>
    rw [Syn.atomF] at hx
    cases hf : Syn.far T i with
    | true =>
      rw [hf, if_pos rfl, Option.some.injEq] at hx
      subst hx
      exact atom_far h hf
    | false =>
      rw [hf, if_neg (by decide)] at hx
      have brk : ∀ {s e : UInt8}, Syn.isS T i [s] = true → ∀ r, Syn.arndF T f [e] i o = some r → ∀ w', Par w' B bp gT cT T i o → Calls Try.prog 148 #[.pointer (some ⟨bp, 0, none⟩), .string ⟨#[e]⟩] w' (PEnd (isNode w'.heap.size) w' B bp gT cT T r) := fun {s e} hs r hr => arnd_all (fun g hg => ha g (by omega)) hr ho (by unfold Syn.isS at hs; simp at hs; omega)
      by_cases k1 : (Syn.tk T i).kind = 1
      · rw [if_pos k1, Option.some.injEq] at hx
        subst hx
        exact atom_ref h k1 hf
      rw [if_neg k1] at hx
      by_cases k2 : (Syn.tk T i).kind = 2
      · rw [if_pos k2, Option.some.injEq] at hx
        subst hx
        exact atom_lit h k2 hf
      rw [if_neg k2] at hx
      cases s1 : Syn.isS T i [40] with
      | true =>
        rw [s1, if_pos rfl] at hx
        cases hr : Syn.arndF T f [41] i o with
        | none => rw [hr] at hx; simp at hx
        | some r =>
          rw [hr] at hx
          have e : x = atomOf 0 r := by cases r <;> (simp only [Option.bind_some, Syn.Res.bind, Option.some.injEq] at hx; rw [← hx]; rfl)
          rw [e]
          exact atom_round h s1 hf (brk s1 r hr)
      | false =>
        rw [s1, if_neg (by decide)] at hx
        cases s2 : Syn.isS T i [91] with
        | true =>
          rw [s2, if_pos rfl] at hx
          cases hr : Syn.arndF T f [93] i o with
          | none => rw [hr] at hx; simp at hx
          | some r =>
            rw [hr] at hx
            have e : x = atomOf 5 r := by cases r <;> (simp only [Option.bind_some, Syn.Res.bind, Option.some.injEq] at hx; rw [← hx]; rfl)
            rw [e]
            exact atom_square h s2 hf (brk s2 r hr)
        | false =>
          rw [s2, if_neg (by decide)] at hx
          cases s3 : Syn.isS T i [123] with
          | true =>
            rw [s3, if_pos rfl] at hx
            cases hr : Syn.arndF T f [125] i o with
            | none => rw [hr] at hx; simp at hx
            | some r =>
              rw [hr] at hx
              have e : x = atomOf 6 r := by cases r <;> (simp only [Option.bind_some, Syn.Res.bind, Option.some.injEq] at hx; rw [← hx]; rfl)
              rw [e]
              exact atom_curly h s3 hf (brk s3 r hr)
          | false =>
            rw [s3, if_neg (by decide), Option.some.injEq] at hx
            subst hx
            exact atom_none h k1 k2 s1 s2 s3 hf
theorem alt_all (T : List Lex.Tok) (f : Nat) : AltSays T f := by
  induction f using Nat.strongRecOn with
  | ind f ih =>
    refine alt_calls fun g hg => row_calls fun g' hg' => atom_all fun g2 hg2 => ih g2 (by omega)
end Go.Proofs.Ytjaampgpihicmaa
/- Chapter 5 (syntax): a grammar's rules in memory; the parser's state in grammar. -/
namespace Go.Proofs.Ytjaampgpihicmaa
open Go.RowKit
open Syn (Nd Nod)

/-- A rule's four cells. -/
def RuleR (w : World) (D : Nat → Prop) (x : List UInt8 × Nod) (cs : List Value) : Prop := ∃ gk ck, cs = [.string ⟨x.1.toArray⟩, .int .i64 x.2.kind, .string ⟨x.2.text.toArray⟩, .slice gk x.2.kids.len ck] ∧ NdAt w D gk x.2.kids 0
theorem RuleR.fit : FitA RuleR 4 where
  len := by rintro w D a x ⟨_, _, rfl, _⟩; rfl
  mono := by
    rintro w D D' a x hd ⟨gk, ck, rfl, h⟩
    exact ⟨gk, ck, rfl, h.mono hd⟩
  kp := by
    rintro w w' D S a x hk hd ⟨gk, ck, rfl, h⟩
    exact ⟨gk, ck, rfl, h.kp hk hd⟩
  one := by
    rintro w D a x ⟨_, _, rfl, _⟩ u hu
    simp at hu
    rcases hu with rfl | rfl | rfl | rfl <;> rfl
/-- Rules lie in blocks of which D holds. -/
def RulesM (w : World) (D : Nat → Prop) (ga : Option Addr) (rs : List (List UInt8 × Nod)) : Prop := ∀ (i : Nat) x, rs[i]? = some x → ∃ (g off : Nat) (gk : Option Addr) (ck : Nat), ga = some ⟨g, off, none⟩ ∧ D g ∧ w.cell? ⟨g, off + i * 4, none⟩ = some (.string ⟨x.1.toArray⟩) ∧
  w.cell? ⟨g, off + i * 4 + 1, none⟩ = some (.int .i64 x.2.kind) ∧ w.cell? ⟨g, off + i * 4 + 2, none⟩ = some (.string ⟨x.2.text.toArray⟩) ∧ w.cell? ⟨g, off + i * 4 + 3, none⟩ = some (.slice gk x.2.kids.len ck) ∧ NdAt w D gk x.2.kids 0
theorem RulesM.mono {w : World} {D D' : Nat → Prop} {ga : Option Addr} {rs : List (List UInt8 × Nod)} (h : RulesM w D ga rs) (hd : ∀ k, D k → D' k) : RulesM w D' ga rs := by
  intro i x hx
  obtain ⟨g, off, gk, ck, h1, h2, h3, h4, h5, h6, h7⟩ := h i x hx
  exact ⟨g, off, gk, ck, h1, hd g h2, h3, h4, h5, h6, h7.mono hd⟩
theorem RulesM.kp {w w' : World} {D S : Nat → Prop} {ga : Option Addr} {rs : List (List UInt8 × Nod)} (h : RulesM w D ga rs) (hk : Kp S w w') (hd : ∀ k, D k → ¬ S k) : RulesM w' D ga rs := by
  intro i x hx
  obtain ⟨g, off, gk, ck, h1, h2, h3, h4, h5, h6, h7⟩ := h i x hx
  exact ⟨g, off, gk, ck, h1, h2, hk.cell h3 (hd g h2), hk.cell h4 (hd g h2), hk.cell h5 (hd g h2), hk.cell h6 (hd g h2), h7.kp hk hd⟩
theorem own_rules {w : World} {b : Nat} {v : Value} {rs : List (List UInt8 × Nod)} (h : OwnA RuleR 4 w b 51 v rs) : ∃ ga cap, v = .slice ga rs.length cap ∧ RulesM w (From b w) ga rs := by
  obtain ⟨ga, cap, hv, hc⟩ := h.lies RuleR.fit
  refine ⟨ga, cap, hv, fun i x hx => ?_⟩
  obtain ⟨g, y, e, h1, h2, ⟨gk, ck, rfl, hn⟩, h4⟩ := hc i x hx
  exact ⟨g, 0, gk, ck, e, ⟨h1, h2⟩, by rw [Nat.zero_add]; exact h4 0 _ rfl, by rw [Nat.zero_add]; exact h4 1 _ rfl, by rw [Nat.zero_add]; exact h4 2 _ rfl, by rw [Nat.zero_add]; exact h4 3 _ rfl, hn⟩
/-- A grammar as a value: its start, its rules. -/
def isGram (b : Nat) (a : List UInt8 × List (List UInt8 × Nod)) (v : Value) (w : World) : Prop := ∃ ga ca, v = .agg #[.string ⟨a.1.toArray⟩, .slice ga a.2.length ca] ∧ RulesM w (From b w) ga a.2
theorem ruleInfo : (Try.prog.info? 51).map (fun i => (i.zero, i.size, i.bytes)) = some (some (.agg #[.string ⟨#[]⟩, .int .i64 0, .string ⟨#[]⟩, .slice none 0 0]), 4, 64) := by kernel_rfl
/-- In grammar: but for the rules read. -/
structure GrSt (w0 : World) (B bp : Nat) (gT : Option Addr) (cT : Nat) (T : List Lex.Tok) (b : Nat) (st : List UInt8) (v : Value) (i : Nat) (w : World) : Prop where
  g : Bk w (b + 1) 25 [.string ⟨st.toArray⟩, v]
  res : Bk w b 25 [.string ⟨#[]⟩, .slice none 0 0]
  par : Par w B bp gT cT T i 0
  gb : w0.grownBy w (some bp)
  bb : bp < b
section
variable {w0 : World} {B bp : Nat} {gT : Option Addr} {cT : Nat} {T : List Lex.Tok} {b : Nat} {st : List UInt8} {v : Value} {i : Nat} {w : World}
theorem GrSt.grown (h : GrSt w0 B bp gT cT T b st v i w) {w' : World} (hg : w.grownBy w' (some bp)) {j : Nat} (hp : Par w' B bp gT cT T j 0) : GrSt w0 B bp gT cT T b st v j w' := by
  have := h.bb
  exact ⟨h.g.grown hg (by intro e; injection e with e; omega), h.res.grown hg (by intro e; injection e with e; omega), hp, gb_trans h.gb hg, h.bb⟩
theorem GrSt.later (h : GrSt w0 B bp gT cT T b st v i w) {w' : World} (hb : Below w.heap.size w w') : GrSt w0 B bp gT cT T b st v i w' := h.grown (below_gb hb _) (h.par.below hb)
theorem GrSt.start (h : GrSt w0 B bp gT cT T b st v i w) (hb : b = w0.heap.size) (nm : List UInt8) : GrSt w0 B bp gT cT T b nm v i (w.setCell ⟨b + 1, 0, none⟩ (.string ⟨nm.toArray⟩)) := by
  have := h.bb
  refine ⟨h.g.set 0 _, h.res.far (by show b ≠ b + 1; omega) _, h.par.kp (S := fun k => k = b + 1) ((Kp.refl (fun k => k = b + 1) w).set (p := ⟨b + 1, 0, none⟩) (.inl rfl) _) (fun k e => by omega), gb_set h.gb (.inr (by show _ ≤ b + 1; omega)) _, h.bb⟩
theorem GrSt.put (h : GrSt w0 B bp gT cT T b st v i w) (hb : b = w0.heap.size) (u : Value) : GrSt w0 B bp gT cT T b st u i (w.setCell ⟨b + 1, 1, none⟩ u) := by
  have := h.bb
  refine ⟨h.g.set 1 _, h.res.far (by show b ≠ b + 1; omega) _, h.par.kp (S := fun k => k = b + 1) ((Kp.refl (fun k => k = b + 1) w).set (p := ⟨b + 1, 1, none⟩) (.inl rfl) _) (fun k e => by omega), gb_set h.gb (.inr (by show _ ≤ b + 1; omega)) _, h.bb⟩
/-- Blocks behind the grammar's may change. -/
theorem GrSt.kp {S : Nat → Prop} (h : GrSt w0 B bp gT cT T b st v i w) (hb : b = w0.heap.size) {w' : World} (hk : Kp S w w') (hs : ∀ k, S k → b + 2 ≤ k) : GrSt w0 B bp gT cT T b st v i w' := by
  have := h.bb
  exact ⟨h.g.kp hk (fun e => by have := hs _ e; omega), h.res.kp hk (fun e => by have := hs _ e; omega), h.par.kp hk (fun k e => by have := hs k e; omega), gb_then_kp h.gb hk (fun k e => by have := hs k e; omega), h.bb⟩
end
/-- The rules, an append ahead. -/
theorem rules_app {w : World} {b : Nat} {v : Value} {rs : List (List UInt8 × Nod)} {x : List UInt8 × Nod} {gk : Option Addr} {ck : Nat} (hown : OwnA RuleR 4 w b 51 v rs) (hk : NdAt w (fun q => b ≤ q ∧ q < w.heap.size ∧ v.ownBlock ≠ some q) gk x.2.kids 0) (hl : rs.length ≤ 1000000) (hB : b ≤ w.heap.size) (ty : TypeId) (q : Nat) {H : Nat} (hH : w.heap.size = H) :
    ∃ g2 cap2 w2, (Builtin.append_ #[23, 23] ty #[v, .slice (some ⟨H, 0, none⟩) 1 1]).run Try.prog ((w.alloc (.cells #[.string ⟨x.1.toArray⟩, .int .i64 x.2.kind, .string ⟨x.2.text.toArray⟩, .slice gk x.2.kids.len ck] 51)).drewN q) = .ok (.slice (some ⟨g2, 0, none⟩) (rs.length + 1) cap2) w2 ∧
      OwnA RuleR 4 w2 b 51 (.slice (some ⟨g2, 0, none⟩) (rs.length + 1) cap2) (rs ++ [x]) ∧ Kp (fun k => v.ownBlock = some k) w w2 := by
  subst hH
  obtain ⟨i0, hi0, y0, y1, y2⟩ := info_parts ruleInfo
  obtain ⟨g2, cap2, w2, h1, h2, h3, h4, h5⟩ := hown.app (P := Try.prog) RuleR.fit 23 ty i0 _ 64 Try.underlying23 hi0 y0 y1 y2 rfl (by omega) (by omega) hB hl x _ ⟨gk, ck, rfl, hk⟩ q
  exact ⟨g2, cap2, w2, h1, h2, h3⟩
/-- A rule's body is filled in. -/
theorem gram_fill {w0 : World} {B bp : Nat} {gT : Option Addr} {cT : Nat} {T : List Lex.Tok} {b : Nat} {st : List UInt8} {v : Value} {j : Nat} {rs : List (List UInt8 × Nod)} {nm : List UInt8} {n : Nod} {kg : Option Addr} {kc : Nat} {wr w2 w3 w4 w5 : World} {R0 : Obj} (hb : b = w0.heap.size)
    (hown : OwnA RuleR 4 wr (b + 2) 51 v rs) (hbw : b + 1 < wr.heap.size) (hb2 : Below wr.heap.size wr w2) (hg3 : w2.grownBy w3 (some bp)) (hg4 : (w3.alloc R0).grownBy w4 (some bp)) (hg5 : w4.grownBy w5 (some bp)) (hst : GrSt w0 B bp gT cT T b st v j w5)
    (hbr : Bk w5 w3.heap.size 51 [.string ⟨nm.toArray⟩, .int .i64 0, .string ⟨#[]⟩, .slice none 0 0]) (hn : NdAt w5 (From w4.heap.size w5) kg n.kids 0) :
    GrSt w0 B bp gT cT T b st v j (((w5.setCell ⟨w3.heap.size, 1, none⟩ (.int .i64 n.kind)).setCell ⟨w3.heap.size, 2, none⟩ (.string ⟨n.text.toArray⟩)).setCell ⟨w3.heap.size, 3, none⟩ (.slice kg n.kids.len kc)) ∧
    Bk (((w5.setCell ⟨w3.heap.size, 1, none⟩ (.int .i64 n.kind)).setCell ⟨w3.heap.size, 2, none⟩ (.string ⟨n.text.toArray⟩)).setCell ⟨w3.heap.size, 3, none⟩ (.slice kg n.kids.len kc)) w3.heap.size 51 [.string ⟨nm.toArray⟩, .int .i64 n.kind, .string ⟨n.text.toArray⟩, .slice kg n.kids.len kc] ∧
    NdAt (((w5.setCell ⟨w3.heap.size, 1, none⟩ (.int .i64 n.kind)).setCell ⟨w3.heap.size, 2, none⟩ (.string ⟨n.text.toArray⟩)).setCell ⟨w3.heap.size, 3, none⟩ (.slice kg n.kids.len kc)) (fun q => b + 2 ≤ q ∧ q < (((w5.setCell ⟨w3.heap.size, 1, none⟩ (.int .i64 n.kind)).setCell ⟨w3.heap.size, 2, none⟩ (.string ⟨n.text.toArray⟩)).setCell ⟨w3.heap.size, 3, none⟩ (.slice kg n.kids.len kc)).heap.size ∧ v.ownBlock ≠ some q) kg n.kids 0 ∧
    OwnA RuleR 4 (((w5.setCell ⟨w3.heap.size, 1, none⟩ (.int .i64 n.kind)).setCell ⟨w3.heap.size, 2, none⟩ (.string ⟨n.text.toArray⟩)).setCell ⟨w3.heap.size, 3, none⟩ (.slice kg n.kids.len kc)) (b + 2) 51 v rs := by
  have hbb := hst.bb
  have s2 := hb2.size
  have s3 := hg3.size
  have s4 := hg4.size
  have s5 := hg5.size
  have s4' : w3.heap.size + 1 ≤ w4.heap.size := by simpa using s4
  have hk6 : Kp (fun k => k = w3.heap.size) w5 (((w5.setCell ⟨w3.heap.size, 1, none⟩ (.int .i64 n.kind)).setCell ⟨w3.heap.size, 2, none⟩ (.string ⟨n.text.toArray⟩)).setCell ⟨w3.heap.size, 3, none⟩ (.slice kg n.kids.len kc)) :=
    (((Kp.refl (fun k => k = w3.heap.size) w5).set (p := ⟨w3.heap.size, 1, none⟩) (.inl rfl) _).set (p := ⟨w3.heap.size, 2, none⟩) (.inl rfl) _).set (p := ⟨w3.heap.size, 3, none⟩) (.inl rfl) _
  have hk5 : Kp (fun k => k = bp ∨ k = w3.heap.size) wr w5 := by
    have h1 : Kp (fun k => k = bp ∨ k = w3.heap.size) wr w2 := (below_kp hb2).mono (fun _ _ e => e.elim)
    have h2 := h1.grown hg3 (fun k hk _ => by injection hk with hk; exact .inl hk.symm)
    have h3 := (h2.alloc R0).grown hg4 (fun k hk _ => by injection hk with hk; exact .inl hk.symm)
    exact h3.grown hg5 (fun k hk _ => by injection hk with hk; exact .inl hk.symm)
  have hkall := hk5.trans (hk6.mono (S' := fun k => k = bp ∨ k = w3.heap.size) (fun _ _ e => .inr e))
  refine ⟨hst.kp hb hk6 (fun k e => by omega), ((hbr.set 1 _).set 2 _).set 3 _, ?_, hown.kp RuleR.fit hkall (fun k h1 h2 e => by omega)⟩
  exact (hn.kp hk6 (fun k hk e => by have := hk.1; omega)).mono fun k hk => ⟨by have := hk.1; omega, Nat.lt_of_lt_of_le hk.2 hk6.size, fun e => by have := (hown.lt k e).2; have := hk.1; omega⟩
/-- A rule is appended. -/
theorem gram_app {w0 : World} {B bp : Nat} {gT : Option Addr} {cT : Nat} {T : List Lex.Tok} {b : Nat} {st : List UInt8} {v : Value} {j j' : Nat} {rs : List (List UInt8 × Nod)} {x : List UInt8 × Nod} {kg : Option Addr} {kc br : Nat} {w6 w7 : World} (hb : b = w0.heap.size) (hl : rs.length ≤ 64)
    (hst : GrSt w0 B bp gT cT T b st v j w6) (hg7 : w6.grownBy w7 (some bp)) (hq7 : Par w7 B bp gT cT T j' 0) (hbr : Bk w6 br 51 [.string ⟨x.1.toArray⟩, .int .i64 x.2.kind, .string ⟨x.2.text.toArray⟩, .slice kg x.2.kids.len kc])
    (hn : NdAt w6 (fun q => b + 2 ≤ q ∧ q < w6.heap.size ∧ v.ownBlock ≠ some q) kg x.2.kids 0) (hown : OwnA RuleR 4 w6 (b + 2) 51 v rs) (hne : br ≠ bp) (ty : TypeId) :
    GrSt w0 B bp gT cT T b st v j' w7 ∧ Bk w7 br 51 [.string ⟨x.1.toArray⟩, .int .i64 x.2.kind, .string ⟨x.2.text.toArray⟩, .slice kg x.2.kids.len kc] ∧
    ∃ g2 cap2 w8, (Builtin.append_ #[23, 23] ty #[v, .slice (some ⟨w7.heap.size, 0, none⟩) 1 1]).run Try.prog ((w7.alloc (.cells #[.string ⟨x.1.toArray⟩, .int .i64 x.2.kind, .string ⟨x.2.text.toArray⟩, .slice kg x.2.kids.len kc] 51)).drewN 0) = .ok (.slice (some ⟨g2, 0, none⟩) (rs.length + 1) cap2) w8 ∧
      OwnA RuleR 4 (w8.setCell ⟨b + 1, 1, none⟩ (.slice (some ⟨g2, 0, none⟩) (rs.length + 1) cap2)) (b + 2) 51 (.slice (some ⟨g2, 0, none⟩) (rs.length + 1) cap2) (rs ++ [x]) ∧ GrSt w0 B bp gT cT T b st v j' w8 := by
  have hbb := hst.bb
  have hst7 := hst.grown hg7 hq7
  have hgl := hst7.g.lt
  have hk7 := gb_kp hg7
  have hown7 := hown.gb RuleR.fit hg7 (by omega)
  have hn7 := (hn.kp hk7 (fun k hk e => by have := hk.1; omega)).mono (D' := fun q => b + 2 ≤ q ∧ q < w7.heap.size ∧ v.ownBlock ≠ some q) fun k hk => ⟨hk.1, Nat.lt_of_lt_of_le hk.2.1 hk7.size, hk.2.2⟩
  obtain ⟨g2, cap2, w8, h1, h2, h3⟩ := rules_app (x := x) (ck := kc) hown7 hn7 (by omega) (by omega) ty 0 rfl
  have hs : ∀ k, v.ownBlock = some k → b + 2 ≤ k := fun k hk => (hown7.lt k hk).1
  refine ⟨hst7, hbr.grown hg7 (by intro e; injection e with e; exact hne e), g2, cap2, w8, h1, ?_, hst7.kp hb h3 hs⟩
  exact h2.kp RuleR.fit ((Kp.refl (fun k => k = b + 1) w8).set (p := ⟨b + 1, 1, none⟩) (.inl rfl) _) (fun k h4 _ e => by omega)
/-- The grammar is handed back. -/
theorem gram_back {w0 : World} {B bp : Nat} {gT : Option Addr} {cT : Nat} {T : List Lex.Tok} {b : Nat} {st : List UInt8} {v : Value} {i : Nat} {rs : List (List UInt8 × Nod)} {ga : Option Addr} {ca : Nat} {wz : World} (hb : b = w0.heap.size) (hst : GrSt w0 B bp gT cT T b st v i wz)
    (hown : OwnA RuleR 4 wz (b + 2) 51 (.slice ga rs.length ca) rs) (s : List UInt8) (x y : Value) :
    PEnd (isGram w0.heap.size) w0 B bp gT cT T (.ok (s, rs) i 0) (.returned (.agg #[.string ⟨s.toArray⟩, .slice ga rs.length ca])) ((wz.setCell ⟨b, 0, none⟩ x).setCell ⟨b, 1, none⟩ y) := by
  have hbb := hst.bb
  have hkp : Kp (fun k => k = b) wz ((wz.setCell ⟨b, 0, none⟩ x).setCell ⟨b, 1, none⟩ y) := ((Kp.refl (fun k => k = b) wz).set (p := ⟨b, 0, none⟩) (.inl rfl) x).set (p := ⟨b, 1, none⟩) (.inl rfl) y
  obtain ⟨ga2, ca2, e, hr⟩ := own_rules hown
  injection e with e1 e2 e3
  subst e1
  refine PEnd.isOk rfl ?_ ⟨_, _, rfl, (hr.kp hkp (fun k hk e => by have := hk.1; omega)).mono fun k hk => ⟨by have := hk.1; omega, Nat.lt_of_lt_of_le hk.2 hkp.size⟩⟩ (hst.par.kp hkp (fun k e => by omega))
  refine gb_set ?_ (.inr (by show _ ≤ b; omega)) _
  refine gb_set ?_ (.inr (by show _ ≤ b; omega)) _
  exact hst.gb
/-- What grammar answers. -/
def gramF (T : List Lex.Tok) (F : Nat) : Option (Syn.Res (List UInt8 × List (List UInt8 × Nod))) :=
  match Syn.headS T with
  | .bad f => some (.bad f)
  | .ok st i _ => match Syn.rulesF T F [] i 0 with
    | some (.ok rs j p) => some (.ok (Syn.startOr st rs, rs) j p)
    | some (.bad f) => some (.bad f)
    | none => none
def GramRel (T : List Lex.Tok) (F : Nat) (r : Syn.Res (List (List UInt8 × Nod))) (w0 : World) (B bp : Nat) (gT : Option Addr) (cT b : Nat) (st : List UInt8) (k : Nat) (v4 : Value) (w : World) : Prop :=
  ∃ (m : Nat) (rs : List (List UInt8 × Nod)) (i : Nat) (v : Value), k = m ∧ m ≤ F ∧ Syn.rulesF T m rs i 0 = some r ∧ v4 = .bool rs.isEmpty ∧ rs.length ≤ 64 ∧ OwnA RuleR 4 w (b + 2) 51 v rs ∧ GrSt w0 B bp gT cT T b st v i w
end Go.Proofs.Ytjaampgpihicmaa
