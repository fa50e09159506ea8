/- Chapter 5, the document's parser: row, given alt. -/
import Derived.Test.YtjaampgpihicmaaRef05b
import Derived.Test.YtjaampgpihicmaaSyn15
import Derived.Deep.CutBlock
namespace Go.Proofs.Ytjaampgpihicmaa
open Go.RowKit
attribute [local go_sem ↓] Go.wp_at_zero Go.wp_at_succ
attribute [local go_sem] frozen_alloc_lt
open Syn (Nd Nod)

def RAltSays (T : List Lex.Tok) (f : Nat) : Prop := ∀ (i o : Nat) (x : Syn.Res Nod), Syn.altF T f i o = some x → o ≤ 16 → ∀ (w : World) (B bp : Nat) (gT : Option Addr) (cT : Nat), Sta w B bp gT cT T i o no →
  Calls Try.prog 58 #[.pointer (some ⟨bp, 0, none⟩)] w (SEnd (isNode w.heap.size) w B bp gT cT T x)
def RRowSays (T : List Lex.Tok) (f : Nat) : Prop := ∀ (i o : Nat) (x : Syn.Res Nod), Syn.rowF T f .nil i o = some x → o ≤ 16 → ∀ (w : World) (B bp : Nat) (gT : Option Addr) (cT : Nat), Sta w B bp gT cT T i o no →
  Calls Try.prog 104 #[.pointer (some ⟨bp, 0, none⟩)] w (SEnd (isNode w.heap.size) w B bp gT cT T x)
/-- Behind the loop. -/
def ROut (T : List Lex.Tok) (r : Syn.Res Nod) (w0 : World) (B bp : Nat) (gT : Option Addr) (cT b bn knd : Nat) (w : World) : Prop :=
  ∃ v ls i o f, ls.length ≤ 1000000 ∧ RwSt w0 B bp gT cT T b bn knd v ls i o f w.heap.size w ∧ ((f = no ∧ r = .ok (Syn.pack knd (Nd.ofList ls)) i o) ∨ r = .bad f)
def RRel (T : List Lex.Tok) (F : Nat) (r : Syn.Res Nod) (w0 : World) (B bp : Nat) (gT : Option Addr) (cT b bn : Nat) (k : Nat) (w : World) : Prop :=
  ∃ m v ls i o, k = m ∧ m ≤ F ∧ Syn.rowF T m (Nd.ofList ls) i o = some r ∧ o ≤ 16 ∧ ls.length ≤ i ∧ RwSt w0 B bp gT cT T b bn 3 v ls i o no w.heap.size w
/-- What stands at the next token: an item, a bracket, or none of these. -/
def RHead (T : List Lex.Tok) (f i o : Nat) (t : Lex.Tok) (e : List UInt8) (c : Nat) (x : Syn.Res (Option Nod)) : Prop :=
  (e = [] ∧ t.kind ≤ 2 ∧ x = .ok (some ⟨t.kind, t.text, .nil⟩) (i + 1) o) ∨ (e ≠ [] ∧ t.kind = 3 ∧ ∃ y, Syn.arndF T f e i o = some y ∧ x = atomOf c y)
def RNone (i o : Nat) (t : Lex.Tok) (e : List UInt8) (x : Syn.Res (Option Nod)) : Prop := e = [] ∧ 2 < t.kind ∧ x = .ok none i o
/-- An item is read, up to what may stand behind it. -/
def RMid (T : List Lex.Tok) (F i : Nat) (r : Syn.Res Nod) (w0 : World) (B bp : Nat) (gT : Option Addr) (cT b bn bx H : Nat) (v : Value) (ls : List Nod) (o : Nat) (w : World) : Prop :=
  ∃ n j gk ck, RwSt w0 B bp gT cT T b bn 3 v ls j o no H w ∧ RX H bx n gk ck w ∧ ((Syn.sufS T n j o).bind fun n' i' o' => Syn.rowF T F ((Nd.ofList ls).app n'.row) i' o') = some r ∧ i < j
set_option maxRecDepth 8000 in
set_option maxHeartbeats 8000000 in
theorem rrow_calls {T : List Lex.Tok} (hT : T.length ≤ 4096) (hK : ∀ i, 0 < (Syn.tk T i).kind) {F : Nat} (ha : ∀ f, f < F → RAltSays T f) : RRowSays T F := by
  intro i o r hr ho w B bp gT cT h
  have hlt := h.k.lt
  have hb0 : Below w.heap.size w ((w.alloc (.cells #[.int .i64 0, .string ⟨#[]⟩, .slice none 0 0] 85)).alloc (.cells #[.int .i64 3, .string ⟨#[]⟩, .slice none 0 0] 85)) := bel_trans (bel_new _ _) (bel_new _ _)
  have rb0 := (Bk.new w 85 [.int .i64 0, .string ⟨#[]⟩, .slice none 0 0]).alloc (.cells #[.int .i64 3, .string ⟨#[]⟩, .slice none 0 0] 85)
  have rn0 := Bk.new (w.alloc (.cells #[.int .i64 0, .string ⟨#[]⟩, .slice none 0 0] 85)) 85 [.int .i64 3, .string ⟨#[]⟩, .slice none 0 0]
  rw [show (w.alloc (.cells #[.int .i64 0, .string ⟨#[]⟩, .slice none 0 0] 85)).heap.size = w.heap.size + 1 by simp] at rn0
  have hst0 : RwSt w B bp gT cT T w.heap.size (w.heap.size + 1) 3 (.slice none 0 0) [] i o no (w.heap.size + 2) ((w.alloc (.cells #[.int .i64 0, .string ⟨#[]⟩, .slice none 0 0] 85)).alloc (.cells #[.int .i64 3, .string ⟨#[]⟩, .slice none 0 0] 85)) :=
    ⟨rb0, rn0, OwnA.nil _ _ _ _ _, fun g hg => by simp [Value.ownBlock] at hg, h.below hb0, below_gb hb0 _, hlt, rfl, by omega, by omega, by simp⟩
  have Hr := hid hr
  have Ho := hid ho
  have Ha := hid ha
  have Hst0 := hid hst0
  clear hr ho ha h hb0 rb0 rn0 hst0
  obtain ⟨wa, hwa⟩ : ∃ wa, wa = ((w.alloc (.cells #[.int .i64 0, .string ⟨#[]⟩, .slice none 0 0] 85)).alloc (.cells #[.int .i64 3, .string ⟨#[]⟩, .slice none 0 0] 85)) := ⟨_, rfl⟩
  obtain ⟨b, hb⟩ : ∃ b, b = w.heap.size := ⟨_, rfl⟩
  obtain ⟨bn, hbn⟩ : ∃ bn, bn = w.heap.size + 1 := ⟨_, rfl⟩
  have hwas : wa.heap.size = w.heap.size + 2 := by rw [hwa]; simp
  rw [← hwa, ← hwas, ← hbn, ← hb] at Hst0
  have HB := hid hb
  have HW := hid hwa
  have HBN := hid hbn
  clear hwas hb hwa hbn
  go_enter Try.func104, Try.ntmps104
  go_upto_block 0 with fail
  rw [← HW.out, ← HBN.out, ← HB.out]
  go_cut [] (fun wx => ROut T r w B bp gT cT b bn 3 wx)
  case rest =>
    obtain ⟨v, ls, i2, o2, f2, hll, hst, hr2⟩ := hcut
    obtain ⟨b1, b2, b3, b4, b5⟩ := hst.bb
    have hbn2 : ¬ bn = b := by omega
    have hlb : b < wc.heap.size := by omega
    have hlbn : bn < wc.heap.size := by omega
    have r0 := hst.res.cell 0
    have r1 := hst.res.cell 1
    have r2 := hst.res.cell 2
    have fr0 := hst.res.free 0
    have fr1 := hst.res.free 1
    have fr2 := hst.res.free 2
    have n0 := hst.n.cell 0
    have n1 := hst.n.cell 1
    have n2 := hst.n.cell 2
    simp only [List.getElem?_cons_zero, List.getElem?_cons_succ] at r0 r1 r2 n0 n1 n2
    have Hst := hid hst
    have Hr2 := hid hr2
    have Hll := hid hll
    by_cases hone : ls.length = 1
    · obtain ⟨n, rfl⟩ : ∃ n, ls = [n] := by
        match ls, hone with
        | [n], _ => exact ⟨n, rfl⟩
      obtain ⟨g, cap, x, hv, hg1, hg2, ⟨gk, ck, rfl, hn⟩, hc⟩ := hst.own.at (NodH.fit _) (i := 0) (a := n) rfl
      simp only [List.length_singleton] at hv
      subst hv
      have hgb : ¬ g = b := by omega
      have c0 := hc 0 _ rfl
      have c1 := hc 1 _ rfl
      have c2 := hc 2 _ rfl
      simp only [Nat.zero_mul, Nat.zero_add] at c0 c1 c2
      have Hn := hid hn
      clear hn hc hone hst hr2 hll b1 b2 b3 b4 b5
      go_wp2_with fail
      refine bodyPost_ret (v := nodeV n gk ck) (by simp [results, Try.results104, go_sem, nodeV, r0, r1, r2]) rfl ?_
      have hfin := RwSt.fin Hst.out (n := n) (gk := gk) (ck := ck) (r := r) (Hn.out.mono fun k hk => ⟨hk.1.1, hk.1.2.1⟩) Hr2.out
      exact hfin
    · obtain ⟨ga, ca, rfl⟩ := hst.own.slice
      obtain ⟨L, hL⟩ : ∃ L, L = ls.length := ⟨_, rfl⟩
      have hone' : ¬ (L : Int) = 1 := by omega
      rw [← hL] at n2
      have HL := hid hL
      have Hone := hid hone
      clear hone hst hr2 hll b1 b2 b3 b4 b5 hL
      go_wp2_with fail
      refine bodyPost_ret (v := nodeV ⟨3, [], Nd.ofList ls⟩ ga ca) (by simp [results, Try.results104, go_sem, nodeV, r0, r1, r2, Nd.ofList_len, HL.out]) rfl ?_
      have hr3 := Hr2.out
      rw [Syn.pack_more 3 Hone.out] at hr3
      obtain ⟨ga2, ca2, e2, hn⟩ := own_rnodes Hst.out.own
      injection e2 with e3 e4 e5
      subst e3
      have hfin := RwSt.fin Hst.out (n := ⟨3, [], Nd.ofList ls⟩) (gk := ga) (ck := ca) (r := r) hn hr3
      rw [Nd.ofList_len, ← HL.out] at hfin
      exact hfin
  case first =>
    go_wp2_with fail
    go_loopg [] F (fun k wr => RRel T F r w B bp gT cT b bn k wr)
    case atStart => exact ⟨F, _, [], i, o, rfl, Nat.le_refl _, Hr.out, Ho.out, Nat.zero_le _, Hst0.out⟩
    case round =>
      obtain ⟨m, v, ls, i1, o1, hkm, hk, hr1, ho1, hl1, hst⟩ := hrel
      obtain ⟨f, rfl⟩ : ∃ f, m = f + 1 := by
        cases m with
        | zero => simp [Syn.rowF] at hr1
        | succ f => exact ⟨f, rfl⟩
      rw [Syn.rowF] at hr1
      cases hx : Syn.atomF T f i1 o1 with
      | none => rw [hx] at hr1; simp at hr1
      | some x =>
        rw [hx] at hr1
        simp only [Option.bind_some] at hr1
        obtain ⟨f', rfl⟩ : ∃ f', f = f' + 1 := by
          cases f with
          | zero => simp [Syn.atomF] at hx
          | succ f => exact ⟨f, rfl⟩
        rw [Syn.atomF, far_no hT hst.sta.lt, if_neg (by decide)] at hx
        have hlook := rlook_ok hT hst.sta
        have hkt := hK i1
        obtain ⟨t, ht⟩ : ∃ t, t = Syn.tk T i1 := ⟨_, rfl⟩
        unfold Syn.isS at hx
        rw [← ht] at hlook hkt
        simp only [← ht] at hx
        obtain ⟨z, hz⟩ : ∃ z : Int, z = t.kind := ⟨_, rfl⟩
        rw [← hz] at hlook
        obtain ⟨ga, ca, hv⟩ := hst.own.slice
        obtain ⟨H, hH⟩ : ∃ H, H = wr.heap.size := ⟨_, rfl⟩
        rw [← hH] at hst
        have Hst := hid hst
        have Hx := hid hx
        have Hr1 := hid hr1
        have Hlook := hid hlook
        have Hkm := hid hkm
        have Hk := hid hk
        have Ho1 := hid ho1
        have Hl1 := hid hl1
        have HT1 := hid ht
        have HZ := hid hz
        have HKT := hid hkt
        have HHH := hid hH
        clear hst hx hr1 hlook hkm hk ho1 hl1 ht hz hkt hH hv
        go_upto_if 16 with (go_at_call 56; refine Hlook.out.mono ?_; rintro e w1 ⟨rfl, hg1, hs1⟩; have Hg1 := hid hg1; have Hs1 := hid hs1; clear hg1 hs1)
        have hst1 := Hst.out.grown Hg1.out Hs1.out
        have Hst1 := hid hst1
        clear hst1
        go_cut [6, 7] (fun v6 v7 wx => wx = w1 ∧ ∃ (e : List UInt8) (c : Nat), v6 = .string ⟨e.toArray⟩ ∧ v7 = .int .i64 c ∧ (RHead T f' i1 o1 t e c x ∨ RNone i1 o1 t e x))
        case first =>
          by_cases z3 : z = 3
          · have z4 := HZ.out
            by_cases t40 : t.text = [40]
            · have c40 : (t.text == [40]) = true := by simpa using t40
              go_wp2_with fail
              go_meet
              refine ⟨rfl, [41], 0, rfl, rfl, .inl (.inr ⟨by simp, by omega, ?_⟩)⟩
              have hx := Hx.out
              have hz3 : t.kind = 3 := by have := HZ.out; omega
              rw [if_neg (by omega), if_neg (by omega), if_pos (by simp [hz3, t40])] at hx
              cases hy : Syn.arndF T f' [41] i1 o1 with
              | none => rw [hy] at hx; simp at hx
              | some y =>
                rw [hy] at hx
                refine ⟨y, rfl, ?_⟩
                cases y <;> (simp only [Option.bind_some, Syn.Res.bind, Option.some.injEq] at hx; rw [← hx]; rfl)
            have c40 : (t.text == [40]) = false := by simpa using t40
            by_cases t91 : t.text = [91]
            · have c91 : (t.text == [91]) = true := by simpa using t91
              go_wp2_with fail
              go_meet
              refine ⟨rfl, [93], 5, rfl, rfl, .inl (.inr ⟨by simp, by omega, ?_⟩)⟩
              have hx := Hx.out
              have hz3 : t.kind = 3 := by have := HZ.out; omega
              rw [if_neg (by omega), if_neg (by omega), if_neg (by simp [t40]), if_pos (by simp [hz3, t91])] at hx
              cases hy : Syn.arndF T f' [93] i1 o1 with
              | none => rw [hy] at hx; simp at hx
              | some y =>
                rw [hy] at hx
                refine ⟨y, rfl, ?_⟩
                cases y <;> (simp only [Option.bind_some, Syn.Res.bind, Option.some.injEq] at hx; rw [← hx]; rfl)
            have c91 : (t.text == [91]) = false := by simpa using t91
            by_cases t123 : t.text = [123]
            · have c123 : (t.text == [123]) = true := by simpa using t123
              go_wp2_with fail
              go_meet
              refine ⟨rfl, [125], 6, rfl, rfl, .inl (.inr ⟨by simp, by omega, ?_⟩)⟩
              have hx := Hx.out
              have hz3 : t.kind = 3 := by have := HZ.out; omega
              rw [if_neg (by omega), if_neg (by omega), if_neg (by simp [t40]), if_neg (by simp [t91]), if_pos (by simp [hz3, t123])] at hx
              cases hy : Syn.arndF T f' [125] i1 o1 with
              | none => rw [hy] at hx; simp at hx
              | some y =>
                rw [hy] at hx
                refine ⟨y, rfl, ?_⟩
                cases y <;> (simp only [Option.bind_some, Syn.Res.bind, Option.some.injEq] at hx; rw [← hx]; rfl)
            have c123 : (t.text == [123]) = false := by simpa using t123
            go_wp2_with fail
            go_meet
            refine ⟨rfl, [], 0, rfl, rfl, .inr ⟨rfl, by omega, ?_⟩⟩
            have hx := Hx.out
            rw [if_neg (by omega), if_neg (by omega), if_neg (by simp [t40]), if_neg (by simp [t91]), if_neg (by simp [t123])] at hx
            exact (Option.some.inj hx).symm
          · have z4 := HZ.out
            go_wp2_with fail
            go_meet
            have hx := Hx.out
            have hkt := HKT.out
            by_cases k1 : t.kind = 1
            · rw [if_pos k1] at hx
              exact ⟨rfl, [], 0, rfl, rfl, .inl (.inl ⟨rfl, by omega, by rw [k1]; exact (Option.some.inj hx).symm⟩)⟩
            rw [if_neg k1] at hx
            by_cases k2 : t.kind = 2
            · rw [if_pos k2] at hx
              exact ⟨rfl, [], 0, rfl, rfl, .inl (.inl ⟨rfl, by omega, by rw [k2]; exact (Option.some.inj hx).symm⟩)⟩
            have k3 : ¬ t.kind = 3 := by omega
            rw [if_neg k2, if_neg (by simp [k3]), if_neg (by simp [k3]), if_neg (by simp [k3])] at hx
            exact ⟨rfl, [], 0, rfl, rfl, .inr ⟨rfl, by omega, (Option.some.inj hx).symm⟩⟩
        case rest =>
          obtain ⟨hwc, e, c, h6, h7, hh⟩ := hcut
          subst hwc h6 h7
          have HH := hid hh
          have k4 := Hst1.out.sta.k.cell 4
          have k5 := Hst1.out.sta.k.cell 5
          simp only [List.getElem?_cons_zero, List.getElem?_cons_succ, no] at k4 k5
          clear hh
          go_upto_region 13 with fail
          go_cut [37] (fun v37 wx => wx = wc ∧ ((v37 = .bool true ∧ RNone i1 o1 t e x) ∨ (v37 = .bool false ∧ RHead T f' i1 o1 t e c x)))
          case first =>
            have z4 := HZ.out
            rcases HH.out with (⟨rfl, h2, hx⟩ | ⟨he, h2, y, hy, hx⟩) | ⟨rfl, h2, hx⟩
            · have z5 : ¬ 2 < z := by omega
              clear z4
              go_wp2_with fail
              go_meet
              exact ⟨rfl, .inr ⟨rfl, .inl ⟨rfl, h2, hx⟩⟩⟩
            · have z5 : z = 3 := by omega
              have he2 : (e == []) = false := by simpa using he
              have Hq := hid (And.intro (And.intro he h2) (And.intro hy hx))
              clear z4 he h2 hy hx
              subst z5
              go_wp2_with fail
              go_meet
              exact ⟨rfl, .inr ⟨rfl, .inr ⟨Hq.out.1.1, Hq.out.1.2, y, Hq.out.2.1, Hq.out.2.2⟩⟩⟩
            · have z5 : 2 < z := by omega
              clear z4
              go_wp2_with fail
              go_meet
              exact ⟨rfl, .inl ⟨rfl, rfl, h2, hx⟩⟩
          case rest =>
            obtain ⟨hwc, hh⟩ := hcut
            subst hwc
            rcases hh with ⟨h37, he, h2, hx⟩ | ⟨h37, hh⟩
            · subst h37 hx
              go_wp2_with fail
              go_meet
              have hr1 := Hr1.out
              simp only [Syn.Res.bind, Option.some.injEq] at hr1
              have hb5 := Hst1.out.bb
              exact ⟨v, ls, i1, o1, no, by have := Hl1.out; have := Hst1.out.sta.lt; omega, Hst1.out.up (by omega) (Nat.le_refl _), .inl ⟨rfl, hr1.symm⟩⟩
            · subst h37
              have HH2 := hid hh
              clear hh HH k4 k5
              go_upto_if 42 with fail
              have hstb := Hst1.out.kp ((Kp.refl (fun _ => False) wc).alloc (.cells #[.int .i64 z, .string ⟨t.text.toArray⟩, .slice none 0 0] 85)) (fun _ e => e.elim)
              have hxb := Bk.new wc 85 [.int .i64 z, .string ⟨t.text.toArray⟩, .slice none 0 0]
              have hHx := Hst1.out.bb.2.2.2.2
              obtain ⟨wb, hwb⟩ : ∃ wb, wb = wc.alloc (.cells #[.int .i64 z, .string ⟨t.text.toArray⟩, .slice none 0 0] 85) := ⟨_, rfl⟩
              obtain ⟨bx, hbx⟩ : ∃ bx, bx = wc.heap.size := ⟨_, rfl⟩
              rw [← hwb] at hstb hxb ⊢
              rw [← hbx] at hxb hHx ⊢
              have Hstb := hid hstb
              have Hxb := hid hxb
              have HHx := hid hHx
              clear hwb hbx hstb hxb hHx
              go_cut [] (fun wx => RMid T (f' + 1) i1 r w B bp gT cT b bn bx H v ls o1 wx)
              case first =>
                have k1 := Hstb.out.sta.k.cell 1
                have fr1 := Hstb.out.sta.k.free 1
                have k5 := Hstb.out.sta.k.cell 5
                have fr5 := Hstb.out.sta.k.free 5
                simp only [List.getElem?_cons_zero, List.getElem?_cons_succ, no] at k1 k5
                have hi := Hstb.out.sta.lt
                have hiT := Hstb.out.sta.len
                obtain ⟨yi, hyi⟩ : ∃ yi : Int, yi = i1 := ⟨_, rfl⟩
                obtain ⟨zo, hzo⟩ : ∃ zo : Int, zo = o1 := ⟨_, rfl⟩
                rw [← hyi] at k1
                rw [← hzo] at k5
                have hyi0 : 0 ≤ yi := by omega
                have hyi1 : yi + 1 ≤ 1000000 := by omega
                have hzo0 : 0 ≤ zo := by omega
                have hzo1 : zo ≤ 16 := by have := Ho1.out; omega
                have Hyi := hid hyi
                have Hzo := hid hzo
                have hij : t.kind ≠ 4 → i1 + 1 < T.length := fun hk => lt_last hi Hstb.out.sta.last (by rw [← HT1.out]; exact hk)
                have Hij := hid hij
                clear hyi hzo hi hiT hij
                rcases HH2.out with ⟨rfl, h2, hx⟩ | ⟨he, h2, y, hy, hx⟩
                · subst hx
                  have hj := Hij.out (by omega)
                  have H2 := hid h2
                  have Hj := hid hj
                  clear h2 hj
                  go_wp2_with fail
                  go_meet
                  have hr1 := Hr1.out
                  simp only [Syn.Res.bind] at hr1
                  have hst2 := Hstb.out.at (i1 + 1) Hj.out
                  rw [Int.natCast_add, Int.natCast_one, ← Hyi.out] at hst2
                  refine ⟨⟨t.kind, t.text, .nil⟩, i1 + 1, none, 0, hst2, ⟨?_, HHx.out, trivial⟩, hr1, by omega⟩
                  have hbp := hst2.bb
                  have hHx := HHx.out
                  have := Hxb.out.far (p := ⟨bp, 1, none⟩) (show bx ≠ bp by omega) (.int .i64 (yi + 1))
                  rw [HZ.out] at this
                  exact this
                · subst hx
                  obtain ⟨g', rfl⟩ : ∃ g', f' = g' + 1 := by
                    cases f' with
                    | zero => simp [Syn.arndF] at hy
                    | succ g => exact ⟨g, rfl⟩
                  rw [Syn.arndF] at hy
                  have he2 : (e == []) = false := by simpa using he
                  have he3 : (!e.isEmpty) = true := by simpa using he
                  rw [he3]
                  clear he3
                  have hj := Hij.out (by omega)
                  have hbb := Hstb.out.bb
                  have hHx := HHx.out
                  have hbxp : ¬ bx = bp := by omega
                  have hbxl := Hxb.out.lt
                  have hlb : bp < wb.heap.size := by omega
                  by_cases h16 : o1 = 16
                  · rw [if_pos h16, Option.some.injEq] at hy
                    subst hy
                    have h16' : zo = 16 := by have := Hzo.out; omega
                    subst h16'
                    have hbad := rbad_calls Hstb.out.sta 11
                    have Hhj := hid hj
                    have Hh2 := hid (And.intro he h2)
                    clear he h2 hj hbb hHx h16
                    go_wp2_with (go_at_call 57; refine hbad.mono ?_; rintro e2 w2 ⟨rfl, hg2, hs2⟩)
                    go_meet
                    have hr1 := Hr1.out
                    simp only [atomOf, Syn.Res.bind, Option.some.injEq] at hr1
                    have hst3 := Hstb.out.grown hg2 hs2
                    have hb5 := hst3.bb
                    simp only [first, no, if_true] at hst3
                    exact ⟨v, ls, i1, o1, _, by have := Hl1.out; have := hst3.sta.lt; omega, hst3.up (by omega) (Nat.le_refl _), .inr hr1.symm⟩
                  · rw [if_neg h16] at hy
                    have h16' : ¬ zo = 16 := by have := Hzo.out; omega
                    have hst2 := (Hstb.out.opens (o1 + 1)).at (i1 + 1) hj
                    have hxb2 := (Hxb.out.far (p := ⟨bp, 5, none⟩) hbxp (.int .i64 ((o1 + 1 : Nat) : Int))).far (p := ⟨bp, 1, none⟩) hbxp (.int .i64 ((i1 + 1 : Nat) : Int))
                    have hsz2 : ((wb.setCell ⟨bp, 5, none⟩ (.int .i64 ((o1 + 1 : Nat) : Int))).setCell ⟨bp, 1, none⟩ (.int .i64 ((i1 + 1 : Nat) : Int))).heap.size = wb.heap.size := by simp [World.setCell]
                    simp only [Int.natCast_add, Int.natCast_one, ← Hyi.out, ← Hzo.out] at hst2 hxb2 hsz2
                    cases hya : Syn.altF T g' (i1 + 1) (o1 + 1) with
                    | none => rw [hya] at hy; simp at hy
                    | some ya =>
                      rw [hya] at hy
                      simp only [Option.bind_some] at hy
                      have halt := Ha.out g' (by have := Hk.out; omega) (i1 + 1) (o1 + 1) ya hya (by have := Ho1.out; omega) _ B bp gT cT hst2.sta
                      rw [hsz2] at halt
                      have Hst2 := hid hst2
                      have Hxb2 := hid hxb2
                      have Halt := hid halt
                      have Hhj := hid hj
                      have Hh2 := hid (And.intro he h2)
                      have Hbb := hid hbb
                      have HbxH := hid hHx
                      clear he h2 hj hbb hHx h16 hst2 hxb2 hsz2 halt
                      cases ya with
                      | bad fl =>
                        simp only [Syn.Res.bind, Option.some.injEq] at hy
                        subst hy
                        have hfl := (Syn.parsed_code T g').1 _ _ _ hya
                        have hflz : ¬ (fl.code : Int) = 0 := by omega
                        have Hfl := hid hfl
                        clear hfl hya
                        go_wp2_with (first
                          | (go_at_call 55; refine (rneed_bad (Hid.out Hst3).sta Hfl.out e).mono ?_; rintro e3 w3 ⟨rfl, hg3, hs3⟩; have k4 := hs3.k.cell 4; simp only [List.getElem?_cons_zero, List.getElem?_cons_succ] at k4)
                          | (go_at_call 58; refine Halt.out.mono ?_; rintro e2 w2 hP; obtain ⟨am, vv, j2, o2, rfl, ⟨gm, cm, rfl, hn⟩, hs2, hg2⟩ := SEnd.whenBad hP rfl; clear hP; simp only [nodeV]; have hx2 := Hxb2.out.grown hg2 (by intro e; injection e with e; omega); have hl2 := hx2.lt; have a0 := hx2.cell 0; have a1 := hx2.cell 1; have a2 := hx2.cell 2; have q0 := hx2.free 0; have q1 := hx2.free 1; have q2 := hx2.free 2; simp only [List.getElem?_cons_zero, List.getElem?_cons_succ] at a0 a1 a2; obtain ⟨hxp, hkx⟩ := RX.put (H := H) (cm := cm) hx2 rfl HbxH.out hbxl hn; have hst3 := (Hst2.out.grown hg2 hs2).kp hkx (fun k e => by have := HbxH.out; omega); have Hst3 := hid hst3; clear hst3 hkx hxp hn hx2))
                        go_meet
                        have hr1 := Hr1.out
                        simp only [atomOf, Syn.Res.bind, Option.some.injEq] at hr1
                        have hst4 := Hst3.out.grown hg3 hs3
                        have hb5 := hst4.bb
                        exact ⟨v, ls, _, _, _, by have := Hl1.out; have := Hstb.out.sta.lt; have := Hstb.out.sta.len; omega, hst4.up (by omega) (Nat.le_refl _), .inr hr1.symm⟩
                      | ok n2 j p =>
                        have hp := (Syn.same_o T g').1 _ _ _ _ _ hya
                        subst hp
                        have hle := ((Syn.agree_all T T 0 g').1 _ _ _ _ _ hya).1
                        simp only [Syn.Res.bind] at hy
                        have Hle := hid hle
                        clear hya hle
                        cases hts : Syn.takeS T e j (o1 + 1) with
                        | bad fl =>
                          rw [hts] at hy
                          simp only [Option.some.injEq] at hy
                          subst hy
                          have hfl := Syn.takeS_code hts
                          have hflz : ¬ (fl.code : Int) = 0 := by omega
                          have Hfl := hid hfl
                          have Hts := hid hts
                          clear hfl hts
                          go_wp2_with (first
                            | (go_at_call 55; refine (rneed_no (Hid.out Hst3).sta e).mono ?_; rintro e3 w3 hP; obtain ⟨_, _, j3, o3, rfl, rfl, hs3, hg3⟩ := SEnd.whenBad hP Hts.out; clear hP; have k4 := hs3.k.cell 4; simp only [List.getElem?_cons_zero, List.getElem?_cons_succ] at k4)
                            | (go_at_call 58; refine Halt.out.mono ?_; rintro e2 w2 hP; obtain ⟨⟨vv, rfl, gm, cm, rfl, hn⟩, hs2, hg2⟩ := SEnd.whenOk hP rfl; clear hP; simp only [nodeV]; have hx2 := Hxb2.out.grown hg2 (by intro e; injection e with e; omega); have hl2 := hx2.lt; have a0 := hx2.cell 0; have a1 := hx2.cell 1; have a2 := hx2.cell 2; have q0 := hx2.free 0; have q1 := hx2.free 1; have q2 := hx2.free 2; simp only [List.getElem?_cons_zero, List.getElem?_cons_succ] at a0 a1 a2; obtain ⟨hxp, hkx⟩ := RX.put (H := H) (cm := cm) hx2 rfl HbxH.out hbxl hn; have hst3 := (Hst2.out.grown hg2 hs2).kp hkx (fun k e => by have := HbxH.out; omega); have Hst3 := hid hst3; clear hst3 hkx hxp hn hx2))
                          go_meet
                          have hr1 := Hr1.out
                          simp only [atomOf, Syn.Res.bind, Option.some.injEq] at hr1
                          have hst4 := Hst3.out.grown hg3 hs3
                          have hb5 := hst4.bb
                          exact ⟨v, ls, _, _, _, by have := Hl1.out; have := Hstb.out.sta.lt; have := Hstb.out.sta.len; omega, hst4.up (by omega) (Nat.le_refl _), .inr hr1.symm⟩
                        | ok u j2 p2 =>
                          rw [hts] at hy
                          simp only [Option.some.injEq] at hy
                          have hp2 := take_o hts
                          have hj2 := (Syn.takeS_ok hts).2.1
                          subst hp2 hy
                          have Hts := hid hts
                          have Hj2 := hid hj2
                          clear hts hj2
                          have hwz : IntKind.i64.wrap zo = zo := by rw [IntKind.wrap_i64] <;> omega
                          by_cases hc : 0 < (c : Int)
                          · go_wp2_with (first
                              | (go_at_call 55; refine (rneed_no (Hid.out Hst3).sta e).mono ?_; rintro e3 w3 hP; obtain ⟨⟨_, rfl, rfl⟩, hs3, hg3⟩ := SEnd.whenOk hP Hts.out; clear hP; have k4 := hs3.k.cell 4; have k5 := hs3.k.cell 5; have fr5 := hs3.k.free 5; have hx3 := Hxp.out.grown hg3 (by have := HbxH.out; have := Hbb.out; omega); have hl3 := hx3.blk.lt; have d0 := hx3.blk.cell 0; have d1 := hx3.blk.cell 1; have d2 := hx3.blk.cell 2; have s0 := hx3.blk.free 0; have s1 := hx3.blk.free 1; have s2 := hx3.blk.free 2; simp only [List.getElem?_cons_zero, List.getElem?_cons_succ, no, Int.natCast_add, Int.natCast_one, ← Hzo.out] at k4 k5 d0 d1 d2; have Hx3 := hid hx3; have Hs3 := hid hs3; have Hg3 := hid hg3; have hlp3 := hs3.k.lt; clear hx3 hs3 hg3)
                              | (go_at_call 58; refine Halt.out.mono ?_; rintro e2 w2 hP; obtain ⟨⟨vv, rfl, gm, cm, rfl, hn⟩, hs2, hg2⟩ := SEnd.whenOk hP rfl; clear hP; simp only [nodeV]; have hx2 := Hxb2.out.grown hg2 (by intro e; injection e with e; omega); have hl2 := hx2.lt; have a0 := hx2.cell 0; have a1 := hx2.cell 1; have a2 := hx2.cell 2; have q0 := hx2.free 0; have q1 := hx2.free 1; have q2 := hx2.free 2; simp only [List.getElem?_cons_zero, List.getElem?_cons_succ] at a0 a1 a2; obtain ⟨hxp, hkx⟩ := RX.put (H := H) (cm := cm) hx2 rfl HbxH.out hbxl hn; have hst3 := (Hst2.out.grown hg2 hs2).kp hkx (fun k e => by have := HbxH.out; omega); have Hst3 := hid hst3; have Hxp := hid hxp; clear hst3 hkx hxp hn hx2))
                            go_meet
                            have hr1 := Hr1.out
                            have hc0 : ¬ c = 0 := by omega
                            simp only [atomOf, Syn.Res.bind, if_neg hc0, Nat.add_sub_cancel] at hr1
                            have hst4 := (Hst3.out.grown Hg3.out Hs3.out).opens o1
                            rw [← Hzo.out] at hst4
                            have hx4 := Hx3.out.grown (show (w3).grownBy ((w3).setCell ⟨bp, 5, none⟩ (.int .i64 zo)) (some bp) from gb_setb (World.grownBy.refl w3 (some bp))) (by have := HbxH.out; have := Hbb.out; omega)
                            obtain ⟨hx5, hkw⟩ := hx4.wrap c (N := w3.heap.size) (by simp [World.setCell])
                            exact ⟨⟨c, [], n2.row⟩, j2, _, _, hst4.kp hkw (fun k e => by have := HbxH.out; omega), hx5, hr1, by have := Hj2.out; have := Hle.out; omega⟩
                          · go_wp2_with (first
                              | (go_at_call 55; refine (rneed_no (Hid.out Hst3).sta e).mono ?_; rintro e3 w3 hP; obtain ⟨⟨_, rfl, rfl⟩, hs3, hg3⟩ := SEnd.whenOk hP Hts.out; clear hP; have k4 := hs3.k.cell 4; have k5 := hs3.k.cell 5; have fr5 := hs3.k.free 5; have hx3 := Hxp.out.grown hg3 (by have := HbxH.out; have := Hbb.out; omega); simp only [List.getElem?_cons_zero, List.getElem?_cons_succ, no, Int.natCast_add, Int.natCast_one, ← Hzo.out] at k4 k5; have Hx3 := hid hx3; have Hs3 := hid hs3; have Hg3 := hid hg3; have hlp3 := hs3.k.lt; clear hx3 hs3 hg3)
                              | (go_at_call 58; refine Halt.out.mono ?_; rintro e2 w2 hP; obtain ⟨⟨vv, rfl, gm, cm, rfl, hn⟩, hs2, hg2⟩ := SEnd.whenOk hP rfl; clear hP; simp only [nodeV]; have hx2 := Hxb2.out.grown hg2 (by intro e; injection e with e; omega); have hl2 := hx2.lt; have a0 := hx2.cell 0; have a1 := hx2.cell 1; have a2 := hx2.cell 2; have q0 := hx2.free 0; have q1 := hx2.free 1; have q2 := hx2.free 2; simp only [List.getElem?_cons_zero, List.getElem?_cons_succ] at a0 a1 a2; obtain ⟨hxp, hkx⟩ := RX.put (H := H) (cm := cm) hx2 rfl HbxH.out hbxl hn; have hst3 := (Hst2.out.grown hg2 hs2).kp hkx (fun k e => by have := HbxH.out; omega); have Hst3 := hid hst3; have Hxp := hid hxp; clear hst3 hkx hxp hn hx2))
                            go_meet
                            have hr1 := Hr1.out
                            have hc0 : c = 0 := by omega
                            simp only [atomOf, Syn.Res.bind, if_pos hc0, Nat.add_sub_cancel] at hr1
                            have hst4 := (Hst3.out.grown Hg3.out Hs3.out).opens o1
                            rw [← Hzo.out] at hst4
                            have hx4 := Hx3.out.grown (show (w3).grownBy ((w3).setCell ⟨bp, 5, none⟩ (.int .i64 zo)) (some bp) from gb_setb (World.grownBy.refl w3 (some bp))) (by have := HbxH.out; have := Hbb.out; omega)
                            exact ⟨n2, j2, _, _, hst4, hx4, hr1, by have := Hj2.out; have := Hle.out; omega⟩
              case rest =>
                obtain ⟨n, j, gk, ck, hst2, hx2, hrow, hij⟩ := hcut
                have hbb := hst2.bb
                have hbH : bp < H := by omega
                have hHx := HHx.out
                have hbxp : ¬ bx = bp := by omega
                have hbxn : ¬ bn = bx := by omega
                have hbnp : ¬ bn = bp := by omega
                have hj1 := hst2.sta.lt
                have hjl := hst2.sta.len
                have hjlast := hst2.sta.last
                have hq1 := hst2.sta
                obtain ⟨y, hy⟩ : ∃ y : Int, y = j := ⟨_, rfl⟩
                have hy0 : 0 ≤ y := by omega
                have hy1 : y + 1 ≤ 1000000 := by omega
                have hfar := far_no hT hj1
                have Hst2 := hid hst2
                have Hx2 := hid hx2
                have Hrow := hid hrow
                have Hij := hid hij
                have Hy := hid hy
                have Hjlast := hid (And.intro hj1 hjlast)
                have Hfar := hid hfar
                clear hst2 hx2 hrow hij hy hj1 hjl hjlast hfar hbb
                clear HH2 Hxb Hstb Hst1 Hlook Hr1 Hx Hst0 Hr Ho Ha
                have Hj5 := hid (show j < 1000000 by have := Hy.out; omega)
                have hex : ∀ l m : UInt8, l ≠ m → Syn.isS T j [l] = true → Syn.isS T j [m] = false := fun l m hlm h1 => by
                  unfold Syn.isS at h1 ⊢
                  simp only [Bool.and_eq_true, beq_iff_eq] at h1
                  rw [h1.1, h1.2]
                  simp [hlm]
                cases h63 : Syn.isS T j [63] with
                | true =>
                  have S63 := hid h63
                  have S42 := hid (hex 63 42 (by decide) h63)
                  have S43 := hid (hex 63 43 (by decide) h63)
                  clear hex h63
                  have hsuf : Syn.sufS T n j o1 = .ok ⟨5, [], n.row⟩ (j + 1) o1 := by unfold Syn.sufS; simp [Hfar.out, S63.out]
                  have hjn := lt_last Hjlast.out.1 Hjlast.out.2 (by have := S63.out; unfold Syn.isS at this; simp at this; omega)
                  have Hj := hid hjn
                  clear hjn
                  have Hsuf := hid hsuf
                  clear hsuf
                  go_wp2_with (first
                    | (at_builtin; have hstA := Hst4.out.at (j + 1) Hj.out; rw [Int.natCast_add, Int.natCast_one, ← Hy.out] at hstA; have hxA := Hx4.out.grown (show (w4).grownBy ((w4).setCell ⟨bp, 1, none⟩ (.int .i64 (y + 1))) (some bp) from gb_setb (World.grownBy.refl w4 (some bp))) (show bp < H by omega); obtain ⟨hx5, hkw⟩ := hxA.wrap 5 (N := w4.heap.size) (by simp [World.setCell]); have hst5 := hstA.kp hkw (fun k e => by omega); obtain ⟨g2, cap2, w5, hrun, ⟨m0, m1, m2, mf, ml⟩, hst6⟩ := hst5.app (nn := ⟨5, [], n.row⟩) (ck := 1) (hx5.kids.mono fun q hq => ⟨hq.1, hq.2.1⟩) (by have := Hl1.out; have := Hj5.out; have := Hij.out; omega) 83 0 (N := w4.heap.size + 1) (by simp [World.setCell]); have Hst6 := hid hst6; refine wpList_app rfl _ _ _ rfl v (.slice (some ⟨w4.heap.size + 1, 0, none⟩) 1 1) _ w5 (by go_simp) (by go_simp) (by exact hrun) ?_; clear hrun hst6 hst5 hkw hx5 hxA hstA)
                    | (go_at_call 53; refine (ris_ok hT hq3 [43]).mono ?_; rintro ew4 w4 ⟨rfl, hg4, hq4⟩; rw [S43.out]; have hst4 := ((Hst2.out.grown hg2 hq2).grown hg3 hq3).grown hg4 hq4; have hx4 := ((Hx2.out.grown hg2 (by omega)).grown hg3 (by omega)).grown hg4 (show bp < H by omega); have k1 := hq4.k.cell 1; have fr1 := hq4.k.free 1; have hl4 := hx4.blk.lt; have hlp4 := hq4.k.lt; have hln4 := hst4.n.lt; have a0 := hx4.blk.cell 0; have a1 := hx4.blk.cell 1; have a2 := hx4.blk.cell 2; have f0 := hx4.blk.free 0; have f1 := hx4.blk.free 1; have f2 := hx4.blk.free 2; have n2 := hst4.n.cell 2; simp only [List.getElem?_cons_zero, List.getElem?_cons_succ, ← Hy.out] at k1 a0 a1 a2 n2; have Hst4 := hid hst4; have Hx4 := hid hx4; clear hst4 hx4 hq4 hg4 hq3 hg3 hq2 hg2)
                    | (go_at_call 53; refine (ris_ok hT hq2 [42]).mono ?_; rintro ew3 w3 ⟨rfl, hg3, hq3⟩; rw [S42.out])
                    | (go_at_call 53; refine (ris_ok hT hq1 [63]).mono ?_; rintro ew2 w2 ⟨rfl, hg2, hq2⟩; rw [S63.out]))
                  go_roundg (f' + 1)
                  case measure => have := Hkm.out; omega
                  case rel =>
                    refine ⟨f' + 1, _, ls ++ [⟨5, [], n.row⟩], j + 1, o1, rfl, by have := Hk.out; omega, ?_, Ho1.out, by have := Hl1.out; have := Hij.out; simp; omega, Hst6.out.up (by simp [World.setCell]) (Nat.le_refl _)⟩
                    have hr := Hrow.out
                    rw [Hsuf.out] at hr
                    rw [Nd.ofList_snoc]
                    exact hr
                | false =>
                  have S63 := hid h63
                  clear h63
                  cases h42 : Syn.isS T j [42] with
                  | true =>
                    have S42 := hid h42
                    have S43 := hid (hex 42 43 (by decide) h42)
                    clear hex h42
                    have hsuf : Syn.sufS T n j o1 = .ok ⟨6, [], n.row⟩ (j + 1) o1 := by unfold Syn.sufS; simp [Hfar.out, S63.out, S42.out]
                    have hjn := lt_last Hjlast.out.1 Hjlast.out.2 (by have := S42.out; unfold Syn.isS at this; simp at this; omega)
                    have Hj := hid hjn
                    clear hjn
                    have Hsuf := hid hsuf
                    clear hsuf
                    go_wp2_with (first
                      | (at_builtin; have hstA := Hst4.out.at (j + 1) Hj.out; rw [Int.natCast_add, Int.natCast_one, ← Hy.out] at hstA; have hxA := Hx4.out.grown (show (w4).grownBy ((w4).setCell ⟨bp, 1, none⟩ (.int .i64 (y + 1))) (some bp) from gb_setb (World.grownBy.refl w4 (some bp))) (show bp < H by omega); obtain ⟨hx5, hkw⟩ := hxA.wrap 6 (N := w4.heap.size) (by simp [World.setCell]); have hst5 := hstA.kp hkw (fun k e => by omega); obtain ⟨g2, cap2, w5, hrun, ⟨m0, m1, m2, mf, ml⟩, hst6⟩ := hst5.app (nn := ⟨6, [], n.row⟩) (ck := 1) (hx5.kids.mono fun q hq => ⟨hq.1, hq.2.1⟩) (by have := Hl1.out; have := Hj5.out; have := Hij.out; omega) 83 0 (N := w4.heap.size + 1) (by simp [World.setCell]); have Hst6 := hid hst6; refine wpList_app rfl _ _ _ rfl v (.slice (some ⟨w4.heap.size + 1, 0, none⟩) 1 1) _ w5 (by go_simp) (by go_simp) (by exact hrun) ?_; clear hrun hst6 hst5 hkw hx5 hxA hstA)
                      | (go_at_call 53; refine (ris_ok hT hq3 [43]).mono ?_; rintro ew4 w4 ⟨rfl, hg4, hq4⟩; rw [S43.out]; have hst4 := ((Hst2.out.grown hg2 hq2).grown hg3 hq3).grown hg4 hq4; have hx4 := ((Hx2.out.grown hg2 (by omega)).grown hg3 (by omega)).grown hg4 (show bp < H by omega); have k1 := hq4.k.cell 1; have fr1 := hq4.k.free 1; have hl4 := hx4.blk.lt; have hlp4 := hq4.k.lt; have hln4 := hst4.n.lt; have a0 := hx4.blk.cell 0; have a1 := hx4.blk.cell 1; have a2 := hx4.blk.cell 2; have f0 := hx4.blk.free 0; have f1 := hx4.blk.free 1; have f2 := hx4.blk.free 2; have n2 := hst4.n.cell 2; simp only [List.getElem?_cons_zero, List.getElem?_cons_succ, ← Hy.out] at k1 a0 a1 a2 n2; have Hst4 := hid hst4; have Hx4 := hid hx4; clear hst4 hx4 hq4 hg4 hq3 hg3 hq2 hg2)
                      | (go_at_call 53; refine (ris_ok hT hq2 [42]).mono ?_; rintro ew3 w3 ⟨rfl, hg3, hq3⟩; rw [S42.out])
                      | (go_at_call 53; refine (ris_ok hT hq1 [63]).mono ?_; rintro ew2 w2 ⟨rfl, hg2, hq2⟩; rw [S63.out]))
                    go_roundg (f' + 1)
                    case measure => have := Hkm.out; omega
                    case rel =>
                      refine ⟨f' + 1, _, ls ++ [⟨6, [], n.row⟩], j + 1, o1, rfl, by have := Hk.out; omega, ?_, Ho1.out, by have := Hl1.out; have := Hij.out; simp; omega, Hst6.out.up (by simp [World.setCell]) (Nat.le_refl _)⟩
                      have hr := Hrow.out
                      rw [Hsuf.out] at hr
                      rw [Nd.ofList_snoc]
                      exact hr
                  | false =>
                    have S42 := hid h42
                    clear h42
                    cases h43 : Syn.isS T j [43] with
                    | true =>
                      have S43 := hid h43
                      clear hex h43
                      have hsuf : Syn.sufS T n j o1 = .ok ⟨7, [], n.row⟩ (j + 1) o1 := by unfold Syn.sufS; simp [Hfar.out, S63.out, S42.out, S43.out]
                      have hjn := lt_last Hjlast.out.1 Hjlast.out.2 (by have := S43.out; unfold Syn.isS at this; simp at this; omega)
                      have Hj := hid hjn
                      clear hjn
                      have Hsuf := hid hsuf
                      clear hsuf
                      go_wp2_with (first
                        | (at_builtin; have hstA := Hst4.out.at (j + 1) Hj.out; rw [Int.natCast_add, Int.natCast_one, ← Hy.out] at hstA; have hxA := Hx4.out.grown (show (w4).grownBy ((w4).setCell ⟨bp, 1, none⟩ (.int .i64 (y + 1))) (some bp) from gb_setb (World.grownBy.refl w4 (some bp))) (show bp < H by omega); obtain ⟨hx5, hkw⟩ := hxA.wrap 7 (N := w4.heap.size) (by simp [World.setCell]); have hst5 := hstA.kp hkw (fun k e => by omega); obtain ⟨g2, cap2, w5, hrun, ⟨m0, m1, m2, mf, ml⟩, hst6⟩ := hst5.app (nn := ⟨7, [], n.row⟩) (ck := 1) (hx5.kids.mono fun q hq => ⟨hq.1, hq.2.1⟩) (by have := Hl1.out; have := Hj5.out; have := Hij.out; omega) 83 0 (N := w4.heap.size + 1) (by simp [World.setCell]); have Hst6 := hid hst6; refine wpList_app rfl _ _ _ rfl v (.slice (some ⟨w4.heap.size + 1, 0, none⟩) 1 1) _ w5 (by go_simp) (by go_simp) (by exact hrun) ?_; clear hrun hst6 hst5 hkw hx5 hxA hstA)
                        | (go_at_call 53; refine (ris_ok hT hq3 [43]).mono ?_; rintro ew4 w4 ⟨rfl, hg4, hq4⟩; rw [S43.out]; have hst4 := ((Hst2.out.grown hg2 hq2).grown hg3 hq3).grown hg4 hq4; have hx4 := ((Hx2.out.grown hg2 (by omega)).grown hg3 (by omega)).grown hg4 (show bp < H by omega); have k1 := hq4.k.cell 1; have fr1 := hq4.k.free 1; have hl4 := hx4.blk.lt; have hlp4 := hq4.k.lt; have hln4 := hst4.n.lt; have a0 := hx4.blk.cell 0; have a1 := hx4.blk.cell 1; have a2 := hx4.blk.cell 2; have f0 := hx4.blk.free 0; have f1 := hx4.blk.free 1; have f2 := hx4.blk.free 2; have n2 := hst4.n.cell 2; simp only [List.getElem?_cons_zero, List.getElem?_cons_succ, ← Hy.out] at k1 a0 a1 a2 n2; have Hst4 := hid hst4; have Hx4 := hid hx4; clear hst4 hx4 hq4 hg4 hq3 hg3 hq2 hg2)
                        | (go_at_call 53; refine (ris_ok hT hq2 [42]).mono ?_; rintro ew3 w3 ⟨rfl, hg3, hq3⟩; rw [S42.out])
                        | (go_at_call 53; refine (ris_ok hT hq1 [63]).mono ?_; rintro ew2 w2 ⟨rfl, hg2, hq2⟩; rw [S63.out]))
                      go_roundg (f' + 1)
                      case measure => have := Hkm.out; omega
                      case rel =>
                        refine ⟨f' + 1, _, ls ++ [⟨7, [], n.row⟩], j + 1, o1, rfl, by have := Hk.out; omega, ?_, Ho1.out, by have := Hl1.out; have := Hij.out; simp; omega, Hst6.out.up (by simp [World.setCell]) (Nat.le_refl _)⟩
                        have hr := Hrow.out
                        rw [Hsuf.out] at hr
                        rw [Nd.ofList_snoc]
                        exact hr
                    | false =>
                      have S43 := hid h43
                      clear hex h43
                      have hsuf : Syn.sufS T n j o1 = .ok n j o1 := by unfold Syn.sufS; simp [Hfar.out, S63.out, S42.out, S43.out]
                      have Hsuf := hid hsuf
                      clear hsuf
                      go_wp2_with (first
                        | (at_builtin; obtain ⟨g2, cap2, w5, hrun, ⟨m0, m1, m2, mf, ml⟩, hst6⟩ := Hst4.out.app (nn := n) (gk := gk) (ck := ck) (Hx4.out.kids.mono fun q hq => ⟨hq.1, hq.2.1⟩) (by have := Hl1.out; have := Hj5.out; have := Hij.out; omega) 83 0 (N := w4.heap.size) rfl; have Hst6 := hid hst6; refine wpList_app rfl _ _ _ rfl v (.slice (some ⟨w4.heap.size, 0, none⟩) 1 1) _ w5 (by go_simp) (by go_simp) (by exact hrun) ?_; clear hrun hst6)
                        | (go_at_call 53; refine (ris_ok hT hq3 [43]).mono ?_; rintro ew4 w4 ⟨rfl, hg4, hq4⟩; rw [S43.out]; have hst4 := ((Hst2.out.grown hg2 hq2).grown hg3 hq3).grown hg4 hq4; have hx4 := ((Hx2.out.grown hg2 (by omega)).grown hg3 (by omega)).grown hg4 (show bp < H by omega); have k1 := hq4.k.cell 1; have fr1 := hq4.k.free 1; have hl4 := hx4.blk.lt; have hlp4 := hq4.k.lt; have hln4 := hst4.n.lt; have a0 := hx4.blk.cell 0; have a1 := hx4.blk.cell 1; have a2 := hx4.blk.cell 2; have f0 := hx4.blk.free 0; have f1 := hx4.blk.free 1; have f2 := hx4.blk.free 2; have n2 := hst4.n.cell 2; simp only [List.getElem?_cons_zero, List.getElem?_cons_succ, ← Hy.out] at k1 a0 a1 a2 n2; have Hst4 := hid hst4; have Hx4 := hid hx4; clear hst4 hx4 hq4 hg4 hq3 hg3 hq2 hg2)
                        | (go_at_call 53; refine (ris_ok hT hq2 [42]).mono ?_; rintro ew3 w3 ⟨rfl, hg3, hq3⟩; rw [S42.out])
                        | (go_at_call 53; refine (ris_ok hT hq1 [63]).mono ?_; rintro ew2 w2 ⟨rfl, hg2, hq2⟩; rw [S63.out]))
                      go_roundg (f' + 1)
                      case measure => have := Hkm.out; omega
                      case rel =>
                        refine ⟨f' + 1, _, ls ++ [n], j, o1, rfl, by have := Hk.out; omega, ?_, Ho1.out, by have := Hl1.out; have := Hij.out; simp; omega, Hst6.out.up (by simp [World.setCell]) (Nat.le_refl _)⟩
                        have hr := Hrow.out
                        rw [Hsuf.out] at hr
                        rw [Nd.ofList_snoc]
                        exact hr
end Go.Proofs.Ytjaampgpihicmaa
