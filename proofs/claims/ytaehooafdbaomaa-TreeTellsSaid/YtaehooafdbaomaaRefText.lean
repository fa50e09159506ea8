/- Chapter 14 (tree), the document's side: Check. Printed by gen/mk_rcheck.py. -/
import Derived.Test.YtaehooafdbaomaaRefThere
import Derived.Test.YtaehooafdbaomaaTreeSpec
import Derived.Test.YtaehooafdbaomaaTreeB
import Derived.Test.YtaehooafdbaomaaTreeSame
import Derived.Test.YtaehooafdbaomaaRefOct
import Derived.Test.YtaehooafdbaomaaTreePut
import Derived.Test.YtaehooafdbaomaaRefTree1
import Derived.Test.YtaehooafdbaomaaTreeText
import Derived.Test.YtaehooafdbaomaaLexQuote2
namespace Go.Proofs.Ytaehooafdbaomaa
open Go.RowKit
attribute [local go_sem ↓] Go.wp_at_zero Go.wp_at_succ
attribute [local go_sem] frozen_alloc_lt

section
variable {G : Gr} {gn gt gp : Option Addr} {cn ct cp : Nat}
def RChkSays (G : Gr) (gn gt gp : Option Addr) (cn ct cp : Nat) (m : Nat) : Prop := ∀ (p : Int) (kids : Fo) (w : World) (gk : Option Addr) (ck : Nat), kids.nodes = m → kids.nodes ≤ 1000000000000 → -9223372036854775808 ≤ p → kids.fits → ChIn w G gn gt gp → FoAt w (fun k => k < w.heap.size) gk kids 0 →
    Calls Try.prog 28 #[.agg #[.int .i64 G.start, .int .i64 G.rules, .slice gn G.names.length cn, .slice gt G.terms.length ct, .slice gp G.prods.length cp], .agg #[.int .i64 p, .slice gk kids.len ck]] w fun e w' => e = .returned (.bool (Tr.chkT G p kids)) ∧ Below w.heap.size w w'
def RChkAt (G : Gr) (w0 : World) (gk : Option Addr) (L N : Nat) (xs : List Int) (res : Bool) (m : Nat) (v6 : Value) (w : World) : Prop :=
  ∃ (i : Nat) (r : Fo), v6 = .int .i64 i ∧ i + r.len = L ∧ r.nodes ≤ N ∧ r.fits ∧ FoAt w0 (fun k => k < w0.heap.size) gk r i ∧ Tr.chkF G (xs.drop i) r = res ∧ m = r.len ∧ Below w0.heap.size w0 w
set_option maxRecDepth 8000 in
set_option maxHeartbeats 2000000 in
theorem rcheck_step (m : Nat) (ih : ∀ m', m' < m → RChkSays G gn gt gp cn ct cp m') : RChkSays G gn gt gp cn ct cp m := by
  intro p kids w gk ck hm hn hp0 hfi hin hat
  have hb0 : Below w.heap.size w ((w.alloc (.cells #[.int .i64 G.start, .int .i64 G.rules, .slice gn G.names.length cn, .slice gt G.terms.length ct, .slice gp G.prods.length cp] 33)).alloc (.cells #[.int .i64 p, .slice gk kids.len ck] 50)) := bel_al (bel_al (bel_id w) _) _
  have hk2 := (Bk.new w 33 [.int .i64 G.start, .int .i64 G.rules, .slice gn G.names.length cn, .slice gt G.terms.length ct, .slice gp G.prods.length cp]).alloc (.cells #[.int .i64 p, .slice gk kids.len ck] 50)
  have hk3 := bk_at (Bk.new (w.alloc (.cells #[.int .i64 G.start, .int .i64 G.rules, .slice gn G.names.length cn, .slice gt G.terms.length ct, .slice gp G.prods.length cp] 33)) 50 [.int .i64 p, .slice gk kids.len ck]) (show _ = w.heap.size + 1 by simp)
  have hat0 := hat.fwd hb0
  have hin0 := hin.later hb0
  obtain ⟨wa, hwa⟩ : ∃ wa, wa = (w.alloc (.cells #[.int .i64 G.start, .int .i64 G.rules, .slice gn G.names.length cn, .slice gt G.terms.length ct, .slice gp G.prods.length cp] 33)).alloc (.cells #[.int .i64 p, .slice gk kids.len ck] 50) := ⟨_, rfl⟩
  obtain ⟨b2, hb2⟩ : ∃ b2, b2 = w.heap.size := ⟨_, rfl⟩
  obtain ⟨b3, hb3⟩ : ∃ b3, b3 = w.heap.size + 1 := ⟨_, rfl⟩
  rw [← hwa] at hb0 hk2 hk3 hat0 hin0
  rw [← hb2] at hk2
  rw [← hb3] at hk3
  obtain ⟨L, hL⟩ : ∃ L, L = kids.len := ⟨_, rfl⟩
  rw [← hL] at hk3 hwa ⊢
  have hth := rthere_calls wa G gn gt gp cn ct cp hin0 p hp0
  have g0 := hk2.cell 0
  have g1 := hk2.cell 1
  have g2 := hk2.cell 2
  have g3 := hk2.cell 3
  have g4 := hk2.cell 4
  have x0 := hk3.cell 0
  have x1 := hk3.cell 1
  simp only [List.getElem?_cons_zero, List.getElem?_cons_succ] at g0 g1 g2 g3 g4 x0 x1
  have Hwa := hid (And.intro hwa (And.intro hb2 hb3))
  have Hb0 := hid hb0
  have Hk2 := hid hk2
  have Hk3 := hid hk3
  have Hat0 := hid hat0
  have Hin0 := hid hin0
  have Hm := hid (And.intro hm hn)
  have Hfi := hid hfi
  have HL := hid hL
  have Ih := hid ih
  have hlen := kids.len_le
  have hLm : (L : Int) ≤ 1000000000000 := by omega
  clear hwa hb2 hb3 hb0 hk2 hk3 hat0 hin0 hm hn hfi hL ih hat hin hlen
  cases ht : Tr.thereB G p with
  | false =>
    rw [ht] at hth
    have he : Tr.chkT G p kids = false := by unfold Tr.chkT; rw [ht]; rfl
    rw [he]
    clear ht he
    go_enter Try.func28, Try.ntmps28
    go_upto_region 1 with fail
    rw [← Hwa.out.1, ← Hwa.out.2.2, ← Hwa.out.2.1]
    go_wp2_with (go_at_call 72; refine hth.mono ?_; rintro e w1 ⟨rfl, hb1⟩)
    go_ret
    exact ⟨rfl, belw Hb0.out hb1⟩
  | true =>
    rw [ht] at hth
    obtain ⟨xs, hxs⟩ : ∃ xs, xs = Tr.rightS G p := ⟨_, rfl⟩
    have he : Tr.chkT G p kids = (decide (xs.length = L) && Tr.chkF G xs kids) := by unfold Tr.chkT; rw [ht, ← hxs, ← HL.out]; rfl
    have hpp : p < (G.prods.length : Int) := by
      have h := ht
      unfold Tr.thereB at h
      simp at h
      exact h.1
    obtain ⟨M, hM⟩ : ∃ M, M = xs.length := ⟨_, rfl⟩
    obtain ⟨res, hres⟩ : ∃ res, res = (decide (M = L) && Tr.chkF G xs kids) := ⟨_, rfl⟩
    rw [he, ← hM, ← hres]
    have HM := hid hM
    have Hres := hid hres
    clear hres
    have hxm : xs.length ≤ 1000000 := by rw [hxs]; exact Hin0.out.right_le p
    clear ht he
    have Hpp := hid hpp
    clear hpp
    go_enter Try.func28, Try.ntmps28
    go_upto_region 1 with fail
    rw [← Hwa.out.1, ← Hwa.out.2.2, ← Hwa.out.2.1]
    go_upto_region 4 with (go_at_call 72; refine hth.mono ?_; rintro e w1 ⟨rfl, hb1⟩)
    have kk2 := Hk2.out.below hb1 Hk2.out.lt
    have kk3 := Hk3.out.below hb1 Hk3.out.lt
    have y0 := kk3.cell 0
    have y1 := kk3.cell 1
    have y4 := kk2.cell 4
    simp only [List.getElem?_cons_zero, List.getElem?_cons_succ] at y0 y1 y4
    have hin1 := Hin0.out.later hb1
    have hat1 := Hat0.out.fwd hb1
    have Hb1 := hid hb1
    have Kk2 := hid kk2
    have Kk3 := hid kk3
    have Hin1 := hid hin1
    have Hat1 := hid hat1
    clear g0 g1 g2 g3 g4 x0 x1 hth hb1 kk2 kk3 hat1
    go_upto_if 14 with fail
    go_cut [5] from 12 to 21 (fun v5 wx => ∃ gx cx, v5 = .slice gx M cx ∧ RowI w1 w1.heap.size gx xs ∧ wx = w1)
    case first =>
      by_cases hp : p < 0
      · have hge : ¬ (0 : Int) ≤ p := by omega
        have hxe : xs = [] := by rw [hxs]; unfold Tr.rightS; rw [if_pos hp]
        have hM0 : M = 0 := by rw [hM, hxe]; rfl
        clear hxs hM hin1
        subst hxe hM0
        go_wp2_with fail
        go_meet
        exact ⟨none, 0, rfl, fun j hj => by simp at hj, rfl⟩
      · obtain ⟨n, rfl⟩ := Int.eq_ofNat_of_zero_le (show 0 ≤ p by omega)
        have hq : n < G.prods.length := by have := Hpp.out; omega
        have hx : G.prods[n]? = some G.prods[n] := List.getElem?_eq_getElem hq
        have e : xs = G.prods[n].2 := by rw [hxs]; unfold Tr.rightS; rw [if_neg hp, Int.toNat_natCast, List.getD, hx]; rfl
        obtain ⟨g, off, gr, cr, hgp, hg, e0, e1, hr⟩ := hin1.g.p n _ hx
        rw [← e] at e1 hr
        rw [← hM] at e1
        have h3 := hin1.h3
        have Hr := hid hr
        subst hgp
        clear e hx hr e0 hxs hM hin1
        go_wp2_with fail
        go_meet
        exact ⟨gr, cr, rfl, Hr.out, rfl⟩
    case rest =>
    obtain ⟨gx, cx, rfl, hrow, rfl⟩ := hcut
    have Hrow := hid hrow
    clear hrow hin1 hxs hM
    by_cases hML : M = L
    case neg =>
      have hne : ((M : Int) != (L : Int)) = true := by simp; omega
      have hdf : res = false := by rw [Hres.out, decide_eq_false hML]; rfl
      subst hdf
      clear hML
      go_wp2_with fail
      go_ret
      exact ⟨rfl, belw Hb0.out Hb1.out⟩
    subst hML
    have hres2 : res = Tr.chkF G xs kids := by rw [Hres.out, decide_eq_true rfl, Bool.true_and]
    have Hres2 := hid hres2
    have hmm : ((M : Int) != (M : Int)) = false := by simp
    have Hx := hid hxm
    clear hres2 y0 y4 hxm
    go_upto_region 8 with fail
    clear y1
    go_wp2_with fail
    go_loopg [6] M (fun mm v6 wx => RChkAt G wc gk M kids.nodes xs res mm v6 wx)
    case atStart => exact ⟨0, kids, rfl, by rw [Nat.zero_add]; exact HL.out.symm, Nat.le_refl _, Hfi.out, Hat1.out, Hres2.out.symm, HL.out, Below.refl _ _⟩
    case round =>
      obtain ⟨i, r, rfl, hi, hr, hfr, ha, hx, hkk, hb⟩ := hrel
      cases r with
      | nil =>
        simp only [Fo.len, Nat.add_zero] at hi
        have hge : ¬ (i : Int) < (M : Int) := by omega
        have hrt : res = true := by rw [← hx]; cases xs.drop i <;> rfl
        subst hrt
        have Hb := hid hb
        clear hx hi hb hr hfr ha
        go_wp2_with fail
        go_ret
        exact ⟨rfl, belw Hb0.out (belw Hb1.out Hb.out)⟩
      | cons q k1 r' =>
        simp only [Fo.len, Fo.nodes] at hi hr
        have hlt : (i : Int) < (M : Int) := by omega
        have hi0 : (0 : Int) ≤ (i : Int) := by omega
        have hMx : (M : Int) ≤ 1000000 := by have := Hx.out; have := HM.out; omega
        have hix : i < xs.length := by have := HM.out; omega
        unfold FoAt at ha
        obtain ⟨⟨g1, o1, gk1, ck1, rfl, hg1, e0, e1, hk1⟩, ha'⟩ := ha
        obtain ⟨hq0, hfk, hfr'⟩ := hfr
        obtain ⟨sx, hsx⟩ : ∃ sx, sx = xs[i] := ⟨_, rfl⟩
        obtain ⟨gq, oq, rfl, hgl, hcx⟩ := Hrow.out.at hix
        rw [← hsx] at hcx
        have hdr : xs.drop i = sx :: xs.drop (i + 1) := by rw [hsx]; exact List.drop_eq_getElem_cons hix
        rw [hdr] at hx
        have hx2 : ((Tr.chkT G q k1 && (Tr.rootS G q == sx)) && Tr.chkF G (xs.drop (i + 1)) r') = res := hx
        have hC : ∀ W, Below wc.heap.size wc W → ((W.cell? ⟨b2, 0, none⟩ = some (.int .i64 G.start) ∧ W.cell? ⟨b2, 1, none⟩ = some (.int .i64 G.rules) ∧ W.cell? ⟨b2, 2, none⟩ = some (.slice gn G.names.length cn) ∧ W.cell? ⟨b2, 3, none⟩ = some (.slice gt G.terms.length ct) ∧ W.cell? ⟨b2, 4, none⟩ = some (.slice gp G.prods.length cp)) ∧ W.cell? ⟨b3, 1, none⟩ = some (.slice (some ⟨g1, o1, none⟩) M ck) ∧ (W.cell? ⟨g1, o1 + i * 2, none⟩ = some (.int .i64 q) ∧ W.cell? ⟨g1, o1 + i * 2 + 1, none⟩ = some (.slice gk1 k1.len ck1)) ∧ W.cell? ⟨gq, oq + i, none⟩ = some (.int .i64 sx)) := fun W hW => ⟨⟨(Kk2.out.below hW Kk2.out.lt).cell 0, (Kk2.out.below hW Kk2.out.lt).cell 1, (Kk2.out.below hW Kk2.out.lt).cell 2, (Kk2.out.below hW Kk2.out.lt).cell 3, (Kk2.out.below hW Kk2.out.lt).cell 4⟩, (Kk3.out.below hW Kk3.out.lt).cell 1, ⟨(hW.cell (p := ⟨g1, _, none⟩) hg1).trans e0, (hW.cell (p := ⟨g1, _, none⟩) hg1).trans e1⟩, (hW.cell (p := ⟨gq, _, none⟩) hgl).trans hcx⟩
        have HC := hid hC
        have hbr : Below wc.heap.size wc wr.drew := hb.drew
        have hcall := Ih.out k1.nodes (by have := Hm.out; omega) q k1 wr.drew gk1 ck1 rfl (by have := Hm.out; omega) hq0 hfk (Hin1.out.later hbr) ((hk1.below hbr (fun _ h => h)).mono (fun k hk => Nat.lt_of_lt_of_le hk hbr.size))
        have Hbr := hid hbr
        have Ha := hid (And.intro ha' (And.intro hfr' (And.intro hi hr)))
        have Hkk := hid hkk
        clear hi hr ha' hfr' hfk e0 e1 hk1 hg1 hgl hcx hdr hx hix hC hbr hkk hsx hb hq0
        go_upto_region 11 with fail
        cases hck : Tr.chkT G q k1 with
        | false =>
          rw [hck] at hx2 hcall
          have hrf : res = false := by rw [← hx2]; rfl
          subst hrf
          have Hcall := hid hcall
          clear hx2 hcall hck
          go_cut [56] from 34 to 55 (fun v56 wx => v56 = .bool true ∧ Below wc.heap.size wc wx)
          case first =>
            refine wp_region_held_drew (S := fun W : World => (W.cell? ⟨b2, 0, none⟩ = some (.int .i64 G.start) ∧ W.cell? ⟨b2, 1, none⟩ = some (.int .i64 G.rules) ∧ W.cell? ⟨b2, 2, none⟩ = some (.slice gn G.names.length cn) ∧ W.cell? ⟨b2, 3, none⟩ = some (.slice gt G.terms.length ct) ∧ W.cell? ⟨b2, 4, none⟩ = some (.slice gp G.prods.length cp)) ∧ W.cell? ⟨b3, 1, none⟩ = some (.slice (some ⟨g1, o1, none⟩) M ck) ∧ (W.cell? ⟨g1, o1 + i * 2, none⟩ = some (.int .i64 q) ∧ W.cell? ⟨g1, o1 + i * 2 + 1, none⟩ = some (.slice gk1 k1.len ck1)) ∧ W.cell? ⟨gq, oq + i, none⟩ = some (.int .i64 sx)) (by kernel_rfl) (HC.out _ Hbr.out) (fun hHeld => ?_)
            refine wpAnyH_take (i := 0) (v := ?_) rfl (by kernel_rfl) (by kernel_rfl) (by kernel_rfl) (fun _ _ _ h => h) (Or.inl ⟨by kernel_rfl, ?_⟩) (by assumption) ?_
            rotate_left
            · intro w hSw
              try dsimp only at hSw
              go_simp
              try with_reducible rfl
            try simp only [Act.put, List.setIfInBounds_toArray]
            refine wpAnyH_take (i := 1) (v := ?_) rfl (by kernel_rfl) (by kernel_rfl) (by kernel_rfl) (fun _ _ _ h => h) (Or.inl ⟨by kernel_rfl, ?_⟩) (by assumption) ?_
            rotate_left
            · intro w hSw
              try dsimp only at hSw
              go_simp
              try with_reducible rfl
            try simp only [Act.put]
            refine wpAnyH_take (i := 2) (v := ?_) rfl (by kernel_rfl) (by kernel_rfl) (by kernel_rfl) (fun _ _ _ h => h) (Or.inl ⟨by kernel_rfl, ?_⟩) (by assumption) ?_
            rotate_left
            · intro w hSw
              try dsimp only at hSw
              go_simp
              try with_reducible rfl
            try simp only [Act.put]
            refine wpAnyH_take (i := 3) (v := ?_) rfl (by kernel_rfl) (by kernel_rfl) (by kernel_rfl) (fun _ _ _ h => h) (Or.inl ⟨by kernel_rfl, ?_⟩) (by assumption) ?_
            rotate_left
            · intro w hSw
              try dsimp only at hSw
              go_simp
              try with_reducible rfl
            try simp only [Act.put]
            refine wpAnyH_take (i := 4) (v := ?_) rfl (by kernel_rfl) (by kernel_rfl) (by kernel_rfl) (fun _ _ _ h => h) (Or.inl ⟨by kernel_rfl, ?_⟩) (by assumption) ?_
            rotate_left
            · intro w hSw
              try dsimp only at hSw
              go_simp
              try with_reducible rfl
            try simp only [Act.put]
            refine wpAnyH_take (i := 5) (v := ?_) rfl (by kernel_rfl) (by kernel_rfl) (by kernel_rfl) (fun _ _ _ h => h) (Or.inl ⟨by kernel_rfl, ?_⟩) (by assumption) ?_
            rotate_left
            · intro w hSw
              try dsimp only at hSw
              go_simp
              try with_reducible rfl
            try simp only [Act.put]
            refine wpAnyH_ready (rs := [6]) (by kernel_rfl) (by simp) ?_
            refine AllReadyH.cons (o := ({ dst := some 40, op := Op.call { callee := Callee.value (Operand.func 28), args := #[Operand.tmp 34, Operand.tmp 39], argTypes := #[33, 50] }, type := 4, pos := "ref.go:45", after := #[{ on := 0, ground := Ground.data }, { on := 5, ground := Ground.data }], guard := none } : Oper)) rfl (fun K hK => ?_) AllReadyH.nil
            go_simp
            go_at_call 28
            refine Hcall.out.mono ?_
            rintro e w2 ⟨rfl, hb2⟩
            try go_simp
            refine hK.out _ _ (HC.out _ (belw Hbr.out hb2)) (fun hH2 => ?_)
            clear hK K hHeld
            have hHeld := hH2
            clear hH2
            try simp only [Act.put, List.setIfInBounds_toArray, List.set_cons_zero, List.set_cons_succ]
            refine wpAnyH_take (i := 7) (oi := ({ dst := some 41, op := Op.unOp UnOp.not 4 (Operand.tmp 40), type := 4, pos := "ref.go:45", after := #[{ on := 6, ground := Ground.data }], guard := none } : Oper)) (v := ?_) rfl (by kernel_rfl) (by kernel_rfl) (by kernel_rfl) (fun _ _ _ h => h) (Or.inl ⟨by kernel_rfl, ?_⟩) (by assumption) ?_
            rotate_left
            · intro w hSw
              try dsimp only at hSw
              go_simp
              try with_reducible rfl
            try simp only [Act.put, List.setIfInBounds_toArray, List.set_cons_zero, List.set_cons_succ]
            refine wpAnyH_take (i := 8) (oi := ({ dst := some 42, op := Op.move (Operand.tmp 41), type := 4, pos := "ref.go:45", after := #[{ on := 7, ground := Ground.data }, { on := 6, ground := Ground.chain }], guard := none } : Oper)) (v := ?_) rfl (by kernel_rfl) (by kernel_rfl) (by kernel_rfl) (fun _ _ _ h => h) (Or.inl ⟨by kernel_rfl, ?_⟩) (by assumption) ?_
            rotate_left
            · intro w hSw
              try dsimp only at hSw
              go_simp
              try with_reducible rfl
            try simp only [Act.put, List.setIfInBounds_toArray, List.set_cons_zero, List.set_cons_succ]
            refine wpAnyH_take (i := 9) (oi := ({ dst := some 43, op := Op.load 33 (Operand.tmp 2), type := 33, pos := "ref.go:45", after := #[{ on := 8, ground := Ground.guard }], guard := some (8, false) } : Oper)) (v := undef) rfl (by kernel_rfl) (by kernel_rfl) (by kernel_rfl) (fun _ _ _ h => h) (Or.inr ⟨by kernel_rfl, rfl⟩) (by assumption) ?_
            try simp only [Act.put, List.setIfInBounds_toArray, List.set_cons_zero, List.set_cons_succ]
            refine wpAnyH_take (i := 10) (oi := ({ dst := some 44, op := Op.fieldAddr 50 (Operand.tmp 3) 1, type := 0, pos := "ref.go:45", after := #[{ on := 8, ground := Ground.guard }], guard := some (8, false) } : Oper)) (v := undef) rfl (by kernel_rfl) (by kernel_rfl) (by kernel_rfl) (fun _ _ _ h => h) (Or.inr ⟨by kernel_rfl, rfl⟩) (by assumption) ?_
            try simp only [Act.put, List.setIfInBounds_toArray, List.set_cons_zero, List.set_cons_succ]
            refine wpAnyH_take (i := 11) (oi := ({ dst := some 45, op := Op.load 48 (Operand.tmp 44), type := 48, pos := "ref.go:45", after := #[{ on := 10, ground := Ground.data }, { on := 8, ground := Ground.guard }], guard := some (8, false) } : Oper)) (v := undef) rfl (by kernel_rfl) (by kernel_rfl) (by kernel_rfl) (fun _ _ _ h => h) (Or.inr ⟨by kernel_rfl, rfl⟩) (by assumption) ?_
            try simp only [Act.put, List.setIfInBounds_toArray, List.set_cons_zero, List.set_cons_succ]
            refine wpAnyH_take (i := 12) (oi := ({ dst := some 46, op := Op.move (Operand.tmp 6), type := 3, pos := "ref.go:45", after := #[{ on := 8, ground := Ground.guard }], guard := some (8, false) } : Oper)) (v := undef) rfl (by kernel_rfl) (by kernel_rfl) (by kernel_rfl) (fun _ _ _ h => h) (Or.inr ⟨by kernel_rfl, rfl⟩) (by assumption) ?_
            try simp only [Act.put, List.setIfInBounds_toArray, List.set_cons_zero, List.set_cons_succ]
            refine wpAnyH_take (i := 13) (oi := ({ dst := some 47, op := Op.indexAddr 48 (Operand.tmp 45) (Operand.tmp 46), type := 0, pos := "ref.go:45", after := #[{ on := 11, ground := Ground.data }, { on := 12, ground := Ground.data }, { on := 8, ground := Ground.guard }], guard := some (8, false) } : Oper)) (v := undef) rfl (by kernel_rfl) (by kernel_rfl) (by kernel_rfl) (fun _ _ _ h => h) (Or.inr ⟨by kernel_rfl, rfl⟩) (by assumption) ?_
            try simp only [Act.put, List.setIfInBounds_toArray, List.set_cons_zero, List.set_cons_succ]
            refine wpAnyH_take (i := 14) (oi := ({ dst := some 48, op := Op.fieldAddr 50 (Operand.tmp 47) 0, type := 0, pos := "ref.go:45", after := #[{ on := 13, ground := Ground.data }, { on := 8, ground := Ground.guard }], guard := some (8, false) } : Oper)) (v := undef) rfl (by kernel_rfl) (by kernel_rfl) (by kernel_rfl) (fun _ _ _ h => h) (Or.inr ⟨by kernel_rfl, rfl⟩) (by assumption) ?_
            try simp only [Act.put, List.setIfInBounds_toArray, List.set_cons_zero, List.set_cons_succ]
            refine wpAnyH_take (i := 15) (oi := ({ dst := some 49, op := Op.load 3 (Operand.tmp 48), type := 3, pos := "ref.go:45", after := #[{ on := 14, ground := Ground.data }, { on := 8, ground := Ground.guard }], guard := some (8, false) } : Oper)) (v := undef) rfl (by kernel_rfl) (by kernel_rfl) (by kernel_rfl) (fun _ _ _ h => h) (Or.inr ⟨by kernel_rfl, rfl⟩) (by assumption) ?_
            try simp only [Act.put, List.setIfInBounds_toArray, List.set_cons_zero, List.set_cons_succ]
            refine wpAnyH_take (i := 16) (oi := ({ dst := some 50, op := Op.call { callee := Callee.value (Operand.func 73), args := #[Operand.tmp 43, Operand.tmp 49], argTypes := #[33, 3] }, type := 3, pos := "ref.go:45", after := #[{ on := 9, ground := Ground.data }, { on := 15, ground := Ground.data }, { on := 8, ground := Ground.chain }, { on := 8, ground := Ground.guard }], guard := some (8, false) } : Oper)) (v := undef) rfl (by kernel_rfl) (by kernel_rfl) (by kernel_rfl) (fun _ _ _ h => h) (Or.inr ⟨by kernel_rfl, rfl⟩) (by assumption) ?_
            try simp only [Act.put, List.setIfInBounds_toArray, List.set_cons_zero, List.set_cons_succ]
            refine wpAnyH_take (i := 17) (oi := ({ dst := some 51, op := Op.move (Operand.tmp 5), type := 22, pos := "ref.go:45", after := #[{ on := 8, ground := Ground.guard }], guard := some (8, false) } : Oper)) (v := undef) rfl (by kernel_rfl) (by kernel_rfl) (by kernel_rfl) (fun _ _ _ h => h) (Or.inr ⟨by kernel_rfl, rfl⟩) (by assumption) ?_
            try simp only [Act.put, List.setIfInBounds_toArray, List.set_cons_zero, List.set_cons_succ]
            refine wpAnyH_take (i := 18) (oi := ({ dst := some 52, op := Op.move (Operand.tmp 6), type := 3, pos := "ref.go:45", after := #[{ on := 8, ground := Ground.guard }], guard := some (8, false) } : Oper)) (v := undef) rfl (by kernel_rfl) (by kernel_rfl) (by kernel_rfl) (fun _ _ _ h => h) (Or.inr ⟨by kernel_rfl, rfl⟩) (by assumption) ?_
            try simp only [Act.put, List.setIfInBounds_toArray, List.set_cons_zero, List.set_cons_succ]
            refine wpAnyH_take (i := 19) (oi := ({ dst := some 53, op := Op.indexAddr 22 (Operand.tmp 51) (Operand.tmp 52), type := 0, pos := "ref.go:45", after := #[{ on := 17, ground := Ground.data }, { on := 18, ground := Ground.data }, { on := 8, ground := Ground.guard }], guard := some (8, false) } : Oper)) (v := undef) rfl (by kernel_rfl) (by kernel_rfl) (by kernel_rfl) (fun _ _ _ h => h) (Or.inr ⟨by kernel_rfl, rfl⟩) (by assumption) ?_
            try simp only [Act.put, List.setIfInBounds_toArray, List.set_cons_zero, List.set_cons_succ]
            refine wpAnyH_take (i := 20) (oi := ({ dst := some 54, op := Op.load 3 (Operand.tmp 53), type := 3, pos := "ref.go:45", after := #[{ on := 19, ground := Ground.data }, { on := 8, ground := Ground.guard }], guard := some (8, false) } : Oper)) (v := undef) rfl (by kernel_rfl) (by kernel_rfl) (by kernel_rfl) (fun _ _ _ h => h) (Or.inr ⟨by kernel_rfl, rfl⟩) (by assumption) ?_
            try simp only [Act.put, List.setIfInBounds_toArray, List.set_cons_zero, List.set_cons_succ]
            refine wpAnyH_take (i := 21) (oi := ({ dst := some 55, op := Op.binOp BinOp.neq 3 (Operand.tmp 50) (Operand.tmp 54) 3, type := 4, pos := "ref.go:45", after := #[{ on := 16, ground := Ground.data }, { on := 20, ground := Ground.data }, { on := 8, ground := Ground.guard }], guard := some (8, false) } : Oper)) (v := undef) rfl (by kernel_rfl) (by kernel_rfl) (by kernel_rfl) (fun _ _ _ h => h) (Or.inr ⟨by kernel_rfl, rfl⟩) (by assumption) ?_
            try simp only [Act.put, List.setIfInBounds_toArray, List.set_cons_zero, List.set_cons_succ]
            refine wpAnyH_take (i := 22) (oi := ({ dst := some 56, op := Op.pick (Operand.tmp 42) (Operand.const (Value.bool true)) (Operand.tmp 55), type := 4, pos := "ref.go:45", after := #[{ on := 8, ground := Ground.data }, { on := 21, ground := Ground.data }], guard := none } : Oper)) (v := ?_) rfl (by kernel_rfl) (by kernel_rfl) (by kernel_rfl) (fun _ _ _ h => h) (Or.inl ⟨by kernel_rfl, ?_⟩) (by assumption) ?_
            rotate_left
            · intro w hSw
              try dsimp only at hSw
              go_simp
              try with_reducible rfl
            try simp only [Act.put, List.setIfInBounds_toArray, List.set_cons_zero, List.set_cons_succ]
            refine wpAnyH_done (by kernel_rfl) ?_ _
            go_wp2_with fail
            go_meet
            exact ⟨rfl, belw Hbr.out hb2⟩
          case rest =>
            obtain ⟨rfl, hbz⟩ := hcut
            go_wp2_with fail
            go_ret
            exact ⟨rfl, belw Hb0.out (belw Hb1.out hbz)⟩
        | true =>
          rw [hck] at hx2 hcall
          have hqp : q < (G.prods.length : Int) := by
            have h := hck
            unfold Tr.chkT Tr.thereB at h
            simp at h
            exact h.1.1
          have hroot : ∀ W, Below wc.heap.size wc W → Calls Try.prog 73 #[.agg #[.int .i64 G.start, .int .i64 G.rules, .slice gn G.names.length cn, .slice gt G.terms.length ct, .slice gp G.prods.length cp], .int .i64 q] W fun e w' => e = .returned (.int .i64 (Tr.rootS G q)) ∧ Below W.heap.size W w' := fun W hW => rroot_calls W G gn gt gp cn ct cp (Hin1.out.later hW) q hqp
          obtain ⟨rt, hrt⟩ : ∃ rt, rt = Tr.rootS G q := ⟨_, rfl⟩
          rw [← hrt] at hx2
          simp only [← hrt] at hroot
          have Hroot := hid hroot
          have Hcall := hid hcall
          clear hck hqp hroot hcall hrt
          by_cases hrs : rt = sx
          · subst hrs
            have hnn : (rt != rt) = false := by simp
            rw [beq_self_eq_true, Bool.true_and, Bool.true_and] at hx2
            have Hx2 := hid hx2
            clear hx2
            go_region_held3 (fun W : World => (W.cell? ⟨b2, 0, none⟩ = some (.int .i64 G.start) ∧ W.cell? ⟨b2, 1, none⟩ = some (.int .i64 G.rules) ∧ W.cell? ⟨b2, 2, none⟩ = some (.slice gn G.names.length cn) ∧ W.cell? ⟨b2, 3, none⟩ = some (.slice gt G.terms.length ct) ∧ W.cell? ⟨b2, 4, none⟩ = some (.slice gp G.prods.length cp)) ∧ W.cell? ⟨b3, 1, none⟩ = some (.slice (some ⟨g1, o1, none⟩) M ck) ∧ (W.cell? ⟨g1, o1 + i * 2, none⟩ = some (.int .i64 q) ∧ W.cell? ⟨g1, o1 + i * 2 + 1, none⟩ = some (.slice gk1 k1.len ck1)) ∧ W.cell? ⟨gq, oq + i, none⟩ = some (.int .i64 rt)) (first | exact HC.out _ Hbr.out | exact HC.out _ Hb2.out | exact HC.out _ Hb3.out)
              (first
                | (go_at_call 73; refine (Hroot.out _ Hb2.out).mono ?_; rintro e w3 ⟨rfl, hb3⟩; have Hb3 := hid (belw Hb2.out hb3); clear hb3)
                | (go_at_call 28; refine Hcall.out.mono ?_; rintro e w2 ⟨rfl, hb2⟩; have Hb2 := hid (belw Hbr.out hb2); clear hb2))
            all_goals
              go_wp2_with fail
              go_roundg r'.len
              case measure => have hk := Hkk.out; simp only [Fo.len] at hk; omega
              case rel => exact ⟨i + 1, r', by go_num, by have := Ha.out.2.2.1; omega, by have := Ha.out.2.2.2; omega, Ha.out.2.1, Ha.out.1, Hx2.out, rfl, Hb3.out⟩
          · have hnn : (rt != sx) = true := by simpa using hrs
            have hrf : res = false := by rw [← hx2, beq_eq_false_iff_ne.mpr hrs]; rfl
            subst hrf
            clear hx2 hrs
            go_region_held3 (fun W : World => (W.cell? ⟨b2, 0, none⟩ = some (.int .i64 G.start) ∧ W.cell? ⟨b2, 1, none⟩ = some (.int .i64 G.rules) ∧ W.cell? ⟨b2, 2, none⟩ = some (.slice gn G.names.length cn) ∧ W.cell? ⟨b2, 3, none⟩ = some (.slice gt G.terms.length ct) ∧ W.cell? ⟨b2, 4, none⟩ = some (.slice gp G.prods.length cp)) ∧ W.cell? ⟨b3, 1, none⟩ = some (.slice (some ⟨g1, o1, none⟩) M ck) ∧ (W.cell? ⟨g1, o1 + i * 2, none⟩ = some (.int .i64 q) ∧ W.cell? ⟨g1, o1 + i * 2 + 1, none⟩ = some (.slice gk1 k1.len ck1)) ∧ W.cell? ⟨gq, oq + i, none⟩ = some (.int .i64 sx)) (first | exact HC.out _ Hbr.out | exact HC.out _ Hb2.out | exact HC.out _ Hb3.out)
              (first
                | (go_at_call 73; refine (Hroot.out _ Hb2.out).mono ?_; rintro e w3 ⟨rfl, hb3⟩; have Hb3 := hid (belw Hb2.out hb3); clear hb3)
                | (go_at_call 28; refine Hcall.out.mono ?_; rintro e w2 ⟨rfl, hb2⟩; have Hb2 := hid (belw Hbr.out hb2); clear hb2))
            all_goals
              go_wp2_with fail
              go_ret
              exact ⟨rfl, belw Hb0.out (belw Hb1.out Hb3.out)⟩
/-- primerref14.Check of any tree. -/
theorem rcheck_calls (m : Nat) : RChkSays G gn gt gp cn ct cp m := by
  induction m using Nat.strongRecOn with
  | ind m ih => exact rcheck_step m ih
end
end Go.Proofs.Ytaehooafdbaomaa
/- Chapter 14 (tree), the document's side: Put, the bytes of any tree. -/
namespace Go.Proofs.Ytaehooafdbaomaa
open Go.RowKit
attribute [local go_sem ↓] Go.wp_at_zero Go.wp_at_succ
attribute [local go_sem] frozen_alloc_lt

theorem bytesApp (a b : List UInt8) : (⟨a.toArray⟩ : ByteArray) ++ ⟨b.toArray⟩ = ⟨(a ++ b).toArray⟩ := by
  apply ByteArray.ext
  rw [ByteArray.data_append]
  simp
def RPutSays (m : Nat) : Prop := ∀ (p : Int) (kids : Fo) (w : World) (gk : Option Addr) (ck : Nat), kids.nodes = m → kids.nodes ≤ 900000000 → FoAt w (fun k => k < w.heap.size) gk kids 0 →
    Calls Try.prog 38 #[.agg #[.int .i64 p, .slice gk kids.len ck]] w (fun e w' => e = .returned (.string ⟨(Oct.putS p ++ kids.put).toArray⟩) ∧ Below w.heap.size w w')
def RputAt (w0 : World) (ga : Option Addr) (L N : Nat) (Y : List UInt8) (k : Nat) (v3 v4 : Value) (w : World) : Prop :=
  ∃ (i : Nat) (X : List UInt8) (r : Fo), v4 = .int .i64 i ∧ v3 = .string ⟨X.toArray⟩ ∧ FoAt w0 (fun k => k < w0.heap.size) ga r i ∧ i + r.len = L ∧ r.nodes ≤ N ∧ X ++ r.put = Y ∧ k = r.len ∧ Below w0.heap.size w0 w
set_option maxRecDepth 8000 in
set_option maxHeartbeats 4000000 in
theorem rputT_step (m : Nat) (ih : ∀ m', m' < m → RPutSays m') : RPutSays m := by
  intro p kids w gk ck hm hmax hat
  have hlen := kids.len_le
  have hk := Bk.new w 50 [.int .i64 p, .slice gk kids.len ck]
  have hb0 := rt_box w p gk kids.len ck
  have hat0 := hat.fwdR hb0
  obtain ⟨wa, hwa⟩ : ∃ wa, wa = (w.alloc (.cells #[.int .i64 p, .slice gk kids.len ck] 50)) := ⟨_, rfl⟩
  obtain ⟨b, hb⟩ : ∃ b, b = w.heap.size := ⟨_, rfl⟩
  rw [← hwa] at hk hb0 hat0
  rw [← hb] at hk
  obtain ⟨L, hL⟩ : ∃ L, L = kids.len := ⟨_, rfl⟩
  rw [← hL] at hk hlen hwa ⊢
  obtain ⟨Y, hY⟩ : ∃ Y, Y = Oct.putS p ++ kids.put := ⟨_, rfl⟩
  rw [← hY]
  have hlm : (L : Int) ≤ 900000000 := by omega
  have g0 := hk.cell 0
  have g1 := hk.cell 1
  have hbl := hk.lt
  simp only [List.getElem?_cons_zero, List.getElem?_cons_succ] at g0 g1
  have HwL := hid hL
  have HY := hid hY
  have Hwa := hid (And.intro hwa hb)
  have Hb0 := hid hb0
  have Hk := hid hk
  have Hm := hid hm
  have Hlen := hid (And.intro hlen hmax)
  have Hat0 := hid hat0
  have hp := rput_calls p wa
  obtain ⟨A, hA⟩ : ∃ A : ByteArray, A = ⟨(Oct.putS p).toArray⟩ := ⟨_, rfl⟩
  rw [← hA] at hp
  have HA := hid hA
  clear hwa hb hL hb0 hk hm hlen hmax hat hat0 hY hA
  go_enter Try.func38, Try.ntmps38
  go_upto_region 1 with fail
  rw [← Hwa.out.1, ← Hwa.out.2]
  go_wp2_with (go_at_call 77; refine hp.mono ?_; rintro e w1 ⟨rfl, hb1⟩)
  have Hb1 := hid hb1
  clear hb1 hp g0 g1
  go_loopg [3, 4] L (fun k v3 v4 wr => RputAt wa gk L m Y k v3 v4 wr)
  case atStart => exact ⟨0, Oct.putS p, kids, rfl, by rw [HA.out], Hat0.out, by rw [HwL.out]; omega, by rw [Hm.out]; exact Nat.le_refl _, HY.out.symm, HwL.out, Hb1.out⟩
  case round =>
    obtain ⟨i, X, r, rfl, rfl, hr, hi, hn, hx, hkk, hbw⟩ := hrel
    have hkr := Hk.out.below hbw hbl
    have g0' := hkr.cell 0
    have g1' := hkr.cell 1
    simp only [List.getElem?_cons_zero, List.getElem?_cons_succ] at g0' g1'
    clear hkr
    cases r with
    | nil =>
      simp only [Fo.len, Nat.add_zero, Fo.put, List.append_nil] at hi hx
      have hge : ¬ (i : Int) < (L : Int) := by omega
      subst hx
      have Hbw := hid hbw
      clear hn hi hkk hbw
      go_wp2_with fail
      go_ret
      exact ⟨rfl, belw Hb0.out Hbw.out⟩
    | cons q k r' =>
      simp only [Fo.len, Fo.nodes] at hi hn
      unfold FoAt at hr
      obtain ⟨⟨g, off, ga', ca', rfl, hg, c0, c1, hk'⟩, hr'⟩ := hr
      have hlt : (i : Int) < (L : Int) := by omega
      have hi0 : (0 : Int) ≤ (i : Int) := by omega
      have c0' := (hbw.cell (p := ⟨g, _, none⟩) hg).trans c0
      have c1' := (hbw.cell (p := ⟨g, _, none⟩) hg).trans c1
      have hlt' : k.nodes < m := by omega
      have hka := (hk'.below hbw (fun _ hk => hk)).mono (D' := fun x => x < wr.heap.size) fun x (hk : x < wa.heap.size) => Nat.lt_of_lt_of_le hk hbw.size
      have hkn : k.nodes ≤ 900000000 := by have := Hlen.out.2; have := Hm.out; omega
      have hcall := ih k.nodes hlt' q k wr ga' ca' rfl hkn hka
      obtain ⟨B, hB⟩ : ∃ B : ByteArray, B = ⟨(Oct.putS q ++ k.put).toArray⟩ := ⟨_, rfl⟩
      obtain ⟨C, hC⟩ : ∃ C : ByteArray, C = ⟨X.toArray⟩ := ⟨_, rfl⟩
      have hYl : Y.length ≤ 8000000000 := by
        have h1 := Oct.putS_len p
        have h2 := Fo.put_len kids
        have h3 := Hlen.out.2
        rw [HY.out, List.length_append]
        omega
      have hXl := congrArg List.length hx
      rw [Fo.put, List.length_append, List.length_append] at hXl
      have hCs : C.size ≤ 8000000000 := by rw [hC, Lib.size_eq]; show X.toArray.toList.length ≤ _; rw [List.toList_toArray]; omega
      have hBs : B.size ≤ 8000000000 := by rw [hB, Lib.size_eq]; show (Oct.putS q ++ k.put).toArray.toList.length ≤ _; rw [List.toList_toArray]; omega
      rw [← hB] at hcall
      rw [← hC]
      have HBC := hid (And.intro hB hC)
      have Hcall := hid hcall
      have Hr' := hid hr'
      have Hi := hid hi
      have Hn := hid hn
      have Hkk := hid hkk
      have Hbw := hid hbw
      have Hx := hid hx
      clear hcall hka hr' hi hn hkk c0 c1 hk' hlt' hkn hbw hx hB hC hYl hXl
      go_wp2_with (go_at_call 38; refine Hcall.out.mono ?_; rintro e w2 ⟨rfl, hb2⟩)
      go_roundg r'.len
      case measure => have := Hkk.out; rw [Fo.len] at this; omega
      case rel => exact ⟨i + 1, X ++ (Oct.putS q ++ k.put), r', by go_num, by rw [HBC.out.1, HBC.out.2, bytesApp], Hr'.out, by have := Hi.out; omega, by have := Hn.out; omega, by rw [← Hx.out, Fo.put, List.append_assoc], rfl, belw Hbw.out hb2⟩
theorem rputT_calls (m : Nat) : RPutSays m := by
  induction m using Nat.strongRecOn with
  | ind m ih => exact rputT_step m ih
end Go.Proofs.Ytaehooafdbaomaa
/- Chapter 14 (tree), the document's side: Text. Printed by gen/mk_rtext.py. -/
namespace Go.Proofs.Ytaehooafdbaomaa
open Go.RowKit
attribute [local go_sem ↓] Go.wp_at_zero Go.wp_at_succ
attribute [local go_sem] frozen_alloc_lt

section
variable {G : Gr} {gn gt gp : Option Addr} {cn ct cp : Nat}
def RTxtSays (G : Gr) (gn gt gp : Option Addr) (cn ct cp : Nat) (m : Nat) : Prop := ∀ (p : Int) (kids : Fo) (w : World) (gk : Option Addr) (ck : Nat), kids.nodes = m → kids.nodes ≤ 1000000 → Tr.thereB G p = true → Tr.okF G kids → ChIn w G gn gt gp → FoAt w (fun k => k < w.heap.size) gk kids 0 →
    Calls Try.prog 29 #[.agg #[.int .i64 G.start, .int .i64 G.rules, .slice gn G.names.length cn, .slice gt G.terms.length ct, .slice gp G.prods.length cp], .agg #[.int .i64 p, .slice gk kids.len ck]] w fun e w' => e = .returned (.string ⟨(Tr.txtT G p (Tr.txtF G kids)).toArray⟩) ∧ Below w.heap.size w w'
def RtxAt (G : Gr) (w0 : World) (gk : Option Addr) (L N : Nat) (RES : List UInt8) (m : Nat) (v5 v6 : Value) (w : World) : Prop :=
  ∃ (i : Nat) (X : List UInt8) (r : Fo), v6 = .int .i64 i ∧ v5 = .string ⟨X.toArray⟩ ∧ i + r.len = L ∧ r.nodes ≤ N ∧ Tr.okF G r ∧ FoAt w0 (fun k => k < w0.heap.size) gk r i ∧ X ++ Tr.txtF G r ++ [41] = RES ∧ m = r.len ∧ Below w0.heap.size w0 w
set_option maxRecDepth 8000 in
set_option maxHeartbeats 2000000 in
theorem rtext_step (hS : SndG G) (hsh : ShortG G) (m : Nat) (ih : ∀ m', m' < m → RTxtSays G gn gt gp cn ct cp m') : RTxtSays G gn gt gp cn ct cp m := by
  intro p kids w gk ck hm hn hth hok hin hat
  have hb0 : Below w.heap.size w ((w.alloc (.cells #[.int .i64 G.start, .int .i64 G.rules, .slice gn G.names.length cn, .slice gt G.terms.length ct, .slice gp G.prods.length cp] 33)).alloc (.cells #[.int .i64 p, .slice gk kids.len ck] 50)) := bel_al (bel_al (bel_id w) _) _
  have hk2 := (Bk.new w 33 [.int .i64 G.start, .int .i64 G.rules, .slice gn G.names.length cn, .slice gt G.terms.length ct, .slice gp G.prods.length cp]).alloc (.cells #[.int .i64 p, .slice gk kids.len ck] 50)
  have hk3 := bk_at (Bk.new (w.alloc (.cells #[.int .i64 G.start, .int .i64 G.rules, .slice gn G.names.length cn, .slice gt G.terms.length ct, .slice gp G.prods.length cp] 33)) 50 [.int .i64 p, .slice gk kids.len ck]) (show _ = w.heap.size + 1 by simp)
  have hat0 := hat.fwdR hb0
  have hin0 := hin.later hb0
  obtain ⟨wa, hwa⟩ : ∃ wa, wa = (w.alloc (.cells #[.int .i64 G.start, .int .i64 G.rules, .slice gn G.names.length cn, .slice gt G.terms.length ct, .slice gp G.prods.length cp] 33)).alloc (.cells #[.int .i64 p, .slice gk kids.len ck] 50) := ⟨_, rfl⟩
  obtain ⟨b2, hb2⟩ : ∃ b2, b2 = w.heap.size := ⟨_, rfl⟩
  obtain ⟨b3, hb3⟩ : ∃ b3, b3 = w.heap.size + 1 := ⟨_, rfl⟩
  rw [← hwa] at hb0 hk2 hk3 hat0 hin0
  rw [← hb2] at hk2
  rw [← hb3] at hk3
  obtain ⟨L, hL⟩ : ∃ L, L = kids.len := ⟨_, rfl⟩
  rw [← hL] at hk3 hwa ⊢
  have g0 := hk2.cell 0
  have g1 := hk2.cell 1
  have g2 := hk2.cell 2
  have g3 := hk2.cell 3
  have g4 := hk2.cell 4
  have x0 := hk3.cell 0
  have x1 := hk3.cell 1
  simp only [List.getElem?_cons_zero, List.getElem?_cons_succ] at g0 g1 g2 g3 g4 x0 x1
  have Hwa := hid (And.intro hwa (And.intro hb2 hb3))
  have Hb0 := hid hb0
  have Hk2 := hid hk2
  have Hk3 := hid hk3
  have Hat0 := hid hat0
  have Hin0 := hid hin0
  have Hm := hid (And.intro hm hn)
  have Hok := hid hok
  have HL := hid hL
  have Ih := hid ih
  have hlen := kids.len_le
  have hLm : (L : Int) ≤ 1000000 := by omega
  clear hwa hb2 hb3 hb0 hk2 hk3 hat0 hin0 hm hn hok hL ih hat hin hlen
  by_cases hp : p < 0
  · obtain ⟨j, hj⟩ : ∃ j : Nat, -1 - p = (j : Int) := ⟨(-1 - p).toNat, by omega⟩
    have hjt : j < G.terms.length := by
      unfold Tr.thereB at hth
      simp at hth
      omega
    obtain ⟨tj, htj⟩ : ∃ tj, tj = G.terms[j] := ⟨_, rfl⟩
    obtain ⟨g, off, hgt, hgb, hc⟩ : ∃ g off : Nat, gt = some ⟨g, off, none⟩ ∧ g < wa.heap.size ∧ wa.cell? ⟨g, off + j, none⟩ = some (.string tj) := by
      rw [htj]
      exact Hin0.out.g.t.at hjt
    have hj0 : (0 : Int) ≤ (j : Int) := by omega
    have hj2 : (j : Int) ≤ 1000000 := by have := Hin0.out.h2; omega
    have hj1 : (j : Int) < (G.terms.length : Int) := by omega
    have hsz : tj.size ≤ 65536 := by rw [htj]; exact hsh.t _ (List.getElem_mem hjt)
    have hq := rquote_calls tj wa hsz
    have Hres : Tr.txtT G p (Tr.txtF G kids) = Lex.quoteS tj.data.toList := by
      unfold Tr.txtT Tr.nameS
      rw [htj, if_pos hp, hj, Int.toNat_natCast, List.getD, List.getElem?_eq_getElem hjt]
      rfl
    rw [Hres]
    subst hgt
    clear Hres hth htj hjt
    go_enter Try.func29, Try.ntmps29
    go_upto_region 1 with fail
    rw [← Hwa.out.1, ← Hwa.out.2.2, ← Hwa.out.2.1]
    go_wp2_with (go_at_call 74; refine hq.mono ?_; rintro e w1 ⟨rfl, hb1⟩)
    go_ret
    exact ⟨rfl, belw Hb0.out hb1⟩
  · obtain ⟨q, rfl⟩ : ∃ q : Nat, p = (q : Int) := ⟨p.toNat, by omega⟩
    have hqt : q < G.prods.length := by
      unfold Tr.thereB at hth
      simp at hth
      omega
    obtain ⟨x, hx⟩ : ∃ x, G.prods[q]? = some x := ⟨_, List.getElem?_eq_getElem hqt⟩
    have hxm := List.mem_of_getElem? hx
    obtain ⟨g, off, gr, cr, hgp, hgb, hc, -, -⟩ := Hin0.out.g.p q x hx
    obtain ⟨e, he⟩ : ∃ e : Nat, x.1 = (e : Int) := ⟨x.1.toNat, by have := hS.l0 x hxm; omega⟩
    have hen : e < G.names.length := by have := hS.l1 x hxm; omega
    obtain ⟨nm, hnm⟩ : ∃ nm, nm = G.names[e] := ⟨_, rfl⟩
    obtain ⟨g2, off2, hgn, hgb2, hc2⟩ : ∃ g off : Nat, gn = some ⟨g, off, none⟩ ∧ g < wa.heap.size ∧ wa.cell? ⟨g, off + e, none⟩ = some (.string nm) := by
      rw [hnm]
      exact Hin0.out.g.n.at hen
    rw [he] at hc
    have hsz : nm.size ≤ 65536 := by rw [hnm]; exact hsh.n _ (List.getElem_mem hen)
    have Hres : Tr.txtT G q (Tr.txtF G kids) = (40 :: nm.data.toList) ++ (Tr.txtF G kids ++ [41]) := by
      unfold Tr.txtT Tr.nameS
      rw [hnm, if_neg hp, Int.toNat_natCast, show G.prods.getD q (0, []) = x by rw [List.getD, hx]; rfl, he, Int.toNat_natCast, List.getD, List.getElem?_eq_getElem hen]
      rfl
    obtain ⟨RES, hRES⟩ : ∃ RES, RES = (40 :: nm.data.toList) ++ (Tr.txtF G kids ++ [41]) := ⟨_, rfl⟩
    rw [Hres, ← hRES]
    have hRl : RES.length ≤ 400000000000 := by
      have h1 := txtF_len hsh kids
      have h2 := Hm.out.2
      rw [hRES]
      simp only [List.length_append, List.length_cons, List.length_nil]
      rw [← Lib.size_eq]
      omega
    have HRES := hid hRES
    have HRl := hid hRl
    have hq0 : (0 : Int) ≤ (q : Int) := by omega
    have hq1 : (q : Int) < (G.prods.length : Int) := by omega
    have he0 : (0 : Int) ≤ (e : Int) := by omega
    have he1 : (e : Int) < (G.names.length : Int) := by omega
    have hhn : ¬ (q : Int) < 0 := by omega
    subst hgp
    subst hgn
    obtain ⟨A, hA⟩ : ∃ A : ByteArray, A = ⟨(40 :: nm.data.toList).toArray⟩ := ⟨_, rfl⟩
    have hadd : ((⟨#[40]⟩ : ByteArray) ++ nm) = A := by
      rw [hA]
      apply ByteArray.ext
      simp
    have hlim : ¬ 9223372036854775807 < 1 + nm.size := by omega
    have hlim2 : 1 + nm.size ≤ 9223372036854775807 := by omega
    have HA := hid hA
    have Hsz := hid hsz
    clear Hres hth hx hxm hnm hen hqt hRES hRl he hA hp hsz
    go_enter Try.func29, Try.ntmps29
    go_upto_region 1 with fail
    rw [← Hwa.out.1, ← Hwa.out.2.2, ← Hwa.out.2.1]
    go_upto_region 3 with fail
    go_cut [5] from 18 to 29 (fun v5 wx => v5 = .string A ∧ Below wa.heap.size wa wx)
    case first =>
      go_quiet (fail)
      go_wp2_with fail
      go_meet
      exact ⟨rfl, below_drewN (bel_id wa) _⟩
    case rest =>
    obtain ⟨rfl, hbc⟩ := hcut
    have y1 := (Hk3.out.below hbc Hk3.out.lt).cell 1
    simp only [List.getElem?_cons_zero, List.getElem?_cons_succ] at y1
    have Hbc := hid hbc
    clear hbc g0 g1 g2 g3 g4 x0 x1 hadd hlim hlim2 hc hc2 hgb hgb2
    go_upto_region 4 with fail
    go_wp2_with fail
    go_loopg [5, 6] L (fun mm v5 v6 wx => RtxAt G wa gk L kids.nodes RES mm v5 v6 wx)
    case atStart => exact ⟨0, 40 :: nm.data.toList, kids, rfl, by rw [HA.out], by rw [Nat.zero_add]; exact HL.out.symm, Nat.le_refl _, Hok.out, Hat0.out, by rw [HRES.out, List.append_assoc], HL.out, Hbc.out⟩
    case round =>
      clear y1
      obtain ⟨i, X, r, rfl, rfl, hi, hr, hok, ha, hx, hkk, hb⟩ := hrel
      have y1 := (Hk3.out.below hb Hk3.out.lt).cell 1
      simp only [List.getElem?_cons_zero, List.getElem?_cons_succ] at y1
      have hXl := congrArg List.length hx
      rw [List.length_append, List.length_append] at hXl
      obtain ⟨C, hC⟩ : ∃ C : ByteArray, C = ⟨X.toArray⟩ := ⟨_, rfl⟩
      have hCs : C.size ≤ 400000000000 := by rw [hC, Lib.size_eq]; show X.toArray.toList.length ≤ _; rw [List.toList_toArray]; have := HRl.out; omega
      rw [← hC]
      have HC1 := hid hC
      cases r with
      | nil =>
        simp only [Fo.len, Nat.add_zero, Tr.txtF, List.append_nil] at hi hx
        have hge : ¬ (i : Int) < (L : Int) := by omega
        have hadd : C ++ (⟨#[41]⟩ : ByteArray) = ⟨RES.toArray⟩ := by
          rw [hC, ← hx]
          exact bytesApp X [41]
        have hlim : C.size + 1 ≤ 9223372036854775807 := by omega
        have hlim2 : ¬ 9223372036854775807 < C.size + 1 := by omega
        have Hb := hid hb
        clear hx hi hb hr hok ha hC hXl
        go_wp2_with fail
        go_ret
        exact ⟨rfl, belw Hb0.out Hb.out⟩
      | cons q1 k1 r' =>
        simp only [Fo.len, Fo.nodes] at hi hr
        have hlt : (i : Int) < (L : Int) := by omega
        have hi0 : (0 : Int) ≤ (i : Int) := by omega
        unfold FoAt at ha
        obtain ⟨⟨g1, o1, gk1, ck1, rfl, hg1, e0, e1, hk1⟩, ha'⟩ := ha
        obtain ⟨hq1', hok1, hok'⟩ := hok
        have hC' : ∀ W, Below wa.heap.size wa W → ((W.cell? ⟨b2, 0, none⟩ = some (.int .i64 G.start) ∧ W.cell? ⟨b2, 1, none⟩ = some (.int .i64 G.rules) ∧ W.cell? ⟨b2, 2, none⟩ = some (.slice (some ⟨g2, off2, none⟩) G.names.length cn) ∧ W.cell? ⟨b2, 3, none⟩ = some (.slice gt G.terms.length ct) ∧ W.cell? ⟨b2, 4, none⟩ = some (.slice (some ⟨g, off, none⟩) G.prods.length cp)) ∧ W.cell? ⟨b3, 1, none⟩ = some (.slice (some ⟨g1, o1, none⟩) L ck) ∧ (W.cell? ⟨g1, o1 + i * 2, none⟩ = some (.int .i64 q1) ∧ W.cell? ⟨g1, o1 + i * 2 + 1, none⟩ = some (.slice gk1 k1.len ck1))) := fun W hW => ⟨⟨(Hk2.out.below hW Hk2.out.lt).cell 0, (Hk2.out.below hW Hk2.out.lt).cell 1, (Hk2.out.below hW Hk2.out.lt).cell 2, (Hk2.out.below hW Hk2.out.lt).cell 3, (Hk2.out.below hW Hk2.out.lt).cell 4⟩, (Hk3.out.below hW Hk3.out.lt).cell 1, ⟨(hW.cell (p := ⟨g1, _, none⟩) hg1).trans e0, (hW.cell (p := ⟨g1, _, none⟩) hg1).trans e1⟩⟩
        have HC := hid hC'
        have hbr : Below wa.heap.size wa wr.drew := hb.drew
        have hcall := Ih.out k1.nodes (by have := Hm.out; omega) q1 k1 wr.drew gk1 ck1 rfl (by have := Hm.out; omega) hq1' hok1 (Hin0.out.later hbr) ((hk1.below hbr (fun _ h => h)).mono (fun k hk => Nat.lt_of_lt_of_le hk hbr.size))
        obtain ⟨T, hT⟩ : ∃ T, T = Tr.txtT G q1 (Tr.txtF G k1) := ⟨_, rfl⟩
        have hx2 : (X ++ (32 :: T)) ++ Tr.txtF G r' ++ [41] = RES := by rw [← hx, hT, Tr.txtF]; simp only [List.append_assoc]
        have hTl := congrArg List.length hx2
        rw [List.length_append, List.length_append, List.length_append, List.length_cons] at hTl
        rw [← hT] at hcall
        obtain ⟨B, hB⟩ : ∃ B : ByteArray, B = ⟨T.toArray⟩ := ⟨_, rfl⟩
        have hBs : B.size ≤ 400000000000 := by rw [hB, Lib.size_eq]; show T.toArray.toList.length ≤ _; rw [List.toList_toArray]; have := HRl.out; omega
        rw [← hB] at hcall
        obtain ⟨D, hD⟩ : ∃ D : ByteArray, D = ⟨(32 :: T).toArray⟩ := ⟨_, rfl⟩
        have hadd : (⟨#[32]⟩ : ByteArray) ++ B = D := by
          rw [hB, hD]
          exact bytesApp [32] T
        have hDs : D.size ≤ 400000000001 := by rw [hD, Lib.size_eq]; show (32 :: T).toArray.toList.length ≤ _; rw [List.toList_toArray, List.length_cons]; have := HRl.out; omega
        have hCD : C ++ D = ⟨(X ++ (32 :: T)).toArray⟩ := by rw [hC, hD]; exact bytesApp _ _
        have hlim : 1 + B.size ≤ 9223372036854775807 := by omega
        have hlim2 : ¬ 9223372036854775807 < 1 + B.size := by omega
        have hlim3 : C.size + D.size ≤ 9223372036854775807 := by omega
        have hlim4 : ¬ 9223372036854775807 < C.size + D.size := by omega
        have Hx2 := hid hx2
        have HCD := hid hCD
        have Hcall := hid hcall
        have Hbr := hid hbr
        have Ha := hid (And.intro ha' (And.intro hok' (And.intro hi hr)))
        have Hkk := hid hkk
        clear hi hr ha' hok1 hok' hq1' e0 e1 hk1 hg1 hC' hbr hkk hb hx hx2 hXl hTl hB hC hD hT hCD hcall
        go_upto_region 7 with fail
        clear y1
        go_region_held3 (fun W : World => (W.cell? ⟨b2, 0, none⟩ = some (.int .i64 G.start) ∧ W.cell? ⟨b2, 1, none⟩ = some (.int .i64 G.rules) ∧ W.cell? ⟨b2, 2, none⟩ = some (.slice (some ⟨g2, off2, none⟩) G.names.length cn) ∧ W.cell? ⟨b2, 3, none⟩ = some (.slice gt G.terms.length ct) ∧ W.cell? ⟨b2, 4, none⟩ = some (.slice (some ⟨g, off, none⟩) G.prods.length cp)) ∧ W.cell? ⟨b3, 1, none⟩ = some (.slice (some ⟨g1, o1, none⟩) L ck) ∧ (W.cell? ⟨g1, o1 + i * 2, none⟩ = some (.int .i64 q1) ∧ W.cell? ⟨g1, o1 + i * 2 + 1, none⟩ = some (.slice gk1 k1.len ck1))) (first | exact HC.out _ Hbr.out | exact HC.out _ Hb2.out)
          ((go_at_call 29; refine Hcall.out.mono ?_; rintro e w2 ⟨rfl, hb2⟩; have Hb2 := hid (belw Hbr.out hb2); clear hb2))
        all_goals
          go_wp2_with fail
          go_roundg r'.len
          case measure => have hk := Hkk.out; simp only [Fo.len] at hk; omega
          case rel => exact ⟨i + 1, X ++ (32 :: T), r', by go_num, by rw [HCD.out], by have := Ha.out.2.2.1; omega, by have := Ha.out.2.2.2; omega, Ha.out.2.1, Ha.out.1, Hx2.out, rfl, Hb2.out⟩
/-- primerref14.Text of a tree that is the grammar's. -/
theorem rtext_calls (hS : SndG G) (hsh : ShortG G) (m : Nat) : RTxtSays G gn gt gp cn ct cp m := by
  induction m using Nat.strongRecOn with
  | ind m ih => exact rtext_step hS hsh m ih
end
end Go.Proofs.Ytaehooafdbaomaa
