/- Chapter 14 (tree), the document's side: Get, the tree of bytes. -/
import Derived.Test.YtaehooafdbaomaaRefNext
import Derived.Test.YtaehooafdbaomaaRefSound
import Derived.Test.YtaehooafdbaomaaTreeGet
namespace Go.Proofs.Ytaehooafdbaomaa
open Go.RowKit
attribute [local go_sem ↓] Go.wp_at_zero Go.wp_at_succ
attribute [local go_sem] frozen_alloc_lt

section
set_option maxRecDepth 8000 in
set_option maxHeartbeats 4000000 in
theorem rget14_calls (w : World) (G : Gr) (gn gt gp : Option Addr) (cn ct cp : Nat) (h : ChIn w G gn gt gp) (S : ByteArray) (hS : S.size ≤ 1000000000) (hs : Pl.soundB G = true) :
    Calls Try.prog 21 #[.agg #[.int .i64 G.start, .int .i64 G.rules, .slice gn G.names.length cn, .slice gt G.terms.length ct, .slice gp G.prods.length cp], .string S] w (TGetSaid w (Tr.getT G S.data.toList)) := by
  rw [Tr.getT_eq]
  obtain ⟨R, hR⟩ : ∃ R, R = Tr.readT G (S.data.toList.length + 1) none S.data.toList 0 := ⟨_, rfl⟩
  rw [← hR]
  have hRe : ∀ e, R = .bad e → e ≠ 0 := fun e he => Tr.readT_code G _ _ _ _ _ (Nat.zero_le _) (Nat.lt_succ_self _) (hR.symm.trans he)
  have HRe := hid hRe
  have HR := hid hR
  clear hR hRe
  have hb0 : Below w.heap.size w ((w.alloc (.cells #[.int .i64 G.start, .int .i64 G.rules, .slice gn G.names.length cn, .slice gt G.terms.length ct, .slice gp G.prods.length cp] 33)).alloc (.cells #[.int .i64 0, .slice none 0 0] 50)) := bel_al (bel_al (bel_id w) _) _
  have hk2 := (Bk.new w 33 [.int .i64 G.start, .int .i64 G.rules, .slice gn G.names.length cn, .slice gt G.terms.length ct, .slice gp G.prods.length cp]).alloc (.cells #[.int .i64 0, .slice none 0 0] 50)
  have hk4 := bk_at (Bk.new (w.alloc (.cells #[.int .i64 G.start, .int .i64 G.rules, .slice gn G.names.length cn, .slice gt G.terms.length ct, .slice gp G.prods.length cp] 33)) 50 [.int .i64 0, .slice none 0 0]) (show _ = w.heap.size + 1 by simp)
  obtain ⟨wa, hwa⟩ : ∃ wa, wa = ((w.alloc (.cells #[.int .i64 G.start, .int .i64 G.rules, .slice gn G.names.length cn, .slice gt G.terms.length ct, .slice gp G.prods.length cp] 33)).alloc (.cells #[.int .i64 0, .slice none 0 0] 50)) := ⟨_, rfl⟩
  obtain ⟨b2, hb2⟩ : ∃ b2, b2 = w.heap.size := ⟨_, rfl⟩
  obtain ⟨b4, hb4⟩ : ∃ b4, b4 = w.heap.size + 1 := ⟨_, rfl⟩
  rw [← hwa] at hb0 hk2 hk4
  rw [← hb2] at hk2
  rw [← hb4] at hk4
  have hsc := rsound_calls wa G gn gt gp cn ct cp (h.later hb0).g
  rw [hs] at hsc
  have g0 := hk2.cell 0
  have g1 := hk2.cell 1
  have g2 := hk2.cell 2
  have g3 := hk2.cell 3
  have g4 := hk2.cell 4
  have hgl := hk2.lt
  simp only [List.getElem?_cons_zero, List.getElem?_cons_succ] at g0 g1 g2 g3 g4
  have Hwa := hid (And.intro hwa (And.intro hb2 hb4))
  have Hb0 := hid hb0
  have Hk2 := hid hk2
  have Hk4 := hid hk4
  have H := hid h
  have HS := hid hS
  clear hwa hb2 hb4 hb0 hk2 hk4 h hS hs
  go_enter Try.func21, Try.ntmps21
  go_upto_region 1 with fail
  rw [← Hwa.out.1, ← Hwa.out.2.2, ← Hwa.out.2.1]
  go_upto_region 3 with (go_at_call 65; refine hsc.mono ?_; rintro e w1 ⟨rfl, hb1⟩)
  have hsz1 : wa.heap.size ≤ w1.heap.size := hb1.size
  have hbs := Bk.new w1 117 (stC S 0 0 0)
  have hw1 := Hb0.out.trans (hb1.mono Hb0.out.size)
  have hk21 := Hk2.out.below hb1 Hk2.out.lt
  have hk41 := Hk4.out.below hb1 Hk4.out.lt
  obtain ⟨w2, hw2⟩ : ∃ w2, w2 = w1.alloc (.cells #[.string S, .int .i64 0, .int .i64 0, .int .i64 0] 117) := ⟨_, rfl⟩
  obtain ⟨bs, hbse⟩ : ∃ bs, bs = w1.heap.size := ⟨_, rfl⟩
  have hbq : Below w.heap.size w w2 := by rw [hw2]; exact bel_al hw1 _
  have hk22 : Bk w2 b2 33 [.int .i64 G.start, .int .i64 G.rules, .slice gn G.names.length cn, .slice gt G.terms.length ct, .slice gp G.prods.length cp] := by rw [hw2]; exact hk21.alloc _
  have hk42 : Bk w2 b4 50 [.int .i64 0, .slice none 0 0] := by rw [hw2]; exact hk41.alloc _
  have hs2 : Bk w2 bs 117 (stC S 0 0 0) := by rw [hw2, hbse]; exact hbs
  have hwbs : w.heap.size ≤ bs ∧ w.heap.size ≤ b4 ∧ b4 < bs := by have := Hwa.out.2; have := Hk4.out.lt; rw [hbse]; exact ⟨hw1.size, by omega, by omega⟩
  have hnx := next_all (G := G) (gn := gn) (gt := gt) (gp := gp) (cn := cn) (ct := ct) (cp := cp) (S.data.toList.length + 1) 0 false S 0 0 bs w2 w (by rw [← Lib.size_eq]; omega) HS.out (Nat.zero_le _) (by omega) H.out hwbs.1 hbq hs2
  rw [if_neg (by decide), List.drop_zero] at hnx
  rw [← HR.out] at hnx
  have Hw2 := hid (And.intro hw2 hbse)
  have Hbq := hid hbq
  have Hk22 := hid hk22
  have Hk42 := hid hk42
  have Hwbs := hid hwbs
  have x0 := hk22.cell 0
  have x1 := hk22.cell 1
  have x2 := hk22.cell 2
  have x3 := hk22.cell 3
  have x4 := hk22.cell 4
  have xl := hk22.lt
  simp only [List.getElem?_cons_zero, List.getElem?_cons_succ] at x0 x1 x2 x3 x4
  clear hsz1 hbs hw1 hk21 hk41 hb1 hw2 hbse hbq hk22 hk42 hs2 hwbs g0 g1 g2 g3 g4 hgl hsc
  go_upto_region 4 with fail
  rw [← Hw2.out.1, ← Hw2.out.2]
  have hne4 : ¬ b4 = bs := by have := Hwbs.out; omega
  have hne4' : ¬ bs = b4 := by have := Hwbs.out; omega
  have hcall : Calls Try.prog 68 #[.agg #[.int .i64 G.start, .int .i64 G.rules, .slice gn G.names.length cn, .slice gt G.terms.length ct, .slice gp G.prods.length cp], .pointer (some ⟨bs, 0, none⟩), .int .i64 0, .bool false] w2 fun e w3 => ∃ (p : Int) (gk : Option Addr) (kl ck a n E : Nat), e = .returned (.agg #[.int .i64 p, .slice gk kl ck]) ∧ Hid (Below w.heap.size w w3 ∧ Bk w3 b4 50 [.int .i64 0, .slice none 0 0] ∧ Bk w3 bs 117 (stC S a n E) ∧ ∃ f : Fo, kl = f.len ∧ FoAt w3 (fun k => bs < k ∧ k < w3.heap.size) gk f 0 ∧ NxR S R (p, f) a n E) := by
    refine hnx.mono ?_
    rintro e w3 ⟨hk3, x, gk, ck, a, n, E, rfl, hfo, hst, hr⟩
    have h4 := Hk42.out.kp hk3 (fun e => by omega)
    have h2 : bs < w2.heap.size := by rw [Hw2.out.1, Hw2.out.2]; simp
    have hfo2 : FoAt w3 (fun k => bs < k ∧ k < w3.heap.size) gk x.2 0 := hfo.mono fun k hk => ⟨Nat.lt_of_lt_of_le h2 hk.1, hk.2⟩
    exact ⟨x.1, gk, x.2.len, ck, a, n, E, rfl, ⟨Hbq.out.trans (hk3.to_below Hbq.out.size (fun k e => by have : k = bs := e; have := Hwbs.out; omega)), h4, hst, x.2, rfl, hfo2, hr⟩⟩
  clear hnx
  go_upto_region 5 with (go_at_call 68; refine hcall.mono ?_; rintro e w3 ⟨p, gk, kl, ck, a, n, E, rfl, Hpost⟩)
  obtain ⟨hb3, h43, hs3, f, rfl, hfo, hr⟩ := Hpost.out
  have h44 := h43.alloc (.cells #[.int .i64 p, .slice gk f.len ck] 50)
  have hs4 := hs3.alloc (.cells #[.int .i64 p, .slice gk f.len ck] 50)
  have h74 := Bk.new w3 50 [.int .i64 p, .slice gk f.len ck]
  have hb4 : Below w.heap.size w (w3.alloc (.cells #[.int .i64 p, .slice gk f.len ck] 50)) := bel_al hb3 _
  have hfo4 : FoAt (w3.alloc (.cells #[.int .i64 p, .slice gk f.len ck] 50)) (fun k => bs < k ∧ k < (w3.alloc (.cells #[.int .i64 p, .slice gk f.len ck] 50)).heap.size) gk f 0 := (hfo.kp ((Kp.refl (fun _ => False) w3).alloc _) (fun k _ e => e)).mono fun k hk => ⟨hk.1, Nat.lt_of_lt_of_le hk.2 (by simp)⟩
  obtain ⟨w4, hw4⟩ : ∃ w4, w4 = w3.alloc (.cells #[.int .i64 p, .slice gk f.len ck] 50) := ⟨_, rfl⟩
  have h74' : Bk w4 w3.heap.size 50 [.int .i64 p, .slice gk f.len ck] := by rw [hw4]; exact h74
  rw [← hw4] at h44 hs4 hb4 hfo4 ⊢
  have hb7w : bs < w3.heap.size := hs3.lt
  obtain ⟨b7, hb7⟩ : ∃ b7, b7 = w3.heap.size := ⟨_, rfl⟩
  rw [← hb7] at h74' hb7w ⊢
  have c1 := hs4.cell 1
  have c3 := hs4.cell 3
  have fc3 := hs4.free 3
  have hbl := hs4.lt
  have d0 := h44.cell 0
  have d1 := h44.cell 1
  have f0 := h44.free 0
  have f1 := h44.free 1
  have h4l := h44.lt
  have e0 := h74'.cell 0
  have e1 := h74'.cell 1
  simp only [stC, List.getElem?_cons_zero, List.getElem?_cons_succ] at c1 c3 d0 d1 e0 e1
  have Hb4 := hid hb4
  have Hfo := hid hfo4
  have Hs4 := hid hs4
  have H44 := hid h44
  have hne7 : ¬ b7 = b4 := by have := Hwbs.out; omega
  have hne7' : ¬ b7 = bs := by omega
  have HS2 := HS.out
  clear hcall x0 x1 x2 x3 x4 xl h43 hs3 hfo h74 hb3 h44 hs4 h74' hb4 hfo4 hw4 hb7 hb7w Hpost
  cases R with
  | bad q =>
    have hq : E = q := hr
    have hE : E ≠ 0 := by rw [hq]; exact HRe.out q rfl
    have hE1 : ((E : Int) == 0) = false := by simp; omega
    have hE2 : ((E : Int) != 0) = true := by simp; omega
    have Hq := hid hq
    clear hr hq hE
    go_upto_region 8 with fail
    go_region
    all_goals
      go_wp2_with fail
      have hks : Kp (fun k => k = b4) w4 ((w4.setCell ⟨b4, 0, none⟩ (.int .i64 0)).setCell ⟨b4, 1, none⟩ (.slice none 0 0)) := ((Kp.refl (fun k => k = b4) w4).set (p := ⟨b4, 0, none⟩) (.inl rfl) _).set (p := ⟨b4, 1, none⟩) (.inl rfl) _
      have h5 := (H44.out.set 0 (.int .i64 0)).set 1 (.slice none 0 0)
      simp only [List.set_cons_zero, List.set_cons_succ] at h5
      have r0 := h5.cell 0
      have r1 := h5.cell 1
      simp only [List.getElem?_cons_zero, List.getElem?_cons_succ] at r0 r1
      refine bodyPost_ret (v := .tuple #[.agg #[.int .i64 0, .slice none 0 0], .int .i64 E]) (by simp [results, Try.results21, go_sem, r0, r1]) rfl ?_
      rw [← Hq.out]
      exact ⟨none, 0, rfl, trivial, (Hb4.out.trans (hks.to_below Hb4.out.size (fun k e => by have : k = b4 := e; have := Hwbs.out; omega))).drew⟩
  | ok x l c =>
    obtain ⟨rfl, hx, hat, hl, -⟩ := hr
    subst hx
    cases l with
    | nil =>
      have hae : a = S.size := by
        have h1 := congrArg List.length hl
        rw [List.length_drop, ← Lib.size_eq] at h1
        simp at h1
        omega
      subst hae
      clear hl hat
      have hlt : ¬ (S.size : Int) < (S.size : Int) := by omega
      go_wp2_with fail
      have hks : Kp (fun k => k = b4) w4 ((w4.setCell ⟨b4, 0, none⟩ (.int .i64 p)).setCell ⟨b4, 1, none⟩ (.slice gk f.len ck)) := ((Kp.refl (fun k => k = b4) w4).set (p := ⟨b4, 0, none⟩) (.inl rfl) _).set (p := ⟨b4, 1, none⟩) (.inl rfl) _
      have h5 := (H44.out.set 0 (.int .i64 p)).set 1 (.slice gk f.len ck)
      simp only [List.set_cons_zero, List.set_cons_succ] at h5
      have r0 := h5.cell 0
      have r1 := h5.cell 1
      simp only [List.getElem?_cons_zero, List.getElem?_cons_succ] at r0 r1
      refine bodyPost_ret (v := .tuple #[.agg #[.int .i64 p, .slice gk f.len ck], .int .i64 0]) (by simp [results, Try.results21, go_sem, r0, r1]) rfl ?_
      exact ⟨gk, ck, rfl, (Hfo.out.kp hks (fun k hk e => by have := hk.1; have : k = b4 := e; have := Hwbs.out; omega)).mono fun k hk => ⟨by have := hk.1; have := Hwbs.out; omega, Nat.lt_of_lt_of_le hk.2 hks.size⟩, Hb4.out.trans (hks.to_below Hb4.out.size (fun k e => by have : k = b4 := e; have := Hwbs.out; omega))⟩
    | cons y r =>
      have hlt : (a : Int) < (S.size : Int) := by
        have h1 := congrArg List.length hl
        rw [List.length_drop, ← Lib.size_eq] at h1
        simp at h1
        omega
      clear hl hat
      go_upto_region 8 with fail
      go_region
      all_goals
        go_wp2_with fail
        have hks : Kp (fun k => k = b4 ∨ k = bs) w4 (((w4.setCell ⟨bs, 3, none⟩ (.int .i64 4)).setCell ⟨b4, 0, none⟩ (.int .i64 0)).setCell ⟨b4, 1, none⟩ (.slice none 0 0)) := (((Kp.refl (fun k => k = b4 ∨ k = bs) w4).set (p := ⟨bs, 3, none⟩) (.inl (.inr rfl)) _).set (p := ⟨b4, 0, none⟩) (.inl (.inl rfl)) _).set (p := ⟨b4, 1, none⟩) (.inl (.inl rfl)) _
        have h5 := ((H44.out.far (p := ⟨bs, 3, none⟩) hne4 (.int .i64 4)).set 0 (.int .i64 0)).set 1 (.slice none 0 0)
        simp only [List.set_cons_zero, List.set_cons_succ] at h5
        have r0 := h5.cell 0
        have r1 := h5.cell 1
        simp only [List.getElem?_cons_zero, List.getElem?_cons_succ] at r0 r1
        refine bodyPost_ret (v := .tuple #[.agg #[.int .i64 0, .slice none 0 0], .int .i64 4]) (by simp [results, Try.results21, go_sem, r0, r1]) rfl ?_
        exact ⟨none, 0, rfl, trivial, (Hb4.out.trans (hks.to_below Hb4.out.size (fun k e => by have : k = b4 ∨ k = bs := e; have := Hwbs.out; omega))).drew⟩
end
end Go.Proofs.Ytaehooafdbaomaa
