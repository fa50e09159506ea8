/- Chapter 5 (syntax): around, given alternation. -/
import Derived.Test.YtjaampgpihicmaaSyn3
namespace Go.Proofs.Ytjaampgpihicmaa
open Go.RowKit
attribute [local go_sem ↓] Go.wp_at_zero Go.wp_at_succ
attribute [local go_sem] frozen_alloc_lt
open Syn (Nd Nod)

set_option maxRecDepth 8000 in
set_option maxHeartbeats 4000000 in
theorem around_calls {w : World} {B bp : Nat} {gT : Option Addr} {cT : Nat} {T : List Lex.Tok} {i o : Nat} (h : Par w B bp gT cT T i o) (s : List UInt8) (ho : o < 16) (hk : (Syn.tk T i).kind ≠ 4) {r : Syn.Res Nod}
    (hro : ∀ n j p, r = .ok n j p → p = o + 1)
    (ha : ∀ w', Par w' B bp gT cT T (i + 1) (o + 1) → Calls Try.prog 98 #[.pointer (some ⟨bp, 0, none⟩)] w' (PEnd (isNode w'.heap.size) w' B bp gT cT T r)) :
    Calls Try.prog 148 #[.pointer (some ⟨bp, 0, none⟩), .string ⟨s.toArray⟩] w (PEnd (isNode w.heap.size) w B bp gT cT T (arndOf T s r)) := by
  have k1 := h.k.cell 1
  have k2 := h.k.cell 2
  have fr1 := h.k.free 1
  have fr2 := h.k.free 2
  simp only [List.getElem?_cons_zero, List.getElem?_cons_succ] at k1 k2
  have hlt := h.k.lt
  have hj := lt_last h.lt h.last hk
  obtain ⟨y, hy⟩ : ∃ y : Int, y = i := ⟨_, rfl⟩
  have hi : y < 1000000 := by have := h.len; have := h.lt; omega
  have hi0 : 0 ≤ y := by omega
  obtain ⟨z, hz⟩ : ∃ z : Int, z = o := ⟨_, rfl⟩
  have ho' : z < 16 := by omega
  have hz0 : 0 ≤ z := by omega
  have hon : ¬ z = 16 := by omega
  rw [← hz] at k2
  rw [← hy] at k1
  have Hy := hid hy
  have Hj := hid hj
  have Hz := hid hz
  have Hro := hid hro
  have Ha := hid ha
  have H := hid h
  clear hz hy hj hro ha hk ho h
  have hg0 : w.grownBy (((w.setCell ⟨bp, 2, none⟩ (.int .i64 (z + 1))).setCell ⟨bp, 1, none⟩ (.int .i64 (y + 1))).alloc (.cells #[.int .i64 0, .string ⟨#[]⟩, .slice none 0 0] 49)) (some bp) := by
    refine gb_alloc ?_ _
    refine gb_set ?_ (.inl rfl) _
    refine gb_set ?_ (.inl rfl) _
    exact World.grownBy.refl w _
  have HG := hid hg0
  clear hg0
  have rb0 : Bk (((w.setCell ⟨bp, 2, none⟩ (.int .i64 (z + 1))).setCell ⟨bp, 1, none⟩ (.int .i64 (y + 1))).alloc (.cells #[.int .i64 0, .string ⟨#[]⟩, .slice none 0 0] 49)) w.heap.size 49 [.int .i64 0, .string ⟨#[]⟩, .slice none 0 0] := by
    have := Bk.new ((w.setCell ⟨bp, 2, none⟩ (.int .i64 (z + 1))).setCell ⟨bp, 1, none⟩ (.int .i64 (y + 1))) 49 [.int .i64 0, .string ⟨#[]⟩, .slice none 0 0]
    simpa [World.setCell] using this
  have RB := hid rb0
  clear rb0
  have Hlt := hid hlt
  cases r with
  | bad f =>
    go_enter Try.func148, Try.ntmps148
    go_wp2_with (go_at_call 98; (have hw := (((H.out.opens (o + 1)).at (i + 1) Hj.out).below ((Below.refl _ _).alloc (Nat.le_refl _) (.cells #[.int .i64 0, .string ⟨#[]⟩, .slice none 0 0] 49))); simp only [Int.natCast_add, Int.natCast_one] at hw; rw [← Hz.out, ← Hy.out] at hw; refine (Ha.out _ hw).mono ?_; rintro e w1 hP; clear hw; obtain ⟨rfl, hg⟩ := PEnd.whenBad hP rfl; clear hP))
    exact ⟨rfl, PEnd.isBad rfl (gb_trans HG.out hg)⟩
  | ok n j p =>
    have hp : p = o + 1 := Hro.out n j p rfl
    subst hp
    cases hts : Syn.takeS T s j (o + 1) with
    | bad f =>
      have Hts := hid hts
      clear hts
      go_enter Try.func148, Try.ntmps148
      go_wp2_with (first | (go_at_call 98; (have hw := (((H.out.opens (o + 1)).at (i + 1) Hj.out).below ((Below.refl _ _).alloc (Nat.le_refl _) (.cells #[.int .i64 0, .string ⟨#[]⟩, .slice none 0 0] 49))); simp only [Int.natCast_add, Int.natCast_one] at hw; rw [← Hz.out, ← Hy.out] at hw; refine (Ha.out _ hw).mono ?_; rintro e w1 hP; clear hw; obtain ⟨⟨v, rfl, gk, ck, rfl, hn⟩, hq, hg⟩ := PEnd.whenOk hP rfl; clear hP; simp only [nodeV])) | (go_at_call 95; have hb := (Below.refl w1.heap.size w1).alloc (Nat.le_refl _) (.cells #[.int .i64 n.kind, .string ⟨n.text.toArray⟩, .slice gk n.kids.len ck] 49); refine (take_calls (hq.below hb) s).mono ?_; rintro e w2 hP2; obtain ⟨rfl, hg2⟩ := PEnd.whenBad hP2 Hts.out; clear hP2))
      refine ⟨rfl, PEnd.isBad ?_ (gb_trans (gb_trans HG.out hg) (gb_trans (below_gb hb _) hg2))⟩
      simp [arndOf, Hts.out]
    | ok u j2 p2 =>
      have hp2 := take_o hts
      subst hp2
      have Hts := hid hts
      clear hts
      go_enter Try.func148, Try.ntmps148
      go_wp2_with (first | (go_at_call 98; (have hw := (((H.out.opens (o + 1)).at (i + 1) Hj.out).below ((Below.refl _ _).alloc (Nat.le_refl _) (.cells #[.int .i64 0, .string ⟨#[]⟩, .slice none 0 0] 49))); simp only [Int.natCast_add, Int.natCast_one] at hw; rw [← Hz.out, ← Hy.out] at hw; refine (Ha.out _ hw).mono ?_; rintro e w1 hP; clear hw; obtain ⟨⟨v, rfl, gk, ck, rfl, hn⟩, hq, hg⟩ := PEnd.whenOk hP rfl; clear hP; simp only [nodeV])) | (go_at_call 95; have hb := (Below.refl w1.heap.size w1).alloc (Nat.le_refl _) (.cells #[.int .i64 n.kind, .string ⟨n.text.toArray⟩, .slice gk n.kids.len ck] 49); refine (take_calls (hq.below hb) s).mono ?_; rintro e w2 hP2; obtain ⟨⟨v, rfl, rfl⟩, hq2, hg2⟩ := PEnd.whenOk hP2 Hts.out; clear hP2; (have hbw1 : bp < w1.heap.size := Nat.lt_of_lt_of_le Hlt.out (Nat.le_trans HG.out.size hg.size)); (have bk2 := (Bk.new w1 49 [.int .i64 n.kind, .string ⟨n.text.toArray⟩, .slice gk n.kids.len ck]).grown hg2 (by intro e; injection e with e; omega)); (have rb2 := ((RB.out.grown hg (by intro e; injection e with e; omega)).alloc (.cells #[.int .i64 n.kind, .string ⟨n.text.toArray⟩, .slice gk n.kids.len ck] 49)).grown hg2 (by intro e; injection e with e; omega)); (have q2 := hq2.k.cell 2); (have f2 := hq2.k.free 2); (have a0 := bk2.cell 0); (have a1 := bk2.cell 1); (have a2 := bk2.cell 2); (have r0 := rb2.cell 0); (have r1 := rb2.cell 1); (have r2 := rb2.cell 2); (have f0 := rb2.free 0); (have f1 := rb2.free 1); (have f3 := rb2.free 2); simp only [List.getElem?_cons_zero, List.getElem?_cons_succ, Int.natCast_add, Int.natCast_one] at q2 a0 a1 a2 r0 r1 r2; rw [← Hz.out] at q2; have Bk2 := hid bk2; have Rb2 := hid rb2; have Hq2 := hid hq2; have Hg := hid hg; have Hg2 := hid hg2; have Hb := hid hb; have Hn := hid hn; clear bk2 rb2 hq2 hg hg2 hb hn))
      have hne : w.heap.size ≠ bp := by have := Hlt.out; omega
      have Rb3 := (((Rb2.out.far (p := ⟨bp, 2, none⟩) hne (.int .i64 z)).set 0 (.int .i64 n.kind)).set 1 (.string ⟨n.text.toArray⟩)).set 2 (.slice gk n.kids.len ck)
      have e0 := Rb3.cell 0
      have e1 := Rb3.cell 1
      have e2 := Rb3.cell 2
      simp only [List.set_cons_zero, List.set_cons_succ, List.getElem?_cons_zero, List.getElem?_cons_succ] at e0 e1 e2
      refine bodyPost_ret (v := nodeV n gk ck) (by simp [results, Try.results148, go_sem, nodeV, e0, e1, e2]) rfl ?_
      clear q2 f2 a0 a1 a2 r0 r1 r2 f0 f1 f3 e0 e1 e2 Rb3
      refine PEnd.isOk (j := j2) (o := o) (a := n) ?_ ?_ ⟨gk, ck, rfl, ?_⟩ ?_
      · simp [arndOf, Hts.out]
      · refine gb_set ?_ (.inr (Nat.le_refl _)) _
        refine gb_set ?_ (.inr (Nat.le_refl _)) _
        refine gb_set ?_ (.inr (Nat.le_refl _)) _
        refine gb_set ?_ (.inl rfl) _
        exact gb_trans HG.out (gb_trans Hg.out (gb_trans (below_gb Hb.out _) Hg2.out))
      · have hs : (((w.setCell ⟨bp, 2, none⟩ (.int .i64 (z + 1))).setCell ⟨bp, 1, none⟩ (.int .i64 (y + 1))).alloc (.cells #[.int .i64 0, .string ⟨#[]⟩, .slice none 0 0] 49)).heap.size = w.heap.size + 1 := by simp [World.setCell]
        have hkp : Kp (fun k => k = bp ∨ k = w.heap.size) w1 w2 := ((Kp.refl _ w1).alloc _).grown Hg2.out (fun k hk _ => by injection hk with hk; exact .inl hk.symm)
        have hkp2 := (((hkp.set (p := ⟨bp, 2, none⟩) (.inl (.inl rfl)) (.int .i64 z)).set (p := ⟨w.heap.size, 0, none⟩) (.inl (.inr rfl)) (.int .i64 n.kind)).set (p := ⟨w.heap.size, 1, none⟩) (.inl (.inr rfl)) (.string ⟨n.text.toArray⟩)).set (p := ⟨w.heap.size, 2, none⟩) (.inl (.inr rfl)) (.slice gk n.kids.len ck)
        have hn2 := Hn.out
        rw [hs] at hn2
        exact (hn2.kp hkp2 (fun k hk e => by have := hk.1; have := Hlt.out; omega)).mono fun k hk => ⟨by have := hk.1; omega, Nat.lt_of_lt_of_le hk.2 hkp2.size⟩
      · have hq := Hq2.out.opens o
        rw [← Hz.out] at hq
        exact hq.kp (S := fun k => k = w.heap.size) ((((Kp.refl (fun k => k = w.heap.size) _).set (p := ⟨w.heap.size, 0, none⟩) (.inl rfl) _).set (p := ⟨w.heap.size, 1, none⟩) (.inl rfl) _).set (p := ⟨w.heap.size, 2, none⟩) (.inl rfl) _) (fun k e => by have := Hlt.out; omega)
end Go.Proofs.Ytjaampgpihicmaa
