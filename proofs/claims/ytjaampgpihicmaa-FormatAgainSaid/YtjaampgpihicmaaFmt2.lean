/- Chapter 6 (format): again: a node behind an option, a star: walks. -/
import Derived.Test.YtjaampgpihicmaaFmt1
namespace Go.Proofs.Ytjaampgpihicmaa
open Go.RowKit
attribute [local go_sem ↓] Go.wp_at_zero Go.wp_at_succ
attribute [local go_sem] frozen_alloc_lt
open Syn (Nd Nod)
open Fmt (bytesG en par sg bytes_par bytes_end)

set_option maxHeartbeats 4000000 in
set_option maxRecDepth 8000 in
theorem again_of {n : Nod} (hatom : AtomC n) (haround : AroundC n) : AgainC n := by
  intro w gk ck B b l a m c hn hw hlen
  have hag : (en n).again a m c = if n.kind = 1 ∨ n.kind = 2 ∨ n.kind = 5 ∨ n.kind = 6 then (en n).atom ++ [sg m] else par a (en n).put c := rfl
  obtain ⟨sv, hsv⟩ : ∃ sv : ByteArray, sv = ⟨#[a, m, c]⟩ := ⟨_, rfl⟩
  have es : sv.size = 3 := by rw [hsv]; rfl
  have u0 : sv[0]'(by rw [es]; decide) = a := by subst hsv; rfl
  have u1 : sv[1]'(by rw [es]; decide) = m := by subst hsv; rfl
  have u2 : sv[2]'(by rw [es]; decide) = c := by subst hsv; rfl
  rw [← hsv]
  clear hsv
  have hBw : B ≤ w.heap.size := Nat.le_trans hw.le (Nat.le_of_lt hw.lt)
  obtain ⟨kv, hkv⟩ : ∃ kv : Int, kv = n.kind := ⟨_, rfl⟩
  obtain ⟨tv, htv⟩ : ∃ tv : ByteArray, tv = ⟨n.text.toArray⟩ := ⟨_, rfl⟩
  obtain ⟨L, hL⟩ : ∃ L, L = n.kids.len := ⟨_, rfl⟩
  have hbk := Bk.new w 49 [.int .i64 kv, .string tv, .slice gk L ck]
  have hb0 : Below w.heap.size w (w.alloc (.cells #[.int .i64 kv, .string tv, .slice gk L ck] 49)) := (Below.refl _ _).alloc (Nat.le_refl _) _
  have hNV : nodeV n gk ck = .agg #[.int .i64 kv, .string tv, .slice gk L ck] := by unfold nodeV; rw [hkv, htv, hL]
  rw [hNV]
  have HN := hid hNV
  have HV := hid (And.intro hkv (And.intro htv hL))
  clear hkv htv hL hNV
  go_enter Try.func121, Try.ntmps121
  go_upto_region 1 with fail
  obtain ⟨w0, hw0⟩ : ∃ w0, w0 = w.alloc (.cells #[.int .i64 kv, .string tv, .slice gk L ck] 49) := ⟨_, rfl⟩
  obtain ⟨x, hx⟩ : ∃ x, x = w.heap.size := ⟨_, rfl⟩
  rw [← hw0] at hbk hb0 ⊢
  rw [← hx] at hbk ⊢
  have hxb : x ≠ b := by have := hw.lt; omega
  have c0 := hbk.cell 0
  have c1 := hbk.cell 1
  have c2 := hbk.cell 2
  simp only [List.getElem?_cons_zero, List.getElem?_cons_succ] at c0 c1 c2
  have H0 := hid (And.intro (hw.below hb0) (And.intro (nd_below hn (hb0.mono hBw)) (And.intro (hb0.mono hBw) (And.intro (WrKp.below (b := b) hb0) (And.intro hbk (And.intro hlen (Nat.le_trans hBw hb0.size)))))))
  clear hw hn hbk hb0 hlen hBw hw0 hx
  by_cases q1 : n.kind = 1
  · have htx : (en n).again a m c = (en n).atom ++ [sg m] := by rw [hag, if_pos (by omega)]
    have k1 : (kv == 1) = true := kb_yes HV.out.1 (by omega)
    clear hag q1
    have Hlen := hid (show l.length + (bytesG (en n).atom).length + 1 ≤ 100000000000000 by
      have := H0.out.2.2.2.2.2.1
      rw [htx, bytes_end] at this
      simpa [Nat.add_assoc] using this)
    have hcall : Calls Try.prog 122 #[.pointer (some ⟨b, 0, none⟩), .agg #[.int .i64 kv, .string tv, .slice gk L ck]] w0 (WroteV B b (l ++ bytesG (en n).atom) w0) := by
      have h := hatom w0 gk ck B b l H0.out.2.1 H0.out.1 (by have := Hlen.out; omega)
      rwa [HN.out] at h
    have Hcall := hid hcall
    clear hcall
    go_upto_region 8 with (go_at_call 122; refine Hcall.out.mono ?_; rintro e w1 ⟨rfl, hw1⟩)
    have h2 := wrByte_calls B b (l ++ bytesG (en n).atom) m w1.drew (hw1.1.below (below_drewN (Below.refl _ _) 1)) (by have := Hlen.out; simp; omega) (Nat.le_trans H0.out.2.2.2.2.2.2 hw1.2.1.size)
    have h2 := hid h2
    have H1 := hid hw1
    clear hw1
    go_region_law (go_simp; go_at_call 119; refine h2.out.mono ?_; rintro e w2 ⟨rfl, hw2⟩)
    all_goals go_wp2_with fail
    all_goals (try simp only [Exit.inBlock, Exit.then])
    all_goals refine bodyPost_end (results_none rfl _ _ _) rfl ?_
    all_goals refine ⟨rfl, ?_⟩
    all_goals rw [htx, bytes_end, ← List.append_assoc]
    all_goals exact (H1.out.trans (hw2.first (below_drewN (Below.refl _ _) 1) (WrKp.refl b w1).drew)).first H0.out.2.2.1 H0.out.2.2.2.1
  by_cases q2 : n.kind = 2
  · have htx : (en n).again a m c = (en n).atom ++ [sg m] := by rw [hag, if_pos (by omega)]
    have k1 : (kv == 1) = false := kb_no HV.out.1 (by omega)
    have k2 : (kv == 2) = true := kb_yes HV.out.1 (by omega)
    clear hag q1 q2
    have Hlen := hid (show l.length + (bytesG (en n).atom).length + 1 ≤ 100000000000000 by
      have := H0.out.2.2.2.2.2.1
      rw [htx, bytes_end] at this
      simpa [Nat.add_assoc] using this)
    have hcall : Calls Try.prog 122 #[.pointer (some ⟨b, 0, none⟩), .agg #[.int .i64 kv, .string tv, .slice gk L ck]] w0 (WroteV B b (l ++ bytesG (en n).atom) w0) := by
      have h := hatom w0 gk ck B b l H0.out.2.1 H0.out.1 (by have := Hlen.out; omega)
      rwa [HN.out] at h
    have Hcall := hid hcall
    clear hcall
    go_upto_region 8 with (go_at_call 122; refine Hcall.out.mono ?_; rintro e w1 ⟨rfl, hw1⟩)
    have h2 := wrByte_calls B b (l ++ bytesG (en n).atom) m w1.drew (hw1.1.below (below_drewN (Below.refl _ _) 1)) (by have := Hlen.out; simp; omega) (Nat.le_trans H0.out.2.2.2.2.2.2 hw1.2.1.size)
    have h2 := hid h2
    have H1 := hid hw1
    clear hw1
    go_region_law (go_simp; go_at_call 119; refine h2.out.mono ?_; rintro e w2 ⟨rfl, hw2⟩)
    all_goals go_wp2_with fail
    all_goals (try simp only [Exit.inBlock, Exit.then])
    all_goals refine bodyPost_end (results_none rfl _ _ _) rfl ?_
    all_goals refine ⟨rfl, ?_⟩
    all_goals rw [htx, bytes_end, ← List.append_assoc]
    all_goals exact (H1.out.trans (hw2.first (below_drewN (Below.refl _ _) 1) (WrKp.refl b w1).drew)).first H0.out.2.2.1 H0.out.2.2.2.1
  by_cases q5 : n.kind = 5
  · have htx : (en n).again a m c = (en n).atom ++ [sg m] := by rw [hag, if_pos (by omega)]
    have k1 : (kv == 1) = false := kb_no HV.out.1 (by omega)
    have k2 : (kv == 2) = false := kb_no HV.out.1 (by omega)
    have k5 : (kv == 5) = true := kb_yes HV.out.1 (by omega)
    clear hag q1 q2 q5
    have Hlen := hid (show l.length + (bytesG (en n).atom).length + 1 ≤ 100000000000000 by
      have := H0.out.2.2.2.2.2.1
      rw [htx, bytes_end] at this
      simpa [Nat.add_assoc] using this)
    have hcall : Calls Try.prog 122 #[.pointer (some ⟨b, 0, none⟩), .agg #[.int .i64 kv, .string tv, .slice gk L ck]] w0 (WroteV B b (l ++ bytesG (en n).atom) w0) := by
      have h := hatom w0 gk ck B b l H0.out.2.1 H0.out.1 (by have := Hlen.out; omega)
      rwa [HN.out] at h
    have Hcall := hid hcall
    clear hcall
    go_upto_region 8 with (go_at_call 122; refine Hcall.out.mono ?_; rintro e w1 ⟨rfl, hw1⟩)
    have h2 := wrByte_calls B b (l ++ bytesG (en n).atom) m w1.drew (hw1.1.below (below_drewN (Below.refl _ _) 1)) (by have := Hlen.out; simp; omega) (Nat.le_trans H0.out.2.2.2.2.2.2 hw1.2.1.size)
    have h2 := hid h2
    have H1 := hid hw1
    clear hw1
    go_region_law (go_simp; go_at_call 119; refine h2.out.mono ?_; rintro e w2 ⟨rfl, hw2⟩)
    all_goals go_wp2_with fail
    all_goals (try simp only [Exit.inBlock, Exit.then])
    all_goals refine bodyPost_end (results_none rfl _ _ _) rfl ?_
    all_goals refine ⟨rfl, ?_⟩
    all_goals rw [htx, bytes_end, ← List.append_assoc]
    all_goals exact (H1.out.trans (hw2.first (below_drewN (Below.refl _ _) 1) (WrKp.refl b w1).drew)).first H0.out.2.2.1 H0.out.2.2.2.1
  by_cases q6 : n.kind = 6
  · have htx : (en n).again a m c = (en n).atom ++ [sg m] := by rw [hag, if_pos (by omega)]
    have k1 : (kv == 1) = false := kb_no HV.out.1 (by omega)
    have k2 : (kv == 2) = false := kb_no HV.out.1 (by omega)
    have k5 : (kv == 5) = false := kb_no HV.out.1 (by omega)
    have k6 : (kv == 6) = true := kb_yes HV.out.1 (by omega)
    clear hag q1 q2 q5 q6
    have Hlen := hid (show l.length + (bytesG (en n).atom).length + 1 ≤ 100000000000000 by
      have := H0.out.2.2.2.2.2.1
      rw [htx, bytes_end] at this
      simpa [Nat.add_assoc] using this)
    have hcall : Calls Try.prog 122 #[.pointer (some ⟨b, 0, none⟩), .agg #[.int .i64 kv, .string tv, .slice gk L ck]] w0 (WroteV B b (l ++ bytesG (en n).atom) w0) := by
      have h := hatom w0 gk ck B b l H0.out.2.1 H0.out.1 (by have := Hlen.out; omega)
      rwa [HN.out] at h
    have Hcall := hid hcall
    clear hcall
    go_upto_region 8 with (go_at_call 122; refine Hcall.out.mono ?_; rintro e w1 ⟨rfl, hw1⟩)
    have h2 := wrByte_calls B b (l ++ bytesG (en n).atom) m w1.drew (hw1.1.below (below_drewN (Below.refl _ _) 1)) (by have := Hlen.out; simp; omega) (Nat.le_trans H0.out.2.2.2.2.2.2 hw1.2.1.size)
    have h2 := hid h2
    have H1 := hid hw1
    clear hw1
    go_region_law (go_simp; go_at_call 119; refine h2.out.mono ?_; rintro e w2 ⟨rfl, hw2⟩)
    all_goals go_wp2_with fail
    all_goals (try simp only [Exit.inBlock, Exit.then])
    all_goals refine bodyPost_end (results_none rfl _ _ _) rfl ?_
    all_goals refine ⟨rfl, ?_⟩
    all_goals rw [htx, bytes_end, ← List.append_assoc]
    all_goals exact (H1.out.trans (hw2.first (below_drewN (Below.refl _ _) 1) (WrKp.refl b w1).drew)).first H0.out.2.2.1 H0.out.2.2.2.1
  · have htx : (en n).again a m c = par a (en n).put c := by rw [hag, if_neg (by omega)]
    have k1 : (kv == 1) = false := kb_no HV.out.1 (by omega)
    have k2 : (kv == 2) = false := kb_no HV.out.1 (by omega)
    have k5 : (kv == 5) = false := kb_no HV.out.1 (by omega)
    have k6 : (kv == 6) = false := kb_no HV.out.1 (by omega)
    clear hag q1 q2 q5 q6
    have hcall : Calls Try.prog 123 #[.pointer (some ⟨b, 0, none⟩), .agg #[.int .i64 kv, .string tv, .slice gk L ck], .int .u8 a.toNat, .int .u8 c.toNat] w0.drew (WroteV B b (l ++ bytesG (par a (en n).put c)) w0.drew) := by
      have h := haround w0.drew gk ck B b l a c (nd_below H0.out.2.1 (below_drewN (Below.refl _ _) 1)) (H0.out.1.below (below_drewN (Below.refl _ _) 1)) (by have := H0.out.2.2.2.2.2.1; rw [htx] at this; exact this)
      rwa [HN.out] at h
    have Hcall := hid hcall
    clear hcall
    go_upto_region 2 with fail
    go_region_law (go_simp; go_at_call 123; refine Hcall.out.mono ?_; rintro e w1 ⟨rfl, hw1⟩)
    all_goals go_wp2_with fail
    all_goals (try simp only [Exit.inBlock, Exit.then])
    all_goals refine bodyPost_end (results_none rfl _ _ _) rfl ?_
    all_goals refine ⟨rfl, ?_⟩
    all_goals rw [htx]
    all_goals exact (hw1.first (below_drewN (Below.refl _ _) 1) (WrKp.refl b w0).drew).first H0.out.2.2.1 H0.out.2.2.2.1
end Go.Proofs.Ytjaampgpihicmaa
