/- Chapter 4 (lex): Scan. -/
import Derived.Test.YtjaampgpihicmaaLexWalk8
namespace Go.Proofs.Ytjaampgpihicmaa
open Go.RowKit
attribute [local go_sem ↓] Go.wp_at_zero Go.wp_at_succ
attribute [local go_sem] frozen_alloc_lt

def toksV (ts : List Lex.Tok) : List Value := ts.flatMap tokV

/-- What Scan leaves. -/
def ScanPost (w0 : World) (e : Ending) (w : World) : Lex.ScanRes → Prop
  | .bad f => e = .returned (.tuple #[.slice none 0 0, .agg #[.int .i64 f.line, .int .i64 f.col, .int .i64 f.code]]) ∧ Below w0.heap.size w0 w
  | .good ts => ∃ v : Value, e = .returned (.tuple #[v, .agg #[.int .i64 0, .int .i64 0, .int .i64 0]]) ∧ w.ownsRow w0.heap.size 46 4 v ts.length (toksV ts) ∧ Below w0.heap.size w0 w

/-- At the head of Scan's loop: what is to be passed over has been. -/
def ScanAt (W0 : World) (B b : Nat) (s : ByteArray) (sr : Lex.ScanRes) (k : Nat) (w : World) : Prop :=
  ∃ (p li co : Nat) (tv : Value) (out : List Lex.Tok), Sc w b s p li co tv 0 0 0 ∧ p ≤ s.size ∧ li ≤ p + 1 ∧ co ≤ p + 1 ∧ out.length ≤ p ∧ w.ownsRow B 46 4 tv out.length (toksV out) ∧
    (Lex.contS (s.data.toList.drop p) li co).push out = sr ∧ Below B W0 w ∧ k = s.size - p

theorem tok_eats {s : ByteArray} {p q li co li' co' : Nat} {t : Lex.Tok} (hp : p < s.size) (hq : q ≤ s.size) (h : Lex.tokS s[p] (s.data.toList.drop (p + 1)) li co = .good t (s.data.toList.drop q) li' co') : p < q := by
  have := Lex.tokS_len h
  simp only [List.length_drop, Array.length_toList] at this
  have hz : s.data.size = s.size := rfl
  omega

theorem skip_eats {s : ByteArray} {p q li co li' co' : Nat} (hp : p ≤ s.size) (hq : q ≤ s.size) (h : (s.data.toList.drop q, li', co') = Lex.skipS false (s.data.toList.drop p) li co) : p ≤ q := by
  have := Lex.skipS_len false (s.data.toList.drop p) li co
  rw [← h] at this
  simp only [List.length_drop, Array.length_toList] at this
  have hz : s.data.size = s.size := rfl
  omega

theorem toksV_snoc (out : List Lex.Tok) (t : Lex.Tok) : toksV (out ++ [t]) = toksV out ++ tokV t := by simp [toksV]

theorem tokPost_at {P : Program} {f : FuncId} {args : Array Value} {w w0 : World} {base b : Nat} {s : ByteArray} {f0 f1 f2 : Int} {n : Nat} {xs : List Value} {r r' : Lex.TokRes} (h : r = r')
    (hc : Calls P f args w fun e w' => TokPost w0 base b s f0 f1 f2 n xs e w' r) : Calls P f args w fun e w' => TokPost w0 base b s f0 f1 f2 n xs e w' r' := h ▸ hc

theorem end_block (wr : World) (li co : Nat) : ((((wr.alloc (.cells #[.int .i64 4, .string ⟨#[]⟩, .int .i64 li, .int .i64 co] 46)).alloc (.cells #[.int .i64 4, .string ⟨#[]⟩, .int .i64 li, .int .i64 co] 46)).drew).drew).heap[wr.heap.size + 1]? =
    some (.cells #[.int .i64 4, .string ⟨#[]⟩, .int .i64 li, .int .i64 co] 46 (0, 0)) := by
  have h : Bk ((((wr.alloc (.cells #[.int .i64 4, .string ⟨#[]⟩, .int .i64 li, .int .i64 co] 46)).alloc (.cells #[.int .i64 4, .string ⟨#[]⟩, .int .i64 li, .int .i64 co] 46)).drew).drew) (wr.heap.size + 1) 46 [.int .i64 4, .string ⟨#[]⟩, .int .i64 li, .int .i64 co] := Bk.drew (Bk.drew (bk_new (by simp)))
  exact h

set_option maxRecDepth 8000 in
set_option maxHeartbeats 4000000 in
theorem scan_calls (s : ByteArray) (w : World) (hmax : s.size ≤ 9223372036854775807) :
    Calls Try.prog 20 #[.string s] w fun e w' => ScanPost w e w' (Lex.scan s.data.toList) := by
  generalize hres : Lex.scan s.data.toList = sr
  unfold Lex.scan at hres
  have hsl : s.data.toList.length = s.size := by simp
  rw [hsl] at hres
  by_cases hs : 65536 < s.size
  · rw [if_pos hs] at hres
    have Hres := hid hres
    clear hres hsl
    have hd : decide ((65536 : Int) < (s.size : Int)) = true := by simp; omega
    go_enter Try.func20, Try.ntmps20
    go_wp2_with fail
    rw [← Hres.out]
    exact bodyPost_ret (v := .tuple #[.slice none 0 0, .agg #[.int .i64 0, .int .i64 0, .int .i64 6]]) (by simp [results, Try.results20, go_sem]) rfl ⟨rfl, (Below.refl _ _).alloc (Nat.le_refl _) _⟩
  · rw [if_neg hs] at hres
    have Hres := hid hres
    clear hres hsl
    have hd : decide ((65536 : Int) < (s.size : Int)) = false := by simp; omega
    have hs' : s.size ≤ 65536 := by omega
    go_enter Try.func20, Try.ntmps20
    go_wp2_with fail
    have hsc : Sc ((w.alloc (.cells #[.int .i64 0, .int .i64 0, .int .i64 0] 28)).alloc (.cells #[.string s, .int .i64 0, .int .i64 1, .int .i64 1, .slice none 0 0, .int .i64 0, .int .i64 0, .int .i64 0] 122)) (w.heap.size + 1) s 0 1 1 (.slice none 0 0) 0 0 0 := bk_new (by simp)
    have hbf : Bk ((w.alloc (.cells #[.int .i64 0, .int .i64 0, .int .i64 0] 28)).alloc (.cells #[.string s, .int .i64 0, .int .i64 1, .int .i64 1, .slice none 0 0, .int .i64 0, .int .i64 0, .int .i64 0] 122)) w.heap.size 28 [.int .i64 0, .int .i64 0, .int .i64 0] := Bk.alloc (bk_new rfl) _
    have hbl : Below w.heap.size w ((w.alloc (.cells #[.int .i64 0, .int .i64 0, .int .i64 0] 28)).alloc (.cells #[.string s, .int .i64 0, .int .i64 1, .int .i64 1, .slice none 0 0, .int .i64 0, .int .i64 0, .int .i64 0] 122)) := ((Below.refl _ _).alloc (Nat.le_refl _) _).alloc (by simp) _
    obtain ⟨W0, hW0⟩ : ∃ W0, W0 = ((w.alloc (.cells #[.int .i64 0, .int .i64 0, .int .i64 0] 28)).alloc (.cells #[.string s, .int .i64 0, .int .i64 1, .int .i64 1, .slice none 0 0, .int .i64 0, .int .i64 0, .int .i64 0] 122)) := ⟨_, rfl⟩
    rw [← hW0] at hsc hbf hbl ⊢
    have hz0 : w.heap.size + 1 < W0.heap.size := hsc.lt
    obtain ⟨B, hB⟩ : ∃ B, B = w.heap.size + 1 := ⟨_, rfl⟩
    rw [← hB] at hsc hz0 ⊢
    have HB := hid hB
    clear hW0 hB
    go_wp2_with (go_at_call 64; refine (skip_calls B _ s 0 1 1 _ 0 0 0 hsc (by omega) hs' (by omega) (by omega)).mono ?_; rintro e w1 ⟨rfl, p, li, co, k1, hp, hli, hco, hsk, hg1⟩)
    have hst : ScanAt W0 B B s sr (s.size - p) w1 := by
      refine ⟨p, li, co, _, [], k1, hp, hli, hco, by simp, World.ownsRow_nil _ _ _ _, ?_, below_of_gb' hg1 (by omega) (fun k hk => by cases hk; exact Nat.le_refl _), rfl⟩
      rw [Lex.push_nil, ← Hres.out, Lex.scanS_eq]
      rw [List.drop_zero] at hsk
      rw [← hsk]
    clear k1 hsk hg1 hp hli hco Hres hsc
    go_loopg [] (s.size - p) (fun k wr => ScanAt W0 B B s sr k wr)
    case atStart => exact hst
    case round =>
      clear hst
      obtain ⟨p, li, co, tv, out, h, hp, hli, hco, hol, hown, hpu, hbw, hk⟩ := hrel
      have Hpu := hid hpu
      have Hk := hid hk
      clear hpu hk
      have hz : B ≤ wr.heap.size := by have := hbw.size; omega
      have kbf : Bk wr w.heap.size 28 [.int .i64 0, .int .i64 0, .int .i64 0] := hbf.below hbw (by have := HB.out; omega)
      by_cases hlt : p < s.size
      · have hpu := Hpu.out
        rw [str_ext hlt] at hpu
        simp only [Lex.contS] at hpu
        clear Hpu
        generalize htr : Lex.tokS s[p] (s.data.toList.drop (p + 1)) li co = tr at hpu
        have Htr := hid htr
        cases tr with
        | bad f =>
          have Hpu : Hid (sr = .bad f) := hpu.symm
          clear hpu htr
          go_wp2_with (first | (go_at_call 65; refine (more_yes h hlt).mono ?_; rintro e w' ⟨rfl, n1, rfl⟩) | (go_at_call 66; refine (tokPost_at Htr.out (token_calls B B _ s p li co tv 0 0 0 out.length (toksV out) (Bk.drewN h _) hlt hs' hli hco (own_drewN hown _) hz (Nat.le_refl _) (by omega))).mono ?_; rintro e w2 ⟨rfl, ⟨p2, li2, co2, tv2, h2⟩, hb2⟩))
          have kbf2 := (kbf.drewN n1).below hb2 (by have := HB.out; omega)
          obtain ⟨-, -, -, -, -, h5, h6, h7⟩ := h2.cells
          have c0 := kbf2.cell 0
          have c1 := kbf2.cell 1
          have c2 := kbf2.cell 2
          have f0 := kbf2.free 0
          have f1 := kbf2.free 1
          have f2 := kbf2.free 2
          go_region
          go_wp2_with fail
          rw [Hpu.out]
          have kf : Bk (((w2.setCell ⟨w.heap.size, 0, none⟩ (.int .i64 f.line)).setCell ⟨w.heap.size, 1, none⟩ (.int .i64 f.col)).setCell ⟨w.heap.size, 2, none⟩ (.int .i64 f.code)).drew w.heap.size 28 [.int .i64 f.line, .int .i64 f.col, .int .i64 f.code] := Bk.drew (((kbf2.set 0 _).set 1 _).set 2 _)
          have hbl2 : Below w.heap.size w w2 := hbl.trans ((hbw.trans ((below_drewN (Below.refl _ _) n1).trans hb2)).mono (by have := HB.out; omega))
          have hbl3 := (((hbl2.setCell (p := ⟨w.heap.size, 0, none⟩) (Nat.le_refl _) (.int .i64 f.line)).setCell (p := ⟨w.heap.size, 1, none⟩) (Nat.le_refl _) (.int .i64 f.col)).setCell (p := ⟨w.heap.size, 2, none⟩) (Nat.le_refl _) (.int .i64 f.code)).drew
          obtain ⟨wz, hwz⟩ : ∃ wz, wz = (((w2.setCell ⟨w.heap.size, 0, none⟩ (.int .i64 f.line)).setCell ⟨w.heap.size, 1, none⟩ (.int .i64 f.col)).setCell ⟨w.heap.size, 2, none⟩ (.int .i64 f.code)).drew := ⟨_, rfl⟩
          rw [← hwz] at kf hbl3 ⊢
          have d0 := kf.cell 0
          have d1 := kf.cell 1
          have d2 := kf.cell 2
          exact bodyPost_ret (v := .tuple #[.slice none 0 0, .agg #[.int .i64 f.line, .int .i64 f.col, .int .i64 f.code]]) (by simp [results, Try.results20, go_sem, d0, d1, d2]) rfl ⟨rfl, hbl3⟩
        | good t rest li2 co2 =>
          have Hpu := hid hpu
          clear hpu htr
          go_wp2_with (first | (go_at_call 65; refine (more_yes h hlt).mono ?_; rintro e w' ⟨rfl, n1, rfl⟩) | (go_at_call 66; refine (tokPost_at Htr.out (token_calls B B _ s p li co tv 0 0 0 out.length (toksV out) (Bk.drewN h _) hlt hs' hli hco (own_drewN hown _) hz (Nat.le_refl _) (by omega))).mono ?_; rintro e w2 ⟨rfl, p2, tv2, hre, hp2, hl2, hc2, h2, hown2, hb2⟩; have Hre := hid hre; clear hre) | (go_at_call 64; refine (skip_calls B _ s p2 li2 co2 _ 0 0 0 h2 hp2 hs' hl2 hc2).mono ?_; rintro e w3 ⟨rfl, p3, li3, co3, h3, hp3, hl3, hc3, hsk, hg3⟩; have Hsk := hid hsk; clear hsk))
          have htr2 := Htr.out
          rw [Hre.out] at htr2
          have hlt2 := tok_eats hlt hp2 htr2
          have hlt3 := skip_eats hp2 hp3 Hsk.out
          have hbB : Bk w2 B 122 _ := h2
          go_roundg (s.size - p3)
          case measure => have hk := Hk.out; omega
          case rel =>
            refine ⟨p3, li3, co3, tv2, out ++ [t], h3, hp3, hl3, hc3, by simp; omega, ?_, ?_, (hbw.trans ((below_drewN (Below.refl _ _) n1).trans hb2)).trans (below_of_gb' hg3 (Nat.le_trans hz hb2.size) (fun k hk => by cases hk; exact Nat.le_refl _)), rfl⟩
            · rw [toksV_snoc, List.length_append]
              exact own_gb hown2 hg3 (fun k hk => by cases hk; exact hbB.own_ne hown2 (by decide))
            · rw [← Hpu.out, Hre.out, Lex.scanS_eq, ← Hsk.out, Lex.push_push]
      · have hpu := Hpu.out
        rw [str_end (by omega)] at hpu
        have Hpu : Hid (sr = .good (out ++ [⟨4, [], li, co⟩])) := hpu.symm
        clear hpu Hk
        obtain ⟨i0, hi0, hz0, hz1, hz2⟩ := info_parts tokInfo
        go_wp2_with (go_at_call 65; refine (more_no h hlt).mono ?_; rintro e w' ⟨rfl, n1, rfl⟩)
        replace h : Sc (wr.drewN n1) B s p li co tv 0 0 0 := Bk.drewN h _
        replace hown : (wr.drewN n1).ownsRow B 46 4 tv out.length (toksV out) := own_drewN hown _
        replace kbf := kbf.drewN n1
        replace hbw := below_drewN hbw n1
        replace hz : B ≤ (wr.drewN n1).heap.size := hz
        obtain ⟨wx, hwx⟩ : ∃ wx, wx = wr.drewN n1 := ⟨_, rfl⟩
        rw [← hwx] at h hown kbf hbw hz ⊢
        clear hwx
        have ltb : B < wx.heap.size := h.lt
        have hbB : Bk wx B 122 _ := h
        have hnb2 : tv.ownBlock ≠ some B := hbB.own_ne hown (by decide)
        have hnf : tv.ownBlock ≠ some w.heap.size := fun e => by have := (hown.lt _ e).1; have := HB.out; omega
        obtain ⟨-, -, h2, h3, h4, -⟩ := h.cells
        have hm1 := World.new_ne wx _ h4
        go_region_law (first | ((refine step_append_lies _ (by rfl) _ _ _ (by rfl) B 46 i0 _ 4 40 Try.underlying42 hi0 hz0 hz1 hz2 rfl (by omega) tv out.length (toksV out) (by rfl) (((hown).alloc _).alloc _) ⟨wx.heap.size + 1, 0, none⟩ 1 1 [.int .i64 4, .string ⟨#[]⟩, .int .i64 li, .int .i64 co] (by rfl) (by rfl) (World.news_of_block (cs := #[.int .i64 4, .string ⟨#[]⟩, .int .i64 li, .int .i64 co]) (t := 46) (fr := (0, 0)) (end_block wx li co)) (by simp [Value.oneCell']) (by omega) (by unfold maxLen; omega) (by omega) (by simp; omega) (wx.heap.size + 2) (by simp) ?_); (intro gg cap w2 hown3 hgrow hat hlt9; have kf2 : Bk w2 w.heap.size 28 [.int .i64 0, .int .i64 0, .int .i64 0] := Bk.grown (by first | exact ((kbf).alloc _).alloc _ | exact Bk.drew (((kbf).alloc _).alloc _) | exact Bk.drew (Bk.drew (((kbf).alloc _).alloc _))) hgrow (Ne.symm hnf); have c0 := kf2.cell 0; have c1 := kf2.cell 1; have c2 := kf2.cell 2; have f0 := kf2.free 0; have f1 := kf2.free 1; have f2 := kf2.free 2)) | (go_simp; go_at_call 67; refine (here_exact B _ 4 li co ?_ ?_).mono ?_; (simp [*]); (simp [*]); rintro e w' ⟨rfl, rfl⟩))
        all_goals
          go_wp2_with fail
          have hgx : wx.grownBy w2 tv.ownBlock := gb_below ((((Below.refl _ _).alloc (Nat.le_refl _) _).alloc (by simp) _).drew.drew) hgrow
          have hbl2 : Below w.heap.size w w2 := hbl.trans ((hbw.trans (below_of_gb' hgx hz (fun k e => (hown.lt k e).1))).mono (by have := HB.out; omega))
          have hbl3 := ((hbl2.setCell (p := ⟨w.heap.size, 0, none⟩) (Nat.le_refl _) (.int .i64 0)).setCell (p := ⟨w.heap.size, 1, none⟩) (Nat.le_refl _) (.int .i64 0)).setCell (p := ⟨w.heap.size, 2, none⟩) (Nat.le_refl _) (.int .i64 0)
          have hne3 : ∀ i : Nat, (Value.slice (some ⟨gg, 0, none⟩) (out.length + 1) cap).ownBlock ≠ some (⟨w.heap.size, i, none⟩ : Addr).block := fun i e => by have := (hown3.lt _ e).1; have := HB.out; simp only at *; omega
          have hown4 := own_set (own_set (own_set hown3 (hne3 0) (.int .i64 0)) (hne3 1) (.int .i64 0)) (hne3 2) (.int .i64 0)
          have kf := ((kf2.set 0 (.int .i64 0)).set 1 (.int .i64 0)).set 2 (.int .i64 0)
          obtain ⟨wz, hwz⟩ : ∃ wz, wz = ((w2.setCell ⟨w.heap.size, 0, none⟩ (.int .i64 0)).setCell ⟨w.heap.size, 1, none⟩ (.int .i64 0)).setCell ⟨w.heap.size, 2, none⟩ (.int .i64 0) := ⟨_, rfl⟩
          rw [← hwz] at kf hbl3 hown4 ⊢
          have d0 := kf.cell 0
          have d1 := kf.cell 1
          have d2 := kf.cell 2
          simp only [List.set_cons_zero, List.set_cons_succ, List.getElem?_cons_zero, List.getElem?_cons_succ] at d0 d1 d2
          rw [Hpu.out]
          refine bodyPost_ret (v := .tuple #[.slice (some ⟨gg, 0, none⟩) (out.length + 1) cap, .agg #[.int .i64 0, .int .i64 0, .int .i64 0]]) (by simp [results, Try.results20, go_sem, d0, d1, d2]) rfl ⟨_, rfl, ?_, hbl3⟩
          rw [toksV_snoc, List.length_append]
          exact own_mono hown4 (by have := HB.out; omega)
end Go.Proofs.Ytjaampgpihicmaa
