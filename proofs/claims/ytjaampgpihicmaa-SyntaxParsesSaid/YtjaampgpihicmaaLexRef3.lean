/- Chapter 4 (lex), the document's answer: Scan. -/
import Derived.Test.YtjaampgpihicmaaLexRef2
namespace Go.Proofs.Ytjaampgpihicmaa
open Go.RowKit
attribute [local go_sem ↓] Go.wp_at_zero Go.wp_at_succ
attribute [local go_sem] frozen_alloc_lt

namespace Lex
theorem scan_blank (c : UInt8) (r : List UInt8) (li co : Nat) (h : isBlank c = true) : scanS (c :: r) li co = scanS r (advL c li) (advC c co) := by
  rw [scanS_eq, scanS_eq]
  simp [skipS, h]
theorem skip_cm0 (r : List UInt8) (li co : Nat) : skipS false (35 :: r) li co = skipS true (35 :: r) li co := by simp [skipS, isBlank]
theorem skip_cm1 (c : UInt8) (r : List UInt8) (li co : Nat) (h : c ≠ 10) : skipS true (c :: r) li co = skipS true r (advL c li) (advC c co) := by simp [skipS, h]
theorem skip_cm2 (r : List UInt8) (li co : Nat) : skipS true (10 :: r) li co = skipS false (10 :: r) li co := by simp [skipS]
theorem skip_cm3 (li co : Nat) : skipS true [] li co = skipS false [] li co := rfl
theorem scan_skip {l l' : List UInt8} {li co li' co' : Nat} (h : skipS false l li co = skipS false l' li' co') : scanS l li co = scanS l' li' co' := by rw [scanS_eq, scanS_eq, h]
theorem scan_tok (c : UInt8) (r : List UInt8) (li co : Nat) (h : isBlank c = false) (h' : c ≠ 35) : scanS (c :: r) li co = match tokS c r li co with
    | .bad f => .bad f
    | .good t rest li'' co'' => (scanS rest li'' co'').push [t] := by
  rw [scanS_eq, skip_stop _ _ h h']
  simp only [contS]
  cases tokS c r li co <;> rfl
end Lex

def RScanPost (w0 : World) (e : Ending) (w : World) : Lex.ScanRes → Prop
  | .bad f => e = .returned (.tuple #[.slice none 0 0, .agg #[.int .i64 f.line, .int .i64 f.col, .int .i64 f.code]]) ∧ Below w0.heap.size w0 w
  | .good ts => ∃ v : Value, e = .returned (.tuple #[v, .agg #[.int .i64 0, .int .i64 0, .int .i64 0]]) ∧ w.ownsRow w0.heap.size 157 4 v ts.length (toksV ts) ∧ Below w0.heap.size w0 w

def RScanAt (W0 : World) (B : Nat) (s : ByteArray) (sr : Lex.ScanRes) (k : Nat) (v4 v5 : Value) (w : World) : Prop :=
  ∃ (p : Nat) (out : List Lex.Tok) (tv : Value), v5 = .int .i64 p ∧ tv = v4 ∧ p ≤ s.size ∧ out.length ≤ p ∧ w.ownsRow B 157 4 v4 out.length (toksV out) ∧
    (Lex.scanS (s.data.toList.drop p) (place s p).1 (place s p).2).push out = sr ∧ Below B W0 w ∧ k = s.size - p

def RCmAt (s : ByteArray) (p : Nat) (w1 : World) (k : Nat) (v5 : Value) (w : World) : Prop :=
  ∃ q : Nat, v5 = .int .i64 q ∧ p ≤ q ∧ q ≤ s.size ∧ Lex.skipS false (s.data.toList.drop p) (place s p).1 (place s p).2 = Lex.skipS true (s.data.toList.drop q) (place s q).1 (place s q).2 ∧ k = s.size - q ∧ w = w1

def RNmAt (s : ByteArray) (p : Nat) (w1 : World) (k : Nat) (v5 : Value) (w : World) : Prop :=
  ∃ q : Nat, v5 = .int .i64 q ∧ p ≤ q ∧ q ≤ s.size ∧ (s.data.toList.drop p).takeWhile Lex.isRest = (s.data.toList.drop p).take (q - p) ++ (s.data.toList.drop q).takeWhile Lex.isRest ∧
    (s.data.toList.drop p).dropWhile Lex.isRest = (s.data.toList.drop q).dropWhile Lex.isRest ∧ place s q = ((place s p).1, (place s p).2 + (q - p)) ∧ k = s.size - q ∧ w = w1

def RSgAt (c : UInt8) (w1 : World) (k : Nat) (v13 v15 : Value) (w : World) : Prop :=
  ∃ i : Nat, v15 = .int .i64 i ∧ i ≤ 13 ∧ v13 = .bool ((Lex.signs.take i).contains c) ∧ k = 13 - i ∧ w = w1

def signA : ByteArray := ⟨#[58, 124, 59, 40, 41, 91, 93, 123, 125, 42, 43, 63, 37]⟩
theorem signA_size : signA.size = 13 := rfl
theorem sign_take (c : UInt8) (i : Nat) (h : i < signA.size) : (Lex.signs.take (i + 1)).contains c = ((Lex.signs.take i).contains c || ((signA[i].toNat : Int) == (c.toNat : Int))) := by
  have h13 : i < Lex.signs.length := h
  show _ = ((Lex.signs.take i).contains c || (((Lex.signs[i]'h13).toNat : Int) == (c.toNat : Int)))
  rw [List.take_succ_eq_append_getElem h13]
  rw [Bool.eq_iff_iff]
  simp only [List.contains_append, Bool.or_eq_true, List.contains_cons, List.contains_nil, Bool.or_false, beq_iff_eq]
  constructor
  · rintro (h | rfl)
    · exact .inl h
    · exact .inr rfl
  · rintro (h | h)
    · exact .inl h
    · exact .inr (UInt8.toNat_inj.1 (by omega))

theorem rtokInfo : (Try.prog.info? 157).map (fun i => (i.zero, i.size, i.bytes)) = some (some (.agg #[.int .i64 0, .string ⟨#[]⟩, .int .i64 0, .int .i64 0]), 4, 40) := by kernel_rfl

theorem litPost_at {P : Program} {f : FuncId} {args : Array Value} {w w0 : World} {s : ByteArray} {p : Nat} {r r' : Lex.LitRes} (h : r = r')
    (hc : Calls P f args w fun e w' => RLitPost w0 s p e w' r) : Calls P f args w fun e w' => RLitPost w0 s p e w' r' := h ▸ hc

set_option maxRecDepth 8000 in
set_option maxHeartbeats 16000000 in
theorem rscan_calls (s : ByteArray) (w : World) (hs : s.size ≤ 65536) :
    Calls Try.prog 52 #[.string s] w fun e w' => RScanPost w e w' (Lex.scan s.data.toList) := by
  generalize hres : Lex.scan s.data.toList = sr
  unfold Lex.scan at hres
  have hsl : s.data.toList.length = s.size := by simp
  rw [hsl, if_neg (by omega)] at hres
  have Hres := hid hres
  clear hres hsl
  have hd : decide ((65536 : Int) < (s.size : Int)) = false := by simp; omega
  obtain ⟨i0, hi0, hz0, hz1, hz2⟩ := info_parts rtokInfo
  go_enter Try.func52, Try.ntmps52
  go_wp2_with fail
  have hbf : Bk (w.alloc (.cells #[.int .i64 0, .int .i64 0, .int .i64 0] 35)) w.heap.size 35 [.int .i64 0, .int .i64 0, .int .i64 0] := bk_new rfl
  have hbl : Below w.heap.size w (w.alloc (.cells #[.int .i64 0, .int .i64 0, .int .i64 0] 35)) := (Below.refl _ _).alloc (Nat.le_refl _) _
  obtain ⟨W0, hW0⟩ : ∃ W0, W0 = (w.alloc (.cells #[.int .i64 0, .int .i64 0, .int .i64 0] 35)) := ⟨_, rfl⟩
  have hz : W0.heap.size = w.heap.size + 1 := by rw [hW0]; simp
  rw [← hW0] at hbf hbl ⊢
  obtain ⟨B, hB⟩ : ∃ B, B = w.heap.size + 1 := ⟨_, rfl⟩
  rw [← hB] at hz
  have HB := hid hB
  clear hW0 hB
  go_loopg [4, 5] s.size (fun k v4 v5 wr => RScanAt W0 B s sr k v4 v5 wr)
  case atStart => exact ⟨0, [], _, rfl, rfl, by omega, by simp, World.ownsRow_nil _ _ _ _, by rw [Lex.push_nil, List.drop_zero]; exact Hres.out, Below.refl _ _, rfl⟩
  case round =>
    clear Hres
    obtain ⟨p, out, tv, rfl, rfl, hp, hol, hown, hpu, hbw, hk⟩ := hrel
    have Hk := hid hk
    clear hk
    have hzr : B ≤ wr.heap.size := by have := hbw.size; omega
    have kbf : Bk wr w.heap.size 35 [.int .i64 0, .int .i64 0, .int .i64 0] := hbf.below hbw (by have := HB.out; omega)
    have hbel : Below w.heap.size w wr := hbl.trans (hbw.mono (by have := HB.out; omega))
    have hrow : ∀ k, tv.ownBlock = some k → B ≤ k := fun k e => (hown.lt k e).1
    have hnf : tv.ownBlock ≠ some w.heap.size := fun e => by have := hrow _ e; have := HB.out; omega
    have Hrow := hid hrow
    have Hnf := hid hnf
    clear hrow hnf
    have c0 := kbf.cell 0
    have c1 := kbf.cell 1
    have c2 := kbf.cell 2
    have f0 := kbf.free 0
    have f1 := kbf.free 1
    have f2 := kbf.free 2
    simp only [List.getElem?_cons_zero, List.getElem?_cons_succ] at c0 c1 c2
    have hpl := place_le s p
    by_cases hlt : p < s.size
    · have hlt' : (p : Int) < (s.size : Int) := by omega
      rw [str_ext hlt] at hpu
      have hc255 : (s[p].toNat : Int) ≤ 255 := by have := s[p].toNat_lt; omega
      have Hpn := hid (place_next s p hlt)
      by_cases hbk : Lex.isBlank s[p] = true
      · rw [Lex.scan_blank _ _ _ _ hbk] at hpu
        have Hpu := hid hpu
        have hcs : ((s[p].toNat : Int) == 32) = true ∨ (((s[p].toNat : Int) == 32) = false ∧ ((s[p].toNat : Int) == 9) = true) ∨ (((s[p].toNat : Int) == 32) = false ∧ ((s[p].toNat : Int) == 9) = false ∧ ((s[p].toNat : Int) == 10) = true) ∨ (((s[p].toNat : Int) == 32) = false ∧ ((s[p].toNat : Int) == 9) = false ∧ ((s[p].toNat : Int) == 10) = false ∧ ((s[p].toNat : Int) == 13) = true) := by
          simp only [Lex.isBlank, Bool.or_eq_true, beq_iff_eq] at hbk
          rcases hbk with ((h | h) | h) | h
          · left; exact tob _ 32 (by omega) h
          · right; left; rw [h]; decide
          · right; right; left; rw [h]; decide
          · right; right; right; rw [h]; decide
        clear hpu hbk
        obtain ⟨li, hli⟩ : ∃ li, li = (place s p).1 := ⟨_, rfl⟩
        obtain ⟨co, hco⟩ : ∃ co, co = (place s p).2 := ⟨_, rfl⟩
        rcases hcs with e1 | ⟨e1, e2⟩ | ⟨e1, e2, e3⟩ | ⟨e1, e2, e3, e4⟩
        all_goals
          go_wp2_with (go_at_call 99; refine (place_calls s p _ (by omega) (by omega)).mono ?_; rintro e w' ⟨rfl, rfl⟩)
          go_roundg (s.size - (p + 1))
          case measure => have hk := Hk.out; omega
          case rel => exact ⟨p + 1, out, _, by go_num, rfl, by omega, by omega, hown, by rw [Hpn.out]; exact Hpu.out, hbw, rfl⟩
      have hbk' : Lex.isBlank s[p] = false := Bool.eq_false_iff.2 hbk
      have hcs : ((s[p].toNat : Int) == 32) = false ∧ ((s[p].toNat : Int) == 9) = false ∧ ((s[p].toNat : Int) == 10) = false ∧ ((s[p].toNat : Int) == 13) = false := by
        have hb2 := hbk'
        simp only [Lex.isBlank, Bool.or_eq_false_iff, beq_eq_false_iff_ne] at hb2
        exact ⟨tobf _ 32 (by omega) hb2.1.1.1, tobf _ 9 (by omega) hb2.1.1.2, tobf _ 10 (by omega) hb2.1.2, tobf _ 13 (by omega) hb2.2⟩
      obtain ⟨e1, e2, e3, e4⟩ := hcs
      clear hbk
      by_cases c35 : s[p] = 35
      · have e5 : ((s[p].toNat : Int) == 35) = true := tob _ 35 (by omega) c35
        have Hpu : Hid ((Lex.scanS (s.data.toList.drop p) (place s p).1 (place s p).2).push out = sr) := by rw [← str_ext hlt] at hpu; exact hpu
        have Hcm : Hid (Lex.skipS false (s.data.toList.drop p) (place s p).1 (place s p).2 = Lex.skipS true (s.data.toList.drop p) (place s p).1 (place s p).2) := by
          show _ = _
          rw [str_ext hlt, c35]; exact Lex.skip_cm0 _ _ _
        have Hc := hid c35
        clear hpu hbk' c35
        go_wp2_with (go_at_call 99; refine (place_calls s p _ (by omega) (by omega)).mono ?_; rintro e w' ⟨rfl, rfl⟩)
        go_loopg [5] (s.size - p) (fun k v5 w2 => RCmAt s p wr k v5 w2)
        case atStart => exact ⟨p, rfl, by omega, by omega, Hcm.out, rfl, rfl⟩
        case round =>
          clear Hcm e1 e2 e3 e4 e5 Hpn
          obtain ⟨q, rfl, hpq, hq, hsk, hkk, rfl⟩ := hrel
          have Hsk := hid hsk
          have Hkk := hid hkk
          clear hsk hkk
          by_cases hlq : q < s.size
          · have hlq' : (q : Int) < (s.size : Int) := by omega
            by_cases c10 : s[q] = 10
            · have e6 : ((s[q].toNat : Int) == 10) = true := tob _ 10 (by omega) c10
              have Hend : Hid (Lex.skipS false (s.data.toList.drop p) (place s p).1 (place s p).2 = Lex.skipS false (s.data.toList.drop q) (place s q).1 (place s q).2) := by
                show _ = _
                rw [Hsk.out, str_ext hlq, c10]; exact Lex.skip_cm2 _ _ _
              have hne : p ≠ q := by intro e; subst e; rw [Hc.out] at c10; exact absurd c10 (by decide)
              clear c10
              go_wp2_with fail
              go_roundg (s.size - q)
              case measure => have hk := Hk.out; omega
              case rel => exact ⟨q, out, _, rfl, rfl, hq, by omega, hown, by rw [← Lex.scan_skip Hend.out]; exact Hpu.out, hbw, rfl⟩
            · have e6 : ((s[q].toNat : Int) == 10) = false := tobf _ 10 (by omega) c10
              have Hst : Hid (Lex.skipS false (s.data.toList.drop p) (place s p).1 (place s p).2 = Lex.skipS true (s.data.toList.drop (q + 1)) (place s (q + 1)).1 (place s (q + 1)).2) := by
                show _ = _
                rw [Hsk.out, str_ext hlq, place_next s q hlq]; exact Lex.skip_cm1 _ _ _ _ c10
              clear c10
              go_wp2_with fail
              go_roundg (s.size - (q + 1))
              case measure => have hk := Hkk.out; omega
              case rel => exact ⟨q + 1, by go_num, by omega, by omega, Hst.out, rfl, rfl⟩
          · have hnq : ¬ (q : Int) < (s.size : Int) := by omega
            have Hend : Hid (Lex.skipS false (s.data.toList.drop p) (place s p).1 (place s p).2 = Lex.skipS false (s.data.toList.drop q) (place s q).1 (place s q).2) := by
              show _ = _
              rw [Hsk.out, str_end (by omega)]; rfl
            go_wp2_with fail
            go_roundg (s.size - q)
            case measure => have hk := Hk.out; omega
            case rel => exact ⟨q, out, _, rfl, rfl, hq, by omega, hown, by rw [← Lex.scan_skip Hend.out]; exact Hpu.out, hbw, rfl⟩
      have e5 : ((s[p].toNat : Int) == 35) = false := tobf _ 35 (by omega) c35
      rw [Lex.scan_tok _ _ _ _ hbk' c35] at hpu
      have hne10 : s[p] ≠ 10 := by rintro e; rw [e] at hbk'; exact absurd hbk' (by decide)
      clear hbk' c35
      by_cases hl : Lex.isLetter s[p] = true
      · have hl' : Lex.letterZ (s[p].toNat : Int) = true := hl
        have Hpu := hid hpu
        have Hl := hid hl
        clear hpu hl
        go_wp2_with (first | (go_at_call 99; refine (place_calls s p _ (by omega) (by omega)).mono ?_; rintro e w' ⟨rfl, rfl⟩) | (go_at_call 100; refine (rletter_calls _ _).mono ?_; rintro e w' ⟨rfl, rfl⟩))
        go_loopg [5] (s.size - p) (fun k v5 w2 => RNmAt s p wr k v5 w2)
        case atStart => exact ⟨p, rfl, by omega, by omega, by simp, rfl, by simp, rfl, rfl⟩
        case round =>
          clear e1 e2 e3 e4 e5 Hpn hne10
          obtain ⟨q, rfl, hpq, hq, htk, hdr, hpq2, hkk, rfl⟩ := hrel
          have Htk := hid htk
          have Hdr := hid hdr
          have Hpq2 := hid hpq2
          have Hkk := hid hkk
          clear htk hdr hkk hpq2
          by_cases hgo : ∃ h : q < s.size, Lex.isRest s[q] = true
          · obtain ⟨hlq, hr⟩ := hgo
            have hlq' : (q : Int) < (s.size : Int) := by omega
            have hr' : Lex.restZ (s[q].toNat : Int) = true := hr
            have Hr := hid hr
            clear hr
            go_wp2_with (go_at_call 101; refine (rest_calls _ _).mono ?_; rintro e w' ⟨rfl, rfl⟩)
            go_roundg (s.size - (q + 1))
            case measure => have hk := Hkk.out; omega
            case rel =>
              refine ⟨q + 1, by go_num, by omega, by omega, ?_, ?_, ?_, rfl, rfl⟩
              · rw [Htk.out, take_step s p q hpq hlq, str_ext hlq, List.takeWhile_cons, if_pos Hr.out]; simp
              · rw [Hdr.out, str_ext hlq, List.dropWhile_cons, if_pos Hr.out]
              · have ha := adv_rest s[q] (place s p).1 ((place s p).2 + (q - p)) Hr.out
                rw [place_next s q hlq, Hpq2.out, ha.1, ha.2, show q + 1 - p = q - p + 1 by omega]; rfl
          · have Hfin : Hid ((s.data.toList.drop q).takeWhile Lex.isRest = [] ∧ (s.data.toList.drop q).dropWhile Lex.isRest = s.data.toList.drop q) := by
              by_cases hlq : q < s.size
              · have hr : ¬ Lex.isRest s[q] = true := fun h => hgo ⟨hlq, h⟩
                rw [str_ext hlq, List.takeWhile_cons, List.dropWhile_cons, if_neg hr, if_neg hr]; exact ⟨rfl, rfl⟩
              · rw [str_end (by omega)]; exact ⟨rfl, rfl⟩
            have hne : p ≠ q := by
              intro e; subst e
              exact hgo ⟨hlt, Lex.isRest_of_letter Hl.out⟩
            have hcs : ¬ (q : Int) < (s.size : Int) ∨ (∃ h : q < s.size, (q : Int) < (s.size : Int) ∧ Lex.restZ (s[q].toNat : Int) = false) := by
              by_cases hlq : q < s.size
              · right; exact ⟨hlq, by omega, Bool.eq_false_iff.2 (fun h => hgo ⟨hlq, h⟩)⟩
              · left; omega
            have Htk2 : Hid ((s.data.toList.drop p).takeWhile Lex.isRest = (s.data.toList.drop p).take (q - p)) := by show _ = _; rw [Htk.out, Hfin.out.1, List.append_nil]
            have Hlen : Hid (((s.data.toList.drop p).take (q - p)).length = q - p) := by show _ = _; rw [List.length_take]; simp; omega
            have Hdr2 : Hid ((s.data.toList.drop p).dropWhile Lex.isRest = s.data.toList.drop q) := by show _ = _; rw [Hdr.out, Hfin.out.2]
            have hpu := Hpu.out
            unfold Lex.tokS at hpu
            rw [if_pos Hl.out, ← str_ext hlt, Htk2.out, Hlen.out, Hdr2.out] at hpu
            clear hgo Hpu
            have hq0 : (0 : Int) ≤ (p : Int) := by omega
            have hq1 : (p : Int) ≤ (q : Int) := by omega
            have hq2 : (q : Int) ≤ (s.size : Int) := by omega
            by_cases hL : 32 < q - p
            · rw [if_pos hL] at hpu
              have Hpu : Hid (sr = .bad ⟨(place s p).1, (place s p).2, 6⟩) := hpu.symm
              have hd32 : (32 : Int) < (q : Int) - (p : Int) := by omega
              clear hpu hL
              rcases hcs with hq3 | ⟨hlq, hq3, hr'⟩
              all_goals
                go_wp2_with (go_at_call 101; refine (rest_calls _ _).mono ?_; rintro e w' ⟨rfl, rfl⟩)
                rw [Hpu.out]
                have kf3 : Bk (((wr.setCell ⟨w.heap.size, 0, none⟩ (.int .i64 (place s p).1)).setCell ⟨w.heap.size, 1, none⟩ (.int .i64 (place s p).2)).setCell ⟨w.heap.size, 2, none⟩ (.int .i64 6)) w.heap.size 35 [.int .i64 (place s p).1, .int .i64 (place s p).2, .int .i64 6] := ((kbf.set 0 _).set 1 _).set 2 _
                have hb3 : Below w.heap.size w (((wr.setCell ⟨w.heap.size, 0, none⟩ (.int .i64 (place s p).1)).setCell ⟨w.heap.size, 1, none⟩ (.int .i64 (place s p).2)).setCell ⟨w.heap.size, 2, none⟩ (.int .i64 6)) := (((hbel).setCell (p := ⟨w.heap.size, 0, none⟩) (Nat.le_refl _) _).setCell (p := ⟨w.heap.size, 1, none⟩) (Nat.le_refl _) _).setCell (p := ⟨w.heap.size, 2, none⟩) (Nat.le_refl _) _
                obtain ⟨wz, hwz⟩ : ∃ wz, wz = ((wr.setCell ⟨w.heap.size, 0, none⟩ (.int .i64 (place s p).1)).setCell ⟨w.heap.size, 1, none⟩ (.int .i64 (place s p).2)).setCell ⟨w.heap.size, 2, none⟩ (.int .i64 6) := ⟨_, rfl⟩
                rw [← hwz] at kf3 hb3 ⊢
                have d0 := kf3.cell 0
                have d1 := kf3.cell 1
                have d2 := kf3.cell 2
                exact bodyPost_ret (v := .tuple #[.slice none 0 0, .agg #[.int .i64 (place s p).1, .int .i64 (place s p).2, .int .i64 6]]) (by simp [results, Try.results52, go_sem, d0, d1, d2]) rfl ⟨rfl, hb3⟩
            · rw [if_neg hL] at hpu
              have Hpu : Hid ((Lex.scanS (s.data.toList.drop q) (place s p).1 ((place s p).2 + (q - p))).push (out ++ [⟨1, (s.data.toList.drop p).take (q - p), (place s p).1, (place s p).2⟩]) = sr) := by
                rw [← Lex.push_push]; exact hpu
              have hd32 : ¬ (32 : Int) < (q : Int) - (p : Int) := by omega
              clear hpu hL
              rcases hcs with hq3 | ⟨hlq, hq3, hr'⟩
              all_goals
                go_wp2_with (first | (go_at_call 101; refine (rest_calls _ _).mono ?_; rintro e w' ⟨rfl, rfl⟩) | (at_builtin; refine wpList_append_lies _ rfl _ _ _ rfl B 157 i0 _ 4 40 Try.underlying103 hi0 hz0 hz1 hz2 rfl (by omega) _ out.length (toksV out) rfl (hown.alloc _) ⟨wr.heap.size, 0, none⟩ 1 1 [.int .i64 1, .string (s.extract p q), .int .i64 (place s p).1, .int .i64 (place s p).2] rfl rfl (World.news_of_block (cs := #[.int .i64 1, .string (s.extract p q), .int .i64 (place s p).1, .int .i64 (place s p).2]) (t := 157) (fr := (0, 0)) (heap_alloc_new _ _)) (by simp [Value.oneCell']) (by omega) (by unfold maxLen; omega) (by omega) (by simp; omega) (wr.heap.size + 1) (by simp) ?_; intro gg cap w2 hown2 hgrow hat hlt2))
                go_roundg (s.size - q)
                case measure => have hk := Hk.out; omega
                case rel =>
                  refine ⟨q, out ++ [⟨1, (s.data.toList.drop p).take (q - p), (place s p).1, (place s p).2⟩], _, rfl, rfl, hq, by simp; omega, ?_, ?_, hbw.trans (below_of_gb' (gb_below ((Below.refl _ _).alloc (Nat.le_refl _) _) hgrow) hzr Hrow.out), rfl⟩
                  · rw [toksV_snoc, List.length_append]
                    rw [extract_list] at hown2
                    exact hown2
                  · rw [Hpq2.out]; exact Hpu.out
      have hl' : Lex.letterZ (s[p].toNat : Int) = false := Bool.eq_false_iff.2 hl
      by_cases hqt : s[p] = 39 ∨ s[p] = 34
      · unfold Lex.tokS at hpu
        rw [if_neg hl, if_pos hqt] at hpu
        have hcs : ((s[p].toNat : Int) == 39) = true ∨ (((s[p].toNat : Int) == 39) = false ∧ ((s[p].toNat : Int) == 34) = true) := by
          rcases hqt with h | h
          · left; rw [h]; decide
          · right; rw [h]; decide
        generalize hlr : Lex.litS s[p] .norm (s.data.toList.drop (p + 1)) [] ((place s p).2 + 1) = lr at hpu
        have Hlr := hid hlr
        have Hne := hid hne10
        clear hl hqt hlr hne10
        cases lr with
        | bad k =>
          have Hpu : Hid (sr = .bad ⟨(place s p).1, k, 2⟩) := hpu.symm
          clear hpu
          rcases hcs with e6 | ⟨e6, e7⟩
          all_goals
            go_wp2_with (first | (go_at_call 99; refine (place_calls s p _ (by omega) (by omega)).mono ?_; rintro e w' ⟨rfl, rfl⟩) | (go_at_call 100; refine (rletter_calls _ _).mono ?_; rintro e w' ⟨rfl, rfl⟩) | (go_at_call 102; refine (litPost_at Hlr.out (rlit_calls s p _ hs hlt Hne.out)).mono ?_; rintro e w2 ⟨q, hq, hqp, rfl, hb2⟩; have Hqp := hid hqp; clear hqp) | (go_at_call 103; refine (rfault_calls s q 2 _ (by omega) (by omega)).mono ?_; rintro e w3 ⟨rfl, hb3⟩; have kf := (kbf.below hb2 kbf.lt).below hb3 (kbf.below hb2 kbf.lt).lt; have c0 := kf.cell 0; have c1 := kf.cell 1; have c2 := kf.cell 2; have f0 := kf.free 0; have f1 := kf.free 1; have f2 := kf.free 2; rw [Hqp.out]))
            have hbel3 : Below w.heap.size w w3 := hbel.trans ((hb2.mono hbel.size).trans (hb3.mono (Nat.le_trans hbel.size hb2.size)))
            rw [Hpu.out]
            have kf3 : Bk (((w3.setCell ⟨w.heap.size, 0, none⟩ (.int .i64 (place s p).1)).setCell ⟨w.heap.size, 1, none⟩ (.int .i64 k)).setCell ⟨w.heap.size, 2, none⟩ (.int .i64 2)) w.heap.size 35 [.int .i64 (place s p).1, .int .i64 k, .int .i64 2] := ((kf.set 0 _).set 1 _).set 2 _
            have hb3 : Below w.heap.size w (((w3.setCell ⟨w.heap.size, 0, none⟩ (.int .i64 (place s p).1)).setCell ⟨w.heap.size, 1, none⟩ (.int .i64 k)).setCell ⟨w.heap.size, 2, none⟩ (.int .i64 2)) := (((hbel3).setCell (p := ⟨w.heap.size, 0, none⟩) (Nat.le_refl _) _).setCell (p := ⟨w.heap.size, 1, none⟩) (Nat.le_refl _) _).setCell (p := ⟨w.heap.size, 2, none⟩) (Nat.le_refl _) _
            obtain ⟨wz, hwz⟩ : ∃ wz, wz = ((w3.setCell ⟨w.heap.size, 0, none⟩ (.int .i64 (place s p).1)).setCell ⟨w.heap.size, 1, none⟩ (.int .i64 k)).setCell ⟨w.heap.size, 2, none⟩ (.int .i64 2) := ⟨_, rfl⟩
            rw [← hwz] at kf3 hb3 ⊢
            have d0 := kf3.cell 0
            have d1 := kf3.cell 1
            have d2 := kf3.cell 2
            exact bodyPost_ret (v := .tuple #[.slice none 0 0, .agg #[.int .i64 (place s p).1, .int .i64 k, .int .i64 2]]) (by simp [results, Try.results52, go_sem, d0, d1, d2]) rfl ⟨rfl, hb3⟩
        | good o rest k =>
          have ho : (⟨o.toArray⟩ : ByteArray).size = o.length := by simp [ByteArray.size]
          have htl : (⟨o.toArray⟩ : ByteArray).toList = o := by rw [Lib.toList_data]
          obtain ⟨t, ht⟩ : ∃ t : ByteArray, t = ⟨o.toArray⟩ := ⟨_, rfl⟩
          rw [← ht] at ho htl
          have Ht := hid ht
          have Ho := hid ho
          clear ht ho
          by_cases he : o = []
          · have em : t.toList.isEmpty = true := by rw [htl, he]; rfl
            have em' : t.toList = [] := by rw [htl, he]
            simp only [] at hpu
            rw [if_pos he] at hpu
            have Hpu : Hid (sr = .bad ⟨(place s p).1, (place s p).2, 2⟩) := hpu.symm
            clear hpu he htl
            rcases hcs with e6 | ⟨e6, e7⟩
            all_goals
              go_wp2_with (first | (go_at_call 99; refine (place_calls s p _ (by omega) (by omega)).mono ?_; rintro e w' ⟨rfl, rfl⟩) | (go_at_call 100; refine (rletter_calls _ _).mono ?_; rintro e w' ⟨rfl, rfl⟩) | (go_at_call 102; refine (litPost_at Hlr.out (rlit_calls s p _ hs hlt Hne.out)).mono ?_; rintro e w2 ⟨q, hq, hpq, hrest, hqp, rfl, hb2⟩; have Hqp := hid hqp; have Hrest := hid hrest; clear hqp hrest; rw [← Ht.out]; have kf := kbf.below hb2 kbf.lt; have c0 := kf.cell 0; have c1 := kf.cell 1; have c2 := kf.cell 2; have f0 := kf.free 0; have f1 := kf.free 1; have f2 := kf.free 2))
              have hbel3 : Below w.heap.size w w2 := hbel.trans (hb2.mono hbel.size)
              rw [Hpu.out]
              have kf3 : Bk (((w2.setCell ⟨w.heap.size, 0, none⟩ (.int .i64 (place s p).1)).setCell ⟨w.heap.size, 1, none⟩ (.int .i64 (place s p).2)).setCell ⟨w.heap.size, 2, none⟩ (.int .i64 2)) w.heap.size 35 [.int .i64 (place s p).1, .int .i64 (place s p).2, .int .i64 2] := ((kf.set 0 _).set 1 _).set 2 _
              have hb3 : Below w.heap.size w (((w2.setCell ⟨w.heap.size, 0, none⟩ (.int .i64 (place s p).1)).setCell ⟨w.heap.size, 1, none⟩ (.int .i64 (place s p).2)).setCell ⟨w.heap.size, 2, none⟩ (.int .i64 2)) := (((hbel3).setCell (p := ⟨w.heap.size, 0, none⟩) (Nat.le_refl _) _).setCell (p := ⟨w.heap.size, 1, none⟩) (Nat.le_refl _) _).setCell (p := ⟨w.heap.size, 2, none⟩) (Nat.le_refl _) _
              obtain ⟨wz, hwz⟩ : ∃ wz, wz = ((w2.setCell ⟨w.heap.size, 0, none⟩ (.int .i64 (place s p).1)).setCell ⟨w.heap.size, 1, none⟩ (.int .i64 (place s p).2)).setCell ⟨w.heap.size, 2, none⟩ (.int .i64 2) := ⟨_, rfl⟩
              rw [← hwz] at kf3 hb3 ⊢
              have d0 := kf3.cell 0
              have d1 := kf3.cell 1
              have d2 := kf3.cell 2
              exact bodyPost_ret (v := .tuple #[.slice none 0 0, .agg #[.int .i64 (place s p).1, .int .i64 (place s p).2, .int .i64 2]]) (by simp [results, Try.results52, go_sem, d0, d1, d2]) rfl ⟨rfl, hb3⟩
          · have em : t.toList.isEmpty = false := by
              rw [htl]
              cases o with
              | nil => exact absurd rfl he
              | cons => rfl
            simp only [] at hpu
            rw [if_neg he] at hpu
            by_cases hL : 16 < o.length
            · rw [if_pos hL] at hpu
              have Hpu : Hid (sr = .bad ⟨(place s p).1, (place s p).2, 6⟩) := hpu.symm
              have hd16 : (16 : Int) < (t.size : Int) := by rw [Ho.out]; omega
              clear hpu he htl hL
              rcases hcs with e6 | ⟨e6, e7⟩
              all_goals
                go_wp2_with (first | (go_at_call 99; refine (place_calls s p _ (by omega) (by omega)).mono ?_; rintro e w' ⟨rfl, rfl⟩) | (go_at_call 100; refine (rletter_calls _ _).mono ?_; rintro e w' ⟨rfl, rfl⟩) | (go_at_call 102; refine (litPost_at Hlr.out (rlit_calls s p _ hs hlt Hne.out)).mono ?_; rintro e w2 ⟨q, hq, hpq, hrest, hqp, rfl, hb2⟩; have Hqp := hid hqp; have Hrest := hid hrest; clear hqp hrest; rw [← Ht.out]; have kf := kbf.below hb2 kbf.lt; have c0 := kf.cell 0; have c1 := kf.cell 1; have c2 := kf.cell 2; have f0 := kf.free 0; have f1 := kf.free 1; have f2 := kf.free 2))
                have hbel3 : Below w.heap.size w w2 := hbel.trans (hb2.mono hbel.size)
                rw [Hpu.out]
                have kf3 : Bk (((w2.setCell ⟨w.heap.size, 0, none⟩ (.int .i64 (place s p).1)).setCell ⟨w.heap.size, 1, none⟩ (.int .i64 (place s p).2)).setCell ⟨w.heap.size, 2, none⟩ (.int .i64 6)) w.heap.size 35 [.int .i64 (place s p).1, .int .i64 (place s p).2, .int .i64 6] := ((kf.set 0 _).set 1 _).set 2 _
                have hb3 : Below w.heap.size w (((w2.setCell ⟨w.heap.size, 0, none⟩ (.int .i64 (place s p).1)).setCell ⟨w.heap.size, 1, none⟩ (.int .i64 (place s p).2)).setCell ⟨w.heap.size, 2, none⟩ (.int .i64 6)) := (((hbel3).setCell (p := ⟨w.heap.size, 0, none⟩) (Nat.le_refl _) _).setCell (p := ⟨w.heap.size, 1, none⟩) (Nat.le_refl _) _).setCell (p := ⟨w.heap.size, 2, none⟩) (Nat.le_refl _) _
                obtain ⟨wz, hwz⟩ : ∃ wz, wz = ((w2.setCell ⟨w.heap.size, 0, none⟩ (.int .i64 (place s p).1)).setCell ⟨w.heap.size, 1, none⟩ (.int .i64 (place s p).2)).setCell ⟨w.heap.size, 2, none⟩ (.int .i64 6) := ⟨_, rfl⟩
                rw [← hwz] at kf3 hb3 ⊢
                have d0 := kf3.cell 0
                have d1 := kf3.cell 1
                have d2 := kf3.cell 2
                exact bodyPost_ret (v := .tuple #[.slice none 0 0, .agg #[.int .i64 (place s p).1, .int .i64 (place s p).2, .int .i64 6]]) (by simp [results, Try.results52, go_sem, d0, d1, d2]) rfl ⟨rfl, hb3⟩
            · rw [if_neg hL] at hpu
              have Hpu : Hid ((Lex.scanS rest (place s p).1 k).push (out ++ [⟨2, o, (place s p).1, (place s p).2⟩]) = sr) := by
                rw [← Lex.push_push]; exact hpu
              have hd16 : ¬ (16 : Int) < (t.size : Int) := by rw [Ho.out]; omega
              clear hpu he htl hL
              rcases hcs with e6 | ⟨e6, e7⟩
              all_goals
                go_wp2_with (first | (go_at_call 99; refine (place_calls s p _ (by omega) (by omega)).mono ?_; rintro e w' ⟨rfl, rfl⟩) | (go_at_call 100; refine (rletter_calls _ _).mono ?_; rintro e w' ⟨rfl, rfl⟩) | (go_at_call 102; refine (litPost_at Hlr.out (rlit_calls s p _ hs hlt Hne.out)).mono ?_; rintro e w1 ⟨q, hq, hpq, hrest, hqp, rfl, hb2⟩; have Hqp := hid hqp; have Hrest := hid hrest; clear hqp hrest; rw [← Ht.out]; have hown1 := own_below hown hb2; have hzr1 := Nat.le_trans hzr hb2.size) | (at_builtin; refine wpList_append_lies _ rfl _ _ _ rfl B 157 i0 _ 4 40 Try.underlying103 hi0 hz0 hz1 hz2 rfl (by omega) _ out.length (toksV out) rfl (hown1.alloc _) ⟨w1.heap.size, 0, none⟩ 1 1 [.int .i64 2, .string t, .int .i64 (place s p).1, .int .i64 (place s p).2] rfl rfl (World.news_of_block (cs := #[.int .i64 2, .string t, .int .i64 (place s p).1, .int .i64 (place s p).2]) (t := 157) (fr := (0, 0)) (heap_alloc_new _ _)) (by simp [Value.oneCell']) (by omega) (by unfold maxLen; omega) (by omega) (by simp; omega) (w1.heap.size + 1) (by simp) ?_; intro gg cap w2 hown2 hgrow hat hlt2))
                go_roundg (s.size - q)
                case measure => have hk := Hk.out; omega
                case rel =>
                  refine ⟨q, out ++ [⟨2, o, (place s p).1, (place s p).2⟩], _, rfl, rfl, hq, by simp; omega, ?_, ?_, (hbw.trans (hb2.mono hzr)).trans (below_of_gb' (gb_below ((Below.refl _ _).alloc (Nat.le_refl _) _) hgrow) hzr1 Hrow.out), rfl⟩
                  · rw [toksV_snoc, List.length_append]
                    rw [Ht.out] at hown2
                    exact hown2
                  · rw [Hqp.out, ← Hrest.out]; exact Hpu.out
      have e6 : ((s[p].toNat : Int) == 39) = false := tobf _ 39 (by omega) (fun h => hqt (.inl h))
      have e7 : ((s[p].toNat : Int) == 34) = false := tobf _ 34 (by omega) (fun h => hqt (.inr h))
      unfold Lex.tokS at hpu
      rw [if_neg hl, if_neg hqt] at hpu
      have Hpu := hid hpu
      have Hne := hid hne10
      clear hpu hl hqt hne10
      go_wp2_with (first | (go_at_call 99; refine (place_calls s p _ (by omega) (by omega)).mono ?_; rintro e w' ⟨rfl, rfl⟩) | (go_at_call 100; refine (rletter_calls _ _).mono ?_; rintro e w' ⟨rfl, rfl⟩))
      obtain ⟨al, hal⟩ : ∃ al : ByteArray, al = signA := ⟨_, rfl⟩
      have hals : al.size = 13 := by rw [hal]; rfl
      have hal' : (⟨#[58, 124, 59, 40, 41, 91, 93, 123, 125, 42, 43, 63, 37]⟩ : ByteArray) = al := hal.symm
      rw [hal']
      clear hal'
      go_loopg [13, 15] 13 (fun k v13 v15 w2 => RSgAt s[p] wr k v13 v15 w2)
      case atStart => exact ⟨0, rfl, by omega, rfl, rfl, rfl⟩
      case round =>
        clear e1 e2 e3 e4 e5 e6 e7
        obtain ⟨i, rfl, hi, rfl, hkk, rfl⟩ := hrel
        have Hkk := hid hkk
        clear hkk
        by_cases hi2 : i < 13
        · have hi3 : i < al.size := by omega
          have hi2' : (i : Int) < (al.size : Int) := by omega
          have Hst := hid (sign_take s[p] i (show i < signA.size from hi2))
          have hai : al[i] = signA[i]'(show i < signA.size from hi2) := by subst hal; rfl
          have Hai := hid hai
          clear hai
          cases hb : (Lex.signs.take i).contains s[p] with
          | true =>
            have Hb := hid hb
            clear hb
            go_wp2_with fail
            go_roundg (13 - (i + 1))
            case measure => have hk := Hkk.out; omega
            case rel => exact ⟨i + 1, by go_num, by omega, by rw [Hst.out, Hb.out]; rfl, rfl, rfl⟩
          | false =>
            have Hb := hid hb
            clear hb
            go_wp2_with fail
            go_roundg (13 - (i + 1))
            case measure => have hk := Hkk.out; omega
            case rel => exact ⟨i + 1, by go_num, by omega, by rw [Hst.out, Hb.out, ← Hai.out]; rfl, rfl, rfl⟩
        · have hi3 : ¬ (i : Int) < (al.size : Int) := by omega
          have hsg : (Lex.signs.take i).contains s[p] = Lex.isSign s[p] := by rw [show i = 13 by omega]; rfl
          rw [hsg]
          have hpu := Hpu.out
          clear Hpu hsg
          cases hb : Lex.isSign s[p] with
          | true =>
            rw [hb] at hpu
            have Hpu : Hid ((Lex.scanS (s.data.toList.drop (p + 1)) (place s p).1 ((place s p).2 + 1)).push (out ++ [⟨3, [s[p]], (place s p).1, (place s p).2⟩]) = sr) := by
              rw [← Lex.push_push]; exact hpu
            have hq0 : (0 : Int) ≤ (p : Int) := by omega
            have hq1 : (p : Int) ≤ (p : Int) + 1 := by omega
            have hq2 : (p : Int) + 1 ≤ (s.size : Int) := by omega
            have Hx : Hid (s.extract p (p + 1) = ⟨[s[p]].toArray⟩) := by show _ = _; rw [extract_list, str_ext hlt, show p + 1 - p = 1 by omega]; rfl
            clear hpu hb
            go_wp2_with (at_builtin; refine wpList_append_lies _ rfl _ _ _ rfl B 157 i0 _ 4 40 Try.underlying103 hi0 hz0 hz1 hz2 rfl (by omega) _ out.length (toksV out) rfl (hown.alloc _) ⟨wr.heap.size, 0, none⟩ 1 1 [.int .i64 3, .string (s.extract p (p + 1)), .int .i64 (place s p).1, .int .i64 (place s p).2] rfl rfl (World.news_of_block (cs := #[.int .i64 3, .string (s.extract p (p + 1)), .int .i64 (place s p).1, .int .i64 (place s p).2]) (t := 157) (fr := (0, 0)) (heap_alloc_new _ _)) (by simp [Value.oneCell']) (by omega) (by unfold maxLen; omega) (by omega) (by simp; omega) (wr.heap.size + 1) (by simp) ?_; intro gg cap w2 hown2 hgrow hat hlt2)
            go_roundg (s.size - (p + 1))
            case measure => have hk := Hk.out; omega
            case rel =>
              refine ⟨p + 1, out ++ [⟨3, [s[p]], (place s p).1, (place s p).2⟩], _, by go_num, rfl, by omega, by simp; omega, ?_, ?_, hbw.trans (below_of_gb' (gb_below ((Below.refl _ _).alloc (Nat.le_refl _) _) hgrow) hzr Hrow.out), rfl⟩
              · rw [toksV_snoc, List.length_append]
                rw [Hx.out] at hown2
                exact hown2
              · rw [Hpn.out]; simp only [Lex.advL, Lex.advC, if_neg Hne.out]; exact Hpu.out
          | false =>
            rw [hb] at hpu
            have Hpu : Hid (sr = .bad ⟨(place s p).1, (place s p).2, 2⟩) := hpu.symm
            clear hpu hb
            go_wp2_with fail
            rw [Hpu.out]
            have kf3 : Bk (((wr.setCell ⟨w.heap.size, 0, none⟩ (.int .i64 (place s p).1)).setCell ⟨w.heap.size, 1, none⟩ (.int .i64 (place s p).2)).setCell ⟨w.heap.size, 2, none⟩ (.int .i64 2)) w.heap.size 35 [.int .i64 (place s p).1, .int .i64 (place s p).2, .int .i64 2] := ((kbf.set 0 _).set 1 _).set 2 _
            have hb3 : Below w.heap.size w (((wr.setCell ⟨w.heap.size, 0, none⟩ (.int .i64 (place s p).1)).setCell ⟨w.heap.size, 1, none⟩ (.int .i64 (place s p).2)).setCell ⟨w.heap.size, 2, none⟩ (.int .i64 2)) := (((hbel).setCell (p := ⟨w.heap.size, 0, none⟩) (Nat.le_refl _) _).setCell (p := ⟨w.heap.size, 1, none⟩) (Nat.le_refl _) _).setCell (p := ⟨w.heap.size, 2, none⟩) (Nat.le_refl _) _
            obtain ⟨wz, hwz⟩ : ∃ wz, wz = ((wr.setCell ⟨w.heap.size, 0, none⟩ (.int .i64 (place s p).1)).setCell ⟨w.heap.size, 1, none⟩ (.int .i64 (place s p).2)).setCell ⟨w.heap.size, 2, none⟩ (.int .i64 2) := ⟨_, rfl⟩
            rw [← hwz] at kf3 hb3 ⊢
            have d0 := kf3.cell 0
            have d1 := kf3.cell 1
            have d2 := kf3.cell 2
            exact bodyPost_ret (v := .tuple #[.slice none 0 0, .agg #[.int .i64 (place s p).1, .int .i64 (place s p).2, .int .i64 2]]) (by simp [results, Try.results52, go_sem, d0, d1, d2]) rfl ⟨rfl, hb3⟩
    · have hge : ¬ (p : Int) < (s.size : Int) := by omega
      obtain rfl : p = s.size := by omega
      rw [str_end (by omega), Lex.scanS_eq] at hpu
      have Hpu : Hid (sr = .good (out ++ [⟨4, [], (place s s.size).1, (place s s.size).2⟩])) := hpu.symm
      clear hpu
      go_wp2_with (first | (go_at_call 99; refine (place_calls s s.size _ (by omega) (Nat.le_refl _)).mono ?_; rintro e w' ⟨rfl, rfl⟩) | (at_builtin; refine wpList_append_lies _ rfl _ _ _ rfl B 157 i0 _ 4 40 Try.underlying103 hi0 hz0 hz1 hz2 rfl (by omega) _ out.length (toksV out) rfl (hown.alloc _) ⟨wr.heap.size, 0, none⟩ 1 1 [.int .i64 4, .string ⟨#[]⟩, .int .i64 (place s s.size).1, .int .i64 (place s s.size).2] rfl rfl (World.news_of_block (cs := #[.int .i64 4, .string ⟨#[]⟩, .int .i64 (place s s.size).1, .int .i64 (place s s.size).2]) (t := 157) (fr := (0, 0)) (heap_alloc_new _ _)) (by simp [Value.oneCell']) (by omega) (by unfold maxLen; omega) (by omega) (by simp; omega) (wr.heap.size + 1) (by simp) ?_; intro gg cap w2 hown2 hgrow hat hlt2; have kf := Bk.grown (kbf.alloc _) hgrow (Ne.symm Hnf.out); have c0 := kf.cell 0; have c1 := kf.cell 1; have c2 := kf.cell 2; have f0 := kf.free 0; have f1 := kf.free 1; have f2 := kf.free 2))
      have hbl2 : Below w.heap.size w w2 := hbel.trans ((below_of_gb' (gb_below ((Below.refl _ _).alloc (Nat.le_refl _) _) hgrow) hzr Hrow.out).mono (by have := HB.out; omega))
      have hbl3 := ((hbl2.setCell (p := ⟨w.heap.size, 0, none⟩) (Nat.le_refl _) (.int .i64 0)).setCell (p := ⟨w.heap.size, 1, none⟩) (Nat.le_refl _) (.int .i64 0)).setCell (p := ⟨w.heap.size, 2, none⟩) (Nat.le_refl _) (.int .i64 0)
      have hne3 : ∀ i : Nat, (Value.slice (some ⟨gg, 0, none⟩) (out.length + 1) cap).ownBlock ≠ some (⟨w.heap.size, i, none⟩ : Addr).block := fun i e => by have := (hown2.lt _ e).1; have := HB.out; simp only at *; omega
      have hown4 := own_set (own_set (own_set hown2 (hne3 0) (.int .i64 0)) (hne3 1) (.int .i64 0)) (hne3 2) (.int .i64 0)
      have kf3 := ((kf.set 0 (.int .i64 0)).set 1 (.int .i64 0)).set 2 (.int .i64 0)
      obtain ⟨wz, hwz⟩ : ∃ wz, wz = ((w2.setCell ⟨w.heap.size, 0, none⟩ (.int .i64 0)).setCell ⟨w.heap.size, 1, none⟩ (.int .i64 0)).setCell ⟨w.heap.size, 2, none⟩ (.int .i64 0) := ⟨_, rfl⟩
      rw [← hwz] at kf3 hbl3 hown4 ⊢
      have d0 := kf3.cell 0
      have d1 := kf3.cell 1
      have d2 := kf3.cell 2
      simp only [List.set_cons_zero, List.set_cons_succ, List.getElem?_cons_zero, List.getElem?_cons_succ] at d0 d1 d2
      rw [Hpu.out]
      refine bodyPost_ret (v := .tuple #[.slice (some ⟨gg, 0, none⟩) (out.length + 1) cap, .agg #[.int .i64 0, .int .i64 0, .int .i64 0]]) (by simp [results, Try.results52, go_sem, d0, d1, d2]) rfl ⟨_, rfl, ?_, hbl3⟩
      rw [toksV_snoc, List.length_append]
      exact own_mono hown4 (by have := HB.out; omega)
end Go.Proofs.Ytjaampgpihicmaa
