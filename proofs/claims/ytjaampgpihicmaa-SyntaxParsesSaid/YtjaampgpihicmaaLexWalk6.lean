/- Chapter 4 (lex): escape. -/
import Derived.Test.YtjaampgpihicmaaLexWalk5
import Derived.Laws.BitsAllLaws
import Derived.Laws.BitsLemmas
namespace Go.Proofs.Ytjaampgpihicmaa
open Go.RowKit
attribute [local go_sem ↓] Go.wp_at_zero Go.wp_at_succ
attribute [local go_sem] frozen_alloc_lt

namespace Lex
inductive EscRes where
  | bad (col : Nat)
  | good (x : UInt8) (rest : List UInt8) (col : Nat)

/-- Hexadecimal digits, so many as are still to come. -/
def escH : Nat → Int → List UInt8 → Nat → EscRes
  | 0, n, l, co => .good (UInt8.ofNat n.toNat) l co
  | _ + 1, _, [], co => .bad co
  | k + 1, n, c :: r, co => if hexv c < 0 then .bad co else escH k (n * 16 + hexv c) r (co + 1)

/-- What stands behind a backslash. -/
def escS : List UInt8 → Nat → EscRes
  | [], co => .bad co
  | c :: r, co =>
    if c = 92 ∨ c = 39 ∨ c = 34 then .good c r (co + 1)
    else if c = 110 then .good 10 r (co + 1)
    else if c = 116 then .good 9 r (co + 1)
    else if c = 120 then escH 2 0 r (co + 1)
    else .bad co

theorem lit_esc (q : UInt8) (l out : List UInt8) (co : Nat) : litS q .esc l out co = match escS l co with
    | .bad k => .bad k
    | .good x r k => litS q .norm r (out ++ [x]) k := by
  cases l with
  | nil => rfl
  | cons c r =>
    simp only [litS, escS]
    by_cases h1 : c = 92 ∨ c = 39 ∨ c = 34
    · rw [if_pos h1, if_pos h1]
    rw [if_neg h1, if_neg h1]
    by_cases h2 : c = 110
    · rw [if_pos h2, if_pos h2]
    rw [if_neg h2, if_neg h2]
    by_cases h3 : c = 116
    · rw [if_pos h3, if_pos h3]
    rw [if_neg h3, if_neg h3]
    by_cases h4 : c = 120
    · rw [if_pos h4, if_pos h4]
      cases r with
      | nil => rfl
      | cons d r =>
        simp only [litS, escH]
        by_cases h5 : hexv d < 0
        · rw [if_pos h5, if_pos h5]
        rw [if_neg h5, if_neg h5]
        cases r with
        | nil => rfl
        | cons e r =>
          simp only [litS, escH]
          by_cases h6 : hexv e < 0
          · rw [if_pos h6, if_pos h6]
          rw [if_neg h6, if_neg h6]
          simp only []
          congr 4
          omega
    · rw [if_neg h4, if_neg h4]
end Lex

/-- What escape leaves. -/
def EscPost (w0 : World) (b : Nat) (s : ByteArray) (p li : Nat) (tv : Value) (f0 f1 f2 : Int) (e : Ending) (w : World) : Lex.EscRes → Prop
  | .bad k => e = .returned (.tuple #[.int .u8 0, .bool false]) ∧ ∃ q : Nat, q ≤ s.size ∧ p ≤ q ∧ k ≤ q + 1 ∧ Sc w b s q li k tv f0 f1 f2 ∧ w0.grownBy w (some b)
  | .good x rest k => e = .returned (.tuple #[.int .u8 x.toNat, .bool true]) ∧ ∃ q : Nat, rest = s.data.toList.drop q ∧ q ≤ s.size ∧ p ≤ q ∧ k ≤ q + 1 ∧ Sc w b s q li k tv f0 f1 f2 ∧ w0.grownBy w (some b)

theorem or_low (n k : Int) (h0 : 0 ≤ n) (h1 : n ≤ 15) (h2 : 0 ≤ k) (h3 : k ≤ 15) : bits .or .i64 (n * 16) k = n * 16 + k := by
  obtain ⟨a, rfl⟩ := Int.eq_ofNat_of_zero_le h0
  obtain ⟨d, rfl⟩ := Int.eq_ofNat_of_zero_le h2
  have ha : a ≤ 15 := by omega
  have hd : d ≤ 15 := by omega
  clear h0 h1 h2 h3
  have key : ∀ a : Fin 16, ∀ d : Fin 16, bits .or .i64 ((a.val : Int) * 16) (d.val : Int) = (a.val : Int) * 16 + (d.val : Int) := by decide +kernel
  exact key ⟨a, by omega⟩ ⟨d, by omega⟩

theorem quiet_add_left {P : Program} {f : FuncId} {args : Array Value} {w : World} {a n : Nat} {v : Value}
    (h : Calls P f args (w.drewN (a + n)) fun e w' => e = .returned v ∧ w.drewN (a + n) = w') :
    Calls P f args (w.drewN (a + n)) fun e w'' => e = .returned v ∧ ∃ m, w'' = w.drewN (a + m) :=
  h.mono fun _ _ ⟨he, hm⟩ => ⟨he, n, hm.symm⟩

theorem u8_back (n : Int) (h0 : 0 ≤ n) (h1 : n ≤ 255) : ((UInt8.ofNat n.toNat).toNat : Int) = n := by
  rw [UInt8.toNat_ofNat']; omega

theorem idx_hex (c : UInt8) (w : World) :
    Calls Try.prog 111 #[.string ⟨#[48, 49, 50, 51, 52, 53, 54, 55, 56, 57, 97, 98, 99, 100, 101, 102]⟩, .int .u8 c.toNat] w fun e w' => e = .returned (.int .i64 (Lex.hexv c)) ∧ w = w' :=
  (indexByte_calls ⟨#[48, 49, 50, 51, 52, 53, 54, 55, 56, 57, 97, 98, 99, 100, 101, 102]⟩ c.toNat w).mono fun e w' ⟨he, hw⟩ => ⟨by rw [he]; exact congrArg (fun z => Ending.returned (.int .i64 z)) (hex_index' c), hw⟩

/-- Within the digits of an escape. -/
def HexAt (w0 : World) (b : Nat) (s : ByteArray) (p li : Nat) (tv : Value) (f0 f1 f2 : Int) (res : Lex.EscRes) (k : Nat) (v5 v39 : Value) (w : World) : Prop :=
  ∃ (i q : Nat) (n : Int) (co : Nat), v39 = .int .i64 i ∧ v5 = .int .i64 n ∧ i ≤ 2 ∧ k = 2 - i ∧ 0 ≤ n ∧ (i = 0 → n = 0) ∧ (i = 1 → n ≤ 15) ∧ (i = 2 → n ≤ 255) ∧ q ≤ s.size ∧ p ≤ q ∧ co ≤ q + 1 ∧ Sc w b s q li co tv f0 f1 f2 ∧
    Lex.escH (2 - i) n (s.data.toList.drop q) co = res ∧ w0.grownBy w (some b)

set_option maxHeartbeats 2000000 in
theorem escape_calls (b : Nat) (w : World) (s : ByteArray) (p li co : Nat) (tv : Value) (f0 f1 f2 : Int) (h : Sc w b s p li co tv f0 f1 f2) (hp : p ≤ s.size)
    (hs : s.size ≤ 65536) (_hli : li ≤ p + 1) (hco : co ≤ p + 1) :
    Calls Try.prog 132 #[.pointer (some ⟨b, 0, none⟩)] w fun e w' => EscPost w b s p li tv f0 f1 f2 e w' (Lex.escS (s.data.toList.drop p) co) := by
  generalize hres : Lex.escS (s.data.toList.drop p) co = res
  have Hres := hid hres
  clear hres
  by_cases hlt : p < s.size
  · have hlt' : (p : Int) < (s.size : Int) := by omega
    obtain ⟨h0, h1, -⟩ := h.cells
    have hr : res = Lex.escS (s[p] :: s.data.toList.drop (p + 1)) co := by rw [← Hres.out, str_ext hlt]
    have Hr := hid hr
    clear hr Hres
    by_cases c92 : s[p] = 92
    · have hb92 := tob s[p] 92 (by omega) c92
      have Hno := hid (tobf s[p] 10 (by omega) (by rw [c92]; decide))
      have Hr2 : Hid (res = .good 92 (s.data.toList.drop (p + 1)) (co + 1)) := by have hr := Hr.out; rw [c92] at hr; exact hr
      have Hc := hid c92
      clear c92
      go_enter Try.func132, Try.ntmps132
      go_wp2_with (go_at_call 65; refine (more_yes h hlt).mono ?_; rintro e w' ⟨rfl, n1, rfl⟩)
      go_quiet (fail)
      go_wp2_with (go_at_call 108; refine (step_no b _ s p li co tv f0 f1 f2 (h.drewN _) hlt hs (by omega) Hno.out).mono ?_; rintro e w1 ⟨rfl, h', hg'⟩)
      go_ret2
      rw [Hr2.out]
      refine ⟨?_, p + 1, rfl, by omega, by omega, by omega, h', gb_trans (gb_drewN (World.grownBy.refl w _) _) hg'⟩
      first | rfl | (simp [Hc.out])
    have hb92 := tobf s[p] 92 (by omega) c92
    by_cases c39 : s[p] = 39
    · have hb39 := tob s[p] 39 (by omega) c39
      have Hno := hid (tobf s[p] 10 (by omega) (by rw [c39]; decide))
      have Hr2 : Hid (res = .good 39 (s.data.toList.drop (p + 1)) (co + 1)) := by have hr := Hr.out; rw [c39] at hr; exact hr
      have Hc := hid c39
      clear c39
      go_enter Try.func132, Try.ntmps132
      go_wp2_with (go_at_call 65; refine (more_yes h hlt).mono ?_; rintro e w' ⟨rfl, n1, rfl⟩)
      go_quiet (fail)
      go_wp2_with (go_at_call 108; refine (step_no b _ s p li co tv f0 f1 f2 (h.drewN _) hlt hs (by omega) Hno.out).mono ?_; rintro e w1 ⟨rfl, h', hg'⟩)
      go_ret2
      rw [Hr2.out]
      refine ⟨?_, p + 1, rfl, by omega, by omega, by omega, h', gb_trans (gb_drewN (World.grownBy.refl w _) _) hg'⟩
      first | rfl | (simp [Hc.out])
    have hb39 := tobf s[p] 39 (by omega) c39
    by_cases c34 : s[p] = 34
    · have hb34 := tob s[p] 34 (by omega) c34
      have Hno := hid (tobf s[p] 10 (by omega) (by rw [c34]; decide))
      have Hr2 : Hid (res = .good 34 (s.data.toList.drop (p + 1)) (co + 1)) := by have hr := Hr.out; rw [c34] at hr; exact hr
      have Hc := hid c34
      clear c34
      go_enter Try.func132, Try.ntmps132
      go_wp2_with (go_at_call 65; refine (more_yes h hlt).mono ?_; rintro e w' ⟨rfl, n1, rfl⟩)
      go_quiet (fail)
      go_wp2_with (go_at_call 108; refine (step_no b _ s p li co tv f0 f1 f2 (h.drewN _) hlt hs (by omega) Hno.out).mono ?_; rintro e w1 ⟨rfl, h', hg'⟩)
      go_ret2
      rw [Hr2.out]
      refine ⟨?_, p + 1, rfl, by omega, by omega, by omega, h', gb_trans (gb_drewN (World.grownBy.refl w _) _) hg'⟩
      first | rfl | (simp [Hc.out])
    have hb34 := tobf s[p] 34 (by omega) c34
    by_cases c110 : s[p] = 110
    · have hb110 := tob s[p] 110 (by omega) c110
      have Hno := hid (tobf s[p] 10 (by omega) (by rw [c110]; decide))
      have Hr2 : Hid (res = .good 10 (s.data.toList.drop (p + 1)) (co + 1)) := by have hr := Hr.out; rw [c110] at hr; exact hr
      have Hc := hid c110
      clear c110
      go_enter Try.func132, Try.ntmps132
      go_wp2_with (go_at_call 65; refine (more_yes h hlt).mono ?_; rintro e w' ⟨rfl, n1, rfl⟩)
      go_quiet (fail)
      go_wp2_with (go_at_call 108; refine (step_no b _ s p li co tv f0 f1 f2 (h.drewN _) hlt hs (by omega) Hno.out).mono ?_; rintro e w1 ⟨rfl, h', hg'⟩)
      go_ret2
      rw [Hr2.out]
      refine ⟨?_, p + 1, rfl, by omega, by omega, by omega, h', gb_trans (gb_drewN (World.grownBy.refl w _) _) hg'⟩
      first | rfl | (simp [Hc.out])
    have hb110 := tobf s[p] 110 (by omega) c110
    by_cases c116 : s[p] = 116
    · have hb116 := tob s[p] 116 (by omega) c116
      have Hno := hid (tobf s[p] 10 (by omega) (by rw [c116]; decide))
      have Hr2 : Hid (res = .good 9 (s.data.toList.drop (p + 1)) (co + 1)) := by have hr := Hr.out; rw [c116] at hr; exact hr
      have Hc := hid c116
      clear c116
      go_enter Try.func132, Try.ntmps132
      go_wp2_with (go_at_call 65; refine (more_yes h hlt).mono ?_; rintro e w' ⟨rfl, n1, rfl⟩)
      go_quiet (fail)
      go_wp2_with (go_at_call 108; refine (step_no b _ s p li co tv f0 f1 f2 (h.drewN _) hlt hs (by omega) Hno.out).mono ?_; rintro e w1 ⟨rfl, h', hg'⟩)
      go_ret2
      rw [Hr2.out]
      refine ⟨?_, p + 1, rfl, by omega, by omega, by omega, h', gb_trans (gb_drewN (World.grownBy.refl w _) _) hg'⟩
      first | rfl | (simp [Hc.out])
    have hb116 := tobf s[p] 116 (by omega) c116
    have Hother : Hid (s[p] ≠ 92 ∧ s[p] ≠ 39 ∧ s[p] ≠ 34 ∧ s[p] ≠ 110 ∧ s[p] ≠ 116) := ⟨c92, c39, c34, c110, c116⟩
    clear c92 c39 c34 c110 c116
    by_cases c120 : s[p] = 120
    · have hb120 := tob s[p] 120 (by omega) c120
      have Hno := hid (tobf s[p] 10 (by omega) (by rw [c120]; decide))
      have Hr2 : Hid (Lex.escH 2 0 (s.data.toList.drop (p + 1)) (co + 1) = res) := by have hr := Hr.out; rw [c120] at hr; exact hr.symm
      clear c120 Hother Hr
      go_enter Try.func132, Try.ntmps132
      go_wp2_with (go_at_call 65; refine (more_yes h hlt).mono ?_; rintro e w' ⟨rfl, n1, rfl⟩)
      go_quiet (fail)
      go_wp2_with (go_at_call 108; refine (step_no b _ s p li co tv f0 f1 f2 (h.drewN _) hlt hs (by omega) Hno.out).mono ?_; rintro e w1 ⟨rfl, h', hg'⟩)
      have hg2 := gb_trans (gb_drewN (World.grownBy.refl w (some b)) _) hg'
      clear h h0 h1 Hno hg'
      go_loopg [5, 39] 2 (fun k v5 v39 wr => HexAt w b s p li tv f0 f1 f2 res k v5 v39 wr)
      case atStart => exact ⟨0, p + 1, 0, co + 1, rfl, rfl, by omega, rfl, by omega, fun _ => rfl, fun e => by omega, fun e => by omega, by omega, by omega, by omega, h', Hr2.out, hg2⟩
      case round =>
        clear h' Hr2 hg2
        obtain ⟨i, q, n, cq, rfl, rfl, hi, hk, hn0, hn1, hn2, hn3, hq, hpq, hcq, h, htl, hg⟩ := hrel
        have Hk := hid hk
        have Htl := hid htl
        clear hk htl
        by_cases hi2 : i < 2
        · by_cases hlq : q < s.size
          · obtain ⟨h0, h1, -⟩ := h.cells
            have hlq' : (q : Int) < (s.size : Int) := by omega
            have htl := Htl.out
            rw [show 2 - i = (1 - i) + 1 by omega, str_ext hlq] at htl
            simp only [Lex.escH] at htl
            have hlo := hexZ_lo (s[q].toNat : Int)
            by_cases hx : Lex.hexv s[q] < 0
            · rw [if_pos hx] at htl
              have Hx : Hid (res = .bad cq) := htl.symm
              have hx' : Lex.hexv s[q] < 0 := hx
              clear htl hx
              go_wp2_with (go_at_call 65; refine (more_yes h hlq).mono ?_; rintro e w' ⟨rfl, n1, rfl⟩)
              go_quiet ((go_at_call 111; first | exact quiet_left (idx_hex _ _) | exact quiet_add_left (idx_hex _ _)))
              go_wp2_with fail
              go_ret2
              rw [Hx.out]
              exact ⟨rfl, q, hq, hpq, hcq, h.drewN _, gb_drewN hg _⟩
            · rw [if_neg hx] at htl
              have Hx := hid htl
              have hx0 : 0 ≤ Lex.hexv s[q] := by omega
              have hx1 : Lex.hexv s[q] ≤ 15 := hlo.2
              have Hno := hid (tobf s[q] 10 (by omega) (hexZ_ne _ hx0))
              have hn15 : n ≤ 15 := by
                rcases (show i = 0 ∨ i = 1 by omega) with e | e
                · rw [hn1 e]; omega
                · exact hn2 e
              have hor : bits .or .i64 (n * 16) (Lex.hexv s[q]) = n * 16 + Lex.hexv s[q] := or_low n _ hn0 hn15 hx0 hx1
              clear htl hx hlo
              go_wp2_with (go_at_call 65; refine (more_yes h hlq).mono ?_; rintro e w' ⟨rfl, n1, rfl⟩)
              go_quiet ((go_at_call 111; first | exact quiet_left (idx_hex _ _) | exact quiet_add_left (idx_hex _ _)))
              go_wp2_with (go_at_call 108; refine (step_no b _ s q li cq tv f0 f1 f2 (h.drewN _) hlq hs (by omega) Hno.out).mono ?_; rintro e w1 ⟨rfl, h', hg'⟩)
              have hlow : (q + 1 : Nat) ≤ s.size := by omega
              go_roundg (1 - i)
              case measure => have hk := Hk.out; omega
              case rel =>
                refine ⟨i + 1, q + 1, n * 16 + Lex.hexv s[q], cq + 1, by go_num, rfl, by omega, by omega, by omega, fun e => by omega, fun e => ?_, fun e => by omega, by omega, by omega, by omega, h', ?_, gb_trans (gb_drewN hg _) hg'⟩
                · have e0 := hn1 (by omega); omega
                · rw [show 2 - (i + 1) = 1 - i by omega]; exact Hx.out
          · have htl := Htl.out
            rw [show 2 - i = (1 - i) + 1 by omega, str_end (by omega)] at htl
            have Hx : Hid (res = .bad cq) := htl.symm
            clear htl
            go_wp2_with (go_at_call 65; refine (more_no h hlq).mono ?_; rintro e w' ⟨rfl, n1, rfl⟩)
            go_ret2
            rw [Hx.out]
            exact ⟨rfl, q, hq, hpq, hcq, h.drewN _, gb_drewN hg _⟩
        · obtain rfl : i = 2 := by omega
          have Hx : Hid (res = .good (UInt8.ofNat n.toNat) (s.data.toList.drop q) cq) := Htl.out.symm
          have hn255 := hn3 rfl
          clear Htl hn1 hn2 hn3 Hk hi2
          go_wp2
          go_ret2
          rw [Hx.out]
          refine ⟨?_, q, rfl, hq, hpq, hcq, h, hg⟩
          rw [u8_back n hn0 hn255]
          rfl
    have hb120 := tobf s[p] 120 (by omega) c120
    have Hr2 : Hid (res = .bad co) := by
      have hr := Hr.out
      have ho := Hother.out
      simp only [Lex.escS] at hr
      rw [if_neg (by simp [ho.1, ho.2.1, ho.2.2.1]), if_neg ho.2.2.2.1, if_neg ho.2.2.2.2, if_neg c120] at hr
      exact hr
    clear c120 Hother Hr
    go_enter Try.func132, Try.ntmps132
    go_wp2_with (go_at_call 65; refine (more_yes h hlt).mono ?_; rintro e w' ⟨rfl, n1, rfl⟩)
    go_quiet (fail)
    go_wp2_with fail
    go_ret2
    rw [Hr2.out]
    exact ⟨rfl, p, hp, Nat.le_refl _, hco, h.drewN _, gb_drewN (World.grownBy.refl w _) _⟩
  · have Hr2 : Hid (res = .bad co) := by have hr := Hres.out; rw [str_end (by omega)] at hr; exact hr.symm
    clear Hres
    go_enter Try.func132, Try.ntmps132
    go_wp2_with (go_at_call 65; refine (more_no h hlt).mono ?_; rintro e w' ⟨rfl, n1, rfl⟩)
    go_ret2
    rw [Hr2.out]
    exact ⟨rfl, p, hp, Nat.le_refl _, hco, h.drewN _, gb_drewN (World.grownBy.refl w _) _⟩
end Go.Proofs.Ytjaampgpihicmaa
