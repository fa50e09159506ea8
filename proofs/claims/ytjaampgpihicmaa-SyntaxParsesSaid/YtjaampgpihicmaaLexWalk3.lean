/- Chapter 4 (lex): skip. -/
import Derived.Test.YtjaampgpihicmaaLexWalk2
import Derived.Deep.LoopGhost
namespace Go.Proofs.Ytjaampgpihicmaa
open Go.RowKit
attribute [local go_sem ↓] Go.wp_at_zero Go.wp_at_succ
attribute [local go_sem] frozen_alloc_lt

section
variable {b : Nat} {w : World} {s : ByteArray} {p li co : Nat} {tv : Value} {f0 f1 f2 : Int}
theorem more_yes (h : Sc w b s p li co tv f0 f1 f2) (hlt : p < s.size) :
    Calls Try.prog 65 #[.pointer (some ⟨b, 0, none⟩)] w fun e w' => e = .returned (.bool true) ∧ ∃ n, w' = w.drewN n :=
  (more_calls b w s p li co tv f0 f1 f2 h).mono fun e w' ⟨he, hn⟩ => ⟨by simpa [hlt] using he, hn⟩
theorem more_no (h : Sc w b s p li co tv f0 f1 f2) (hlt : ¬ p < s.size) :
    Calls Try.prog 65 #[.pointer (some ⟨b, 0, none⟩)] w fun e w' => e = .returned (.bool false) ∧ ∃ n, w' = w.drewN n :=
  (more_calls b w s p li co tv f0 f1 f2 h).mono fun e w' ⟨he, hn⟩ => ⟨by simpa [hlt] using he, hn⟩

theorem skip_quit : Lex.skipS true [] li co = Lex.skipS false [] li co := rfl
theorem skip_nl (r : List UInt8) : Lex.skipS true (10 :: r) li co = Lex.skipS false (10 :: r) li co := by simp [Lex.skipS, Lex.isBlank]
theorem skip_cm (c : UInt8) (r : List UInt8) (h : c ≠ 10) : Lex.skipS true (c :: r) li co = Lex.skipS true r (Lex.advL c li) (Lex.advC c co) := by simp [Lex.skipS, h]
theorem skip_hash (r : List UInt8) : Lex.skipS false (35 :: r) li co = Lex.skipS true (35 :: r) li co := by simp [Lex.skipS, Lex.isBlank]
theorem skip_blank (c : UInt8) (r : List UInt8) (h : Lex.isBlank c = true) : Lex.skipS false (c :: r) li co = Lex.skipS false r (Lex.advL c li) (Lex.advC c co) := by simp [Lex.skipS, h]
theorem skip_stop (c : UInt8) (r : List UInt8) (h : Lex.isBlank c = false) (h' : c ≠ 35) : Lex.skipS false (c :: r) li co = (c :: r, li, co) := by simp [Lex.skipS, h, h']

/-- Where the scanner stands, seen from the place to which it will skip. -/
def SkipAt (w0 : World) (b : Nat) (s : ByteArray) (tv : Value) (f0 f1 f2 : Int) (cm : Bool) (tgt : List UInt8 × Nat × Nat) (k : Nat) (w : World) : Prop :=
  ∃ p li co : Nat, Sc w b s p li co tv f0 f1 f2 ∧ p ≤ s.size ∧ li ≤ p + 1 ∧ co ≤ p + 1 ∧ Lex.skipS cm (s.data.toList.drop p) li co = tgt ∧ w0.grownBy w (some b) ∧ k = s.size - p

/-- .. within a comment that begins at place p0. -/
def CommAt (w0 : World) (b : Nat) (s : ByteArray) (tv : Value) (f0 f1 f2 : Int) (p0 : Nat) (tgt : List UInt8 × Nat × Nat) (k : Nat) (w : World) : Prop :=
  ∃ p li co : Nat, Sc w b s p li co tv f0 f1 f2 ∧ p ≤ s.size ∧ p0 ≤ p ∧ li ≤ p + 1 ∧ co ≤ p + 1 ∧ Lex.skipS true (s.data.toList.drop p) li co = tgt ∧ w0.grownBy w (some b) ∧ k = s.size - p

def Skipped (w0 : World) (b : Nat) (s : ByteArray) (tv : Value) (f0 f1 f2 : Int) (tgt : List UInt8 × Nat × Nat) (e : Ending) (w : World) : Prop :=
  e = .returned (.tuple #[]) ∧ ∃ p li co : Nat, Sc w b s p li co tv f0 f1 f2 ∧ p ≤ s.size ∧ li ≤ p + 1 ∧ co ≤ p + 1 ∧ (s.data.toList.drop p, li, co) = tgt ∧ w0.grownBy w (some b)
end

theorem advL_le (c : UInt8) (li p : Nat) (h : li ≤ p + 1) : Lex.advL c li ≤ (p + 1) + 1 := by unfold Lex.advL; split <;> omega
theorem advC_le (c : UInt8) (co p : Nat) (h : co ≤ p + 1) : Lex.advC c co ≤ (p + 1) + 1 := by unfold Lex.advC; split <;> omega

theorem tob (c : UInt8) (n : Nat) (hn : n < 256) (h : c = UInt8.ofNat n) : ((c.toNat : Int) == (n : Int)) = true := by rw [byte_eq c n hn, h]; simp
theorem tobf (c : UInt8) (n : Nat) (hn : n < 256) (h : c ≠ UInt8.ofNat n) : ((c.toNat : Int) == (n : Int)) = false := by rw [byte_eq c n hn]; simpa using h

set_option maxHeartbeats 1000000 in
theorem skip_calls (b : Nat) (w : World) (s : ByteArray) (p li co : Nat) (tv : Value) (f0 f1 f2 : Int) (h : Sc w b s p li co tv f0 f1 f2) (hp : p ≤ s.size)
    (hs : s.size ≤ 65536) (hli : li ≤ p + 1) (hco : co ≤ p + 1) :
    Calls Try.prog 64 #[.pointer (some ⟨b, 0, none⟩)] w (Skipped w b s tv f0 f1 f2 (Lex.skipS false (s.data.toList.drop p) li co)) := by
  generalize htg : Lex.skipS false (s.data.toList.drop p) li co = tgt
  have Htg := hid htg
  clear htg
  go_enter Try.func64, Try.ntmps64
  go_wp2
  go_loopg [] (s.size - p) (fun k wr => SkipAt w b s tv f0 f1 f2 false tgt k wr)
  case atStart => exact ⟨p, li, co, h, hp, hli, hco, Htg.out, World.grownBy.refl w _, rfl⟩
  case round =>
    clear Htg h hp hli hco
    obtain ⟨p, li, co, h, hp, hli, hco, htg, hg, hk⟩ := hrel
    have Htg := hid htg
    have Hk := hid hk
    clear htg hk
    by_cases hlt : p < s.size
    · obtain ⟨h0, h1, -⟩ := h.cells
      have hlt' : (p : Int) < (s.size : Int) := by omega
      by_cases c35 : s[p] = 35
      · have hb := tob s[p] 35 (by omega) c35
        go_wp2_with (go_at_call 65; refine (more_yes h hlt).mono ?_; rintro e w' ⟨rfl, n1, rfl⟩)
        go_quiet (fail)
        go_wp2_with fail
        have Hs := h.drewN (n1 + nq)
        have hg1 := gb_drewN hg (n1 + nq)
        obtain ⟨wo, hwo⟩ : ∃ wo, wo = wr.drewN (n1 + nq) := ⟨_, rfl⟩
        rw [← hwo] at Hs hg1 ⊢
        clear hwo h hg h0 h1 hb
        have htg := Htg.out
        rw [str_ext hlt, c35, skip_hash, ← c35, ← str_ext hlt] at htg
        have Hc := hid c35
        have Htg := hid htg
        clear c35 htg
        go_loopg [] (s.size - p) (fun k wq => CommAt w b s tv f0 f1 f2 p tgt k wq)
        case atStart => exact ⟨p, li, co, Hs, hp, Nat.le_refl _, hli, hco, Htg.out, hg1, rfl⟩
        case round =>
          clear Htg Hs hg1 hli hco hlt'
          obtain ⟨q, li, co, h, hq, hpq, hli, hco, htg, hg, hk⟩ := hrel
          have Htg := hid htg
          have Hkq := hid hk
          clear htg hk
          by_cases hlq : q < s.size
          · obtain ⟨h0, h1, -⟩ := h.cells
            have hlq' : (q : Int) < (s.size : Int) := by omega
            by_cases c10 : s[q] = 10
            · have hb := tob s[q] 10 (by omega) c10
              have hb' : ((s[q].toNat : Int) != 10) = false := by simpa using hb
              have Hc10 := hid c10
              clear c10
              go_wp2_with fail
              go_quiet ((go_at_call 65; exact Calls.quiet_of (more_yes (h.drewN _) hlq)))
              go_wp2_with fail
              go_roundg (s.size - q)
              case measure =>
                have hk := Hk.out
                have hne : p ≠ q := by
                  rintro rfl
                  have e1 := Hc.out
                  have e2 := Hc10.out
                  rw [e1] at e2
                  exact absurd e2 (by decide)
                omega
              case rel =>
                refine ⟨q, li, co, h.drewN _, hq, hli, hco, ?_, gb_drewN hg _, rfl⟩
                have htg := Htg.out
                rw [str_ext hlq, Hc10.out] at htg ⊢
                rw [← skip_nl]
                exact htg
            · have hb := tobf s[q] 10 (by omega) c10
              have hb' : ((s[q].toNat : Int) != 10) = true := by simpa using hb
              have Hc10 := hid c10
              clear c10
              go_wp2_with fail
              go_quiet ((go_at_call 65; exact Calls.quiet_of (more_yes (h.drewN _) hlq)))
              go_wp2_with (go_at_call 108; refine (step_calls b _ s q li co tv f0 f1 f2 (h.drewN _) hlq hs (by omega) (by omega)).mono ?_; rintro e w1 ⟨rfl, h', hg'⟩)
              go_roundg (s.size - (q + 1))
              case measure => have hk := Hkq.out; omega
              case rel =>
                refine ⟨q + 1, _, _, h', by omega, by omega, advL_le _ _ _ hli, advC_le _ _ _ hco, ?_, gb_trans (gb_drewN hg _) hg', rfl⟩
                have htg := Htg.out
                rw [str_ext hlq, skip_cm _ _ Hc10.out] at htg
                exact htg
          · go_wp2_with fail
            go_quiet ((go_at_call 65; exact Calls.quiet_of (more_no (h.drewN _) hlq)))
            go_wp2_with fail
            go_roundg (s.size - q)
            case measure => have hk := Hk.out; omega
            case rel =>
              refine ⟨q, li, co, h.drewN _, hq, hli, hco, ?_, gb_drewN hg _, rfl⟩
              have htg := Htg.out
              rw [str_end (by omega)] at htg ⊢
              exact htg
      · have hb := tobf s[p] 35 (by omega) c35
        by_cases cb : Lex.isBlank s[p] = true
        · have Hstep : Hid (Lex.skipS false (s.data.toList.drop (p + 1)) (Lex.advL s[p] li) (Lex.advC s[p] co) = tgt) := by
            have htg := Htg.out
            rw [str_ext hlt, skip_blank _ _ cb] at htg
            exact htg
          have Hcb := hid cb
          clear cb c35
          by_cases c1 : s[p] = 32
          · have hb1 := tob s[p] 32 (by omega) c1
            clear c1 Hcb
            go_wp2_with (go_at_call 65; refine (more_yes h hlt).mono ?_; rintro e w' ⟨rfl, n1, rfl⟩)
            go_quiet (fail)
            go_wp2_with (go_at_call 108; refine (step_calls b _ s p li co tv f0 f1 f2 (h.drewN _) hlt hs (by omega) (by omega)).mono ?_; rintro e w1 ⟨rfl, h', hg'⟩)
            go_roundg (s.size - (p + 1))
            case measure => have hk := Hk.out; omega
            case rel => exact ⟨p + 1, _, _, h', by omega, advL_le _ _ _ hli, advC_le _ _ _ hco, Hstep.out, gb_trans (gb_drewN hg _) hg', rfl⟩
          · have hb1 := tobf s[p] 32 (by omega) c1
            by_cases c2 : s[p] = 9
            · have hb2 := tob s[p] 9 (by omega) c2
              clear c1 c2 Hcb
              go_wp2_with (go_at_call 65; refine (more_yes h hlt).mono ?_; rintro e w' ⟨rfl, n1, rfl⟩)
              go_quiet (fail)
              go_wp2_with (go_at_call 108; refine (step_calls b _ s p li co tv f0 f1 f2 (h.drewN _) hlt hs (by omega) (by omega)).mono ?_; rintro e w1 ⟨rfl, h', hg'⟩)
              go_roundg (s.size - (p + 1))
              case measure => have hk := Hk.out; omega
              case rel => exact ⟨p + 1, _, _, h', by omega, advL_le _ _ _ hli, advC_le _ _ _ hco, Hstep.out, gb_trans (gb_drewN hg _) hg', rfl⟩
            · have hb2 := tobf s[p] 9 (by omega) c2
              by_cases c3 : s[p] = 10
              · have hb3 := tob s[p] 10 (by omega) c3
                clear c1 c2 c3 Hcb
                go_wp2_with (go_at_call 65; refine (more_yes h hlt).mono ?_; rintro e w' ⟨rfl, n1, rfl⟩)
                go_quiet (fail)
                go_wp2_with (go_at_call 108; refine (step_calls b _ s p li co tv f0 f1 f2 (h.drewN _) hlt hs (by omega) (by omega)).mono ?_; rintro e w1 ⟨rfl, h', hg'⟩)
                go_roundg (s.size - (p + 1))
                case measure => have hk := Hk.out; omega
                case rel => exact ⟨p + 1, _, _, h', by omega, advL_le _ _ _ hli, advC_le _ _ _ hco, Hstep.out, gb_trans (gb_drewN hg _) hg', rfl⟩
              · have hb3 := tobf s[p] 10 (by omega) c3
                have c4 : s[p] = 13 := by
                  have := Hcb.out
                  simp [Lex.isBlank, c1, c2, c3] at this
                  exact this
                have hb4 := tob s[p] 13 (by omega) c4
                clear c1 c2 c3 c4 Hcb
                go_wp2_with (go_at_call 65; refine (more_yes h hlt).mono ?_; rintro e w' ⟨rfl, n1, rfl⟩)
                go_quiet (fail)
                go_wp2_with (go_at_call 108; refine (step_calls b _ s p li co tv f0 f1 f2 (h.drewN _) hlt hs (by omega) (by omega)).mono ?_; rintro e w1 ⟨rfl, h', hg'⟩)
                go_roundg (s.size - (p + 1))
                case measure => have hk := Hk.out; omega
                case rel => exact ⟨p + 1, _, _, h', by omega, advL_le _ _ _ hli, advC_le _ _ _ hco, Hstep.out, gb_trans (gb_drewN hg _) hg', rfl⟩
        · have Hst : Hid ((s.data.toList.drop p, li, co) = tgt) := by
            have htg := Htg.out
            rw [str_ext hlt, skip_stop _ _ (by simpa using cb) c35, ← str_ext hlt] at htg
            exact htg
          have cb' : ¬ Lex.isBlank s[p] = true := cb
          simp [Lex.isBlank] at cb'
          have hb1 := tobf s[p] 32 (by omega) (fun e => cb'.1.1.1 e)
          have hb2 := tobf s[p] 9 (by omega) (fun e => cb'.1.1.2 e)
          have hb3 := tobf s[p] 10 (by omega) (fun e => cb'.1.2 e)
          have hb4 := tobf s[p] 13 (by omega) (fun e => cb'.2 e)
          clear cb cb' c35
          go_wp2_with (go_at_call 65; refine (more_yes h hlt).mono ?_; rintro e w' ⟨rfl, n1, rfl⟩)
          go_quiet (fail)
          go_wp2_with fail
          refine bodyPost_ret (results_none rfl _ _ _) rfl ?_
          exact ⟨rfl, p, li, co, Bk.drewN h _, hp, hli, hco, Hst.out, gb_drewN hg _⟩
    · go_wp2_with (go_at_call 65; refine (more_no h hlt).mono ?_; rintro e w' ⟨rfl, n1, rfl⟩)
      go_end0
      refine ⟨rfl, p, li, co, Bk.drewN h _, hp, hli, hco, ?_, gb_drewN hg _⟩
      have htg := Htg.out
      rw [str_end (by omega)] at htg ⊢
      exact htg

end Go.Proofs.Ytjaampgpihicmaa
