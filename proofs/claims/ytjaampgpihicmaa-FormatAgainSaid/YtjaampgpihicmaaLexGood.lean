/- Chapter 4 (lex): Good, the program's and the document's; the token of a good name. -/
import Derived.Test.YtjaampgpihicmaaLexWalk9
import Derived.Test.YtjaampgpihicmaaLexRef1
namespace Go.Proofs.Ytjaampgpihicmaa
open Go.RowKit
attribute [local go_sem ↓] Go.wp_at_zero Go.wp_at_succ
attribute [local go_sem] frozen_alloc_lt

namespace Lex
def goodB (l : List UInt8) : Bool := (decide (0 < l.length) && decide (l.length ≤ 32)) && ((l.head?.map isLetter).getD false && l.all isRest)
end Lex

theorem all_rest (s : ByteArray) : s.data.toList.all Lex.isRest = true ↔ ∀ (i : Nat) (h : i < s.size), Lex.isRest s[i] = true := by
  rw [List.all_eq_true]
  constructor
  · intro h i hi
    exact h _ (List.mem_of_getElem? (i := i) (by rw [List.getElem?_eq_getElem (by simpa using hi)]; rfl))
  · intro h x hx
    obtain ⟨i, hi, rfl⟩ := List.getElem_of_mem hx
    exact h i (by simpa using hi)

theorem head_byte (s : ByteArray) (h : 0 < s.size) : s.data.toList.head? = some s[0] := by
  have := str_ext h
  rw [List.drop_zero] at this
  rw [this]; rfl

theorem good_no (s : ByteArray) (h : s.size = 0 ∨ 32 < s.size ∨ (∃ h0 : 0 < s.size, Lex.isLetter s[0] = false) ∨ ∃ (i : Nat) (hi : i < s.size), Lex.isRest s[i] = false) : Lex.goodB s.data.toList = false := by
  have hl : s.data.toList.length = s.size := by simp
  unfold Lex.goodB
  rw [hl]
  rcases h with h | h | ⟨h0, h⟩ | ⟨i, hi, h⟩
  · simp [h]
  · have : ¬ s.size ≤ 32 := by omega
    simp [this]
  · rw [head_byte s h0]; simp [h]
  · have : s.data.toList.all Lex.isRest = false := by
      rw [Bool.eq_false_iff]
      intro ha
      have := (all_rest s).1 ha i hi
      rw [h] at this
      cases this
    simp [this]

theorem good_yes (s : ByteArray) (h0 : 0 < s.size) (h1 : s.size ≤ 32) (h2 : Lex.isLetter s[0] = true) (h3 : ∀ (i : Nat) (h : i < s.size), Lex.isRest s[i] = true) : Lex.goodB s.data.toList = true := by
  have hl : s.data.toList.length = s.size := by simp
  unfold Lex.goodB
  rw [hl, head_byte s h0, (all_rest s).2 h3]
  simp [h0, h1, h2]

theorem good_parts (s : ByteArray) (h : Lex.goodB s.data.toList = true) : ∃ h0 : 0 < s.size, s.size ≤ 32 ∧ Lex.isLetter s[0] = true ∧ s.data.toList.all Lex.isRest = true := by
  have hl : s.data.toList.length = s.size := by simp
  unfold Lex.goodB at h
  rw [hl] at h
  simp only [Bool.and_eq_true, decide_eq_true_eq] at h
  obtain ⟨⟨h0, h1⟩, h2, h3⟩ := h
  rw [head_byte s h0] at h2
  exact ⟨h0, h1, by simpa using h2, h3⟩

set_option maxHeartbeats 2000000 in
theorem good_calls (s : ByteArray) (w : World) (hs : s.size ≤ 9223372036854775807) :
    Calls Try.prog 23 #[.string s] w fun e w' => e = .returned (.bool (Lex.goodB s.data.toList)) ∧ w = w' := by
  generalize hres : Lex.goodB s.data.toList = res
  have Hres := hid hres
  clear hres
  by_cases h0 : s.size = 0
  · have hr : Hid (res = false) := by have := Hres.out; rw [good_no s (.inl h0)] at this; exact this.symm
    have e1 : s.toList.isEmpty = true := by rw [Lib.toList_data, List.isEmpty_iff, List.eq_nil_iff_length_eq_zero]; simpa using h0
    clear h0
    go_enter Try.func23, Try.ntmps23
    go_wp2_with fail
    go_ret
    rw [hr.out]
    exact ⟨rfl, rfl⟩
  · have hpos : 0 < s.size := by omega
    have e1 : s.toList.isEmpty = false := by
      rw [Lib.toList_data]
      have := head_byte s hpos
      cases hh : s.data.toList with
      | nil => rw [hh] at this; cases this
      | cons => rfl
    have hpos' : (0 : Int) < (s.size : Int) := by omega
    by_cases h32 : 32 < s.size
    · have hr : Hid (res = false) := by have := Hres.out; rw [good_no s (.inr (.inl h32))] at this; exact this.symm
      have h32' : (32 : Int) < (s.size : Int) := by omega
      clear h0
      go_enter Try.func23, Try.ntmps23
      go_wp2_with fail
      go_ret
      rw [hr.out]
      exact ⟨rfl, rfl⟩
    · have h32' : (s.size : Int) ≤ 32 := by omega
      by_cases hl : Lex.isLetter s[0] = true
      · have hl' : Lex.letterZ (s[0].toNat : Int) = true := hl
        have Hl := hid hl
        clear h0 hl
        go_enter Try.func23, Try.ntmps23
        go_wp2_with (go_at_call 70; refine (letter_calls _ _).mono ?_; rintro e w' ⟨rfl, rfl⟩)
        go_loopg [19, 3] s.size (fun k i _ wr => ∃ j : Nat, i = .int .i64 j ∧ j ≤ s.size ∧ k = s.size - j ∧ (∀ (i : Nat) (h : i < s.size), i < j → Lex.isRest s[i] = true) ∧ wr = w)
        case atStart => exact ⟨0, rfl, by omega, rfl, fun i _ h => by omega, rfl⟩
        case round =>
          obtain ⟨j, rfl, hj, hk, hall, rfl⟩ := hrel
          have Hk := hid hk
          have Hall := hid hall
          clear hk hall
          by_cases hlt : j < s.size
          · have hlt' : (j : Int) < (s.size : Int) := by omega
            by_cases hr : Lex.isRest s[j] = true
            · have hr' : Lex.restZ (s[j].toNat : Int) = true := hr
              have Hr := hid hr
              clear hr
              go_wp2_with (go_at_call 71; refine (inName_calls _ _).mono ?_; rintro e w' ⟨rfl, rfl⟩)
              go_roundg (s.size - (j + 1))
              case measure => have hk := Hk.out; omega
              case rel =>
                refine ⟨j + 1, by go_num, by omega, rfl, fun i h hi => ?_, rfl⟩
                rcases Nat.lt_or_eq_of_le (show i ≤ j by omega) with hh | hh
                · exact Hall.out i h hh
                · subst hh; exact Hr.out
            · have hr' : Lex.restZ (s[j].toNat : Int) = false := Bool.eq_false_iff.2 hr
              have hrr : Hid (res = false) := by have := Hres.out; rw [good_no s (.inr (.inr (.inr ⟨j, hlt, Bool.eq_false_iff.2 hr⟩)))] at this; exact this.symm
              clear hr
              go_wp2_with (go_at_call 71; refine (inName_calls _ _).mono ?_; rintro e w' ⟨rfl, rfl⟩)
              go_ret
              rw [hrr.out]
              exact ⟨rfl, rfl⟩
          · have hge : ¬ (j : Int) < (s.size : Int) := by omega
            have hrr : Hid (res = true) := by have := Hres.out; rw [good_yes s hpos (by omega) Hl.out (fun i h => Hall.out i h (by omega))] at this; exact this.symm
            go_wp2_with fail
            go_ret
            rw [hrr.out]
            exact ⟨rfl, rfl⟩
      · have hl' : Lex.letterZ (s[0].toNat : Int) = false := Bool.eq_false_iff.2 hl
        have hr : Hid (res = false) := by have := Hres.out; rw [good_no s (.inr (.inr (.inl ⟨hpos, Bool.eq_false_iff.2 hl⟩)))] at this; exact this.symm
        clear h0 hl
        go_enter Try.func23, Try.ntmps23
        go_wp2_with (go_at_call 70; refine (letter_calls _ _).mono ?_; rintro e w' ⟨rfl, rfl⟩)
        go_ret
        rw [hr.out]
        exact ⟨rfl, rfl⟩

set_option maxHeartbeats 2000000 in
theorem rgood_calls (s : ByteArray) (w : World) (hs : s.size ≤ 9223372036854775807) :
    Calls Try.prog 69 #[.string s] w fun e w' => e = .returned (.bool (Lex.goodB s.data.toList)) ∧ w = w' := by
  generalize hres : Lex.goodB s.data.toList = res
  have Hres := hid hres
  clear hres
  go_enter Try.func69, Try.ntmps69
  go_wp2_with fail
  go_loopg [3] s.size (fun k i wr => ∃ j : Nat, i = .int .i64 j ∧ j ≤ s.size ∧ k = s.size - j ∧ (∀ (i : Nat) (h : i < s.size), i < j → Lex.isRest s[i] = true) ∧ (∀ h : 0 < s.size, 0 < j → Lex.isLetter s[0] = true) ∧ wr = w)
  case atStart => exact ⟨0, rfl, by omega, rfl, fun i _ h => by omega, fun _ h => by omega, rfl⟩
  case round =>
    obtain ⟨j, rfl, hj, hk, hall, hlet, rfl⟩ := hrel
    have Hk := hid hk
    have Hall := hid hall
    have Hlet := hid hlet
    clear hk hall hlet
    by_cases hlt : j < s.size
    · have hlt' : (j : Int) < (s.size : Int) := by omega
      by_cases hfst : j = 0 ∧ Lex.isLetter s[j] = false
      · have hb0 : ((j : Int) == 0) = true := by simp [hfst.1]
        have hl' : Lex.letterZ (s[j].toNat : Int) = false := hfst.2
        have hrr : Hid (res = false) := by
          obtain ⟨e, hl⟩ := hfst
          subst e
          have := Hres.out
          rw [good_no s (.inr (.inr (.inl ⟨hlt, hl⟩)))] at this
          exact this.symm
        clear hfst
        go_wp2_with (first | (go_at_call 100; refine (rletter_calls _ _).mono ?_; rintro e w' ⟨rfl, rfl⟩) | (go_at_call 101; refine (rest_calls _ _).mono ?_; rintro e w' ⟨rfl, rfl⟩))
        go_ret
        rw [hrr.out]
        exact ⟨rfl, rfl⟩
      · by_cases hr : Lex.isRest s[j] = true
        · have hr' : Lex.restZ (s[j].toNat : Int) = true := hr
          have hnew : (∀ (i : Nat) (h : i < s.size), i < j + 1 → Lex.isRest s[i] = true) ∧ (∀ h : 0 < s.size, 0 < j + 1 → Lex.isLetter s[0] = true) := by
            refine ⟨fun i h hi => ?_, fun h0 _ => ?_⟩
            · rcases Nat.lt_or_eq_of_le (show i ≤ j by omega) with hh | hh
              · exact Hall.out i h hh
              · subst hh; exact hr
            · rcases Nat.eq_zero_or_pos j with e | e
              · subst e
                by_cases hl : Lex.isLetter s[0] = true
                · exact hl
                · exact absurd ⟨rfl, Bool.eq_false_iff.2 hl⟩ hfst
              · exact Hlet.out h0 e
          have Hnew := hid hnew
          rcases Nat.eq_zero_or_pos j with e | e
          · have hb0 : ((j : Int) == 0) = true := by simp [e]
            have hl' : Lex.letterZ (s[j].toNat : Int) = true := by
              subst e
              exact hnew.2 hlt (by omega)
            clear hfst hr hnew e
            go_wp2_with (first | (go_at_call 100; refine (rletter_calls _ _).mono ?_; rintro e w' ⟨rfl, rfl⟩) | (go_at_call 101; refine (rest_calls _ _).mono ?_; rintro e w' ⟨rfl, rfl⟩))
            go_roundg (s.size - (j + 1))
            case measure => have hk := Hk.out; omega
            case rel => exact ⟨j + 1, by go_num, by omega, rfl, Hnew.out.1, Hnew.out.2, rfl⟩
          · have hb0 : ((j : Int) == 0) = false := by simp; omega
            clear hfst hr hnew e
            go_wp2_with (first | (go_at_call 100; refine (rletter_calls _ _).mono ?_; rintro e w' ⟨rfl, rfl⟩) | (go_at_call 101; refine (rest_calls _ _).mono ?_; rintro e w' ⟨rfl, rfl⟩))
            go_roundg (s.size - (j + 1))
            case measure => have hk := Hk.out; omega
            case rel => exact ⟨j + 1, by go_num, by omega, rfl, Hnew.out.1, Hnew.out.2, rfl⟩
        · have hr' : Lex.restZ (s[j].toNat : Int) = false := Bool.eq_false_iff.2 hr
          have hrr : Hid (res = false) := by have := Hres.out; rw [good_no s (.inr (.inr (.inr ⟨j, hlt, Bool.eq_false_iff.2 hr⟩)))] at this; exact this.symm
          rcases Nat.eq_zero_or_pos j with e | e
          · exfalso
            subst e
            by_cases hl : Lex.isLetter s[0] = true
            · exact hr (Lex.isRest_of_letter hl)
            · exact hfst ⟨rfl, Bool.eq_false_iff.2 hl⟩
          · have hb0 : ((j : Int) == 0) = false := by simp; omega
            clear hfst hr e
            go_wp2_with (first | (go_at_call 100; refine (rletter_calls _ _).mono ?_; rintro e w' ⟨rfl, rfl⟩) | (go_at_call 101; refine (rest_calls _ _).mono ?_; rintro e w' ⟨rfl, rfl⟩))
            go_ret
            rw [hrr.out]
            exact ⟨rfl, rfl⟩
    · have hge : ¬ (j : Int) < (s.size : Int) := by omega
      have hjs : j = s.size := by omega
      by_cases h0 : s.size = 0
      · have hrr : Hid (res = false) := by have := Hres.out; rw [good_no s (.inl h0)] at this; exact this.symm
        have h0' : ¬ (0 : Int) < (s.size : Int) := by omega
        clear hjs h0
        go_wp2_with fail
        go_ret
        rw [hrr.out]
        exact ⟨rfl, rfl⟩
      · have h0' : (0 : Int) < (s.size : Int) := by omega
        by_cases h32 : 32 < s.size
        · have hrr : Hid (res = false) := by have := Hres.out; rw [good_no s (.inr (.inl h32))] at this; exact this.symm
          have h32' : ¬ (s.size : Int) < 33 := by omega
          clear hjs h0 h32
          go_wp2_with fail
          go_ret
          rw [hrr.out]
          exact ⟨rfl, rfl⟩
        · have hrr : Hid (res = true) := by
            have := Hres.out
            rw [good_yes s (by omega) (by omega) (Hlet.out (by omega) (by omega)) (fun i h => Hall.out i h (by omega))] at this
            exact this.symm
          have h32' : (s.size : Int) < 33 := by omega
          clear hjs h0 h32
          go_wp2_with fail
          go_ret
          rw [hrr.out]
          exact ⟨rfl, rfl⟩

theorem span_all (p : UInt8 → Bool) : ∀ l : List UInt8, l.all p = true → l.takeWhile p = l ∧ l.dropWhile p = []
  | [], _ => ⟨rfl, rfl⟩
  | c :: l, h => by
    simp only [List.all_cons, Bool.and_eq_true] at h
    have ih := span_all p l h.2
    simp [h.1, ih.1, ih.2]

theorem scan_good (s : ByteArray) (h : Lex.goodB s.data.toList = true) : Lex.scan s.data.toList = .good [⟨1, s.data.toList, 1, 1⟩, ⟨4, [], 1, 1 + s.size⟩] := by
  obtain ⟨h0, h1, h2, h3⟩ := good_parts s h
  have hl : s.data.toList.length = s.size := by simp
  have hs : s.data.toList = s[0] :: s.data.toList.drop 1 := by have := str_ext h0; rwa [List.drop_zero] at this
  have htk : s.data.toList.takeWhile Lex.isRest = s.data.toList := (span_all _ _ h3).1
  have hdr : s.data.toList.dropWhile Lex.isRest = [] := (span_all _ _ h3).2
  have hst : Lex.skipS false s.data.toList 1 1 = (s[0] :: s.data.toList.drop 1, 1, 1) := by
    rw [hs]
    refine skip_stop _ _ ?_ ?_
    · have : ∀ c : UInt8, Lex.isLetter c = true → Lex.isBlank c = false := by
        intro c hc
        rw [Bool.eq_false_iff]
        intro hb
        simp only [Lex.isBlank, Bool.or_eq_true, beq_iff_eq] at hb
        rcases hb with ((rfl | rfl) | rfl) | rfl <;> exact absurd hc (by decide)
      exact this _ h2
    · intro e; rw [e] at h2; exact absurd h2 (by decide)
  unfold Lex.scan
  rw [hl, if_neg (by omega), Lex.scanS_eq, hst]
  simp only [Lex.contS]
  unfold Lex.tokS
  rw [if_pos h2, ← hs, htk, hdr, hl, if_neg (by omega)]
  rfl

end Go.Proofs.Ytjaampgpihicmaa
