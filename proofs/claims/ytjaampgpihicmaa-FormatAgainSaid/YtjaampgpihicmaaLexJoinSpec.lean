/- Chapter 4 (lex), plain mathematics: two texts joined by a newline; a text's tokens begun further down. -/
import Derived.Test.YtjaampgpihicmaaLexQ0
namespace Go.Proofs.Ytjaampgpihicmaa.Lex

theorem skipS_app_stop : ∀ (cm : Bool) (l : List UInt8) (li co : Nat) (c : UInt8) (r : List UInt8) (li' co' : Nat) (t : List UInt8), skipS cm l li co = (c :: r, li', co') → skipS cm (l ++ t) li co = (c :: (r ++ t), li', co')
  | _, [], _, _, _, _, _, _, _, h => by simp [skipS] at h
  | cm, d :: l, li, co, c, r, li', co', t, h => by
    simp only [List.cons_append, skipS] at h ⊢
    split
    · rename_i hc; rw [if_pos hc] at h; exact skipS_app_stop true l _ _ c r li' co' t h
    · rename_i hc
      rw [if_neg hc] at h
      split
      · rename_i hb; rw [if_pos hb] at h; exact skipS_app_stop false l _ _ c r li' co' t h
      · rename_i hb
        rw [if_neg hb] at h
        split
        · rename_i hh; rw [if_pos hh] at h; exact skipS_app_stop true l _ _ c r li' co' t h
        · rename_i hh
          rw [if_neg hh] at h
          simp only [Prod.mk.injEq, List.cons.injEq] at h
          obtain ⟨⟨rfl, rfl⟩, rfl, rfl⟩ := h
          rfl

theorem skipS_nl (cm : Bool) (b : List UInt8) (li co : Nat) : skipS cm (10 :: b) li co = skipS false b (li + 1) 1 := by
  simp [skipS, isBlank, advL, advC]

theorem skipS_app_end : ∀ (cm : Bool) (l : List UInt8) (li co li' co' : Nat) (b : List UInt8), skipS cm l li co = ([], li', co') → skipS cm (l ++ 10 :: b) li co = skipS false b (li' + 1) 1
  | cm, [], li, co, li', co', b, h => by
    simp only [skipS, Prod.mk.injEq, true_and] at h
    obtain ⟨rfl, rfl⟩ := h
    rw [List.nil_append, skipS_nl]
  | cm, d :: l, li, co, li', co', b, h => by
    simp only [List.cons_append, skipS] at h ⊢
    split
    · rename_i hc; rw [if_pos hc] at h; exact skipS_app_end true l _ _ li' co' b h
    · rename_i hc
      rw [if_neg hc] at h
      split
      · rename_i hb; rw [if_pos hb] at h; exact skipS_app_end false l _ _ li' co' b h
      · rename_i hb
        rw [if_neg hb] at h
        split
        · rename_i hh; rw [if_pos hh] at h; exact skipS_app_end true l _ _ li' co' b h
        · rename_i hh
          rw [if_neg hh] at h
          simp at h

theorem litS_app (q : UInt8) : ∀ (l : List UInt8) (m : Mode) (out : List UInt8) (co : Nat) (o r : List UInt8) (k : Nat) (t : List UInt8), litS q m l out co = .good o r k → litS q m (l ++ t) out co = .good o (r ++ t) k
  | [], m, out, co, o, r, k, t, h => by cases m <;> simp [litS] at h
  | c :: l, m, out, co, o, r, k, t, h => by
    cases m <;> simp only [List.cons_append, litS] at h ⊢ <;> (repeat' split at h) <;>
      (repeat (first | rw [if_pos (by assumption)] | rw [if_neg (by assumption)])) <;>
      first
        | exact litS_app q l _ _ _ _ _ _ t h
        | (cases h; done)
        | (cases h; rfl)

theorem takeWhile_nl (p : UInt8 → Bool) (hp : p 10 = false) (t : List UInt8) : ∀ l : List UInt8, (l ++ 10 :: t).takeWhile p = l.takeWhile p
  | [] => by simp [hp]
  | c :: l => by
    by_cases h : p c
    · simp [h, takeWhile_nl p hp t l]
    · simp [h]
theorem dropWhile_nl (p : UInt8 → Bool) (hp : p 10 = false) (t : List UInt8) : ∀ l : List UInt8, (l ++ 10 :: t).dropWhile p = l.dropWhile p ++ 10 :: t
  | [] => by simp [hp]
  | c :: l => by
    by_cases h : p c
    · simp [h, dropWhile_nl p hp t l]
    · simp [h]

theorem tokS_app {c : UInt8} {r : List UInt8} {li co : Nat} {t : Tok} {rest : List UInt8} {li' co' : Nat} (b : List UInt8) (h : tokS c r li co = .good t rest li' co') : tokS c (r ++ 10 :: b) li co = .good t (rest ++ 10 :: b) li' co' := by
  unfold tokS at h ⊢
  split
  · rename_i hl
    rw [if_pos hl] at h
    rw [← List.cons_append, takeWhile_nl isRest (by decide), dropWhile_nl isRest (by decide)]
    split
    · rename_i h32; rw [if_pos h32] at h; cases h
    · rename_i h32; rw [if_neg h32] at h; cases h; rfl
  · rename_i hl
    rw [if_neg hl] at h
    split
    · rename_i hq
      rw [if_pos hq] at h
      cases hlr : litS c .norm r [] (co + 1) with
      | bad k => rw [hlr] at h; cases h
      | good o r' k =>
        rw [hlr] at h
        rw [litS_app c r _ _ _ _ _ _ _ hlr]
        simp only [] at h ⊢
        split
        · rename_i ho; rw [if_pos ho] at h; cases h
        · rename_i ho
          rw [if_neg ho] at h
          split
          · rename_i h16; rw [if_pos h16] at h; cases h
          · rename_i h16; rw [if_neg h16] at h; cases h; rfl
    · rename_i hq
      rw [if_neg hq] at h
      split
      · rename_i hs; rw [if_pos hs] at h; cases h; rfl
      · rename_i hs; rw [if_neg hs] at h; cases h

/-- Two texts joined: the tokens of the first but its end, then the second's, begun at the line behind the first's last. -/
theorem scanS_join : ∀ (n : Nat) (a b : List UInt8) (li co : Nat) (l : List Tok), a.length ≤ n → scanS a li co = .good l →
    ∃ (ts : List Tok) (le ce : Nat), l = ts ++ [⟨4, [], le, ce⟩] ∧ scanS (a ++ 10 :: b) li co = (scanS b (le + 1) 1).push ts := by
  intro n
  induction n with
  | zero =>
    intro a b li co l hn h
    have ha : a = [] := List.eq_nil_of_length_eq_zero (by omega)
    subst ha
    rw [scanS_eq] at h
    simp only [skipS, contS, ScanRes.good.injEq] at h
    refine ⟨[], li, co, by rw [← h]; rfl, ?_⟩
    rw [List.nil_append, push_nil, scanS_eq, skipS_nl, ← scanS_eq]
  | succ n ih =>
    intro a b li co l hn h
    rw [scanS_eq] at h
    have hsk := skipS_len false a li co
    rcases hs : skipS false a li co with ⟨a', li', co'⟩
    rw [hs] at h hsk
    cases a' with
    | nil =>
      simp only [contS, ScanRes.good.injEq] at h
      refine ⟨[], li', co', by rw [← h]; rfl, ?_⟩
      rw [push_nil, scanS_eq, skipS_app_end _ _ _ _ _ _ b hs, ← scanS_eq]
    | cons c r =>
      simp only [contS] at h
      simp only [List.length_cons] at hsk
      cases ht : tokS c r li' co' with
      | bad f => rw [ht] at h; cases h
      | good t rest li2 co2 =>
        rw [ht] at h
        simp only [] at h
        have hlen := tokS_len ht
        cases hr : scanS rest li2 co2 with
        | bad f => rw [hr] at h; cases h
        | good l' =>
          rw [hr] at h
          simp only [ScanRes.push, ScanRes.good.injEq] at h
          obtain ⟨ts, le, ce, hl', hj⟩ := ih rest b li2 co2 l' (by omega) hr
          refine ⟨t :: ts, le, ce, by rw [← h, hl']; rfl, ?_⟩
          rw [scanS_eq, skipS_app_stop _ _ _ _ _ _ _ _ (10 :: b) hs]
          simp only [contS]
          rw [tokS_app b ht]
          simp only []
          rw [hj, push_push]
          rfl

/-! ### Begun k lines further down -/
def Tok.down (k : Nat) (t : Tok) : Tok := ⟨t.kind, t.text, t.line + k, t.col⟩

theorem skipS_down (k : Nat) : ∀ (cm : Bool) (l : List UInt8) (li co : Nat), skipS cm l (li + k) co = ((skipS cm l li co).1, (skipS cm l li co).2.1 + k, (skipS cm l li co).2.2)
  | _, [], _, _ => rfl
  | cm, c :: r, li, co => by
    have ha : advL c (li + k) = advL c li + k := by unfold advL; split <;> omega
    simp only [skipS]
    rw [ha]
    split
    · exact skipS_down k true r _ _
    · split
      · exact skipS_down k false r _ _
      · split
        · exact skipS_down k true r _ _
        · rfl

theorem tokS_down {c : UInt8} {r : List UInt8} {li co : Nat} {t : Tok} {rest : List UInt8} {li' co' : Nat} (k : Nat) (h : tokS c r li co = .good t rest li' co') : tokS c r (li + k) co = .good (t.down k) rest (li' + k) co' := by
  unfold tokS at h ⊢
  split
  · rename_i hl
    rw [if_pos hl] at h
    split
    · rename_i h32; rw [if_pos h32] at h; cases h
    · rename_i h32; rw [if_neg h32] at h; cases h; rfl
  · rename_i hl
    rw [if_neg hl] at h
    split
    · rename_i hq
      rw [if_pos hq] at h
      cases hlr : litS c .norm r [] (co + 1) with
      | bad k => rw [hlr] at h; cases h
      | good o r' k' =>
        rw [hlr] at h
        simp only [] at h ⊢
        split
        · rename_i ho; rw [if_pos ho] at h; cases h
        · rename_i ho
          rw [if_neg ho] at h
          split
          · rename_i h16; rw [if_pos h16] at h; cases h
          · rename_i h16; rw [if_neg h16] at h; cases h; rfl
    · rename_i hq
      rw [if_neg hq] at h
      split
      · rename_i hs; rw [if_pos hs] at h; cases h; rfl
      · rename_i hs; rw [if_neg hs] at h; cases h

theorem scanS_down (k : Nat) : ∀ (n : Nat) (b : List UInt8) (li co : Nat) (m : List Tok), b.length ≤ n → scanS b li co = .good m → scanS b (li + k) co = .good (m.map (Tok.down k)) := by
  intro n
  induction n with
  | zero =>
    intro b li co m hn h
    have hb : b = [] := List.eq_nil_of_length_eq_zero (by omega)
    subst hb
    rw [scanS_eq] at h ⊢
    simp only [skipS, contS, ScanRes.good.injEq] at h ⊢
    rw [← h]; rfl
  | succ n ih =>
    intro b li co m hn h
    rw [scanS_eq] at h ⊢
    rw [skipS_down]
    have hsk := skipS_len false b li co
    rcases hs : skipS false b li co with ⟨b', li', co'⟩
    rw [hs] at h hsk
    simp only [] at h ⊢
    cases b' with
    | nil =>
      simp only [contS, ScanRes.good.injEq] at h ⊢
      rw [← h]; rfl
    | cons c r =>
      simp only [contS] at h ⊢
      simp only [List.length_cons] at hsk
      cases ht : tokS c r li' co' with
      | bad f => rw [ht] at h; cases h
      | good t rest li2 co2 =>
        rw [ht] at h
        have hlen := tokS_len ht
        rw [tokS_down k ht]
        simp only [] at h ⊢
        cases hr : scanS rest li2 co2 with
        | bad f => rw [hr] at h; cases h
        | good m' =>
          rw [hr] at h
          simp only [ScanRes.push, ScanRes.good.injEq] at h
          rw [ih rest li2 co2 m' (by omega) hr]
          simp only [ScanRes.push, ScanRes.good.injEq]
          rw [← h]; rfl

theorem scan_join {a b : List UInt8} {l m : List Tok} (hlen : a.length + b.length < 65536) (ha : scan a = .good l) (hb : scan b = .good m) :
    ∃ (ts : List Tok) (le ce : Nat), l = ts ++ [⟨4, [], le, ce⟩] ∧ scan (a ++ 10 :: b) = .good (ts ++ m.map (Tok.down le)) := by
  unfold scan at ha hb
  rw [if_neg (by omega)] at ha hb
  obtain ⟨ts, le, ce, hl, hj⟩ := scanS_join a.length a b 1 1 l (Nat.le_refl _) ha
  refine ⟨ts, le, ce, hl, ?_⟩
  unfold scan
  rw [if_neg (by simp; omega), hj, Nat.add_comm le 1, scanS_down le b.length b 1 1 m (Nat.le_refl _) hb]
  rfl

end Go.Proofs.Ytjaampgpihicmaa.Lex
