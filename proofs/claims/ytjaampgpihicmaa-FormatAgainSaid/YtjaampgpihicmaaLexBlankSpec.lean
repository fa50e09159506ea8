/- Plain mathematics of chapter 4 (lex): a text's tokens written out again with other blanks between. No program in sight. -/
import Derived.Test.YtjaampgpihicmaaLexQuoteSpec
namespace Go.Proofs.Ytjaampgpihicmaa.Lex

/-- What a token that was scanned is like. -/
def Tok.ok (t : Tok) : Prop :=
  (t.kind = 1 ∧ t.text.length ≤ 32 ∧ (∀ c ∈ t.text, isRest c = true) ∧ ∃ c r, t.text = c :: r ∧ isLetter c = true) ∨
  (t.kind = 2 ∧ t.text ≠ [] ∧ t.text.length ≤ 16) ∨
  (t.kind = 3 ∧ ∃ c, t.text = [c] ∧ isSign c = true ∧ isLetter c = false ∧ c ≠ 39 ∧ c ≠ 34)

theorem takeWhile_mem (p : UInt8 → Bool) : ∀ (l : List UInt8), ∀ c ∈ l.takeWhile p, p c = true
  | [], c, h => by simp at h
  | d :: l, c, h => by
    rw [List.takeWhile_cons] at h
    split at h
    · rename_i hd
      rcases List.mem_cons.1 h with rfl | h
      · exact hd
      · exact takeWhile_mem p l c h
    · simp at h

theorem tokS_ok {c : UInt8} {r : List UInt8} {li co : Nat} {t : Tok} {rest : List UInt8} {li' co' : Nat} (h : tokS c r li co = .good t rest li' co') : t.ok := by
  unfold tokS at h
  split at h
  · rename_i hl
    split at h
    · cases h
    · rename_i hn
      cases h
      refine .inl ⟨rfl, Nat.le_of_not_lt hn, takeWhile_mem _ _, c, r.takeWhile isRest, ?_, hl⟩
      show List.takeWhile isRest (c :: r) = _
      rw [List.takeWhile_cons, if_pos (isRest_of_letter hl)]
  · rename_i hl
    split at h
    · split at h
      · cases h
      · split at h
        · cases h
        · rename_i he
          split at h
          · cases h
          · rename_i hL
            cases h
            exact .inr (.inl ⟨rfl, he, Nat.le_of_not_lt hL⟩)
    · rename_i hq
      split at h
      · rename_i hs
        cases h
        exact .inr (.inr ⟨rfl, c, rfl, hs, Bool.eq_false_iff.2 hl, fun e => hq (.inl e), fun e => hq (.inr e)⟩)
      · cases h

/-- The text of a token. -/
def shape (t : Tok) : List UInt8 := if t.kind = 2 then quoteS t.text else t.text

theorem shape_len {t : Tok} (h : t.ok) : (shape t).length ≤ 66 := by
  unfold shape
  rcases h with ⟨hk, hl, -⟩ | ⟨hk, -, hl⟩ | ⟨hk, c, hc, -⟩
  · rw [if_neg (by omega)]; omega
  · rw [if_pos hk]; have := quoteS_len t.text; omega
  · rw [if_neg (by omega), hc]; simp

theorem takeWhile_pre (p : UInt8 → Bool) (rest : List UInt8) (hr : rest.takeWhile p = [] ∧ rest.dropWhile p = rest) : ∀ l : List UInt8, (∀ c ∈ l, p c = true) → (l ++ rest).takeWhile p = l ∧ (l ++ rest).dropWhile p = rest
  | [], _ => hr
  | c :: l, h => by
    have ih := takeWhile_pre p rest hr l (fun d hd => h d (List.mem_cons_of_mem _ hd))
    have hc := h c (List.mem_cons_self ..)
    rw [List.cons_append, List.takeWhile_cons, List.dropWhile_cons, if_pos hc, if_pos hc, ih.1, ih.2]
    exact ⟨rfl, rfl⟩

def key (t : Tok) : Nat × List UInt8 := (t.kind, t.text)

theorem blank_notRest {b : UInt8} (h : isBlank b = true) : isRest b = false := by
  simp only [isBlank, Bool.or_eq_true, beq_iff_eq] at h
  rcases h with ((rfl | rfl) | rfl) | rfl <;> decide

theorem tokS_shape {t : Tok} (h : t.ok) (rest : List UInt8) (hr : rest = [] ∨ ∃ b r, rest = b :: r ∧ isBlank b = true) :
    ∃ c r, shape t ++ rest = c :: r ∧ isBlank c = false ∧ c ≠ 35 ∧ ∀ li co, ∃ t' li' co', tokS c r li co = .good t' rest li' co' ∧ key t' = key t := by
  have hrest : rest.takeWhile isRest = [] ∧ rest.dropWhile isRest = rest := by
    rcases hr with rfl | ⟨b, r, rfl, hb⟩
    · exact ⟨rfl, rfl⟩
    · have := blank_notRest hb
      rw [List.takeWhile_cons, List.dropWhile_cons, this]
      simp
  rcases h with ⟨hk, hl, hall, c, r, hc, hlet⟩ | ⟨hk, h0, hl⟩ | ⟨hk, c, hc, hs, hnl, h39, h34⟩
  · have hsh : shape t = c :: r := by unfold shape; rw [if_neg (by omega), hc]
    refine ⟨c, r ++ rest, by rw [hsh]; rfl, ?_, ?_, fun li co => ?_⟩
    · rw [Bool.eq_false_iff]; intro hb
      simp only [isBlank, Bool.or_eq_true, beq_iff_eq] at hb
      rcases hb with ((rfl | rfl) | rfl) | rfl <;> exact absurd hlet (by decide)
    · rintro rfl; exact absurd hlet (by decide)
    · have hp := takeWhile_pre isRest rest hrest t.text hall
      rw [hc] at hp hl
      refine ⟨⟨1, c :: r, li, co⟩, li, co + (c :: r).length, ?_, ?_⟩
      · unfold tokS
        rw [if_pos hlet]
        rw [List.cons_append] at hp
        rw [hp.1, hp.2, if_neg (by omega)]
      · simp [key, hk, hc]
  · have hsh : shape t = quoteS t.text := by unfold shape; rw [if_pos hk]
    refine ⟨quoteQ t.text, t.text.flatMap (quoteB (quoteQ t.text)) ++ quoteQ t.text :: rest, by rw [hsh, quoteS]; simp, ?_, ?_, fun li co => ⟨_, _, _, tokS_quote t.text rest li co h0 hl, by simp [key, hk]⟩⟩
    · rcases quoteQ_or t.text with h | h <;> rw [h] <;> decide
    · rcases quoteQ_or t.text with h | h <;> rw [h] <;> decide
  · have hsh : shape t = [c] := by unfold shape; rw [if_neg (by omega), hc]
    refine ⟨c, rest, by rw [hsh]; rfl, ?_, ?_, fun li co => ⟨⟨3, [c], li, co⟩, li, co + 1, ?_, by simp [key, hk, hc]⟩⟩
    · rw [Bool.eq_false_iff]; intro hb
      simp only [isBlank, Bool.or_eq_true, beq_iff_eq] at hb
      rcases hb with ((rfl | rfl) | rfl) | rfl <;> exact absurd hs (by decide)
    · rintro rfl; exact absurd hs (by decide)
    · unfold tokS
      rw [if_neg (by simp [hnl]), if_neg (by simp [h39, h34]), if_pos hs]

theorem scanS_ok : ∀ (n : Nat) (l : List UInt8) (li co : Nat) (m : List Tok), l.length ≤ n → scanS l li co = .good m →
    ∃ ts e, m = ts ++ [e] ∧ key e = (4, []) ∧ (∀ t ∈ ts, t.ok) ∧ ts.length ≤ l.length := by
  intro n
  induction n with
  | zero =>
    intro l li co m hn h
    have hl : l = [] := List.eq_nil_of_length_eq_zero (by omega)
    subst hl
    rw [scanS_eq] at h
    simp only [skipS, contS, ScanRes.good.injEq] at h
    subst h
    exact ⟨[], _, rfl, rfl, fun t ht => by simp at ht, by simp⟩
  | succ n ih =>
    intro l li co m hn h
    rw [scanS_eq] at h
    have hsk := skipS_len false l li co
    rcases hs : skipS false l li co with ⟨l', li', co'⟩
    rw [hs] at h hsk
    cases l' with
    | nil =>
      simp only [contS, ScanRes.good.injEq] at h
      subst h
      exact ⟨[], _, rfl, rfl, fun t ht => by simp at ht, by simp⟩
    | cons c r =>
      simp only [contS] at h
      simp only [List.length_cons] at hsk
      cases ht : tokS c r li' co' with
      | bad f' => rw [ht] at h; cases h
      | good t rest li2 co2 =>
        rw [ht] at h
        simp only [] at h
        have hlen := tokS_len ht
        cases hr : scanS rest li2 co2 with
        | bad f' => rw [hr] at h; cases h
        | good m' =>
          rw [hr] at h
          simp only [ScanRes.push, ScanRes.good.injEq] at h
          obtain ⟨ts, e, rfl, he, hts, hn2⟩ := ih rest li2 co2 m' (by omega) hr
          subst h
          refine ⟨t :: ts, e, rfl, he, fun u hu => ?_, by simp only [List.length_cons]; omega⟩
          rcases List.mem_cons.1 hu with rfl | hu
          · exact tokS_ok ht
          · exact hts u hu

theorem scan_ok {l : List UInt8} {m : List Tok} (h : scan l = .good m) : ∃ ts e, m = ts ++ [e] ∧ key e = (4, []) ∧ (∀ t ∈ ts, t.ok) ∧ ts.length ≤ l.length := by
  unfold scan at h
  split at h
  · cases h
  · exact scanS_ok l.length l 1 1 m (Nat.le_refl _) h

def gap : Nat → List UInt8
  | 0 => [32]
  | 1 => [9, 10]
  | 2 => [32, 35, 32, 110, 111, 32, 116, 111, 107, 101, 110, 32, 39, 32, 104, 101, 114, 101, 10]
  | _ => [13, 10, 32]
theorem gap_len (g : Nat) : (gap g).length ≤ 19 := by unfold gap; split <;> simp
theorem gap_head (g : Nat) : ∃ b r, gap g = b :: r ∧ isBlank b = true := by unfold gap; split <;> exact ⟨_, _, rfl, by decide⟩
theorem gap_skip (g : Nat) (c : UInt8) (r : List UInt8) (li co : Nat) (h : isBlank c = false) (h' : c ≠ 35) : ∃ li' co', skipS false (gap g ++ c :: r) li co = (c :: r, li', co') := by
  have hb := h
  simp only [isBlank, Bool.or_eq_false_iff, beq_eq_false_iff_ne, ne_eq] at hb
  obtain ⟨⟨⟨h1, h2⟩, h3⟩, h4⟩ := hb
  have hh : (skipS false (gap g ++ c :: r) li co).1 = c :: r := by
    unfold gap
    split <;> simp [skipS, isBlank, h', h1, h2, h3, h4]
  exact ⟨_, _, Prod.ext hh rfl⟩

def blankS (g : Nat → Nat) : Nat → List Tok → List UInt8
  | _, [] => []
  | i, t :: ts => gap (g i) ++ shape t ++ blankS g (i + 1) ts

theorem blankS_snoc (g : Nat → Nat) (t : Tok) : ∀ (ts : List Tok) (i : Nat), blankS g i (ts ++ [t]) = blankS g i ts ++ gap (g (i + ts.length)) ++ shape t
  | [], i => by simp [blankS]
  | u :: ts, i => by
    rw [List.cons_append, blankS, blankS_snoc g t ts (i + 1), blankS, show i + 1 + ts.length = i + (u :: ts).length by simp; omega]
    simp

theorem blankS_len (g : Nat → Nat) : ∀ (ts : List Tok) (i : Nat), (∀ t ∈ ts, t.ok) → (blankS g i ts).length ≤ 85 * ts.length
  | [], i, _ => by simp [blankS]
  | u :: ts, i, h => by
    have h1 := blankS_len g ts (i + 1) (fun t ht => h t (List.mem_cons_of_mem _ ht))
    have h2 := shape_len (h u (List.mem_cons_self ..))
    have h3 := gap_len (g i)
    simp only [blankS, List.length_append, List.length_cons]
    omega

theorem scanS_blank (g : Nat → Nat) : ∀ (ts : List Tok) (i li co : Nat), (∀ t ∈ ts, t.ok) → ∃ m, scanS (blankS g i ts) li co = .good m ∧ m.map key = ts.map key ++ [(4, [])]
  | [], i, li, co, _ => ⟨[⟨4, [], li, co⟩], by rw [scanS_eq]; rfl, rfl⟩
  | u :: ts, i, li, co, h => by
    have hrest : blankS g (i + 1) ts = [] ∨ ∃ b r, blankS g (i + 1) ts = b :: r ∧ isBlank b = true := by
      cases ts with
      | nil => exact .inl rfl
      | cons v ts =>
        obtain ⟨b, r, hb, hbl⟩ := gap_head (g (i + 1))
        exact .inr ⟨b, r ++ shape v ++ blankS g (i + 1 + 1) ts, by rw [blankS, hb]; simp, hbl⟩
    obtain ⟨c, r, hc, hb, h35, htok⟩ := tokS_shape (h u (List.mem_cons_self ..)) _ hrest
    obtain ⟨li1, co1, hsk⟩ := gap_skip (g i) c r li co hb h35
    obtain ⟨t', li2, co2, ht, hkey⟩ := htok li1 co1
    obtain ⟨m, hm, hmk⟩ := scanS_blank g ts (i + 1) li2 co2 (fun t ht => h t (List.mem_cons_of_mem _ ht))
    refine ⟨t' :: m, ?_, by rw [List.map_cons, List.map_cons, hkey, hmk]; rfl⟩
    rw [scanS_eq, blankS, List.append_assoc, hc, hsk]
    simp only [contS]
    rw [ht]
    simp only []
    rw [hm]
    rfl

theorem scan_blankS (g : Nat → Nat) (ts : List Tok) (h : ∀ t ∈ ts, t.ok) (hn : ts.length ≤ 700) : ∃ m, scan (blankS g 0 ts) = .good m ∧ m.map key = ts.map key ++ [(4, [])] := by
  have hl := blankS_len g ts 0 h
  unfold scan
  rw [if_neg (by omega)]
  exact scanS_blank g ts 0 1 1 h
end Go.Proofs.Ytjaampgpihicmaa.Lex
