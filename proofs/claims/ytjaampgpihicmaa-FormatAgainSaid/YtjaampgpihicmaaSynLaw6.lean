/- Plain mathematics of chapter 5 (syntax): a fault has a code. -/
import Derived.Test.YtjaampgpihicmaaSyn14
namespace Go.Proofs.Ytjaampgpihicmaa.Syn
open Lex (Tok Flt)
theorem bind_bad {α β : Type} {r : Option (Res α)} {g : α → Nat → Nat → Option (Res β)} {f : Flt} (h : (r.bind fun r => r.bind g) = some (.bad f)) : r = some (.bad f) ∨ ∃ a i o, r = some (.ok a i o) ∧ g a i o = some (.bad f) := by
  cases r with
  | none => simp at h
  | some x => cases x with
    | ok a i o => exact .inr ⟨a, i, o, rfl, h⟩
    | bad f' =>
      simp [Res.bind] at h
      exact .inl (by rw [h])
theorem bind_bad' {α β : Type} {r : Res α} {g : α → Nat → Nat → Option (Res β)} {f : Flt} (h : r.bind g = some (.bad f)) : r = .bad f ∨ ∃ a i o, r = .ok a i o ∧ g a i o = some (.bad f) := by
  cases r with
  | ok a i o => exact .inr ⟨a, i, o, rfl, h⟩
  | bad f' =>
    simp [Res.bind] at h
    exact .inl (by rw [h])
theorem flt_code {T : List Tok} {i c : Nat} {f : Flt} (h : flt T i c = f) (hc : c ≠ 0) : f.code ≠ 0 := by
  subst h
  exact hc
theorem takeS_code {T : List Tok} {s : List UInt8} {i o : Nat} {f : Flt} (h : takeS T s i o = .bad f) : f.code ≠ 0 := by
  unfold takeS at h
  split at h
  · simp only [Res.bad.injEq] at h; exact flt_code h (by decide)
  · split at h
    · cases h
    · simp only [Res.bad.injEq] at h; exact flt_code h (by decide)
theorem nameS_code {T : List Tok} {i o : Nat} {f : Flt} (h : nameS T i o = .bad f) : f.code ≠ 0 := by
  unfold nameS at h
  split at h
  · simp only [Res.bad.injEq] at h; exact flt_code h (by decide)
  · split at h
    · cases h
    · simp only [Res.bad.injEq] at h; exact flt_code h (by decide)
theorem sufS_code {T : List Tok} {n : Nod} {i o : Nat} {f : Flt} (h : sufS T n i o = .bad f) : f.code ≠ 0 := by
  unfold sufS at h
  split at h
  · simp only [Res.bad.injEq] at h; exact flt_code h (by decide)
  · repeat' split at h
    all_goals cases h
theorem parsed_code (T : List Tok) : ∀ f, (∀ i o e, altF T f i o = some (.bad e) → e.code ≠ 0) ∧ (∀ rows i o e, altM T f rows i o = some (.bad e) → e.code ≠ 0) ∧ (∀ items i o e, rowF T f items i o = some (.bad e) → e.code ≠ 0) ∧
    (∀ i o e, atomF T f i o = some (.bad e) → e.code ≠ 0) ∧ (∀ s i o e, arndF T f s i o = some (.bad e) → e.code ≠ 0)
  | 0 => ⟨fun _ _ _ h => by simp [altF] at h, fun _ _ _ _ h => by simp [altM] at h, fun _ _ _ _ h => by simp [rowF] at h, fun _ _ _ h => by simp [atomF] at h, fun _ _ _ _ h => by simp [arndF] at h⟩
  | f + 1 => by
    obtain ⟨h1, h2, h3, h4, h5⟩ := parsed_code T f
    refine ⟨?_, ?_, ?_, ?_, ?_⟩
    · intro i o e h
      rw [altF] at h
      rcases bind_bad h with h6 | ⟨a, i', o', _, h6⟩
      · exact h3 _ _ _ _ h6
      · exact h2 _ _ _ _ h6
    · intro rows i o e h
      rw [altM] at h
      split at h
      · simp only [Option.some.injEq, Res.bad.injEq] at h; exact flt_code h (by decide)
      split at h
      · rcases bind_bad h with h6 | ⟨a, i', o', _, h6⟩
        · exact h3 _ _ _ _ h6
        · exact h2 _ _ _ _ h6
      · cases h
    · intro items i o e h
      rw [rowF] at h
      rcases bind_bad h with h6 | ⟨a, i', o', _, h6⟩
      · exact h4 _ _ _ h6
      · cases a with
        | none => cases h6
        | some m =>
          rcases bind_bad' h6 with h7 | ⟨b, i2, o2, _, h7⟩
          · exact sufS_code h7
          · exact h3 _ _ _ _ h7
    · intro i o e h
      rw [atomF] at h
      split at h
      · simp only [Option.some.injEq, Res.bad.injEq] at h; exact flt_code h (by decide)
      split at h
      · cases h
      split at h
      · cases h
      split at h
      · rcases bind_bad h with h6 | ⟨a, i', o', _, h6⟩
        · exact h5 _ _ _ _ h6
        · cases h6
      split at h
      · rcases bind_bad h with h6 | ⟨a, i', o', _, h6⟩
        · exact h5 _ _ _ _ h6
        · cases h6
      split at h
      · rcases bind_bad h with h6 | ⟨a, i', o', _, h6⟩
        · exact h5 _ _ _ _ h6
        · cases h6
      · cases h
    · intro s i o e h
      rw [arndF] at h
      split at h
      · simp only [Option.some.injEq, Res.bad.injEq] at h; exact flt_code h (by decide)
      rcases bind_bad h with h6 | ⟨a, i', o', _, h6⟩
      · exact h1 _ _ _ h6
      · rcases bind_bad' h6 with h7 | ⟨b, i2, o2, _, h7⟩
        · exact takeS_code h7
        · cases h7
theorem ruleS_code {T : List Tok} {f i o : Nat} {e : Flt} (h : ruleS T f i o = some (.bad e)) : e.code ≠ 0 := by
  unfold ruleS at h
  rcases bind_bad' h with h1 | ⟨_, _, _, _, h1⟩
  · exact nameS_code h1
  rcases bind_bad' h1 with h2 | ⟨_, _, _, _, h2⟩
  · exact takeS_code h2
  rcases bind_bad h2 with h3 | ⟨_, _, _, _, h3⟩
  · exact (parsed_code T f).1 _ _ _ h3
  rcases bind_bad' h3 with h4 | ⟨_, _, _, _, h4⟩
  · exact takeS_code h4
  · cases h4
theorem rulesF_code {T : List Tok} : ∀ {f : Nat} {rs : List (List UInt8 × Nod)} {i : Nat} {e : Flt}, rulesF T f rs i 0 = some (.bad e) → e.code ≠ 0
  | 0, _, _, _, h => by simp [rulesF] at h
  | f + 1, rs, i, e, h => by
    rw [rules_step] at h
    split at h
    · simp only [Option.some.injEq, Res.bad.injEq] at h; exact flt_code h (by decide)
    split at h
    · cases h
    split at h
    · simp only [Option.some.injEq, Res.bad.injEq] at h; exact flt_code h (by decide)
    rcases bind_bad h with h1 | ⟨x, i4, o4, h0, h1⟩
    · exact ruleS_code h1
    · obtain ⟨k, _, _, _, _, _, _, _, e5⟩ := ruleS_parts h0
      subst e5
      exact rulesF_code h1
theorem parse_code {l : List UInt8} {e : Flt} (h : parseS l = .bad e) : e.code ≠ 0 := by
  unfold parseS at h
  cases hs : Lex.scan l with
  | bad f =>
    rw [hs] at h
    simp only [PRes.bad.injEq] at h
    rw [← h]
    exact Lex.scan_code hs
  | good T =>
    rw [hs] at h
    simp only [] at h
    unfold parseT at h
    cases hh : headS T with
    | bad f =>
      rw [hh] at h
      simp only [PRes.bad.injEq] at h
      subst h
      unfold headS at hh
      split at hh
      · simp only [Res.bad.injEq] at hh; exact flt_code hh (by decide)
      split at hh
      · cases hn : nameS T 1 0 with
        | bad f => rw [hn] at hh; simp only [Res.bad.injEq] at hh; rw [← hh]; exact nameS_code hn
        | ok nm i1 o1 =>
          rw [hn] at hh
          simp only [] at hh
          cases ht : takeS T [59] i1 o1 with
          | bad f => rw [ht] at hh; simp only [Res.bad.injEq] at hh; rw [← hh]; exact takeS_code ht
          | ok u i2 o2 => rw [ht] at hh; cases hh
      · cases hh
    | ok st i o =>
      rw [hh] at h
      simp only [] at h
      obtain ⟨x, hx, _⟩ := rules_fine T (5 * T.length + 6) [] i 0 (by omega)
      rw [hx] at h
      cases x with
      | ok rs j p => cases h
      | bad f =>
        simp only [PRes.bad.injEq] at h
        subst h
        exact rulesF_code hx
theorem parse_good {l st : List UInt8} {rs : List (List UInt8 × Nod)} (h : parseS l = .ok st rs) : ∃ T, Lex.scan l = .good T := by
  unfold parseS at h
  cases hs : Lex.scan l with
  | bad f => rw [hs] at h; cases h
  | good T => exact ⟨T, rfl⟩
end Go.Proofs.Ytjaampgpihicmaa.Syn
