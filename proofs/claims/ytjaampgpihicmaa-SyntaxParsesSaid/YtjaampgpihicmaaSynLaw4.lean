/- Plain mathematics of chapter 5 (syntax): what is read can be a text. -/
import Derived.Test.YtjaampgpihicmaaSynLaw3
namespace Go.Proofs.Ytjaampgpihicmaa.Syn
open Lex (Tok Flt)

def goodL (l : List UInt8) : Bool := (decide (0 < l.length) && decide (l.length ≤ 32)) && ((l.head?.map Lex.isLetter).getD false && l.all Lex.isRest)
/-- May a node have so many kids, and such a text? -/
def fitN (k : Nat) (t : List UInt8) (n : Nat) : Bool :=
  if k = 1 then goodL t && n == 0 else if k = 2 then (t != [] && decide (t.length ≤ 16)) && n == 0
  else ((if k = 3 then n != 1 else if k = 4 then decide (1 < n) else (k == 5 || k == 6 || k == 7) && n == 1) && t == [])
/-- Nodes that can be in a text. -/
def Nd.proper : Nd → Bool
  | .nil => true
  | .cons k t kids r => (fitN k t kids.len && kids.proper) && r.proper
def Nod.proper (n : Nod) : Bool := fitN n.kind n.text n.kids.len && n.kids.proper
theorem Nod.row_proper (n : Nod) : n.row.proper = n.proper := by simp [Nod.row, Nd.proper, Nod.proper]
theorem Nd.proper_app : ∀ f g : Nd, (f.app g).proper = (f.proper && g.proper)
  | .nil, g => by simp [Nd.app, Nd.proper]
  | .cons a b k r, g => by simp only [Nd.app, Nd.proper]; rw [Nd.proper_app r g, Bool.and_assoc, Bool.and_assoc, Bool.and_assoc]
theorem pack3_proper {f : Nd} (h : f.proper = true) : (pack 3 f).proper = true := by
  match f, h with
  | .nil, _ => rfl
  | .cons a b c .nil, h => simpa [pack, Nd.proper, Nod.proper] using h
  | .cons a b c (.cons a' b' c' r), h =>
    have hl : (Nd.cons a b c (.cons a' b' c' r)).len ≠ 1 := by simp [Nd.len]
    unfold pack Nod.proper
    simp only [h, Bool.and_true, fitN]
    simp [hl]
theorem pack4_proper {f : Nd} (h : f.proper = true) (hn : 0 < f.len) : (pack 4 f).proper = true := by
  match f, h with
  | .nil, _ => simp [Nd.len] at hn
  | .cons a b c .nil, h => simpa [pack, Nd.proper, Nod.proper] using h
  | .cons a b c (.cons a' b' c' r), h =>
    have hl : 1 < (Nd.cons a b c (.cons a' b' c' r)).len := by simp [Nd.len]
    unfold pack Nod.proper
    simp only [h, Bool.and_true, fitN]
    simp [hl]
/-- Tokens that were scanned. -/
def Toks (T : List Tok) : Prop := ∀ i, ((tk T i).kind = 1 → goodL (tk T i).text = true) ∧ ((tk T i).kind = 2 → (tk T i).text ≠ [] ∧ (tk T i).text.length ≤ 16)
theorem Toks.of {T : List Tok} (h : ∃ ts e, T = ts ++ [e] ∧ Lex.key e = (4, []) ∧ ∀ t ∈ ts, t.ok) : Toks T := by
  obtain ⟨ts, e, rfl, he, hts⟩ := h
  have hek : e.kind = 4 := congrArg Prod.fst he
  intro i
  rcases Nat.lt_or_ge i ts.length with h1 | h1
  · have e1 : tk (ts ++ [e]) i = ts[i] := by rw [tk_app h1]; unfold tk; rw [List.getD, List.getElem?_eq_getElem h1]; rfl
    rw [e1]
    rcases hts _ (List.getElem_mem h1) with ⟨a, b, c, d, r, e2, e3⟩ | ⟨a, b, c⟩ | ⟨a, _⟩
    · refine ⟨fun _ => ?_, fun h => by omega⟩
      unfold goodL
      have hl : 0 < (ts[i]).text.length := by rw [e2]; simp
      have hh : (ts[i]).text.head? = some d := by rw [e2]; rfl
      have ha : (ts[i]).text.all Lex.isRest = true := List.all_eq_true.2 c
      simp [hl, b, hh, e3, ha]
    · exact ⟨fun h => by omega, fun _ => ⟨b, c⟩⟩
    · exact ⟨fun h => by omega, fun h => by omega⟩
  · have e1 : (tk (ts ++ [e]) i).kind = 4 := by
      rcases Nat.lt_or_ge i (ts.length + 1) with h2 | h2
      · have : i = 0 + ts.length := by omega
        rw [this, tk_app']
        exact hek
      · exact tk_end (by simp; omega)
    exact ⟨fun h => by omega, fun h => by omega⟩
theorem fit_wrap {k : Nat} (hk : k = 5 ∨ k = 6 ∨ k = 7) {n : Nod} (h : n.proper = true) : Nod.proper ⟨k, [], n.row⟩ = true := by
  have h1 : n.row.len = 1 := rfl
  have h2 : n.row.proper = true := by rw [Nod.row_proper]; exact h
  unfold Nod.proper fitN
  rcases hk with rfl | rfl | rfl <;> simp [h1, h2]
theorem sufS_proper {T : List Tok} {n m : Nod} {i o j p : Nat} (h : sufS T n i o = .ok m j p) (hn : n.proper = true) : m.proper = true := by
  unfold sufS at h
  split at h
  · cases h
  split at h
  · cases h; exact fit_wrap (.inl rfl) hn
  split at h
  · cases h; exact fit_wrap (.inr (.inl rfl)) hn
  split at h
  · cases h; exact fit_wrap (.inr (.inr rfl)) hn
  · cases h; exact hn
theorem parsed_proper {T : List Tok} (hT : Toks T) : ∀ f, (∀ i o n j p, altF T f i o = some (.ok n j p) → n.proper = true) ∧ (∀ rows i o n j p, rows.proper = true → 0 < rows.len → altM T f rows i o = some (.ok n j p) → n.proper = true) ∧
    (∀ items i o n j p, items.proper = true → rowF T f items i o = some (.ok n j p) → n.proper = true) ∧ (∀ i o n j p, atomF T f i o = some (.ok (some n) j p) → n.proper = true) ∧ (∀ e i o n j p, arndF T f e i o = some (.ok n j p) → n.proper = true)
  | 0 => ⟨fun _ _ _ _ _ h => by simp [altF] at h, fun _ _ _ _ _ _ _ _ h => by simp [altM] at h, fun _ _ _ _ _ _ _ h => by simp [rowF] at h, fun _ _ _ _ _ h => by simp [atomF] at h, fun _ _ _ _ _ _ h => by simp [arndF] at h⟩
  | f + 1 => by
    obtain ⟨h1, h2, h3, h4, h5⟩ := parsed_proper hT f
    refine ⟨?_, ?_, ?_, ?_, ?_⟩
    · intro i o n j p h
      rw [altF] at h
      obtain ⟨a, i', o', e1, e2⟩ := bind_ok h
      have ha := h3 _ _ _ _ _ _ rfl e1
      exact h2 _ _ _ _ _ _ (by rw [Nod.row_proper]; exact ha) (by simp [Nod.row, Nd.len]) e2
    · intro rows i o n j p hr hl h
      rw [altM] at h
      split at h
      · cases h
      split at h
      · obtain ⟨a, i', o', e1, e2⟩ := bind_ok h
        have ha := h3 _ _ _ _ _ _ rfl e1
        exact h2 _ _ _ _ _ _ (by rw [Nd.proper_app, hr, Nod.row_proper, ha]; rfl) (by rw [Nd.len_app]; omega) e2
      · cases h
        exact pack4_proper hr hl
    · intro items i o n j p hr h
      rw [rowF] at h
      obtain ⟨a, i', o', e1, e2⟩ := bind_ok h
      cases a with
      | none =>
        cases e2
        exact pack3_proper hr
      | some m =>
        have hm := h4 _ _ _ _ _ e1
        obtain ⟨m', i2, o2, e4, e5⟩ := bind_ok' e2
        have hm' := sufS_proper e4 hm
        exact h3 _ _ _ _ _ _ (by rw [Nd.proper_app, hr, Nod.row_proper, hm']; rfl) e5
    · intro i o n j p h
      rw [atomF] at h
      split at h
      · cases h
      split at h
      · rename_i hk
        cases h
        simp [Nod.proper, fitN, Nd.len, Nd.proper, (hT i).1 hk]
      split at h
      · rename_i hk
        cases h
        have := (hT i).2 hk
        simp [Nod.proper, fitN, Nd.len, Nd.proper, this]
      split at h
      · obtain ⟨a, i', o', e1, e2⟩ := bind_ok h
        cases e2
        exact h5 _ _ _ _ _ _ e1
      split at h
      · obtain ⟨a, i', o', e1, e2⟩ := bind_ok h
        cases e2
        exact fit_wrap (.inl rfl) (h5 _ _ _ _ _ _ e1)
      split at h
      · obtain ⟨a, i', o', e1, e2⟩ := bind_ok h
        cases e2
        exact fit_wrap (.inr (.inl rfl)) (h5 _ _ _ _ _ _ e1)
      · cases h
    · intro e i o n j p h
      rw [arndF] at h
      split at h
      · cases h
      obtain ⟨a, i', o', e1, e2⟩ := bind_ok h
      obtain ⟨u, i2, o2, e3, e4⟩ := bind_ok' e2
      cases e4
      exact h1 _ _ _ _ _ e1
theorem rules_proper {T : List Tok} (hT : Toks T) : ∀ {xs : List (List UInt8 × Nod)} {i j : Nat}, RulesAt T i xs j → ∀ x ∈ xs, goodL x.1 = true ∧ x.2.proper = true
  | [], _, _, _, x, hx => by simp at hx
  | y :: ys, i, j, ⟨k, ⟨f, h1⟩, h2⟩, x, hx => by
    obtain ⟨q, e0, e1, _, _, e3, _, _, _⟩ := ruleS_parts h1
    rcases List.mem_cons.1 hx with rfl | hx
    · exact ⟨by rw [e1]; exact (hT i).1 e0, (parsed_proper hT f).1 _ _ _ _ _ e3⟩
    · exact rules_proper hT h2 x hx
/-- A text's grammar can be a text. -/
theorem parse_proper {l st : List UInt8} {rs : List (List UInt8 × Nod)} (h : parseS l = .ok st rs) : goodL st = true ∧ rs ≠ [] ∧ rs.length ≤ 64 ∧ ∀ x ∈ rs, goodL x.1 = true ∧ x.2.proper = true := by
  unfold parseS at h
  cases hs : Lex.scan l with
  | bad f => rw [hs] at h; cases h
  | good T =>
    rw [hs] at h
    simp only [] at h
    obtain ⟨ts, e, h1, h2, h3, _⟩ := Lex.scan_ok hs
    have hT : Toks T := Toks.of ⟨ts, e, h1, h2, h3⟩
    obtain ⟨st0, i, j, hr, rfl⟩ := parseT_read h
    have hp := rules_proper hT hr.rules
    refine ⟨?_, hr.some, hr.most, hp⟩
    unfold startOr
    split
    · cases rs with
      | nil => exact absurd rfl hr.some
      | cons x xs => exact (hp x (List.mem_cons_self ..)).1
    · rename_i hne
      rcases hr.head with ⟨_, h4, _⟩ | ⟨_, _, h4, h5, _⟩
      · exact absurd h4 hne
      · rw [h5]; exact (hT 1).1 h4
end Go.Proofs.Ytjaampgpihicmaa.Syn
