/- Plain mathematics of chapter 5 (syntax): the grammar of a row of tokens, or the fault. No program in sight. -/
import Derived.Test.YtjaampgpihicmaaLexQ0
namespace Go.Proofs.Ytjaampgpihicmaa.Syn

/-- Nodes in a row: the first one's kids, the ones behind it. -/
inductive Nd where
  | nil
  | cons (kind : Nat) (text : List UInt8) (kids rest : Nd)
namespace Nd
def len : Nd → Nat
  | nil => 0
  | cons _ _ _ r => r.len + 1
def app : Nd → Nd → Nd
  | nil, g => g
  | cons a b k r, g => cons a b k (r.app g)
theorem len_app : ∀ f g : Nd, (f.app g).len = f.len + g.len
  | nil, g => by simp [app, len]
  | cons a b k r, g => by rw [app, len, len, len_app r g]; omega
theorem app_nil : ∀ f : Nd, f.app nil = f
  | nil => rfl
  | cons a b k r => by rw [app, app_nil r]
theorem app_assoc : ∀ f g h : Nd, (f.app g).app h = f.app (g.app h)
  | nil, _, _ => rfl
  | cons a b k r, g, h => by rw [app, app, app, app_assoc r g h]
end Nd
/-- One node. -/
structure Nod where
  kind : Nat
  text : List UInt8
  kids : Nd
def Nod.row (n : Nod) : Nd := .cons n.kind n.text n.kids .nil
/-- One alone, or all of them under a kind. -/
def pack (k : Nat) : Nd → Nod
  | .cons a b c .nil => ⟨a, b, c⟩
  | x => ⟨k, [], x⟩
/-- What is read, the place behind it and the brackets that are open; or the fault. -/
inductive Res (α : Type) where
  | ok (a : α) (i o : Nat)
  | bad (f : Lex.Flt)
def Res.bind {α β : Type} (r : Res α) (g : α → Nat → Nat → Option (Res β)) : Option (Res β) :=
  match r with
  | .ok a i o => g a i o
  | .bad f => some (.bad f)
def tk (T : List Lex.Tok) (i : Nat) : Lex.Tok := T.getD i ⟨4, [], 0, 0⟩
def flt (T : List Lex.Tok) (i c : Nat) : Lex.Flt := ⟨(tk T i).line, (tk T i).col, c⟩
/-- Too many tokens. -/
def far (T : List Lex.Tok) (i : Nat) : Bool := decide (4096 ≤ i) && (tk T i).kind != 4
def isS (T : List Lex.Tok) (i : Nat) (s : List UInt8) : Bool := (tk T i).kind == 3 && (tk T i).text == s
def takeS (T : List Lex.Tok) (s : List UInt8) (i o : Nat) : Res Unit := if far T i then .bad (flt T i 6) else if isS T i s then .ok () (i + 1) o else .bad (flt T i 2)
def nameS (T : List Lex.Tok) (i o : Nat) : Res (List UInt8) := if far T i then .bad (flt T i 6) else if (tk T i).kind = 1 then .ok (tk T i).text (i + 1) o else .bad (flt T i 2)
/-- What may stand behind an item. -/
def sufS (T : List Lex.Tok) (n : Nod) (i o : Nat) : Res Nod :=
  if far T i then .bad (flt T i 6) else if isS T i [63] then .ok ⟨5, [], n.row⟩ (i + 1) o else if isS T i [42] then .ok ⟨6, [], n.row⟩ (i + 1) o else if isS T i [43] then .ok ⟨7, [], n.row⟩ (i + 1) o else .ok n i o
mutual
def altF (T : List Lex.Tok) : Nat → Nat → Nat → Option (Res Nod)
  | 0, _, _ => none
  | f + 1, i, o => (rowF T f .nil i o).bind fun r => r.bind fun n i' o' => altM T f n.row i' o'
def altM (T : List Lex.Tok) : Nat → Nd → Nat → Nat → Option (Res Nod)
  | 0, _, _, _ => none
  | f + 1, rows, i, o => if far T i then some (.bad (flt T i 6)) else if isS T i [124] then (rowF T f .nil (i + 1) o).bind fun r => r.bind fun n i' o' => altM T f (rows.app n.row) i' o' else some (.ok (pack 4 rows) i o)
def rowF (T : List Lex.Tok) : Nat → Nd → Nat → Nat → Option (Res Nod)
  | 0, _, _, _ => none
  | f + 1, items, i, o => (atomF T f i o).bind fun r => r.bind fun n i' o' =>
    match n with
    | none => some (.ok (pack 3 items) i' o')
    | some n => (sufS T n i' o').bind fun n' i'' o'' => rowF T f (items.app n'.row) i'' o''
def atomF (T : List Lex.Tok) : Nat → Nat → Nat → Option (Res (Option Nod))
  | 0, _, _ => none
  | f + 1, i, o =>
    if far T i then some (.bad (flt T i 6))
    else if (tk T i).kind = 1 then some (.ok (some ⟨1, (tk T i).text, .nil⟩) (i + 1) o)
    else if (tk T i).kind = 2 then some (.ok (some ⟨2, (tk T i).text, .nil⟩) (i + 1) o)
    else if isS T i [40] then (arndF T f [41] i o).bind fun r => r.bind fun n i' o' => some (.ok (some n) i' o')
    else if isS T i [91] then (arndF T f [93] i o).bind fun r => r.bind fun n i' o' => some (.ok (some ⟨5, [], n.row⟩) i' o')
    else if isS T i [123] then (arndF T f [125] i o).bind fun r => r.bind fun n i' o' => some (.ok (some ⟨6, [], n.row⟩) i' o')
    else some (.ok none i o)
def arndF (T : List Lex.Tok) : Nat → List UInt8 → Nat → Nat → Option (Res Nod)
  | 0, _, _, _ => none
  | f + 1, e, i, o => if o = 16 then some (.bad (flt T i 11)) else (altF T f (i + 1) (o + 1)).bind fun r => r.bind fun n i' o' => (takeS T e i' o').bind fun _ i'' o'' => some (.ok n i'' (o'' - 1))
end
/-- Rules: names and bodies. -/
def rulesF (T : List Lex.Tok) : Nat → List (List UInt8 × Nod) → Nat → Nat → Option (Res (List (List UInt8 × Nod)))
  | 0, _, _, _ => none
  | f + 1, rs, i, o =>
    if far T i then some (.bad (flt T i 6))
    else if rs ≠ [] ∧ (tk T i).kind = 4 then some (.ok rs i o)
    else if (tk T i).kind = 1 ∧ rs.length = 64 then some (.bad (flt T i 6))
    else (nameS T i o).bind fun nm i1 o1 => (takeS T [58] i1 o1).bind fun _ i2 o2 => (altF T f i2 o2).bind fun r => r.bind fun b i3 o3 => (takeS T [59] i3 o3).bind fun _ i4 o4 => rulesF T f (rs ++ [(nm, b)]) i4 o4
/-- Ahead of the rules: the start, if it is named. -/
def headS (T : List Lex.Tok) : Res (List UInt8) :=
  if far T 0 then .bad (flt T 0 6)
  else if isS T 0 [37] then
    match nameS T 1 0 with
    | .ok nm i o => match takeS T [59] i o with
      | .ok _ i' o' => .ok nm i' o'
      | .bad f => .bad f
    | .bad f => .bad f
  else .ok [] 0 0
def fuel (T : List Lex.Tok) (i : Nat) : Nat := 5 * (T.length - i) + 5

theorem tk_end {T : List Lex.Tok} {i : Nat} (h : T.length ≤ i) : (tk T i).kind = 4 := by
  unfold tk
  rw [List.getD, List.getElem?_eq_none h]
  rfl
theorem lt_of_kind {T : List Lex.Tok} {i : Nat} (h : (tk T i).kind ≠ 4) : i < T.length := by
  rcases Nat.lt_or_ge i T.length with h1 | h1
  · exact h1
  · exact absurd (tk_end h1) h
theorem lt_of_isS {T : List Lex.Tok} {i : Nat} {s : List UInt8} (h : isS T i s = true) : i < T.length := by
  unfold isS at h
  simp at h
  exact lt_of_kind (by omega)
/-- It ends, and goes on. -/
def Fine {α : Type} (i : Nat) (r : Option (Res α)) : Prop := ∃ x, r = some x ∧ ∀ a i' o', x = .ok a i' o' → i ≤ i'
theorem Fine.bad {α : Type} {i : Nat} {f : Lex.Flt} : Fine (α := α) i (some (.bad f)) := ⟨_, rfl, fun _ _ _ h => by cases h⟩
theorem Fine.ok {α : Type} {i j o : Nat} {a : α} (h : i ≤ j) : Fine i (some (.ok a j o)) := ⟨_, rfl, fun _ _ _ e => by cases e; exact h⟩
theorem Fine.bind {α β : Type} {i j : Nat} {r : Option (Res α)} {g : α → Nat → Nat → Option (Res β)} (h : Fine j r) (hg : ∀ a i' o', j ≤ i' → Fine i (g a i' o')) : Fine i (r.bind fun r => r.bind g) := by
  obtain ⟨x, rfl, hx⟩ := h
  cases x with
  | ok a i' o' => exact hg a i' o' (hx a i' o' rfl)
  | bad f => exact Fine.bad
theorem Fine.mono {α : Type} {i j : Nat} {r : Option (Res α)} (h : Fine j r) (hij : i ≤ j) : Fine i r := by
  obtain ⟨x, h1, h2⟩ := h
  exact ⟨x, h1, fun a i' o' e => Nat.le_trans hij (h2 a i' o' e)⟩
theorem suf_fine {β : Type} {T : List Lex.Tok} {n : Nod} {i j o : Nat} {g : Nod → Nat → Nat → Option (Res β)} (hg : ∀ a i' o', i ≤ i' → Fine j (g a i' o')) : Fine j ((sufS T n i o).bind g) := by
  unfold sufS
  split
  · exact Fine.bad
  · split
    · exact hg _ _ _ (by omega)
    · split
      · exact hg _ _ _ (by omega)
      · split
        · exact hg _ _ _ (by omega)
        · exact hg _ _ _ (by omega)
theorem take_fine {β : Type} {T : List Lex.Tok} {s : List UInt8} {i j o : Nat} {g : Unit → Nat → Nat → Option (Res β)} (hg : ∀ i' o', i < i' → Fine j (g () i' o')) : Fine j ((takeS T s i o).bind g) := by
  unfold takeS
  split
  · exact Fine.bad
  · split
    · exact hg _ _ (by omega)
    · exact Fine.bad
theorem fine (T : List Lex.Tok) : ∀ f : Nat,
    (∀ i o, 5 * (T.length - i) + 5 ≤ f → Fine i (altF T f i o)) ∧ (∀ rows i o, 5 * (T.length - i) + 4 ≤ f → Fine i (altM T f rows i o)) ∧ (∀ items i o, 5 * (T.length - i) + 3 ≤ f → Fine i (rowF T f items i o)) ∧
    (∀ i o, 5 * (T.length - i) + 2 ≤ f → ∃ x, atomF T f i o = some x ∧ ∀ a i' o', x = .ok a i' o' → i ≤ i' ∧ (a ≠ none → i < i' ∧ i < T.length)) ∧ (∀ e i o, i < T.length → 5 * (T.length - i) + 1 ≤ f → ∃ x, arndF T f e i o = some x ∧ ∀ a i' o', x = .ok a i' o' → i < i')
  | 0 => ⟨fun _ _ h => by omega, fun _ _ _ h => by omega, fun _ _ _ h => by omega, fun _ _ h => by omega, fun _ _ _ _ h => by omega⟩
  | f + 1 => by
    obtain ⟨h1, h2, h3, h4, h5⟩ := fine T f
    refine ⟨fun i o h => ?_, fun rows i o h => ?_, fun items i o h => ?_, fun i o h => ?_, fun e i o hi h => ?_⟩
    · rw [altF]
      exact (h3 .nil i o (by omega)).bind fun n i' o' hi => (h2 _ i' o' (by omega)).mono hi
    · rw [altM]
      split
      · exact Fine.bad
      · split
        · rename_i hs
          have hlt := lt_of_isS hs
          exact (h3 .nil (i + 1) o (by omega)).bind fun n i' o' hi => (h2 _ i' o' (by omega)).mono (by omega)
        · exact Fine.ok (Nat.le_refl _)
    · rw [rowF]
      obtain ⟨x, hx, hx2⟩ := h4 i o (by omega)
      rw [hx]
      cases x with
      | bad e => exact Fine.bad
      | ok a i' o' =>
        obtain ⟨h6, h7⟩ := hx2 a i' o' rfl
        cases a with
        | none => exact Fine.ok h6
        | some n =>
          obtain ⟨h8, h9⟩ := h7 (by simp)
          exact suf_fine fun n' i'' o'' hi => (h3 _ i'' o'' (by omega)).mono (by omega)
    · rw [atomF]
      split
      · exact ⟨_, rfl, fun _ _ _ h => by cases h⟩
      · split
        · rename_i hk
          exact ⟨_, rfl, fun _ _ _ h => by cases h; exact ⟨by omega, fun _ => ⟨by omega, lt_of_kind (by omega)⟩⟩⟩
        · split
          · rename_i hk
            exact ⟨_, rfl, fun _ _ _ h => by cases h; exact ⟨by omega, fun _ => ⟨by omega, lt_of_kind (by omega)⟩⟩⟩
          · split
            · rename_i hs
              have hlt := lt_of_isS hs
              obtain ⟨x, hx, hx2⟩ := h5 [41] i o hlt (by omega)
              rw [hx]
              cases x with
              | bad e => exact ⟨_, rfl, fun _ _ _ h => by cases h⟩
              | ok a i' o' => exact ⟨_, rfl, fun _ _ _ h => by have := hx2 a i' o' rfl; cases h; exact ⟨by omega, fun _ => ⟨by omega, hlt⟩⟩⟩
            · split
              · rename_i hs
                have hlt := lt_of_isS hs
                obtain ⟨x, hx, hx2⟩ := h5 [93] i o hlt (by omega)
                rw [hx]
                cases x with
                | bad e => exact ⟨_, rfl, fun _ _ _ h => by cases h⟩
                | ok a i' o' => exact ⟨_, rfl, fun _ _ _ h => by have := hx2 a i' o' rfl; cases h; exact ⟨by omega, fun _ => ⟨by omega, hlt⟩⟩⟩
              · split
                · rename_i hs
                  have hlt := lt_of_isS hs
                  obtain ⟨x, hx, hx2⟩ := h5 [125] i o hlt (by omega)
                  rw [hx]
                  cases x with
                  | bad e => exact ⟨_, rfl, fun _ _ _ h => by cases h⟩
                  | ok a i' o' => exact ⟨_, rfl, fun _ _ _ h => by have := hx2 a i' o' rfl; cases h; exact ⟨by omega, fun _ => ⟨by omega, hlt⟩⟩⟩
                · exact ⟨_, rfl, fun _ _ _ h => by cases h; exact ⟨Nat.le_refl _, fun h => absurd rfl h⟩⟩
    · rw [arndF]
      split
      · exact ⟨_, rfl, fun _ _ _ h => by cases h⟩
      · have h6 := h1 (i + 1) (o + 1) (by omega)
        have h7 : Fine (i + 1) ((altF T f (i + 1) (o + 1)).bind fun r => r.bind fun n i' o' => (takeS T e i' o').bind fun _ i'' o'' => some (.ok n i'' (o'' - 1))) := h6.bind fun n i' o' hi => take_fine fun i'' o'' hi2 => Fine.ok (by omega)
        obtain ⟨x, hx, hx2⟩ := h7
        exact ⟨x, hx, fun a i' o' e => by have := hx2 a i' o' e; omega⟩
theorem rules_fine (T : List Lex.Tok) : ∀ (f : Nat) rs i o, 5 * (T.length - i) + 6 ≤ f → Fine i (rulesF T f rs i o)
  | 0, _, _, _, h => by omega
  | f + 1, rs, i, o, h => by
    rw [rulesF]
    split
    · exact Fine.bad
    · split
      · exact Fine.ok (Nat.le_refl _)
      · split
        · exact Fine.bad
        · unfold nameS
          split
          · exact Fine.bad
          · split
            · rename_i hk
              have hlt := lt_of_kind (T := T) (i := i) (by omega)
              exact take_fine fun i2 o2 hi2 => ((fine T f).1 i2 o2 (by omega)).bind (i := i) fun b i3 o3 hi3 => take_fine fun i4 o4 hi4 => (rules_fine T f _ i4 o4 (by omega)).mono (by omega)
            · exact Fine.bad
end Go.Proofs.Ytjaampgpihicmaa.Syn
