/- Plain mathematics of chapter 5 (syntax): what is read has no more nodes than twice its tokens. -/
import Derived.Test.YtjaampgpihicmaaSynLaw5
namespace Go.Proofs.Ytjaampgpihicmaa.Syn
open Lex (Tok Flt)

/-- A node with all that is below it. -/
def Nod.all (n : Nod) : Nat := 1 + n.kids.nodes
theorem Nd.nodes_app : ∀ f g : Nd, (f.app g).nodes = f.nodes + g.nodes
  | .nil, g => by simp [Nd.app, Nd.nodes]
  | .cons a b k r, g => by
    rw [Nd.app, Nd.nodes, Nd.nodes_app r g, Nd.nodes]
    omega
theorem Nod.row_nodes (n : Nod) : n.row.nodes = n.all := by simp [Nod.row, Nd.nodes, Nod.all]
theorem pack_all (k : Nat) (f : Nd) : (pack k f).all ≤ f.nodes + 1 := by
  match f with
  | .nil => simp [pack, Nod.all, Nd.nodes]
  | .cons a b c .nil => simp [pack, Nod.all, Nd.nodes]
  | .cons a b c (.cons a' b' c' r) => simp [pack, Nod.all]; omega
theorem sufS_all {T : List Tok} {n m : Nod} {i o j p : Nat} (h : sufS T n i o = .ok m j p) : m.all ≤ n.all + (j - i) ∧ i ≤ j := by
  unfold sufS at h
  have hw : ∀ k, Nod.all ⟨k, [], n.row⟩ = n.all + 1 := fun k => by
    show 1 + n.row.nodes = n.all + 1
    rw [Nod.row_nodes]
    omega
  split at h
  · cases h
  split at h
  · cases h; rw [hw]; omega
  split at h
  · cases h; rw [hw]; omega
  split at h
  · cases h; rw [hw]; omega
  · cases h; omega
theorem parsed_all (T : List Tok) : ∀ f, (∀ i o n j p, altF T f i o = some (.ok n j p) → n.all ≤ 2 * (j - i) + 2 ∧ i ≤ j) ∧ (∀ rows i o n j p, altM T f rows i o = some (.ok n j p) → n.all ≤ rows.nodes + 1 + 2 * (j - i) ∧ i ≤ j) ∧
    (∀ items i o n j p, rowF T f items i o = some (.ok n j p) → n.all ≤ items.nodes + 1 + 2 * (j - i) ∧ i ≤ j) ∧ (∀ i o n j p, atomF T f i o = some (.ok (some n) j p) → n.all ≤ 2 * (j - i) ∧ i < j) ∧ (∀ e i o n j p, arndF T f e i o = some (.ok n j p) → n.all + 2 ≤ 2 * (j - i) ∧ i + 2 ≤ j)
  | 0 => ⟨fun _ _ _ _ _ h => by simp [altF] at h, fun _ _ _ _ _ _ h => by simp [altM] at h, fun _ _ _ _ _ _ h => by simp [rowF] at h, fun _ _ _ _ _ h => by simp [atomF] at h, fun _ _ _ _ _ _ h => by simp [arndF] at h⟩
  | f + 1 => by
    obtain ⟨h1, h2, h3, h4, h5⟩ := parsed_all T f
    refine ⟨?_, ?_, ?_, ?_, ?_⟩
    · intro i o n j p h
      rw [altF] at h
      obtain ⟨a, i', o', e1, e2⟩ := bind_ok h
      have ha := h3 .nil _ _ _ _ _ e1
      have hb := h2 _ _ _ _ _ _ e2
      rw [Nod.row_nodes] at hb
      simp only [Nd.nodes] at ha
      omega
    · intro rows i o n j p h
      rw [altM] at h
      split at h
      · cases h
      split at h
      · obtain ⟨a, i', o', e1, e2⟩ := bind_ok h
        have ha := h3 .nil _ _ _ _ _ e1
        have hb := h2 _ _ _ _ _ _ e2
        rw [Nd.nodes_app, Nod.row_nodes] at hb
        simp only [Nd.nodes] at ha
        omega
      · cases h
        have := pack_all 4 rows
        omega
    · intro items i o n j p h
      rw [rowF] at h
      obtain ⟨a, i', o', e1, e2⟩ := bind_ok h
      cases a with
      | none =>
        cases e2
        have := pack_all 3 items
        have hle := ((agree_all T T 0 f).2.2.2.1 _ _ _ _ _ e1).1
        omega
      | some m =>
        have hm1 := h4 _ _ _ _ _ e1
        obtain ⟨m', i2, o2, e4, e5⟩ := bind_ok' e2
        have hm' := sufS_all e4
        have hr := h3 _ _ _ _ _ _ e5
        rw [Nd.nodes_app, Nod.row_nodes] at hr
        omega
    · intro i o n j p h
      have wrap : ∀ (a : Nod) k, Nod.all ⟨k, [], a.row⟩ = a.all + 1 := fun a k => by
        show 1 + a.row.nodes = a.all + 1
        rw [Nod.row_nodes]
        omega
      rw [atomF] at h
      split at h
      · cases h
      split at h
      · cases h; simp [Nod.all, Nd.nodes]
      split at h
      · cases h; simp [Nod.all, Nd.nodes]
      split at h
      · obtain ⟨a, i', o', e1, e2⟩ := bind_ok h
        cases e2
        have := h5 _ _ _ _ _ _ e1
        omega
      split at h
      · obtain ⟨a, i', o', e1, e2⟩ := bind_ok h
        cases e2
        have := h5 _ _ _ _ _ _ e1
        rw [wrap]
        omega
      split at h
      · obtain ⟨a, i', o', e1, e2⟩ := bind_ok h
        cases e2
        have := h5 _ _ _ _ _ _ e1
        rw [wrap]
        omega
      · cases h
    · intro e i o n j p h
      rw [arndF] at h
      split at h
      · cases h
      obtain ⟨a, i', o', e1, e2⟩ := bind_ok h
      obtain ⟨u, i2, o2, e3, e4⟩ := bind_ok' e2
      cases e4
      have ha := h1 _ _ _ _ _ e1
      have hb := (takeS_ok e3).2.1
      omega
/-- What the rules' bodies come to. -/
def bodies : List (List UInt8 × Nod) → Nat
  | [] => 0
  | x :: r => x.2.kids.nodes + 2 + bodies r
theorem rules_all {T : List Tok} : ∀ {xs : List (List UInt8 × Nod)} {i j : Nat}, RulesAt T i xs j → bodies xs ≤ 2 * (j - i) ∧ i ≤ j
  | [], i, j, h => by
    unfold RulesAt at h
    subst h
    simp [bodies]
  | y :: ys, i, j, ⟨k, ⟨f, h1⟩, h2⟩ => by
    have hr := rules_all h2
    have hg : RuleAt T i y k := ⟨f, h1⟩
    have h3 := hg.grow.1
    obtain ⟨q, e0, e1, e2, e4, e3, e5, e6, e7⟩ := ruleS_parts h1
    have ha := (parsed_all T f).1 _ _ _ _ _ e3
    unfold Nod.all at ha
    unfold bodies
    omega
theorem parse_bodies {l st : List UInt8} {rs : List (List UInt8 × Nod)} (h : parseS l = .ok st rs) : bodies rs ≤ 140000 := by
  unfold parseS at h
  cases hs : Lex.scan l with
  | bad f => rw [hs] at h; cases h
  | good T =>
    rw [hs] at h
    simp only [] at h
    obtain ⟨ts, e, h1, h2, h3, h4⟩ := Lex.scan_ok hs
    have hsz : l.length ≤ 65536 := by
      unfold Lex.scan at hs
      split at hs
      · cases hs
      · omega
    obtain ⟨st0, i, j, hr, rfl⟩ := parseT_read h
    have h5 := rules_all hr.rules
    have hj : j ≤ T.length := by
      have h6 := lt_of_isS ((RulesAt.le hr.rules).2 hr.some).2
      omega
    have hT : T.length ≤ 65537 := by rw [h1]; simp; omega
    omega
end Go.Proofs.Ytjaampgpihicmaa.Syn
