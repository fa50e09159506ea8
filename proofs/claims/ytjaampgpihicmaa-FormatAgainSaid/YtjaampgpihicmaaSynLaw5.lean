/- Plain mathematics of chapter 5 (syntax): rows of nodes that are read are no longer than the tokens; nodes alike. -/
import Derived.Test.YtjaampgpihicmaaSynLaw4
import Derived.Test.YtjaampgpihicmaaSyn7
namespace Go.Proofs.Ytjaampgpihicmaa.Syn
open Lex (Tok Flt)

/-- No row has more than M nodes. -/
def Nd.fits (M : Nat) : Nd → Prop
  | .nil => True
  | .cons _ _ k r => k.len ≤ M ∧ k.fits M ∧ r.fits M
def Nd.nodes : Nd → Nat
  | .nil => 0
  | .cons _ _ k r => 1 + k.nodes + r.nodes
def Nod.fits (M : Nat) (n : Nod) : Prop := n.kids.len ≤ M ∧ n.kids.fits M
theorem Nd.fits_app {M : Nat} : ∀ {f g : Nd}, f.fits M → g.fits M → (f.app g).fits M
  | .nil, _, _, h => h
  | .cons _ _ _ _, _, ⟨h1, h2, h3⟩, h => ⟨h1, h2, Nd.fits_app h3 h⟩
theorem Nod.row_fits {M : Nat} {n : Nod} (h : n.fits M) : n.row.fits M := ⟨h.1, h.2, trivial⟩
theorem pack_fits {M : Nat} (k : Nat) {f : Nd} (h : f.fits M) (hl : f.len ≤ M) : (pack k f).fits M := by
  match f, h, hl with
  | .nil, h, hl => exact ⟨hl, h⟩
  | .cons a b c .nil, h, _ => exact ⟨h.1, h.2.1⟩
  | .cons a b c (.cons a' b' c' r), h, hl => exact ⟨hl, h⟩
theorem wrap_fits {M k : Nat} {n : Nod} (h : n.fits M) (hM : 1 ≤ M) : Nod.fits M ⟨k, [], n.row⟩ := ⟨hM, Nod.row_fits h⟩
theorem sufS_fits {T : List Tok} {n m : Nod} {i o j p M : Nat} (h : sufS T n i o = .ok m j p) (hn : n.fits M) (hM : 1 ≤ M) : m.fits M := by
  unfold sufS at h
  split at h
  · cases h
  split at h
  · cases h; exact wrap_fits hn hM
  split at h
  · cases h; exact wrap_fits hn hM
  split at h
  · cases h; exact wrap_fits hn hM
  · cases h; exact hn
theorem atom_lt {T : List Tok} {f i o j p : Nat} {n : Nod} (h : atomF T f i o = some (.ok (some n) j p)) : i < T.length := by
  cases f with
  | zero => simp [atomF] at h
  | succ f =>
    rw [atomF] at h
    split at h
    · cases h
    split at h
    · rename_i hk; exact lt_of_kind (by omega)
    split at h
    · rename_i hk; exact lt_of_kind (by omega)
    split at h
    · rename_i hs; exact lt_of_isS hs
    split at h
    · rename_i hs; exact lt_of_isS hs
    split at h
    · rename_i hs; exact lt_of_isS hs
    · cases h
theorem parsed_fits (T : List Tok) {M : Nat} (hM : T.length + 1 ≤ M) : ∀ f, (∀ i o n j p, altF T f i o = some (.ok n j p) → n.fits M) ∧ (∀ rows i o n j p, rows.fits M → rows.len ≤ i + 1 → rows.len ≤ M → altM T f rows i o = some (.ok n j p) → n.fits M) ∧
    (∀ items i o n j p, items.fits M → items.len ≤ i → items.len ≤ M → rowF T f items i o = some (.ok n j p) → n.fits M) ∧ (∀ i o n j p, atomF T f i o = some (.ok (some n) j p) → n.fits M) ∧ (∀ e i o n j p, arndF T f e i o = some (.ok n j p) → n.fits M)
  | 0 => ⟨fun _ _ _ _ _ h => by simp [altF] at h, fun _ _ _ _ _ _ _ _ _ h => by simp [altM] at h, fun _ _ _ _ _ _ _ _ _ h => by simp [rowF] at h, fun _ _ _ _ _ h => by simp [atomF] at h, fun _ _ _ _ _ _ h => by simp [arndF] at h⟩
  | f + 1 => by
    obtain ⟨h1, h2, h3, h4, h5⟩ := parsed_fits T hM f
    refine ⟨?_, ?_, ?_, ?_, ?_⟩
    · intro i o n j p h
      rw [altF] at h
      obtain ⟨a, i', o', e1, e2⟩ := bind_ok h
      have ha := h3 .nil _ _ _ _ _ trivial (Nat.zero_le _) (Nat.zero_le _) e1
      exact h2 _ _ _ _ _ _ (Nod.row_fits ha) (by simp [Nod.row, Nd.len]) (by simp [Nod.row, Nd.len]; omega) e2
    · intro rows i o n j p hr hl hm h
      rw [altM] at h
      split at h
      · cases h
      split at h
      · rename_i hs
        have hlt := lt_of_isS hs
        obtain ⟨a, i', o', e1, e2⟩ := bind_ok h
        have ha := h3 .nil _ _ _ _ _ trivial (Nat.zero_le _) (Nat.zero_le _) e1
        have hle := ((agree_all T T 0 f).2.2.1 _ _ _ _ _ _ e1).1
        have hl1 : a.row.len = 1 := rfl
        exact h2 _ _ _ _ _ _ (Nd.fits_app hr (Nod.row_fits ha)) (by rw [Nd.len_app]; omega) (by rw [Nd.len_app]; omega) e2
      · cases h
        exact pack_fits 4 hr hm
    · intro items i o n j p hr hl hm h
      rw [rowF] at h
      obtain ⟨a, i', o', e1, e2⟩ := bind_ok h
      cases a with
      | none =>
        cases e2
        exact pack_fits 3 hr hm
      | some m =>
        have hm1 := h4 _ _ _ _ _ e1
        have hmv := atom_moves e1
        have hlt := atom_lt e1
        obtain ⟨m', i2, o2, e4, e5⟩ := bind_ok' e2
        have hm' := sufS_fits e4 hm1 (by omega)
        have hle := (sufS_agree (T' := T) (d := 0) e4).1
        have hl1 : m'.row.len = 1 := rfl
        exact h3 _ _ _ _ _ _ (Nd.fits_app hr (Nod.row_fits hm')) (by rw [Nd.len_app]; omega) (by rw [Nd.len_app]; omega) e5
    · intro i o n j p h
      rw [atomF] at h
      split at h
      · cases h
      split at h
      · cases h; exact ⟨Nat.zero_le _, trivial⟩
      split at h
      · cases h; exact ⟨Nat.zero_le _, trivial⟩
      split at h
      · obtain ⟨a, i', o', e1, e2⟩ := bind_ok h
        cases e2
        exact h5 _ _ _ _ _ _ e1
      split at h
      · obtain ⟨a, i', o', e1, e2⟩ := bind_ok h
        cases e2
        exact wrap_fits (h5 _ _ _ _ _ _ e1) (by omega)
      split at h
      · obtain ⟨a, i', o', e1, e2⟩ := bind_ok h
        cases e2
        exact wrap_fits (h5 _ _ _ _ _ _ e1) (by omega)
      · cases h
    · intro e i o n j p h
      rw [arndF] at h
      split at h
      · cases h
      obtain ⟨a, i', o', e1, e2⟩ := bind_ok h
      obtain ⟨u, i2, o2, e3, e4⟩ := bind_ok' e2
      cases e4
      exact h1 _ _ _ _ _ e1
theorem rules_fits {T : List Tok} {M : Nat} (hM : T.length + 1 ≤ M) : ∀ {xs : List (List UInt8 × Nod)} {i j : Nat}, RulesAt T i xs j → ∀ x ∈ xs, x.2.fits M
  | [], _, _, _, x, hx => by simp at hx
  | y :: ys, i, j, ⟨k, ⟨f, h1⟩, h2⟩, x, hx => by
    obtain ⟨q, _, _, _, _, e3, _, _, _⟩ := ruleS_parts h1
    rcases List.mem_cons.1 hx with rfl | hx
    · exact (parsed_fits T hM f).1 _ _ _ _ _ e3
    · exact rules_fits hM h2 x hx
theorem parse_fits {l st : List UInt8} {rs : List (List UInt8 × Nod)} (h : parseS l = .ok st rs) : rs.length ≤ 64 ∧ ∀ x ∈ rs, x.2.fits 100000 := by
  refine ⟨(parse_proper h).2.2.1, ?_⟩
  unfold parseS at h
  cases hs : Lex.scan l with
  | bad f => rw [hs] at h; cases h
  | good T =>
    rw [hs] at h
    simp only [] at h
    obtain ⟨ts, e, h1, h2, h3, h4⟩ := Lex.scan_ok hs
    have hsz : l.length ≤ 65536 := by
      unfold Lex.scan at hs
      split at hs
      · cases hs
      · omega
    obtain ⟨st0, i, j, hr, rfl⟩ := parseT_read h
    exact rules_fits (by rw [h1]; simp; omega) hr.rules
/-- Pairwise, as long as both last. -/
def all2 (g : Nod → Nod → Bool) : Nd → Nd → Bool
  | .nil, _ => true
  | .cons _ _ _ _, .nil => true
  | .cons a t k r, .cons b u l s => g ⟨a, t, k⟩ ⟨b, u, l⟩ && all2 g r s
def eqB (g : Nod → Nod → Bool) (f f' : Nd) : Bool := decide (f.len = f'.len) && all2 g f f'
def sameD : Nd → Nd → Bool
  | .nil, .nil => true
  | .cons a t k r, .cons b u l s => ((a == b && t == u) && (decide (k.len = l.len) && sameD k l)) && sameD r s
  | _, _ => false
def sameN (m n : Nod) : Bool := (m.kind == n.kind && m.text == n.text) && (decide (m.kids.len = n.kids.len) && sameD m.kids n.kids)
theorem all2_same : ∀ f f' : Nd, f.len = f'.len → all2 sameN f f' = sameD f f'
  | .nil, .nil, _ => by rw [all2, sameD]
  | .nil, .cons _ _ _ _, h => by simp [Nd.len] at h
  | .cons _ _ _ _, .nil, h => by simp [Nd.len] at h
  | .cons a t k r, .cons b u l s, h => by
    rw [all2, sameD, all2_same r s (by simpa [Nd.len] using h)]
    rfl
theorem sameD_iff : ∀ f f' : Nd, sameD f f' = true ↔ f = f'
  | .nil, .nil => by simp [sameD]
  | .nil, .cons _ _ _ _ => by simp [sameD]
  | .cons _ _ _ _, .nil => by simp [sameD]
  | .cons a t k r, .cons b u l s => by
    rw [sameD]
    simp only [Bool.and_eq_true, beq_iff_eq, decide_eq_true_eq, sameD_iff k l, sameD_iff r s, Nd.cons.injEq]
    constructor
    · rintro ⟨⟨⟨h1, h2⟩, _, h3⟩, h4⟩
      exact ⟨h1, h2, h3, h4⟩
    · rintro ⟨h1, h2, h3, h4⟩
      exact ⟨⟨⟨h1, h2⟩, by rw [h3], h3⟩, h4⟩
theorem sameN_eq (m n : Nod) : sameN m n = ((m.kind == n.kind && m.text == n.text) && eqB sameN m.kids n.kids) := by
  rw [sameN, eqB]
  by_cases h : m.kids.len = n.kids.len
  · rw [all2_same _ _ h]
  · simp [h]
theorem sameN_iff (m n : Nod) : sameN m n = true ↔ m = n := by
  unfold sameN
  simp only [Bool.and_eq_true, beq_iff_eq, decide_eq_true_eq, sameD_iff]
  constructor
  · rintro ⟨⟨h1, h2⟩, _, h3⟩
    cases m; cases n
    simp_all
  · rintro rfl
    exact ⟨⟨rfl, rfl⟩, rfl, rfl⟩
end Go.Proofs.Ytjaampgpihicmaa.Syn
