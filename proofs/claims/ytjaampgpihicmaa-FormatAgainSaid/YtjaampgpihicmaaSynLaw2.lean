/- Plain mathematics of chapter 5 (syntax): what is read depends on the tokens that are passed, but for their places. -/
import Derived.Test.YtjaampgpihicmaaSynSpec
namespace Go.Proofs.Ytjaampgpihicmaa.Syn
open Lex (Tok Flt)

def keyOf (t : Tok) : Nat × List UInt8 := (t.kind, t.text)
/-- The tokens from i to j are the other ones' from i + d on, and not too far. -/
def Agree (T T' : List Tok) (d i j : Nat) : Prop := ∀ k, i ≤ k → k ≤ j → keyOf (tk T' (k + d)) = keyOf (tk T k) ∧ k + d < 4096
section
variable {T T' : List Tok} {d i j : Nat}
theorem Agree.sub (h : Agree T T' d i j) {i' j' : Nat} (hi : i ≤ i') (hj : j' ≤ j) : Agree T T' d i' j' := fun k h1 h2 => h k (by omega) (by omega)
theorem far_small (h : i < 4096) : far T i = false := by
  unfold far
  rw [decide_eq_false (by omega)]
  rfl
theorem Agree.kind (h : Agree T T' d i j) {k : Nat} (h1 : i ≤ k) (h2 : k ≤ j) : (tk T' (k + d)).kind = (tk T k).kind := congrArg Prod.fst (h k h1 h2).1
theorem Agree.text (h : Agree T T' d i j) {k : Nat} (h1 : i ≤ k) (h2 : k ≤ j) : (tk T' (k + d)).text = (tk T k).text := congrArg Prod.snd (h k h1 h2).1
theorem Agree.far (h : Agree T T' d i j) {k : Nat} (h1 : i ≤ k) (h2 : k ≤ j) : far T' (k + d) = false ∧ Syn.far T k = false := by
  have := (h k h1 h2).2
  exact ⟨far_small this, far_small (by omega)⟩
theorem Agree.isS (h : Agree T T' d i j) {k : Nat} (h1 : i ≤ k) (h2 : k ≤ j) (s : List UInt8) : isS T' (k + d) s = Syn.isS T k s := by
  unfold Syn.isS
  rw [h.kind h1 h2, h.text h1 h2]
end
section
variable {α β : Type}
theorem bind_ok {r : Option (Res α)} {g : α → Nat → Nat → Option (Res β)} {b : β} {j p : Nat} (h : (r.bind fun r => r.bind g) = some (.ok b j p)) : ∃ a i' o', r = some (.ok a i' o') ∧ g a i' o' = some (.ok b j p) := by
  cases r with
  | none => simp at h
  | some x => cases x with
    | ok a i' o' => exact ⟨a, i', o', rfl, h⟩
    | bad f => simp [Res.bind] at h
theorem bind_ok' {r : Res α} {g : α → Nat → Nat → Option (Res β)} {b : β} {j p : Nat} (h : r.bind g = some (.ok b j p)) : ∃ a i' o', r = .ok a i' o' ∧ g a i' o' = some (.ok b j p) := by
  cases r with
  | ok a i' o' => exact ⟨a, i', o', rfl, h⟩
  | bad f => simp [Res.bind] at h
end
theorem takeS_ok {T : List Tok} {s : List UInt8} {i o j p : Nat} {u : Unit} (h : takeS T s i o = .ok u j p) : isS T i s = true ∧ j = i + 1 ∧ p = o := by
  unfold takeS at h
  split at h
  · cases h
  · split at h
    · rename_i h2
      cases h
      exact ⟨h2, rfl, rfl⟩
    · cases h
theorem nameS_ok {T : List Tok} {i o j p : Nat} {a : List UInt8} (h : nameS T i o = .ok a j p) : (tk T i).kind = 1 ∧ a = (tk T i).text ∧ j = i + 1 ∧ p = o := by
  unfold nameS at h
  split at h
  · cases h
  · split at h
    · rename_i h2
      cases h
      exact ⟨h2, rfl, rfl, rfl⟩
    · cases h
section
variable {T T' : List Tok} {d i j o p : Nat}
theorem takeS_agree {s : List UInt8} {u : Unit} (h : takeS T s i o = .ok u j p) {J : Nat} (ha : Agree T T' d i J) (hJ : i ≤ J) : takeS T' s (i + d) o = .ok u (j + d) p := by
  obtain ⟨h1, rfl, rfl⟩ := takeS_ok h
  unfold takeS
  rw [(ha.far (Nat.le_refl _) hJ).1, ha.isS (Nat.le_refl _) hJ, h1]
  simp only [Bool.false_eq_true, if_false, if_true]
  rw [show i + d + 1 = i + 1 + d by omega]
theorem nameS_agree {a : List UInt8} (h : nameS T i o = .ok a j p) {J : Nat} (ha : Agree T T' d i J) (hJ : i ≤ J) : nameS T' (i + d) o = .ok a (j + d) p := by
  obtain ⟨h1, rfl, rfl, rfl⟩ := nameS_ok h
  unfold nameS
  rw [(ha.far (Nat.le_refl _) hJ).1, ha.kind (Nat.le_refl _) hJ, ha.text (Nat.le_refl _) hJ, h1]
  simp only [Bool.false_eq_true, if_false, if_true]
  rw [show i + d + 1 = i + 1 + d by omega]
theorem sufS_agree {n m : Nod} (h : sufS T n i o = .ok m j p) : i ≤ j ∧ (∀ J, Agree T T' d i J → i ≤ J → sufS T' n (i + d) o = .ok m (j + d) p) := by
  unfold sufS at h
  split at h
  · cases h
  · split at h
    · rename_i h2
      cases h
      refine ⟨by omega, fun J ha hJ => ?_⟩
      unfold sufS
      rw [(ha.far (Nat.le_refl _) hJ).1, ha.isS (Nat.le_refl _) hJ, h2, show i + d + 1 = i + 1 + d by omega]
      rfl
    · split at h
      · rename_i h2 h3
        cases h
        refine ⟨by omega, fun J ha hJ => ?_⟩
        unfold sufS
        rw [(ha.far (Nat.le_refl _) hJ).1, ha.isS (Nat.le_refl _) hJ, ha.isS (Nat.le_refl _) hJ, show i + d + 1 = i + 1 + d by omega]
        simp [h2, h3]
      · split at h
        · rename_i h2 h3 h4
          cases h
          refine ⟨by omega, fun J ha hJ => ?_⟩
          unfold sufS
          rw [(ha.far (Nat.le_refl _) hJ).1, ha.isS (Nat.le_refl _) hJ, ha.isS (Nat.le_refl _) hJ, ha.isS (Nat.le_refl _) hJ, show i + d + 1 = i + 1 + d by omega]
          simp [h2, h3, h4]
        · rename_i h2 h3 h4
          cases h
          refine ⟨by omega, fun J ha hJ => ?_⟩
          unfold sufS
          rw [(ha.far (Nat.le_refl _) hJ).1, ha.isS (Nat.le_refl _) hJ, ha.isS (Nat.le_refl _) hJ, ha.isS (Nat.le_refl _) hJ]
          simp [h2, h3, h4]
end
def AltA (T T' : List Tok) (d f : Nat) : Prop := ∀ i o n j p, altF T f i o = some (.ok n j p) → i ≤ j ∧ (Agree T T' d i j → altF T' f (i + d) o = some (.ok n (j + d) p))
def AltMA (T T' : List Tok) (d f : Nat) : Prop := ∀ rows i o n j p, altM T f rows i o = some (.ok n j p) → i ≤ j ∧ (Agree T T' d i j → altM T' f rows (i + d) o = some (.ok n (j + d) p))
def RowA (T T' : List Tok) (d f : Nat) : Prop := ∀ items i o n j p, rowF T f items i o = some (.ok n j p) → i ≤ j ∧ (Agree T T' d i j → rowF T' f items (i + d) o = some (.ok n (j + d) p))
def AtomA (T T' : List Tok) (d f : Nat) : Prop := ∀ i o n j p, atomF T f i o = some (.ok n j p) → i ≤ j ∧ (Agree T T' d i j → atomF T' f (i + d) o = some (.ok n (j + d) p))
def ArndA (T T' : List Tok) (d f : Nat) : Prop := ∀ e i o n j p, arndF T f e i o = some (.ok n j p) → i ≤ j ∧ (Agree T T' d i j → arndF T' f e (i + d) o = some (.ok n (j + d) p))
theorem bind_some {α β : Type} {a : α} {i o : Nat} {g : α → Nat → Nat → Option (Res β)} : ((some (Res.ok a i o)).bind fun r => r.bind g) = g a i o := rfl
theorem bind_res {α β : Type} {a : α} {i o : Nat} {g : α → Nat → Nat → Option (Res β)} : (Res.ok a i o).bind g = g a i o := rfl
theorem agree_atom {T T' : List Tok} {d f : Nat} (h5 : ArndA T T' d f) : AtomA T T' d (f + 1) := by
  intro i o n j p h
  rw [atomF] at h
  split at h
  · cases h
  rename_i hfar
  split at h
  · rename_i hk
    cases h
    refine ⟨by omega, fun ha => ?_⟩
    have hJ : i ≤ i + 1 := by omega
    rw [atomF, (ha.far (Nat.le_refl _) hJ).1, ha.kind (Nat.le_refl _) hJ, ha.text (Nat.le_refl _) hJ, if_neg (by decide), if_pos hk, show i + d + 1 = i + 1 + d by omega]
  rename_i hk1
  split at h
  · rename_i hk
    cases h
    refine ⟨by omega, fun ha => ?_⟩
    have hJ : i ≤ i + 1 := by omega
    rw [atomF, (ha.far (Nat.le_refl _) hJ).1, ha.kind (Nat.le_refl _) hJ, ha.text (Nat.le_refl _) hJ, if_neg (by decide), if_neg hk1, if_pos hk, show i + d + 1 = i + 1 + d by omega]
  rename_i hk2
  split at h
  · rename_i hs
    obtain ⟨a, i', o', h1, h2⟩ := bind_ok h
    cases h2
    obtain ⟨h3, h4⟩ := h5 _ _ _ _ _ _ h1
    refine ⟨h3, fun ha => ?_⟩
    rw [atomF, (ha.far (Nat.le_refl _) h3).1, ha.kind (Nat.le_refl _) h3, ha.isS (Nat.le_refl _) h3, if_neg (by decide), if_neg hk1, if_neg hk2, if_pos hs, h4 ha, bind_some]
  rename_i hs1
  split at h
  · rename_i hs
    obtain ⟨a, i', o', h1, h2⟩ := bind_ok h
    cases h2
    obtain ⟨h3, h4⟩ := h5 _ _ _ _ _ _ h1
    refine ⟨h3, fun ha => ?_⟩
    rw [atomF, (ha.far (Nat.le_refl _) h3).1, ha.kind (Nat.le_refl _) h3, ha.isS (Nat.le_refl _) h3, ha.isS (Nat.le_refl _) h3, if_neg (by decide), if_neg hk1, if_neg hk2, if_neg hs1, if_pos hs, h4 ha, bind_some]
  rename_i hs2
  split at h
  · rename_i hs
    obtain ⟨a, i', o', h1, h2⟩ := bind_ok h
    cases h2
    obtain ⟨h3, h4⟩ := h5 _ _ _ _ _ _ h1
    refine ⟨h3, fun ha => ?_⟩
    rw [atomF, (ha.far (Nat.le_refl _) h3).1, ha.kind (Nat.le_refl _) h3, ha.isS (Nat.le_refl _) h3, ha.isS (Nat.le_refl _) h3, ha.isS (Nat.le_refl _) h3, if_neg (by decide), if_neg hk1, if_neg hk2, if_neg hs1, if_neg hs2, if_pos hs, h4 ha, bind_some]
  rename_i hs3
  cases h
  refine ⟨by omega, fun ha => ?_⟩
  have hJ : i ≤ i := by omega
  rw [atomF, (ha.far (Nat.le_refl _) hJ).1, ha.kind (Nat.le_refl _) hJ, ha.isS (Nat.le_refl _) hJ, ha.isS (Nat.le_refl _) hJ, ha.isS (Nat.le_refl _) hJ, if_neg (by decide), if_neg hk1, if_neg hk2, if_neg hs1, if_neg hs2, if_neg hs3]
theorem agree_all (T T' : List Tok) (d : Nat) : ∀ f, AltA T T' d f ∧ AltMA T T' d f ∧ RowA T T' d f ∧ AtomA T T' d f ∧ ArndA T T' d f
  | 0 => ⟨fun _ _ _ _ _ h => by simp [altF] at h, fun _ _ _ _ _ _ h => by simp [altM] at h, fun _ _ _ _ _ _ h => by simp [rowF] at h, fun _ _ _ _ _ h => by simp [atomF] at h, fun _ _ _ _ _ _ h => by simp [arndF] at h⟩
  | f + 1 => by
    obtain ⟨h1, h2, h3, h4, h5⟩ := agree_all T T' d f
    refine ⟨?_, ?_, ?_, agree_atom h5, ?_⟩
    · intro i o n j p h
      rw [altF] at h
      obtain ⟨a, i', o', e1, e2⟩ := bind_ok h
      obtain ⟨l1, c1⟩ := h3 _ _ _ _ _ _ e1
      obtain ⟨l2, c2⟩ := h2 _ _ _ _ _ _ e2
      exact ⟨by omega, fun ha => by rw [altF, c1 (ha.sub (Nat.le_refl _) l2), bind_some, c2 (ha.sub l1 (Nat.le_refl _))]⟩
    · intro rows i o n j p h
      rw [altM] at h
      split at h
      · cases h
      split at h
      · rename_i hs
        obtain ⟨a, i', o', e1, e2⟩ := bind_ok h
        obtain ⟨l1, c1⟩ := h3 _ _ _ _ _ _ e1
        obtain ⟨l2, c2⟩ := h2 _ _ _ _ _ _ e2
        refine ⟨by omega, fun ha => ?_⟩
        have hJ : i ≤ j := by omega
        have e3 := c1 (ha.sub (by omega) l2)
        rw [show i + 1 + d = i + d + 1 by omega] at e3
        rw [altM, (ha.far (Nat.le_refl _) hJ).1, ha.isS (Nat.le_refl _) hJ, if_neg (by decide), if_pos hs, e3, bind_some, c2 (ha.sub (by omega) (Nat.le_refl _))]
      · rename_i hs
        cases h
        refine ⟨by omega, fun ha => ?_⟩
        have hJ : i ≤ i := by omega
        rw [altM, (ha.far (Nat.le_refl _) hJ).1, ha.isS (Nat.le_refl _) hJ, if_neg (by decide), if_neg hs]
    · intro items i o n j p h
      rw [rowF] at h
      obtain ⟨a, i', o', e1, e2⟩ := bind_ok h
      obtain ⟨l1, c1⟩ := h4 _ _ _ _ _ e1
      cases a with
      | none =>
        cases e2
        exact ⟨l1, fun ha => by rw [rowF, c1 ha, bind_some]⟩
      | some m =>
        obtain ⟨m', i2, o2, e3, e4⟩ := bind_ok' e2
        obtain ⟨l2, c2⟩ := sufS_agree (T' := T') (d := d) e3
        obtain ⟨l3, c3⟩ := h3 _ _ _ _ _ _ e4
        refine ⟨by omega, fun ha => ?_⟩
        rw [rowF, c1 (ha.sub (Nat.le_refl _) (by omega)), bind_some]
        show (sufS T' m (i' + d) o').bind _ = _
        rw [c2 j (ha.sub l1 (Nat.le_refl _)) (by omega), bind_res, c3 (ha.sub (by omega) (Nat.le_refl _))]
    · intro e i o n j p h
      rw [arndF] at h
      split at h
      · cases h
      rename_i ho
      obtain ⟨a, i', o', e1, e2⟩ := bind_ok h
      obtain ⟨u, i2, o2, e3, e4⟩ := bind_ok' e2
      cases e4
      obtain ⟨l1, c1⟩ := h1 _ _ _ _ _ e1
      obtain ⟨h6, h7, h8⟩ := takeS_ok e3
      refine ⟨by omega, fun ha => ?_⟩
      have e5 := c1 (ha.sub (by omega) (by omega))
      rw [show i + 1 + d = i + d + 1 by omega] at e5
      rw [arndF, if_neg ho, e5, bind_some, takeS_agree e3 (ha.sub (by omega) (Nat.le_refl _)) (by omega), bind_res]
end Go.Proofs.Ytjaampgpihicmaa.Syn
/- Plain mathematics of chapter 5 (syntax): more fuel, brackets closed, one rule, rows of rules; a text's grammar. -/
namespace Go.Proofs.Ytjaampgpihicmaa.Syn
open Lex (Tok Flt)

theorem bind_mono {α β : Type} {r r' : Option (Res α)} {g g' : α → Nat → Nat → Option (Res β)} {x : Res β} (h : (r.bind fun r => r.bind g) = some x) (hr : ∀ y, r = some y → r' = some y) (hg : ∀ a i o y, g a i o = some y → g' a i o = some y) : (r'.bind fun r => r.bind g') = some x := by
  cases r with
  | none => simp at h
  | some y =>
    rw [hr y rfl]
    cases y with
    | ok a i o => exact hg a i o x h
    | bad f => exact h
theorem bind_mono' {α β : Type} {r : Res α} {g g' : α → Nat → Nat → Option (Res β)} {x : Res β} (h : r.bind g = some x) (hg : ∀ a i o y, g a i o = some y → g' a i o = some y) : r.bind g' = some x := by
  cases r with
  | ok a i o => exact hg a i o x h
  | bad f => exact h
theorem more_fuel (T : List Tok) : ∀ f, (∀ i o x, altF T f i o = some x → altF T (f + 1) i o = some x) ∧ (∀ rows i o x, altM T f rows i o = some x → altM T (f + 1) rows i o = some x) ∧ (∀ items i o x, rowF T f items i o = some x → rowF T (f + 1) items i o = some x) ∧
    (∀ i o x, atomF T f i o = some x → atomF T (f + 1) i o = some x) ∧ (∀ e i o x, arndF T f e i o = some x → arndF T (f + 1) e i o = some x)
  | 0 => ⟨fun _ _ _ h => by simp [altF] at h, fun _ _ _ _ h => by simp [altM] at h, fun _ _ _ _ h => by simp [rowF] at h, fun _ _ _ h => by simp [atomF] at h, fun _ _ _ _ h => by simp [arndF] at h⟩
  | f + 1 => by
    obtain ⟨h1, h2, h3, h4, h5⟩ := more_fuel T f
    refine ⟨?_, ?_, ?_, ?_, ?_⟩
    · intro i o x h
      rw [altF] at h ⊢
      exact bind_mono h (fun y => h3 _ _ _ y) (fun a i o y => h2 _ _ _ y)
    · intro rows i o x h
      rw [altM] at h ⊢
      split at h
      · rename_i c; rw [if_pos c]; exact h
      rename_i c; rw [if_neg c]
      split at h
      · rename_i c; rw [if_pos c]; exact bind_mono h (fun y => h3 _ _ _ y) (fun a i o y => h2 _ _ _ y)
      · rename_i c; rw [if_neg c]; exact h
    · intro items i o x h
      rw [rowF] at h ⊢
      refine bind_mono h (fun y => h4 _ _ y) (fun a i o y e => ?_)
      cases a with
      | none => exact e
      | some m => exact bind_mono' e (fun a i o y => h3 _ _ _ y)
    · intro i o x h
      rw [atomF] at h ⊢
      split at h
      · rename_i c; rw [if_pos c]; exact h
      rename_i c; rw [if_neg c]
      split at h
      · rename_i c; rw [if_pos c]; exact h
      rename_i c; rw [if_neg c]
      split at h
      · rename_i c; rw [if_pos c]; exact h
      rename_i c; rw [if_neg c]
      split at h
      · rename_i c; rw [if_pos c]; exact bind_mono h (fun y => h5 _ _ _ y) (fun _ _ _ _ e => e)
      rename_i c; rw [if_neg c]
      split at h
      · rename_i c; rw [if_pos c]; exact bind_mono h (fun y => h5 _ _ _ y) (fun _ _ _ _ e => e)
      rename_i c; rw [if_neg c]
      split at h
      · rename_i c; rw [if_pos c]; exact bind_mono h (fun y => h5 _ _ _ y) (fun _ _ _ _ e => e)
      · rename_i c; rw [if_neg c]; exact h
    · intro e i o x h
      rw [arndF] at h ⊢
      split at h
      · rename_i c; rw [if_pos c]; exact h
      · rename_i c; rw [if_neg c]
        exact bind_mono h (fun y => h1 _ _ y) (fun _ _ _ _ e => e)
theorem alt_fuel {T : List Tok} {f f' : Nat} {i o : Nat} {x : Res Nod} (h : altF T f i o = some x) (hf : f ≤ f') : altF T f' i o = some x := by
  induction hf with
  | refl => exact h
  | step _ ih => exact (more_fuel T _).1 _ _ _ ih
theorem sufS_o {T : List Tok} {n m : Nod} {i o j p : Nat} (h : sufS T n i o = .ok m j p) : p = o := by
  unfold sufS at h
  repeat' split at h
  all_goals first | (cases h; rfl) | cases h
/-- All brackets that were opened are closed. -/
theorem same_o (T : List Tok) : ∀ f, (∀ i o n j p, altF T f i o = some (.ok n j p) → p = o) ∧ (∀ rows i o n j p, altM T f rows i o = some (.ok n j p) → p = o) ∧ (∀ items i o n j p, rowF T f items i o = some (.ok n j p) → p = o) ∧
    (∀ i o n j p, atomF T f i o = some (.ok n j p) → p = o) ∧ (∀ e i o n j p, arndF T f e i o = some (.ok n j p) → p = o)
  | 0 => ⟨fun _ _ _ _ _ h => by simp [altF] at h, fun _ _ _ _ _ _ h => by simp [altM] at h, fun _ _ _ _ _ _ h => by simp [rowF] at h, fun _ _ _ _ _ h => by simp [atomF] at h, fun _ _ _ _ _ _ h => by simp [arndF] at h⟩
  | f + 1 => by
    obtain ⟨h1, h2, h3, h4, h5⟩ := same_o T f
    refine ⟨?_, ?_, ?_, ?_, ?_⟩
    · intro i o n j p h
      rw [altF] at h
      obtain ⟨a, i', o', e1, e2⟩ := bind_ok h
      rw [h2 _ _ _ _ _ _ e2, h3 _ _ _ _ _ _ e1]
    · intro rows i o n j p h
      rw [altM] at h
      split at h
      · cases h
      split at h
      · obtain ⟨a, i', o', e1, e2⟩ := bind_ok h
        rw [h2 _ _ _ _ _ _ e2, h3 _ _ _ _ _ _ e1]
      · cases h; rfl
    · intro items i o n j p h
      rw [rowF] at h
      obtain ⟨a, i', o', e1, e2⟩ := bind_ok h
      have e3 := h4 _ _ _ _ _ e1
      cases a with
      | none => cases e2; exact e3
      | some m =>
        obtain ⟨m', i2, o2, e4, e5⟩ := bind_ok' e2
        rw [h3 _ _ _ _ _ _ e5, sufS_o e4, e3]
    · intro i o n j p h
      rw [atomF] at h
      split at h
      · cases h
      split at h
      · cases h; rfl
      split at h
      · cases h; rfl
      split at h
      · obtain ⟨a, i', o', e1, e2⟩ := bind_ok h
        cases e2
        exact h5 _ _ _ _ _ _ e1
      split at h
      · obtain ⟨a, i', o', e1, e2⟩ := bind_ok h
        cases e2
        exact h5 _ _ _ _ _ _ e1
      split at h
      · obtain ⟨a, i', o', e1, e2⟩ := bind_ok h
        cases e2
        exact h5 _ _ _ _ _ _ e1
      · cases h; rfl
    · intro e i o n j p h
      rw [arndF] at h
      split at h
      · cases h
      obtain ⟨a, i', o', e1, e2⟩ := bind_ok h
      obtain ⟨u, i2, o2, e3, e4⟩ := bind_ok' e2
      cases e4
      rw [(takeS_ok e3).2.2, h1 _ _ _ _ _ e1]
      omega
/-- One rule. -/
def ruleS (T : List Tok) (f i o : Nat) : Option (Res (List UInt8 × Nod)) :=
  (nameS T i o).bind fun nm i1 o1 => (takeS T [58] i1 o1).bind fun _ i2 o2 => (altF T f i2 o2).bind fun r => r.bind fun b i3 o3 => (takeS T [59] i3 o3).bind fun _ i4 o4 => some (.ok (nm, b) i4 o4)
theorem rules_step (T : List Tok) (f : Nat) (rs : List (List UInt8 × Nod)) (i o : Nat) : rulesF T (f + 1) rs i o =
    if far T i then some (.bad (flt T i 6)) else if rs ≠ [] ∧ (tk T i).kind = 4 then some (.ok rs i o) else if (tk T i).kind = 1 ∧ rs.length = 64 then some (.bad (flt T i 6))
    else (ruleS T f i o).bind fun r => r.bind fun x i4 o4 => rulesF T f (rs ++ [x]) i4 o4 := by
  rw [rulesF]
  split
  · rfl
  split
  · rfl
  split
  · rfl
  unfold ruleS
  cases nameS T i o with
  | bad e => rfl
  | ok nm i1 o1 =>
    simp only [Res.bind]
    cases takeS T [58] i1 o1 with
    | bad e => rfl
    | ok u i2 o2 =>
      simp only []
      cases altF T f i2 o2 with
      | none => rfl
      | some r => cases r with
        | bad e => rfl
        | ok b i3 o3 =>
          simp only [Option.bind_some]
          cases takeS T [59] i3 o3 with
          | bad e => rfl
          | ok u i4 o4 => rfl
/-- A rule is read from i to j. -/
def RuleAt (T : List Tok) (i : Nat) (x : List UInt8 × Nod) (j : Nat) : Prop := ∃ f, ruleS T f i 0 = some (.ok x j 0)
theorem ruleS_parts {T : List Tok} {f i o j p : Nat} {x : List UInt8 × Nod} (h : ruleS T f i o = some (.ok x j p)) :
    ∃ k, (tk T i).kind = 1 ∧ x.1 = (tk T i).text ∧ nameS T i o = .ok x.1 (i + 1) o ∧ takeS T [58] (i + 1) o = .ok () (i + 2) o ∧ altF T f (i + 2) o = some (.ok x.2 k o) ∧ takeS T [59] k o = .ok () (k + 1) o ∧ j = k + 1 ∧ p = o := by
  unfold ruleS at h
  obtain ⟨nm, i1, o1, e1, h⟩ := bind_ok' h
  obtain ⟨u, i2, o2, e2, h⟩ := bind_ok' h
  obtain ⟨b, i3, o3, e3, h⟩ := bind_ok h
  obtain ⟨u', i4, o4, e4, h⟩ := bind_ok' h
  cases h
  obtain ⟨a1, a2, rfl, rfl⟩ := nameS_ok e1
  obtain ⟨b1, rfl, rfl⟩ := takeS_ok e2
  have := (same_o T f).1 _ _ _ _ _ e3
  subst this
  obtain ⟨c1, rfl, rfl⟩ := takeS_ok e4
  exact ⟨i3, a1, a2, e1, e2, e3, e4, rfl, rfl⟩
theorem ruleS_of {T : List Tok} {f i o k : Nat} {nm : List UInt8} {b : Nod} (h1 : nameS T i o = .ok nm (i + 1) o) (h2 : takeS T [58] (i + 1) o = .ok () (i + 2) o) (h3 : altF T f (i + 2) o = some (.ok b k o)) (h4 : takeS T [59] k o = .ok () (k + 1) o) : ruleS T f i o = some (.ok (nm, b) (k + 1) o) := by
  unfold ruleS
  rw [h1, bind_res, h2, bind_res, h3, bind_some, h4, bind_res]
theorem rule_fuel {T : List Tok} {f f' i o j p : Nat} {x : List UInt8 × Nod} (h : ruleS T f i o = some (.ok x j p)) (hf : f ≤ f') : ruleS T f' i o = some (.ok x j p) := by
  obtain ⟨k, _, _, e1, e2, e3, e4, rfl, rfl⟩ := ruleS_parts h
  exact ruleS_of e1 e2 (alt_fuel e3 hf) e4
theorem RuleAt.grow {T : List Tok} {i j : Nat} {x : List UInt8 × Nod} (h : RuleAt T i x j) : i + 3 ≤ j ∧ (tk T i).kind = 1 ∧ isS T (j - 1) [59] = true := by
  obtain ⟨f, h⟩ := h
  obtain ⟨k, e0, _, e1, e2, e3, e4, rfl, _⟩ := ruleS_parts h
  have := ((agree_all T T 0 f).1 _ _ _ _ _ e3).1
  exact ⟨by omega, e0, (takeS_ok e4).1⟩
theorem RuleAt.agree {T T' : List Tok} {d i j : Nat} {x : List UInt8 × Nod} (h : RuleAt T i x j) (ha : Agree T T' d i (j - 1)) : RuleAt T' (i + d) x (j + d) := by
  obtain ⟨f, h⟩ := h
  obtain ⟨k, e0, _, e1, e2, e3, e4, rfl, _⟩ := ruleS_parts h
  obtain ⟨l, c⟩ := (agree_all T T' d f).1 _ _ _ _ _ e3
  have a1 := nameS_agree e1 ha (by omega)
  have a2 := takeS_agree e2 (ha.sub (i' := i + 1) (by omega) (Nat.le_refl _)) (by omega)
  have a3 := c (ha.sub (by omega) (by omega))
  have a4 := takeS_agree e4 (ha.sub (i' := k) (by omega) (Nat.le_refl _)) (by omega)
  rw [show i + 1 + d = i + d + 1 by omega] at a1 a2
  rw [show i + 2 + d = i + d + 2 by omega] at a2 a3
  rw [show k + 1 + d = k + d + 1 by omega] at a4
  exact ⟨f, by rw [show k + 1 + d = k + d + 1 by omega]; exact ruleS_of a1 a2 a3 a4⟩
/-- Rules are read from i to j. -/
def RulesAt (T : List Tok) : Nat → List (List UInt8 × Nod) → Nat → Prop
  | i, [], j => i = j
  | i, x :: xs, j => ∃ k, RuleAt T i x k ∧ RulesAt T k xs j
theorem RulesAt.app {T : List Tok} : ∀ {xs ys : List (List UInt8 × Nod)} {i j k : Nat}, RulesAt T i xs j → RulesAt T j ys k → RulesAt T i (xs ++ ys) k
  | [], ys, i, j, k, h, h2 => by
    unfold RulesAt at h
    subst h
    exact h2
  | x :: xs, ys, i, j, k, ⟨m, h1, h3⟩, h2 => ⟨m, h1, RulesAt.app h3 h2⟩
theorem RulesAt.le {T : List Tok} : ∀ {xs : List (List UInt8 × Nod)} {i j : Nat}, RulesAt T i xs j → i + 3 * xs.length ≤ j ∧ (xs ≠ [] → (tk T i).kind = 1 ∧ isS T (j - 1) [59] = true)
  | [], i, j, h => by
    unfold RulesAt at h
    subst h
    exact ⟨by simp, fun h => absurd rfl h⟩
  | x :: xs, i, j, ⟨m, h1, h3⟩ => by
    have h4 := h1.grow
    have h5 := RulesAt.le h3
    refine ⟨by rw [List.length_cons]; omega, fun _ => ⟨h4.2.1, ?_⟩⟩
    cases xs with
    | nil =>
      unfold RulesAt at h3
      subst h3
      exact h4.2.2
    | cons y ys => exact (h5.2 (by simp)).2
theorem RulesAt.agree {T T' : List Tok} {d : Nat} : ∀ {xs : List (List UInt8 × Nod)} {i j : Nat}, RulesAt T i xs j → Agree T T' d i (j - 1) → RulesAt T' (i + d) xs (j + d)
  | [], i, j, h, _ => by
    unfold RulesAt at h ⊢
    omega
  | x :: xs, i, j, ⟨m, h1, h3⟩, ha => by
    have h4 := h1.grow
    have h5 := RulesAt.le h3
    exact ⟨m + d, h1.agree (ha.sub (Nat.le_refl _) (by omega)), RulesAt.agree h3 (ha.sub (by omega) (Nat.le_refl _))⟩
theorem rulesF_ok {T : List Tok} : ∀ {f : Nat} {rs rs' : List (List UInt8 × Nod)} {i j p : Nat}, rulesF T f rs i 0 = some (.ok rs' j p) → ∃ xs, rs' = rs ++ xs ∧ RulesAt T i xs j ∧ (tk T j).kind = 4 ∧ rs' ≠ [] ∧ (rs.length ≤ 64 → rs'.length ≤ 64) ∧ p = 0
  | 0, _, _, _, _, _, h => by simp [rulesF] at h
  | f + 1, rs, rs', i, j, p, h => by
    rw [rules_step] at h
    split at h
    · cases h
    split at h
    · rename_i c
      cases h
      exact ⟨[], by simp, rfl, c.2, c.1, id, rfl⟩
    split at h
    · cases h
    rename_i c1 c2 c3
    obtain ⟨x, i4, o4, e1, e2⟩ := bind_ok h
    obtain ⟨k, e3, _, _, _, _, _, e4, e5⟩ := ruleS_parts e1
    subst e5
    obtain ⟨xs, h1, h2, h3, h4, h5, h6⟩ := rulesF_ok e2
    refine ⟨x :: xs, by rw [h1]; simp, ⟨i4, ⟨f, e1⟩, h2⟩, h3, h4, fun hl => h5 ?_, h6⟩
    have : rs.length ≠ 64 := fun e => c3 ⟨e3, e⟩
    simp
    omega
/-- A grammar's text told as plain data: its start, its rules; or the fault. -/
inductive PRes where
  | ok (start : List UInt8) (rules : List (List UInt8 × Nod))
  | bad (f : Flt)
def startOr (st : List UInt8) (rs : List (List UInt8 × Nod)) : List UInt8 := if st = [] then (rs.head?.map Prod.fst).getD [] else st
def parseT (T : List Tok) : PRes :=
  match headS T with
  | .bad f => .bad f
  | .ok st i _ => match rulesF T (5 * T.length + 6) [] i 0 with
    | some (.ok rs _ _) => .ok (startOr st rs) rs
    | some (.bad f) => .bad f
    | none => .bad ⟨0, 0, 0⟩
def parseS (l : List UInt8) : PRes := match Lex.scan l with
  | .bad f => .bad f
  | .good T => parseT T
theorem rulesF_of {T : List Tok} : ∀ {xs rs : List (List UInt8 × Nod)} {f i j : Nat}, RulesAt T i xs j → (tk T j).kind = 4 → j ≤ T.length → rs ++ xs ≠ [] → (rs ++ xs).length ≤ 64 → 5 * (T.length - i) + 6 ≤ f → (∀ k, i ≤ k → k ≤ j → far T k = false) → rulesF T f rs i 0 = some (.ok (rs ++ xs) j 0)
  | [], rs, f, i, j, h, hk, hT, hne, hl, hf, hfar => by
    unfold RulesAt at h
    subst h
    obtain ⟨f, rfl⟩ : ∃ g, f = g + 1 := ⟨f - 1, by omega⟩
    rw [rules_step, hfar i (Nat.le_refl _) (Nat.le_refl _), if_neg (by decide), if_pos ⟨by simpa using hne, hk⟩, List.append_nil]
  | x :: xs, rs, f, i, j, ⟨k, h1, h2⟩, hk, hT, hne, hl, hf, hfar => by
    obtain ⟨f, rfl⟩ : ∃ g, f = g + 1 := ⟨f - 1, by omega⟩
    have h4 := h1.grow
    have h5 := RulesAt.le h2
    obtain ⟨g, hg⟩ := h1
    obtain ⟨q, _, _, e1, e2, e3, e4, e5, _⟩ := ruleS_parts hg
    have e6 : altF T f (i + 2) 0 = some (.ok x.2 q 0) := by
      rcases Nat.le_total g f with hgf | hgf
      · exact alt_fuel e3 hgf
      · obtain ⟨y, hy, _⟩ := (fine T f).1 (i + 2) 0 (by omega)
        have := alt_fuel hy hgf
        rw [e3] at this
        cases this
        exact hy
    have e7 := ruleS_of e1 e2 e6 e4
    have hlen : rs.length + (xs.length + 1) ≤ 64 := by simpa using hl
    rw [rules_step, hfar i (Nat.le_refl _) (by omega), if_neg (by decide), if_neg (by rintro ⟨_, e⟩; omega), if_neg (by rintro ⟨_, e⟩; omega), e7, bind_some, ← e5]
    have := rulesF_of (rs := rs ++ [x]) (f := f) h2 hk hT (by simp) (by simp; omega) (by omega) (fun m h6 h7 => hfar m (by omega) h7)
    rw [this]
    simp
end Go.Proofs.Ytjaampgpihicmaa.Syn
