/- Plain mathematics of chapter 5 (syntax): what is read depends on the tokens that are passed, but for their places. -/
import Derived.Test.YtjaampgpihicmaaSynSpec
namespace Go.Proofs.Ytjaampgpihicmaa.Syn
open Lex (Tok Flt)

def keyOf (t : Tok) : Nat × List UInt8 := (t.kind, t.text)
/-- The tokens from i to j are the other ones' from i + d on, and not too far. -/
def Agree (T T' : List Tok) (d i j : Nat) : Prop := ∀ k, i ≤ k → k ≤ j → keyOf (tk T' (k + d)) = keyOf (tk T k) ∧ k + d < 4096
section
variable {T T' : List Tok} {d i j : Nat}
theorem Agree.sub (h : Agree T T' d i j) {i' j' : Nat} (hi : i ≤ i') (hj : j' ≤ j) : Agree T T' d i' j' := fun k h1 h2 => h k (by omega) (by omega)
theorem far_small (h : i < 4096) : far T i = false := by
  unfold far
  rw [decide_eq_false (by omega)]
  rfl
theorem Agree.kind (h : Agree T T' d i j) {k : Nat} (h1 : i ≤ k) (h2 : k ≤ j) : (tk T' (k + d)).kind = (tk T k).kind := congrArg Prod.fst (h k h1 h2).1
theorem Agree.text (h : Agree T T' d i j) {k : Nat} (h1 : i ≤ k) (h2 : k ≤ j) : (tk T' (k + d)).text = (tk T k).text := congrArg Prod.snd (h k h1 h2).1
theorem Agree.far (h : Agree T T' d i j) {k : Nat} (h1 : i ≤ k) (h2 : k ≤ j) : far T' (k + d) = false ∧ Syn.far T k = false := by
  have := (h k h1 h2).2
  exact ⟨far_small this, far_small (by omega)⟩
theorem Agree.isS (h : Agree T T' d i j) {k : Nat} (h1 : i ≤ k) (h2 : k ≤ j) (s : List UInt8) : isS T' (k + d) s = Syn.isS T k s := by
  unfold Syn.isS
  rw [h.kind h1 h2, h.text h1 h2]
end
section
variable {α β : Type}
theorem bind_ok {r : Option (Res α)} {g : α → Nat → Nat → Option (Res β)} {b : β} {j p : Nat} (h : (r.bind fun r => r.bind g) = some (.ok b j p)) : ∃ a i' o', r = some (.ok a i' o') ∧ g a i' o' = some (.ok b j p) := by
  cases r with
  | none => simp at h
  | some x => cases x with
    | ok a i' o' => exact ⟨a, i', o', rfl, h⟩
    | bad f => simp [Res.bind] at h
theorem bind_ok' {r : Res α} {g : α → Nat → Nat → Option (Res β)} {b : β} {j p : Nat} (h : r.bind g = some (.ok b j p)) : ∃ a i' o', r = .ok a i' o' ∧ g a i' o' = some (.ok b j p) := by
  cases r with
  | ok a i' o' => exact ⟨a, i', o', rfl, h⟩
  | bad f => simp [Res.bind] at h
end
theorem takeS_ok {T : List Tok} {s : List UInt8} {i o j p : Nat} {u : Unit} (h : takeS T s i o = .ok u j p) : isS T i s = true ∧ j = i + 1 ∧ p = o := by
  unfold takeS at h
  split at h
  · cases h
  · split at h
    · rename_i h2
      cases h
      exact ⟨h2, rfl, rfl⟩
    · cases h
theorem nameS_ok {T : List Tok} {i o j p : Nat} {a : List UInt8} (h : nameS T i o = .ok a j p) : (tk T i).kind = 1 ∧ a = (tk T i).text ∧ j = i + 1 ∧ p = o := by
  unfold nameS at h
  split at h
  · cases h
  · split at h
    · rename_i h2
      cases h
      exact ⟨h2, rfl, rfl, rfl⟩
    · cases h
section
variable {T T' : List Tok} {d i j o p : Nat}
theorem takeS_agree {s : List UInt8} {u : Unit} (h : takeS T s i o = .ok u j p) {J : Nat} (ha : Agree T T' d i J) (hJ : i ≤ J) : takeS T' s (i + d) o = .ok u (j + d) p := by
  obtain ⟨h1, rfl, rfl⟩ := takeS_ok h
  unfold takeS
  rw [(ha.far (Nat.le_refl _) hJ).1, ha.isS (Nat.le_refl _) hJ, h1]
  simp only [Bool.false_eq_true, if_false, if_true]
  rw [show i + d + 1 = i + 1 + d by omega]
theorem nameS_agree {a : List UInt8} (h : nameS T i o = .ok a j p) {J : Nat} (ha : Agree T T' d i J) (hJ : i ≤ J) : nameS T' (i + d) o = .ok a (j + d) p := by
  obtain ⟨h1, rfl, rfl, rfl⟩ := nameS_ok h
  unfold nameS
  rw [(ha.far (Nat.le_refl _) hJ).1, ha.kind (Nat.le_refl _) hJ, ha.text (Nat.le_refl _) hJ, h1]
  simp only [Bool.false_eq_true, if_false, if_true]
  rw [show i + d + 1 = i + 1 + d by omega]
theorem sufS_agree {n m : Nod} (h : sufS T n i o = .ok m j p) : i ≤ j ∧ (∀ J, Agree T T' d i J → i ≤ J → sufS T' n (i + d) o = .ok m (j + d) p) := by
  unfold sufS at h
  split at h
  · cases h
  · split at h
    · rename_i h2
      cases h
      refine ⟨by omega, fun J ha hJ => ?_⟩
      unfold sufS
      rw [(ha.far (Nat.le_refl _) hJ).1, ha.isS (Nat.le_refl _) hJ, h2, show i + d + 1 = i + 1 + d by omega]
      rfl
    · split at h
      · rename_i h2 h3
        cases h
        refine ⟨by omega, fun J ha hJ => ?_⟩
        unfold sufS
        rw [(ha.far (Nat.le_refl _) hJ).1, ha.isS (Nat.le_refl _) hJ, ha.isS (Nat.le_refl _) hJ, show i + d + 1 = i + 1 + d by omega]
        simp [h2, h3]
      · split at h
        · rename_i h2 h3 h4
          cases h
          refine ⟨by omega, fun J ha hJ => ?_⟩
          unfold sufS
          rw [(ha.far (Nat.le_refl _) hJ).1, ha.isS (Nat.le_refl _) hJ, ha.isS (Nat.le_refl _) hJ, ha.isS (Nat.le_refl _) hJ, show i + d + 1 = i + 1 + d by omega]
          simp [h2, h3, h4]
        · rename_i h2 h3 h4
          cases h
          refine ⟨by omega, fun J ha hJ => ?_⟩
          unfold sufS
          rw [(ha.far (Nat.le_refl _) hJ).1, ha.isS (Nat.le_refl _) hJ, ha.isS (Nat.le_refl _) hJ, ha.isS (Nat.le_refl _) hJ]
          simp [h2, h3, h4]
end
def AltA (T T' : List Tok) (d f : Nat) : Prop := ∀ i o n j p, altF T f i o = some (.ok n j p) → i ≤ j ∧ (Agree T T' d i j → altF T' f (i + d) o = some (.ok n (j + d) p))
def AltMA (T T' : List Tok) (d f : Nat) : Prop := ∀ rows i o n j p, altM T f rows i o = some (.ok n j p) → i ≤ j ∧ (Agree T T' d i j → altM T' f rows (i + d) o = some (.ok n (j + d) p))
def RowA (T T' : List Tok) (d f : Nat) : Prop := ∀ items i o n j p, rowF T f items i o = some (.ok n j p) → i ≤ j ∧ (Agree T T' d i j → rowF T' f items (i + d) o = some (.ok n (j + d) p))
def AtomA (T T' : List Tok) (d f : Nat) : Prop := ∀ i o n j p, atomF T f i o = some (.ok n j p) → i ≤ j ∧ (Agree T T' d i j → atomF T' f (i + d) o = some (.ok n (j + d) p))
def ArndA (T T' : List Tok) (d f : Nat) : Prop := ∀ e i o n j p, arndF T f e i o = some (.ok n j p) → i ≤ j ∧ (Agree T T' d i j → arndF T' f e (i + d) o = some (.ok n (j + d) p))
theorem bind_some {α β : Type} {a : α} {i o : Nat} {g : α → Nat → Nat → Option (Res β)} : ((some (Res.ok a i o)).bind fun r => r.bind g) = g a i o := rfl
theorem bind_res {α β : Type} {a : α} {i o : Nat} {g : α → Nat → Nat → Option (Res β)} : (Res.ok a i o).bind g = g a i o := rfl
theorem agree_atom {T T' : List Tok} {d f : Nat} (h5 : ArndA T T' d f) : AtomA T T' d (f + 1) := by
  intro i o n j p h
  rw [atomF] at h
  split at h
  · cases h
  rename_i hfar
  split at h
  · rename_i hk
    cases h
    refine ⟨by omega, fun ha => ?_⟩
    have hJ : i ≤ i + 1 := by omega
    rw [atomF, (ha.far (Nat.le_refl _) hJ).1, ha.kind (Nat.le_refl _) hJ, ha.text (Nat.le_refl _) hJ, if_neg (by decide), if_pos hk, show i + d + 1 = i + 1 + d by omega]
  rename_i hk1
  split at h
  · rename_i hk
    cases h
    refine ⟨by omega, fun ha => ?_⟩
    have hJ : i ≤ i + 1 := by omega
    rw [atomF, (ha.far (Nat.le_refl _) hJ).1, ha.kind (Nat.le_refl _) hJ, ha.text (Nat.le_refl _) hJ, if_neg (by decide), if_neg hk1, if_pos hk, show i + d + 1 = i + 1 + d by omega]
  rename_i hk2
  split at h
  · rename_i hs
    obtain ⟨a, i', o', h1, h2⟩ := bind_ok h
    cases h2
    obtain ⟨h3, h4⟩ := h5 _ _ _ _ _ _ h1
    refine ⟨h3, fun ha => ?_⟩
    rw [atomF, (ha.far (Nat.le_refl _) h3).1, ha.kind (Nat.le_refl _) h3, ha.isS (Nat.le_refl _) h3, if_neg (by decide), if_neg hk1, if_neg hk2, if_pos hs, h4 ha, bind_some]
  rename_i hs1
  split at h
  · rename_i hs
    obtain ⟨a, i', o', h1, h2⟩ := bind_ok h
    cases h2
    obtain ⟨h3, h4⟩ := h5 _ _ _ _ _ _ h1
    refine ⟨h3, fun ha => ?_⟩
    rw [atomF, (ha.far (Nat.le_refl _) h3).1, ha.kind (Nat.le_refl _) h3, ha.isS (Nat.le_refl _) h3, ha.isS (Nat.le_refl _) h3, if_neg (by decide), if_neg hk1, if_neg hk2, if_neg hs1, if_pos hs, h4 ha, bind_some]
  rename_i hs2
  split at h
  · rename_i hs
    obtain ⟨a, i', o', h1, h2⟩ := bind_ok h
    cases h2
    obtain ⟨h3, h4⟩ := h5 _ _ _ _ _ _ h1
    refine ⟨h3, fun ha => ?_⟩
    rw [atomF, (ha.far (Nat.le_refl _) h3).1, ha.kind (Nat.le_refl _) h3, ha.isS (Nat.le_refl _) h3, ha.isS (Nat.le_refl _) h3, ha.isS (Nat.le_refl _) h3, if_neg (by decide), if_neg hk1, if_neg hk2, if_neg hs1, if_neg hs2, if_pos hs, h4 ha, bind_some]
  rename_i hs3
  cases h
  refine ⟨by omega, fun ha => ?_⟩
  have hJ : i ≤ i := by omega
  rw [atomF, (ha.far (Nat.le_refl _) hJ).1, ha.kind (Nat.le_refl _) hJ, ha.isS (Nat.le_refl _) hJ, ha.isS (Nat.le_refl _) hJ, ha.isS (Nat.le_refl _) hJ, if_neg (by decide), if_neg hk1, if_neg hk2, if_neg hs1, if_neg hs2, if_neg hs3]
theorem agree_all (T T' : List Tok) (d : Nat) : ∀ f, AltA T T' d f ∧ AltMA T T' d f ∧ RowA T T' d f ∧ AtomA T T' d f ∧ ArndA T T' d f
  | 0 => ⟨fun _ _ _ _ _ h => by simp [altF] at h, fun _ _ _ _ _ _ h => by simp [altM] at h, fun _ _ _ _ _ _ h => by simp [rowF] at h, fun _ _ _ _ _ h => by simp [atomF] at h, fun _ _ _ _ _ _ h => by simp [arndF] at h⟩
  | f + 1 => by
    obtain ⟨h1, h2, h3, h4, h5⟩ := agree_all T T' d f
    refine ⟨?_, ?_, ?_, agree_atom h5, ?_⟩
    · intro i o n j p h
      rw [altF] at h
      obtain ⟨a, i', o', e1, e2⟩ := bind_ok h
      obtain ⟨l1, c1⟩ := h3 _ _ _ _ _ _ e1
      obtain ⟨l2, c2⟩ := h2 _ _ _ _ _ _ e2
      exact ⟨by omega, fun ha => by rw [altF, c1 (ha.sub (Nat.le_refl _) l2), bind_some, c2 (ha.sub l1 (Nat.le_refl _))]⟩
    · intro rows i o n j p h
      rw [altM] at h
      split at h
      · cases h
      split at h
      · rename_i hs
        obtain ⟨a, i', o', e1, e2⟩ := bind_ok h
        obtain ⟨l1, c1⟩ := h3 _ _ _ _ _ _ e1
        obtain ⟨l2, c2⟩ := h2 _ _ _ _ _ _ e2
        refine ⟨by omega, fun ha => ?_⟩
        have hJ : i ≤ j := by omega
        have e3 := c1 (ha.sub (by omega) l2)
        rw [show i + 1 + d = i + d + 1 by omega] at e3
        rw [altM, (ha.far (Nat.le_refl _) hJ).1, ha.isS (Nat.le_refl _) hJ, if_neg (by decide), if_pos hs, e3, bind_some, c2 (ha.sub (by omega) (Nat.le_refl _))]
      · rename_i hs
        cases h
        refine ⟨by omega, fun ha => ?_⟩
        have hJ : i ≤ i := by omega
        rw [altM, (ha.far (Nat.le_refl _) hJ).1, ha.isS (Nat.le_refl _) hJ, if_neg (by decide), if_neg hs]
    · intro items i o n j p h
      rw [rowF] at h
      obtain ⟨a, i', o', e1, e2⟩ := bind_ok h
      obtain ⟨l1, c1⟩ := h4 _ _ _ _ _ e1
      cases a with
      | none =>
        cases e2
        exact ⟨l1, fun ha => by rw [rowF, c1 ha, bind_some]⟩
      | some m =>
        obtain ⟨m', i2, o2, e3, e4⟩ := bind_ok' e2
        obtain ⟨l2, c2⟩ := sufS_agree (T' := T') (d := d) e3
        obtain ⟨l3, c3⟩ := h3 _ _ _ _ _ _ e4
        refine ⟨by omega, fun ha => ?_⟩
        rw [rowF, c1 (ha.sub (Nat.le_refl _) (by omega)), bind_some]
        show (sufS T' m (i' + d) o').bind _ = _
        rw [c2 j (ha.sub l1 (Nat.le_refl _)) (by omega), bind_res, c3 (ha.sub (by omega) (Nat.le_refl _))]
    · intro e i o n j p h
      rw [arndF] at h
      split at h
      · cases h
      rename_i ho
      obtain ⟨a, i', o', e1, e2⟩ := bind_ok h
      obtain ⟨u, i2, o2, e3, e4⟩ := bind_ok' e2
      cases e4
      obtain ⟨l1, c1⟩ := h1 _ _ _ _ _ e1
      obtain ⟨h6, h7, h8⟩ := takeS_ok e3
      refine ⟨by omega, fun ha => ?_⟩
      have e5 := c1 (ha.sub (by omega) (by omega))
      rw [show i + 1 + d = i + d + 1 by omega] at e5
      rw [arndF, if_neg ho, e5, bind_some, takeS_agree e3 (ha.sub (by omega) (Nat.le_refl _)) (by omega), bind_res]
end Go.Proofs.Ytjaampgpihicmaa.Syn
