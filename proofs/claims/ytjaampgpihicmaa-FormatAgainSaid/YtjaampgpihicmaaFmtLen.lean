/- Plain mathematics of chapter 6 (format): how long a node's text is. No program in sight. -/
import Derived.Test.YtjaampgpihicmaaFmtText
import Derived.Test.YtjaampgpihicmaaSynLaw5
namespace Go.Proofs.Ytjaampgpihicmaa.Fmt
open Syn (Nd Nod)

theorem bytes_sg (c : UInt8) : bytesG [sg c] = [c] := rfl
theorem bytes_par (a b : UInt8) (l : List Gl) : bytesG (par a l b) = a :: (bytesG l ++ [b]) := by simp [par, bytesG, sg, Gl.bytes, Lex.shape]
theorem bytes_end (l : List Gl) (c : UInt8) : bytesG (l ++ [sg c]) = bytesG l ++ [c] := by rw [bytesG_app]; rfl
def En.bp (e : En) : Nat := (bytesG e.put).length
def En.ba (e : En) : Nat := (bytesG e.atom).length
theorem bytes_item (e : En) : (bytesG e.item).length ≤ e.bp + 2 := by unfold En.item En.bp; split <;> (try rw [bytes_par]) <;> simp
theorem bytes_row (e : En) : (bytesG e.row).length ≤ e.bp + 2 := by unfold En.row En.bp; split <;> (try rw [bytes_par]) <;> simp
/-- Texts of so many nodes. -/
def Fit (e : En) (n : Nat) : Prop := e.bp + 3 ≤ 70 * n ∧ e.ba + 1 ≤ 70 * n
theorem bytes_flat (s : Gl) (hs : s.bytes.length = 1) (f : En → List Gl) (hf : ∀ e, (bytesG (f e)).length ≤ e.bp + 2) : ∀ (es : List En) (N : Nat), ((es.map fun e => e.bp + 3).sum ≤ N) → (bytesG ((es.map f).flatMap fun b => s :: b)).length ≤ N
  | [], N, _ => Nat.zero_le _
  | e :: r, N, h => by
    rw [List.map_cons, List.sum_cons] at h
    have ih := bytes_flat s hs f hf r (N - (e.bp + 3)) (by omega)
    rw [List.map_cons, List.flatMap_cons, bytesG_app, List.length_append, bytesG_cons, List.length_append, hs]
    have := hf e
    omega
theorem bytes_join (s : Gl) (hs : s.bytes.length = 1) (f : En → List Gl) (hf : ∀ e, (bytesG (f e)).length ≤ e.bp + 2) : ∀ (es : List En), (bytesG (joinG s (es.map f))).length ≤ (es.map fun e => e.bp + 3).sum
  | [] => Nat.zero_le _
  | e :: r => by
    have ih := bytes_flat s hs f hf r _ (Nat.le_refl _)
    rw [List.map_cons, joinG, bytesG_app, List.length_append, List.map_cons, List.sum_cons]
    have := hf e
    omega
theorem leaf_len {k : Nat} {t : List UInt8} {n : Nat} (h : Syn.fitN k t n = true) (hk : k = 1 ∨ k = 2) : (Gl.tok k t).bytes.length ≤ 66 := by
  have hok : (⟨k, t, 0, 0⟩ : Lex.Tok).ok := by
    unfold Syn.fitN at h
    rcases hk with rfl | rfl
    · simp only [if_true, Bool.and_eq_true] at h
      exact name_ok h.1
    · rw [if_neg (by decide), if_pos rfl] at h
      simp only [Bool.and_eq_true, bne_iff_ne, ne_eq, decide_eq_true_eq] at h
      exact .inr (.inl ⟨rfl, h.1.1, h.1.2⟩)
  exact Lex.shape_len hok
/-- The sum over a row. -/
def sumB (f : Nd) : Nat := ((ens f).map fun e => e.bp + 3).sum
theorem fit_all : ∀ f : Nd, f.proper = true → sumB f ≤ 70 * f.nodes ∧ (∀ e ∈ ens f, Fit e f.nodes)
  | .nil, _ => ⟨Nat.le_refl _, fun e h => by cases h⟩
  | .cons k t kids r, hp => by
    unfold Nd.proper at hp
    simp only [Bool.and_eq_true] at hp
    obtain ⟨⟨hf, hk⟩, hr⟩ := hp
    obtain ⟨h1, h2⟩ := fit_all kids hk
    obtain ⟨h3, h4⟩ := fit_all r hr
    have hd : (hdE (ens kids)).bp ≤ 70 * kids.nodes ∧ (hdE (ens kids)).ba ≤ 70 * kids.nodes := by
      cases he : ens kids with
      | nil => exact ⟨Nat.zero_le _, Nat.zero_le _⟩
      | cons e q =>
        have := h2 e (by rw [he]; exact List.mem_cons_self)
        unfold Fit at this
        exact ⟨by show e.bp ≤ _; omega, by show e.ba ≤ _; omega⟩
    have hag : ∀ a b c : UInt8, (bytesG ((hdE (ens kids)).again a b c)).length ≤ 70 * kids.nodes + 2 := fun a b c => by
      unfold En.again
      split
      · rw [bytes_end]
        have := hd.2
        unfold En.ba at this
        simp
        omega
      · rw [bytes_par]
        have := hd.1
        unfold En.bp at this
        simp
        omega
    have hput : (bytesG (putE k t (ens kids))).length + 3 ≤ 70 * (1 + kids.nodes) := by
      unfold putE
      split
      · rename_i hk12
        have := leaf_len hf hk12
        rw [show bytesG [Gl.tok k t] = (Gl.tok k t).bytes by simp [bytesG]]
        omega
      · split
        · have := bytes_join (.bl 32) rfl En.item bytes_item (ens kids)
          unfold sumB at h1
          omega
        · split
          · have := bytes_join (sg 124) rfl En.row bytes_row (ens kids)
            unfold sumB at h1
            omega
          · split
            · have := hag 91 63 93
              omega
            · split
              · have := hag 123 42 125
                omega
              · split
                · rw [bytes_end]
                  have := hd.2
                  unfold En.ba at this
                  simp
                  omega
                · simp [bytesG]
                  omega
    have hfit : Fit (enE k t (ens kids)) (1 + kids.nodes) := by
      refine ⟨hput, ?_⟩
      show (bytesG (atomE k t (ens kids))).length + 1 ≤ _
      unfold atomE
      split
      · rename_i hk12
        have := leaf_len hf hk12
        rw [show bytesG [Gl.tok k t] = (Gl.tok k t).bytes by simp [bytesG]]
        omega
      · have := hd.1
        unfold En.bp at this
        split
        · rw [bytes_par]
          simp
          omega
        · split
          · rw [bytes_par]
            simp
            omega
          · rw [bytes_par]
            simp
            omega
    constructor
    · show (enE k t (ens kids)).bp + 3 + sumB r ≤ _
      unfold Nd.nodes
      have := hfit.1
      omega
    · intro e he
      rw [ens] at he
      unfold Nd.nodes
      rcases List.mem_cons.1 he with rfl | he
      · unfold Fit at hfit ⊢
        omega
      · have := h4 e he
        unfold Fit at this ⊢
        omega
/-- How many nodes. -/
def sz (n : Nod) : Nat := 1 + n.kids.nodes
theorem fit_node {n : Nod} (h : n.proper = true) : Fit (en n) (sz n) := by
  have := (fit_all n.row (by rw [Nod.row_proper]; exact h)).2 (en n) (by rw [ens_row]; exact List.mem_singleton.2 rfl)
  have e : n.row.nodes = sz n := by simp [Nod.row, Nd.nodes, sz]
  rwa [e] at this
end Go.Proofs.Ytjaampgpihicmaa.Fmt
