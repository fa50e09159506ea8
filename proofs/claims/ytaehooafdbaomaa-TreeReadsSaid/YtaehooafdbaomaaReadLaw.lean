/- Chapter 14 (tree), in plain Lean: what is read is the grammar's, and its bytes are the bytes. No program. -/
import Derived.Test.YtaehooafdbaomaaTreePut
import Derived.Test.YtaehooafdbaomaaRefNext
namespace Go.Proofs.Ytaehooafdbaomaa
namespace Tr
theorem readK_put {G : Gr} {g : Option Int → List UInt8 → Nat → RR (Int × Fo)} (hg : ∀ m l c a l' c', g m l c = .ok a l' c' → l = Oct.putS a.1 ++ a.2.put ++ l' ∧ chkT G a.1 a.2 = true ∧ kindOk G m a.1 = true ∧ 1 + a.2.nodes + l'.length ≤ l.length) : ∀ (xs : List Int) (l : List UInt8) (c : Nat) (fo : Fo) (l' : List UInt8) (c' : Nat), readK g xs l c = .ok fo l' c' → l = fo.put ++ l' ∧ fo.len = xs.length ∧ chkF G xs fo = true ∧ fo.nodes + l'.length ≤ l.length
  | [], l, c, fo, l', c', h => by
    cases h
    exact ⟨by simp [Fo.put], rfl, rfl, by simp [Fo.nodes]⟩
  | s :: r, l, c, fo, l', c', h => by
    rw [readK] at h
    cases h1 : g (some s) l c with
    | bad e => rw [h1] at h; cases h
    | ok a l1 c1 =>
      rw [h1] at h
      simp only [] at h
      obtain ⟨h2, h3, h5, h6⟩ := hg _ _ _ _ _ _ h1
      cases h4 : readK g r l1 c1 with
      | bad e => rw [h4] at h; cases h
      | ok f l2 c2 =>
        rw [h4] at h
        cases h
        obtain ⟨k1, k2, k3, k4⟩ := readK_put hg r l1 c1 _ _ _ h4
        refine ⟨?_, ?_, ?_, ?_⟩
        · rw [Fo.put, List.append_assoc, ← k1]
          exact h2
        · rw [Fo.len, k2, List.length_cons]
        · unfold chkF
          unfold chkT at h3
          have h5' : (rootS G a.1 == s) = true := h5
          rw [h3, h5', k3]
          rfl
        · rw [Fo.nodes]
          omega
theorem readT_put (G : Gr) : ∀ (f : Nat) (m : Option Int) (l : List UInt8) (c : Nat) (a : Int × Fo) (l' : List UInt8) (c' : Nat), readT G f m l c = .ok a l' c' → l = Oct.putS a.1 ++ a.2.put ++ l' ∧ chkT G a.1 a.2 = true ∧ kindOk G m a.1 = true ∧ 1 + a.2.nodes + l'.length ≤ l.length
  | 0, _, _, _, _, _, _, h => by cases h
  | f + 1, m, l, c, a, l', c', h => by
    rw [readT] at h
    cases hg : Oct.getS l with
    | bad e => rw [hg] at h; cases h
    | ok n k =>
      obtain ⟨hp, _, hk0, hkl, _⟩ := Oct.put_getS hg
      rw [hg] at h
      simp only [] at h
      by_cases c1 : thereB G n = false
      · rw [if_pos c1] at h; cases h
      · rw [if_neg c1] at h
        by_cases c2 : kindOk G m n = false
        · rw [if_pos c2] at h; cases h
        · rw [if_neg c2] at h
          by_cases c3 : c = 65536
          · rw [if_pos c3] at h; cases h
          · rw [if_neg c3] at h
            cases h4 : readK (readT G f) (rightS G n) (l.drop k) (c + 1) with
            | bad e => rw [h4] at h; cases h
            | ok fo l2 c2 =>
              rw [h4] at h
              cases h
              obtain ⟨k1, k2, k3, k4⟩ := readK_put (readT_put G f) _ _ _ _ _ _ h4
              rw [List.length_drop] at k4
              refine ⟨?_, ?_, by simpa using c2, by show 1 + fo.nodes + _ ≤ _; omega⟩
              · show l = Oct.putS n ++ fo.put ++ l'
                rw [hp, List.append_assoc, ← k1, List.take_append_drop]
              · show chkT G n fo = true
                unfold chkT
                rw [k3, decide_eq_true k2.symm]
                simpa using c1
theorem getT_read (G : Gr) (l : List UInt8) : (getT G l).2.2.nodes ≤ l.length ∧ ((getT G l).1 = 0 → chkT G (getT G l).2.1 (getT G l).2.2 = true ∧ Oct.putS (getT G l).2.1 ++ (getT G l).2.2.put = l) := by
  unfold getT
  cases h : readT G (l.length + 1) none l 0 with
  | bad e =>
    refine ⟨Nat.zero_le _, fun he => ?_⟩
    exact absurd he (readT_code G _ _ _ _ _ (Nat.zero_le _) (Nat.lt_succ_self _) h)
  | ok a l' c =>
    obtain ⟨h1, h2, _, h4⟩ := readT_put G _ _ _ _ _ _ _ h
    cases l' with
    | nil =>
      refine ⟨by show a.2.nodes ≤ _; omega, fun _ => ⟨h2, ?_⟩⟩
      rw [h1]
      simp
    | cons x r => exact ⟨Nat.zero_le _, fun he => by cases he⟩
end Tr
end Go.Proofs.Ytaehooafdbaomaa
