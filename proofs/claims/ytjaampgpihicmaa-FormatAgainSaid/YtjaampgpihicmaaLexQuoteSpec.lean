/- Plain mathematics of chapter 4 (lex): a text quoted, and read back. No program in sight. -/
import Derived.Test.YtjaampgpihicmaaLexWalk9
import Derived.Test.YtjaampgpihicmaaLexQ0
namespace Go.Proofs.Ytjaampgpihicmaa.Lex

theorem hexv_hexD : ∀ n : Fin 16, hexv (hexD n.val) = n.val := by decide +kernel
theorem hexv_hexD' (n : Nat) (h : n < 16) : hexv (hexD n) = n := hexv_hexD ⟨n, h⟩
theorem byte_back : ∀ c : Fin 256, UInt8.ofNat (16 * ((c.val / 16 : Nat) : Int) + ((c.val % 16 : Nat) : Int)).toNat = UInt8.ofNat c.val := by decide +kernel
theorem byte_back' (c : UInt8) : UInt8.ofNat (16 * ((c.toNat / 16 : Nat) : Int) + ((c.toNat % 16 : Nat) : Int)).toNat = c := by
  have := byte_back ⟨c.toNat, c.toNat_lt⟩
  simpa using this

theorem litS_quoteB (q c : UInt8) (hq : q = 39 ∨ q = 34) (r out : List UInt8) (co : Nat) : litS q .norm (quoteB q c ++ r) out co = litS q .norm r (out ++ [c]) (co + (quoteB q c).length) := by
  have h92 : (92 : UInt8) ≠ q := by rcases hq with rfl | rfl <;> decide
  have hc255 := c.toNat_lt
  unfold quoteB
  split
  · rename_i h
    have h' : c = 92 ∨ c = 39 ∨ c = 34 := by
      rcases h with rfl | rfl
      · rcases hq with rfl | rfl <;> simp
      · simp
    show litS q .norm (92 :: c :: r) out co = _
    simp only [litS]
    rw [if_neg h92, if_pos trivial, if_pos h']
    rfl
  · rename_i h
    have hcq : c ≠ q := fun e => h (.inl e)
    have hc92 : c ≠ 92 := fun e => h (.inr e)
    split
    · rename_i h10
      subst h10
      show litS q .norm (92 :: 110 :: r) out co = _
      simp only [litS]
      rw [if_neg h92, if_pos trivial, if_neg (by decide), if_pos trivial]
      rfl
    · split
      · rename_i h9
        subst h9
        show litS q .norm (92 :: 116 :: r) out co = _
        simp only [litS]
        rw [if_neg h92, if_pos trivial, if_neg (by decide), if_neg (by decide), if_pos trivial]
        rfl
      · split
        · show litS q .norm (92 :: 120 :: hexD (c.toNat / 16) :: hexD (c.toNat % 16) :: r) out co = _
          simp only [litS]
          rw [if_neg h92, if_pos trivial, if_neg (by decide), if_neg (by decide), if_neg (by decide), if_pos trivial]
          rw [hexv_hexD' (c.toNat / 16) (by omega), hexv_hexD' (c.toNat % 16) (by omega), if_neg (by omega), if_neg (by omega), byte_back' c]
          rfl
        · rename_i hr
          show litS q .norm (c :: r) out co = _
          simp only [litS]
          rw [if_neg hcq, if_neg hc92, if_neg hr]
          rfl

theorem litS_quote (q : UInt8) (hq : q = 39 ∨ q = 34) (rest : List UInt8) : ∀ (l out : List UInt8) (co : Nat), litS q .norm (l.flatMap (quoteB q) ++ q :: rest) out co = .good (out ++ l) rest (co + (l.flatMap (quoteB q)).length + 1)
  | [], out, co => by simp [litS]
  | c :: l, out, co => by
    rw [List.flatMap_cons, List.append_assoc, litS_quoteB q c hq, litS_quote q hq rest l]
    simp [Nat.add_assoc]

/-- The token that a quoted text begins. -/
theorem tokS_quote (l rest : List UInt8) (li co : Nat) (h0 : l ≠ []) (h16 : l.length ≤ 16) :
    tokS (quoteQ l) (l.flatMap (quoteB (quoteQ l)) ++ quoteQ l :: rest) li co = .good ⟨2, l, li, co⟩ rest li (co + (quoteS l).length) := by
  have hq := quoteQ_or l
  have hL : isLetter (quoteQ l) = false := by rcases hq with h | h <;> rw [h] <;> decide
  unfold tokS
  rw [hL, if_neg (by simp), if_pos hq, litS_quote _ hq]
  simp only [List.nil_append]
  rw [if_neg h0, if_neg (by omega)]
  simp only [quoteS, List.length_cons, List.length_append, List.length_nil]
  congr 1
  omega

theorem quote_stop (l r : List UInt8) (li co : Nat) : skipS false (quoteQ l :: r) li co = (quoteQ l :: r, li, co) := by
  have hq := quoteQ_or l
  refine skip_stop _ _ ?_ ?_
  · rcases hq with h | h <;> rw [h] <;> decide
  · rcases hq with h | h <;> rw [h] <;> decide

theorem scan_quote (l : List UInt8) (h : l.length ≤ 16000) :
    scan (quoteS l) = if l = [] then .bad ⟨1, 1, 2⟩ else if 16 < l.length then .bad ⟨1, 1, 6⟩ else .good [⟨2, l, 1, 1⟩, ⟨4, [], 1, 1 + (quoteS l).length⟩] := by
  have hlen := quoteS_len l
  have hq := quoteQ_or l
  have hL : isLetter (quoteQ l) = false := by rcases hq with h | h <;> rw [h] <;> decide
  unfold scan
  rw [if_neg (by omega), scanS_eq]
  by_cases h16 : l ≠ [] ∧ l.length ≤ 16
  · rw [if_neg h16.1, if_neg (by omega)]
    have ht := tokS_quote l [] 1 1 h16.1 h16.2
    generalize hn : (quoteS l).length = n at ht ⊢
    show contS (skipS false (quoteQ l :: (l.flatMap (quoteB (quoteQ l)) ++ [quoteQ l])) 1 1).1 (skipS false (quoteQ l :: (l.flatMap (quoteB (quoteQ l)) ++ [quoteQ l])) 1 1).2.1 (skipS false (quoteQ l :: (l.flatMap (quoteB (quoteQ l)) ++ [quoteQ l])) 1 1).2.2 = _
    rw [quote_stop]
    simp only [contS]
    rw [ht]
    rfl
  · show contS (skipS false (quoteQ l :: (l.flatMap (quoteB (quoteQ l)) ++ [quoteQ l])) 1 1).1 (skipS false (quoteQ l :: (l.flatMap (quoteB (quoteQ l)) ++ [quoteQ l])) 1 1).2.1 (skipS false (quoteQ l :: (l.flatMap (quoteB (quoteQ l)) ++ [quoteQ l])) 1 1).2.2 = _
    rw [quote_stop]
    simp only [contS]
    unfold tokS
    rw [hL, if_neg (by simp), if_pos hq, litS_quote _ hq]
    simp only [List.nil_append]
    by_cases h0 : l = []
    · rw [if_pos h0, if_pos h0]
    · rw [if_neg h0, if_neg h0]
      have : 16 < l.length := by
        rcases Nat.lt_or_ge 16 l.length with h | h
        · exact h
        · exact absurd ⟨h0, h⟩ h16
      rw [if_pos this, if_pos this]
end Go.Proofs.Ytjaampgpihicmaa.Lex
