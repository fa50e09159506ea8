/- Chapter 1 (octets), in plain Lean: the bytes of a number, and the number of bytes. No program. -/
import Derived.Test.YtaehooafdbaomaaBase
namespace Go.Proofs.Ytaehooafdbaomaa.Oct
/-- Digits to base 256, greatest first. -/
def beF : Nat → Nat → List UInt8
  | 0, _ => []
  | f + 1, m => if m = 0 then [] else beF f (m / 256) ++ [UInt8.ofNat (m % 256)]
def be (m : Nat) : List UInt8 := beF 7 m
def most : Nat := 9007199254740992
def putS (n : Int) : List UInt8 := if most < n.natAbs then [] else UInt8.ofNat ((if n < 0 then 128 else 0) + (be n.natAbs).length) :: be n.natAbs
def val (n : Nat) (l : List UInt8) : Nat := l.foldl (fun n c => 256 * n + c.toNat) n
/-- What Get answers. -/
inductive GRes where
  | bad (e : Nat) : GRes
  | ok (n : Int) (k : Nat) : GRes
def sgn (c : UInt8) (v : Nat) : Int := if 127 < c.toNat then -(v : Int) else (v : Int)
def getS : List UInt8 → GRes
  | [] => .bad 3
  | c :: r =>
    if 7 < c.toNat % 128 ∨ c.toNat = 128 then .bad 2
    else if r.length < c.toNat % 128 then .bad 3
    else if most < val 0 (r.take (c.toNat % 128)) ∨ (0 < c.toNat % 128 ∧ r.headD 1 = 0) then .bad 2
    else .ok (sgn c (val 0 (r.take (c.toNat % 128)))) (c.toNat % 128 + 1)
theorem val_snoc (n : Nat) (l : List UInt8) (c : UInt8) : val n (l ++ [c]) = 256 * val n l + c.toNat := by simp [val]
theorem val_lt : ∀ (l : List UInt8) (n : Nat), val n l < (n + 1) * 256 ^ l.length
  | [], n => by simp [val]
  | c :: r, n => by
    have h := val_lt r (256 * n + c.toNat)
    have hc := c.toNat_lt
    have h2 : (256 * n + c.toNat + 1) * 256 ^ r.length ≤ ((n + 1) * 256) * 256 ^ r.length := Nat.mul_le_mul_right _ (by omega)
    show val (256 * n + c.toNat) r < _
    rw [List.length_cons, Nat.pow_succ, Nat.mul_comm (256 ^ r.length) 256, ← Nat.mul_assoc]
    omega
theorem val_ge : ∀ (l : List UInt8) (n : Nat), n ≤ val n l
  | [], _ => Nat.le_refl _
  | c :: r, n => by
    have h := val_ge r (256 * n + c.toNat)
    show n ≤ val (256 * n + c.toNat) r
    omega
theorem val_pos {l : List UInt8} (h : l ≠ []) (h0 : l.headD 1 ≠ 0) : 0 < val 0 l := by
  cases l with
  | nil => exact absurd rfl h
  | cons c r =>
    have h1 := val_ge r (256 * 0 + c.toNat)
    have h2 : c.toNat ≠ 0 := fun e => h0 (UInt8.toNat_inj.1 (by simpa using e))
    show 0 < val (256 * 0 + c.toNat) r
    omega
theorem beF_val : ∀ (f : Nat) (l : List UInt8), l.length ≤ f → l.headD 1 ≠ 0 → beF f (val 0 l) = l
  | 0, l, h, _ => by
    have : l = [] := List.eq_nil_of_length_eq_zero (by omega)
    subst this
    rfl
  | f + 1, l, h, h0 => by
    rcases List.eq_nil_or_concat l with rfl | ⟨r, c, rfl⟩
    · rfl
    · have hp := val_pos (l := r ++ [c]) (by simp) (by simpa using h0)
      rw [List.concat_eq_append] at h h0 ⊢
      have hc := c.toNat_lt
      rw [beF, if_neg (by omega), val_snoc, show (256 * val 0 r + c.toNat) / 256 = val 0 r by omega, show (256 * val 0 r + c.toNat) % 256 = c.toNat by omega]
      rw [beF_val f r (by simp at h; omega) (by
        cases r with
        | nil => decide
        | cons a b => simpa using h0)]
      simp
theorem beF_nil : ∀ {f m : Nat}, m < 256 ^ f → beF f m = [] → m = 0
  | 0, m, h, _ => by simpa using h
  | f + 1, m, h, e => by
    unfold beF at e
    split at e
    · assumption
    · simp at e
theorem beF_head : ∀ {f m : Nat}, m < 256 ^ f → (beF f m).headD 1 ≠ 0
  | 0, _, _ => by simp [beF]
  | f + 1, m, h => by
    unfold beF
    split
    · decide
    · rename_i hm
      have hq : m / 256 < 256 ^ f := by
        rw [Nat.pow_succ] at h
        omega
      have ih := beF_head hq
      cases hb : beF f (m / 256) with
      | nil =>
        have hz := beF_nil hq hb
        rw [List.nil_append]
        show UInt8.ofNat (m % 256) ≠ 0
        intro e
        have e2 := congrArg UInt8.toNat e
        rw [UInt8.toNat_ofNat'] at e2
        have : (0 : UInt8).toNat = 0 := rfl
        omega
      | cons a b =>
        rw [hb] at ih
        simpa using ih
theorem val_be : ∀ {f m : Nat}, m < 256 ^ f → val 0 (beF f m) = m
  | 0, m, h => by
    have : m = 0 := by simpa using h
    subst this
    rfl
  | f + 1, m, h => by
    unfold beF
    split
    · subst_vars; rfl
    · have hq : m / 256 < 256 ^ f := by
        rw [Nat.pow_succ] at h
        omega
      rw [val_snoc, val_be hq, UInt8.toNat_ofNat']
      omega
theorem beF_len : ∀ (f m : Nat), (beF f m).length ≤ f
  | 0, _ => Nat.le_refl _
  | f + 1, m => by
    unfold beF
    split
    · simp
    · have := beF_len f (m / 256)
      simp
      omega
theorem be_len (m : Nat) : (be m).length ≤ 7 := beF_len 7 m
theorem val_be' {m : Nat} (h : m ≤ most) : val 0 (be m) = m := val_be (by unfold most at h; omega)
theorem be_head {m : Nat} (h : m ≤ most) : (be m).headD 1 ≠ 0 := beF_head (by unfold most at h; omega)
theorem be_val {l : List UInt8} (h : l.length ≤ 7) (h0 : l.headD 1 ≠ 0) : be (val 0 l) = l := beF_val 7 l h h0
/-- A number's bytes are read as the number. -/
theorem getS_put {n : Int} (h : n.natAbs ≤ most) (r : List UInt8) : getS (putS n ++ r) = .ok n (putS n).length ∧ 0 < (putS n).length ∧ (putS n).length ≤ 8 := by
  have hl := be_len n.natAbs
  have hv := val_be' h
  have hh := be_head h
  have hp : putS n = UInt8.ofNat ((if n < 0 then 128 else 0) + (be n.natAbs).length) :: be n.natAbs := by unfold putS; rw [if_neg (by omega)]
  rw [hp]
  refine ⟨?_, by simp, by simp; omega⟩
  obtain ⟨k, hk⟩ : ∃ k, k = (be n.natAbs).length := ⟨_, rfl⟩
  have hc : (UInt8.ofNat ((if n < 0 then 128 else 0) + (be n.natAbs).length)).toNat = (if n < 0 then 128 else 0) + k := by
    rw [UInt8.toNat_ofNat', ← hk]
    split <;> omega
  have hm : ((if n < 0 then 128 else 0) + k) % 128 = k := by split <;> omega
  have h128 : ¬ (if n < 0 then 128 else 0) + k = 128 := by
    split
    · intro e
      have hk0 : be n.natAbs = [] := List.eq_nil_of_length_eq_zero (by omega)
      rw [hk0] at hv
      have : val 0 [] = 0 := rfl
      omega
    · omega
  rw [List.cons_append, getS, hc, hm, if_neg (by omega), if_neg (by rw [List.length_append]; omega), List.take_left' hk.symm, hv]
  have hhd : ¬ (0 < k ∧ (be n.natAbs ++ r).headD 1 = 0) := by
    rintro ⟨h1, h2⟩
    cases hb : be n.natAbs with
    | nil => rw [hb] at hk; simp at hk; omega
    | cons a b => rw [hb] at h2 hh; exact hh (by simpa using h2)
  rw [if_neg (by intro e; rcases e with e | e; omega; exact hhd e), List.length_cons, ← hk]
  congr 1
  unfold sgn
  rw [hk, hc]
  by_cases hn : n < 0
  · rw [if_pos hn, if_pos (by omega)]
    omega
  · rw [if_neg hn, if_neg (by omega)]
    omega
theorem getS_code {l : List UInt8} {e : Nat} (h : getS l = .bad e) : e ≠ 0 := by
  cases l with
  | nil => simp [getS] at h; omega
  | cons c r =>
    rw [getS] at h
    split at h
    · cases h; decide
    · split at h
      · cases h; decide
      · split at h
        · cases h; decide
        · cases h
/-- What is read is the number's bytes. -/
theorem put_getS {l : List UInt8} {n : Int} {k : Nat} (h : getS l = .ok n k) : putS n = l.take k ∧ n.natAbs ≤ most ∧ 0 < k ∧ k ≤ l.length ∧ k ≤ 8 := by
  cases l with
  | nil => simp [getS] at h
  | cons c r =>
    rw [getS] at h
    split at h
    · cases h
    · rename_i h1
      split at h
      · cases h
      · rename_i h2
        split at h
        · cases h
        · rename_i h3
          injection h with e1 e2
          obtain ⟨q, hq⟩ : ∃ q, q = c.toNat % 128 := ⟨_, rfl⟩
          rw [← hq] at h1 h2 h3 e1 e2
          have hlen : (r.take q).length = q := by rw [List.length_take]; omega
          have hh : (r.take q).headD 1 ≠ 0 := by
            cases q with
            | zero => simp
            | succ q =>
              cases r with
              | nil => simp
              | cons a b =>
                intro e
                exact h3 (.inr ⟨by omega, by simpa using e⟩)
          have hb := be_val (l := r.take q) (by omega) hh
          have hv : val 0 (r.take q) ≤ most := by omega
          have hc := c.toNat_lt
          have hna : n.natAbs = val 0 (r.take q) := by
            rw [← e1]
            unfold sgn
            split <;> omega
          refine ⟨?_, by omega, by omega, by rw [List.length_cons]; omega, by omega⟩
          unfold putS
          rw [if_neg (by omega), hna, hb, hlen, ← e2, List.take_succ_cons]
          congr 1
          apply UInt8.toNat_inj.1
          rw [UInt8.toNat_ofNat']
          by_cases h127 : 127 < c.toNat
          · have hneg : n < 0 := by
              rw [← e1]
              unfold sgn
              rw [if_pos h127]
              have hq0 : 0 < q := by omega
              have := val_pos (l := r.take q) (by intro e; rw [e] at hlen; simp at hlen; omega) hh
              omega
            rw [if_pos hneg]
            omega
          · have hnn : ¬ n < 0 := by
              rw [← e1]
              unfold sgn
              rw [if_neg h127]
              omega
            rw [if_neg hnn]
            omega
end Go.Proofs.Ytaehooafdbaomaa.Oct
