/- Chapter 13 (cyk): the ways to put brackets; the doubling grammar's cells. No program. -/
import Derived.Test.YtbpgolmbielpgaaCyk3
namespace Go.Proofs.Ytbpgolmbielpgaa
namespace Ck
theorem sumK_congr {f g : Nat → Int} {lo lo' cnt : Nat} (h : ∀ q, q < cnt → f (lo + q) = g (lo' + q)) : sumK f lo cnt = sumK g lo' cnt := by
  unfold sumK
  congr 1
  refine List.map_congr_left fun q hq => h q (by simpa using hq)
/-- The ways for lengths up to s. -/
def waysL : Nat → List Int
  | 0 => [0]
  | s + 1 => waysL s ++ [if s = 0 then 1 else min cap (sumK (fun k => min ((waysL s).getD k 0 * (waysL s).getD (s + 1 - k) 0) cap) 1 s)]
def wayN (s : Nat) : Int := (waysL s).getD s 0
theorem waysL_len : ∀ s, (waysL s).length = s + 1
  | 0 => rfl
  | s + 1 => by rw [waysL, List.length_append, waysL_len s]; rfl
theorem waysL_at : ∀ (t s : Nat), s ≤ t → (waysL t).getD s 0 = wayN s
  | 0, s, h => by
    have : s = 0 := by omega
    subst this; rfl
  | t + 1, s, h => by
    by_cases e : s = t + 1
    · subst e; rfl
    · have hl := waysL_len t
      rw [waysL, List.getD, List.getElem?_append_left (by omega)]
      exact waysL_at t s (by omega)
theorem wayN_one : wayN 1 = 1 := rfl
theorem wayN_succ (s : Nat) (hs : 1 ≤ s) : wayN (s + 1) = min cap (sumK (fun k => min (wayN k * wayN (s + 1 - k)) cap) 1 s) := by
  have e : wayN (s + 1) = min cap (sumK (fun k => min ((waysL s).getD k 0 * (waysL s).getD (s + 1 - k) 0) cap) 1 s) := by
    unfold wayN
    rw [waysL, List.getD, List.getElem?_append_right (by rw [waysL_len]; omega), waysL_len, Nat.sub_self]
    simp only [List.getElem?_cons_zero, Option.getD_some]
    rw [if_neg (by omega)]
  rw [e]
  congr 1
  refine sumK_congr fun q hq => ?_
  rw [waysL_at s (1 + q) (by omega), waysL_at s (s + 1 - (1 + q)) (by omega)]
theorem wayN_nonneg : ∀ s, 0 ≤ wayN s := by
  intro s
  induction s using Nat.strongRecOn with
  | ind s ih =>
    match s, ih with
    | 0, _ => decide
    | 1, _ => decide
    | s + 2, ih =>
      rw [wayN_succ (s + 1) (by omega)]
      have : 0 ≤ sumK (fun k => min (wayN k * wayN (s + 1 + 1 - k)) cap) 1 (s + 1) := by
        have e : sumK (fun k => min (wayN k * wayN (s + 1 + 1 - k)) cap) 1 (s + 1) = sumK (fun k => if k < s + 2 ∧ 0 < k then min (wayN k * wayN (s + 1 + 1 - k)) cap else 0) 1 (s + 1) := sumK_congr fun q hq => by
          rw [if_pos ⟨by omega, by omega⟩]
        rw [e]
        refine sumK_nonneg (fun k => ?_) _ _
        split
        · have := Int.mul_nonneg (ih k (by omega)) (ih (s + 1 + 1 - k) (by omega))
          unfold cap; omega
        · omega
      unfold cap at *; omega
theorem wayN_le : ∀ s, wayN s ≤ cap
  | 0 => by decide
  | 1 => by decide
  | s + 2 => by rw [wayN_succ (s + 1) (by omega)]; omega
theorem ix_inj {n i j k l : Nat} (h1 : i < j) (h2 : j ≤ n) (h3 : k < l) (h4 : l ≤ n) (h : ix n i j = ix n k l) : i = k ∧ j = l := by
  unfold ix at h
  have hn : 0 < n := by omega
  have e : (i * n + (j - 1)) = (k * n + (l - 1)) := by omega
  have e1 : (i * n + (j - 1)) / n = i := by rw [Nat.mul_comm, Nat.mul_add_div hn, Nat.div_eq_of_lt (by omega)]; rfl
  have e2 : (k * n + (l - 1)) / n = k := by rw [Nat.mul_comm, Nat.mul_add_div hn, Nat.div_eq_of_lt (by omega)]; rfl
  have hik : i = k := by rw [← e1, ← e2, e]
  subst hik
  exact ⟨rfl, by omega⟩
/-- The pairs of the doubling grammar. -/
def dblQ (z : Int) : List (Int × Int) := if z = 0 then [(0, 0)] else []
theorem fill_dbl {T : Nat → Int → Int} {n i j : Nat} (hij : i + 1 < j) (h1 : ∀ k, i < k → k < j → T (ix n i k) 0 = wayN (k - i) ∧ T (ix n k j) 0 = wayN (j - k)) : fillV T n [0] dblQ i j 0 = wayN (j - i) := by
  have hp : ∀ k, partK [0] dblQ (T (ix n i k)) (T (ix n k j)) 0 = min (T (ix n i k) 0 * T (ix n k j) 0) cap := fun k => by
    simp [partK, sumL, dblQ, contr]
  unfold fillV
  obtain ⟨s, hs⟩ : ∃ s, j - i = s + 1 := ⟨j - i - 1, by omega⟩
  rw [hs, wayN_succ s (by omega), show j - (i + 1) = s by omega]
  congr 1
  refine sumK_congr fun q hq => ?_
  rw [hp, (h1 (i + 1 + q) (by omega) (by omega)).1, (h1 (i + 1 + q) (by omega) (by omega)).2]
  congr 3 <;> omega
theorem fill_other {T : Nat → Int → Int} {n i j : Nat} {z : Int} (hz : z ≠ 0) : fillV T n [0] dblQ i j z = 0 := by
  have hp : ∀ k, partK [0] dblQ (T (ix n i k)) (T (ix n k j)) z = 0 := fun k => by
    have h0 : ¬ (0 : Int) = z := fun e => hz e.symm
    simp [partK, sumL, dblQ, contr, h0]
  unfold fillV
  have : sumK (fun k => partK [0] dblQ (T (ix n i k)) (T (ix n k j)) z) (i + 1) (j - (i + 1)) = 0 := by
    simp only [hp]
    generalize j - (i + 1) = c
    induction c with
    | zero => rfl
    | succ c ih => rw [sumK_succ, ih]; rfl
  rw [this]; rfl
end Ck
end Go.Proofs.Ytbpgolmbielpgaa
