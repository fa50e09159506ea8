/- Chapter 15 (least): the plain law of LeastGreat: a grammar whose only tree of the empty word doubles. No program. -/
import Derived.Test.YtbpgolmbielpgaaLeast7
import Derived.Test.YtbpgolmbielpgaaTreeA
namespace Go.Proofs.Ytbpgolmbielpgaa
namespace Great
def prod (n i : Nat) : Int × List Int := ((i : Int), if i + 1 = n then [] else [(i : Int) + 1, (i : Int) + 1])
def gram (n : Nat) : Gr := ⟨0, n, (List.range n).map (Facts.chainN n), [⟨#[120]⟩], (List.range n).map (prod n)⟩
theorem at_prod {n q : Nat} {x : Int × List Int} (h : (gram n).prods[q]? = some x) : q < n ∧ x = prod n q := by
  unfold gram at h
  simp only [List.getElem?_map] at h
  by_cases hq : q < n
  · rw [List.getElem?_eq_getElem (by simpa using hq)] at h
    simp at h
    exact ⟨hq, h.symm⟩
  · rw [List.getElem?_eq_none (by simp; omega)] at h
    simp at h
theorem prod_at {n q : Nat} (h : q < n) : (gram n).prods[q]? = some (prod n q) := by
  unfold gram
  simp only [List.getElem?_map]
  rw [List.getElem?_eq_getElem (by simpa using h)]
  simp
theorem sound (m : Nat) (h : m ≤ 31) : Pl.soundB (gram (10 + m)) = true := by
  have H : ∀ k : Fin 32, Pl.soundB (gram (10 + k.1)) = true := by decide +kernel
  exact H ⟨m, by omega⟩
/-- Two forests of one symbol each. -/
theorem of_two {ps : List (Int × List Int)} {f : Fo} {a b : Int} (h : Fo.Of ps [] f [a, b] 0 0) : ∃ p k q l, f = .cons p k (.cons q l .nil) ∧ Fo.Of ps [] (.cons p k .nil) [a] 0 0 ∧ Fo.Of ps [] (.cons q l .nil) [b] 0 0 := by
  cases f with
  | nil => unfold Fo.Of at h; exact absurd h.1 (by simp)
  | cons p k r =>
    unfold Fo.Of at h
    obtain ⟨s, ys, m, e, h1, h2⟩ := h
    injection e with e1 e2
    subst e1 e2
    have hm := h2.le
    obtain rfl : m = 0 := by omega
    cases r with
    | nil => unfold Fo.Of at h2; exact absurd h2.1 (by simp)
    | cons q l r2 =>
      have h3 := h2
      unfold Fo.Of at h2
      obtain ⟨s', ys', m', e, h4, h5⟩ := h2
      injection e with e1 e2
      subst e1 e2
      cases r2 with
      | nil => exact ⟨p, k, q, l, rfl, by unfold Fo.Of; exact ⟨a, [], 0, rfl, h1, rfl, rfl⟩, h3⟩
      | cons _ _ _ => unfold Fo.Of at h5; obtain ⟨_, _, _, e, _⟩ := h5; cases e
theorem only {n : Nat} : ∀ (d i : Nat), i + d + 1 = n → ∀ (p : Int) (k : Fo), Fo.Of (gram n).prods [] (.cons p k .nil) [(i : Int)] 0 0 → k.nodes + 2 = 2 ^ (d + 1) ∧ k.deep = d
  | 0, i, h, p, k, hof => by
    obtain ⟨q, R, k', e, hq, hk⟩ := Le.of_one hof (by omega)
    injection e with e1 e2
    subst e1 e2
    obtain ⟨hqn, hx⟩ := at_prod hq
    unfold prod at hx
    injection hx with e3 e4
    have : q = i := by omega
    subst this
    rw [if_pos (by omega)] at e4
    subst e4
    cases k with
    | nil => exact ⟨rfl, rfl⟩
    | cons _ _ _ => unfold Fo.Of at hk; obtain ⟨_, _, _, e, _⟩ := hk; cases e
  | d + 1, i, h, p, k, hof => by
    obtain ⟨q, R, k', e, hq, hk⟩ := Le.of_one hof (by omega)
    injection e with e1 e2
    subst e1 e2
    obtain ⟨hqn, hx⟩ := at_prod hq
    unfold prod at hx
    injection hx with e3 e4
    have : q = i := by omega
    subst this
    rw [if_neg (by omega)] at e4
    subst e4
    obtain ⟨p1, k1, p2, k2, rfl, h1, h2⟩ := of_two hk
    have e5 : ((q : Int) + 1) = ((q + 1 : Nat) : Int) := by omega
    rw [e5] at h1 h2
    obtain ⟨a1, b1⟩ := only d (q + 1) (by omega) p1 k1 h1
    obtain ⟨a2, b2⟩ := only d (q + 1) (by omega) p2 k2 h2
    simp only [Fo.nodes, Fo.deep]
    rw [Nat.pow_succ]
    omega
theorem some_of {n : Nat} : ∀ (d i : Nat), i + d + 1 = n → ∃ (p : Int) (k : Fo), Fo.Of (gram n).prods [] (.cons p k .nil) [(i : Int)] 0 0
  | 0, i, h => by
    refine ⟨(i : Int), .nil, (i : Int), [], 0, rfl, .inr ⟨by omega, i, [], rfl, ?_, rfl, rfl⟩, rfl, rfl⟩
    rw [prod_at (n := n) (q := i) (by omega)]
    unfold prod
    rw [if_pos (by omega)]
  | d + 1, i, h => by
    obtain ⟨p, k, hk⟩ := some_of (n := n) d (i + 1) (by omega)
    refine ⟨(i : Int), (.cons p k (.cons p k .nil)), (i : Int), [], 0, rfl, .inr ⟨by omega, i, [((i + 1 : Nat) : Int), ((i + 1 : Nat) : Int)], rfl, ?_, ?_⟩, rfl, rfl⟩
    · rw [prod_at (n := n) (q := i) (by omega)]
      unfold prod
      rw [if_neg (by omega)]
      simp
    · exact Fo.Of.app (f := .cons p k .nil) (g := .cons p k .nil) (xs := [((i + 1 : Nat) : Int)]) (ys := [((i + 1 : Nat) : Int)]) hk hk
/-- The number of nodes of the whole tree. -/
theorem least {n : Nat} (hn : 0 < n) {v : Int} (h : Le.Least (gram n).prods [] 0 v) : v = min ((2 : Int) ^ n - 1) Le.cap := by
  obtain ⟨d, rfl⟩ : ∃ d, n = d + 1 := ⟨n - 1, by omega⟩
  rcases h with ⟨_, h⟩ | ⟨_, f, hf, rfl, _⟩
  · obtain ⟨p, k, hk⟩ := some_of (n := d + 1) d 0 (by omega)
    exact absurd hk (h _)
  · obtain ⟨q, R, k, rfl, _, _⟩ := Le.of_one hf (by omega)
    have := (only d 0 (by omega) _ k hf).1
    have hn : (Fo.cons (q : Int) k .nil).nodes = k.nodes + 1 := by simp only [Fo.nodes]; omega
    have h3 : (2 : Int) ^ (d + 1) = ((2 ^ (d + 1) : Nat) : Int) := by rw [Int.natCast_pow]; rfl
    rw [h3, ← this, hn, show (((k.nodes + 2 : Nat) : Int) - 1) = ((k.nodes + 1 : Nat) : Int) by omega]
theorem tree {n : Nat} (hn : 0 < n) {v p : Int} {k : Fo} (h : Le.TreeIs (gram n).prods [] 0 v p k) : k.deep + 1 = n ∧ ((1 + k.nodes : Nat) : Int) = v := by
  obtain ⟨d, rfl⟩ : ∃ d, n = d + 1 := ⟨n - 1, by omega⟩
  obtain ⟨h1, h2, _⟩ := h
  have := (only d 0 (by omega) _ k h1).2
  exact ⟨by omega, h2⟩
theorem num (i : Nat) (h : i ≤ 41) : Go.RowKit.wrap64 (Go.RowKit.wrap64 ((2 : Int) ^ i) - 1) = (2 : Int) ^ i - 1 := by
  have H : ∀ k : Fin 42, Go.RowKit.wrap64 (Go.RowKit.wrap64 ((2 : Int) ^ k.1) - 1) = (2 : Int) ^ k.1 - 1 := by decide +kernel
  exact H ⟨i, by omega⟩
theorem lo (i : Nat) (h : i ≤ 16) : 0 ≤ (2 : Int) ^ i - 1 ∧ (2 : Int) ^ i - 1 ≤ 65536 := by
  have H : ∀ k : Fin 17, 0 ≤ (2 : Int) ^ k.1 - 1 ∧ (2 : Int) ^ k.1 - 1 ≤ 65536 := by decide +kernel
  exact H ⟨i, by omega⟩
theorem mid (i : Nat) (h : 17 ≤ i) (h2 : i ≤ 40) : 65536 < (2 : Int) ^ i - 1 ∧ (2 : Int) ^ i - 1 ≤ 1099511627776 := by
  have H : ∀ k : Fin 41, 17 ≤ k.1 → 65536 < (2 : Int) ^ k.1 - 1 ∧ (2 : Int) ^ k.1 - 1 ≤ 1099511627776 := by decide +kernel
  exact H ⟨i, by omega⟩ h
theorem right (m : Nat) (h : m ≤ 31) : Le.rightB (gram (10 + m)) [] = true := by
  unfold Le.rightB
  rw [sound m h]
  rfl
end Great
end Go.Proofs.Ytbpgolmbielpgaa
