/- Chapter 15 (least): the plain law of round: it goes down, or nothing is less. No program. -/
import Derived.Test.YtbpgolmbielpgaaLeast3
namespace Go.Proofs.Ytbpgolmbielpgaa
namespace Le
def val (x : Int) : Nat := if x = -1 then 1099511627778 else x.toNat
def pot (N : Nat → Nat → Nat → Int) (fr en : Nat) : Nat → Nat
  | 0 => 0
  | n + 1 => pot N fr en n + val (N n fr en)
theorem pot_same {N M : Nat → Nat → Nat → Int} {fr en : Nat} : ∀ {n : Nat}, (∀ a, a < n → N a fr en = M a fr en) → pot N fr en n = pot M fr en n
  | 0, _ => rfl
  | n + 1, h => by rw [pot, pot, pot_same (n := n) (fun a ha => h a (by omega)), h n (by omega)]
theorem pot_upd {N : Nat → Nat → Nat → Int} {fr en a : Nat} {v : Int} (hv : val v < val (N a fr en)) : ∀ {n : Nat}, a < n → pot (updN N a fr en v) fr en n < pot N fr en n
  | 0, h => by omega
  | n + 1, h => by
    rw [pot, pot]
    by_cases e : a = n
    · subst e
      have h1 : pot (updN N a fr en v) fr en a = pot N fr en a := pot_same fun b hb => by
        unfold updN
        rw [if_neg (by omega)]
      have h2 : updN N a fr en v a fr en = v := by unfold updN; rw [if_pos ⟨rfl, rfl, rfl⟩]
      rw [h1, h2]; omega
    · have h1 := pot_upd hv (n := n) (by omega)
      have h2 : updN N a fr en v n fr en = N n fr en := by unfold updN; rw [if_neg (by omega)]
      rw [h2]; omega
theorem step_goes {word : List Int} {fr en n : Nat} {x : Int × List Int} {N : Nat → Nat → Nat → Int} {b : Bool} (hN : ∀ a i j, -1 ≤ N a i j ∧ N a i j ≤ cap) (hx : x.1.toNat < n) :
    (∀ c, stepR word fr en x (N, c) = (N, c)) ∨ ∃ N', stepR word fr en x (N, b) = (N', true) ∧ pot N' fr en n < pot N fr en n ∧ ∀ a i j, -1 ≤ N' a i j ∧ N' a i j ≤ cap := by
  have hof : ∀ s i j, -1 ≤ ofT N word s i j ∧ ofT N word s i j ≤ cap := fun s i j => by
    unfold ofT
    split
    · exact hN _ _ _
    · unfold cap; split <;> omega
  have ht := tl_range hof en x.2 fr
  have hc := hN x.1.toNat fr en
  unfold stepR
  simp only
  by_cases h1 : tl (ofT N word) en x.2 fr = -1
  · exact .inl fun c => by rw [if_pos h1]
  · by_cases h2 : N x.1.toNat fr en = -1 ∨ min (tl (ofT N word) en x.2 fr + 1) cap < N x.1.toNat fr en
    · right
      refine ⟨_, by rw [if_neg h1, if_pos h2], pot_upd ?_ hx, upd_range hN (by unfold cap at *; omega) _ _ _⟩
      unfold val cap at *
      rw [if_neg (by omega)]
      split <;> omega
    · exact .inl fun c => by rw [if_neg h1, if_neg h2]
/-- A round: either something is less, and the numbers go down, or nothing is. -/
theorem round_goes {word : List Int} {fr en n : Nat} : ∀ (ps : List (Int × List Int)) (N : Nat → Nat → Nat → Int) (b : Bool), (∀ a i j, -1 ≤ N a i j ∧ N a i j ≤ cap) → (∀ x ∈ ps, x.1.toNat < n) →
    (roundS word fr en ps (N, b) = (N, b) ∧ ∀ x ∈ ps, ∀ c, stepR word fr en x (N, c) = (N, c)) ∨ ∃ N', roundS word fr en ps (N, b) = (N', true) ∧ pot N' fr en n < pot N fr en n
  | [], N, b, _, _ => .inl ⟨rfl, fun x hx => by cases hx⟩
  | x :: ps, N, b, hN, hps => by
    rw [roundS]
    rcases step_goes (b := b) hN (hps x (by simp)) with h | ⟨N', h1, h2, h3⟩
    · rw [h b]
      rcases round_goes ps N b hN (fun y hy => hps y (by simp [hy])) with ⟨h1, h2⟩ | ⟨N', h1, h2⟩
      · refine .inl ⟨h1, fun y hy c => ?_⟩
        rcases List.mem_cons.1 hy with rfl | hy
        · exact h c
        · exact h2 y hy c
      · exact .inr ⟨N', h1, h2⟩
    · rw [h1]
      rcases round_goes ps N' true h3 (fun y hy => hps y (by simp [hy])) with ⟨h4, _⟩ | ⟨N'', h4, h5⟩
      · exact .inr ⟨N', h4, h2⟩
      · exact .inr ⟨N'', h4, by omega⟩

/-- A production gives nothing less at a part. -/
def FixR (word : List Int) (N : Nat → Nat → Nat → Int) (fr en : Nat) (x : Int × List Int) : Prop := tl (ofT N word) en x.2 fr = -1 ∨ (N x.1.toNat fr en ≠ -1 ∧ N x.1.toNat fr en ≤ min (tl (ofT N word) en x.2 fr + 1) cap)
theorem fix_of {word : List Int} {fr en : Nat} {x : Int × List Int} {N : Nat → Nat → Nat → Int} (h : ∀ c, stepR word fr en x (N, c) = (N, c)) : FixR word N fr en x := by
  have h0 := h false
  unfold stepR at h0
  simp only at h0
  by_cases h1 : tl (ofT N word) en x.2 fr = -1
  · exact .inl h1
  · rw [if_neg h1] at h0
    by_cases h2 : N x.1.toNat fr en = -1 ∨ min (tl (ofT N word) en x.2 fr + 1) cap < N x.1.toNat fr en
    · rw [if_pos h2] at h0
      injection h0 with _ h0
      cases h0
    · exact .inr ⟨fun e => h2 (.inl e), by omega⟩
theorem bestF_congr {f g : Nat → Int} {i : Nat} : ∀ {c : Nat}, (∀ q, q < c → f (i + q) = g (i + q)) → bestF f i c = bestF g i c
  | 0, _ => rfl
  | c + 1, h => by rw [bestF, bestF, bestF_congr (c := c) (fun q hq => h q (by omega)), h c (by omega)]
theorem tl_congr {of og : Int → Nat → Nat → Int} {fr en : Nat} (h : ∀ s i j, fr ≤ i → i ≤ j → j ≤ en → of s i j = og s i j) : ∀ (xs : List Int) (i : Nat), fr ≤ i → tl of en xs i = tl og en xs i
  | [], _, _ => rfl
  | s :: r, i, hi => by
    rw [tl, tl]
    refine bestF_congr fun q hq => ?_
    rw [h s i (i + q) hi (by omega) (by omega), tl_congr h r (i + q) (by omega)]
/-- What is fixed at a part hangs on the parts inside it alone. -/
theorem fix_keep {word : List Int} {N M : Nat → Nat → Nat → Int} {fr en : Nat} {x : Int × List Int} (hNM : ∀ a i j, fr ≤ i → i ≤ j → j ≤ en → N a i j = M a i j) (hfe : fr ≤ en) (h : FixR word N fr en x) : FixR word M fr en x := by
  have ho : ∀ s i j, fr ≤ i → i ≤ j → j ≤ en → ofT N word s i j = ofT M word s i j := fun s i j h1 h2 h3 => by
    unfold ofT
    rw [hNM _ i j h1 h2 h3]
  have ht := tl_congr ho x.2 fr (Nat.le_refl _)
  unfold FixR at *
  rw [← ht, ← hNM _ fr en (Nat.le_refl _) hfe (Nat.le_refl _)]
  exact h
/-- A round touches its own part alone. -/
theorem step_else {word : List Int} {fr en : Nat} {x : Int × List Int} {N : Nat → Nat → Nat → Int} {b : Bool} {a i j : Nat} (h : ¬ (i = fr ∧ j = en)) : (stepR word fr en x (N, b)).1 a i j = N a i j := by
  unfold stepR
  simp only
  split
  · rfl
  · split
    · show updN N x.1.toNat fr en _ a i j = N a i j
      unfold updN
      rw [if_neg (fun e => h e.2)]
    · rfl
theorem round_else {word : List Int} {fr en : Nat} {a i j : Nat} (h : ¬ (i = fr ∧ j = en)) : ∀ (ps : List (Int × List Int)) (s : (Nat → Nat → Nat → Int) × Bool), (roundS word fr en ps s).1 a i j = s.1 a i j
  | [], _ => rfl
  | x :: ps, s => by
    rw [roundS, round_else h ps]
    exact step_else (N := s.1) (b := s.2) h
/-- Tables that come of the empty one, step by step. -/
inductive Steps (word : List Int) (ps : List (Int × List Int)) : (Nat → Nat → Nat → Int) → Prop
  | init : Steps word ps fun _ _ _ => -1
  | step (N : Nat → Nat → Nat → Int) (b : Bool) (fr en : Nat) (x : Int × List Int) : Steps word ps N → x ∈ ps → fr ≤ en → en ≤ word.length → Steps word ps (stepR word fr en x (N, b)).1
theorem Steps.round {word : List Int} {ps : List (Int × List Int)} {fr en : Nat} (hfe : fr ≤ en) (hen : en ≤ word.length) : ∀ (qs : List (Int × List Int)) (N : Nat → Nat → Nat → Int) (b : Bool), Steps word ps N → (∀ x ∈ qs, x ∈ ps) → Steps word ps (roundS word fr en qs (N, b)).1
  | [], _, _, h, _ => h
  | x :: qs, N, b, h, hq => by
    rw [roundS]
    exact Steps.round hfe hen qs _ _ (.step N b fr en x h (hq x (by simp)) hfe hen) (fun y hy => hq y (by simp [hy]))
end Le
end Go.Proofs.Ytbpgolmbielpgaa
