/- Chapter 13 (cyk): the plain law of filling a cell: capped sums, in any order. -/
import Derived.Test.YtbpgolmbielpgaaCyk1
namespace Go.Proofs.Ytbpgolmbielpgaa
namespace Ck
/-- The sum of g over those of L that are done. -/
def sumL (L : List Int) (g : Int → Int) (dn : Int → Bool) : Int := (L.map fun b => if dn b then g b else 0).sum
theorem sumL_congr {g g' : Int → Int} {dn dn' : Int → Bool} : ∀ {L : List Int}, (∀ b ∈ L, (if dn b then g b else 0) = if dn' b then g' b else 0) → sumL L g dn = sumL L g' dn'
  | [], _ => rfl
  | b :: L, h => by
    have ih := sumL_congr (L := L) (fun c hc => h c (by simp [hc]))
    have h0 := h b (by simp)
    unfold sumL at ih ⊢
    rw [List.map_cons, List.map_cons, List.sum_cons, List.sum_cons, ih, h0]
theorem sumL_flip {g : Int → Int} {dn dn' : Int → Bool} {b : Int} (hb : dn b = false) (hd : ∀ x, dn' x = (dn x || x == b)) : ∀ {L : List Int}, L.Nodup → b ∈ L → sumL L g dn' = sumL L g dn + g b
  | [], _, h => by cases h
  | c :: L, hn, h => by
    rw [List.nodup_cons] at hn
    unfold sumL
    rw [List.map_cons, List.map_cons, List.sum_cons, List.sum_cons]
    by_cases e : c = b
    · subst e
      have : sumL L g dn' = sumL L g dn := sumL_congr fun x hx => by
        have hne : x ≠ c := fun e => hn.1 (e ▸ hx)
        rw [hd x]; simp [hne]
      unfold sumL at this
      rw [this, hd c, hb]; simp; omega
    · have hm : b ∈ L := by
        rcases List.mem_cons.1 h with h | h
        · exact absurd h.symm e
        · exact h
      have ih := sumL_flip (g := g) hb hd hn.2 hm
      unfold sumL at ih
      rw [ih, hd c]; simp [e]; omega
theorem sumL_none {g : Int → Int} {dn : Int → Bool} (h : ∀ b, dn b = false) : ∀ {L : List Int}, sumL L g dn = 0
  | [] => rfl
  | b :: L => by
    have ih := sumL_none (g := g) h (L := L)
    unfold sumL at ih ⊢
    rw [List.map_cons, List.sum_cons, ih, h b]; simp
theorem sumL_nonneg {g : Int → Int} {dn : Int → Bool} : ∀ {L : List Int}, (∀ b, 0 ≤ g b) → 0 ≤ sumL L g dn
  | [], _ => by simp [sumL]
  | b :: L, h => by
    have ih := sumL_nonneg (L := L) (dn := dn) h
    unfold sumL at ih ⊢
    rw [List.map_cons, List.sum_cons]
    have := h b
    split <;> omega
theorem sumL_le {g : Int → Int} {dn : Int → Bool} : ∀ {L : List Int}, (∀ b, 0 ≤ g b) → sumL L g dn ≤ sumL L g (fun _ => true)
  | [], _ => by simp [sumL]
  | b :: L, h => by
    have ih := sumL_le (L := L) (dn := dn) h
    unfold sumL at ih ⊢
    rw [List.map_cons, List.map_cons, List.sum_cons, List.sum_cons]
    have := h b
    simp only [if_true] at ih ⊢
    split <;> omega
/-- What the productions of one first nonterminal add to a. -/
def contr (ps : List (Int × Int)) (n : Int) (two : Int → Int) (a : Int) : Int := (ps.map fun p => if p.1 = a then min (n * two p.2) cap else 0).sum
theorem contr_nonneg {n : Int} {two : Int → Int} (hn : 0 ≤ n) (ht : ∀ z, 0 ≤ two z) (a : Int) : ∀ ps, 0 ≤ contr ps n two a
  | [] => by simp [contr]
  | p :: ps => by
    have ih := contr_nonneg hn ht a ps
    unfold contr at ih ⊢
    rw [List.map_cons, List.sum_cons]
    have := Int.mul_nonneg hn (ht p.2)
    unfold cap at *
    split <;> omega
theorem contr_take {n : Int} {two : Int → Int} (a : Int) {ps : List (Int × Int)} {q : Nat} (hq : q < ps.length) : contr (ps.take (q + 1)) n two a = contr (ps.take q) n two a + if ps[q].1 = a then min (n * two ps[q].2) cap else 0 := by
  unfold contr
  rw [List.take_add_one, List.getElem?_eq_getElem hq, List.map_append, List.sum_append]
  simp [-List.map_take]
theorem contr_zero (ps : List (Int × Int)) (two : Int → Int) (a : Int) : contr ps 0 two a = 0 := by
  unfold contr
  induction ps with
  | nil => rfl
  | cons p ps ih =>
    rw [List.map_cons, List.sum_cons, ih, Int.zero_mul]
    unfold cap
    split <;> omega
def partK (L : List Int) (pr : Int → List (Int × Int)) (one two : Int → Int) (a : Int) : Int := sumL L (fun b => contr (pr b) (one b) two a) (fun _ => true)
def sumK (f : Nat → Int) (lo cnt : Nat) : Int := ((List.range cnt).map fun q => f (lo + q)).sum
theorem sumK_succ (f : Nat → Int) (lo cnt : Nat) : sumK f lo (cnt + 1) = sumK f lo cnt + f (lo + cnt) := by
  unfold sumK
  rw [List.range_succ, List.map_append, List.sum_append]
  simp
theorem sumK_nonneg {f : Nat → Int} (hf : ∀ k, 0 ≤ f k) (lo : Nat) : ∀ cnt, 0 ≤ sumK f lo cnt
  | 0 => by simp [sumK]
  | cnt + 1 => by
    have := sumK_nonneg hf lo cnt
    have := hf (lo + cnt)
    rw [sumK_succ]; omega
/-- What is told of a part by its shorter ones. -/
def fillV (T : Nat → Int → Int) (n : Nat) (L : List Int) (pr : Int → List (Int × Int)) (i j : Nat) (a : Int) : Int := min cap (sumK (fun k => partK L pr (T (ix n i k)) (T (ix n k j)) a) (i + 1) (j - (i + 1)))
/-- The table's numbers are counts, of the nonterminals of L. -/
structure Okay (T : Nat → Int → Int) (L : List Int) : Prop where
  lo : ∀ x z, 0 ≤ T x z
  hi : ∀ x z, T x z ≤ cap
  dom : ∀ x z, T x z ≠ 0 → z ∈ L
theorem part_nonneg {L : List Int} {pr : Int → List (Int × Int)} {one two : Int → Int} (h1 : ∀ z, 0 ≤ one z) (h2 : ∀ z, 0 ≤ two z) (a : Int) : 0 ≤ partK L pr one two a := sumL_nonneg fun b => contr_nonneg (h1 b) h2 a _
end Ck
end Go.Proofs.Ytbpgolmbielpgaa
