/- Chapter 9 (facts): laws of the example grammars. No walk. -/
import Derived.Test.YtbpgolmbielpgaaFacts8
namespace Go.Proofs.Ytbpgolmbielpgaa

def spG : Gr := ⟨0, 1, [⟨#[83]⟩], [⟨#[120]⟩], [(0, [0, 0]), (0, [-1]), (0, [])]⟩
theorem spG_sound : Pl.soundB spG = true := by decide +kernel
theorem spG_null : Facts.Gen spG.prods false 0 := Facts.Gen.mk (0, []) (by decide) (by simp) (by simp)

theorem one_true {bs : List Bool} {p : Int → Prop} (hl : bs.length = 1) (h : ∀ a : Int, 0 ≤ a → (Facts.inB bs a = true ↔ p a)) (hp : p 0) : bs = [true] := by
  have h0 := (h 0 (by omega)).2 hp
  match bs, hl with
  | [b], _ =>
    simp [Facts.inB] at h0
    rw [h0]

theorem spG_short {ks : List Int} (h : Facts.Sho spG.prods 1 ks) (hf : Facts.fixS spG.prods ks) : ks = [0] := by
  have h1 := hf (0, []) (by decide) 0 rfl
  have h2 := h.len
  match ks, h2 with
  | [k], _ =>
    simp [Facts.atK] at h1
    rw [show k = 0 by omega]

namespace Facts
/-- The chain that doubles: i goes to i + 1 twice, the last to a letter. -/
def chainN (_n i : Nat) : ByteArray := ⟨#[UInt8.ofNat (65 + i % 26), UInt8.ofNat (97 + i / 26)]⟩
def chainP (n i : Nat) : Int × List Int := ((i : Int), if i = n then [-1] else [(i : Int) + 1, (i : Int) + 1])
def chainG (n : Nat) : Gr := ⟨0, 0, (List.range (n + 1)).map (chainN n), [⟨#[120]⟩], (List.range (n + 1)).map (chainP n)⟩
def chainK (n : Nat) : List Int := (List.range (n + 1)).map fun i => min (2 ^ (n - i) : Int) 1099511627776

theorem chain_sound (m : Nat) (h : m ≤ 7) : Pl.soundB (chainG (36 + m)) = true := by
  have : m = 0 ∨ m = 1 ∨ m = 2 ∨ m = 3 ∨ m = 4 ∨ m = 5 ∨ m = 6 ∨ m = 7 := by omega
  rcases this with rfl | rfl | rfl | rfl | rfl | rfl | rfl | rfl <;> decide +kernel

theorem chain_mem {n : Nat} {x : Int × List Int} (h : x ∈ (chainG n).prods) : ∃ i : Nat, i ≤ n ∧ x = chainP n i := by
  simp [chainG] at h
  obtain ⟨i, hi, rfl⟩ := h
  exact ⟨i, by omega, rfl⟩
theorem chainK_at (n i : Nat) (h : i ≤ n) : atK (chainK n) (i : Int) = min (2 ^ (n - i) : Int) 1099511627776 := by
  simp [atK, chainK, List.getD, List.getElem?_range (show i < n + 1 by omega)]

theorem chain_len (n i : Nat) (h : i ≤ n) : lengthS (chainK n) (chainP n i).2 0 = some (min (2 ^ (n - i) : Int) 1099511627776) := by
  unfold chainP
  by_cases e : i = n
  · subst e
    simp [lengthS, bound]
  · simp only [if_neg e]
    have h1 : (chainK n).getD ((i : Int) + 1).toNat 0 = min (2 ^ (n - (i + 1)) : Int) 1099511627776 := by
      have := chainK_at n (i + 1) (by omega)
      unfold atK at this
      rwa [Int.natCast_add] at this
    have hp : (0 : Int) < 2 ^ (n - (i + 1)) := Int.pow_pos (by omega)
    have hd : (2 : Int) ^ (n - i) = 2 * 2 ^ (n - (i + 1)) := by
      rw [show n - i = (n - (i + 1)) + 1 by omega, Int.pow_succ, Int.mul_comm]
    unfold lengthS
    simp only [show (0 : Int) ≤ (i : Int) + 1 by omega, if_true, h1]
    rw [if_neg (by omega)]
    unfold lengthS
    simp only [show (0 : Int) ≤ (i : Int) + 1 by omega, if_true, h1]
    rw [if_neg (by omega)]
    unfold lengthS
    simp only [bound, Option.some.injEq]
    omega

theorem chain_lens (n : Nat) : ∀ k : Nat, k ≤ n → Lens (chainG n).prods ((n - k : Nat) : Int) (min (2 ^ k : Int) 1099511627776)
  | k, hk => by
    have hlen := chain_len n (n - k) (by omega)
    rw [show n - (n - k) = k by omega] at hlen
    obtain ⟨e, -⟩ := lengthS_sum _ _ _ _ hlen
    rw [e]
    refine Lens.mk (chainP n (n - k)) (by simp [chainG]; exact ⟨n - k, by omega, rfl⟩) (atK (chainK n)) (fun s hs h0 => ?_)
    unfold chainP at hs
    by_cases e0 : n - k = n
    · simp [e0] at hs; omega
    · simp only [if_neg e0] at hs
      have hs' : s = ((n - (k - 1) : Nat) : Int) := by simp at hs; omega
      subst hs'
      have h2 := chainK_at n (n - (k - 1)) (by omega)
      rw [h2, show n - (n - (k - 1)) = k - 1 by omega]
      exact chain_lens n (k - 1) (by omega)
termination_by k => k

theorem chain_sho (n : Nat) : Sho (chainG n).prods (n + 1) (chainK n) := by
  refine ⟨by simp [chainK], fun k hk => ?_, fun a h0 h1 _ => ?_⟩
  · simp [chainK] at hk
    obtain ⟨i, _, rfl⟩ := hk
    have hp : (0 : Int) < 2 ^ (n - i) := Int.pow_pos (by omega)
    omega
  · obtain ⟨i, rfl⟩ := Int.eq_ofNat_of_zero_le h0
    have hi : i ≤ n := by omega
    rw [chainK_at n i hi]
    have := chain_lens n (n - i) (by omega)
    rwa [show n - (n - i) = i by omega] at this

theorem chain_fix (n : Nat) : fixS (chainG n).prods (chainK n) := by
  intro x hx m hm
  obtain ⟨i, hi, rfl⟩ := chain_mem hx
  rw [chain_len n i hi] at hm
  injection hm with hm
  rw [show (chainP n i).1 = (i : Int) from rfl, chainK_at n i hi, ← hm]
  have hp : (0 : Int) < 2 ^ (n - i) := Int.pow_pos (by omega)
  omega
end Facts
end Go.Proofs.Ytbpgolmbielpgaa
