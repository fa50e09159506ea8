/- The law of 'made': a sound grammar of raw numbers by remainders. No walk. -/
import Derived.Test.YtaehooafdbaomaaLawAny
import Derived.Test.YtaehooafdbaomaaGin
namespace Go.Proofs.Ytaehooafdbaomaa
namespace Mk
/-- x modulo n, never negative. -/
def md (x n : Int) : Int := (x.tmod n + n).tmod n
/-- A symbol of a raw number. -/
def sym (n t z : Int) : Int := (z.tmod (n + t) + n + t).tmod (n + t) - t
def rowS (n t : Int) (m : Nat) (zs : List Int) : List Int := (zs.take m).map (sym n t)
def prodAt (n t : Int) (m : Nat) (x : RawD) (left : Int) (i : Nat) : List (Int × List Int) := if md (x.left.getD i 0) n = left then [(left, rowS n t m (x.right.getD i []))] else []
def prodsI (n t : Int) (m : Nat) (x : RawD) (left : Int) (i : Nat) : List (Int × List Int) := (List.range i).flatMap (prodAt n t m x left)
def cnt (c : Nat) (x : RawD) : Nat := min (min x.left.length x.right.length) c
def prodsL (n t : Int) (c m : Nat) (x : RawD) (l : Nat) : List (Int × List Int) := (List.range l).flatMap fun k : Nat => prodsI n t m x (k : Int) (cnt c x)
def letters (b k : Nat) : List ByteArray := (List.range k).map fun i => ⟨#[UInt8.ofNat (b + i)]⟩
def gram (N T c m : Nat) (x : RawD) : Gr := ⟨md x.start N, N, letters 65 N, letters 97 T, prodsL N T c m x N⟩

theorem letters_length (b k : Nat) : (letters b k).length = k := by simp [letters]
theorem letters_succ (b k : Nat) : letters b (k + 1) = letters b k ++ [⟨#[UInt8.ofNat (b + k)]⟩] := by simp [letters, List.range_succ]
theorem prodsI_succ (n t : Int) (m : Nat) (x : RawD) (l : Int) (i : Nat) : prodsI n t m x l (i + 1) = prodsI n t m x l i ++ prodAt n t m x l i := by simp [prodsI, List.range_succ]
theorem prodsL_succ (n t : Int) (c m : Nat) (x : RawD) (l : Nat) : prodsL n t c m x (l + 1) = prodsL n t c m x l ++ prodsI n t m x (l : Int) (cnt c x) := by simp [prodsL, List.range_succ]
theorem rowS_succ (n t : Int) (zs : List Int) (k : Nat) (h : k < zs.length) : rowS n t (k + 1) zs = rowS n t k zs ++ [sym n t (zs.getD k 0)] := by
  have h1 : zs.getD k 0 = zs[k] := by simp [List.getD, List.getElem?_eq_getElem h]
  rw [rowS, rowS, List.take_add_one, List.map_append, List.getElem?_eq_getElem h, h1]
  rfl

theorem md_lo (x : Int) {n : Int} (hn : 0 < n) : 0 ≤ md x n := by
  unfold md
  have := Int.lt_tmod_of_pos x hn
  exact Int.tmod_nonneg _ (by omega)
theorem md_hi (x : Int) {n : Int} (hn : 0 < n) : md x n < n := Int.tmod_lt_of_pos _ hn
theorem sym_lo (z : Int) {n t : Int} (hn : 0 < n) (ht : 0 ≤ t) : -t ≤ sym n t z := by
  unfold sym
  have := Int.lt_tmod_of_pos z (show 0 < n + t by omega)
  have := Int.tmod_nonneg (a := z.tmod (n + t) + n + t) (n + t) (by omega)
  omega
theorem sym_hi (z : Int) {n t : Int} (hn : 0 < n) (ht : 0 ≤ t) : sym n t z < n := by
  unfold sym
  have := Int.tmod_lt_of_pos (z.tmod (n + t) + n + t) (show 0 < n + t by omega)
  omega

theorem prodAt_length (n t : Int) (m : Nat) (x : RawD) (l : Int) (i : Nat) : (prodAt n t m x l i).length ≤ 1 := by
  unfold prodAt
  split <;> simp
theorem prodsI_length (n t : Int) (m : Nat) (x : RawD) (l : Int) : ∀ i, (prodsI n t m x l i).length ≤ i
  | 0 => by simp [prodsI]
  | i + 1 => by
    rw [prodsI_succ, List.length_append]
    have := prodsI_length n t m x l i
    have := prodAt_length n t m x l i
    omega
theorem cnt_le (c : Nat) (x : RawD) : cnt c x ≤ c := Nat.min_le_right _ _
theorem prodsL_length (n t : Int) (c m : Nat) (x : RawD) : ∀ l, (prodsL n t c m x l).length ≤ l * c
  | 0 => by simp [prodsL]
  | l + 1 => by
    rw [prodsL_succ, List.length_append, Nat.add_mul]
    have := prodsL_length n t c m x l
    have := prodsI_length n t m x l (cnt c x)
    have := cnt_le c x
    omega

theorem mem_prodsI {n t : Int} {m : Nat} {x : RawD} {l : Int} {i : Nat} {y : Int × List Int} (h : y ∈ prodsI n t m x l i) : y.1 = l ∧ ∃ zs, y.2 = rowS n t m zs := by
  unfold prodsI at h
  obtain ⟨k, _, hk⟩ := List.mem_flatMap.1 h
  unfold prodAt at hk
  split at hk
  · simp at hk
    subst hk
    exact ⟨rfl, _, rfl⟩
  · simp at hk
theorem row_length (n t : Int) (m : Nat) (zs : List Int) : (rowS n t m zs).length ≤ m := by
  simp [rowS]
  omega
theorem row_sym {n t : Int} {m : Nat} {zs : List Int} {s : Int} (hn : 0 < n) (ht : 0 ≤ t) (h : s ∈ rowS n t m zs) : -t ≤ s ∧ s < n := by
  unfold rowS at h
  obtain ⟨z, _, rfl⟩ := List.mem_map.1 h
  exact ⟨sym_lo z hn ht, sym_hi z hn ht⟩
theorem row_strange {n t : Int} {m : Nat} {zs : List Int} (hn : 0 < n) (ht : 0 ≤ t) : (rowS n t m zs).any (Pl.strange n t) = false := by
  rw [Bool.eq_false_iff]
  intro h
  obtain ⟨s, hs, h2⟩ := List.any_eq_true.1 h
  obtain ⟨h3, h4⟩ := row_sym hn ht hs
  simp [Pl.strange] at h2
  omega

theorem prodsL_row {n t : Int} {c m : Nat} {x : RawD} {l : Nat} {y : Int × List Int} (h : y ∈ prodsL n t c m x l) : y.2.length ≤ m := by
  unfold prodsL at h
  obtain ⟨k, _, hk⟩ := List.mem_flatMap.1 h
  obtain ⟨_, zs, h2⟩ := mem_prodsI hk
  rw [h2]
  exact row_length n t m zs
theorem prodsS_app {n t : Int} : ∀ (ps qs : List (Int × List Int)) (prev l : Int), Pl.prodsS n t prev ps = true → prev ≤ l → (∀ y ∈ ps, y.1 ≤ l) → (∀ p, p ≤ l → Pl.prodsS n t p qs = true) → Pl.prodsS n t prev (ps ++ qs) = true
  | [], qs, prev, l, _, h1, _, h3 => h3 prev h1
  | y :: r, qs, prev, l, h0, h1, h2, h3 => by
    rw [List.cons_append]
    unfold Pl.prodsS at h0 ⊢
    split at h0
    · cases h0
    · rename_i hn
      rw [if_neg hn]
      split at h0
      · cases h0
      · rename_i hs
        rw [if_neg hs]
        exact prodsS_app r qs y.1 l h0 (h2 y (List.mem_cons_self ..)) (fun z hz => h2 z (List.mem_cons_of_mem _ hz)) h3

theorem prodsI_sound {n t : Int} {m : Nat} (x : RawD) {l : Int} (hn : 0 < n) (ht : 0 ≤ t) (hm : m ≤ 16) (h0 : 0 ≤ l) (h1 : l < n) : ∀ (i : Nat) (p : Int), p ≤ l → Pl.prodsS n t p (prodsI n t m x l i) = true
  | 0, p, _ => by simp [prodsI, Pl.prodsS]
  | i + 1, p, hp => by
    rw [prodsI_succ]
    refine prodsS_app _ _ p l (prodsI_sound x hn ht hm h0 h1 i p hp) hp (fun y hy => by rw [(mem_prodsI hy).1]; exact Int.le_refl _) fun q hq => ?_
    unfold prodAt
    split
    · unfold Pl.prodsS
      have h2 := row_length n t m (x.right.getD i [])
      rw [if_neg (by simp only [not_or]; omega), row_strange hn ht]
      simp [Pl.prodsS]
    · simp [Pl.prodsS]
theorem prodsL_sound {n t : Int} {c m : Nat} (x : RawD) (hn : 0 < n) (ht : 0 ≤ t) (hm : m ≤ 16) : ∀ (l : Nat), (l : Int) ≤ n → Pl.prodsS n t 0 (prodsL n t c m x l) = true ∧ ∀ y ∈ prodsL n t c m x l, y.1 < (l : Int)
  | 0, _ => by simp [prodsL, Pl.prodsS]
  | l + 1, hl => by
    obtain ⟨h1, h2⟩ := prodsL_sound x (c := c) hn ht hm l (by omega)
    rw [prodsL_succ]
    refine ⟨prodsS_app _ _ 0 l h1 (by omega) (fun y hy => by have := h2 y hy; omega) (prodsI_sound x hn ht hm (by omega) (by omega) _), fun y hy => ?_⟩
    rcases List.mem_append.1 hy with hy | hy
    · have := h2 y hy
      omega
    · rw [(mem_prodsI hy).1]
      omega

theorem letters_apart65 (N : Nat) (h : N ≤ 8) : Pl.apartS 65536 [] (letters 65 N) = true := by
  have : N = 0 ∨ N = 1 ∨ N = 2 ∨ N = 3 ∨ N = 4 ∨ N = 5 ∨ N = 6 ∨ N = 7 ∨ N = 8 := by omega
  rcases this with rfl | rfl | rfl | rfl | rfl | rfl | rfl | rfl | rfl <;> decide +kernel
theorem letters_apart97 (N : Nat) (h : N ≤ 8) : Pl.apartS 16 [] (letters 97 N) = true := by
  have : N = 0 ∨ N = 1 ∨ N = 2 ∨ N = 3 ∨ N = 4 ∨ N = 5 ∨ N = 6 ∨ N = 7 ∨ N = 8 := by omega
  rcases this with rfl | rfl | rfl | rfl | rfl | rfl | rfl | rfl | rfl <;> decide +kernel

theorem gram_sound {N T c m : Nat} (x : RawD) (h1 : 1 ≤ N) (h2 : N ≤ 8) (h3 : T ≤ 8) (h4 : c ≤ 24) (h5 : m ≤ 16) : Pl.soundB (gram N T c m x) = true := by
  have hp := (prodsL_sound (n := N) (t := T) (c := c) (m := m) x (by omega) (by omega) h5 N (by omega)).1
  have hl := prodsL_length N T c m x N
  have hb : N * c ≤ 8 * 24 := Nat.mul_le_mul h2 h4
  have s0 := md_lo x.start (n := (N : Int)) (by omega)
  have s1 := md_hi x.start (n := (N : Int)) (by omega)
  unfold Pl.soundB gram
  simp only [letters_length, letters_apart65 N h2, letters_apart97 T h3]
  rw [if_neg (by simp; omega), if_neg (by simp; omega)]
  exact hp
end Mk
end Go.Proofs.Ytaehooafdbaomaa
