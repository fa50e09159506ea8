/- Chapter 10: all words of few terminals, in order. Plain lists. -/
import Derived.Test.YtaehooafdbaomaaLangDbl
namespace Go.Proofs.Ytaehooafdbaomaa

/-- All words that go on with one more terminal. -/
def nextB (t : Nat) (l : List (List UInt8)) : List (List UInt8) := l.flatMap fun z => (List.range t).map fun c => z ++ [UInt8.ofNat c]
/-- All words of n terminals. -/
def allB (t : Nat) : Nat → List (List UInt8)
  | 0 => [[]]
  | n + 1 => nextB t (allB t n)
theorem nextB_app (t : Nat) (l m : List (List UInt8)) : nextB t (l ++ m) = nextB t l ++ nextB t m := by simp [nextB]
theorem nextB_len (t : Nat) (l : List (List UInt8)) : (nextB t l).length = l.length * t := by
  induction l with
  | nil => simp [nextB]
  | cons z l ih =>
    have h : nextB t (z :: l) = (List.range t).map (fun c => z ++ [UInt8.ofNat c]) ++ nextB t l := by simp [nextB]
    rw [h, List.length_append, ih, List.length_map, List.length_range, List.length_cons, Nat.succ_mul, Nat.add_comm]
theorem allB_len (t : Nat) : ∀ n, (allB t n).length = t ^ n
  | 0 => rfl
  | n + 1 => by unfold allB; rw [nextB_len, allB_len t n, Nat.pow_succ]
theorem ofNat_toNat {c : Nat} (h : c < 256) : (UInt8.ofNat c).toNat = c := UInt8.toNat_ofNat_of_lt' h
theorem allB_mem {t : Nat} (ht : t ≤ 256) : ∀ (n : Nat) (z : List UInt8), z ∈ allB t n ↔ z.length = n ∧ ∀ b ∈ z, b.toNat < t
  | 0, z => by
    unfold allB
    rw [List.mem_singleton]
    constructor
    · rintro rfl; simp
    · rintro ⟨h, -⟩; exact List.eq_nil_of_length_eq_zero h
  | n + 1, z => by
    unfold allB nextB
    simp only [List.mem_flatMap, List.mem_map, List.mem_range]
    constructor
    · rintro ⟨y, hy, c, hc, rfl⟩
      obtain ⟨h1, h2⟩ := (allB_mem ht n y).1 hy
      refine ⟨by simp [h1], fun b hb => ?_⟩
      rcases List.mem_append.1 hb with hb | hb
      · exact h2 b hb
      · rw [List.mem_singleton] at hb
        subst hb
        rw [ofNat_toNat (by omega)]; exact hc
    · rintro ⟨h1, h2⟩
      have hz : z ≠ [] := fun e => by rw [e] at h1; simp at h1
      refine ⟨z.dropLast, (allB_mem ht n _).2 ⟨by rw [List.length_dropLast, h1]; rfl, fun b hb => h2 b (List.dropLast_subset z hb)⟩, (z.getLast hz).toNat, h2 _ (List.getLast_mem hz), ?_⟩
      rw [UInt8.ofNat_toNat]
      exact List.dropLast_concat_getLast hz
theorem cb_app : ∀ {a b : List UInt8} (c d : List UInt8), a.length = b.length → Lib.compareBytes a b < 0 → Lib.compareBytes (a ++ c) (b ++ d) < 0
  | [], [], _, _, _, h => by simp [Lib.compareBytes] at h
  | [], _ :: _, _, _, hl, _ => by simp at hl
  | _ :: _, [], _, _, hl, _ => by simp at hl
  | x :: a, y :: b, c, d, hl, h => by
    rw [List.cons_append, List.cons_append]
    unfold Lib.compareBytes at h ⊢
    by_cases h1 : x < y
    · rw [if_pos h1]; omega
    · by_cases h2 : y < x
      · rw [if_neg h1, if_pos h2] at h; omega
      · rw [if_neg h1, if_neg h2] at h ⊢
        exact cb_app c d (by simpa using hl) h
theorem cb_pre : ∀ (a c d : List UInt8), Lib.compareBytes (a ++ c) (a ++ d) = Lib.compareBytes c d
  | [], _, _ => rfl
  | x :: a, c, d => by
    rw [List.cons_append, List.cons_append]
    have h : ¬ x < x := fun h => by rw [UInt8.lt_iff_toNat_lt] at h; omega
    have e : ∀ p q : List UInt8, Lib.compareBytes (x :: p) (x :: q) = Lib.compareBytes p q := fun p q => by
      show (if x < x then (-1 : Int) else if x < x then 1 else Lib.compareBytes p q) = _
      rw [if_neg h, if_neg h]
    rw [e]
    exact cb_pre a c d
theorem nextB_rise {t n : Nat} (ht : t ≤ 256) : ∀ {l : List (List UInt8)}, (∀ z ∈ l, z.length = n) → l.Pairwise WLt → (nextB t l).Pairwise WLt
  | [], _, _ => by simp [nextB]
  | z :: l, hl, hp => by
    obtain ⟨h1, h2⟩ := List.pairwise_cons.1 hp
    have h : nextB t (z :: l) = (List.range t).map (fun c => z ++ [UInt8.ofNat c]) ++ nextB t l := by simp [nextB]
    rw [h, List.pairwise_append]
    refine ⟨?_, nextB_rise ht (fun y hy => hl y (List.mem_cons_of_mem _ hy)) h2, fun x hx y hy => ?_⟩
    · rw [List.pairwise_map]
      refine List.Pairwise.imp_of_mem ?_ List.pairwise_lt_range
      intro a b ha hb hab
      rw [List.mem_range] at ha hb
      refine .inr ⟨by simp, ?_⟩
      rw [cb_pre]
      unfold Lib.compareBytes
      rw [if_pos (by rw [UInt8.lt_iff_toNat_lt, ofNat_toNat (by omega), ofNat_toNat (by omega)]; exact hab)]
      omega
    · obtain ⟨c, _, rfl⟩ := List.mem_map.1 hx
      unfold nextB at hy
      obtain ⟨y', hy', hy2⟩ := List.mem_flatMap.1 hy
      obtain ⟨d, _, rfl⟩ := List.mem_map.1 hy2
      have e1 := hl z (List.mem_cons_self ..)
      have e2 := hl y' (List.mem_cons_of_mem _ hy')
      rcases h1 y' hy' with h3 | ⟨h3, h4⟩
      · omega
      · exact .inr ⟨by simp [h3], cb_app _ _ h3 h4⟩
theorem allB_rise {t : Nat} (ht : t ≤ 256) : ∀ n, (allB t n).Pairwise WLt
  | 0 => by unfold allB; exact List.pairwise_singleton _ _
  | n + 1 => by unfold allB; exact nextB_rise ht (fun z hz => ((allB_mem ht n z).1 hz).1) (allB_rise ht n)
/-- The words of less than m terminals of which d holds. -/
def wordsB (t : Nat) (d : List UInt8 → Bool) : Nat → List (List UInt8)
  | 0 => []
  | m + 1 => wordsB t d m ++ (allB t m).filter d
theorem wordsB_mem {t : Nat} (ht : t ≤ 256) (d : List UInt8 → Bool) : ∀ (m : Nat) (z : List UInt8), z ∈ wordsB t d m ↔ d z = true ∧ z.length < m ∧ ∀ b ∈ z, b.toNat < t
  | 0, z => by simp [wordsB]
  | m + 1, z => by
    unfold wordsB
    rw [List.mem_append, wordsB_mem ht d m z, List.mem_filter, allB_mem ht]
    constructor
    · rintro (⟨h1, h2, h3⟩ | ⟨⟨h1, h2⟩, h3⟩)
      · exact ⟨h1, by omega, h3⟩
      · exact ⟨h3, by omega, h2⟩
    · rintro ⟨h1, h2, h3⟩
      by_cases h : z.length < m
      · exact .inl ⟨h1, h, h3⟩
      · exact .inr ⟨⟨by omega, h3⟩, h1⟩
theorem wordsB_rise {t : Nat} (ht : t ≤ 256) (d : List UInt8 → Bool) : ∀ m, (wordsB t d m).Pairwise WLt
  | 0 => .nil
  | m + 1 => by
    unfold wordsB
    rw [List.pairwise_append]
    refine ⟨wordsB_rise ht d m, (allB_rise ht m).sublist List.filter_sublist, fun x hx y hy => .inl ?_⟩
    have h1 := ((wordsB_mem ht d m x).1 hx).2.1
    have h2 := ((allB_mem ht m y).1 (List.mem_filter.1 hy).1).1
    omega
theorem wordsB_le (t : Nat) (d : List UInt8 → Bool) : ∀ m, (wordsB t d m).length ≤ (wordsB t (fun _ => true) m).length
  | 0 => Nat.le_refl _
  | m + 1 => by
    unfold wordsB
    rw [List.length_append, List.length_append]
    have h1 := wordsB_le t d m
    have h2 := List.length_filter_le d (allB t m)
    have h3 : ((allB t m).filter fun _ => true) = allB t m := List.filter_eq_self.2 fun _ _ => rfl
    rw [h3]
    omega
theorem wordsB_few {t m : Nat} (ht : t ≤ 3) (hm : m ≤ 5) (d : List UInt8 → Bool) : (wordsB t d m).length ≤ 121 := by
  refine Nat.le_trans (wordsB_le t d m) ?_
  have hc : t = 0 ∨ t = 1 ∨ t = 2 ∨ t = 3 := by omega
  have hd : m = 0 ∨ m = 1 ∨ m = 2 ∨ m = 3 ∨ m = 4 ∨ m = 5 := by omega
  rcases hc with rfl | rfl | rfl | rfl <;> rcases hd with rfl | rfl | rfl | rfl | rfl | rfl <;> decide +kernel
namespace Lg
/-- The bytes of what is derived are terminals. -/
theorem Der.letters {ps : List (Int × List Int)} {t : Nat} (ht : t ≤ 256) (hps : ∀ x ∈ ps, ∀ s ∈ x.2, -(t : Int) ≤ s) {xs : List Int} {z : List UInt8} (h : Der ps xs z) : (∀ s ∈ xs, -(t : Int) ≤ s) → ∀ b ∈ z, b.toNat < t := by
  induction h with
  | nil => intro _ b hb; cases hb
  | @term s xs z hs _ ih =>
    intro hx b hb
    rcases List.mem_cons.1 hb with rfl | hb
    · have h1 := hx s (List.mem_cons_self ..)
      have := tb_toNat hs (by omega)
      omega
    · exact ih (fun t ht => hx t (List.mem_cons_of_mem _ ht)) b hb
  | @prod s R xs z1 z2 h0 hp _ _ ih1 ih2 =>
    intro hx b hb
    rcases List.mem_append.1 hb with hb | hb
    · exact ih1 (hps _ hp) b hb
    · exact ih2 (fun t ht => hx t (List.mem_cons_of_mem _ ht)) b hb
/-- Few words cannot be too many. -/
theorem few_fit {ps : List (Int × List Int)} {t : Nat} (ht : t ≤ 3) (hps : ∀ x ∈ ps, ∀ s ∈ x.2, -(t : Int) ≤ s) {live : Int → Prop} {ks : List Int} {most : Nat} (hm : most ≤ 4) (h : Over ps live ks most) : False := by
  have hfew : ∀ H : List (List UInt8), H.Nodup → (∀ z ∈ H, z.length ≤ most ∧ ∀ b ∈ z, b.toNat < t) → H.length ≤ 121 := fun H hn hz =>
    Nat.le_trans (nodup_sub hn (m := wordsB t (fun _ => true) (most + 1)) fun z hz' => (wordsB_mem (by omega) _ _ z).2 ⟨rfl, by have := (hz z hz').1; omega, (hz z hz').2⟩) (wordsB_few ht (by omega) _)
  rcases h with ⟨a, H, _, hn, hl, hz⟩ | ⟨x, hx, hu, i, H, hi, hn, hl, hz⟩
  · have := hfew H hn fun z hz' => ⟨by have := (hz z hz').2; omega, (hz z hz').1.letters (by omega) hps fun s hs => by rw [List.mem_singleton] at hs; omega⟩
    omega
  · have := hfew H hn fun z hz' => ⟨by
      have h1 := (hz z hz').2
      have h3 := tot_pos (ks := ks) (xs := x.2.drop i) (fun s hs => aliveS_iff.1 hu.2.1 s (List.mem_of_mem_drop hs))
      omega, (hz z hz').1.letters (by omega) hps fun s hs => hps x hx s (List.mem_of_mem_take hs)⟩
    omega
end Lg
/-- What Words answers is what the document's way finds. -/
theorem words_same {ps : List (Int × List Int)} {t : Nat} {a : Int} (h0 : 0 ≤ a) (ht : t ≤ 256) (hps : ∀ x ∈ ps, ∀ s ∈ x.2, -(t : Int) ≤ s) {ss : List (List UInt8)} {most : Nat} {d : List UInt8 → Bool} (hp : ss.Pairwise WLt)
    (hm : ∀ z, z ∈ ss ↔ Lg.Der ps [a] z ∧ z.length ≤ most) (hd : ∀ z, (∀ b ∈ z, b.toNat < t) → (d z = true ↔ Lg.Der ps [a] z)) : ss = wordsB t d (most + 1) := by
  refine rise_eq hp (wordsB_rise ht d _) fun z => ?_
  rw [hm, wordsB_mem ht]
  constructor
  · rintro ⟨h1, h2⟩
    have h3 := h1.letters ht hps (fun s hs => by rw [List.mem_singleton] at hs; omega)
    exact ⟨(hd z h3).2 h1, by omega, h3⟩
  · rintro ⟨h1, h2, h3⟩
    exact ⟨(hd z h3).1 h1, by omega⟩
end Go.Proofs.Ytaehooafdbaomaa
