/- Chapter 10 (lang): the plain law: derivations of texts, and what is closed. Plain lists. -/
import Derived.Test.YtaehooafdbaomaaShoGen
import Derived.Test.YtaehooafdbaomaaSetT
namespace Go.Proofs.Ytaehooafdbaomaa
namespace Lg
open Facts (atK fixS lengthS bound)

/-- A terminal's byte. -/
def tb (s : Int) : UInt8 := UInt8.ofNat (-1 - s).toNat
/-- What symbols derive, a byte for a terminal. -/
inductive Der (ps : List (Int × List Int)) : List Int → List UInt8 → Prop
  | nil : Der ps [] []
  | term {s : Int} {xs : List Int} {z : List UInt8} : s < 0 → Der ps xs z → Der ps (s :: xs) (tb s :: z)
  | prod {s : Int} {R xs : List Int} {z1 z2 : List UInt8} : 0 ≤ s → (s, R) ∈ ps → Der ps R z1 → Der ps xs z2 → Der ps (s :: xs) (z1 ++ z2)
theorem Der.app {ps : List (Int × List Int)} {xs ys : List Int} {a b : List UInt8} (h : Der ps xs a) (k : Der ps ys b) : Der ps (xs ++ ys) (a ++ b) := by
  induction h with
  | nil => exact k
  | term hs _ ih => exact .term hs ih
  | prod h0 hp h1 _ _ ih2 => rw [List.append_assoc]; exact .prod h0 hp h1 ih2
theorem Der.one {ps : List (Int × List Int)} {s : Int} {R : List Int} {z : List UInt8} (h0 : 0 ≤ s) (hp : (s, R) ∈ ps) (h : Der ps R z) : Der ps [s] z := by
  have := Der.prod h0 hp h .nil
  rwa [List.append_nil] at this
theorem Der.inv {ps : List (Int × List Int)} {s : Int} {z : List UInt8} (h : Der ps [s] z) (h0 : 0 ≤ s) : ∃ R, (s, R) ∈ ps ∧ Der ps R z := by
  cases h with
  | term hs => omega
  | prod _ hp h1 h2 =>
    cases h2
    rw [List.append_nil]
    exact ⟨_, hp, h1⟩
/-- How many terminals symbols derive at least, by a table of the nonterminals'. -/
def kOf (ks : List Int) (s : Int) : Int := if 0 ≤ s then atK ks s else 1
def tot (ks : List Int) : List Int → Int
  | [] => 0
  | s :: r => kOf ks s + tot ks r
theorem der_len {ps : List (Int × List Int)} {ks : List Int} (hf : fixS ps ks) {xs : List Int} {z : List UInt8} (h : Der ps xs z) :
    (∀ n : Int, 0 ≤ n → ∃ m, lengthS ks xs n = some m ∧ m ≤ n + z.length) ∧ tot ks xs ≤ z.length ∧ ∀ s ∈ xs, 0 ≤ kOf ks s := by
  induction h with
  | nil => exact ⟨fun n h => ⟨n, rfl, by simp⟩, by simp [tot], by simp⟩
  | @term s xs z hs _ ih =>
    obtain ⟨i1, i2, i3⟩ := ih
    have hns : ¬ 0 ≤ s := by omega
    refine ⟨fun n h => ?_, ?_, fun t ht => ?_⟩
    · obtain ⟨m, h1, h2⟩ := i1 (min (n + 1) bound) (by unfold bound; omega)
      refine ⟨m, ?_, ?_⟩
      · unfold lengthS
        simp only [hns, if_false]
        rw [if_neg (by omega)]
        exact h1
      · simp only [List.length_cons]; omega
    · simp only [tot, kOf, hns, if_false, List.length_cons]; omega
    · rcases List.mem_cons.1 ht with rfl | ht
      · simp [kOf, hns]
      · exact i3 t ht
  | @prod s R xs z1 z2 h0 hp _ _ ih1 ih2 =>
    obtain ⟨m, h1, h2⟩ := ih1.1 0 (by omega)
    obtain ⟨i1, i2, i3⟩ := ih2
    have hk := hf _ hp m h1
    simp only at hk
    have hg : ks.getD s.toNat 0 = atK ks s := rfl
    refine ⟨fun n h => ?_, ?_, fun t ht => ?_⟩
    · obtain ⟨m2, h3, h4⟩ := i1 (min (n + atK ks s) bound) (by unfold bound; omega)
      refine ⟨m2, ?_, ?_⟩
      · unfold lengthS
        simp only [h0, if_true, hg]
        rw [if_neg (by omega)]
        exact h3
      · simp only [List.length_append]; omega
    · simp only [tot, kOf, h0, if_true, List.length_append]; omega
    · rcases List.mem_cons.1 ht with rfl | ht
      · simp only [kOf, h0, if_true]; omega
      · exact i3 t ht
theorem tot_app (ks : List Int) : ∀ xs ys : List Int, tot ks (xs ++ ys) = tot ks xs + tot ks ys
  | [], ys => by simp [tot]
  | s :: xs, ys => by
    show kOf ks s + tot ks (xs ++ ys) = kOf ks s + tot ks xs + tot ks ys
    rw [tot_app ks xs ys]; omega
theorem tot_pos {ks : List Int} : ∀ {xs : List Int}, (∀ s ∈ xs, 0 ≤ kOf ks s) → 0 ≤ tot ks xs
  | [], _ => by simp [tot]
  | s :: r, h => by
    have h1 := h s (by simp)
    have h2 := tot_pos (xs := r) (fun t ht => h t (by simp [ht]))
    show 0 ≤ kOf ks s + tot ks r
    omega
/-- .. as the program reckons it. -/
def leastS (ks : List Int) : List Int → Int → Int
  | [], n => n
  | s :: r, n => leastS ks r (min (n + kOf ks s) 65)
theorem leastS_eq {ks : List Int} : ∀ {xs : List Int} {n : Int}, (∀ s ∈ xs, 0 ≤ kOf ks s) → 0 ≤ n → n ≤ 65 → leastS ks xs n = min (n + tot ks xs) 65
  | [], n, _, _, _ => by simp [leastS, tot]; omega
  | s :: r, n, h, h0, h1 => by
    have h2 := h s (by simp)
    have h3 := tot_pos (ks := ks) (xs := r) (fun t ht => h t (by simp [ht]))
    show leastS ks r (min (n + kOf ks s) 65) = min (n + (kOf ks s + tot ks r)) 65
    rw [leastS_eq (fun t ht => h t (by simp [ht])) (by omega) (by omega)]
    omega
/-- A table of words that are known, by nonterminals. -/
abbrev Tab := Nat → List (List UInt8)
def Pt (W : Tab) (s : Int) (t : List UInt8) : Prop := (s < 0 ∧ t = [tb s]) ∨ (0 ≤ s ∧ t ∈ W s.toNat)
inductive Cmb (W : Tab) : List Int → List UInt8 → Prop
  | nil : Cmb W [] []
  | cons {s : Int} {xs : List Int} {t z : List UInt8} : Pt W s t → Cmb W xs z → Cmb W (s :: xs) (t ++ z)
theorem Cmb.snoc {W : Tab} {xs : List Int} {s : Int} {h t : List UInt8} (hc : Cmb W xs h) (ht : Pt W s t) : Cmb W (xs ++ [s]) (h ++ t) := by
  induction hc with
  | nil => have := Cmb.cons ht .nil; simpa using this
  | cons hp _ ih => rw [List.append_assoc]; exact .cons hp ih
theorem Cmb.unsnoc {W : Tab} {s : Int} : ∀ {xs : List Int} {z : List UInt8}, Cmb W (xs ++ [s]) z → ∃ h t, Cmb W xs h ∧ Pt W s t ∧ z = h ++ t
  | [], z, hc => by
    cases hc with
    | cons hp h2 => cases h2; exact ⟨[], _, .nil, hp, by simp⟩
  | x :: xs, z, hc => by
    cases hc with
    | cons hp h2 =>
      obtain ⟨h, t, h3, h4, rfl⟩ := Cmb.unsnoc h2
      exact ⟨_, t, .cons hp h3, h4, by simp⟩
/-- What is known is derived, and not too long. -/
def Sound (ps : List (Int × List Int)) (most : Int) (W : Tab) : Prop := ∀ (a : Nat) z, z ∈ W a → Der ps [(a : Int)] z ∧ (z.length : Int) ≤ most
theorem Pt.der {ps : List (Int × List Int)} {most : Int} {W : Tab} (hs : Sound ps most W) {s : Int} {t : List UInt8} (h : Pt W s t) : Der ps [s] t := by
  rcases h with ⟨h0, rfl⟩ | ⟨h0, h1⟩
  · exact .term h0 .nil
  · have := (hs _ _ h1).1
    rwa [show ((s.toNat : Nat) : Int) = s by omega] at this
theorem Cmb.der {ps : List (Int × List Int)} {most : Int} {W : Tab} (hs : Sound ps most W) {xs : List Int} {z : List UInt8} (h : Cmb W xs z) : Der ps xs z := by
  induction h with
  | nil => exact .nil
  | @cons s xs t z hp _ ih => exact (hp.der hs).app ih
/-- Which words are at hand behind the first i symbols of a right side. -/
def Hd (W : Tab) (ks : List Int) (most : Int) (R : List Int) (i : Nat) (z : List UInt8) : Prop := Cmb W (R.take i) z ∧ (z.length : Int) + tot ks (R.drop i) ≤ most
theorem Hd.zero {W : Tab} {ks : List Int} {most : Int} {R : List Int} (h : tot ks R ≤ most) (z : List UInt8) : Hd W ks most R 0 z ↔ z = [] := by
  unfold Hd
  simp only [List.take_zero, List.drop_zero]
  constructor
  · rintro ⟨h1, -⟩; cases h1; rfl
  · rintro rfl; exact ⟨.nil, by simpa using h⟩
theorem Hd.succ {ps : List (Int × List Int)} {W : Tab} {ks : List Int} {most : Int} (hs : Sound ps most W) (hf : fixS ps ks) {R : List Int} {i : Nat} {s : Int} (hi : R[i]? = some s) (z : List UInt8) :
    Hd W ks most R (i + 1) z ↔ ∃ h t, Hd W ks most R i h ∧ Pt W s t ∧ z = h ++ t ∧ (z.length : Int) ≤ most - tot ks (R.drop (i + 1)) := by
  have hl : i < R.length := (List.getElem?_eq_some_iff.1 hi).1
  have hg : R[i] = s := (List.getElem?_eq_some_iff.1 hi).2
  have ht : R.take (i + 1) = R.take i ++ [s] := by rw [List.take_succ_eq_append_getElem hl, hg]
  have hd : R.drop i = s :: R.drop (i + 1) := by rw [List.drop_eq_getElem_cons hl, hg]
  unfold Hd
  rw [ht, hd]
  constructor
  · rintro ⟨h1, h2⟩
    obtain ⟨h, t, h3, h4, rfl⟩ := h1.unsnoc
    have h5 := (der_len hf (h4.der hs)).2.1
    refine ⟨h, t, ⟨h3, ?_⟩, h4, rfl, by omega⟩
    simp only [tot, List.length_append] at *
    omega
  · rintro ⟨h, t, ⟨h1, h2⟩, h3, rfl, h4⟩
    exact ⟨h1.snoc h3, by omega⟩
theorem Hd.done {W : Tab} {ks : List Int} {most : Int} {R : List Int} (z : List UInt8) : Hd W ks most R R.length z ↔ Cmb W R z ∧ (z.length : Int) ≤ most := by
  unfold Hd
  simp [tot]
/-- All of whose symbols derive a word. -/
def aliveS (ks : List Int) (R : List Int) : Bool := R.all fun s => decide (0 ≤ kOf ks s)
theorem aliveS_iff {ks R : List Int} : aliveS ks R = true ↔ ∀ s ∈ R, 0 ≤ kOf ks s := by simp [aliveS]
/-- The productions that give words: of those that stand in a derivation. -/
def use (ks : List Int) (live : Int → Prop) (most : Int) (x : Int × List Int) : Prop := live x.1 ∧ aliveS ks x.2 = true ∧ tot ks x.2 ≤ most
def ClosedAt (W : Tab) (most : Int) (x : Int × List Int) : Prop := ∀ z, Cmb W x.2 z → (z.length : Int) ≤ most → z ∈ W x.1.toNat
/-- Those that stand in a derivation, spread by productions. -/
def Spread (ps : List (Int × List Int)) (ks : List Int) (live : Int → Prop) : Prop := ∀ x ∈ ps, live x.1 → aliveS ks x.2 = true → ∀ s ∈ x.2, 0 ≤ s → live s
theorem complete {ps : List (Int × List Int)} {ks : List Int} {live : Int → Prop} {most : Int} {W : Tab} (hf : fixS ps ks) (hsp : Spread ps ks live)
    (hc : ∀ x ∈ ps, use ks live most x → ClosedAt W most x) {xs : List Int} {z : List UInt8} (h : Der ps xs z) : (∀ s ∈ xs, 0 ≤ s → live s) → (z.length : Int) ≤ most → Cmb W xs z := by
  induction h with
  | nil => intro _ _; exact .nil
  | @term s xs z hs _ ih =>
    intro hl hm
    have := ih (fun t ht => hl t (by simp [ht])) (by simp at hm; omega)
    exact Cmb.cons (t := [tb s]) (.inl ⟨hs, rfl⟩) this
  | @prod s R xs z1 z2 h0 hp h1 _ ih1 ih2 =>
    intro hl hm
    have hm' := hm
    simp only [List.length_append] at hm'
    have hls := hl s (by simp) h0
    have hd := der_len hf h1
    have hal : aliveS ks R = true := aliveS_iff.2 hd.2.2
    have h2 := ih1 (fun t ht ht0 => hsp _ hp hls hal t ht ht0) (by omega)
    have h3 := hc _ hp ⟨hls, hal, by show tot ks R ≤ most; omega⟩ z1 h2 (by omega)
    exact Cmb.cons (.inr ⟨h0, h3⟩) (ih2 (fun t ht => hl t (by simp [ht])) (by omega))
theorem complete_one {ps : List (Int × List Int)} {ks : List Int} {live : Int → Prop} {most : Int} {W : Tab} (hf : fixS ps ks) (hsp : Spread ps ks live)
    (hc : ∀ x ∈ ps, use ks live most x → ClosedAt W most x) {a : Nat} (ha : live (a : Int)) {z : List UInt8} (h : Der ps [(a : Int)] z) (hz : (z.length : Int) ≤ most) : z ∈ W a := by
  have := complete hf hsp hc h (fun s hs _ => by rw [List.mem_singleton.1 hs]; exact ha) hz
  cases this with
  | cons hp h2 =>
    cases h2
    rcases hp with ⟨h0, _⟩ | ⟨_, h1⟩
    · omega
    · rw [List.append_nil]; exact h1
/-- Too many words of symbols. -/
def Over (ps : List (Int × List Int)) (live : Int → Prop) (ks : List Int) (most : Int) : Prop :=
  (∃ (a : Nat) (H : List (List UInt8)), live (a : Int) ∧ H.Nodup ∧ 4096 < H.length ∧ ∀ z ∈ H, Der ps [(a : Int)] z ∧ (z.length : Int) ≤ most) ∨
  ∃ x ∈ ps, use ks live most x ∧ ∃ (i : Nat) (H : List (List UInt8)), i ≤ x.2.length ∧ H.Nodup ∧ 4096 * (most + 1) < H.length ∧ ∀ z ∈ H, Der ps (x.2.take i) z ∧ (z.length : Int) + tot ks (x.2.drop i) ≤ most
end Lg
end Go.Proofs.Ytaehooafdbaomaa
