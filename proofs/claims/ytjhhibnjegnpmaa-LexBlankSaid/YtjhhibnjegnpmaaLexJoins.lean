/- Chapter 4 (lex): LexJoins: two texts joined by a newline. -/
import Derived.Test.YtjhhibnjegnpmaaLexLaw0
import Derived.Test.YtjhhibnjegnpmaaLexJoinSpec
namespace Go.Proofs.Ytjhhibnjegnpmaa
open Go.RowKit
attribute [local go_sem ↓] Go.wp_at_zero Go.wp_at_succ
attribute [local go_sem] frozen_alloc_lt

namespace Lex
theorem tokS_code {c : UInt8} {r : List UInt8} {li co : Nat} {f : Flt} (h : tokS c r li co = .bad f) : f.code = 2 ∨ f.code = 6 := by
  unfold tokS at h
  repeat' split at h
  all_goals first | (cases h; done) | (cases h; simp)

theorem scanS_code : ∀ (n : Nat) (l : List UInt8) (li co : Nat) (f : Flt), l.length ≤ n → scanS l li co = .bad f → f.code = 2 ∨ f.code = 6 := by
  intro n
  induction n with
  | zero =>
    intro l li co f hn h
    have hl : l = [] := List.eq_nil_of_length_eq_zero (by omega)
    subst hl
    rw [scanS_eq] at h
    simp [skipS, contS] at h
  | succ n ih =>
    intro l li co f hn h
    rw [scanS_eq] at h
    have hsk := skipS_len false l li co
    rcases hs : skipS false l li co with ⟨l', li', co'⟩
    rw [hs] at h hsk
    cases l' with
    | nil => simp [contS] at h
    | cons c r =>
      simp only [contS] at h
      simp only [List.length_cons] at hsk
      cases ht : tokS c r li' co' with
      | bad f' => rw [ht] at h; cases h; exact tokS_code ht
      | good t rest li2 co2 =>
        rw [ht] at h
        simp only [] at h
        have hlen := tokS_len ht
        cases hr : scanS rest li2 co2 with
        | bad f' => rw [hr] at h; cases h; exact ih rest li2 co2 _ (by omega) hr
        | good m => rw [hr] at h; cases h

theorem scan_code {l : List UInt8} {f : Flt} (h : scan l = .bad f) : f.code = 2 ∨ f.code = 6 := by
  unfold scan at h
  split at h
  · cases h; simp
  · exact scanS_code l.length l 1 1 f (Nat.le_refl _) h

theorem scanS_len : ∀ (n : Nat) (l : List UInt8) (li co : Nat) (m : List Tok), l.length ≤ n → scanS l li co = .good m → 1 ≤ m.length ∧ m.length ≤ l.length + 1 := by
  intro n
  induction n with
  | zero =>
    intro l li co m hn h
    have hl : l = [] := List.eq_nil_of_length_eq_zero (by omega)
    subst hl
    rw [scanS_eq] at h
    simp only [skipS, contS, ScanRes.good.injEq] at h
    subst h
    simp
  | succ n ih =>
    intro l li co m hn h
    rw [scanS_eq] at h
    have hsk := skipS_len false l li co
    rcases hs : skipS false l li co with ⟨l', li', co'⟩
    rw [hs] at h hsk
    cases l' with
    | nil => simp only [contS, ScanRes.good.injEq] at h; subst h; simp
    | cons c r =>
      simp only [contS] at h
      simp only [List.length_cons] at hsk
      cases ht : tokS c r li' co' with
      | bad f' => rw [ht] at h; cases h
      | good t rest li2 co2 =>
        rw [ht] at h
        simp only [] at h
        have hlen := tokS_len ht
        cases hr : scanS rest li2 co2 with
        | bad f' => rw [hr] at h; cases h
        | good m' =>
          rw [hr] at h
          simp only [ScanRes.push, ScanRes.good.injEq] at h
          have := ih rest li2 co2 m' (by omega) hr
          subst h
          simp
          omega

theorem scan_len {l : List UInt8} {m : List Tok} (h : scan l = .good m) : 1 ≤ m.length ∧ m.length ≤ l.length + 1 := by
  unfold scan at h
  split at h
  · cases h
  · exact scanS_len l.length l 1 1 m (Nat.le_refl _) h

/-- Lines and columns of tokens stay small. -/
theorem tokS_line {c : UInt8} {r : List UInt8} {li co : Nat} {t : Tok} {rest : List UInt8} {li' co' : Nat} (h : tokS c r li co = .good t rest li' co') : t.line = li ∧ li' = li := by
  unfold tokS at h
  repeat' split at h
  all_goals first | (cases h; done) | (cases h; exact ⟨rfl, rfl⟩)
theorem skipS_line : ∀ (cm : Bool) (l : List UInt8) (li co : Nat), (skipS cm l li co).2.1 + (skipS cm l li co).1.length ≤ li + l.length
  | _, [], _, _ => by simp [skipS]
  | cm, c :: r, li, co => by
    have ha : advL c li ≤ li + 1 := by unfold advL; split <;> omega
    simp only [skipS]
    repeat' split
    all_goals first | (have := skipS_line true r (advL c li) (advC c co); simp only [List.length_cons]; omega) | (have := skipS_line false r (advL c li) (advC c co); simp only [List.length_cons]; omega) | simp
theorem scanS_line : ∀ (n : Nat) (l : List UInt8) (li co : Nat) (m : List Tok), l.length ≤ n → scanS l li co = .good m → ∀ t ∈ m, t.line ≤ li + l.length := by
  intro n
  induction n with
  | zero =>
    intro l li co m hn h
    have hl : l = [] := List.eq_nil_of_length_eq_zero (by omega)
    subst hl
    rw [scanS_eq] at h
    simp only [skipS, contS, ScanRes.good.injEq] at h
    subst h
    intro t ht
    simp at ht
    subst ht
    simp
  | succ n ih =>
    intro l li co m hn h
    rw [scanS_eq] at h
    have hsk := skipS_len false l li co
    have hsl := skipS_line false l li co
    rcases hs : skipS false l li co with ⟨l', li', co'⟩
    rw [hs] at h hsk hsl
    cases l' with
    | nil =>
      simp only [contS, ScanRes.good.injEq] at h
      subst h
      intro t ht
      simp at ht hsl
      subst ht
      simpa using hsl
    | cons c r =>
      simp only [contS] at h
      simp only [List.length_cons] at hsk hsl
      cases ht : tokS c r li' co' with
      | bad f' => rw [ht] at h; cases h
      | good t rest li2 co2 =>
        rw [ht] at h
        simp only [] at h
        have hlen := tokS_len ht
        obtain ⟨hl1, hl2⟩ := tokS_line ht
        cases hr : scanS rest li2 co2 with
        | bad f' => rw [hr] at h; cases h
        | good m' =>
          rw [hr] at h
          simp only [ScanRes.push, ScanRes.good.injEq] at h
          have := ih rest li2 co2 m' (by omega) hr
          subst h
          intro u hu
          rcases List.mem_append.1 hu with hu | hu
          · simp at hu; subst hu; omega
          · have := this u hu; omega
theorem scan_line {l : List UInt8} {m : List Tok} (h : scan l = .good m) : ∀ t ∈ m, t.line ≤ 1 + l.length := by
  unfold scan at h
  split at h
  · cases h
  · exact scanS_line l.length l 1 1 m (Nat.le_refl _) h
end Lex

theorem toksV_get : ∀ (L : List Lex.Tok) (i : Nat) (t : Lex.Tok) (j : Nat), L[i]? = some t → j < 4 → (toksV L)[i * 4 + j]? = (tokV t)[j]?
  | [], i, t, j, h, _ => by simp at h
  | u :: L, 0, t, j, h, hj => by
    simp only [List.getElem?_cons_zero, Option.some.injEq] at h
    subst h
    simp only [toksV, List.flatMap_cons]
    rw [List.getElem?_append_left (by simp [tokV]; omega)]
    simp
  | u :: L, i + 1, t, j, h, hj => by
    simp only [List.getElem?_cons_succ] at h
    have ih := toksV_get L i t j h hj
    simp only [toksV, List.flatMap_cons] at ih ⊢
    rw [List.getElem?_append_right (by simp [tokV]; omega)]
    rw [show (i + 1) * 4 + j - (tokV u).length = i * 4 + j by simp [tokV]; omega]
    exact ih

theorem own_tok {w : World} {base n cap g i : Nat} {L : List Lex.Tok} {t : Lex.Tok} (h : w.ownsRow base 31 4 (.slice (some ⟨g, 0, none⟩) n cap) n (toksV L)) (hi : L[i]? = some t) :
    w.cell? ⟨g, i * 4, none⟩ = some (.int .i64 t.kind) ∧ w.cell? ⟨g, i * 4 + 1, none⟩ = some (.string ⟨t.text.toArray⟩) ∧ w.cell? ⟨g, i * 4 + 2, none⟩ = some (.int .i64 t.line) ∧ w.cell? ⟨g, i * 4 + 3, none⟩ = some (.int .i64 t.col) :=
  ⟨own_cells h (i * 4 + 0) _ (by rw [toksV_get L i t 0 hi (by omega)]; rfl), own_cells h (i * 4 + 1) _ (by rw [toksV_get L i t 1 hi (by omega)]; rfl),
    own_cells h (i * 4 + 2) _ (by rw [toksV_get L i t 2 hi (by omega)]; rfl), own_cells h (i * 4 + 3) _ (by rw [toksV_get L i t 3 hi (by omega)]; rfl)⟩

set_option maxHeartbeats 4000000 in
theorem joins_long (a b : ByteArray) (w : World) (hab : a.size ≤ 9223372036854775807 ∧ b.size ≤ 9223372036854775807) (h : 500 < a.size ∨ 500 < b.size) :
    Calls Try.prog 4 #[.string a, .string b] w fun e w' => e = .returned (.bool true) ∧ Below w.heap.size w w' := by
  obtain ⟨ha, hb⟩ := hab
  rcases h with h | h
  all_goals
    go_enter Try.func4, Try.ntmps4
    go_wp2_with (go_at_call 9; refine (speaks_calls _).mono ?_; rintro e w1 ⟨rfl, hb1⟩)
    all_goals go_ret
    all_goals exact ⟨rfl, hb1⟩

/-- A fault's variable: made behind a call, read behind later ones. -/
theorem fault_new (w : World) (x y z : Int) : Bk (w.alloc (.cells #[.int .i64 x, .int .i64 y, .int .i64 z] 27)) w.heap.size 27 [.int .i64 x, .int .i64 y, .int .i64 z] := Bk.new _ _ _

set_option maxHeartbeats 4000000 in
theorem joins_bad (a b : ByteArray) (w : World) (ha : a.size ≤ 500) (hb : b.size ≤ 500) (h : (∃ f, Lex.scan a.data.toList = .bad f) ∨ ((∃ l, Lex.scan a.data.toList = .good l) ∧ ∃ f, Lex.scan b.data.toList = .bad f)) :
    Calls Try.prog 4 #[.string a, .string b] w fun e w' => e = .returned (.bool true) ∧ Below w.heap.size w w' := by
  generalize hg : Lex.scan b.data.toList = sb at h
  generalize hf : Lex.scan a.data.toList = sa at h
  have Hg := hid hg
  have Hf := hid hf
  have hcf : ∀ f, sa = .bad f → ((f.code : Int) != 0) = true := fun f e => by rcases Lex.scan_code (hf.trans e) with h | h <;> rw [h] <;> rfl
  have hcg : ∀ f, sb = .bad f → ((f.code : Int) != 0) = true := fun f e => by rcases Lex.scan_code (hg.trans e) with h | h <;> rw [h] <;> rfl
  clear hf hg
  go_enter Try.func4, Try.ntmps4
  go_wp2_with (go_at_call 9; refine (speaks_calls _).mono ?_; rintro e w1 ⟨rfl, hb1⟩)
  cases sa with
  | bad f =>
    have hc := hcf f rfl
    clear hcf hcg h
    refine (scan_at Hf.out (scan_calls a _ (by omega))).mono ?_
    rintro e w2 ⟨rfl, hb2⟩
    go_wp2_with fail
    have k1 := fault_new w2 f.line f.col f.code
    have hbA : Below w.heap.size w (w2.alloc (.cells #[.int .i64 f.line, .int .i64 f.col, .int .i64 f.code] 27)) := (hb1.trans (hb2.mono hb1.size)).alloc (Nat.le_trans hb1.size hb2.size) _
    obtain ⟨wA, hwA⟩ : ∃ wA, wA = w2.alloc (.cells #[.int .i64 f.line, .int .i64 f.col, .int .i64 f.code] 27) := ⟨_, rfl⟩
    obtain ⟨bf, hbf⟩ : ∃ bf, bf = w2.heap.size := ⟨_, rfl⟩
    rw [← hwA, ← hbf] at k1
    rw [← hwA] at hbA
    rw [← hwA, ← hbf]
    clear hwA hbf
    cases sb with
    | bad g =>
      refine (scan_at Hg.out (scan_calls b _ (by omega))).mono ?_
      rintro e w3 ⟨rfl, hb3⟩
      have c2 : w3.cell? ⟨bf, 2, none⟩ = some (.int .i64 f.code) := (k1.below hb3 k1.lt).cell 2
      have lb : bf < w3.heap.size := World.block_lt_of_cell? w3 _ c2
      go_wp2_with fail
      go_ret
      exact ⟨rfl, (hbA.trans (hb3.mono hbA.size)).alloc (Nat.le_trans hbA.size hb3.size) _⟩
    | good m =>
      refine (scan_at Hg.out (scan_calls b _ (by omega))).mono ?_
      rintro e w3 ⟨v, rfl, hown, hb3⟩
      have c2 : w3.cell? ⟨bf, 2, none⟩ = some (.int .i64 f.code) := (k1.below hb3 k1.lt).cell 2
      have lb : bf < w3.heap.size := World.block_lt_of_cell? w3 _ c2
      go_wp2_with fail
      go_ret
      exact ⟨rfl, (hbA.trans (hb3.mono hbA.size)).alloc (Nat.le_trans hbA.size hb3.size) _⟩
  | good l =>
    refine (scan_at Hf.out (scan_calls a _ (by omega))).mono ?_
    rintro e w2 ⟨v, rfl, hown, hb2⟩
    go_wp2_with fail
    have k1 := fault_new w2 0 0 0
    have hbA : Below w.heap.size w (w2.alloc (.cells #[.int .i64 0, .int .i64 0, .int .i64 0] 27)) := (hb1.trans (hb2.mono hb1.size)).alloc (Nat.le_trans hb1.size hb2.size) _
    obtain ⟨wA, hwA⟩ : ∃ wA, wA = w2.alloc (.cells #[.int .i64 0, .int .i64 0, .int .i64 0] 27) := ⟨_, rfl⟩
    obtain ⟨bf, hbf⟩ : ∃ bf, bf = w2.heap.size := ⟨_, rfl⟩
    rw [← hwA, ← hbf] at k1
    rw [← hwA] at hbA
    rw [← hwA, ← hbf]
    clear hwA hbf
    cases sb with
    | bad g =>
      have hc := hcg g rfl
      clear hcf hcg h
      refine (scan_at Hg.out (scan_calls b _ (by omega))).mono ?_
      rintro e w3 ⟨rfl, hb3⟩
      have c2 : w3.cell? ⟨bf, 2, none⟩ = some (.int .i64 0) := (k1.below hb3 k1.lt).cell 2
      have lb : bf < w3.heap.size := World.block_lt_of_cell? w3 _ c2
      go_wp2_with fail
      go_ret
      exact ⟨rfl, (hbA.trans (hb3.mono hbA.size)).alloc (Nat.le_trans hbA.size hb3.size) _⟩
    | good m =>
      exfalso
      rcases h with ⟨f, e⟩ | ⟨_, f, e⟩ <;> cases e

theorem app_data (a b : ByteArray) : (a ++ ⟨#[10]⟩ ++ b).data.toList = a.data.toList ++ 10 :: b.data.toList := by
  simp [ByteArray.data_append]

set_option maxHeartbeats 8000000 in
theorem joins_good (a b : ByteArray) (w : World) (ha : a.size ≤ 500) (hb : b.size ≤ 500) (ts m : List Lex.Tok) (le ce : Nat) (hf : Lex.scan a.data.toList = .good (ts ++ [⟨4, [], le, ce⟩])) (hg : Lex.scan b.data.toList = .good m)
    (hj : Lex.scan (a.data.toList ++ 10 :: b.data.toList) = .good (ts ++ m.map (Lex.Tok.down le))) :
    Calls Try.prog 4 #[.string a, .string b] w fun e w' => e = .returned (.bool true) ∧ Below w.heap.size w w' := by
  have hla := Lex.scan_len hf
  have hlb := Lex.scan_len hg
  have hza : a.data.toList.length = a.size := by simp
  have hzb : b.data.toList.length = b.size := by simp
  have hle : le ≤ 501 := by
    have := Lex.scan_line hf ⟨4, [], le, ce⟩ (by simp)
    simp only at this
    omega
  have hml : ∀ t ∈ m, t.line ≤ 501 := fun t ht => by have := Lex.scan_line hg t ht; omega
  have hN : ts.length ≤ 501 := by rw [List.length_append, List.length_singleton] at hla; omega
  have hM1 : 1 ≤ m.length := hlb.1
  have hM2 : m.length ≤ 501 := by omega
  have Hml := hid hml
  have Hf := hid hf
  have Hg := hid hg
  have hcat : (a ++ ⟨#[10]⟩ ++ b).size ≤ 9223372036854775807 := by
    have h1 : (a ++ ⟨#[10]⟩ ++ b).size = a.size + 1 + b.size := by rw [ByteArray.size_append, ByteArray.size_append]; rfl
    omega
  rw [← app_data] at hj
  have Hj := hid hj
  clear hf hg hj hla hlb hza hzb hml
  go_enter Try.func4, Try.ntmps4
  go_wp2_with (go_at_call 9; refine (speaks_calls _).mono ?_; rintro e w1 ⟨rfl, hb1⟩)
  refine (scan_at Hf.out (scan_calls a _ (by omega))).mono ?_
  rintro e w2 ⟨v, rfl, hown, hb2⟩
  rw [List.length_append, List.length_singleton] at hown
  obtain ⟨g1, cap1, rfl, -, hg1⟩ := hown.form (by omega)
  go_wp2_with fail
  have k1 := fault_new w2 0 0 0
  have o1 := hown.alloc (.cells #[.int .i64 0, .int .i64 0, .int .i64 0] 27)
  have hbA : Below w.heap.size w (w2.alloc (.cells #[.int .i64 0, .int .i64 0, .int .i64 0] 27)) := (hb1.trans (hb2.mono hb1.size)).alloc (Nat.le_trans hb1.size hb2.size) _
  obtain ⟨wA, hwA⟩ : ∃ wA, wA = w2.alloc (.cells #[.int .i64 0, .int .i64 0, .int .i64 0] 27) := ⟨_, rfl⟩
  obtain ⟨bf, hbf⟩ : ∃ bf, bf = w2.heap.size := ⟨_, rfl⟩
  rw [← hwA, ← hbf] at k1
  rw [← hwA] at hbA o1
  rw [← hwA, ← hbf]
  clear hwA hbf hown hg1
  refine (scan_at Hg.out (scan_calls b _ (by omega))).mono ?_
  rintro e w3 ⟨v, rfl, hown2, hb3⟩
  obtain ⟨g2, cap2, rfl, -, -⟩ := hown2.form (by omega)
  have o1' := own_below o1 hb3
  have k1' := k1.below hb3 k1.lt
  have c2 : w3.cell? ⟨bf, 2, none⟩ = some (.int .i64 0) := k1'.cell 2
  have lb : bf < w3.heap.size := World.block_lt_of_cell? w3 _ c2
  go_wp2_with fail
  have hbB : Below w.heap.size w (w3.alloc (.cells #[.int .i64 0, .int .i64 0, .int .i64 0] 27)) := (hbA.trans (hb3.mono hbA.size)).alloc (Nat.le_trans hbA.size hb3.size) _
  have o1B := o1'.alloc (.cells #[.int .i64 0, .int .i64 0, .int .i64 0] 27)
  have o2B := hown2.alloc (.cells #[.int .i64 0, .int .i64 0, .int .i64 0] 27)
  obtain ⟨wB, hwB⟩ : ∃ wB, wB = w3.alloc (.cells #[.int .i64 0, .int .i64 0, .int .i64 0] 27) := ⟨_, rfl⟩
  rw [← hwB] at hbB o1B o2B
  obtain ⟨bg, hbg⟩ : ∃ bg, bg = w3.heap.size := ⟨_, rfl⟩
  rw [← hwB, ← hbg]
  clear hwB hbg o1' hown2 k1 k1' c2 lb o1
  refine (scan_at Hj.out (scan_calls _ _ hcat)).mono ?_
  rintro e w4 ⟨v, rfl, hown3, hb4⟩
  rw [List.length_append, List.length_map] at hown3
  obtain ⟨g3, cap3, rfl, -, -⟩ := hown3.form (by omega)
  have o1C := own_below o1B hb4
  have o2C := own_below o2B hb4
  have hbC : Below w.heap.size w w4 := hbB.trans (hb4.mono hbB.size)
  clear o1B o2B hbB hb4
  obtain ⟨l0, l1, l2, l3⟩ := own_tok (i := ts.length) (t := ⟨4, [], le, ce⟩) o1C (by simp)
  have lb : g1 < w4.heap.size := World.block_lt_of_cell? w4 _ l2
  have hnN : (ts.length : Int) ≤ 501 := by omega
  have hnM : (m.length : Int) ≤ 501 := by omega
  have hnM1 : (1 : Int) ≤ (m.length : Int) := by omega
  go_wp2_with fail
  have hbD : Below w.heap.size w (w4.alloc (.cells #[.int .i64 0, .int .i64 0, .int .i64 0] 27)) := hbC.alloc hbC.size _
  have p1 := o1C.alloc (.cells #[.int .i64 0, .int .i64 0, .int .i64 0] 27)
  have p2 := o2C.alloc (.cells #[.int .i64 0, .int .i64 0, .int .i64 0] 27)
  have p3 := hown3.alloc (.cells #[.int .i64 0, .int .i64 0, .int .i64 0] 27)
  obtain ⟨wC, hwC⟩ : ∃ wC, wC = w4.alloc (.cells #[.int .i64 0, .int .i64 0, .int .i64 0] 27) := ⟨_, rfl⟩
  rw [← hwC] at hbD p1 p2 p3
  obtain ⟨bh, hbh⟩ : ∃ bh, bh = w4.heap.size := ⟨_, rfl⟩
  rw [← hwC, ← hbh]
  clear hwC hbh o1C o2C hown3 l0 l1 l2 l3 lb hbC hb1 hb2 hb3 hbA
  go_loopg [12] ts.length (fun k i wr => ∃ j n : Nat, i = .int .i64 j ∧ j ≤ ts.length ∧ k = ts.length - j ∧ wr = wC.drewN n)
  case atStart => exact ⟨0, 0, rfl, by omega, rfl, rfl⟩
  case round =>
    obtain ⟨j, n, rfl, hj, hk, rfl⟩ := hrel
    have Hk := hid hk
    clear hk
    by_cases hlt : j < ts.length
    · have hlt' : (j : Int) < (ts.length : Int) := by omega
      obtain ⟨t, ht⟩ : ∃ t, ts[j]? = some t := ⟨ts[j], by simp [hlt]⟩
      have h1 : (ts ++ [(⟨4, [], le, ce⟩ : Lex.Tok)])[j]? = some t := by rw [List.getElem?_append_left hlt]; exact ht
      have h3 : (ts ++ m.map (Lex.Tok.down le))[j]? = some t := by rw [List.getElem?_append_left hlt]; exact ht
      obtain ⟨x0, x1, x2, x3⟩ := own_tok p1 h1
      obtain ⟨y0, y1, y2, y3⟩ := own_tok p3 h3
      clear ht h1 h3
      go_wp2_with fail
      go_quiet (fail)
      go_wp2_with fail
      go_roundg (ts.length - (j + 1))
      case measure => have hk := Hk.out; omega
      case rel => exact ⟨j + 1, _, by go_num, by omega, rfl, rfl⟩
    · have hge : ¬ (j : Int) < (ts.length : Int) := by omega
      clear Hk
      go_wp2_with fail
      replace hbD : Below w.heap.size w (wC.drewN n) := below_drewN hbD n
      replace p1 : (wC.drewN n).ownsRow wA.heap.size 31 4 (.slice (some ⟨g2, 0, none⟩) m.length cap2) m.length (toksV m) := own_drewN p2 n
      replace p3 : (wC.drewN n).ownsRow wB.heap.size 31 4 (.slice (some ⟨g3, 0, none⟩) (ts.length + m.length) cap3) (ts.length + m.length) (toksV (ts ++ m.map (Lex.Tok.down le))) := own_drewN p3 n
      obtain ⟨wX, hwX⟩ : ∃ wX, wX = wC.drewN n := ⟨_, rfl⟩
      rw [← hwX] at hbD p1 p3 ⊢
      clear hwX p2
      go_loopg [13] m.length (fun k i wr => ∃ j : Nat, i = .int .i64 j ∧ j ≤ m.length ∧ k = m.length - j ∧ Below wX.heap.size wX wr)
      case atStart => exact ⟨0, rfl, by omega, rfl, Below.refl _ _⟩
      case round =>
        obtain ⟨i, rfl, hi, hk, hbX⟩ := hrel
        have Hk := hid hk
        clear hk
        by_cases hlt2 : i < m.length
        · have hlt2' : (i : Int) < (m.length : Int) := by omega
          obtain ⟨t, ht⟩ : ∃ t, m[i]? = some t := ⟨m[i], by simp [hlt2]⟩
          have hti : (t.line : Int) ≤ 501 := by have := Hml.out t (List.mem_of_getElem? ht); omega
          have h3 : (ts ++ m.map (Lex.Tok.down le))[ts.length + i]? = some (t.down le) := by
            rw [List.getElem?_append_right (by omega), Nat.add_sub_cancel_left, List.getElem?_map, ht]; rfl
          obtain ⟨x0, x1, x2, x3⟩ := own_tok (own_below p1 hbX) ht
          obtain ⟨y0, y1, y2, y3⟩ := own_tok (own_below p3 hbX) h3
          simp only [Lex.Tok.down] at y0 y1 y2 y3
          have lx : g2 < wr.heap.size := World.block_lt_of_cell? wr _ x0
          have ly : g3 < wr.heap.size := World.block_lt_of_cell? wr _ y0
          clear ht h3
          go_wp2_with fail
          go_quiet (fail)
          go_wp2_with fail
          go_roundg (m.length - (i + 1))
          case measure => have hk := Hk.out; omega
          case rel =>
            refine ⟨i + 1, by go_num, by omega, rfl, ?_⟩
            first | exact below_drewN (hbX.alloc hbX.size _) _ | exact (hbX.alloc hbX.size _).drew
        · have hge2 : ¬ (i : Int) < (m.length : Int) := by omega
          go_wp2_with fail
          go_ret
          exact ⟨rfl, hbD.trans (hbX.mono hbD.size)⟩

theorem joins_calls (a b : ByteArray) (w : World) (ha : a.size ≤ 9223372036854775807) (hb : b.size ≤ 9223372036854775807) :
    Calls Try.prog 4 #[.string a, .string b] w fun e w' => e = .returned (.bool true) ∧ Below w.heap.size w w' := by
  by_cases h : 500 < a.size ∨ 500 < b.size
  · exact joins_long a b w ⟨ha, hb⟩ h
  · have ha' : a.size ≤ 500 := by omega
    have hb' : b.size ≤ 500 := by omega
    cases hf : Lex.scan a.data.toList with
    | bad f => exact joins_bad a b w ha' hb' (.inl ⟨f, hf⟩)
    | good l =>
      cases hg : Lex.scan b.data.toList with
      | bad g => exact joins_bad a b w ha' hb' (.inr ⟨⟨l, hf⟩, g, hg⟩)
      | good m =>
        obtain ⟨ts, le, ce, rfl, hj⟩ := Lex.scan_join (by have : a.data.toList.length = a.size := by simp
                                                          have : b.data.toList.length = b.size := by simp
                                                          omega) hf hg
        exact joins_good a b w ha' hb' ts m le ce hf hg hj
end Go.Proofs.Ytjhhibnjegnpmaa
