/- Chapter 4 (lex): LexQuotes: any bytes as a literal, and back. -/
import Derived.Test.YtjhhibnjegnpmaaLexJoins
import Derived.Test.YtjhhibnjegnpmaaLexQuote2
namespace Go.Proofs.Ytjhhibnjegnpmaa
open Go.RowKit
attribute [local go_sem ↓] Go.wp_at_zero Go.wp_at_succ
attribute [local go_sem] frozen_alloc_lt

set_option maxHeartbeats 4000000 in
theorem quotes_calls (s : ByteArray) (w : World) (hs : s.size ≤ 9223372036854775807) :
    Calls Try.prog 7 #[.string s] w fun e w' => e = .returned (.bool true) ∧ Below w.heap.size w w' := by
  by_cases h200 : 200 < s.size
  · have h200' : (200 : Int) < (s.size : Int) := by omega
    go_enter Try.func7, Try.ntmps7
    go_wp2_with (go_at_call 9; refine (speaks_calls _).mono ?_; rintro e w1 ⟨rfl, hb1⟩)
    go_ret
    exact ⟨rfl, hb1⟩
  · have h200' : ¬ (200 : Int) < (s.size : Int) := by omega
    have hl : s.data.toList.length = s.size := by simp
    have hsq := Lex.scan_quote s.data.toList (by omega)
    have hql := Lex.quoteS_len s.data.toList
    obtain ⟨Q, hQ⟩ : ∃ Q : ByteArray, Q = ⟨(Lex.quoteS s.data.toList).toArray⟩ := ⟨_, rfl⟩
    have hQd : Q.data.toList = Lex.quoteS s.data.toList := by rw [hQ]
    have hQs : Q.size = (Lex.quoteS s.data.toList).length := by rw [hQ]; simp [ByteArray.size]
    have hQz : Q.size ≤ 802 := by omega
    rw [← hQs, ← hQd, hl] at hsq
    have HQ := hid hQ
    clear hql hQd hQs hQ
    by_cases h0 : s.size = 0
    · have hn : s.data.toList = [] := List.eq_nil_of_length_eq_zero (by omega)
      rw [if_pos hn] at hsq
      have Hsc := hid hsq
      have e1 : s.toList.isEmpty = true := by rw [Lib.toList_data, hn]; rfl
      have e1' : s.toList = [] := by rw [Lib.toList_data, hn]
      clear hsq hn hl h0
      go_enter Try.func7, Try.ntmps7
      go_wp2_with (first | (go_at_call 9; refine (speaks_calls _).mono ?_; rintro e w1 ⟨rfl, hb1⟩) | (go_at_call 14; refine (quote_calls s _ (by omega)).mono ?_; rintro e w2 ⟨rfl, hb2⟩; rw [← HQ.out]))
      refine (scan_at Hsc.out (scan_calls Q _ (by omega))).mono ?_
      rintro e w3 ⟨rfl, hb3⟩
      go_wp2_with fail
      have k1 := fault_new w3 1 1 2
      have hbA : Below w.heap.size w (w3.alloc (.cells #[.int .i64 1, .int .i64 1, .int .i64 2] 27)) := ((hb1.trans (hb2.mono hb1.size)).trans (hb3.mono (Nat.le_trans hb1.size hb2.size))).alloc (Nat.le_trans (Nat.le_trans hb1.size hb2.size) hb3.size) _
      obtain ⟨wA, hwA⟩ : ∃ wA, wA = w3.alloc (.cells #[.int .i64 1, .int .i64 1, .int .i64 2] 27) := ⟨_, rfl⟩
      obtain ⟨bf, hbf⟩ : ∃ bf, bf = w3.heap.size := ⟨_, rfl⟩
      rw [← hwA, ← hbf] at k1
      rw [← hwA] at hbA
      rw [← hwA, ← hbf]
      clear hwA hbf
      refine (rquote_calls s _ (by omega)).mono ?_
      rintro e w4 ⟨rfl, hb4⟩
      rw [← HQ.out]
      have k4 := k1.below hb4 k1.lt
      have c0 : w4.cell? ⟨bf, 0, none⟩ = some (.int .i64 1) := k4.cell 0
      have c1 : w4.cell? ⟨bf, 1, none⟩ = some (.int .i64 1) := k4.cell 1
      have c2 : w4.cell? ⟨bf, 2, none⟩ = some (.int .i64 2) := k4.cell 2
      go_wp2_with fail
      go_ret
      exact ⟨rfl, hbA.trans (hb4.mono hbA.size)⟩
    · have hn : s.data.toList ≠ [] := fun e => by rw [e] at hl; exact h0 hl.symm
      rw [if_neg hn] at hsq
      have e1 : s.toList.isEmpty = false := by
        rw [Lib.toList_data]
        cases hh : s.data.toList with
        | nil => exact absurd hh hn
        | cons => rfl
      by_cases h16 : 16 < s.size
      · rw [if_pos h16] at hsq
        have Hsc := hid hsq
        have h16' : (16 : Int) < (s.size : Int) := by omega
        clear hsq hn hl h0 h16
        go_enter Try.func7, Try.ntmps7
        go_wp2_with (first | (go_at_call 9; refine (speaks_calls _).mono ?_; rintro e w1 ⟨rfl, hb1⟩) | (go_at_call 14; refine (quote_calls s _ (by omega)).mono ?_; rintro e w2 ⟨rfl, hb2⟩; rw [← HQ.out]))
        refine (scan_at Hsc.out (scan_calls Q _ (by omega))).mono ?_
        rintro e w3 ⟨rfl, hb3⟩
        go_wp2_with fail
        have k1 := fault_new w3 1 1 6
        have hbA : Below w.heap.size w (w3.alloc (.cells #[.int .i64 1, .int .i64 1, .int .i64 6] 27)) := ((hb1.trans (hb2.mono hb1.size)).trans (hb3.mono (Nat.le_trans hb1.size hb2.size))).alloc (Nat.le_trans (Nat.le_trans hb1.size hb2.size) hb3.size) _
        obtain ⟨wA, hwA⟩ : ∃ wA, wA = w3.alloc (.cells #[.int .i64 1, .int .i64 1, .int .i64 6] 27) := ⟨_, rfl⟩
        obtain ⟨bf, hbf⟩ : ∃ bf, bf = w3.heap.size := ⟨_, rfl⟩
        rw [← hwA, ← hbf] at k1
        rw [← hwA] at hbA
        rw [← hwA, ← hbf]
        clear hwA hbf
        refine (rquote_calls s _ (by omega)).mono ?_
        rintro e w4 ⟨rfl, hb4⟩
        rw [← HQ.out]
        have k4 := k1.below hb4 k1.lt
        have c0 : w4.cell? ⟨bf, 0, none⟩ = some (.int .i64 1) := k4.cell 0
        have c1 : w4.cell? ⟨bf, 1, none⟩ = some (.int .i64 1) := k4.cell 1
        have c2 : w4.cell? ⟨bf, 2, none⟩ = some (.int .i64 6) := k4.cell 2
        go_wp2_with fail
        go_ret
        exact ⟨rfl, hbA.trans (hb4.mono hbA.size)⟩
      · rw [if_neg h16] at hsq
        have Hsc := hid hsq
        have h16' : ¬ (16 : Int) < (s.size : Int) := by omega
        clear hsq hn hl h0 h16
        go_enter Try.func7, Try.ntmps7
        go_wp2_with (first | (go_at_call 9; refine (speaks_calls _).mono ?_; rintro e w1 ⟨rfl, hb1⟩) | (go_at_call 14; refine (quote_calls s _ (by omega)).mono ?_; rintro e w2 ⟨rfl, hb2⟩; rw [← HQ.out]))
        refine (scan_at Hsc.out (scan_calls Q _ (by omega))).mono ?_
        rintro e w3 ⟨v, rfl, hown, hb3⟩
        obtain ⟨g3, cap3, rfl, -, hg3⟩ := hown.form (by simp)
        go_wp2_with fail
        have k1 := fault_new w3 0 0 0
        have o1 := hown.alloc (.cells #[.int .i64 0, .int .i64 0, .int .i64 0] 27)
        have hbA : Below w.heap.size w (w3.alloc (.cells #[.int .i64 0, .int .i64 0, .int .i64 0] 27)) := ((hb1.trans (hb2.mono hb1.size)).trans (hb3.mono (Nat.le_trans hb1.size hb2.size))).alloc (Nat.le_trans (Nat.le_trans hb1.size hb2.size) hb3.size) _
        obtain ⟨wA, hwA⟩ : ∃ wA, wA = w3.alloc (.cells #[.int .i64 0, .int .i64 0, .int .i64 0] 27) := ⟨_, rfl⟩
        obtain ⟨bf, hbf⟩ : ∃ bf, bf = w3.heap.size := ⟨_, rfl⟩
        rw [← hwA, ← hbf] at k1
        rw [← hwA] at hbA o1
        rw [← hwA, ← hbf]
        clear hwA hbf hown hg3
        refine (rquote_calls s _ (by omega)).mono ?_
        rintro e w4 ⟨rfl, hb4⟩
        rw [← HQ.out]
        have k4 := k1.below hb4 k1.lt
        have o4 := own_below o1 hb4
        have c0 : w4.cell? ⟨bf, 0, none⟩ = some (.int .i64 0) := k4.cell 0
        have c1 : w4.cell? ⟨bf, 1, none⟩ = some (.int .i64 0) := k4.cell 1
        have c2 : w4.cell? ⟨bf, 2, none⟩ = some (.int .i64 0) := k4.cell 2
        have x0 : w4.cell? ⟨g3, 0, none⟩ = some (.int .i64 2) := own_cells o4 0 _ rfl
        have x1 : w4.cell? ⟨g3, 1, none⟩ = some (.string s) := (own_cells o4 1 _ rfl).trans (by rw [Lib.mk_data])
        have x7 : w4.cell? ⟨g3, 7, none⟩ = some (.int .i64 (1 + Q.size : Nat)) := own_cells o4 7 _ rfl
        have hz : (((1 + Q.size : Nat) : Int) == (Q.size : Int) + 1) = true := by simp; omega
        obtain ⟨n, hn⟩ : ∃ n : Int, n = ((1 + Q.size : Nat) : Int) := ⟨_, rfl⟩
        have hn' : n = (Q.size : Int) + 1 := by omega
        rw [← hn] at x7
        rw [hn'] at x7
        clear hz hn hn'
        go_wp2_with fail
        go_ret
        exact ⟨rfl, hbA.trans (hb4.mono hbA.size)⟩
end Go.Proofs.Ytjhhibnjegnpmaa
