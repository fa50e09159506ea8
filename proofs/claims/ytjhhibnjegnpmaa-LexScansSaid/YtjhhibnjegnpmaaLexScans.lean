/- Chapter 4 (lex): LexScans: the tokens, or the fault, are the document's. -/
import Derived.Test.YtjhhibnjegnpmaaLexJoins
import Derived.Test.YtjhhibnjegnpmaaLexRef3
namespace Go.Proofs.Ytjhhibnjegnpmaa
open Go.RowKit
attribute [local go_sem ↓] Go.wp_at_zero Go.wp_at_succ
attribute [local go_sem] frozen_alloc_lt

theorem rscan_at {P : Program} {f : FuncId} {args : Array Value} {w w0 : World} {r r' : Lex.ScanRes} (h : r = r')
    (hc : Calls P f args w fun e w' => RScanPost w0 e w' r) : Calls P f args w fun e w' => RScanPost w0 e w' r' := h ▸ hc

theorem own_rtok {w : World} {base n cap g i : Nat} {L : List Lex.Tok} {t : Lex.Tok} (h : w.ownsRow base 44 4 (.slice (some ⟨g, 0, none⟩) n cap) n (toksV L)) (hi : L[i]? = some t) :
    w.cell? ⟨g, i * 4, none⟩ = some (.int .i64 t.kind) ∧ w.cell? ⟨g, i * 4 + 1, none⟩ = some (.string ⟨t.text.toArray⟩) ∧ w.cell? ⟨g, i * 4 + 2, none⟩ = some (.int .i64 t.line) ∧ w.cell? ⟨g, i * 4 + 3, none⟩ = some (.int .i64 t.col) :=
  ⟨own_cells h (i * 4 + 0) _ (by rw [toksV_get L i t 0 hi (by omega)]; rfl), own_cells h (i * 4 + 1) _ (by rw [toksV_get L i t 1 hi (by omega)]; rfl),
    own_cells h (i * 4 + 2) _ (by rw [toksV_get L i t 2 hi (by omega)]; rfl), own_cells h (i * 4 + 3) _ (by rw [toksV_get L i t 3 hi (by omega)]; rfl)⟩

set_option maxHeartbeats 4000000 in
theorem same_calls (s : ByteArray) (w : World) (hs : s.size ≤ 65536) :
    Calls Try.prog 10 #[.string s] w fun e w' => e = .returned (.bool true) ∧ Below w.heap.size w w' := by
  generalize hsr : Lex.scan s.data.toList = sr
  have Hsc := hid hsr
  have hlen : ∀ l, sr = .good l → 1 ≤ l.length ∧ l.length ≤ 65537 := fun l e => by
    have := Lex.scan_len (hsr.trans e)
    have hz : s.data.toList.length = s.size := by simp
    omega
  have Hlen := hid hlen
  clear hsr hlen
  go_enter Try.func10, Try.ntmps10
  go_wp2_with fail
  cases sr with
  | bad f =>
    refine (scan_at Hsc.out (scan_calls s _ (by omega))).mono ?_
    rintro e w1 ⟨rfl, hb1⟩
    go_wp2_with fail
    have k1 := fault_new w1 f.line f.col f.code
    have hbA : Below w.heap.size w (w1.alloc (.cells #[.int .i64 f.line, .int .i64 f.col, .int .i64 f.code] 27)) := hb1.alloc hb1.size _
    obtain ⟨wA, hwA⟩ : ∃ wA, wA = w1.alloc (.cells #[.int .i64 f.line, .int .i64 f.col, .int .i64 f.code] 27) := ⟨_, rfl⟩
    obtain ⟨bf, hbf⟩ : ∃ bf, bf = w1.heap.size := ⟨_, rfl⟩
    rw [← hwA, ← hbf] at k1
    rw [← hwA] at hbA
    rw [← hwA, ← hbf]
    clear hwA hbf
    refine (rscan_at Hsc.out (rscan_calls s _ hs)).mono ?_
    rintro e w2 ⟨rfl, hb2⟩
    have k2 := k1.below hb2 k1.lt
    have c0 : w2.cell? ⟨bf, 0, none⟩ = some (.int .i64 f.line) := k2.cell 0
    have c1 : w2.cell? ⟨bf, 1, none⟩ = some (.int .i64 f.col) := k2.cell 1
    have c2 : w2.cell? ⟨bf, 2, none⟩ = some (.int .i64 f.code) := k2.cell 2
    have lb : bf < w2.heap.size := k2.lt
    go_wp2_with fail
    go_loopg [7] 0 (fun k i wr => i = .int .i64 0 ∧ wr = w2.alloc (.cells #[.int .i64 f.line, .int .i64 f.col, .int .i64 f.code] 41))
    case atStart => exact ⟨rfl, rfl⟩
    case round =>
      obtain ⟨rfl, rfl⟩ := hrel
      go_wp2_with fail
      go_ret
      exact ⟨rfl, (hbA.trans (hb2.mono hbA.size)).alloc (Nat.le_trans hbA.size hb2.size) _⟩
  | good l =>
    obtain ⟨hl1, hl2⟩ := Hlen.out l rfl
    refine (scan_at Hsc.out (scan_calls s _ (by omega))).mono ?_
    rintro e w1 ⟨v, rfl, hown, hb1⟩
    obtain ⟨g1, cap1, rfl, -, hg1⟩ := hown.form (by omega)
    go_wp2_with fail
    have k1 := fault_new w1 0 0 0
    have o1 := hown.alloc (.cells #[.int .i64 0, .int .i64 0, .int .i64 0] 27)
    have hbA : Below w.heap.size w (w1.alloc (.cells #[.int .i64 0, .int .i64 0, .int .i64 0] 27)) := hb1.alloc hb1.size _
    obtain ⟨wA, hwA⟩ : ∃ wA, wA = w1.alloc (.cells #[.int .i64 0, .int .i64 0, .int .i64 0] 27) := ⟨_, rfl⟩
    obtain ⟨bf, hbf⟩ : ∃ bf, bf = w1.heap.size := ⟨_, rfl⟩
    rw [← hwA, ← hbf] at k1
    rw [← hwA] at hbA o1
    rw [← hwA, ← hbf]
    clear hwA hbf hown hg1
    refine (rscan_at Hsc.out (rscan_calls s _ hs)).mono ?_
    rintro e w2 ⟨v, rfl, hown2, hb2⟩
    obtain ⟨g2, cap2, rfl, -, -⟩ := hown2.form (by omega)
    have k2 := k1.below hb2 k1.lt
    have o1' := own_below o1 hb2
    have c0 : w2.cell? ⟨bf, 0, none⟩ = some (.int .i64 0) := k2.cell 0
    have c1 : w2.cell? ⟨bf, 1, none⟩ = some (.int .i64 0) := k2.cell 1
    have c2 : w2.cell? ⟨bf, 2, none⟩ = some (.int .i64 0) := k2.cell 2
    have lb : bf < w2.heap.size := k2.lt
    have hnN : (l.length : Int) ≤ 65537 := by omega
    go_wp2_with fail
    have hbB : Below w.heap.size w (w2.alloc (.cells #[.int .i64 0, .int .i64 0, .int .i64 0] 41)) := (hbA.trans (hb2.mono hbA.size)).alloc (Nat.le_trans hbA.size hb2.size) _
    have p1 := o1'.alloc (.cells #[.int .i64 0, .int .i64 0, .int .i64 0] 41)
    have p2 := hown2.alloc (.cells #[.int .i64 0, .int .i64 0, .int .i64 0] 41)
    obtain ⟨wC, hwC⟩ : ∃ wC, wC = w2.alloc (.cells #[.int .i64 0, .int .i64 0, .int .i64 0] 41) := ⟨_, rfl⟩
    rw [← hwC] at hbB p1 p2
    obtain ⟨bg, hbg⟩ : ∃ bg, bg = w2.heap.size := ⟨_, rfl⟩
    rw [← hwC, ← hbg]
    clear hwC hbg o1' hown2 k1 k2 c0 c1 c2 lb o1 hb1 hb2 hbA
    go_loopg [7] l.length (fun k i wr => ∃ j n : Nat, i = .int .i64 j ∧ j ≤ l.length ∧ k = l.length - j ∧ wr = wC.drewN n)
    case atStart => exact ⟨0, 0, rfl, by omega, rfl, rfl⟩
    case round =>
      obtain ⟨j, n, rfl, hj, hk, rfl⟩ := hrel
      have Hk := hid hk
      clear hk
      by_cases hlt : j < l.length
      · have hlt' : (j : Int) < (l.length : Int) := by omega
        obtain ⟨t, ht⟩ : ∃ t, l[j]? = some t := ⟨l[j], by simp [hlt]⟩
        obtain ⟨x0, x1, x2, x3⟩ := own_tok p1 ht
        obtain ⟨y0, y1, y2, y3⟩ := own_rtok p2 ht
        clear ht
        go_wp2_with fail
        go_quiet (fail)
        go_wp2_with fail
        go_roundg (l.length - (j + 1))
        case measure => have hk := Hk.out; omega
        case rel => exact ⟨j + 1, _, by go_num, by omega, rfl, rfl⟩
      · have hge : ¬ (j : Int) < (l.length : Int) := by omega
        go_wp2_with fail
        go_ret
        exact ⟨rfl, below_drewN hbB _⟩

set_option maxHeartbeats 2000000 in
theorem scans_calls (s : ByteArray) (w : World) (hs : s.size ≤ 9223372036854775807) :
    Calls Try.prog 3 #[.string s] w fun e w' => e = .returned (.bool true) ∧ Below w.heap.size w w' := by
  by_cases h : 2000 < s.size
  · have h' : (2000 : Int) < (s.size : Int) := by omega
    go_enter Try.func3, Try.ntmps3
    go_wp2_with (go_at_call 9; refine (speaks_calls _).mono ?_; rintro e w1 ⟨rfl, hb1⟩)
    go_ret
    exact ⟨rfl, hb1⟩
  · have h' : ¬ (2000 : Int) < (s.size : Int) := by omega
    go_enter Try.func3, Try.ntmps3
    go_wp2_with (first | (go_at_call 9; refine (speaks_calls _).mono ?_; rintro e w1 ⟨rfl, hb1⟩) | (go_at_call 10; refine (same_calls s _ (by omega)).mono ?_; rintro e w2 ⟨rfl, hb2⟩))
    go_ret
    exact ⟨rfl, hb1.trans (hb2.mono hb1.size)⟩
end Go.Proofs.Ytjhhibnjegnpmaa
