/- Chapter 15 (least): right, end. -/
import Derived.Test.YtbpgolmbielpgaaLeast4
import Derived.Test.YtbpgolmbielpgaaLeastLaw3
namespace Go.Proofs.Ytbpgolmbielpgaa
open Go.RowKit
attribute [local go_sem ↓] Go.wp_at_zero Go.wp_at_succ
attribute [local go_sem] frozen_alloc_lt

theorem bel0 {a b c : World} (h : Below a.heap.size a b) (k : Below b.heap.size b c) : Below a.heap.size a c := h.trans (k.mono h.size)
namespace Le
/-- A terminal that a grammar of t terminals has not. -/
def badT (t : Nat) (s : Int) : Bool := decide (s < 0) || decide ((t : Int) ≤ s)
def rightB (G : Gr) (word : List Int) : Bool := Pl.soundB G && decide (word.length ≤ 64) && !word.any (badT G.terms.length)
end Le

set_option maxHeartbeats 1000000 in
theorem badT_calls (w : World) (b : Nat) (t : Nat) (gt : Option Addr) (ct : Nat) (z : Int) (ht : w.cell? ⟨b, 3, none⟩ = some (.slice gt t ct)) :
    Calls Try.prog 70 #[.int .i64 z, .pointer (some ⟨b, 0, none⟩)] w fun e w' => e = .returned (.bool (Le.badT t z)) ∧ w = w' := by
  by_cases c1 : z < 0
  · have e1 : Le.badT t z = true := by simp [Le.badT, c1]
    have E1 := hid e1
    clear e1
    go_enter Try.func70, Try.ntmps70
    go_wp2_with fail
    all_goals go_ret
    all_goals (rw [E1.out]; exact ⟨rfl, rfl⟩)
  · by_cases c2 : (t : Int) ≤ z
    · have e1 : Le.badT t z = true := by simp [Le.badT, c2]
      have E1 := hid e1
      clear e1
      go_enter Try.func70, Try.ntmps70
      go_wp2_with fail
      all_goals go_ret
      all_goals (rw [E1.out]; exact ⟨rfl, rfl⟩)
    · have e1 : Le.badT t z = false := by simp [Le.badT]; omega
      have E1 := hid e1
      clear e1
      go_enter Try.func70, Try.ntmps70
      go_wp2_with fail
      all_goals go_ret
      all_goals (rw [E1.out]; exact ⟨rfl, rfl⟩)

set_option maxHeartbeats 2000000 in
theorem lright_calls (w : World) (G : Gr) (gn gt gp : Option Addr) (cn ct cp : Nat) (h : GIn w G gn gt gp) (gw : Option Addr) (cw : Nat) (word : List Int) (hw : RowI w w.heap.size gw word) (hwl : word.length ≤ 9223372036854775807) :
    Calls Try.prog 51 #[gramV G gn gt gp cn ct cp, .slice gw word.length cw] w fun e w' => e = .returned (.bool (Le.rightB G word)) ∧ Below w.heap.size w w' := by
  have hk := Bk.new w 41 [.int .i64 G.start, .int .i64 G.rules, .slice gn G.names.length cn, .slice gt G.terms.length ct, .slice gp G.prods.length cp]
  have hb0 : Below w.heap.size w (w.alloc (.cells #[.int .i64 G.start, .int .i64 G.rules, .slice gn G.names.length cn, .slice gt G.terms.length ct, .slice gp G.prods.length cp] 41)) := (Below.refl _ _).alloc (Nat.le_refl _) _
  obtain ⟨res, hres⟩ : ∃ res, res = Le.rightB G word := ⟨_, rfl⟩
  rw [← hres]
  have Hres := hid hres
  have H := hid h
  unfold gramV
  clear hres h
  go_enter Try.func51, Try.ntmps51
  go_upto_region 1 with fail
  obtain ⟨wd, hwd⟩ : ∃ wd, wd = (w.alloc (.cells #[.int .i64 G.start, .int .i64 G.rules, .slice gn G.names.length cn, .slice gt G.terms.length ct, .slice gp G.prods.length cp] 41)) := ⟨_, rfl⟩
  obtain ⟨b, hb⟩ : ∃ b, b = w.heap.size := ⟨_, rfl⟩
  have h2 := H.out.later (w' := wd) (by rw [hwd]; exact hb0)
  have hw2 := (hw.below hb0).mono hb0.size
  rw [← hwd] at hk hb0 hw2
  rw [← hwd]
  rw [← hb] at hk
  rw [← hb]
  clear hwd hb hw
  have g0 := hk.cell 0
  have g1 := hk.cell 1
  have g2 := hk.cell 2
  have g3 := hk.cell 3
  have g4 := hk.cell 4
  simp only [List.getElem?_cons_zero, List.getElem?_cons_succ] at g0 g1 g2 g3 g4
  obtain ⟨nb, hnb⟩ : ∃ nb, nb = Pl.soundB G := ⟨_, rfl⟩
  have Hnb := hid hnb
  have H2 := hid h2
  clear hnb h2
  cases nb with
  | false =>
    have e : res = false := by rw [Hres.out, Le.rightB, ← Hnb.out]; simp
    have E := hid e
    clear e
    go_wp2_with (go_at_call 55; refine (sound_calls wd G gn gt gp cn ct cp H2.out.n H2.out.t H2.out.p H2.out.h1 H2.out.h2 H2.out.h3 H2.out.h4).mono ?_; rintro e w1 ⟨rfl, hb1⟩; rw [← Hnb.out])
    go_ret
    exact ⟨by rw [E.out]; rfl, bel0 hb0 hb1⟩
  | true =>
    by_cases hl : 64 < word.length
    · have e : res = false := by rw [Hres.out, Le.rightB, show decide (word.length ≤ 64) = false by simp; omega]; simp
      have hl' : (64 : Int) < (word.length : Int) := by omega
      have E := hid e
      clear e
      go_wp2_with (go_at_call 55; refine (sound_calls wd G gn gt gp cn ct cp H2.out.n H2.out.t H2.out.p H2.out.h1 H2.out.h2 H2.out.h3 H2.out.h4).mono ?_; rintro e w1 ⟨rfl, hb1⟩; rw [← Hnb.out])
      go_ret
      exact ⟨by rw [E.out]; rfl, bel0 hb0 hb1⟩
    · have e : (!word.any (Le.badT G.terms.length)) = res := by rw [Hres.out, Le.rightB, ← Hnb.out, show decide (word.length ≤ 64) = true by simp; omega]; simp
      have hl' : ¬ (64 : Int) < (word.length : Int) := by omega
      have E := hid e
      clear e
      have Heg := hid (fun (args : Array Value) (w : World) => show (callFunc 70 args).run Try.prog w = .ok (.enter 70 args) w by kernel_rfl)
      cases hany : word.any (Le.badT G.terms.length) with
      | true =>
        have Hany := hid hany
        clear hany
        go_wp2_with (first
          | (go_at_call 55; refine (sound_calls wd G gn gt gp cn ct cp H2.out.n H2.out.t H2.out.p H2.out.h1 H2.out.h2 H2.out.h3 H2.out.h4).mono ?_; rintro e w1 ⟨rfl, hb1⟩; rw [← Hnb.out]; have hw3 := (hw2.below hb1).mono hb1.size; have g3' := (hk.below hb1 hk.lt).cell 3; simp only [List.getElem?_cons_zero, List.getElem?_cons_succ] at g3')
          | (go_at_call 60; refine (containsFunc_calls w1 gw cw word 70 (.pointer (some ⟨b, 0, none⟩)) (Le.badT G.terms.length) hw3 (by omega) Heg.out (fun z _ => badT_calls w1 b G.terms.length gt ct z g3')).mono ?_; rintro e w3 ⟨rfl, rfl⟩; rw [Hany.out]))
        go_ret
        exact ⟨by rw [← E.out, Hany.out]; rfl, bel0 hb0 hb1⟩
      | false =>
        have Hany := hid hany
        clear hany
        go_wp2_with (first
          | (go_at_call 55; refine (sound_calls wd G gn gt gp cn ct cp H2.out.n H2.out.t H2.out.p H2.out.h1 H2.out.h2 H2.out.h3 H2.out.h4).mono ?_; rintro e w1 ⟨rfl, hb1⟩; rw [← Hnb.out]; have hw3 := (hw2.below hb1).mono hb1.size; have g3' := (hk.below hb1 hk.lt).cell 3; simp only [List.getElem?_cons_zero, List.getElem?_cons_succ] at g3')
          | (go_at_call 60; refine (containsFunc_calls w1 gw cw word 70 (.pointer (some ⟨b, 0, none⟩)) (Le.badT G.terms.length) hw3 (by omega) Heg.out (fun z _ => badT_calls w1 b G.terms.length gt ct z g3')).mono ?_; rintro e w3 ⟨rfl, rfl⟩; rw [Hany.out]))
        go_ret
        exact ⟨by rw [← E.out, Hany.out]; rfl, bel0 hb0 hb1⟩

def EndAt (w0 : World) (i j k : Nat) (v : Value) (w : World) : Prop := ∃ q : Nat, v = .int .i64 q ∧ i ≤ q ∧ q ≤ j ∧ k = j - q ∧ w = w0

set_option maxHeartbeats 2000000 in
theorem end_calls {w : World} {V : GV} {bt bn n cb : Nat} {gw : Option Addr} {cw : Nat} {word : List Int} {R : Nat → Nat} {C : Nat → Nat → Nat} {N : Nat → Nat → Nat → Int} (h : Tab w V bt bn n cb gw cw word R C N) (hw : RowI w w.heap.size gw word) (hl : word.length ≤ 64)
    (hN : ∀ a i j, -1 ≤ N a i j ∧ N a i j ≤ Le.cap) (s : Int) (hs : s < n) (hs0 : -65536 ≤ s) (i j tt : Nat) (hij : i ≤ j) (hj : j ≤ tt) (hto : tt ≤ word.length) (m : Int) (g : Nat) (row : List Int) (hrow : Bk w g 3 (row.map (Value.int .i64))) (hrl : row.length = tt + 1)
    (hrr : ∀ q, i ≤ q → q ≤ tt → -1 ≤ row.getD q 0 ∧ row.getD q 0 ≤ Le.cap) (hje : Le.EndIs (Le.ofT N word s i) (fun j => row.getD j 0) m j) (hlt : ∀ q, i ≤ q → q < j → ¬ Le.EndIs (Le.ofT N word s i) (fun j => row.getD j 0) m q) :
    Calls Try.prog 73 #[.pointer (some ⟨bt, 0, none⟩), .int .i64 s, .int .i64 i, .int .i64 m, .slice (some ⟨g, 0, none⟩) (tt + 1) (tt + 1)] w fun e w' => e = .returned (.int .i64 j) ∧ w' = w := by
  have H := hid h
  have Hw := hid hw
  have HN := hid hN
  have Hrow := hid hrow
  have Hrl := hid hrl
  have Hrr := hid hrr
  have Hje := hid hje
  have Hlt := hid hlt
  clear h hw hN hrow hrr hje hlt hrl
  go_enter Try.func73, Try.ntmps73
  go_wp2_with fail
  go_loopg [11] (j - i) (fun k v wq => EndAt w i j k v wq)
  case atStart => exact ⟨i, rfl, Nat.le_refl _, hij, rfl, rfl⟩
  case round =>
    obtain ⟨q, rfl, hq0, hq, hk, rfl⟩ := hrel
    have Hk := hid hk
    clear hk
    have hqt : (q : Int) < ((tt + 1 : Nat) : Int) := by omega
    have hqt2 : (q : Int) < (tt : Int) + 1 := by omega
    have hq00 : (0 : Int) ≤ (q : Int) := by omega
    have hc := Hrow.out.cell q
    rw [List.getElem?_map, List.getElem?_eq_getElem (by have := Hrl.out; omega)] at hc
    have hgd : row.getD q 0 = row[q]'(by have := Hrl.out; omega) := by simp [List.getD, List.getElem?_eq_getElem (show q < row.length by have := Hrl.out; omega)]
    have hrq := Hrr.out q hq0 (by omega)
    simp only [Option.map_some] at hc
    rw [← hgd] at hc
    have hof := of_calls H.out Hw.out hl s i q hs hs0 (by omega) (by omega)
    have hor := Le.of_range (word := word) HN.out s i q
    have hend : q = j → Le.EndIs (Le.ofT N word s i) (fun j => row.getD j 0) m q := fun e => by subst e; exact Hje.out
    have hnot : q < j → ¬ Le.EndIs (Le.ofT N word s i) (fun j => row.getD j 0) m q := fun e => Hlt.out q hq0 e
    unfold Le.EndIs at hend hnot
    simp only at hend hnot
    obtain ⟨own, hown⟩ : ∃ own, own = Le.ofT N word s i q := ⟨_, rfl⟩
    obtain ⟨rest, hrest⟩ : ∃ rest, rest = row.getD q 0 := ⟨_, rfl⟩
    rw [← hown] at hof hor hend hnot
    rw [← hrest] at hc hrq hend hnot
    unfold Le.cap at hor hrq
    have Hof := hid hof
    have Hend := hid hend
    have Hnot := hid hnot
    clear hof hend hnot hown hrest hgd
    by_cases c1 : own = -1
    · have hqj : q < j := by
        rcases Nat.lt_or_ge q j with h1 | h1
        · exact h1
        · exact absurd c1 (Hend.out (by omega)).1
      have c1b : (own != -1) = false := by simp [c1]
      go_wp2_with (go_at_call 53; refine Hof.out.mono ?_; rintro e w3 ⟨rfl, rfl⟩)
      go_roundg (j - (q + 1))
      case measure => have hk := Hk.out; omega
      case rel => exact ⟨q + 1, by go_num, by omega, by omega, rfl, rfl⟩
    · by_cases c2 : rest = -1
      · have hqj : q < j := by
          rcases Nat.lt_or_ge q j with h1 | h1
          · exact h1
          · exact absurd c2 (Hend.out (by omega)).2.1
        have c1b : (own != -1) = true := by simp [c1]
        have c2b : (rest != -1) = false := by simp [c2]
        go_wp2_with (go_at_call 53; refine Hof.out.mono ?_; rintro e w3 ⟨rfl, rfl⟩)
        go_roundg (j - (q + 1))
        case measure => have hk := Hk.out; omega
        case rel => exact ⟨q + 1, by go_num, by omega, by omega, rfl, rfl⟩
      · have c1b : (own != -1) = true := by simp [c1]
        have c2b : (rest != -1) = true := by simp [c2]
        have hwr : IntKind.i64.wrap (own + rest) = own + rest := by rw [IntKind.wrap_i64] <;> omega
        by_cases c3 : own + rest = m
        · have hqj : q = j := by
            rcases Nat.lt_or_ge q j with h1 | h1
            · exact absurd ⟨c1, c2, c3⟩ (Hnot.out h1)
            · omega
          have c3b : (own + rest == m) = true := by simp [c3]
          have Hqj := hid hqj
          clear hqj
          go_wp2_with (go_at_call 53; refine Hof.out.mono ?_; rintro e w3 ⟨rfl, rfl⟩)
          go_ret
          exact ⟨by rw [Hqj.out]; rfl, rfl⟩
        · have hqj : q < j := by
            rcases Nat.lt_or_ge q j with h1 | h1
            · exact h1
            · exact absurd (Hend.out (by omega)).2.2 c3
          have c3b : (own + rest == m) = false := by simp [c3]
          go_wp2_with (go_at_call 53; refine Hof.out.mono ?_; rintro e w3 ⟨rfl, rfl⟩)
          go_roundg (j - (q + 1))
          case measure => have hk := Hk.out; omega
          case rel => exact ⟨q + 1, by go_num, by omega, by omega, rfl, rfl⟩
end Go.Proofs.Ytbpgolmbielpgaa
