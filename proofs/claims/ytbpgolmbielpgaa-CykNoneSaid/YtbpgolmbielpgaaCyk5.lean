/- Chapter 13 (cyk): Yes, Ambiguous, Cell; of no chart; the document's Times. -/
import Derived.Test.YtbpgolmbielpgaaCyk4
namespace Go.Proofs.Ytbpgolmbielpgaa
open Go.RowKit
attribute [local go_sem ↓] Go.wp_at_zero Go.wp_at_succ
attribute [local go_sem] frozen_alloc_lt

section
variable {w : World} {b bc n : Nat} {st cnt te : Int} {em : Bool} {gp : Option Addr} {lp cp : Nat} {ms : List Value} {T : Nat → Int → Int}
theorem yes_calls (h : Chart w b bc n st cnt te em gp lp cp ms T) (hn : n ≤ 64) (h0 : -9223372036854775808 ≤ st) (h1 : st ≤ 9223372036854775807) :
    Calls Try.prog 22 #[.pointer (some ⟨b, 0, none⟩)] w fun e w' => e = .returned (.bool (decide (0 < treesT n st em T))) ∧ Below w.heap.size w w' := by
  have H := hid (trees_calls h hn h0 h1)
  clear h
  go_enter Try.func22, Try.ntmps22
  go_wp2_with (go_at_call 18; refine (H.out).mono ?_; rintro e w1 ⟨rfl, hb⟩)
  go_ret
  exact ⟨rfl, hb⟩
theorem amb_calls (h : Chart w b bc n st cnt te em gp lp cp ms T) (hn : n ≤ 64) (h0 : -9223372036854775808 ≤ st) (h1 : st ≤ 9223372036854775807) :
    Calls Try.prog 19 #[.pointer (some ⟨b, 0, none⟩)] w fun e w' => e = .returned (.bool (decide (1 < treesT n st em T))) ∧ Below w.heap.size w w' := by
  have H := hid (trees_calls h hn h0 h1)
  clear h
  go_enter Try.func19, Try.ntmps19
  go_wp2_with (go_at_call 18; refine (H.out).mono ?_; rintro e w1 ⟨rfl, hb⟩)
  go_ret
  exact ⟨rfl, hb⟩
end
section
variable (w : World)
theorem trees_nil : Calls Try.prog 18 #[.pointer none] w fun e w' => e = .returned (.int .i64 0) ∧ w' = w := by
  go_enter Try.func18, Try.ntmps18
  go_wp2_with fail
  go_ret
  exact ⟨rfl, rfl⟩
theorem yes_nil : Calls Try.prog 22 #[.pointer none] w fun e w' => e = .returned (.bool false) ∧ w' = w := by
  go_enter Try.func22, Try.ntmps22
  go_wp2_with (go_at_call 18; refine (trees_nil _).mono ?_; rintro e w1 ⟨rfl, rfl⟩)
  go_ret
  exact ⟨rfl, rfl⟩
theorem amb_nil : Calls Try.prog 19 #[.pointer none] w fun e w' => e = .returned (.bool false) ∧ w' = w := by
  go_enter Try.func19, Try.ntmps19
  go_wp2_with (go_at_call 18; refine (trees_nil _).mono ?_; rintro e w1 ⟨rfl, rfl⟩)
  go_ret
  exact ⟨rfl, rfl⟩
theorem has_nil (a x y : Int) : Calls Try.prog 20 #[.pointer none, .int .i64 a, .int .i64 x, .int .i64 y] w fun e w' => e = .returned (.bool false) ∧ w' = w := by
  go_enter Try.func20, Try.ntmps20
  go_wp2_with (go_at_call 49; refine (at_nil _ x y).mono ?_; rintro e w1 ⟨rfl, rfl⟩)
  go_ret
  exact ⟨rfl, rfl⟩
theorem cell_nil (x y : Int) : Calls Try.prog 21 #[.pointer none, .int .i64 x, .int .i64 y] w fun e w' => e = .returned (.slice none 0 0) ∧ w' = w := by
  go_enter Try.func21, Try.ntmps21
  go_wp2_with (go_at_call 49; refine (at_nil _ x y).mono ?_; rintro e w1 ⟨rfl, rfl⟩)
  go_ret
  exact ⟨rfl, rfl⟩
end
/-- The nonterminals below i that a cell holds. -/
def Ck.holds (t : Int → Int) (i : Nat) : List Int := ((List.range i).filter fun a => decide (0 < t (a : Nat))).map Int.ofNat
theorem Ck.holds_succ (t : Int → Int) (i : Nat) : Ck.holds t (i + 1) = if 0 < t (i : Nat) then Ck.holds t i ++ [(i : Int)] else Ck.holds t i := by
  unfold Ck.holds
  rw [List.range_succ, List.filter_append, List.map_append]
  split
  · simp [*]
  · simp [*]
theorem Ck.holds_le (t : Int → Int) : ∀ i, (Ck.holds t i).length ≤ i
  | 0 => by simp [Ck.holds]
  | i + 1 => by
    rw [Ck.holds_succ]
    have := Ck.holds_le t i
    split
    · simp; omega
    · omega
def CelAt (w0 : World) (c : Nat) (t : Int → Int) (k : Nat) (v9 v25 : Value) (w : World) : Prop := ∃ (i : Nat) (vr : Value), vr = v9 ∧ v25 = .int .i64 i ∧ i ≤ c ∧ w.ownsRow w0.heap.size 3 1 vr (Ck.holds t i).length ((Ck.holds t i).map (Value.int .i64)) ∧ k = c - i ∧ Below w0.heap.size w0 w
section
variable {w : World} {b bc n : Nat} {st te : Int} {em : Bool} {gp : Option Addr} {lp cp : Nat} {ms : List Value} {T : Nat → Int → Int}
theorem cell_no {cnt : Int} (h : Chart w b bc n st cnt te em gp lp cp ms T) (x y : Int) (hxy : ¬ (0 ≤ x ∧ x < y ∧ y ≤ n)) :
    Calls Try.prog 21 #[.pointer (some ⟨b, 0, none⟩), .int .i64 x, .int .i64 y] w fun e w' => e = .returned (.slice none 0 0) ∧ w' = w := by
  have c5 := h.k.cell 5
  unfold chartL at c5
  simp only [List.getElem?_cons_zero, List.getElem?_cons_succ] at c5
  have Hxy := hid hxy
  clear hxy
  go_enter Try.func21, Try.ntmps21
  go_wp2_with (go_at_call 49; refine (at_no _ b n x y c5 Hxy.out).mono ?_; rintro e w1 ⟨rfl, rfl⟩)
  go_ret
  exact ⟨rfl, rfl⟩
set_option maxHeartbeats 2000000 in
theorem cell_yes (c : Nat) (hc : c ≤ 1000000) (h : Chart w b bc n st c te em gp lp cp ms T) (hn : n ≤ 64) (i j : Nat) (hij : i < j) (hj : j ≤ n) :
    Calls Try.prog 21 #[.pointer (some ⟨b, 0, none⟩), .int .i64 i, .int .i64 j] w fun e w' => ∃ ga cap, e = .returned (.slice ga (Ck.holds (T (Ck.ix n i j)) c).length cap) ∧ RowI w' w'.heap.size ga (Ck.holds (T (Ck.ix n i j)) c) ∧ Below w.heap.size w w' := by
  obtain ⟨i3, hi3, z0, z1, z2⟩ := info_parts intInfo'
  have hix := h.lt hij hj
  have hil : Ck.ix n i j < ms.length := by rw [h.l]; exact hix
  have hcell := h.t _ _ (List.getElem?_eq_getElem hil)
  have c5 := h.k.cell 5
  have cm := h.c.cell (Ck.ix n i j)
  rw [List.getElem?_eq_getElem hil] at cm
  unfold chartL at c5
  simp only [List.getElem?_cons_zero, List.getElem?_cons_succ] at c5
  obtain ⟨t, ht⟩ : ∃ t, t = T (Ck.ix n i j) := ⟨_, rfl⟩
  obtain ⟨v, hv⟩ : ∃ v, v = ms[Ck.ix n i j] := ⟨_, rfl⟩
  obtain ⟨nn, hnn⟩ : ∃ nn, nn = n * n := ⟨_, rfl⟩
  rw [← hv] at cm hcell
  obtain ⟨x, hx⟩ : ∃ x, x = Ck.ix n i j := ⟨_, rfl⟩
  rw [← ht] at hcell ⊢
  rw [← hx] at cm
  rw [← hx, ← hnn] at hix
  have hx0 : (0 : Int) ≤ (x : Int) := by omega
  have hxn : (x : Int) < (nn : Int) := by omega
  have Hx := hid hx
  have Hcell := hid hcell
  have Hnn := hid hnn
  have H := hid h
  have c1 := h.k.cell 1
  unfold chartL at c1
  simp only [List.getElem?_cons_zero, List.getElem?_cons_succ] at c1
  clear hx hv ht hnn hil hix hcell h
  go_enter Try.func21, Try.ntmps21
  go_wp2_with (go_at_call 49; refine (at_yes _ b n i j c5 hij hj hn).mono ?_; rintro e w ⟨rfl, rfl⟩; rw [← Hx.out])
  clear c1
  go_loopg [9, 25] c (fun k v9 v25 wq => CelAt w c t k v9 v25 wq)
  case atStart => exact ⟨0, _, rfl, rfl, by omega, World.ownsRow_nil _ _ _ _, rfl, Below.refl _ _⟩
  case round =>
    obtain ⟨q, vr, rfl, rfl, hq, hown, hk, hb⟩ := hrel
    have Hk := hid hk
    clear hk
    have hbk := H.out.k.below hb H.out.k.lt
    have c6 := hbk.cell 6
    unfold chartL at c6
    simp only [List.getElem?_cons_zero, List.getElem?_cons_succ, Int.toNat_natCast] at c6
    rw [← Hnn.out] at c6
    have cm' := (hb.cell (p := ⟨bc, x, none⟩) H.out.c.lt).trans cm
    by_cases hlt : q < c
    · have hlt' : (q : Int) < (c : Int) := by omega
      have hrun : (Instr.lookup 91 v (.int .i64 q) false).run Try.prog wr = .ok (.int .i64 (t q)) wr := by
        refine CellT.get ?_ q (by omega) (by omega)
        rcases Hcell.out with hl | ⟨m, k', e, hm⟩
        · exact .inl hl
        · exact .inr ⟨m, k', e, hm.at (hb.block m hm.lt)⟩
      have hsu := Ck.holds_succ t q
      obtain ⟨y, hy⟩ : ∃ y, y = t q := ⟨_, rfl⟩
      rw [← hy] at hrun hsu
      by_cases h0 : 0 < y
      · rw [if_pos h0] at hsu
        have Hsu := hid hsu
        have hle := Ck.holds_le t q
        have hll : (Ck.holds t (q + 1)).length = (Ck.holds t q).length + 1 := by rw [hsu]; simp
        have Hll := hid hll
        have hbs := hb.size
        have hax := hown.alloc (.cells #[.int .i64 q] 3)
        have hba := hb.alloc hb.size (.cells #[.int .i64 q] 3)
        have hvb : ∀ k, vr.ownBlock = some k → w.heap.size ≤ k := fun k e => by
          rcases hown.2 with ⟨e1, _⟩ | ⟨g, cap, cur, e1, h2, _⟩
          · rw [e1] at e; cases e
          · rw [e1] at e; simp only [Value.ownBlock, Option.some.injEq] at e; omega
        clear hsu hll hy hown
        go_wp2_with (at_builtin; refine wpList_append_one _ rfl _ _ _ rfl w.heap.size 3 i3 _ Try.underlying23 hi3 z0 z1 (by rw [z2]; omega) rfl _ (Ck.holds t q).length _ rfl hax ⟨wr.heap.size, 0, none⟩ (.int .i64 q) rfl (by simp) rfl (by omega) (by simp; omega) (wr.heap.size + 1) (by simp) ?_; intro g2 cap2 w2 hown2 hgr2 hat2 hlt2)
        go_roundg (c - (q + 1))
        case measure => have hk := Hk.out; omega
        case rel => exact ⟨q + 1, _, rfl, by go_num, by omega, by rw [Hsu.out, List.map_append, List.length_append]; exact hown2, rfl, hba.grown hgr2 hba.size hvb⟩
      · rw [if_neg h0] at hsu
        have Hsu := hid hsu
        clear hsu hy
        go_wp2_with fail
        go_roundg (c - (q + 1))
        case measure => have hk := Hk.out; omega
        case rel => exact ⟨q + 1, _, rfl, by go_num, by omega, by rw [Hsu.out]; exact hown, rfl, hb⟩
    · have hge : ¬ (q : Int) < (c : Int) := by omega
      have hqc : q = c := by omega
      obtain ⟨ga, cap, rfl, hrow⟩ := own_rowI hown
      subst hqc
      have Hrow := hid hrow
      clear hrow hown
      go_wp2_with fail
      go_ret
      exact ⟨ga, ⟨cap, rfl⟩, Hrow.out, hb⟩
end
end Go.Proofs.Ytbpgolmbielpgaa
