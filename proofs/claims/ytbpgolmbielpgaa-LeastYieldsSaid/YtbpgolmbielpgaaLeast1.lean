/- Chapter 15 (least): rows of ints of the call's own; the table; of. -/
import Derived.Test.YtbpgolmbielpgaaLeastLaw
import Derived.Test.YtbpgolmbielpgaaRepeat
import Derived.Test.YtbpgolmbielpgaaGin
import Derived.Test.YtbpgolmbielpgaaSteps
namespace Go.Proofs.Ytbpgolmbielpgaa
open Go.RowKit
attribute [local go_sem ↓] Go.wp_at_zero Go.wp_at_succ
attribute [local go_sem] frozen_alloc_lt

def rowI (t g : Nat) : Value := .slice (some ⟨g, 0, none⟩) t t
/-- Rows of ints. -/
structure BI (w : World) (B bo t : Nat) (gs : List Nat) (F : List (List Int)) : Prop where
  len : gs.length = F.length
  out : ∀ (a : Nat) g, gs[a]? = some g → w.cell? ⟨bo, a, none⟩ = some (rowI t g)
  row : ∀ (a : Nat) g l, gs[a]? = some g → F[a]? = some l → Bk w g 3 (l.map (Value.int .i64))
  nd : gs.Nodup
  ne : ∀ g ∈ gs, B ≤ g ∧ g ≠ bo
theorem nodup_at {gs : List Nat} (h : gs.Nodup) {a b : Nat} {g : Nat} (ha : gs[a]? = some g) (hb : gs[b]? = some g) : a = b := by
  obtain ⟨h1, e1⟩ := List.getElem?_eq_some_iff.1 ha
  obtain ⟨h2, e2⟩ := List.getElem?_eq_some_iff.1 hb
  exact (List.getElem_inj h).1 (e1.trans e2.symm)
theorem BI.put {w : World} {B bo t : Nat} {gs : List Nat} {F : List (List Int)} (h : BI w B bo t gs F) {a z g : Nat} {l : List Int} (hg : gs[a]? = some g) (hl : F[a]? = some l) (x : Int) :
    BI (w.setCell ⟨g, z, none⟩ (.int .i64 x)) B bo t gs (F.set a (l.set z x)) := by
  have hgm := List.mem_of_getElem? hg
  have hk : Kp (fun k => k = g) w (w.setCell ⟨g, z, none⟩ (.int .i64 x)) := Kp.set (S := fun k => k = g) (p := ⟨g, z, none⟩) (Kp.refl _ _) (.inl rfl) _
  refine ⟨by rw [List.length_set]; exact h.len, fun b g' hb => ?_, fun b g' l' hb hl' => ?_, h.nd, h.ne⟩
  · exact hk.cell (h.out b g' hb) (fun e => (h.ne g hgm).2 e.symm)
  · by_cases e : b = a
    · subst e
      rw [hg] at hb
      injection hb with hb
      subst hb
      rw [List.getElem?_set_self (List.getElem?_eq_some_iff.1 hl).1] at hl'
      injection hl' with hl'
      subst hl'
      rw [List.map_set]
      exact (h.row b g l hg hl).set z _
    · rw [List.getElem?_set_ne (fun e' => e e'.symm)] at hl'
      exact (h.row b g' l' hb hl').kp hk (fun e' => e (nodup_at h.nd hb (by rw [e']; exact hg)))
theorem BI.below {w w' : World} {B bo t : Nat} {gs : List Nat} {F : List (List Int)} (h : BI w B bo t gs F) (hbo : bo < w.heap.size) (hb : Below w.heap.size w w') : BI w' B bo t gs F :=
  ⟨h.len, fun a g hg => (hb.cell (p := ⟨bo, a, none⟩) hbo).trans (h.out a g hg), fun a g l hg hl => (h.row a g l hg hl).below hb (h.row a g l hg hl).lt, h.nd, h.ne⟩
def ti (F : List (List Int)) (a z : Nat) : Int := (F.getD a []).getD z 0
theorem ti_set {F : List (List Int)} {a z : Nat} {l : List Int} (hl : F[a]? = some l) (hz : z < l.length) (x : Int) (a' z' : Nat) : ti (F.set a (l.set z x)) a' z' = if a' = a ∧ z' = z then x else ti F a' z' := by
  unfold ti
  have ha : a < F.length := (List.getElem?_eq_some_iff.1 hl).1
  by_cases e : a' = a
  · subst e
    have h1 : (F.set a' (l.set z x)).getD a' [] = l.set z x := by simp [List.getD, List.getElem?_set_self ha]
    have h2 : F.getD a' [] = l := by simp [List.getD, hl]
    rw [h1, h2]
    by_cases e2 : z' = z
    · subst e2
      simp [List.getD, List.getElem?_set_self hz]
    · simp [List.getD, List.getElem?_set_ne (fun h => e2 h.symm), e2]
  · have h1 : (F.set a (l.set z x)).getD a' [] = F.getD a' [] := by simp [List.getD, List.getElem?_set_ne (fun h => e h.symm)]
    rw [h1]; simp [e]

/-- A grammar's values in a box. -/
structure GV where
  st : Int
  ru : Int
  gn : Option Addr
  ln : Nat
  cn : Nat
  gt : Option Addr
  lt : Nat
  ct : Nat
  gp : Option Addr
  lp : Nat
  cp : Nat
/-- The table of the least trees' nodes. -/
structure Tab (w : World) (V : GV) (bt bn n cb : Nat) (gw : Option Addr) (cw : Nat) (word : List Int) (R : Nat → Nat) (C : Nat → Nat → Nat) (N : Nat → Nat → Nat → Int) : Prop where
  k : Bk w bt 119 [.int .i64 V.st, .int .i64 V.ru, .slice V.gn V.ln V.cn, .slice V.gt V.lt V.ct, .slice V.gp V.lp V.cp, .slice gw word.length cw, .slice (some ⟨bn, 0, none⟩) n cb]
  rn : ∀ a, a < n → ∃ c, w.cell? ⟨bn, a, none⟩ = some (.slice (some ⟨R a, 0, none⟩) (word.length + 1) c)
  rr : ∀ a i, a < n → i ≤ word.length → w.cell? ⟨R a, i, none⟩ = some (rowI (word.length + 1) (C a i))
  rc : ∀ a i, a < n → i ≤ word.length → ∃ l : List Int, Bk w (C a i) 3 (l.map (Value.int .i64)) ∧ l.length = word.length + 1 ∧ ∀ j, j ≤ word.length → l[j]? = some (N a i j)
theorem Tab.cell {w : World} {V : GV} {bt bn n cb : Nat} {gw : Option Addr} {cw : Nat} {word : List Int} {R : Nat → Nat} {C : Nat → Nat → Nat} {N : Nat → Nat → Nat → Int} (h : Tab w V bt bn n cb gw cw word R C N) {a i j : Nat} (ha : a < n) (hi : i ≤ word.length) (hj : j ≤ word.length) :
    w.cell? ⟨C a i, j, none⟩ = some (.int .i64 (N a i j)) := by
  obtain ⟨l, h1, _, h3⟩ := h.rc a i ha hi
  have := h1.cell j
  rw [List.getElem?_map, h3 j hj] at this
  exact this

set_option maxHeartbeats 1000000 in
theorem of_calls {w : World} {V : GV} {bt bn n cb : Nat} {gw : Option Addr} {cw : Nat} {word : List Int} {R : Nat → Nat} {C : Nat → Nat → Nat} {N : Nat → Nat → Nat → Int} (h : Tab w V bt bn n cb gw cw word R C N) (hw : RowI w w.heap.size gw word) (hl : word.length ≤ 64)
    (s : Int) (i j : Nat) (hs : s < n) (hs0 : -65536 ≤ s) (hi : i ≤ word.length) (hj : j ≤ word.length) :
    Calls Try.prog 53 #[.pointer (some ⟨bt, 0, none⟩), .int .i64 s, .int .i64 i, .int .i64 j] w fun e w' => e = .returned (.int .i64 (Le.ofT N word s i j)) ∧ w' = w := by
  have k5 := h.k.cell 5
  have k6 := h.k.cell 6
  simp only [List.getElem?_cons_zero, List.getElem?_cons_succ] at k5 k6
  unfold Le.ofT
  by_cases h0 : 0 ≤ s
  · rw [if_pos h0]
    obtain ⟨d, rfl⟩ := Int.eq_ofNat_of_zero_le h0
    rw [Int.toNat_natCast]
    have hdn : d < n := by omega
    obtain ⟨c, c1⟩ := h.rn d hdn
    have c2 := h.rr d i hdn hi
    have c3 := h.cell hdn hi hj
    unfold rowI at c2
    obtain ⟨x, hx⟩ : ∃ x, x = N d i j := ⟨_, rfl⟩
    rw [← hx] at c3 ⊢
    have hd1 : (d : Int) < (n : Int) := hs
    have hi1 : (i : Int) < ((word.length + 1 : Nat) : Int) := by omega
    have hj1 : (j : Int) < ((word.length + 1 : Nat) : Int) := by omega
    have hi0 : (0 : Int) ≤ (i : Int) := by omega
    have hj0 : (0 : Int) ≤ (j : Int) := by omega
    obtain ⟨L, hL⟩ : ∃ L, L = word.length + 1 := ⟨_, rfl⟩
    rw [← hL] at c1 c2 hi1 hj1
    clear hx hL h hi hj hw
    go_enter Try.func53, Try.ntmps53
    go_wp2_with fail
    go_ret
    exact ⟨rfl, rfl⟩
  · rw [if_neg h0]
    have hwr : IntKind.i64.wrap (-1 - s) = -1 - s := by rw [IntKind.wrap_i64] <;> omega
    have hge : decide (0 ≤ s) = false := by simp; omega
    by_cases h1 : j = i + 1
    · subst h1
      have hil : i < word.length := by omega
      obtain ⟨g, o, rfl, hg, hc⟩ := hw.at hil
      have hi1 : (i : Int) < (word.length : Int) := by omega
      have hi0 : (0 : Int) ≤ (i : Int) := by omega
      have hgd : word.getD i 0 = word[i] := by simp [List.getD, List.getElem?_eq_getElem hil]
      rw [hgd]
      obtain ⟨x, hx⟩ : ∃ x, x = word[i] := ⟨_, rfl⟩
      rw [← hx] at hc ⊢
      by_cases h2 : x = -1 - s
      · rw [if_pos ⟨rfl, h2⟩]
        have h2b : (x == -1 - s) = true := by simp [h2]
        clear hx hgd h hg hil hi hj
        go_enter Try.func53, Try.ntmps53
        go_wp2_with fail
        go_ret
        exact ⟨rfl, rfl⟩
      · rw [if_neg (fun e => h2 e.2)]
        have h2b : (x == -1 - s) = false := by simp [h2]
        clear hx hgd h hg hil hi hj
        go_enter Try.func53, Try.ntmps53
        go_wp2_with fail
        go_ret
        exact ⟨rfl, rfl⟩
    · rw [if_neg (fun e => h1 e.1)]
      have h1b : ((j : Int) == (i : Int) + 1) = false := by simp; omega
      have h1c : ¬ (j : Int) = (i : Int) + 1 := by omega
      clear h hw
      go_enter Try.func53, Try.ntmps53
      go_wp2_with fail
      go_ret
      exact ⟨rfl, rfl⟩
end Go.Proofs.Ytbpgolmbielpgaa
