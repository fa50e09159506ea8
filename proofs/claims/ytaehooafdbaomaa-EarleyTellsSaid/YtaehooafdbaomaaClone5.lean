/- Chapter 9 (facts): slices.Clone of ints; spread. -/
import Derived.Test.YtaehooafdbaomaaFacts4
namespace Go.Proofs.Ytaehooafdbaomaa
open Go.RowKit
attribute [local go_sem ↓] Go.wp_at_zero Go.wp_at_succ
attribute [local go_sem] frozen_alloc_lt

/-- An owned row of ints in new blocks comes back. -/
def IntsPost (w : World) (zs : List Int) (e : Ending) (w' : World) : Prop :=
  ∃ (gv : Option Addr) (cap : Nat), e = .returned (.slice gv zs.length cap) ∧ w'.ownsRow w.heap.size 3 1 (.slice gv zs.length cap) zs.length (zs.map (Value.int .i64)) ∧ Below w.heap.size w w'

theorem own_empty (w : World) (e : TypeId) (g : Nat) (h : w.heap[g]? = some (.cells #[] e (0, 0))) (base : Nat) (hb : base ≤ g) : w.ownsRow base e 1 (.slice (some ⟨g, 0, none⟩) 0 0) 0 [] :=
  ⟨rfl, .inr ⟨g, 0, #[], rfl, hb, h, Nat.le_refl _, by unfold maxLen; omega, rfl, rfl⟩⟩

theorem ints_cells {w : World} {D : Nat → Prop} {ga : Option Addr} {zs : List Int} (h : RowID w D ga zs) : CellsD w D ga (zs.map (Value.int .i64)).length fun i u => (zs.map (Value.int .i64))[i]? = some u := by
  intro i hi
  obtain ⟨g, off, h1, h2, h3⟩ := h.at (by simpa using hi)
  exact ⟨g, off, _, h1, h2, h3, by simp [List.getElem?_eq_getElem (show i < zs.length by simpa using hi)]⟩

set_option maxHeartbeats 1000000 in
set_option maxRecDepth 8000 in
theorem clone_calls (w : World) (D : Nat → Prop) (ga : Option Addr) (c : Nat) (zs : List Int) (hr : RowID w D ga zs) (hn : zs.length ≤ 1000000) (hnil : ga = none → c = 0) :
    Calls Try.prog 81 #[.slice ga zs.length c] w (IntsPost w zs) := by
  obtain ⟨i3, hi3, z0, z1, z2⟩ := info_parts intInfo
  have hne := Lib.run_eql_slice_nil (P := Try.prog)
  cases ga with
  | none =>
    have hz : zs = [] := by
      cases zs with
      | nil => rfl
      | cons u r => obtain ⟨g, off, h, _⟩ := hr.at (i := 0) (by simp); cases h
    subst hz
    obtain rfl := hnil rfl
    simp only [List.length_nil]
    go_enter Try.func81, Try.ntmps81
    go_wp2_with fail
    go_ret
    exact ⟨none, 0, rfl, World.ownsRow_nil _ _ _ _, Below.refl _ _⟩
  | some ad =>
    have hcs := ints_cells hr
    have hlm : zs.length = (zs.map (Value.int .i64)).length := by simp
    have h1 : ∀ u ∈ zs.map (Value.int .i64), u.oneCell' = true := by
      intro u hu
      obtain ⟨z, _, rfl⟩ := List.mem_map.1 hu
      rfl
    have hcs1 := hcs.kp (S := fun _ => False) ((Kp.refl _ w).alloc (.cells #[] 3)) (fun _ _ h => h) (fun _ _ _ h => h)
    have Hcs1 := hid hcs1
    have Hlm := hid hlm
    have H1 := hid h1
    clear hcs hlm h1 hcs1
    go_enter Try.func81, Try.ntmps81
    go_wp2_with (at_builtin; refine wpList_append_cells _ rfl _ _ _ rfl w.heap.size 3 i3 _ Try.underlying22 hi3 z0 z1 (by rw [z2]; omega) rfl (.slice (some ⟨w.heap.size, 0, none⟩) 0 0) 0 [] (by rfl) (own_empty _ _ _ (heap_alloc_new w _) _ (Nat.le_refl _)) D _ zs.length c (zs.map (Value.int .i64)) rfl Hlm.out Hcs1.out H1.out (by simp; omega) (by simp) ?_; intro gv cap w1 hown hgr hat)
    go_ret
    simp only [List.length_map, Nat.zero_add, List.nil_append] at hown
    exact ⟨gv, cap, rfl, hown, ((Below.refl _ w).alloc (Nat.le_refl _) _).grown hgr (by simp) (fun k hk => by simp [Value.ownBlock] at hk; omega)⟩
end Go.Proofs.Ytaehooafdbaomaa
