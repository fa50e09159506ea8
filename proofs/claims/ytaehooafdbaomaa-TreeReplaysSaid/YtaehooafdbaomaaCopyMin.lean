/- append([]int{}, l[:min(len(l), k)]...): the run equations. -/
import Derived.Test.YtaehooafdbaomaaTreeB
namespace Go.Proofs.Ytaehooafdbaomaa
open Go.RowKit
theorem add_zero (a : Addr) : a.add 0 = a := by unfold Addr.add; split <;> simp_all
theorem elem_intsM : Try.prog.elem 22 = 3 := by kernel_rfl
theorem und_intsM : Try.prog.underlying 22 = some (.slice (Try.prog.elem 22)) := by rw [elem_intsM]; exact Try.underlying22
/-- l[:k]. -/
theorem slice_min {ga : Option Addr} {M k ca : Nat} (hk : k ≤ ca) : ∀ W : World, (Instr.slice 22 (.slice ga M ca) none (some (.int .i64 (k : Int))) none).run Try.prog W = .ok (.slice ga k ca) W := by
  intro W
  rw [run_slice_h W _ _ _ _ und_intsM .i64 _ (by omega) (by omega), elem_intsM, Try.sizeOf3 W]
  cases ga with
  | none => simp [sliced, Result.andThen]
  | some a => simp [sliced, Result.andThen, add_zero]
theorem rowI_takeM {w : World} {B : Nat} {ga : Option Addr} {zs : List Int} (h : RowI w B ga zs) (k : Nat) : RowI w B ga (zs.take k) := RowI.intro fun i x hx => by
  rw [List.getElem?_take] at hx
  split at hx
  · have hi := (List.getElem?_eq_some_iff.1 hx).1
    obtain ⟨g, o, h1, h2, h3⟩ := h.at hi
    exact ⟨g, o, h1, h2, by rw [h3, (List.getElem?_eq_some_iff.1 hx).2]⟩
  · cases hx
theorem own_emptyM (w : World) : (w.alloc (.cells #[] 3)).ownsRow w.heap.size 3 1 (.slice (some ⟨w.heap.size, 0, none⟩) 0 0) ([] : List Int).length (([] : List Int).map (Value.int .i64)) :=
  ⟨rfl, .inr ⟨w.heap.size, 0, #[], rfl, Nat.le_refl _, heap_alloc_new _ _, Nat.le_refl _, by unfold maxLen; omega, by simp, by simp⟩⟩
/-- append([]int{}, ys...). -/
theorem copy_ints {w : World} {ga : Option Addr} {ys : List Int} (h : RowI w w.heap.size ga ys) (c : Nat) (hl : ys.length ≤ 1000000000000) :
    ∃ gv cv w', (Builtin.append_ #[22, 22] 22 #[.slice (some ⟨w.heap.size, 0, none⟩) 0 0, .slice ga ys.length c]).run Try.prog (w.alloc (.cells #[] 3)) = .ok (.slice gv ys.length cv) w' ∧ RowI w' w'.heap.size gv ys ∧ ys.length ≤ cv ∧ cv ≤ 9223372036854775807 ∧ Below w.heap.size w w' := by
  have hb := bel_al (bel_id w) (.cells #[] 3)
  obtain ⟨v', w', h1, h2, h3⟩ := app_rows (own_emptyM w) ((h.below hb).mono hb.size) c (by simpa using hl) hb.size
  rw [List.nil_append] at h2
  obtain ⟨gv, cv, rfl, hr⟩ := own_rowI h2
  refine ⟨gv, cv, w', h1, hr, ?_, ?_, hb.trans h3⟩
  · rcases h2.2 with ⟨h0, h1⟩ | ⟨g, c, cur, h0, _, _, h1, _, _⟩
    · omega
    · injection h0 with _ _ h5; omega
  · rcases h2.2 with ⟨h0, h1⟩ | ⟨g, c, cur, h0, _, _, _, h1, _⟩
    · injection h0 with _ _ h5; omega
    · injection h0 with _ _ h5; unfold maxLen at h1; omega
end Go.Proofs.Ytaehooafdbaomaa
