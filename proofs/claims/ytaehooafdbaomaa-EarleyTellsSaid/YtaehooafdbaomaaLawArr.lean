/- Arguments of a law that only reads them: a slice of ints with its capacity, an array of three ints. -/
import Derived.Test.YtaehooafdbaomaaLawAny
import Derived.Laws.IdiomArrays
namespace Go.Proofs.Ytaehooafdbaomaa
open Go.ChangeShapes Go.WideShapes Go.ChangeAt Go.RowKit

/-- A slice of ints that came in. -/
def IntsV (w : World) (zs : List Int) (v : Value) : Prop := ∃ (ga : Option Addr) (cap : Nat), v = .slice ga zs.length cap ∧ RowI w w.heap.size ga zs ∧ zs.length ≤ cap ∧ cap ≤ 9223372036854775807 ∧ (ga = none → cap = 0)
section
variable {H : Type} {enc : TypeId × Value → H} {P : Program} {W : World}
theorem arr3_arg {r : Reach} {b0 : Nat} {t e : TypeId} {v : Value} {d : DataW H} {p : List MemPlace} (ht : P.underlying t = some (.array 3 e)) (he : P.underlying e = some (.int .i64)) (hce : P.cellsOf e = 1) (hct : P.cellsOf t = 3)
    (hv : Value.okWide P W r b0 t v) (h : DataW.Trod enc P W 0 (fun _ => true) true t v d p) :
    ∃ a0 a1 a2 : Int, v = .agg #[.int .i64 a0, .int .i64 a1, .int .i64 a2] ∧ -9223372036854775808 ≤ a0 ∧ a0 ≤ 9223372036854775807 := by
  simp only [Value.okWide, ht] at hv
  obtain ⟨cs, rfl, hsz, _⟩ := hv
  rw [hct] at hsz
  obtain ⟨l⟩ := cs
  match l, hsz with
  | [c0, c1, c2], _ =>
    obtain ⟨fuel, hf⟩ := h
    have hf' : DataW.trod enc P W 0 (fun _ => true) true fuel t [c0, c1, c2] = some (d, p) := by simpa [Value.cells] using hf
    obtain ⟨y0, y1, y2, n, _, h0, h1, h2⟩ := trod_array3 ht hce hf'
    obtain ⟨n0, e0, _, w0⟩ := DataW.trod_int he h0
    obtain ⟨n1, e1, _, _⟩ := DataW.trod_int he h1
    obtain ⟨n2, e2, _, _⟩ := DataW.trod_int he h2
    simp at e0 e1 e2
    subst e0 e1 e2
    have hw : (decide (IntKind.i64.min ≤ n0) && decide (n0 ≤ IntKind.i64.max)) = true := w0
    rw [Bool.and_eq_true, decide_eq_true_eq, decide_eq_true_eq] at hw
    exact ⟨n0, n1, n2, rfl, hw.1, hw.2⟩
theorem intsV_arg {r : Reach} {b0 : Nat} {t e : TypeId} {v : Value} {d : DataW H} {p : List MemPlace} (ht : P.underlying t = some (.slice e)) (he : P.underlying e = some (.int .i64)) (hc : P.cellsOf e = 1)
    (hv : Value.okWide P W r b0 t v) (h : DataW.Trod enc P W 0 (fun _ => true) true t v d p) : ∃ zs, IntsV W zs v := by
  obtain ⟨a0, len0, cap0, rfl⟩ := okWide_slice ht hv
  obtain ⟨fuel, hf⟩ := h
  have hf' : DataW.trod enc P W 0 (fun _ => true) true fuel t [.slice a0 len0 cap0] = some (d, p) := by simpa [Value.cells] using hf
  obtain ⟨ga, cap, zs, e1, hrow, hl⟩ := rowI_arg ht he hc hf'
  injection e1 with e1 e2 e3
  subst e1 e3
  rcases open_ints ht he hc hf' with ⟨hcs, _⟩ | ⟨a, len', cap', zs', hcs, _, hl', hm, _⟩
  · simp at hcs
    obtain ⟨rfl, rfl, rfl⟩ := hcs
    exact ⟨zs, none, 0, by rw [e2], hrow, by omega, by omega, fun _ => rfl⟩
  · simp at hcs
    obtain ⟨rfl, rfl, rfl⟩ := hcs
    exact ⟨zs, some a, _, by rw [e2], hrow, by omega, by unfold maxLen at hm; omega, fun h => by cases h⟩
end
end Go.Proofs.Ytaehooafdbaomaa
