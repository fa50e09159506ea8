/- An argument of ints of a law: read ahead of the call, and read again behind it. No program beyond its types. -/
import Derived.Test.YtjhhibnjegnpmaaLawRow
import Derived.ChangeSlices
namespace Go.Proofs.Ytjhhibnjegnpmaa
open Go.ChangeShapes Go.WideShapes Go.ChangeAt Go.RowKit

/-- An argument of ints, read in a world. -/
def IntsAt (W : World) (ga : Option Addr) (len : Nat) (zs : List Int) : Prop :=
  zs.length = len ∧ len ≤ 9223372036854775807 ∧ ∀ i, i < len → ∃ a, ga = some a ∧ a.block < W.heap.size ∧ W.cell? (a.add i) = some (.int .i64 (zs.getD i 0))

section
variable {H : Type} {enc : TypeId × Value → H} {P : Program} {W : World} {base : Nat} {t e : TypeId} {v : Value} {d : DataW H} {p : List MemPlace}
theorem add_block (a : Addr) (i : Nat) : (a.add i).block = a.block := by unfold Addr.add; split <;> rfl

theorem ints_arg (ht : P.underlying t = some (.slice e)) (he : P.underlying e = some (.int .i64)) (hc : P.cellsOf e = 1) (hval : Value.okWide P W .any base t v)
    (h : DataW.Trod enc P W 0 (fun _ => true) true t v d p) :
    ∃ (ga : Option Addr) (len cap : Nat) (zs : List Int), v = .slice ga len cap ∧ IntsAt W ga len zs ∧
      ∀ W', Below W.heap.size W W' → ∀ sp : Nat → Bool, (∀ q ∈ p, sp q.block = true) → DataW.Trod enc P W' 0 sp true t v d p := by
  obtain ⟨a0, len, cap, rfl⟩ := okWide_slice ht hval
  obtain ⟨fuel, hf⟩ := h
  rcases open_ints ht he hc hf with ⟨hcs, hx⟩ | ⟨a, len', cap', zs, hcs, _, hl, hm, hz, hx, hcell, hwz⟩
  · simp [Value.cells] at hcs
    obtain ⟨rfl, rfl, rfl⟩ := hcs
    simp only [Prod.mk.injEq] at hx
    obtain ⟨rfl, rfl⟩ := hx
    refine ⟨none, 0, 0, [], rfl, ⟨rfl, by omega, fun i hi => by omega⟩, fun W' _ sp _ => ?_⟩
    exact shut_slice_nil ht
  · simp [Value.cells] at hcs
    obtain ⟨rfl, rfl, rfl⟩ := hcs
    simp only [Prod.mk.injEq] at hx
    obtain ⟨rfl, rfl⟩ := hx
    simp only [if_true] at hz
    refine ⟨some a, len, cap, zs.take len, rfl, ⟨by rw [List.length_take]; omega, by unfold maxLen at hm; omega, fun i hi => ⟨a, rfl, ?_, ?_⟩⟩, fun W' hb sp hsp => ?_⟩
    · have := World.block_lt_of_cell? W _ (hcell i (by omega))
      rwa [add_block] at this
    · rw [hcell i (by omega)]
      simp [List.getD, List.getElem?_take, hi]
    · refine ⟨2, shut_ints (a := a) (len := len) (cap := cap) (zs := zs) 0 ht he hc (Nat.zero_le _) hl hm ?_ (fun i hi => ?_) hwz⟩
      · by_cases h0 : cap = 0
        · have : len = 0 := by omega
          rw [hz, h0, this]; simp
        · obtain ⟨b, off, spot⟩ := a
          have hspot : spot = none := by simpa [Addr.add] using World.cell?_spot (hcell 0 (by omega))
          subst hspot
          have hmem : MemPlace.cell b (off + 0) ∈ MemPlace.row ⟨b, off, none⟩ zs.length := MemPlace.mem_row.2 ⟨0, by omega, rfl⟩
          have := hsp _ hmem
          have h2 : sp b = true := this
          rw [hz]
          simp [h2]
      · have hlt := World.block_lt_of_cell? W _ (hcell i hi)
        exact (hb.cell hlt).trans (hcell i hi)
end
end Go.Proofs.Ytjhhibnjegnpmaa
