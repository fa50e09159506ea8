/- maps.Copy between maps from ints to bools: the library's contract at this program. -/
import Derived.Test.YtbpgolmbielpgaaSetI
import Derived.Shelf.SlMaps.Copy
namespace Go.Proofs.Ytbpgolmbielpgaa
open Go.RowKit Go.Shelf

def copyRen : Ren := ⟨fun | 5 => 63 | n => n, fun | 23 => 107 | 24 => 107 | 26 => 3 | 27 => 4 | n => n, fun n => n⟩
theorem copyLaid : SlLaysX.n5 Try.prog copyRen := {
  mixed := by kernel_rfl
  f5 := ⟨Try.f63.name, by decide, Try.func63.trans (by kernel_rfl)⟩
  t0 := Try.underlying0
  a0 := Try.isAgg0
  z0 := Try.sizeOf0
  v0 := Try.zeroValue0
  t4 := Try.underlying4
  a4 := Try.isAgg4
  z4 := Try.sizeOf4
  v4 := Try.zeroValue4
  t23 := Try.underlying107
  a23 := Try.isAgg107
  z23 := Try.sizeOf107
  v23 := Try.zeroValue107
  t24 := Try.underlying107
  a24 := Try.isAgg107
  z24 := Try.sizeOf107
  v24 := Try.zeroValue107
  a26 := Try.isAgg3
  z26 := Try.sizeOf3
  a27 := Try.isAgg4
  z27 := Try.sizeOf4 }

theorem copy_calls (w : World) (bd bs nd ns : Nat) (ld ls : List Int) (hd : SetI w bd nd ld) (hs : SetI w bs ns ls) (hne : bs ≠ bd) (hroom : nd + ns ≤ 1000000000000) :
    Calls Try.prog 63 #[.map (some bd), .map (some bs)] w fun e w' => e = .returned (.tuple #[]) ∧ SetI w' bd (nd + ns) (ls ++ ld) ∧ w.grownBy w' (some bd) := by
  obtain ⟨Dd, h1, h2⟩ := hd
  obtain ⟨Ds, h3, h4⟩ := hs
  have hsz := h3.size_le
  refine (AnyX.maps_Copy_opt copyLaid (Maps.int_keyed Try.underlying3) _ bd nd (some bs) Dd Ds w h1 (.inr ⟨bs, ns, rfl, h3⟩) (by simpa using hne) (by unfold maxLen; omega)).mono ?_
  rintro e w' ⟨rfl, h5, h6⟩
  refine ⟨rfl, ⟨_, h5.mono (by omega), fun z => ?_⟩, h6⟩
  obtain ⟨es, rfl, _, hk⟩ := h3.entries (Maps.int_keyed Try.underlying3)
  have h7 := has_merge_fold (.int .i64 z) es Dd h1.isMap hk
  have h8 := h4 z
  rw [Maps.has_eq] at h8
  rw [h8, h2 z] at h7
  refine h7.trans ?_
  simp [Bool.or_comm]
end Go.Proofs.Ytbpgolmbielpgaa
