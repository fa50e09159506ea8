/- slices.Sorted(maps.Keys(m)) at maps from ints to bools: the library's contracts at this program. -/
import Derived.Test.YtaehooafdbaomaaSetI
import Derived.Shelf.SlIterI.Nil
import Derived.Shelf.SortM.Plain
import Derived.Shelf.SortM.SortNone
namespace Go.Proofs.Ytaehooafdbaomaa
open Go.RowKit Go.Maps Go.Sort Go.Shelf

def keysLaid_ren : Go.Shelf.Ren := ⟨fun | 7 => 93 | 10 => 124 | n => n, fun | 23 => 156 | 26 => 3 | 3 => 4 | 28 => 159 | 0 => 0 | 27 => 158 | 33 => 81 | 4 => 4 | n => n, fun n => n⟩
theorem keysLaid : SlLaysZI.n7 Try.prog keysLaid_ren := {
  mixed := by kernel_rfl
  f7 := ⟨Try.f93.name, by decide, Try.func93.trans (by kernel_rfl)⟩
  f10 := ⟨Try.f124.name, by decide, Try.func124.trans (by kernel_rfl)⟩
  t0 := Try.underlying0
  a0 := Try.isAgg0
  z0 := Try.sizeOf0
  v0 := Try.zeroValue0
  t4 := Try.underlying4
  a4 := Try.isAgg4
  z4 := Try.sizeOf4
  v4 := Try.zeroValue4
  t23 := Try.underlying156
  a23 := Try.isAgg156
  z23 := Try.sizeOf156
  v23 := Try.zeroValue156
  t26 := Try.underlying3
  a26 := Try.isAgg3
  z26 := Try.sizeOf3
  v26 := Try.zeroValue3
  t27 := Try.underlying158
  a27 := Try.isAgg158
  z27 := Try.sizeOf158
  v27 := Try.zeroValue158
  t28 := Try.underlying159
  a28 := Try.isAgg159
  z28 := Try.sizeOf159
  v28 := Try.zeroValue159
  t33 := Try.underlying81
  a33 := Try.isAgg81
  z33 := Try.sizeOf81
  v33 := Try.zeroValue81 }

def sortedLaid_ren : Go.Shelf.Ren := ⟨fun | 6 => 92 | 8 => 122 | 9 => 123 | 11 => 138 | 13 => 134 | 12 => 139 | 23 => 153 | 24 => 154 | 14 => 158 | 15 => 159 | 16 => 160 | 17 => 161 | 18 => 162 | 19 => 163 | 20 => 164 | 21 => 165 | 22 => 166 | 25 => 184 | 26 => 185 | 27 => 186 | 28 => 187 | 29 => 188 | 30 => 172 | 31 => 206 | n => n, fun | 26 => 3 | 28 => 159 | 24 => 22 | 0 => 0 | 3 => 3 | 37 => 203 | 48 => 220 | 50 => 223 | 4 => 4 | 40 => 235 | 39 => 234 | 45 => 153 | 5 => 5 | 9 => 9 | 51 => 250 | 55 => 73 | 57 => 263 | 58 => 60 | 33 => 81 | n => n, fun n => n⟩
theorem sortedLaid : SlLaysZI.n6 Try.prog sortedLaid_ren := {
  mixed := by kernel_rfl
  f6 := ⟨Try.f92.name, by decide, Try.func92.trans (by kernel_rfl)⟩
  f8 := ⟨Try.f122.name, by decide, Try.func122.trans (by kernel_rfl)⟩
  f11 := ⟨Try.f138.name, by decide, Try.func138.trans (by kernel_rfl)⟩
  t0 := Try.underlying0
  a0 := Try.isAgg0
  z0 := Try.sizeOf0
  v0 := Try.zeroValue0
  t24 := Try.underlying22
  a24 := Try.isAgg22
  z24 := Try.sizeOf22
  v24 := Try.zeroValue22
  t26 := Try.underlying3
  a26 := Try.isAgg3
  z26 := Try.sizeOf3
  v26 := Try.zeroValue3
  t28 := Try.underlying159
  a28 := Try.isAgg159
  z28 := Try.sizeOf159
  v28 := Try.zeroValue159
  i26 := by kernel_rfl }

def sortLaid_ren : Go.Shelf.Ren := ⟨fun | 5 => 123 | 8 => 134 | 7 => 139 | 19 => 153 | 20 => 154 | 10 => 158 | 11 => 159 | 12 => 160 | 13 => 161 | 14 => 162 | 15 => 163 | 16 => 164 | 17 => 165 | 18 => 166 | 30 => 184 | 31 => 185 | 32 => 186 | 33 => 187 | 34 => 188 | 35 => 172 | 40 => 206 | n => n, fun | 23 => 22 | 25 => 3 | 3 => 3 | 32 => 203 | 22 => 22 | 0 => 0 | 44 => 220 | 46 => 223 | 4 => 4 | 36 => 235 | 35 => 234 | 41 => 153 | 5 => 5 | 9 => 9 | 53 => 250 | 57 => 73 | 63 => 263 | 64 => 60 | n => n, fun n => n⟩
theorem sortLaid : SlLaysM.n5 Try.prog sortLaid_ren := {
  mixed := by kernel_rfl
  f5 := ⟨Try.f123.name, by decide, Try.func123.trans (by kernel_rfl)⟩
  f7 := ⟨Try.f139.name, by decide, Try.func139.trans (by kernel_rfl)⟩
  f8 := Try.func134.trans (by kernel_rfl)
  f10 := ⟨Try.f158.name, by decide, Try.func158.trans (by kernel_rfl)⟩
  f11 := ⟨Try.f159.name, by decide, Try.func159.trans (by kernel_rfl)⟩
  f12 := ⟨Try.f160.name, by decide, Try.func160.trans (by kernel_rfl)⟩
  f13 := ⟨Try.f161.name, by decide, Try.func161.trans (by kernel_rfl)⟩
  f14 := ⟨Try.f162.name, by decide, Try.func162.trans (by kernel_rfl)⟩
  f15 := ⟨Try.f163.name, by decide, Try.func163.trans (by kernel_rfl)⟩
  f16 := ⟨Try.f164.name, by decide, Try.func164.trans (by kernel_rfl)⟩
  f17 := ⟨Try.f165.name, by decide, Try.func165.trans (by kernel_rfl)⟩
  f18 := ⟨Try.f166.name, by decide, Try.func166.trans (by kernel_rfl)⟩
  f19 := Try.func153.trans (by kernel_rfl)
  f20 := Try.func154.trans (by kernel_rfl)
  f30 := ⟨Try.f184.name, by decide, Try.func184.trans (by kernel_rfl)⟩
  f31 := Try.func185.trans (by kernel_rfl)
  f32 := Try.func186.trans (by kernel_rfl)
  f33 := ⟨Try.f187.name, by decide, Try.func187.trans (by kernel_rfl)⟩
  f34 := ⟨Try.f188.name, by decide, Try.func188.trans (by kernel_rfl)⟩
  f35 := ⟨Try.f172.name, by decide, Try.func172.trans (by kernel_rfl)⟩
  f40 := ⟨Try.f206.name, by decide, Try.func206.trans (by kernel_rfl)⟩
  t0 := Try.underlying0
  a0 := Try.isAgg0
  z0 := Try.sizeOf0
  v0 := Try.zeroValue0
  t3 := Try.underlying3
  a3 := Try.isAgg3
  z3 := Try.sizeOf3
  v3 := Try.zeroValue3
  t4 := Try.underlying4
  a4 := Try.isAgg4
  z4 := Try.sizeOf4
  v4 := Try.zeroValue4
  t5 := Try.underlying5
  a5 := Try.isAgg5
  z5 := Try.sizeOf5
  v5 := Try.zeroValue5
  t9 := Try.underlying9
  a9 := Try.isAgg9
  z9 := Try.sizeOf9
  v9 := Try.zeroValue9
  t22 := Try.underlying22
  a22 := Try.isAgg22
  z22 := Try.sizeOf22
  v22 := Try.zeroValue22
  t23 := Try.underlying22
  a23 := Try.isAgg22
  z23 := Try.sizeOf22
  v23 := Try.zeroValue22
  t25 := Try.underlying3
  a25 := Try.isAgg3
  z25 := Try.sizeOf3
  v25 := Try.zeroValue3
  t32 := Try.underlying203
  a32 := Try.isAgg203
  z32 := Try.sizeOf203
  v32 := Try.zeroValue203
  t35 := Try.underlying234
  a35 := Try.isAgg234
  z35 := Try.sizeOf234
  v35 := Try.zeroValue234
  t36 := Try.underlying235
  a36 := Try.isAgg235
  z36 := Try.sizeOf235
  v36 := Try.zeroValue235
  t41 := Try.underlying153
  a41 := Try.isAgg153
  z41 := Try.sizeOf153
  v41 := Try.zeroValue153
  t44 := Try.underlying220
  a44 := Try.isAgg220
  z44 := Try.sizeOf220
  v44 := Try.zeroValue220
  t46 := Try.underlying223
  a46 := Try.isAgg223
  z46 := Try.sizeOf223
  v46 := Try.zeroValue223
  t53 := Try.underlying250
  a53 := Try.isAgg250
  z53 := Try.sizeOf250
  v53 := Try.zeroValue250
  t57 := Try.underlying73
  a57 := Try.isAgg73
  z57 := Try.sizeOf73
  v57 := Try.zeroValue73
  t63 := Try.underlying263
  a63 := Try.isAgg263
  z63 := Try.sizeOf263
  v63 := Try.zeroValue263
  t64 := Try.underlying60
  a64 := Try.isAgg60
  z64 := Try.sizeOf60
  v64 := Try.zeroValue60 }

theorem sorts_in (m : Nat) : AnyZI.SortsIn Try.prog sortedLaid_ren Fence.wide m :=
  ⟨fun blk off cap ss W hH hblk hsz => callsIn_wide.2 (AnyM.slices_Sort_int sortLaid blk off cap ss W hH hblk hsz), fun p cap W => callsIn_wide.2 (AnyM.slices_Sort_int_none sortLaid p cap W)⟩

theorem keys_calls (b : Nat) (w : World) : Calls Try.prog 93 #[.map (some b)] w fun e w' => e = .returned (.func (.func 124) #[] #[.pointer (some ⟨w.heap.size, 0, none⟩)]) ∧ w' = w.alloc (.cells #[.map (some b)] 156) := by
  have cK : CallsIn Fence.wide 5 Try.prog 93 #[.map (some b)] w fun e w' => e = .returned (.func (.func 124) #[] #[.pointer (some ⟨w.heap.size, 0, none⟩)]) ∧ w' = w.alloc (.cells #[.map (some b)] 156) := AnyZI.keys_in keysLaid Fence.wide 5 trivial rfl (some b) w
  exact callsIn_wide.1 cK

theorem keys_list {H : Type} {w : World} {b n : Nat} {D : DataW H} {R : Value → Option (DataW H × List MemPlace)} (h : w.ownsMap Try.prog 3 R b n D) : (intKeys D).Nodup ∧ ∀ z : Int, z ∈ intKeys D ↔ Maps.has D (.int .i64 z) = true := by
  obtain ⟨es, hD, hpw, _⟩ := h.entries (Maps.int_keyed Try.underlying3)
  obtain ⟨es', hD', hko⟩ := h.keysOf
  obtain rfl : es = es' := by rw [hD] at hD'; simpa using hD'
  subst hD
  have hk : ∀ p ∈ es, ∃ x, p.1 = .int .i64 x := fun p hp => by
    obtain ⟨v, hv⟩ := hko p hp
    obtain ⟨x, _, hx, _⟩ := Maps.keyOf_i64 Try.underlying3 hv
    exact ⟨x, hx⟩
  refine ⟨?_, fun x => ?_⟩
  · show (es.map fun p => Go.intOf p.1).Nodup
    refine List.pairwise_map.2 (hpw.imp_of_mem fun {p q} hp' hq' hne e => hne ?_)
    obtain ⟨a, ha⟩ := hk p hp'
    obtain ⟨c, hc⟩ := hk q hq'
    rw [ha, hc] at e ⊢
    exact congrArg _ e
  · rw [Maps.has_eq, List.any_eq_true]
    show x ∈ (es.map fun p => Go.intOf p.1) ↔ _
    rw [List.mem_map]
    constructor
    · rintro ⟨p, hp', rfl⟩
      obtain ⟨a, ha⟩ := hk p hp'
      exact ⟨p, hp', by rw [ha]; simp [Lit.sameKey, Go.intOf]⟩
    · rintro ⟨p, hp', hs⟩
      obtain ⟨a, ha⟩ := hk p hp'
      rw [ha] at hs
      exact ⟨p, hp', by rw [ha]; simpa [Lit.sameKey, Go.intOf] using hs⟩

/-- Rising, each once: the ints of a set. -/
def Rise (l ss : List Int) : Prop := ss.Pairwise (· < ·) ∧ ∀ z, z ∈ ss ↔ z ∈ l

set_option maxHeartbeats 1000000 in
theorem sorted_calls (w : World) (b n : Nat) (l : List Int) (h : SetI w b n l) (hn : n ≤ 1000000) :
    Calls Try.prog 92 #[.func (.func 124) #[] #[.pointer (some ⟨w.heap.size, 0, none⟩)]] (w.alloc (.cells #[.map (some b)] 156)) fun e w' => ∃ (v : Value) (ss : List Int), e = .returned v ∧ Rise l ss ∧
      w'.ownsRow w.heap.size 3 1 v ss.length (ss.map (Value.int .i64)) ∧ Below w.heap.size w w' := by
  obtain ⟨D0, hown, hhas⟩ := h
  have hsz := hown.size_le
  have hbl := hown.lt
  obtain ⟨hnd, hmem⟩ := keys_list hown
  have hseq : SeqGives Fence.wide 2 Try.prog 124 #[.pointer (some ⟨w.heap.size, 0, none⟩)] encZ (fun ss => ss.Perm (intKeys D0)) (Maps.size D0) (w.alloc (.cells #[.map (some b)] 156)) :=
    AnyZI.keys_gives (ρ := keysLaid_ren) { keysLaid with } Fence.wide _ trivial rfl (by omega) w.heap.size b n D0 _ (by simp) (by simp) (by
      obtain ⟨es, clock, hb, Ft, hs, hD⟩ := hown
      exact ⟨es, clock, (Below.heap_alloc _ _ b hbl).trans hb, Ft, hs, hD⟩)
  have cS := AnyZI.sorted_in sortedLaid Fence.wide 5 trivial trivial trivial trivial rfl (by omega) (sorts_in _) (enters_of Try.func123 (by kernel_rfl) rfl) 124 #[.pointer (some ⟨w.heap.size, 0, none⟩)] trivial (enters_of Try.func124 (by kernel_rfl) rfl) _ _ (by unfold maxLen; omega) (by omega) _ hseq
  change CallsIn _ _ Try.prog 92 _ _ _ at cS
  refine (callsIn_wide.1 cS).mono ?_
  rintro e w' ⟨v, ss, rfl, hS, hrow, hnil, hb⟩
  have tr : ∀ a b c : Int, leI a b = true → leI b c = true → leI a c = true := fun a b c h1 h2 => by simp only [leI, decide_eq_true_eq] at *; exact Int.le_trans h1 h2
  have to : ∀ a b : Int, (leI a b || leI b a) = true := fun a b => by simp only [leI, Bool.or_eq_true, decide_eq_true_eq]; exact Int.le_total a b
  have hsort := List.pairwise_mergeSort tr to ss
  have hperm := (List.mergeSort_perm ss leI).trans hS
  have hnd2 : (ss.mergeSort leI).Nodup := hperm.nodup_iff.2 hnd
  refine ⟨v, ss.mergeSort leI, rfl, ⟨?_, fun z => ?_⟩, ?_, ((Below.refl _ w).alloc (Nat.le_refl _) _).trans (hb.mono (by simp))⟩
  · refine (hsort.and hnd2).imp fun {x y} hxy => ?_
    have h1 : x ≤ y := by simpa [leI] using hxy.1
    have h2 : x ≠ y := hxy.2
    omega
  · rw [hperm.mem_iff, hmem z, hhas z]
    simp
  · rw [List.length_mergeSort]
    exact own_mono hrow (by simp)
end Go.Proofs.Ytaehooafdbaomaa
