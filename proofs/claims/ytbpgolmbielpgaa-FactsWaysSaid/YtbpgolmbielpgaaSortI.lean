/- slices.Sorted(maps.Keys(m)) at maps from ints to bools: the library's contracts at this program. -/
import Derived.Test.YtbpgolmbielpgaaSetI
import Derived.Shelf.SlIterI.Nil
import Derived.Shelf.SortM.Plain
import Derived.Shelf.SortM.SortNone
namespace Go.Proofs.Ytbpgolmbielpgaa
open Go.RowKit Go.Maps Go.Sort Go.Shelf

def keysLaid_ren : Go.Shelf.Ren := ⟨fun | 7 => 65 | 10 => 88 | n => n, fun | 23 => 107 | 26 => 3 | 3 => 4 | 28 => 113 | 0 => 0 | 27 => 112 | 33 => 32 | 4 => 4 | n => n, fun n => n⟩
theorem keysLaid : SlLaysZI.n7 Try.prog keysLaid_ren := {
  mixed := by kernel_rfl
  f7 := ⟨Try.f65.name, by decide, Try.func65.trans (by kernel_rfl)⟩
  f10 := ⟨Try.f88.name, by decide, Try.func88.trans (by kernel_rfl)⟩
  t0 := Try.underlying0
  a0 := Try.isAgg0
  z0 := Try.sizeOf0
  v0 := Try.zeroValue0
  t4 := Try.underlying4
  a4 := Try.isAgg4
  z4 := Try.sizeOf4
  v4 := Try.zeroValue4
  t23 := Try.underlying107
  a23 := Try.isAgg107
  z23 := Try.sizeOf107
  v23 := Try.zeroValue107
  t26 := Try.underlying3
  a26 := Try.isAgg3
  z26 := Try.sizeOf3
  v26 := Try.zeroValue3
  t27 := Try.underlying112
  a27 := Try.isAgg112
  z27 := Try.sizeOf112
  v27 := Try.zeroValue112
  t28 := Try.underlying113
  a28 := Try.isAgg113
  z28 := Try.sizeOf113
  v28 := Try.zeroValue113
  t33 := Try.underlying32
  a33 := Try.isAgg32
  z33 := Try.sizeOf32
  v33 := Try.zeroValue32 }

def sortedLaid_ren : Go.Shelf.Ren := ⟨fun | 6 => 64 | 8 => 86 | 9 => 87 | 11 => 92 | 13 => 94 | 12 => 93 | 23 => 107 | 24 => 108 | 14 => 98 | 15 => 99 | 16 => 100 | 17 => 101 | 18 => 102 | 19 => 103 | 20 => 104 | 21 => 105 | 22 => 106 | 25 => 110 | 26 => 111 | 27 => 112 | 28 => 113 | 29 => 114 | 30 => 109 | 31 => 115 | n => n, fun | 26 => 3 | 28 => 113 | 24 => 23 | 0 => 0 | 3 => 3 | 37 => 95 | 48 => 137 | 50 => 140 | 4 => 4 | 40 => 150 | 39 => 149 | 45 => 92 | 5 => 5 | 9 => 9 | 51 => 157 | 55 => 72 | 57 => 162 | 58 => 66 | 33 => 32 | n => n, fun n => n⟩
theorem sortedLaid : SlLaysZI.n6 Try.prog sortedLaid_ren := {
  mixed := by kernel_rfl
  f6 := ⟨Try.f64.name, by decide, Try.func64.trans (by kernel_rfl)⟩
  f8 := ⟨Try.f86.name, by decide, Try.func86.trans (by kernel_rfl)⟩
  f11 := ⟨Try.f92.name, by decide, Try.func92.trans (by kernel_rfl)⟩
  t0 := Try.underlying0
  a0 := Try.isAgg0
  z0 := Try.sizeOf0
  v0 := Try.zeroValue0
  t24 := Try.underlying23
  a24 := Try.isAgg23
  z24 := Try.sizeOf23
  v24 := Try.zeroValue23
  t26 := Try.underlying3
  a26 := Try.isAgg3
  z26 := Try.sizeOf3
  v26 := Try.zeroValue3
  t28 := Try.underlying113
  a28 := Try.isAgg113
  z28 := Try.sizeOf113
  v28 := Try.zeroValue113
  i26 := by kernel_rfl }

def sortLaid_ren : Go.Shelf.Ren := ⟨fun | 5 => 87 | 8 => 94 | 7 => 93 | 19 => 107 | 20 => 108 | 10 => 98 | 11 => 99 | 12 => 100 | 13 => 101 | 14 => 102 | 15 => 103 | 16 => 104 | 17 => 105 | 18 => 106 | 30 => 110 | 31 => 111 | 32 => 112 | 33 => 113 | 34 => 114 | 35 => 109 | 40 => 115 | n => n, fun | 23 => 23 | 25 => 3 | 3 => 3 | 32 => 95 | 22 => 23 | 0 => 0 | 44 => 137 | 46 => 140 | 4 => 4 | 36 => 150 | 35 => 149 | 41 => 92 | 5 => 5 | 9 => 9 | 53 => 157 | 57 => 72 | 63 => 162 | 64 => 66 | n => n, fun n => n⟩
theorem sortLaid : SlLaysM.n5 Try.prog sortLaid_ren := {
  mixed := by kernel_rfl
  f5 := ⟨Try.f87.name, by decide, Try.func87.trans (by kernel_rfl)⟩
  f7 := ⟨Try.f93.name, by decide, Try.func93.trans (by kernel_rfl)⟩
  f8 := Try.func94.trans (by kernel_rfl)
  f10 := ⟨Try.f98.name, by decide, Try.func98.trans (by kernel_rfl)⟩
  f11 := ⟨Try.f99.name, by decide, Try.func99.trans (by kernel_rfl)⟩
  f12 := ⟨Try.f100.name, by decide, Try.func100.trans (by kernel_rfl)⟩
  f13 := ⟨Try.f101.name, by decide, Try.func101.trans (by kernel_rfl)⟩
  f14 := ⟨Try.f102.name, by decide, Try.func102.trans (by kernel_rfl)⟩
  f15 := ⟨Try.f103.name, by decide, Try.func103.trans (by kernel_rfl)⟩
  f16 := ⟨Try.f104.name, by decide, Try.func104.trans (by kernel_rfl)⟩
  f17 := ⟨Try.f105.name, by decide, Try.func105.trans (by kernel_rfl)⟩
  f18 := ⟨Try.f106.name, by decide, Try.func106.trans (by kernel_rfl)⟩
  f19 := Try.func107.trans (by kernel_rfl)
  f20 := Try.func108.trans (by kernel_rfl)
  f30 := ⟨Try.f110.name, by decide, Try.func110.trans (by kernel_rfl)⟩
  f31 := Try.func111.trans (by kernel_rfl)
  f32 := Try.func112.trans (by kernel_rfl)
  f33 := ⟨Try.f113.name, by decide, Try.func113.trans (by kernel_rfl)⟩
  f34 := ⟨Try.f114.name, by decide, Try.func114.trans (by kernel_rfl)⟩
  f35 := ⟨Try.f109.name, by decide, Try.func109.trans (by kernel_rfl)⟩
  f40 := ⟨Try.f115.name, by decide, Try.func115.trans (by kernel_rfl)⟩
  t0 := Try.underlying0
  a0 := Try.isAgg0
  z0 := Try.sizeOf0
  v0 := Try.zeroValue0
  t3 := Try.underlying3
  a3 := Try.isAgg3
  z3 := Try.sizeOf3
  v3 := Try.zeroValue3
  t4 := Try.underlying4
  a4 := Try.isAgg4
  z4 := Try.sizeOf4
  v4 := Try.zeroValue4
  t5 := Try.underlying5
  a5 := Try.isAgg5
  z5 := Try.sizeOf5
  v5 := Try.zeroValue5
  t9 := Try.underlying9
  a9 := Try.isAgg9
  z9 := Try.sizeOf9
  v9 := Try.zeroValue9
  t22 := Try.underlying23
  a22 := Try.isAgg23
  z22 := Try.sizeOf23
  v22 := Try.zeroValue23
  t23 := Try.underlying23
  a23 := Try.isAgg23
  z23 := Try.sizeOf23
  v23 := Try.zeroValue23
  t25 := Try.underlying3
  a25 := Try.isAgg3
  z25 := Try.sizeOf3
  v25 := Try.zeroValue3
  t32 := Try.underlying95
  a32 := Try.isAgg95
  z32 := Try.sizeOf95
  v32 := Try.zeroValue95
  t35 := Try.underlying149
  a35 := Try.isAgg149
  z35 := Try.sizeOf149
  v35 := Try.zeroValue149
  t36 := Try.underlying150
  a36 := Try.isAgg150
  z36 := Try.sizeOf150
  v36 := Try.zeroValue150
  t41 := Try.underlying92
  a41 := Try.isAgg92
  z41 := Try.sizeOf92
  v41 := Try.zeroValue92
  t44 := Try.underlying137
  a44 := Try.isAgg137
  z44 := Try.sizeOf137
  v44 := Try.zeroValue137
  t46 := Try.underlying140
  a46 := Try.isAgg140
  z46 := Try.sizeOf140
  v46 := Try.zeroValue140
  t53 := Try.underlying157
  a53 := Try.isAgg157
  z53 := Try.sizeOf157
  v53 := Try.zeroValue157
  t57 := Try.underlying72
  a57 := Try.isAgg72
  z57 := Try.sizeOf72
  v57 := Try.zeroValue72
  t63 := Try.underlying162
  a63 := Try.isAgg162
  z63 := Try.sizeOf162
  v63 := Try.zeroValue162
  t64 := Try.underlying66
  a64 := Try.isAgg66
  z64 := Try.sizeOf66
  v64 := Try.zeroValue66 }

theorem sorts_in (m : Nat) : AnyZI.SortsIn Try.prog sortedLaid_ren Fence.wide m :=
  ⟨fun blk off cap ss W hH hblk hsz => callsIn_wide.2 (AnyM.slices_Sort_int sortLaid blk off cap ss W hH hblk hsz), fun p cap W => callsIn_wide.2 (AnyM.slices_Sort_int_none sortLaid p cap W)⟩

theorem keys_calls (b : Nat) (w : World) : Calls Try.prog 65 #[.map (some b)] w fun e w' => e = .returned (.func (.func 88) #[] #[.pointer (some ⟨w.heap.size, 0, none⟩)]) ∧ w' = w.alloc (.cells #[.map (some b)] 107) := by
  have cK : CallsIn Fence.wide 5 Try.prog 65 #[.map (some b)] w fun e w' => e = .returned (.func (.func 88) #[] #[.pointer (some ⟨w.heap.size, 0, none⟩)]) ∧ w' = w.alloc (.cells #[.map (some b)] 107) := AnyZI.keys_in keysLaid Fence.wide 5 trivial rfl (some b) w
  exact callsIn_wide.1 cK

theorem keys_list {H : Type} {w : World} {b n : Nat} {D : DataW H} {R : Value → Option (DataW H × List MemPlace)} (h : w.ownsMap Try.prog 3 R b n D) : (intKeys D).Nodup ∧ ∀ z : Int, z ∈ intKeys D ↔ Maps.has D (.int .i64 z) = true := by
  obtain ⟨es, hD, hpw, _⟩ := h.entries (Maps.int_keyed Try.underlying3)
  obtain ⟨es', hD', hko⟩ := h.keysOf
  obtain rfl : es = es' := by rw [hD] at hD'; simpa using hD'
  subst hD
  have hk : ∀ p ∈ es, ∃ x, p.1 = .int .i64 x := fun p hp => by
    obtain ⟨v, hv⟩ := hko p hp
    obtain ⟨x, _, hx, _⟩ := Maps.keyOf_i64 Try.underlying3 hv
    exact ⟨x, hx⟩
  refine ⟨?_, fun x => ?_⟩
  · show (es.map fun p => Go.intOf p.1).Nodup
    refine List.pairwise_map.2 (hpw.imp_of_mem fun {p q} hp' hq' hne e => hne ?_)
    obtain ⟨a, ha⟩ := hk p hp'
    obtain ⟨c, hc⟩ := hk q hq'
    rw [ha, hc] at e ⊢
    exact congrArg _ e
  · rw [Maps.has_eq, List.any_eq_true]
    show x ∈ (es.map fun p => Go.intOf p.1) ↔ _
    rw [List.mem_map]
    constructor
    · rintro ⟨p, hp', rfl⟩
      obtain ⟨a, ha⟩ := hk p hp'
      exact ⟨p, hp', by rw [ha]; simp [Lit.sameKey, Go.intOf]⟩
    · rintro ⟨p, hp', hs⟩
      obtain ⟨a, ha⟩ := hk p hp'
      rw [ha] at hs
      exact ⟨p, hp', by rw [ha]; simpa [Lit.sameKey, Go.intOf] using hs⟩

/-- Rising, each once: the ints of a set. -/
def Rise (l ss : List Int) : Prop := ss.Pairwise (· < ·) ∧ ∀ z, z ∈ ss ↔ z ∈ l

set_option maxHeartbeats 1000000 in
theorem sorted_calls (w : World) (b n : Nat) (l : List Int) (h : SetI w b n l) (hn : n ≤ 1000000) :
    Calls Try.prog 64 #[.func (.func 88) #[] #[.pointer (some ⟨w.heap.size, 0, none⟩)]] (w.alloc (.cells #[.map (some b)] 107)) fun e w' => ∃ (v : Value) (ss : List Int), e = .returned v ∧ Rise l ss ∧
      w'.ownsRow w.heap.size 3 1 v ss.length (ss.map (Value.int .i64)) ∧ Below w.heap.size w w' := by
  obtain ⟨D0, hown, hhas⟩ := h
  have hsz := hown.size_le
  have hbl := hown.lt
  obtain ⟨hnd, hmem⟩ := keys_list hown
  have hseq : SeqGives Fence.wide 2 Try.prog 88 #[.pointer (some ⟨w.heap.size, 0, none⟩)] encZ (fun ss => ss.Perm (intKeys D0)) (Maps.size D0) (w.alloc (.cells #[.map (some b)] 107)) :=
    AnyZI.keys_gives (ρ := keysLaid_ren) { keysLaid with } Fence.wide _ trivial rfl (by omega) w.heap.size b n D0 _ (by simp) (by simp) (by
      obtain ⟨es, clock, hb, Ft, hs, hD⟩ := hown
      exact ⟨es, clock, (Below.heap_alloc _ _ b hbl).trans hb, Ft, hs, hD⟩)
  have cS := AnyZI.sorted_in sortedLaid Fence.wide 5 trivial trivial trivial trivial rfl (by omega) (sorts_in _) (enters_of Try.func87 (by kernel_rfl) rfl) 88 #[.pointer (some ⟨w.heap.size, 0, none⟩)] trivial (enters_of Try.func88 (by kernel_rfl) rfl) _ _ (by unfold maxLen; omega) (by omega) _ hseq
  change CallsIn _ _ Try.prog 64 _ _ _ at cS
  refine (callsIn_wide.1 cS).mono ?_
  rintro e w' ⟨v, ss, rfl, hS, hrow, hnil, hb⟩
  have tr : ∀ a b c : Int, leI a b = true → leI b c = true → leI a c = true := fun a b c h1 h2 => by simp only [leI, decide_eq_true_eq] at *; exact Int.le_trans h1 h2
  have to : ∀ a b : Int, (leI a b || leI b a) = true := fun a b => by simp only [leI, Bool.or_eq_true, decide_eq_true_eq]; exact Int.le_total a b
  have hsort := List.pairwise_mergeSort tr to ss
  have hperm := (List.mergeSort_perm ss leI).trans hS
  have hnd2 : (ss.mergeSort leI).Nodup := hperm.nodup_iff.2 hnd
  refine ⟨v, ss.mergeSort leI, rfl, ⟨?_, fun z => ?_⟩, ?_, ((Below.refl _ w).alloc (Nat.le_refl _) _).trans (hb.mono (by simp))⟩
  · refine (hsort.and hnd2).imp fun {x y} hxy => ?_
    have h1 : x ≤ y := by simpa [leI] using hxy.1
    have h2 : x ≠ y := hxy.2
    omega
  · rw [hperm.mem_iff, hmem z, hhas z]
    simp
  · rw [List.length_mergeSort]
    exact own_mono hrow (by simp)
end Go.Proofs.Ytbpgolmbielpgaa
