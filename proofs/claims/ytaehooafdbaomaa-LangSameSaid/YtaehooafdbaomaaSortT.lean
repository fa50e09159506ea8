/- Texts in an order of a function's: slices.SortFunc, slices.SortedFunc of a set's keys; lang.order. -/
import Derived.Test.YtaehooafdbaomaaSetT
import Derived.Test.YtaehooafdbaomaaOrd0
import Derived.Shelf.SlSortCmp.NoneTotal
import Derived.Shelf.SlIter.Nil
import Derived.Shelf.Small.Strs
namespace Go.Proofs.Ytaehooafdbaomaa
open Go.RowKit Go.Shelf Go.Sort
attribute [local go_sem ↓] Go.wp_at_zero Go.wp_at_succ
attribute [local go_sem] frozen_alloc_lt

def sortTs_ren : Go.Shelf.Ren := ⟨fun | 6 => 144 | 15 => 134 | 14 => 171 | 28 => 153 | 29 => 154 | 20 => 189 | 21 => 190 | 22 => 191 | 23 => 192 | 24 => 193 | 25 => 194 | 26 => 195 | 27 => 196 | 46 => 207 | 47 => 185 | 48 => 186 | 49 => 208 | 50 => 209 | 57 => 213 | n => n, fun | 22 => 27 | 24 => 9 | 25 => 202 | 3 => 3 | 39 => 203 | 0 => 0 | 53 => 220 | 55 => 223 | 4 => 4 | 46 => 235 | 45 => 234 | 50 => 153 | 5 => 5 | 9 => 9 | 66 => 250 | 70 => 73 | 76 => 263 | 77 => 60 | n => n, fun n => n⟩
theorem sortTs : SlLaysF.n6 Try.prog sortTs_ren := {
  mixed := by kernel_rfl
  f6 := ⟨Try.f144.name, by decide, Try.func144.trans (by kernel_rfl)⟩
  f14 := ⟨Try.f171.name, by decide, Try.func171.trans (by kernel_rfl)⟩
  f15 := Try.func134.trans (by kernel_rfl)
  f20 := ⟨Try.f189.name, by decide, Try.func189.trans (by kernel_rfl)⟩
  f21 := ⟨Try.f190.name, by decide, Try.func190.trans (by kernel_rfl)⟩
  f22 := ⟨Try.f191.name, by decide, Try.func191.trans (by kernel_rfl)⟩
  f23 := ⟨Try.f192.name, by decide, Try.func192.trans (by kernel_rfl)⟩
  f24 := ⟨Try.f193.name, by decide, Try.func193.trans (by kernel_rfl)⟩
  f25 := ⟨Try.f194.name, by decide, Try.func194.trans (by kernel_rfl)⟩
  f26 := ⟨Try.f195.name, by decide, Try.func195.trans (by kernel_rfl)⟩
  f27 := ⟨Try.f196.name, by decide, Try.func196.trans (by kernel_rfl)⟩
  f28 := Try.func153.trans (by kernel_rfl)
  f29 := Try.func154.trans (by kernel_rfl)
  f46 := ⟨Try.f207.name, by decide, Try.func207.trans (by kernel_rfl)⟩
  f47 := Try.func185.trans (by kernel_rfl)
  f48 := Try.func186.trans (by kernel_rfl)
  f49 := ⟨Try.f208.name, by decide, Try.func208.trans (by kernel_rfl)⟩
  f50 := ⟨Try.f209.name, by decide, Try.func209.trans (by kernel_rfl)⟩
  f57 := ⟨Try.f213.name, by decide, Try.func213.trans (by kernel_rfl)⟩
  t0 := Try.underlying0
  a0 := Try.isAgg0
  z0 := Try.sizeOf0
  v0 := Try.zeroValue0
  t3 := Try.underlying3
  a3 := Try.isAgg3
  z3 := Try.sizeOf3
  v3 := Try.zeroValue3
  t4 := Try.underlying4
  a4 := Try.isAgg4
  z4 := Try.sizeOf4
  v4 := Try.zeroValue4
  t5 := Try.underlying5
  a5 := Try.isAgg5
  z5 := Try.sizeOf5
  v5 := Try.zeroValue5
  t9 := Try.underlying9
  a9 := Try.isAgg9
  z9 := Try.sizeOf9
  v9 := Try.zeroValue9
  t22 := Try.underlying27
  a22 := Try.isAgg27
  z22 := Try.sizeOf27
  v22 := Try.zeroValue27
  a24 := Try.isAgg9
  z24 := Try.sizeOf9
  t25 := Try.underlying202
  a25 := Try.isAgg202
  z25 := Try.sizeOf202
  v25 := Try.zeroValue202
  t39 := Try.underlying203
  a39 := Try.isAgg203
  z39 := Try.sizeOf203
  v39 := Try.zeroValue203
  t45 := Try.underlying234
  a45 := Try.isAgg234
  z45 := Try.sizeOf234
  v45 := Try.zeroValue234
  t46 := Try.underlying235
  a46 := Try.isAgg235
  z46 := Try.sizeOf235
  v46 := Try.zeroValue235
  t50 := Try.underlying153
  a50 := Try.isAgg153
  z50 := Try.sizeOf153
  v50 := Try.zeroValue153
  t53 := Try.underlying220
  a53 := Try.isAgg220
  z53 := Try.sizeOf220
  v53 := Try.zeroValue220
  t55 := Try.underlying223
  a55 := Try.isAgg223
  z55 := Try.sizeOf223
  v55 := Try.zeroValue223
  t66 := Try.underlying250
  a66 := Try.isAgg250
  z66 := Try.sizeOf250
  v66 := Try.zeroValue250
  t70 := Try.underlying73
  a70 := Try.isAgg73
  z70 := Try.sizeOf73
  v70 := Try.zeroValue73
  t76 := Try.underlying263
  a76 := Try.isAgg263
  z76 := Try.sizeOf263
  v76 := Try.zeroValue263
  t77 := Try.underlying60
  a77 := Try.isAgg60
  z77 := Try.sizeOf60
  v77 := Try.zeroValue60 }
def collTs_ren : Go.Shelf.Ren := ⟨fun | 8 => 143 | 11 => 170 | n => n, fun | 26 => 9 | 28 => 199 | 24 => 27 | 0 => 0 | 33 => 217 | 4 => 4 | n => n, fun n => n⟩
theorem collTs : SlLaysZ.n8 Try.prog collTs_ren := {
  mixed := by kernel_rfl
  f8 := ⟨Try.f143.name, by decide, Try.func143.trans (by kernel_rfl)⟩
  f11 := ⟨Try.f170.name, by decide, Try.func170.trans (by kernel_rfl)⟩
  t0 := Try.underlying0
  a0 := Try.isAgg0
  z0 := Try.sizeOf0
  v0 := Try.zeroValue0
  t24 := Try.underlying27
  a24 := Try.isAgg27
  z24 := Try.sizeOf27
  v24 := Try.zeroValue27
  t26 := Try.underlying9
  a26 := Try.isAgg9
  z26 := Try.sizeOf9
  v26 := Try.zeroValue9
  t28 := Try.underlying199
  a28 := Try.isAgg199
  z28 := Try.sizeOf199
  v28 := Try.zeroValue199
  i26 := by kernel_rfl }
def keysTs_ren : Go.Shelf.Ren := ⟨fun | 7 => 128 | 10 => 145 | n => n, fun | 23 => 201 | 26 => 9 | 3 => 4 | 28 => 199 | 0 => 0 | 27 => 198 | 33 => 217 | 4 => 4 | n => n, fun n => n⟩
theorem keysTs : SlLaysZ.n7 Try.prog keysTs_ren := {
  mixed := by kernel_rfl
  f7 := ⟨Try.f128.name, by decide, Try.func128.trans (by kernel_rfl)⟩
  f10 := ⟨Try.f145.name, by decide, Try.func145.trans (by kernel_rfl)⟩
  t0 := Try.underlying0
  a0 := Try.isAgg0
  z0 := Try.sizeOf0
  v0 := Try.zeroValue0
  t4 := Try.underlying4
  a4 := Try.isAgg4
  z4 := Try.sizeOf4
  v4 := Try.zeroValue4
  t23 := Try.underlying201
  a23 := Try.isAgg201
  z23 := Try.sizeOf201
  v23 := Try.zeroValue201
  t26 := Try.underlying9
  a26 := Try.isAgg9
  z26 := Try.sizeOf9
  v26 := Try.zeroValue9
  t27 := Try.underlying198
  a27 := Try.isAgg198
  z27 := Try.sizeOf198
  v27 := Try.zeroValue198
  t28 := Try.underlying199
  a28 := Try.isAgg199
  z28 := Try.sizeOf199
  v28 := Try.zeroValue199
  t33 := Try.underlying217
  a33 := Try.isAgg217
  z33 := Try.sizeOf217
  v33 := Try.zeroValue217 }
def strCmpTs_ren : Go.Shelf.Ren := ⟨fun | 106 => 148 | 213 => 173 | 265 => 197 | n => n, fun | 3 => 3 | 5 => 5 | 9 => 9 | 80 => 123 | n => n, fun n => n⟩
theorem strCmpTs106 : Lays.n106 Try.prog strCmpTs_ren := {
  mixed := by kernel_rfl
  f106 := Try.func148.trans (by kernel_rfl)
  f213 := Try.func173.trans (by kernel_rfl)
  f265 := Try.func197.trans (by kernel_rfl)
  t3 := Try.underlying3
  a3 := Try.isAgg3
  z3 := Try.sizeOf3
  v3 := Try.zeroValue3
  t9 := Try.underlying9
  a9 := Try.isAgg9
  z9 := Try.sizeOf9
  v9 := Try.zeroValue9 }

/-- lang.order: by lengths, then by bytes. -/
def ordT (a b : List UInt8) : Int := orI (cmpI (a.length : Int) (b.length : Int)) (Lib.compareBytes a b)
theorem lorder_calls (w : World) (a b : List UInt8) : Calls Try.prog 129 #[.string ⟨a.toArray⟩, .string ⟨b.toArray⟩] w fun e w' => e = .returned (.int .i64 (ordT a b)) ∧ w' = w.alloc (.cells #[.int .i64 (cmpI (a.length : Int) (b.length : Int)), .int .i64 (Lib.compareBytes a b)] 3) := by
  have hor := or2_calls (w.alloc (.cells #[.int .i64 (cmpI (a.length : Int) (b.length : Int)), .int .i64 (Lib.compareBytes a b)] 3)) w.heap.size (cmpI (a.length : Int) (b.length : Int)) (Lib.compareBytes a b) ((Bk.new w 3 [.int .i64 (cmpI (a.length : Int) (b.length : Int)), .int .i64 (Lib.compareBytes a b)]).cell 0) ((Bk.new w 3 [.int .i64 (cmpI (a.length : Int) (b.length : Int)), .int .i64 (Lib.compareBytes a b)]).cell 1)
  have hc : Calls Try.prog 148 #[.string ⟨a.toArray⟩, .string ⟨b.toArray⟩] w fun e w' => e = .returned (.int .i64 (Lib.compareBytes a b)) ∧ w' = w := by
    have h := Any.strings_Compare strCmpTs106 ⟨a.toArray⟩ ⟨b.toArray⟩ w
    exact h
  obtain ⟨A, hA⟩ : ∃ A : ByteArray, A = ⟨a.toArray⟩ := ⟨_, rfl⟩
  obtain ⟨B, hB⟩ : ∃ B : ByteArray, B = ⟨b.toArray⟩ := ⟨_, rfl⟩
  have hsA : A.size = a.length := by rw [hA]; rfl
  have hsB : B.size = b.length := by rw [hB]; rfl
  have hcmp := cmp_calls w (a.length : Int) (b.length : Int)
  unfold ordT
  rw [← hA, ← hB] at hc ⊢
  obtain ⟨x, hx⟩ : ∃ x, x = cmpI (a.length : Int) (b.length : Int) := ⟨_, rfl⟩
  obtain ⟨y, hy⟩ : ∃ y, y = Lib.compareBytes a b := ⟨_, rfl⟩
  rw [← hx, ← hy] at hor ⊢
  rw [← hx] at hcmp
  rw [← hy] at hc
  have Hor := hid hor
  have Hc := hid hc
  have Hcmp := hid hcmp
  clear hor hc hcmp hx hy hA hB
  go_enter Try.func129, Try.ntmps129
  go_wp2_with (first
    | (go_at_call 147; refine Hcmp.out.mono ?_; rintro e w1 ⟨rfl, rfl⟩)
    | (go_at_call 148; refine Hc.out.mono ?_; rintro e w1 ⟨rfl, rfl⟩)
    | (go_at_call 146; refine Hor.out.mono ?_; rintro e w1 ⟨rfl, rfl⟩))
  go_ret
  exact ⟨rfl, rfl⟩
theorem cb_neg : ∀ a b : List UInt8, Lib.compareBytes b a = -Lib.compareBytes a b
  | [], [] => rfl
  | [], _ :: _ => rfl
  | _ :: _, [] => rfl
  | x :: a, y :: b => by
    unfold Lib.compareBytes
    by_cases h1 : x < y
    · have h2 : ¬ y < x := fun h => by rw [UInt8.lt_iff_toNat_lt] at h1 h; omega
      simp [h1, h2]
    · by_cases h2 : y < x
      · simp [h1, h2]
      · rw [if_neg h1, if_neg h2, if_neg h2, if_neg h1]
        exact cb_neg a b
theorem cb_zero : ∀ {a b : List UInt8}, Lib.compareBytes a b = 0 → a = b
  | [], [], _ => rfl
  | [], _ :: _, h => by simp [Lib.compareBytes] at h
  | _ :: _, [], h => by simp [Lib.compareBytes] at h
  | x :: a, y :: b, h => by
    unfold Lib.compareBytes at h
    by_cases h1 : x < y
    · rw [if_pos h1] at h; omega
    · by_cases h2 : y < x
      · rw [if_neg h1, if_pos h2] at h; omega
      · rw [if_neg h1, if_neg h2] at h
        have h3 : x = y := by
          rw [UInt8.lt_iff_toNat_lt] at h1 h2
          exact UInt8.toNat_inj.1 (by omega)
        rw [h3, cb_zero h]
theorem cb_self : ∀ a : List UInt8, Lib.compareBytes a a = 0
  | [] => rfl
  | x :: a => by
    unfold Lib.compareBytes
    have h : ¬ x < x := fun h => by rw [UInt8.lt_iff_toNat_lt] at h; omega
    rw [if_neg h, if_neg h]
    exact cb_self a
theorem cb_trans : ∀ {a b c : List UInt8}, Lib.compareBytes a b < 0 → Lib.compareBytes b c < 0 → Lib.compareBytes a c < 0
  | [], [], _, h, _ => by simp [Lib.compareBytes] at h
  | [], _ :: _, [], _, h => by simp [Lib.compareBytes] at h
  | [], _ :: _, _ :: _, _, _ => by simp [Lib.compareBytes]
  | _ :: _, [], _, h, _ => by simp [Lib.compareBytes] at h
  | _ :: _, _ :: _, [], _, h => by simp [Lib.compareBytes] at h
  | x :: a, y :: b, z :: c, h, k => by
    unfold Lib.compareBytes at h k ⊢
    simp only [UInt8.lt_iff_toNat_lt] at h k ⊢
    by_cases h1 : x.toNat < y.toNat
    · by_cases h2 : y.toNat < z.toNat
      · rw [if_pos (by omega)]; omega
      · by_cases h3 : z.toNat < y.toNat
        · rw [if_neg h2, if_pos h3] at k; omega
        · rw [if_pos (by omega)]; omega
    · by_cases h1' : y.toNat < x.toNat
      · rw [if_neg h1, if_pos h1'] at h; omega
      · rw [if_neg h1, if_neg h1'] at h
        by_cases h2 : y.toNat < z.toNat
        · rw [if_pos (by omega)]; omega
        · by_cases h3 : z.toNat < y.toNat
          · rw [if_neg h2, if_pos h3] at k; omega
          · rw [if_neg h2, if_neg h3] at k
            rw [if_neg (by omega), if_neg (by omega)]
            exact cb_trans h k
/-- One text ahead of another one. -/
def WLt (a b : List UInt8) : Prop := a.length < b.length ∨ (a.length = b.length ∧ Lib.compareBytes a b < 0)
theorem ordT_lt {a b : List UInt8} : ordT a b < 0 ↔ WLt a b := by
  unfold ordT orI cmpI WLt
  by_cases h1 : (a.length : Int) < (b.length : Int)
  · rw [if_pos h1]; simp; omega
  · rw [if_neg h1]
    by_cases h2 : (b.length : Int) < (a.length : Int)
    · rw [if_pos h2]; simp; omega
    · rw [if_neg h2, if_pos rfl]
      constructor
      · exact fun h => .inr ⟨by omega, h⟩
      · rintro (h | ⟨-, h⟩)
        · omega
        · exact h
theorem WLt.trans {a b c : List UInt8} (h : WLt a b) (k : WLt b c) : WLt a c := by
  rcases h with h | ⟨h, h'⟩ <;> rcases k with k | ⟨k, k'⟩
  · exact .inl (by omega)
  · exact .inl (by omega)
  · exact .inl (by omega)
  · exact .inr ⟨by omega, cb_trans h' k'⟩
theorem WLt.irrefl (a : List UInt8) : ¬ WLt a a := by
  rintro (h | ⟨-, h⟩)
  · omega
  · rw [cb_self] at h; omega
theorem WLt.total (a b : List UInt8) : WLt a b ∨ a = b ∨ WLt b a := by
  unfold WLt
  by_cases h1 : a.length < b.length
  · exact .inl (.inl h1)
  · by_cases h2 : b.length < a.length
    · exact .inr (.inr (.inl h2))
    · have h3 := cb_neg a b
      by_cases h4 : Lib.compareBytes a b < 0
      · exact .inl (.inr ⟨by omega, h4⟩)
      · by_cases h5 : Lib.compareBytes a b = 0
        · exact .inr (.inl (cb_zero h5))
        · exact .inr (.inr (.inr ⟨by omega, by omega⟩))
theorem swoT : SWO (ltOf ordT) := by
  have hl : ∀ x y, ltOf ordT x y = true ↔ WLt x y := fun x y => by unfold ltOf; rw [decide_eq_true_eq, ordT_lt]
  have hf : ∀ x y, ltOf ordT x y = false ↔ ¬ WLt x y := fun x y => by rw [← hl]; simp
  refine ⟨fun x => (hf x x).2 (WLt.irrefl x), fun x y z h k => (hl x z).2 (((hl x y).1 h).trans ((hl y z).1 k)), fun x y z h k => (hf x z).2 fun e => ?_⟩
  have h' := (hf x y).1 h
  have k' := (hf y z).1 k
  rcases WLt.total x y with h1 | rfl | h1
  · exact h' h1
  · exact k' e
  · exact k' (h1.trans e)
theorem ordT_part (x y : List UInt8) (h : ltOf ordT x y = false) (k : ltOf ordT y x = false) : x = y := by
  unfold ltOf at h k
  rw [decide_eq_false_iff_not, ordT_lt] at h k
  rcases WLt.total x y with h1 | h1 | h1
  · exact absurd h1 h
  · exact h1
  · exact absurd h1 k
/-- Rising, each once: the texts of a set. -/
def RiseT (l ss : List (List UInt8)) : Prop := ss.Pairwise WLt ∧ ∀ z, z ∈ ss ↔ z ∈ l
/-- Two rising rows of the same texts are the same. -/
theorem rise_eq : ∀ {a b : List (List UInt8)}, a.Pairwise WLt → b.Pairwise WLt → (∀ z, z ∈ a ↔ z ∈ b) → a = b
  | [], [], _, _, _ => rfl
  | [], y :: b, _, _, h => by have := (h y).2 (by simp); cases this
  | x :: a, [], _, _, h => by have := (h x).1 (by simp); cases this
  | x :: a, y :: b, ha, hb, h => by
    obtain ⟨h1, h2⟩ := List.pairwise_cons.1 ha
    obtain ⟨h3, h4⟩ := List.pairwise_cons.1 hb
    have e : x = y := by
      have hx := (h x).1 (by simp)
      have hy := (h y).2 (by simp)
      rcases List.mem_cons.1 hx with e | hx
      · exact e
      · rcases List.mem_cons.1 hy with e | hy
        · exact e.symm
        · exact absurd ((h3 x hx).trans (h1 y hy)) (WLt.irrefl y)
    subst e
    rw [rise_eq h2 h4 fun z => ?_]
    constructor
    · intro hz
      rcases List.mem_cons.1 ((h z).1 (by simp [hz])) with e | e
      · subst e; exact absurd (h1 z hz) (WLt.irrefl z)
      · exact e
    · intro hz
      rcases List.mem_cons.1 ((h z).2 (by simp [hz])) with e | e
      · subst e; exact absurd (h3 z hz) (WLt.irrefl z)
      · exact e
end Go.Proofs.Ytaehooafdbaomaa
