/- Small words on memory, over any program: a block known whole; frames. -/
import Derived.Test.YtjaampgpihicmaaRows
import Derived.WalkKit
import Derived.WalkSpells
import Derived.WalkLawsBesides
import Derived.Deep.Draws
import Derived.Deep.AppendLies
namespace Go.Proofs.Ytjaampgpihicmaa
open Go.RowKit

/-- Block b is a row of cells of element type t, none frozen. -/
def Bk (w : World) (b : Nat) (t : TypeId) (cs : List Value) : Prop := w.heap[b]? = some (.cells cs.toArray t (0, 0))

section
variable {w w' : World} {b : Nat} {t : TypeId} {cs : List Value}
theorem Bk.lt (h : Bk w b t cs) : b < w.heap.size := (Array.getElem?_eq_some_iff.1 h).1
theorem Bk.cell (h : Bk w b t cs) (i : Nat) : w.cell? ⟨b, i, none⟩ = cs[i]? := by
  rw [cell_of_row w b i _ t (0, 0) h]; simp
theorem Bk.free (h : Bk w b t cs) (i : Nat) : w.frozen? ⟨b, i, none⟩ = false := by
  unfold Bk at h
  simp [World.frozen?, h]
theorem Bk.new (w : World) (t : TypeId) (cs : List Value) : Bk (w.alloc (.cells cs.toArray t)) w.heap.size t cs := heap_alloc_new w _
theorem Bk.drew (h : Bk w b t cs) : Bk w.drew b t cs := h
theorem Bk.drewN (h : Bk w b t cs) (n : Nat) : Bk (w.drewN n) b t cs := h
theorem Bk.alloc (h : Bk w b t cs) (o : Obj) : Bk (w.alloc o) b t cs := (Below.heap_alloc w o b h.lt).trans h
theorem Bk.set (h : Bk w b t cs) (i : Nat) (u : Value) : Bk (w.setCell ⟨b, i, none⟩ u) b t (cs.set i u) := by
  unfold Bk at h ⊢
  simp [World.setCell, Array.getElem?_modify, h]
theorem Bk.far (h : Bk w b t cs) {p : Addr} (hp : b ≠ p.block) (u : Value) : Bk (w.setCell p u) b t cs := (Below.heap_setCell w p u b hp).trans h
theorem Bk.below {B : Nat} (h : Bk w b t cs) (hb : Below B w w') (hg : b < B) : Bk w' b t cs := (hb.block b hg).trans h
theorem Bk.grown {row : Option Nat} (h : Bk w b t cs) (hb : w.grownBy w' row) (hg : some b ≠ row) : Bk w' b t cs := (hb.block b h.lt hg).trans h
theorem Bk.ne {b' : Nat} {t' : TypeId} {cs' : List Value} (h : Bk w b t cs) (h' : Bk w b' t' cs') (hne : t ≠ t') : b ≠ b' := by
  rintro rfl
  unfold Bk at h h'
  rw [h] at h'
  injection h' with h'
  injection h' with _ ht
  exact hne ht
theorem Bk.of {cs' : List Value} (h : Bk w b t cs) (e : cs = cs') : Bk w b t cs' := e ▸ h
theorem Bk.own_ne {base : Nat} {e : TypeId} {size n : Nat} {v : Value} {xs : List Value} (h : Bk w b t cs) (ho : w.ownsRow base e size v n xs) (hne : e ≠ t) : v.ownBlock ≠ some b := by
  rcases ho.2 with ⟨rfl, _⟩ | ⟨g, cap, cur, rfl, _, hh, _⟩
  · simp [Value.ownBlock]
  · intro he
    have hg : g = b := by simpa [Value.ownBlock] using he
    subst hg
    unfold Bk at h
    rw [hh] at h
    injection h with h
    injection h with _ ht
    exact hne ht
end

section
variable {a w w' : World} {row : Option Nat}
theorem gb_trans (h : a.grownBy w row) (k : w.grownBy w' row) : a.grownBy w' row :=
  ⟨k.os.trans h.os, k.tape.trans h.tape, k.output.trans h.output, Nat.le_trans h.size k.size, fun i hi hn => (k.block i (Nat.lt_of_lt_of_le hi h.size) hn).trans (h.block i hi hn)⟩
theorem gb_drew (h : a.grownBy w row) : a.grownBy w.drew row := ⟨h.os, h.tape, h.output, h.size, h.block⟩
theorem gb_drewN (h : a.grownBy w row) (n : Nat) : a.grownBy (w.drewN n) row := ⟨h.os, h.tape, h.output, h.size, h.block⟩
theorem gb_alloc (h : a.grownBy w row) (o : Obj) : a.grownBy (w.alloc o) row :=
  ⟨h.os, h.tape, h.output, Nat.le_trans h.size (by simp), fun i hi hne => (Below.heap_alloc w o i (Nat.lt_of_lt_of_le hi h.size)).trans (h.block i hi hne)⟩
theorem gb_set (h : a.grownBy w row) {p : Addr} (hp : some p.block = row ∨ a.heap.size ≤ p.block) (u : Value) : a.grownBy (w.setCell p u) row :=
  ⟨h.os, h.tape, h.output, by simpa [World.setCell] using h.size, fun i hi hne => (Below.heap_setCell w p u i (by
    rintro rfl
    rcases hp with hp | hp
    · exact hne hp
    · omega)).trans (h.block i hi hne)⟩
theorem gb_setb {b i : Nat} {u : Value} (h : a.grownBy w (some b)) : a.grownBy (w.setCell ⟨b, i, none⟩ u) (some b) := gb_set h (.inl rfl) u
theorem gb_of_below (h : Below a.heap.size a w) (row : Option Nat) : a.grownBy w row := ⟨h.os, h.tape, h.output, h.size, fun i hi _ => h.block i hi⟩
theorem below_of_gb (h : a.grownBy w none) : Below a.heap.size a w := ⟨h.os, h.tape, h.output, h.size, fun i hi => h.block i hi (by simp)⟩
theorem below_of_gb' {B : Nat} (h : a.grownBy w row) (hB : B ≤ a.heap.size) (hr : ∀ k, row = some k → B ≤ k) : Below B a w := (Below.refl B a).grown h hB hr
theorem below_drewN {B : Nat} (h : Below B a w) (n : Nat) : Below B a (w.drewN n) := ⟨h.os, h.tape, h.output, h.size, h.block⟩
end

section
variable {w w' : World} {base : Nat} {e : TypeId} {size n : Nat} {v : Value} {xs : List Value}
theorem own_set (h : w.ownsRow base e size v n xs) {p : Addr} (hp : v.ownBlock ≠ some p.block) (u : Value) : (w.setCell p u).ownsRow base e size v n xs :=
  h.kept (row := some p.block) (gb_set (World.grownBy.refl w _) (.inl rfl) u) (.inr hp)
theorem own_drewN (h : w.ownsRow base e size v n xs) (k : Nat) : (w.drewN k).ownsRow base e size v n xs := h
theorem own_gb {row : Option Nat} (h : w.ownsRow base e size v n xs) (hg : w.grownBy w' row) (hne : ∀ k, row = some k → v.ownBlock ≠ some k) : w'.ownsRow base e size v n xs := by
  refine h.kept hg ?_
  cases row with
  | none => cases hv : v.ownBlock <;> simp
  | some k => exact .inr (hne k rfl)
theorem own_below (h : w.ownsRow base e size v n xs) (hb : Below w.heap.size w w') : w'.ownsRow base e size v n xs :=
  own_gb h (gb_of_below hb none) (fun k hk => by cases hk)
theorem own_mono {base' : Nat} (h : w.ownsRow base e size v n xs) (hb : base' ≤ base) : w.ownsRow base' e size v n xs := by
  refine ⟨h.1, ?_⟩
  rcases h.2 with h2 | ⟨g, cap, cur, hv, hg, r⟩
  · exact .inl h2
  · exact .inr ⟨g, cap, cur, hv, Nat.le_trans hb hg, r⟩
end

theorem frozen_alloc_lt (w : World) (o : Obj) (a : Addr) (h : a.block < w.heap.size) : (w.alloc o).frozen? a = w.frozen? a :=
  World.frozen?_of_block (Below.heap_alloc w o a.block h)

theorem hid {p : Prop} (h : p) : Hid p := h

theorem str_ext {s : ByteArray} {k : Nat} (h : k < s.size) : s.data.toList.drop k = s[k] :: s.data.toList.drop (k + 1) := by
  rw [List.drop_eq_getElem_cons (by simpa using h)]
  rfl
theorem str_end {s : ByteArray} {k : Nat} (h : s.size ≤ k) : s.data.toList.drop k = [] := List.drop_eq_nil_of_le (by simpa using h)
theorem byte_lt (c : UInt8) : 0 ≤ (c.toNat : Int) ∧ (c.toNat : Int) ≤ 255 := by have := c.toNat_lt; omega
theorem byte_eq (c : UInt8) (n : Nat) (hn : n < 256) : ((c.toNat : Int) == (n : Int)) = (c == UInt8.ofNat n) := by
  rw [Bool.eq_iff_iff, beq_iff_eq, beq_iff_eq]
  constructor
  · intro h
    have h : c.toNat = n := by omega
    rw [← h]; simp
  · rintro rfl
    simp [Nat.mod_eq_of_lt hn]
end Go.Proofs.Ytjaampgpihicmaa
