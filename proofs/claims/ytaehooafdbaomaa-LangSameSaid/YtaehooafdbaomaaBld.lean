/- strings.Builder: the library's contracts at this program (a builder that is the call's own, above all that it reads). -/
import Derived.Test.YtaehooafdbaomaaRep
import Derived.Shelf.Strings.BuilderK
namespace Go.Proofs.Ytaehooafdbaomaa
open Go.RowKit Go.Shelf

def bldLaid_ren : Go.Shelf.Ren := ⟨fun | 166 => 114 | 240 => 133 | 276 => 152 | 167 => 117 | 169 => 71 | n => n, fun | 0 => 0 | 3 => 3 | 4 => 4 | 5 => 5 | 9 => 9 | 20 => 20 | 37 => 102 | 70 => 119 | 72 => 121 | 75 => 182 | 80 => 123 | 127 => 185 | 164 => 227 | n => n, fun n => n⟩
theorem bldLaid166 : Lays.n166 Try.prog bldLaid_ren := {
  mixed := by kernel_rfl
  f166 := Try.func114.trans (by kernel_rfl)
  f240 := Try.func133.trans (by kernel_rfl)
  f276 := Try.func152.trans (by kernel_rfl)
  t0 := Try.underlying0
  a0 := Try.isAgg0
  z0 := Try.sizeOf0
  v0 := Try.zeroValue0
  t3 := Try.underlying3
  a3 := Try.isAgg3
  z3 := Try.sizeOf3
  v3 := Try.zeroValue3
  t4 := Try.underlying4
  a4 := Try.isAgg4
  z4 := Try.sizeOf4
  v4 := Try.zeroValue4
  t9 := Try.underlying9
  a9 := Try.isAgg9
  z9 := Try.sizeOf9
  v9 := Try.zeroValue9
  t20 := Try.underlying20
  a20 := Try.isAgg20
  z20 := Try.sizeOf20
  v20 := Try.zeroValue20
  t37 := Try.underlying102
  a37 := Try.isAgg102
  z37 := Try.sizeOf102
  v37 := Try.zeroValue102
  t70 := Try.underlying119
  a70 := Try.isAgg119
  z70 := Try.sizeOf119
  v70 := Try.zeroValue119
  t72 := Try.underlying121
  a72 := Try.isAgg121
  z72 := Try.sizeOf121
  v72 := Try.zeroValue121
  t75 := Try.underlying182
  a75 := Try.isAgg182
  z75 := Try.sizeOf182
  v75 := Try.zeroValue182
  t164 := Try.underlying227
  a164 := Try.isAgg227
  z164 := Try.sizeOf227
  v164 := Try.zeroValue227 }
theorem bldLaid167 : Lays.n167 Try.prog bldLaid_ren := {
  mixed := by kernel_rfl
  f167 := Try.func117.trans (by kernel_rfl)
  f240 := Try.func133.trans (by kernel_rfl)
  f276 := Try.func152.trans (by kernel_rfl)
  t0 := Try.underlying0
  a0 := Try.isAgg0
  z0 := Try.sizeOf0
  v0 := Try.zeroValue0
  t4 := Try.underlying4
  a4 := Try.isAgg4
  z4 := Try.sizeOf4
  v4 := Try.zeroValue4
  t5 := Try.underlying5
  a5 := Try.isAgg5
  z5 := Try.sizeOf5
  v5 := Try.zeroValue5
  t9 := Try.underlying9
  a9 := Try.isAgg9
  z9 := Try.sizeOf9
  v9 := Try.zeroValue9
  t20 := Try.underlying20
  a20 := Try.isAgg20
  z20 := Try.sizeOf20
  v20 := Try.zeroValue20
  t37 := Try.underlying102
  a37 := Try.isAgg102
  z37 := Try.sizeOf102
  v37 := Try.zeroValue102
  t70 := Try.underlying119
  a70 := Try.isAgg119
  z70 := Try.sizeOf119
  v70 := Try.zeroValue119
  t72 := Try.underlying121
  a72 := Try.isAgg121
  z72 := Try.sizeOf121
  v72 := Try.zeroValue121
  t75 := Try.underlying182
  a75 := Try.isAgg182
  z75 := Try.sizeOf182
  v75 := Try.zeroValue182
  t164 := Try.underlying227
  a164 := Try.isAgg227
  z164 := Try.sizeOf227
  v164 := Try.zeroValue227 }
theorem bldLaid169 : Lays.n169 Try.prog bldLaid_ren := {
  mixed := by kernel_rfl
  f169 := Try.func71.trans (by kernel_rfl)
  t0 := Try.underlying0
  a0 := Try.isAgg0
  z0 := Try.sizeOf0
  v0 := Try.zeroValue0
  t3 := Try.underlying3
  a3 := Try.isAgg3
  z3 := Try.sizeOf3
  v3 := Try.zeroValue3
  t9 := Try.underlying9
  a9 := Try.isAgg9
  z9 := Try.sizeOf9
  v9 := Try.zeroValue9
  t37 := Try.underlying102
  a37 := Try.isAgg102
  z37 := Try.sizeOf102
  v37 := Try.zeroValue102
  t70 := Try.underlying119
  a70 := Try.isAgg119
  z70 := Try.sizeOf119
  v70 := Try.zeroValue119
  t72 := Try.underlying121
  a72 := Try.isAgg121
  z72 := Try.sizeOf121
  v72 := Try.zeroValue121
  t127 := Try.underlying185
  a127 := Try.isAgg185
  z127 := Try.sizeOf185
  v127 := Try.zeroValue185 }
theorem bldExtra : Builder.Extra Try.prog bldLaid_ren where
  sizeBuilder := by kernel_rfl
  liesBuilder := by kernel_rfl
  t5 := Try.underlying5
  a5 := Try.isAgg5
  z5 := Try.sizeOf5
  v5 := Try.zeroValue5
  infoByte := by kernel_rfl
  cellsByte := by kernel_rfl
  sizeByte := by kernel_rfl
  neB5 := by decide
/-- A builder of the call's own in block b, nothing below B its own; it holds these bytes. -/
def BldIs (B b : Nat) (l : List UInt8) (w : World) : Prop := Lib.IsBuilderF 121 5 B b (Lib.byteCells l) w
/-- What a builder's call changes: the builder's block, rows of bytes. -/
def BldKp (b : Nat) (w w' : World) : Prop := Lib.OthersKept 5 (some b) w w'
theorem BldIs.new (w : World) : BldIs w.heap.size w.heap.size [] (w.alloc (.cells #[.pointer none, .slice none 0 0] 121)) := Lib.IsBuilderF.of (Lib.fresh_isBuilder _ _ w)
theorem BldIs.lt {B b : Nat} {l : List UInt8} {w : World} (h : BldIs B b l w) : b < w.heap.size := by
  rcases h with h | h <;> exact h.lt
theorem BldIs.le {B b : Nat} {l : List UInt8} {w : World} (h : BldIs B b l w) : B ≤ b := by
  rcases h with h | h <;> exact h.1
theorem BldIs.alloc {B b : Nat} {l : List UInt8} {w : World} (h : BldIs B b l w) (o : Obj) : BldIs B b l (w.alloc o) := Lib.IsBuilderF.alloc h o
theorem BldIs.drew {B b : Nat} {l : List UInt8} {w : World} (h : BldIs B b l w) : BldIs B b l w.drew := h
/-- A change that is no builder's. -/
theorem BldIs.grown {B b : Nat} {l : List UInt8} {w w' : World} {row : Option Nat} (h : BldIs B b l w) (hg : w.grownBy w' row) (hr : ∀ k, row = some k → k ≠ b ∧ ∃ T cs, Bk w k T cs ∧ T ≠ 5) : BldIs B b l w' := by
  have key : ∀ p, Lib.BuilderAtF 121 5 B b p (Lib.byteCells l) w → Lib.BuilderAtF 121 5 B b p (Lib.byteCells l) w' := by
    intro p hp
    have hlt := hp.lt
    obtain ⟨hB, v, hb, hown, hne⟩ := hp
    refine ⟨hB, v, (hg.block b hlt ?_).trans hb, hown.kept hg ?_, hne⟩
    · intro e
      exact (hr b e.symm).1 rfl
    · cases hrow : row with
      | none =>
        cases hv : v.ownBlock with
        | none => exact .inl rfl
        | some g => exact .inr (fun e => by cases e)
      | some k =>
        obtain ⟨_, T, cs, hk, hT⟩ := hr k hrow
        exact .inr (Lib.ownBlock_neF hown hk hT)
  rcases h with h | h
  · exact .inl (key _ h)
  · exact .inr (key _ h)
theorem BldIs.below {B b : Nat} {l : List UInt8} {w w' : World} (h : BldIs B b l w) (hb : Below w.heap.size w w') : BldIs B b l w' :=
  h.grown (row := none) ⟨hb.os, hb.tape, hb.output, hb.size, fun k hk _ => hb.block k hk⟩ (fun _ e => by cases e)
theorem BldIs.set {B b k : Nat} {l : List UInt8} {w : World} {T : TypeId} {cs : List Value} (h : BldIs B b l w) (hk : Bk w k T cs) (hT : T ≠ 5) (hkb : k ≠ b) (i : Nat) (u : Value) : BldIs B b l (w.setCell ⟨k, i, none⟩ u) :=
  h.grown (row := some k) ⟨rfl, rfl, rfl, by simp [World.setCell], fun j _ hj => Below.heap_setCell _ _ _ _ (fun e => hj (by simp [e]))⟩ (fun j e => by cases e; exact ⟨hkb, T, cs, hk, hT⟩)
theorem BldKp.refl (b : Nat) (w : World) : BldKp b w w := Lib.OthersKept.refl _ _ w
theorem BldKp.trans {b : Nat} {w w' w'' : World} (h : BldKp b w w') (k : BldKp b w' w'') : BldKp b w w'' := Lib.OthersKept.trans h k
theorem BldKp.alloc {b : Nat} {w w' : World} (h : BldKp b w w') (o : Obj) : BldKp b w (w'.alloc o) := Lib.OthersKept.alloc h o
theorem BldKp.drew {b : Nat} {w w' : World} (h : BldKp b w w') : BldKp b w w'.drew := Lib.OthersKept.drew h
theorem BldKp.below {b : Nat} {w w' : World} (hb : Below w.heap.size w w') : BldKp b w w' := fun k _o hk _ _ => (hb.block k (Array.getElem?_eq_some_iff.1 hk).1).trans hk
/-- A store into a block that is new. -/
theorem BldKp.set {b : Nat} {w w' : World} (h : BldKp b w w') {p : Addr} (hp : w.heap.size ≤ p.block) (u : Value) : BldKp b w (w'.setCell p u) := fun k o hk hb ho =>
  (Below.heap_setCell _ _ _ _ (fun e => by have := (Array.getElem?_eq_some_iff.1 hk).1; omega)).trans (h k o hk hb ho)
theorem Bk.bld {b k : Nat} {w w' : World} {T : TypeId} {cs : List Value} (h : Bk w k T cs) (hk : BldKp b w w') (hkb : k ≠ b) (hT : T ≠ 5) : Bk w' k T cs :=
  hk k _ h (fun e => hkb (Option.some.inj e)) (fun c fz e => by injection e with _ e2; exact hT e2)
theorem bldWriteString (B b : Nat) (l m : List UInt8) (w : World) (h : BldIs B b l w) (hlen : l.length + m.length ≤ 140737488355328) (hB : B ≤ w.heap.size) :
    Calls Try.prog 114 #[.pointer (some ⟨b, 0, none⟩), .string ⟨m.toArray⟩] w fun e w' => e = .returned (.tuple #[.int .i64 m.length, .nilIface]) ∧ BldIs B b (l ++ m) w' ∧ Below B w w' ∧ BldKp b w w' := by
  have hc : (⟨m.toArray⟩ : ByteArray).size = m.length := by rw [Lib.size_eq]
  have h1 := Any.Builder_WriteString_k bldLaid166 bldExtra B b (Lib.byteCells l) ⟨m.toArray⟩ w h (by rw [Lib.byteCells_length, hc]; exact hlen) hB
  refine h1.mono ?_
  rintro e w' ⟨rfl, h2, h3, h4⟩
  refine ⟨by rw [hc], .inr ?_, h3, h4⟩
  have : Lib.byteCells l ++ Lib.strCells ⟨m.toArray⟩ = Lib.byteCells (l ++ m) := by simp [Lib.byteCells, Lib.strCells]
  rw [this] at h2
  exact h2
theorem bldWriteByte (B b : Nat) (l : List UInt8) (c : UInt8) (w : World) (h : BldIs B b l w) (hlen : l.length + 1 ≤ 140737488355328) (hB : B ≤ w.heap.size) :
    Calls Try.prog 117 #[.pointer (some ⟨b, 0, none⟩), .int .u8 c.toNat] w fun e w' => e = .returned .nilIface ∧ BldIs B b (l ++ [c]) w' ∧ Below B w w' ∧ BldKp b w w' := by
  refine (Any.Builder_WriteByte_k bldLaid167 bldExtra B b (Lib.byteCells l) c.toNat w h (by rw [Lib.byteCells_length]; exact hlen) hB).mono ?_
  rintro e w' ⟨rfl, h2, h3, h4⟩
  refine ⟨rfl, .inr ?_, h3, h4⟩
  have : Lib.byteCells l ++ [.int .u8 c.toNat] = Lib.byteCells (l ++ [c]) := by simp [Lib.byteCells]
  rw [this] at h2
  exact h2
theorem bldString (B b : Nat) (l : List UInt8) (w : World) (h : BldIs B b l w) (hB : B ≤ w.heap.size) :
    Calls Try.prog 71 #[.pointer (some ⟨b, 0, none⟩)] w fun e w' => e = .returned (.string ⟨l.toArray⟩) ∧ BldIs B b l w' ∧ Below B w w' ∧ BldKp b w w' :=
  Any.Builder_String_any_k bldLaid169 bldExtra B b l w h hB
end Go.Proofs.Ytaehooafdbaomaa
