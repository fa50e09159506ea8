/- Rows of ints, strings, bools, productions read in a world: predicates kept by Below. No program but its types' numbers. -/
import Derived.Test.YtjaampgpihicmaaBase
namespace Go.Proofs.Ytjaampgpihicmaa
open Go.RowKit

/-- n cells behind a slice, in blocks of which D holds, cell i being such as p says. -/
def CellsD (W : World) (D : Nat → Prop) (ga : Option Addr) (n : Nat) (p : Nat → Value → Prop) : Prop :=
  ∀ i, i < n → ∃ (g off : Nat) (u : Value), ga = some ⟨g, off, none⟩ ∧ D g ∧ W.cell? ⟨g, off + i, none⟩ = some u ∧ p i u
/-- .. all below block B. -/
def Cells (W : World) (B : Nat) (ga : Option Addr) (n : Nat) (p : Nat → Value → Prop) : Prop := CellsD W (fun k => k < B) ga n p

/-- w' is w but for blocks of which S holds, and new ones. -/
structure Kp (S : Nat → Prop) (w w' : World) : Prop where
  os : w'.os = w.os
  tape : w'.tape = w.tape
  output : w'.output = w.output
  size : w.heap.size ≤ w'.heap.size
  block : ∀ k, k < w.heap.size → ¬ S k → w'.heap[k]? = w.heap[k]?

section
variable {S S' : Nat → Prop} {w w' w'' : World}
theorem Kp.refl (S : Nat → Prop) (w : World) : Kp S w w := ⟨rfl, rfl, rfl, Nat.le_refl _, fun _ _ _ => rfl⟩
theorem Kp.trans (h : Kp S w w') (k : Kp S w' w'') : Kp S w w'' :=
  ⟨k.os.trans h.os, k.tape.trans h.tape, k.output.trans h.output, Nat.le_trans h.size k.size, fun i hi hn => (k.block i (Nat.lt_of_lt_of_le hi h.size) hn).trans (h.block i hi hn)⟩
theorem Kp.mono (h : Kp S w w') (hs : ∀ k, k < w.heap.size → S k → S' k) : Kp S' w w' := ⟨h.os, h.tape, h.output, h.size, fun k hk hn => h.block k hk fun e => hn (hs k hk e)⟩
theorem Kp.drewN (h : Kp S w w') (n : Nat) : Kp S w (w'.drewN n) := ⟨h.os, h.tape, h.output, h.size, h.block⟩
theorem Kp.drew (h : Kp S w w') : Kp S w w'.drew := ⟨h.os, h.tape, h.output, h.size, h.block⟩
theorem Kp.alloc (h : Kp S w w') (o : Obj) : Kp S w (w'.alloc o) :=
  ⟨h.os, h.tape, h.output, Nat.le_trans h.size (by simp), fun i hi hn => (Below.heap_alloc w' o i (Nat.lt_of_lt_of_le hi h.size)).trans (h.block i hi hn)⟩
theorem Kp.set (h : Kp S w w') {p : Addr} (hp : S p.block ∨ w.heap.size ≤ p.block) (u : Value) : Kp S w (w'.setCell p u) :=
  ⟨h.os, h.tape, h.output, by simpa [World.setCell] using h.size, fun i hi hn => (Below.heap_setCell w' p u i (by
    rintro rfl
    rcases hp with hp | hp
    · exact hn hp
    · omega)).trans (h.block i hi hn)⟩
theorem Kp.grown {row : Option Nat} (h : Kp S w w') (hg : w'.grownBy w'' row) (hr : ∀ k, row = some k → k < w.heap.size → S k) : Kp S w w'' :=
  ⟨hg.os.trans h.os, hg.tape.trans h.tape, hg.output.trans h.output, Nat.le_trans h.size hg.size, fun i hi hn => (hg.block i (Nat.lt_of_lt_of_le hi h.size) (fun e => hn (hr i e.symm hi))).trans (h.block i hi hn)⟩
theorem Kp.below {B : Nat} (h : Kp S w w') (hb : Below B w' w'') (hr : ∀ k, k < w.heap.size → ¬ S k → k < B) : Kp S w w'' :=
  ⟨hb.os.trans h.os, hb.tape.trans h.tape, hb.output.trans h.output, Nat.le_trans h.size hb.size, fun i hi hn => (hb.block i (hr i hi hn)).trans (h.block i hi hn)⟩
theorem Kp.to_below {B : Nat} (h : Kp S w w') (hB : B ≤ w.heap.size) (hs : ∀ k, S k → B ≤ k) : Below B w w' :=
  ⟨h.os, h.tape, h.output, h.size, fun k hk => h.block k (by omega) fun e => by have := hs k e; omega⟩
theorem Kp.cell (h : Kp S w w') {g i : Nat} {u : Value} (hc : w.cell? ⟨g, i, none⟩ = some u) (hn : ¬ S g) : w'.cell? ⟨g, i, none⟩ = some u := by
  have hlt : g < w.heap.size := World.block_lt_of_cell? w _ hc
  have hb := h.block g hlt hn
  rw [← hc]
  unfold World.cell?
  simp only [hb]
theorem Bk.kp {b : Nat} {t : TypeId} {cs : List Value} (h : Bk w b t cs) (hk : Kp S w w') (hn : ¬ S b) : Bk w' b t cs := (hk.block b h.lt hn).trans h
theorem own_kp {base e size n : Nat} {v : Value} {xs : List Value} (h : w.ownsRow base e size v n xs) (hk : Kp S w w') (hn : ∀ g, v.ownBlock = some g → ¬ S g) : w'.ownsRow base e size v n xs := by
  rcases h with ⟨h1, h2 | ⟨g, cap, cur, rfl, hg, hh, r⟩⟩
  · exact ⟨h1, .inl h2⟩
  · exact ⟨h1, .inr ⟨g, cap, cur, rfl, hg, (hk.block g (Array.getElem?_eq_some_iff.1 hh).1 (hn g rfl)).trans hh, r⟩⟩
end

section
variable {W W' : World} {B B' n : Nat} {ga : Option Addr} {p q : Nat → Value → Prop} {D D' S : Nat → Prop}
theorem CellsD.mono (h : CellsD W D ga n p) (hD : ∀ k, D k → D' k) (hq : ∀ i u, i < n → p i u → q i u) : CellsD W D' ga n q := by
  intro i hi
  obtain ⟨g, off, u, h1, h2, h3, h4⟩ := h i hi
  exact ⟨g, off, u, h1, hD g h2, h3, hq i u hi h4⟩
theorem CellsD.kp (h : CellsD W D ga n p) (hk : Kp S W W') (hd : ∀ k, D k → ¬ S k) (hq : ∀ i u, i < n → p i u → q i u) : CellsD W' D ga n q := by
  intro i hi
  obtain ⟨g, off, u, h1, h2, h3, h4⟩ := h i hi
  exact ⟨g, off, u, h1, h2, hk.cell h3 (hd g h2), hq i u hi h4⟩
theorem Cells.mono (h : Cells W B ga n p) (hB : B ≤ B') (hq : ∀ i u, i < n → p i u → q i u) : Cells W B' ga n q :=
  CellsD.mono h (fun _ hk => Nat.lt_of_lt_of_le hk hB) hq
theorem Cells.below (h : Cells W B ga n p) (hb : Below B W W') (hq : ∀ i u, i < n → p i u → q i u) : Cells W' B ga n q := by
  intro i hi
  obtain ⟨g, off, u, h1, h2, h3, h4⟩ := h i hi
  exact ⟨g, off, u, h1, h2, (hb.cell (p := ⟨g, off + i, none⟩) h2).trans h3, hq i u hi h4⟩
end

def RowID (W : World) (D : Nat → Prop) (ga : Option Addr) (zs : List Int) : Prop := CellsD W D ga zs.length fun i u => u = .int .i64 (zs.getD i 0)
def RowBD (W : World) (D : Nat → Prop) (ga : Option Addr) (bs : List Bool) : Prop := CellsD W D ga bs.length fun i u => u = .bool (bs.getD i false)
def RowIID (W : World) (D : Nat → Prop) (ga : Option Addr) (zss : List (List Int)) : Prop :=
  CellsD W D ga zss.length fun i u => ∃ (ga' : Option Addr) (cap : Nat), u = .slice ga' (zss.getD i []).length cap ∧ RowID W D ga' (zss.getD i []) ∧ (ga' = none → cap = 0)
section
variable {W W' : World} {D D' S : Nat → Prop} {ga : Option Addr}
theorem RowID.mono {zs : List Int} (h : RowID W D ga zs) (hD : ∀ k, D k → D' k) : RowID W D' ga zs := CellsD.mono h hD fun _ _ _ h => h
theorem RowID.kp {zs : List Int} (h : RowID W D ga zs) (hk : Kp S W W') (hd : ∀ k, D k → ¬ S k) : RowID W' D ga zs := CellsD.kp h hk hd fun _ _ _ h => h
theorem RowBD.mono {zs : List Bool} (h : RowBD W D ga zs) (hD : ∀ k, D k → D' k) : RowBD W D' ga zs := CellsD.mono h hD fun _ _ _ h => h
theorem RowBD.kp {zs : List Bool} (h : RowBD W D ga zs) (hk : Kp S W W') (hd : ∀ k, D k → ¬ S k) : RowBD W' D ga zs := CellsD.kp h hk hd fun _ _ _ h => h
theorem RowIID.mono {zs : List (List Int)} (h : RowIID W D ga zs) (hD : ∀ k, D k → D' k) : RowIID W D' ga zs :=
  CellsD.mono h hD fun _ _ _ ⟨a, c, h1, h2, h3⟩ => ⟨a, c, h1, h2.mono hD, h3⟩
theorem RowIID.kp {zs : List (List Int)} (h : RowIID W D ga zs) (hk : Kp S W W') (hd : ∀ k, D k → ¬ S k) : RowIID W' D ga zs :=
  CellsD.kp h hk hd fun _ _ _ ⟨a, c, h1, h2, h3⟩ => ⟨a, c, h1, h2.kp hk hd, h3⟩
theorem RowID.at {zs : List Int} (h : RowID W D ga zs) {i : Nat} (hi : i < zs.length) : ∃ g off : Nat, ga = some ⟨g, off, none⟩ ∧ D g ∧ W.cell? ⟨g, off + i, none⟩ = some (.int .i64 zs[i]) := by
  obtain ⟨g, off, u, h1, h2, h3, rfl⟩ := h i hi
  exact ⟨g, off, h1, h2, by rw [h3]; simp [List.getD, List.getElem?_eq_getElem hi]⟩
theorem RowIID.at0 {zs : List (List Int)} (h : RowIID W D ga zs) {i : Nat} (hi : i < zs.length) : ∃ (g off : Nat) (ga' : Option Addr) (cap : Nat), ga = some ⟨g, off, none⟩ ∧ D g ∧
    W.cell? ⟨g, off + i, none⟩ = some (.slice ga' zs[i].length cap) ∧ RowID W D ga' zs[i] ∧ (ga' = none → cap = 0) := by
  obtain ⟨g, off, u, h1, h2, h3, ga', cap, h4, h5, h6⟩ := h i hi
  have e : zs.getD i [] = zs[i] := by simp [List.getD, List.getElem?_eq_getElem hi]
  rw [e] at h4 h5
  exact ⟨g, off, ga', cap, h1, h2, by rw [h3, h4], h5, h6⟩
theorem RowIID.at {zs : List (List Int)} (h : RowIID W D ga zs) {i : Nat} (hi : i < zs.length) : ∃ (g off : Nat) (ga' : Option Addr) (cap : Nat), ga = some ⟨g, off, none⟩ ∧ D g ∧
    W.cell? ⟨g, off + i, none⟩ = some (.slice ga' zs[i].length cap) ∧ RowID W D ga' zs[i] := by
  obtain ⟨g, off, ga', cap, h1, h2, h3, h4, _⟩ := h.at0 hi
  exact ⟨g, off, ga', cap, h1, h2, h3, h4⟩
theorem RowIID.intro {zs : List (List Int)} (h : ∀ i x, zs[i]? = some x → ∃ (g off : Nat) (ga' : Option Addr) (cap : Nat), ga = some ⟨g, off, none⟩ ∧ D g ∧
    W.cell? ⟨g, off + i, none⟩ = some (.slice ga' x.length cap) ∧ RowID W D ga' x ∧ (ga' = none → cap = 0)) : RowIID W D ga zs := by
  intro i hi
  obtain ⟨g, off, ga', cap, h1, h2, h3, h4, h5⟩ := h i zs[i] (List.getElem?_eq_getElem hi)
  have e : zs.getD i [] = zs[i] := by simp [List.getD, List.getElem?_eq_getElem hi]
  exact ⟨g, off, _, h1, h2, h3, ga', cap, by rw [e], by rw [e]; exact h4, h5⟩
end

def RowI (W : World) (B : Nat) (ga : Option Addr) (zs : List Int) : Prop := Cells W B ga zs.length fun i u => u = .int .i64 (zs.getD i 0)
def RowS (W : World) (B : Nat) (ga : Option Addr) (ss : List ByteArray) : Prop := Cells W B ga ss.length fun i u => u = .string (ss.getD i ⟨#[]⟩)
def RowB (W : World) (B : Nat) (ga : Option Addr) (bs : List Bool) : Prop := Cells W B ga bs.length fun i u => u = .bool (bs.getD i false)
/-- A row of rows of ints. -/
def RowII (W : World) (B : Nat) (ga : Option Addr) (zss : List (List Int)) : Prop :=
  Cells W B ga zss.length fun i u => ∃ (ga' : Option Addr) (cap : Nat), u = .slice ga' (zss.getD i []).length cap ∧ RowI W B ga' (zss.getD i [])
/-- Productions: a left side and a right side each. -/
def RowP (W : World) (B : Nat) (ga : Option Addr) (ps : List (Int × List Int)) : Prop :=
  ∀ i x, ps[i]? = some x → ∃ (g off : Nat) (ga' : Option Addr) (cap : Nat), ga = some ⟨g, off, none⟩ ∧ g < B ∧ W.cell? ⟨g, off + i * 2, none⟩ = some (.int .i64 x.1) ∧
    W.cell? ⟨g, off + i * 2 + 1, none⟩ = some (.slice ga' x.2.length cap) ∧ RowI W B ga' x.2

section
variable {W W' : World} {B B' : Nat} {ga : Option Addr}
theorem RowI.below {zs : List Int} (h : RowI W B ga zs) (hb : Below B W W') : RowI W' B ga zs := Cells.below h hb fun _ _ _ h => h
theorem RowI.mono {zs : List Int} (h : RowI W B ga zs) (hB : B ≤ B') : RowI W B' ga zs := Cells.mono h hB fun _ _ _ h => h
theorem RowS.below {zs : List ByteArray} (h : RowS W B ga zs) (hb : Below B W W') : RowS W' B ga zs := Cells.below h hb fun _ _ _ h => h
theorem RowS.mono {zs : List ByteArray} (h : RowS W B ga zs) (hB : B ≤ B') : RowS W B' ga zs := Cells.mono h hB fun _ _ _ h => h
theorem RowB.below {zs : List Bool} (h : RowB W B ga zs) (hb : Below B W W') : RowB W' B ga zs := Cells.below h hb fun _ _ _ h => h
theorem RowB.mono {zs : List Bool} (h : RowB W B ga zs) (hB : B ≤ B') : RowB W B' ga zs := Cells.mono h hB fun _ _ _ h => h
theorem RowII.below {zs : List (List Int)} (h : RowII W B ga zs) (hb : Below B W W') : RowII W' B ga zs :=
  Cells.below h hb fun _ _ _ ⟨a, c, h1, h2⟩ => ⟨a, c, h1, h2.below hb⟩
theorem RowII.mono {zs : List (List Int)} (h : RowII W B ga zs) (hB : B ≤ B') : RowII W B' ga zs :=
  Cells.mono h hB fun _ _ _ ⟨a, c, h1, h2⟩ => ⟨a, c, h1, h2.mono hB⟩
theorem RowP.below {ps : List (Int × List Int)} (h : RowP W B ga ps) (hb : Below B W W') : RowP W' B ga ps := by
  intro i x hx
  obtain ⟨g, off, ga', cap, h1, h2, h3, h4, h5⟩ := h i x hx
  exact ⟨g, off, ga', cap, h1, h2, (hb.cell (p := ⟨g, _, none⟩) h2).trans h3, (hb.cell (p := ⟨g, _, none⟩) h2).trans h4, h5.below hb⟩
theorem RowP.mono {ps : List (Int × List Int)} (h : RowP W B ga ps) (hB : B ≤ B') : RowP W B' ga ps := by
  intro i x hx
  obtain ⟨g, off, ga', cap, h1, h2, h3, h4, h5⟩ := h i x hx
  exact ⟨g, off, ga', cap, h1, Nat.lt_of_lt_of_le h2 hB, h3, h4, h5.mono hB⟩

theorem RowI.at {zs : List Int} (h : RowI W B ga zs) {i : Nat} (hi : i < zs.length) : ∃ g off : Nat, ga = some ⟨g, off, none⟩ ∧ g < B ∧ W.cell? ⟨g, off + i, none⟩ = some (.int .i64 zs[i]) := by
  obtain ⟨g, off, u, h1, h2, h3, rfl⟩ := h i hi
  exact ⟨g, off, h1, h2, by rw [h3]; simp [List.getD, List.getElem?_eq_getElem hi]⟩
theorem RowS.at {zs : List ByteArray} (h : RowS W B ga zs) {i : Nat} (hi : i < zs.length) : ∃ g off : Nat, ga = some ⟨g, off, none⟩ ∧ g < B ∧ W.cell? ⟨g, off + i, none⟩ = some (.string zs[i]) := by
  obtain ⟨g, off, u, h1, h2, h3, rfl⟩ := h i hi
  exact ⟨g, off, h1, h2, by rw [h3]; simp [List.getD, List.getElem?_eq_getElem hi]⟩
theorem RowB.at {zs : List Bool} (h : RowB W B ga zs) {i : Nat} (hi : i < zs.length) : ∃ g off : Nat, ga = some ⟨g, off, none⟩ ∧ g < B ∧ W.cell? ⟨g, off + i, none⟩ = some (.bool zs[i]) := by
  obtain ⟨g, off, u, h1, h2, h3, rfl⟩ := h i hi
  exact ⟨g, off, h1, h2, by rw [h3]; simp [List.getD, List.getElem?_eq_getElem hi]⟩
theorem RowII.at {zs : List (List Int)} (h : RowII W B ga zs) {i : Nat} (hi : i < zs.length) : ∃ (g off : Nat) (ga' : Option Addr) (cap : Nat), ga = some ⟨g, off, none⟩ ∧ g < B ∧
    W.cell? ⟨g, off + i, none⟩ = some (.slice ga' zs[i].length cap) ∧ RowI W B ga' zs[i] := by
  obtain ⟨g, off, u, h1, h2, h3, ga', cap, h4, h5⟩ := h i hi
  have e : zs.getD i [] = zs[i] := by simp [List.getD, List.getElem?_eq_getElem hi]
  rw [e] at h4 h5
  exact ⟨g, off, ga', cap, h1, h2, by rw [h3, h4], h5⟩

theorem RowI.intro {zs : List Int} (h : ∀ i x, zs[i]? = some x → ∃ g off : Nat, ga = some ⟨g, off, none⟩ ∧ g < B ∧ W.cell? ⟨g, off + i, none⟩ = some (.int .i64 x)) : RowI W B ga zs := by
  intro i hi
  obtain ⟨g, off, h1, h2, h3⟩ := h i zs[i] (List.getElem?_eq_getElem hi)
  exact ⟨g, off, _, h1, h2, h3, by simp [List.getD, List.getElem?_eq_getElem hi]⟩
theorem RowS.intro {zs : List ByteArray} (h : ∀ i x, zs[i]? = some x → ∃ g off : Nat, ga = some ⟨g, off, none⟩ ∧ g < B ∧ W.cell? ⟨g, off + i, none⟩ = some (.string x)) : RowS W B ga zs := by
  intro i hi
  obtain ⟨g, off, h1, h2, h3⟩ := h i zs[i] (List.getElem?_eq_getElem hi)
  exact ⟨g, off, _, h1, h2, h3, by simp [List.getD, List.getElem?_eq_getElem hi]⟩
theorem RowB.intro {zs : List Bool} (h : ∀ i x, zs[i]? = some x → ∃ g off : Nat, ga = some ⟨g, off, none⟩ ∧ g < B ∧ W.cell? ⟨g, off + i, none⟩ = some (.bool x)) : RowB W B ga zs := by
  intro i hi
  obtain ⟨g, off, h1, h2, h3⟩ := h i zs[i] (List.getElem?_eq_getElem hi)
  exact ⟨g, off, _, h1, h2, h3, by simp [List.getD, List.getElem?_eq_getElem hi]⟩
theorem RowII.intro {zs : List (List Int)} (h : ∀ i x, zs[i]? = some x → ∃ (g off : Nat) (ga' : Option Addr) (cap : Nat), ga = some ⟨g, off, none⟩ ∧ g < B ∧
    W.cell? ⟨g, off + i, none⟩ = some (.slice ga' x.length cap) ∧ RowI W B ga' x) : RowII W B ga zs := by
  intro i hi
  obtain ⟨g, off, ga', cap, h1, h2, h3, h4⟩ := h i zs[i] (List.getElem?_eq_getElem hi)
  have e : zs.getD i [] = zs[i] := by simp [List.getD, List.getElem?_eq_getElem hi]
  exact ⟨g, off, _, h1, h2, h3, ga', cap, by rw [e], by rw [e]; exact h4⟩
end

/-! What the call owns, read. -/
section
variable {w : World} {base : Nat} {e : TypeId} {v : Value} {n : Nat}
theorem own_slice {size : Nat} {xs : List Value} (h : w.ownsRow base e size v n xs) : ∃ ga cap, v = .slice ga n cap ∧ ∀ (i : Nat) u, xs[i]? = some u → ∃ g, ga = some ⟨g, 0, none⟩ ∧ base ≤ g ∧ g < w.heap.size ∧ w.cell? ⟨g, i, none⟩ = some u := by
  rcases h.2 with ⟨rfl, rfl⟩ | ⟨g, cap, cur, rfl, hb, hh, hr⟩
  · have hx : xs = [] := List.eq_nil_of_length_eq_zero (by simpa using h.1)
    subst hx
    exact ⟨none, 0, rfl, fun i u hu => by simp at hu⟩
  · refine ⟨_, cap, rfl, fun i u hu => ⟨g, rfl, hb, (Array.getElem?_eq_some_iff.1 hh).1, ?_⟩⟩
    have := h.cells (g := g) rfl i u hu
    rwa [show ((⟨g, 0, none⟩ : Addr).add i) = ⟨g, i, none⟩ by unfold Addr.add; split <;> simp_all] at this

theorem own_rowI {zs : List Int} (h : w.ownsRow base e 1 v n (zs.map (Value.int .i64))) : ∃ ga cap, v = .slice ga zs.length cap ∧ RowI w w.heap.size ga zs := by
  have hn : n = zs.length := by have := h.1; simp at this; omega
  subst hn
  obtain ⟨ga, cap, rfl, hc⟩ := own_slice h
  refine ⟨ga, cap, rfl, RowI.intro fun i x hx => ?_⟩
  obtain ⟨g, rfl, -, h2, h3⟩ := hc i (.int .i64 x) (by simp [hx])
  exact ⟨g, 0, rfl, h2, by simpa using h3⟩
theorem own_rowS {zs : List ByteArray} (h : w.ownsRow base e 1 v n (zs.map Value.string)) : ∃ ga cap, v = .slice ga zs.length cap ∧ RowS w w.heap.size ga zs := by
  have hn : n = zs.length := by have := h.1; simp at this; omega
  subst hn
  obtain ⟨ga, cap, rfl, hc⟩ := own_slice h
  refine ⟨ga, cap, rfl, RowS.intro fun i x hx => ?_⟩
  obtain ⟨g, rfl, -, h2, h3⟩ := hc i (.string x) (by simp [hx])
  exact ⟨g, 0, rfl, h2, by simpa using h3⟩
theorem own_rowB {zs : List Bool} (h : w.ownsRow base e 1 v n (zs.map Value.bool)) : ∃ ga cap, v = .slice ga zs.length cap ∧ RowB w w.heap.size ga zs := by
  have hn : n = zs.length := by have := h.1; simp at this; omega
  subst hn
  obtain ⟨ga, cap, rfl, hc⟩ := own_slice h
  refine ⟨ga, cap, rfl, RowB.intro fun i x hx => ?_⟩
  obtain ⟨g, rfl, -, h2, h3⟩ := hc i (.bool x) (by simp [hx])
  exact ⟨g, 0, rfl, h2, by simpa using h3⟩
end

/-! A block known whole, read. -/
section
variable {w : World} {g : Nat} {e : TypeId}
theorem bk_rowI {zs : List Int} (h : Bk w g e (zs.map (Value.int .i64))) : RowI w w.heap.size (some ⟨g, 0, none⟩) zs :=
  RowI.intro fun i x hx => ⟨g, 0, rfl, h.lt, by rw [Nat.zero_add, h.cell]; simp [hx]⟩
theorem bk_rowB {zs : List Bool} (h : Bk w g e (zs.map Value.bool)) : RowB w w.heap.size (some ⟨g, 0, none⟩) zs :=
  RowB.intro fun i x hx => ⟨g, 0, rfl, h.lt, by rw [Nat.zero_add, h.cell]; simp [hx]⟩
theorem bk_rowS {zs : List ByteArray} (h : Bk w g e (zs.map Value.string)) : RowS w w.heap.size (some ⟨g, 0, none⟩) zs :=
  RowS.intro fun i x hx => ⟨g, 0, rfl, h.lt, by rw [Nat.zero_add, h.cell]; simp [hx]⟩
end

/-! A grammar of plain productions. -/
structure Gr where
  start : Int
  rules : Int
  names : List ByteArray
  terms : List ByteArray
  prods : List (Int × List Int)

/-- The five cells of a grammar. -/
def GramC (W : World) (B : Nat) (G : Gr) (vs : List Value) : Prop :=
  ∃ (gn gt gp : Option Addr) (cn ct cp : Nat), vs = [.int .i64 G.start, .int .i64 G.rules, .slice gn G.names.length cn, .slice gt G.terms.length ct, .slice gp G.prods.length cp] ∧
    RowS W B gn G.names ∧ RowS W B gt G.terms ∧ RowP W B gp G.prods

theorem GramC.below {W W' : World} {B : Nat} {G : Gr} {vs : List Value} (h : GramC W B G vs) (hb : Below B W W') : GramC W' B G vs := by
  obtain ⟨gn, gt, gp, cn, ct, cp, rfl, h1, h2, h3⟩ := h
  exact ⟨gn, gt, gp, cn, ct, cp, rfl, h1.below hb, h2.below hb, h3.below hb⟩
theorem GramC.mono {W : World} {B B' : Nat} {G : Gr} {vs : List Value} (h : GramC W B G vs) (hB : B ≤ B') : GramC W B' G vs := by
  obtain ⟨gn, gt, gp, cn, ct, cp, rfl, h1, h2, h3⟩ := h
  exact ⟨gn, gt, gp, cn, ct, cp, rfl, h1.mono hB, h2.mono hB, h3.mono hB⟩
end Go.Proofs.Ytjaampgpihicmaa
