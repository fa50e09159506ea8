/- Rows of texts: read; joined to a row of the call's own. No program but its types' numbers. -/
import Derived.Test.YtjaampgpihicmaaSym2
import Derived.Test.YtjaampgpihicmaaMake
namespace Go.Proofs.Ytjaampgpihicmaa
open Go.RowKit

def txV (t : List UInt8) : Value := .string ⟨t.toArray⟩
/-- Texts in a row, in blocks of which D holds. -/
def TxD (w : World) (D : Nat → Prop) (ga : Option Addr) (ss : List (List UInt8)) : Prop := CellsD w D ga ss.length fun i u => (ss.map txV)[i]? = some u
/-- A row of texts of the call's own. -/
def TxO (w : World) (B : Nat) (v : Value) (ss : List (List UInt8)) : Prop := w.ownsRow B 9 1 v ss.length (ss.map txV)
section
variable {w w' : World} {D D' S : Nat → Prop} {ga : Option Addr} {ss : List (List UInt8)} {B : Nat} {v : Value}
theorem TxD.mono (h : TxD w D ga ss) (hD : ∀ k, D k → D' k) : TxD w D' ga ss := CellsD.mono h hD fun _ _ _ h => h
theorem TxD.kp (h : TxD w D ga ss) (hk : Kp S w w') (hd : ∀ k, D k → ¬ S k) : TxD w' D ga ss := CellsD.kp h hk hd fun _ _ _ h => h
theorem TxD.below (h : TxD w D ga ss) (hb : Below w.heap.size w w') : TxD w' D ga ss := h.kp (below_kp hb) fun _ _ e => e
theorem TxD.at (h : TxD w D ga ss) {i : Nat} {t : List UInt8} (hi : ss[i]? = some t) : ∃ g off, ga = some ⟨g, off, none⟩ ∧ D g ∧ g < w.heap.size ∧ w.cell? ⟨g, off + i, none⟩ = some (.string ⟨t.toArray⟩) := by
  have hl := (List.getElem?_eq_some_iff.1 hi).1
  obtain ⟨g, off, u, h1, h2, h3, h4⟩ := h i hl
  have h4 : (ss.map txV)[i]? = some u := h4
  rw [List.getElem?_map, hi] at h4
  injection h4 with h4
  subst h4
  exact ⟨g, off, h1, h2, World.block_lt_of_cell? w _ h3, h3⟩
theorem TxD.nil (w : World) (D : Nat → Prop) (ga : Option Addr) : TxD w D ga [] := fun i hi => by simp at hi
theorem TxO.nil (w : World) (B : Nat) : TxO w B (.slice none 0 0) [] := World.ownsRow_nil _ _ _ _
theorem TxO.slice (h : TxO w B v ss) : ∃ ga cap, v = .slice ga ss.length cap := by
  obtain ⟨ga, cap, h3, _⟩ := own_slice h
  exact ⟨ga, cap, h3⟩
theorem TxO.lt (h : TxO w B v ss) : ∀ g, v.ownBlock = some g → B ≤ g ∧ g < w.heap.size := fun g hg => World.ownsRow.lt h g hg
theorem TxO.kp (h : TxO w B v ss) (hk : Kp S w w') (hs : ∀ g, v.ownBlock = some g → ¬ S g) : TxO w' B v ss := own_kp h hk hs
theorem TxO.later (h : TxO w B v ss) (hb : Below w.heap.size w w') : TxO w' B v ss := own_below h hb
theorem TxO.alloc (h : TxO w B v ss) (o : Obj) : TxO (w.alloc o) B v ss := h.later (bel_new w o)
theorem TxO.base {B' : Nat} (h : TxO w B v ss) (hb : B' ≤ B) : TxO w B' v ss := own_mono h hb
theorem TxO.read (h : TxO w B v ss) : ∃ ga cap, v = .slice ga ss.length cap ∧ TxD w (fun k => B ≤ k ∧ k < w.heap.size) ga ss := by
  obtain ⟨ga, cap, h1, h2⟩ := own_slice h
  refine ⟨ga, cap, h1, fun i hi => ?_⟩
  obtain ⟨g, rfl, h3, h4, h5⟩ := h2 i (txV ss[i]) (by rw [List.getElem?_map, List.getElem?_eq_getElem hi]; rfl)
  exact ⟨g, 0, _, rfl, ⟨h3, h4⟩, by simpa using h5, by show (ss.map txV)[i]? = _; rw [List.getElem?_map, List.getElem?_eq_getElem hi]; rfl⟩
theorem TxO.cap {c : Nat} (h : TxO w B (.slice ga ss.length c) ss) : ss.length ≤ c := by
  rcases h.2 with ⟨h1, h2⟩ | ⟨g, cap, cur, h1, _, _, hnc, _⟩
  · omega
  · injection h1 with _ _ h3
    omega
theorem TxD.take (h : TxD w D ga ss) (j : Nat) : TxD w D ga (ss.take j) := by
  intro i hi
  have hi' : i < ss.length := by rw [List.length_take] at hi; omega
  obtain ⟨g, off, u, h1, h2, h3, h4⟩ := h i hi'
  refine ⟨g, off, u, h1, h2, h3, ?_⟩
  have h4 : (ss.map txV)[i]? = some u := h4
  show ((ss.take j).map txV)[i]? = some u
  rw [List.length_take] at hi
  rw [List.map_take, List.getElem?_take, if_pos (by omega)]
  exact h4
theorem strA_flat {w : World} {D : Nat → Prop} : ∀ {l : List (List UInt8)} {xs : List (List Value)}, AllA StrR w D l xs → xs.flatten = l.map txV
  | [], xs, h => by
    unfold AllA at h
    subst h
    rfl
  | a :: r, _, ⟨y, ys, e, h1, h2⟩ => by
    have h1 : y = [.string ⟨a.toArray⟩] := h1
    subst e h1
    rw [List.flatten_cons, strA_flat h2]
    rfl
theorem TxO.of (h : OwnA StrR 1 w B 9 v ss) : TxO w B v ss := by
  obtain ⟨xs, h1, h2⟩ := h
  rw [strA_flat h2] at h1
  exact h1
/-- append(out, l...): whatever l is. -/
theorem TxO.cat (h : TxO w B v ss) {ts : List (List UInt8)} (hr : TxD w D ga ts) (c : Nat) (hl : ss.length + ts.length ≤ 1000000000) (hB : B ≤ w.heap.size) (ty : TypeId) :
    ∃ v' w', (Builtin.append_ #[71, 71] ty #[v, .slice ga ts.length c]).run Try.prog w = .ok v' w' ∧ TxO w' B v' (ss ++ ts) ∧ Kp (fun k => v.ownBlock = some k) w w' ∧ Below B w w' ∧ ∀ k, v'.ownBlock = some k → v.ownBlock = some k ∨ w.heap.size ≤ k := by
  obtain ⟨i3, hi3, z0, z1, z2⟩ := info_parts strInfoA
  obtain ⟨gv, cap, w', h1, h2, h3, h4⟩ := run_append_cells (P := Try.prog) w B 71 ty 9 i3 (.string ⟨#[]⟩) Try.underlying71 hi3 z0 z1 (by omega) rfl v ss.length _ h D ga c (ts.map txV) (by rw [List.length_map]; exact hr) (fun u hu => by obtain ⟨x, _, rfl⟩ := List.mem_map.1 hu; rfl) (by rw [List.length_map]; omega) hB
  rw [List.length_map] at h1 h2
  refine ⟨_, w', h1, ?_, (Kp.refl _ w).grown h3 (fun k hk _ => hk), (Below.refl _ _).grown h3 hB fun k hk => (h.lt k hk).1, fun k hk => ?_⟩
  · unfold TxO
    rw [List.map_append, List.length_append]
    exact h2
  · rw [List.length_map] at h4
    rcases h4 with h4 | h4
    · exact .inl (h4 ▸ hk)
    · rw [h4] at hk
      injection hk with hk
      exact .inr (by omega)
/-- append(out, s). -/
theorem TxO.app (h : TxO w B v ss) (t : List UInt8) (hl : ss.length ≤ 100000000) (hB : B ≤ w.heap.size) (ty : TypeId) (q : Nat) {N : Nat} (hN : w.heap.size = N) :
    ∃ v' w', (Builtin.append_ #[71, 71] ty #[v, .slice (some ⟨N, 0, none⟩) 1 1]).run Try.prog ((w.alloc (.cells #[.string ⟨t.toArray⟩] 9)).drewN q) = .ok v' w' ∧ TxO w' B v' (ss ++ [t]) ∧ Kp (fun k => v.ownBlock = some k) w w' ∧ Below B w w' ∧ ∀ k, v'.ownBlock = some k → v.ownBlock = some k ∨ w.heap.size ≤ k := by
  subst hN
  have hk0 : Kp (fun k => v.ownBlock = some k) w ((w.alloc (.cells #[.string ⟨t.toArray⟩] 9)).drewN q) := ((Kp.refl _ w).alloc _).drewN q
  have hb0 : Below B w ((w.alloc (.cells #[.string ⟨t.toArray⟩] 9)).drewN q) := hk0.to_below hB fun k hk => (h.lt k hk).1
  have hr : TxD ((w.alloc (.cells #[.string ⟨t.toArray⟩] 9)).drewN q) (fun _ => True) (some ⟨w.heap.size, 0, none⟩) [t] := by
    intro i hi
    have hi0 : i = 0 := by simp at hi; omega
    subst hi0
    exact ⟨_, 0, _, rfl, trivial, (Bk.new w 9 [.string ⟨t.toArray⟩]).cell 0, rfl⟩
  obtain ⟨v', w', h1, h2, h3, h4, h5⟩ := TxO.cat (own_drewN (TxO.alloc h (.cells #[.string ⟨t.toArray⟩] 9)) q) hr 1 (by simp; omega) (by have := hb0.size; omega) ty
  exact ⟨v', w', h1, h2, hk0.trans h3, hb0.trans h4, fun k hk => (h5 k hk).imp id fun e => by have := hk0.size; omega⟩
/-- []string{s}. -/
theorem TxO.one (w : World) (t : List UInt8) : TxO (w.alloc (.cells #[.string ⟨t.toArray⟩] 9)) w.heap.size (.slice (some ⟨w.heap.size, 0, none⟩) 1 1) [t] :=
  World.ownsRow_lit w #[.string ⟨t.toArray⟩] 1 (Nat.le_refl _) (by decide) rfl
end
end Go.Proofs.Ytjaampgpihicmaa
