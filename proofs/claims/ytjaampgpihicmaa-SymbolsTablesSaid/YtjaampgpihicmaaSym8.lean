/- Chapter 7 (symbols): the table's closure: a name is added, or found. -/
import Derived.Test.YtjaampgpihicmaaSym5
import Derived.Laws.OwnMore
import Derived.Deep.CutBlock
namespace Go.Proofs.Ytjaampgpihicmaa
open Go.RowKit
attribute [local go_sem ↓] Go.wp_at_zero Go.wp_at_succ
attribute [local go_sem] frozen_alloc_lt
open Syn (Nd Nod)

/-- A symbol: its name, its first rule (-1: none), its uses. -/
structure Sym where
  name : List UInt8
  rule : Int
  uses : Nat
def SymR (_ : World) (_ : Nat → Prop) (s : Sym) (x : List Value) : Prop := x = [.string ⟨s.name.toArray⟩, .int .i64 s.rule, .int .i64 s.uses]
theorem SymR.fit : FitA SymR 3 where
  len := by rintro w D a x rfl; rfl
  mono := fun _ h => h
  kp := fun _ _ h => h
  one := by
    rintro w D a x rfl u hu
    simp at hu
    rcases hu with rfl | rfl | rfl <;> rfl
theorem SymR.flat : ∀ w w' D D' a x, SymR w D a x → SymR w' D' a x := fun _ _ _ _ _ _ h => h
theorem symInfo : (Try.prog.info? 70).map (fun i => (i.zero, i.size, i.bytes)) = some (some (.agg #[.string ⟨#[]⟩, .int .i64 0, .int .i64 0]), 3, 32) := by kernel_rfl
/-- The place of a name among the symbols, counted from k. -/
def symAt : List Sym → Nat → List UInt8 → Option Nat
  | [], _, _ => none
  | x :: r, k, t => if t = x.name then some k else symAt r (k + 1) t
theorem symAt_snoc (x : Sym) (t : List UInt8) : ∀ (l : List Sym) (k : Nat), symAt (l ++ [x]) k t = match symAt l k t with
    | some i => some i
    | none => if t = x.name then some (k + l.length) else none
  | [], k => by simp [symAt]
  | a :: r, k => by
    rw [List.cons_append, symAt, symAt]
    by_cases h : t = a.name
    · simp [h]
    · rw [if_neg h, if_neg h, symAt_snoc x t r (k + 1), List.length_cons]
      cases symAt r (k + 1) t with
      | some i => rfl
      | none => simp only []; rw [show k + 1 + r.length = k + (r.length + 1) by omega]
theorem symAt_lt : ∀ {l : List Sym} {k i : Nat} {t : List UInt8}, symAt l k t = some i → k ≤ i ∧ i < k + l.length
  | [], _, _, _, h => by simp [symAt] at h
  | a :: r, k, i, t, h => by
    rw [symAt] at h
    split at h
    · injection h with h
      simp
      omega
    · have := symAt_lt h
      simp
      omega
def ruleOf (rs : List (List UInt8 × Nod)) (t : List UInt8) : Int := match firstAt rs 0 t with
  | some i => i
  | none => -1
/-- A name is added, if it is new. -/
def addS (rs : List (List UInt8 × Nod)) (l : List Sym) (t : List UInt8) : List Sym := if (symAt l 0 t).isSome then l else l ++ [⟨t, ruleOf rs t, 0⟩]
def symF (l : List Sym) (t : List UInt8) : Option Value := (symAt l 0 t).map fun (i : Nat) => Value.int .i64 (i : Int)
/-- In Table: the cells of out, at, first (b3, b4, b5); the maps of at and first; the symbols. -/
structure TbSt (w0 : World) (b3 b4 b5 bm bat B : Nat) (rs : List (List UInt8 × Nod)) (v : Value) (l : List Sym) (m : Nat) (w : World) : Prop where
  out : Bk w b3 67 [v]
  atc : Bk w b4 128 [.map (some bat)]
  fic : Bk w b5 128 [.map (some bm)]
  atm : MapS w bat m (symF l)
  fim : MapS w bm rs.length (firstF rs)
  own : OwnA SymR 3 w B 70 v l
  bel : Below w0.heap.size w0 w
  bb : w0.heap.size ≤ b3 ∧ w0.heap.size ≤ b4 ∧ w0.heap.size ≤ b5 ∧ w0.heap.size ≤ bm ∧ w0.heap.size ≤ bat ∧ b3 < B ∧ b4 < B ∧ b5 < B ∧ bm < B ∧ bat < B ∧ B ≤ w.heap.size
  ne : b3 ≠ b4 ∧ b3 ≠ b5 ∧ b3 ≠ bm ∧ b3 ≠ bat ∧ b4 ≠ bat ∧ b5 ≠ bat ∧ bm ≠ bat
section
variable {w0 : World} {b3 b4 b5 bm bat B : Nat} {rs : List (List UInt8 × Nod)} {v : Value} {l : List Sym} {m : Nat} {w : World}
theorem TbSt.later (h : TbSt w0 b3 b4 b5 bm bat B rs v l m w) {w' : World} (hb : Below w.heap.size w w') : TbSt w0 b3 b4 b5 bm bat B rs v l m w' := by
  have hk := below_kp hb
  obtain ⟨e1, e2, e3, e4, e5, e6, e7, e8, e9, e10, e11⟩ := h.bb
  exact ⟨h.out.kp hk (fun e => e), h.atc.kp hk (fun e => e), h.fic.kp hk (fun e => e), h.atm.kp hk (fun e => e), h.fim.kp hk (fun e => e), h.own.flat SymR.flat hk (fun _ _ e => e), bel_trans h.bel hb, ⟨e1, e2, e3, e4, e5, e6, e7, e8, e9, e10, Nat.le_trans e11 hb.size⟩, h.ne⟩
end
set_option maxRecDepth 8000 in
set_option maxHeartbeats 4000000 in
/-- A name that is there. -/
theorem add_old {w0 : World} {b3 b4 b5 bm bat B : Nat} {rs : List (List UInt8 × Nod)} {v : Value} {l : List Sym} {m : Nat} {w : World} (h : TbSt w0 b3 b4 b5 bm bat B rs v l m w) (t : List UInt8) (ht : t.length ≤ 1000000) {i : Nat} (hi : symAt l 0 t = some i) :
    Calls Try.prog 79 #[.string ⟨t.toArray⟩, .pointer (some ⟨b4, 0, none⟩), .pointer (some ⟨b5, 0, none⟩), .pointer (some ⟨b3, 0, none⟩)] w fun e w' => e = .returned (.int .i64 (i : Int)) ∧ w' = w := by
  have c4 := h.atc.cell 0
  simp only [List.getElem?_cons_zero] at c4
  have hlook := h.atm.look t (by unfold maxLen; omega) 128 3 Try.underlying128 (zero_int _)
  have e : symF l t = some (.int .i64 (i : Int)) := by unfold symF; rw [hi]; rfl
  rw [e] at hlook
  simp only [Option.getD_some, Option.isSome_some] at hlook
  clear h e hi
  go_enter Try.func79, Try.ntmps79
  go_wp2_with fail
  go_ret
  exact ⟨rfl, rfl⟩
set_option maxRecDepth 8000 in
set_option maxHeartbeats 4000000 in
/-- A name that is new. -/
theorem add_new {w0 : World} {b3 b4 b5 bm bat B : Nat} {rs : List (List UInt8 × Nod)} {v : Value} {l : List Sym} {m : Nat} {w : World} (h : TbSt w0 b3 b4 b5 bm bat B rs v l m w) (t : List UInt8) (ht : t.length ≤ 1000000) (hi : symAt l 0 t = none) (hl : l.length ≤ 900000) (hm : m ≤ 900000) (_hrs : rs.length ≤ 900000) :
    Calls Try.prog 79 #[.string ⟨t.toArray⟩, .pointer (some ⟨b4, 0, none⟩), .pointer (some ⟨b5, 0, none⟩), .pointer (some ⟨b3, 0, none⟩)] w fun e w' => e = .returned (.int .i64 (l.length : Int)) ∧ ∃ v', TbSt w0 b3 b4 b5 bm bat B rs v' (l ++ [⟨t, ruleOf rs t, 0⟩]) (m + 1) w' ∧ Kp (fun q => q = b3 ∨ q = bat ∨ v.ownBlock = some q) w w' ∧ ∀ q, v'.ownBlock = some q → v.ownBlock = some q ∨ w.heap.size ≤ q := by
  have hkl : t.length ≤ maxLen := by unfold maxLen; omega
  have c3 := h.out.cell 0
  have c4 := h.atc.cell 0
  have c5 := h.fic.cell 0
  simp only [List.getElem?_cons_zero] at c3 c4 c5
  have hlook := h.atm.look t hkl 128 3 Try.underlying128 (zero_int _)
  have e : symF l t = none := by unfold symF; rw [hi]; rfl
  rw [e] at hlook
  simp only [Option.getD_none, Option.isSome_none] at hlook
  have hfst := h.fim.look t hkl 128 3 Try.underlying128 (zero_int _)
  obtain ⟨ga, ca, hv⟩ := h.own.slice
  obtain ⟨w1, hput, hm1, hg1⟩ := h.atm.put t (.int .i64 (l.length : Int)) hkl (by unfold maxLen; omega) 128 3 Try.underlying128
  have hk1 := gb_kp hg1
  obtain ⟨e1, e2, e3, e4, e5, e6, e7, e8, e9, e10, e11⟩ := h.bb
  obtain ⟨n1, n2, n3, n4, n5, n6, n7⟩ := h.ne
  have hown1 := h.own.flat SymR.flat hk1 (fun g e2 e3 => by
    obtain ⟨xs, h1, _⟩ := h.own
    subst e3
    exact own_ne_map h1 h.atm e2)
  have hsz1 := hk1.size
  obtain ⟨i0, hi0, y0, y1, y2⟩ := info_parts symInfo
  obtain ⟨g2, cap2, w2, hrun, hown2, hk2, hnew, hg2l⟩ := hown1.app (P := Try.prog) SymR.fit 67 67 i0 _ 32 Try.underlying67 hi0 y0 y1 y2 rfl (by omega) (by omega) (by omega) (by omega) ⟨t, ruleOf rs t, 0⟩ [.string ⟨t.toArray⟩, .int .i64 (ruleOf rs t), .int .i64 ((0 : Nat) : Int)] rfl 0
  have hs2 : ∀ k, v.ownBlock = some k → B ≤ k := fun k hk => (hown1.lt k hk).1
  have ho1 := (h.out.kp hk1 n4)
  have ho2 := ho1.kp hk2 (fun e => by have := hs2 _ e; omega)
  have d3 := ho1.cell 0
  have q3 := ho2.cell 0
  have f3 := ho2.free 0
  have hl3 := ho2.lt
  have hl31 := ho1.lt
  simp only [List.getElem?_cons_zero] at d3 q3
  have hk3 : Kp (fun k => k = b3) w2 (w2.setCell ⟨b3, 0, none⟩ (.slice (some ⟨g2, 0, none⟩) (l.length + 1) cap2)) := (Kp.refl (fun k => k = b3) w2).set (p := ⟨b3, 0, none⟩) (.inl rfl) _
  have hfin : TbSt w0 b3 b4 b5 bm bat B rs (.slice (some ⟨g2, 0, none⟩) (l.length + 1) cap2) (l ++ [⟨t, ruleOf rs t, 0⟩]) (m + 1) (w2.setCell ⟨b3, 0, none⟩ (.slice (some ⟨g2, 0, none⟩) (l.length + 1) cap2)) := by
    have hbase : Below w0.heap.size w0 w1 := h.bel.trans (hk1.to_below (by have := h.bel.size; omega) (fun k e => by omega))
    have hall : ∀ b, b < B → b ≠ bat → b ≠ b3 → ∀ {T : TypeId} {xs : List Value}, Bk w b T xs → Bk (w2.setCell ⟨b3, 0, none⟩ (.slice (some ⟨g2, 0, none⟩) (l.length + 1) cap2)) b T xs := fun b hb hn1 hn2 {T xs} hx => ((hx.kp hk1 hn1).kp hk2 (fun e => by have := hs2 _ e; omega)).kp hk3 hn2
    refine ⟨ho2.set 0 _, hall b4 e7 n5 (Ne.symm n1) h.atc, hall b5 e8 n6 (Ne.symm n2) h.fic, ?_, ((h.fim.kp hk1 n7).kp hk2 (fun e => by have := hs2 _ e; omega)).kp hk3 (Ne.symm n3), hown2.flat SymR.flat hk3 (fun g e e2 => ?_), (hbase.trans (hk2.to_below (by have := hbase.size; omega) (fun k e => by have := hs2 _ e; omega))).trans (hk3.to_below (by have := hk2.size; have := hbase.size; omega) (fun k e => by omega)), ⟨e1, e2, e3, e4, e5, e6, e7, e8, e9, e10, ?_⟩, n1, n2, n3, n4, n5, n6, n7⟩
    · refine (((hm1.kp hk2 (fun e => by have := hs2 _ e; omega)).kp hk3 (Ne.symm n4))).same fun z => ?_
      unfold symF
      rw [symAt_snoc]
      by_cases ez : z = t
      · subst ez
        rw [hi]
        simp
      · cases symAt l 0 z with
        | some j => simp [ez]
        | none => simp [ez]
    · have e : g2 = g := by simpa [Value.ownBlock] using e
      subst e
      rcases hnew with hnew | hnew
      · have := hs2 _ hnew; omega
      · omega
    · have := hk2.size
      have e : (w2.setCell ⟨b3, 0, none⟩ (.slice (some ⟨g2, 0, none⟩) (l.length + 1) cap2)).heap.size = w2.heap.size := by simp [World.setCell]
      omega
  have hkall : Kp (fun q => q = b3 ∨ q = bat ∨ v.ownBlock = some q) w (w2.setCell ⟨b3, 0, none⟩ (.slice (some ⟨g2, 0, none⟩) (l.length + 1) cap2)) := ((hk1.mono fun q _ e => .inr (.inl e)).trans (hk2.mono fun q _ e => .inr (.inr e))).trans (hk3.mono fun q _ e => .inl e)
  have hvnew : ∀ q, (Value.slice (some ⟨g2, 0, none⟩) (l.length + 1) cap2).ownBlock = some q → v.ownBlock = some q ∨ w.heap.size ≤ q := fun q e => by
    have e : g2 = q := by simpa [Value.ownBlock] using e
    subst e
    rcases hnew with h | h
    · exact .inl h
    · exact .inr (by omega)
  have Hkv := hid (And.intro hkall hvnew)
  have hlb : (l.length : Int) ≤ 900000 := by omega
  have hrun2 : (Builtin.append_ #[67, 67] 67 #[v, .slice (some ⟨w1.heap.size, 0, none⟩) 1 1]).run Try.prog ((w1.alloc (.cells #[.string ⟨t.toArray⟩, .int .i64 (ruleOf rs t), .int .i64 0] 70)).drewN 0) = .ok (.slice (some ⟨g2, 0, none⟩) (l.length + 1) cap2) w2 := hrun
  obtain ⟨L, hL⟩ : ∃ L, L = l.length := ⟨_, rfl⟩
  rw [hv] at c3 d3 q3 hrun2
  rw [← hL] at c3 d3 q3 hput hlb hrun2 hfin Hkv ⊢
  have Hfin := hid hfin
  have Hrun := hid hrun2
  have HL := hid hL
  have Hk1 := hid hk1
  have Hv := hid hv
  clear h e hi hl hm _hrs hown1 hown2 hk1 hk2 hk3 hs2 ho1 ho2 hfin hrun hrun2 hnew hkall hvnew hm1 hg1 hL e1 e2 e3 e4 e5 e6 e7 e8 e9 e10 e11 n1 n2 n3 n5 n6 n7 hv hkl ht hi0 y0 y1 y2 hg2l hsz1
  cases hf : firstAt rs 0 t with
  | some f =>
    have e : firstF rs t = some (.int .i64 (f : Int)) := by unfold firstF; rw [hf]; rfl
    rw [e] at hfst
    simp only [Option.getD_some, Option.isSome_some] at hfst
    have er : ruleOf rs t = f := by unfold ruleOf; rw [hf]
    rw [er] at Hrun
    clear e er hf
    go_enter Try.func79, Try.ntmps79
    go_wp2_with (at_builtin; refine wpList_app rfl _ _ _ rfl (.slice ga L ca) (.slice (some ⟨w1.heap.size, 0, none⟩) 1 1) _ w2 (by go_simp) (by go_simp) (by exact Hrun.out) ?_)
    go_ret
    exact ⟨rfl, _, Hfin.out, Hkv.out⟩
  | none =>
    have e : firstF rs t = none := by unfold firstF; rw [hf]; rfl
    rw [e] at hfst
    simp only [Option.getD_none, Option.isSome_none] at hfst
    have er : ruleOf rs t = -1 := by unfold ruleOf; rw [hf]
    rw [er] at Hrun
    clear e er hf
    go_enter Try.func79, Try.ntmps79
    go_wp2_with (at_builtin; refine wpList_app rfl _ _ _ rfl (.slice ga L ca) (.slice (some ⟨w1.heap.size, 0, none⟩) 1 1) _ w2 (by go_simp) (by go_simp) (by exact Hrun.out) ?_)
    go_ret
    exact ⟨rfl, _, Hfin.out, Hkv.out⟩
end Go.Proofs.Ytjaampgpihicmaa
/- Chapter 7 (symbols): a symbol's use is counted; the table in plain Lean. -/
namespace Go.Proofs.Ytjaampgpihicmaa
open Go.RowKit
attribute [local go_sem ↓] Go.wp_at_zero Go.wp_at_succ
attribute [local go_sem] frozen_alloc_lt
open Syn (Nd Nod)

def symCells (s : Sym) : List Value := [.string ⟨s.name.toArray⟩, .int .i64 s.rule, .int .i64 s.uses]
theorem sym_flat {w : World} {D : Nat → Prop} : ∀ {l : List Sym} {xs : List (List Value)}, AllA SymR w D l xs → xs = l.map symCells
  | [], xs, h => h
  | s :: r, xs, ⟨x, ys, e, h1, h2⟩ => by
    subst e
    rw [List.map_cons, ← sym_flat h2]
    unfold SymR at h1
    rw [h1]
    rfl
theorem sym_all {w : World} {D : Nat → Prop} : ∀ l : List Sym, AllA SymR w D l (l.map symCells)
  | [] => rfl
  | s :: r => ⟨symCells s, r.map symCells, rfl, rfl, sym_all r⟩
/-- One use more. -/
def incS (s : Sym) : Sym := ⟨s.name, s.rule, s.uses + 1⟩
theorem set_flat : ∀ (l : List Sym) (i : Nat) (s : Sym), l[i]? = some s → ((l.map symCells).flatten).set (i * 3 + 2) (.int .i64 ((s.uses : Int) + 1)) = ((l.set i (incS s)).map symCells).flatten
  | [], i, s, h => by simp at h
  | a :: r, 0, s, h => by
    simp at h
    subst h
    rfl
  | a :: r, i + 1, s, h => by
    have ih := set_flat r i s (by simpa using h)
    rw [List.map_cons, List.flatten_cons, List.set_cons_succ, List.map_cons, List.flatten_cons, ← ih]
    rw [List.set_append_right _ _ (by simp [symCells]; omega)]
    congr 2
    simp [symCells]
    omega
theorem sym_at {l : List Sym} {i : Nat} {s : Sym} (h : l[i]? = some s) : (l.map symCells).flatten[i * 3 + 2]? = some (.int .i64 (s.uses : Int)) := by
  obtain ⟨x, h1, h2, h3⟩ := (sym_all (w := default) (D := fun _ => True) l).at SymR.fit h
  unfold SymR at h2
  exact h3 2 _ (by rw [h2]; rfl)
/-- The use of the symbol at place i is counted, in memory. -/
theorem OwnA.inc {w : World} {B : Nat} {v : Value} {l : List Sym} (h : OwnA SymR 3 w B 70 v l) {i : Nat} {s : Sym} (hi : l[i]? = some s) : ∃ g cap, v = .slice (some ⟨g, 0, none⟩) l.length cap ∧ B ≤ g ∧ g < w.heap.size ∧ w.cell? ⟨g, i * 3 + 2, none⟩ = some (.int .i64 (s.uses : Int)) ∧ w.frozen? ⟨g, i * 3 + 2, none⟩ = false ∧
    OwnA SymR 3 (w.setCell ⟨g, i * 3 + 2, none⟩ (.int .i64 ((s.uses : Int) + 1))) B 70 v (l.set i (incS s)) := by
  obtain ⟨g, cap, x, hv, h1, h2, h3, h4⟩ := h.at SymR.fit hi
  obtain ⟨xs, h5, h6⟩ := h
  have hx := sym_flat h6
  subst hx
  subst hv
  unfold SymR at h3
  subst h3
  have h7 := h5.stored (i * 3 + 2) (.int .i64 ((s.uses : Int) + 1))
  refine ⟨g, cap, rfl, h1, h2, h4 2 _ rfl, h5.frozenAt _, (l.set i (incS s)).map symCells, ?_, ?_⟩
  · rw [← set_flat l i s hi, List.length_set]
    exact h7.1
  · exact sym_all _
/-- A name's use: it is added, if it is new, and counted. -/
def useS (rs : List (List UInt8 × Nod)) (l : List Sym) (t : List UInt8) : List Sym :=
  let l' := addS rs l t
  match symAt l' 0 t with
  | some i => match l'[i]? with
    | some s => l'.set i (incS s)
    | none => l'
  | none => l'
def namesS (rs : List (List UInt8 × Nod)) : List Sym := rs.foldl (fun l x => addS rs l x.1) []
def usesS (rs : List (List UInt8 × Nod)) (l : List Sym) (ns : List (List UInt8)) : List Sym := ns.foldl (useS rs) l
/-- The table of a grammar's rules. -/
def tableS (rs : List (List UInt8 × Nod)) : List Sym := rs.foldl (fun l x => usesS rs l x.2.refs) (namesS rs)
end Go.Proofs.Ytjaampgpihicmaa
/- Chapter 7 (symbols): Table of any grammar. -/
namespace Go.Proofs.Ytjaampgpihicmaa
open Go.RowKit
attribute [local go_sem ↓] Go.wp_at_zero Go.wp_at_succ
attribute [local go_sem] frozen_alloc_lt
open Syn (Nd Nod)

/-- What has come so far: at most c symbols, keys, uses. -/
structure Cnt (l : List Sym) (m c : Nat) : Prop where
  len : l.length ≤ c
  keys : m ≤ c
  uses : ∀ s ∈ l, s.uses ≤ c
theorem Cnt.add {rs : List (List UInt8 × Nod)} {l : List Sym} {m c m' : Nat} (h : Cnt l m c) (hm : m' ≤ m + 1) (t : List UInt8) : Cnt (addS rs l t) m' (c + 1) := by
  have h1 := h.len
  have h2 := h.keys
  unfold addS
  split
  · exact ⟨by omega, by omega, fun s hs => Nat.le_succ_of_le (h.uses s hs)⟩
  · refine ⟨by simp; omega, by omega, fun s hs => ?_⟩
    rcases List.mem_append.1 hs with hs | hs
    · exact Nat.le_succ_of_le (h.uses s hs)
    · simp at hs
      subst hs
      exact Nat.zero_le _
theorem symAt_get : ∀ {l : List Sym} {k i : Nat} {t : List UInt8}, symAt l k t = some i → ∃ s, l[i - k]? = some s
  | [], _, _, _, h => by simp [symAt] at h
  | a :: r, k, i, t, h => by
    have hl := symAt_lt h
    have : i - k < (a :: r).length := by omega
    exact ⟨_, List.getElem?_eq_getElem this⟩
theorem symAt_set : ∀ (l : List Sym) (k i : Nat) (s : Sym) (t : List UInt8), l[i]? = some s → symAt (l.set i (incS s)) k t = symAt l k t
  | [], _, _, _, _, h => by simp at h
  | a :: r, k, 0, s, t, h => by
    simp at h
    subst h
    rfl
  | a :: r, k, i + 1, s, t, h => by
    rw [List.set_cons_succ, symAt, symAt, symAt_set r (k + 1) i s t (by simpa using h)]
section
variable {w0 : World} {b3 b4 b5 bm bat B : Nat} {rs : List (List UInt8 × Nod)} {v : Value} {l : List Sym} {m : Nat} {w : World}
/-- A use is counted. -/
theorem TbSt.inc (h : TbSt w0 b3 b4 b5 bm bat B rs v l m w) {i : Nat} {s : Sym} (hi : l[i]? = some s) : ∃ g cap, v = .slice (some ⟨g, 0, none⟩) l.length cap ∧ B ≤ g ∧ g < w.heap.size ∧ w.cell? ⟨g, i * 3 + 2, none⟩ = some (.int .i64 (s.uses : Int)) ∧ w.frozen? ⟨g, i * 3 + 2, none⟩ = false ∧
    TbSt w0 b3 b4 b5 bm bat B rs v (l.set i (incS s)) m (w.setCell ⟨g, i * 3 + 2, none⟩ (.int .i64 ((s.uses : Int) + 1))) ∧ Kp (fun q => v.ownBlock = some q) w (w.setCell ⟨g, i * 3 + 2, none⟩ (.int .i64 ((s.uses : Int) + 1))) := by
  obtain ⟨g, cap, hv, h1, h2, h3, h4, h5⟩ := h.own.inc hi
  obtain ⟨e1, e2, e3, e4, e5, e6, e7, e8, e9, e10, e11⟩ := h.bb
  have hk : Kp (fun q => q = g) w (w.setCell ⟨g, i * 3 + 2, none⟩ (.int .i64 ((s.uses : Int) + 1))) := (Kp.refl (fun q => q = g) w).set (p := ⟨g, i * 3 + 2, none⟩) (.inl rfl) _
  have hvg : v.ownBlock = some g := by rw [hv]; rfl
  refine ⟨g, cap, hv, h1, h2, h3, h4, ⟨h.out.kp hk (fun e => by omega), h.atc.kp hk (fun e => by omega), h.fic.kp hk (fun e => by omega), (h.atm.kp hk (fun e => by omega)).same (fun t => by unfold symF; rw [symAt_set l 0 i s t hi]), h.fim.kp hk (fun e => by omega), h5, h.bel.trans (hk.to_below (by omega) (fun k e => by omega)), ⟨e1, e2, e3, e4, e5, e6, e7, e8, e9, e10, by simpa [World.setCell] using e11⟩, h.ne⟩, hk.mono fun q _ e => by subst e; exact hvg⟩
/-- A name is added, or found. -/
theorem add_calls (h : TbSt w0 b3 b4 b5 bm bat B rs v l m w) (t : List UInt8) (ht : t.length ≤ 1000000) (hl : l.length ≤ 900000) (hm : m ≤ 900000) (hrs : rs.length ≤ 900000) :
    Calls Try.prog 79 #[.string ⟨t.toArray⟩, .pointer (some ⟨b4, 0, none⟩), .pointer (some ⟨b5, 0, none⟩), .pointer (some ⟨b3, 0, none⟩)] w fun e w' => ∃ i, symAt (addS rs l t) 0 t = some i ∧ e = .returned (.int .i64 (i : Int)) ∧ ∃ v' m', m' ≤ m + 1 ∧ TbSt w0 b3 b4 b5 bm bat B rs v' (addS rs l t) m' w' ∧ Kp (fun q => q = b3 ∨ q = bat ∨ v.ownBlock = some q) w w' ∧ ∀ q, v'.ownBlock = some q → v.ownBlock = some q ∨ w.heap.size ≤ q := by
  cases hs : symAt l 0 t with
  | some i =>
    refine (add_old h t ht hs).mono ?_
    rintro e w' ⟨rfl, rfl⟩
    have e : addS rs l t = l := by unfold addS; rw [hs]; rfl
    rw [e]
    exact ⟨i, hs, rfl, v, m, by omega, h, Kp.refl _ _, fun q e => .inl e⟩
  | none =>
    refine (add_new h t ht hs hl hm hrs).mono ?_
    rintro e w' ⟨rfl, v', h1, h2, h3⟩
    have e : addS rs l t = l ++ [⟨t, ruleOf rs t, 0⟩] := by unfold addS; rw [hs]; rfl
    rw [e]
    exact ⟨l.length, by rw [symAt_snoc, hs]; simp, rfl, v', m + 1, Nat.le_refl _, h1, h2, h3⟩
end
def T1Rel (w0 : World) (bq b3 b4 b5 bm bat B : Nat) (st : List UInt8) (rs : List (List UInt8 × Nod)) (ga : Option Addr) (ca : Nat) (k : Nat) (v21 : Value) (w : World) : Prop :=
  ∃ (i : Nat) (v : Value) (l : List Sym) (m c : Nat), v21 = .int .i64 i ∧ k = rs.length - i ∧ i ≤ rs.length ∧ Bk w bq 25 [.string ⟨st.toArray⟩, .slice ga rs.length ca] ∧ TbSt w0 b3 b4 b5 bm bat B rs v l m w ∧ Cnt l m c ∧ c + (rs.length - i) + Syn.bodies rs ≤ 900000 ∧ (rs.drop i).foldl (fun l x => addS rs l x.1) l = namesS rs
def T2Rel (w0 : World) (bq b3 b4 b5 bm bat B : Nat) (st : List UInt8) (rs : List (List UInt8 × Nod)) (ga : Option Addr) (ca : Nat) (k : Nat) (v33 : Value) (w : World) : Prop :=
  ∃ (i : Nat) (v : Value) (l : List Sym) (m c : Nat), v33 = .int .i64 i ∧ k = rs.length - i ∧ i ≤ rs.length ∧ Bk w bq 25 [.string ⟨st.toArray⟩, .slice ga rs.length ca] ∧ TbSt w0 b3 b4 b5 bm bat B rs v l m w ∧ Cnt l m c ∧ c + Syn.bodies (rs.drop i) ≤ 900000 ∧ (rs.drop i).foldl (fun l x => usesS rs l x.2.refs) l = tableS rs
def UsRel (w0 : World) (bq b3 b4 b5 bm bat B : Nat) (st : List UInt8) (rs : List (List UInt8 × Nod)) (ga : Option Addr) (ca g : Nat) (ns : List (List UInt8)) (fin : List Sym) (most : Nat) (wt : World) (k : Nat) (v41 : Value) (w : World) : Prop :=
  ∃ (j : Nat) (v : Value) (l : List Sym) (m c : Nat), v41 = .int .i64 j ∧ k = ns.length - j ∧ j ≤ ns.length ∧ Bk w bq 25 [.string ⟨st.toArray⟩, .slice ga rs.length ca] ∧ TbSt w0 b3 b4 b5 bm bat B rs v l m w ∧ Cnt l m c ∧ c + (ns.length - j) + most ≤ 900000 ∧ (ns.drop j).foldl (useS rs) l = fin ∧ (∀ q, v.ownBlock = some q → q ≠ g) ∧ Kp (fun q => q ≠ g) wt w
theorem Cnt.inc {l : List Sym} {m c i : Nat} {s : Sym} (h : Cnt l m c) (hc : ∀ s ∈ l, s.uses + 1 ≤ c) (hi : l[i]? = some s) : Cnt (l.set i (incS s)) m c := by
  refine ⟨by rw [List.length_set]; exact h.len, h.keys, fun x hx => ?_⟩
  rcases List.mem_or_eq_of_mem_set hx with hx | hx
  · exact h.uses x hx
  · subst hx
    exact hc s (List.mem_of_getElem? hi)
theorem Cnt.more {rs : List (List UInt8 × Nod)} {l : List Sym} {m c : Nat} (h : Cnt l m c) (t : List UInt8) : ∀ s ∈ addS rs l t, s.uses + 1 ≤ c + 1 := by
  unfold addS
  intro s hs
  split at hs
  · have := h.uses s hs; omega
  · rcases List.mem_append.1 hs with hs | hs
    · have := h.uses s hs; omega
    · simp at hs
      subst hs
      simp
/-- A name's use: it is added or found; then its cell may be counted. -/
theorem use_calls {w0 : World} {b3 b4 b5 bm bat B : Nat} {rs : List (List UInt8 × Nod)} {v : Value} {l : List Sym} {m c : Nat} {w : World} (h : TbSt w0 b3 b4 b5 bm bat B rs v l m w) (hc : Cnt l m c) (t : List UInt8) (ht : t.length ≤ 1000000) (hcc : c + 1 ≤ 900000) (hrs : rs.length ≤ 900000) :
    Calls Try.prog 79 #[.string ⟨t.toArray⟩, .pointer (some ⟨b4, 0, none⟩), .pointer (some ⟨b5, 0, none⟩), .pointer (some ⟨b3, 0, none⟩)] w fun e w' => ∃ n L g cap us : Nat, e = .returned (.int .i64 (n : Int)) ∧ w'.cell? ⟨b3, 0, none⟩ = some (.slice (some ⟨g, 0, none⟩) L cap) ∧ ((0 : Int) ≤ (n : Int) ∧ (n : Int) < (L : Int) ∧ (L : Int) ≤ 1000000 ∧ (0 : Int) ≤ (us : Int) ∧ (us : Int) ≤ 900000) ∧ g < w'.heap.size ∧ w'.cell? ⟨g, n * 3 + 2, none⟩ = some (.int .i64 (us : Int)) ∧ w'.frozen? ⟨g, n * 3 + 2, none⟩ = false ∧
      Hid (∃ v' m', TbSt w0 b3 b4 b5 bm bat B rs v' (useS rs l t) m' (w'.setCell ⟨g, n * 3 + 2, none⟩ (.int .i64 ((us : Int) + 1))) ∧ Cnt (useS rs l t) m' (c + 1) ∧ Kp (fun q => q = b3 ∨ q = bat ∨ v.ownBlock = some q) w (w'.setCell ⟨g, n * 3 + 2, none⟩ (.int .i64 ((us : Int) + 1))) ∧ ∀ q, v'.ownBlock = some q → v.ownBlock = some q ∨ w.heap.size ≤ q) := by
  refine (add_calls h t ht (by have := hc.len; omega) (by have := hc.keys; omega) hrs).mono ?_
  rintro e w4 ⟨n4, hn4, rfl, v4, m4, hm4, hs4, hk4, hv4⟩
  obtain ⟨s, hsg⟩ := symAt_get hn4
  rw [Nat.sub_zero] at hsg
  obtain ⟨g5, cap5, hv5, hB5, hl5, hc5, hf5, hs5, hk5⟩ := hs4.inc hsg
  have hcn : Cnt (addS rs l t) m4 (c + 1) := hc.add hm4 t
  have hus := (hc.more (rs := rs) t) s (List.mem_of_getElem? hsg)
  have hlt4 := symAt_lt hn4
  have hlen4 := hcn.len
  have c5 := hs4.out.cell 0
  simp only [List.getElem?_cons_zero] at c5
  have hue : useS rs l t = (addS rs l t).set n4 (incS s) := by
    unfold useS
    simp only [hn4, hsg]
  refine ⟨n4, (addS rs l t).length, g5, cap5, s.uses, rfl, by rw [← hv5]; exact c5, ⟨by omega, by omega, by omega, by omega, by omega⟩, hl5, hc5, hf5, hid ⟨v4, m4, ?_, ?_, ?_, hv4⟩⟩
  · rw [hue]; exact hs5
  · rw [hue]
    exact hcn.inc (hc.more (rs := rs) t) hsg
  · refine hk4.set (p := ⟨g5, n4 * 3 + 2, none⟩) ?_ _
    rcases hv4 g5 (by rw [hv5]; rfl) with e | e
    · exact .inl (.inr (.inr e))
    · exact .inr e
set_option maxRecDepth 8000 in
set_option maxHeartbeats 8000000 in
theorem table_calls (w : World) (st : List UInt8) (rs : List (List UInt8 × Nod)) (ga : Option Addr) (ca : Nat) (hin : RulesIn w ga rs) (hl : rs.length ≤ 100000) (hnm : ∀ x ∈ rs, x.1.length ≤ 1000000) (hfit : ∀ x ∈ rs, x.2.fits 100000) (hsh : ∀ x ∈ rs, x.2.short) (hmost : rs.length + Syn.bodies rs ≤ 900000) :
    Calls Try.prog 30 #[.agg #[.string ⟨st.toArray⟩, .slice ga rs.length ca]] w fun e w' => ∃ v, e = .returned v ∧ OwnA SymR 3 w' w.heap.size 70 v (tableS rs) ∧ Below w.heap.size w w' := by
  have hmm := @run_makeMap Try.prog
  obtain ⟨L, hL⟩ : ∃ L, L = rs.length := ⟨_, rfl⟩
  have HL := hid hL
  have Hin := hid hin
  have Hp := hid (And.intro hnm (And.intro hfit hsh))
  have Hmost := hid hmost
  have hfc := fun wz (hb : Below w.heap.size w wz) => firsts_calls wz st rs ga ca (hin.later hb) hl hnm
  rw [← hL] at hfc hl ⊢
  have Hfc := hid hfc
  clear hL hin hnm hfit hsh hmost hfc
  go_enter Try.func30, Try.ntmps30
  go_upto_region 3 with fail
  have k0 := (((Bk.new w 25 [.string ⟨st.toArray⟩, .slice ga L ca]).alloc (.cells #[.slice none 0 0] 67)).alloc (.map #[] 0)).alloc (.cells #[.map (some (w.heap.size + 1 + 1))] 128)
  have k1 := ((Bk.new (w.alloc (.cells #[.string ⟨st.toArray⟩, .slice ga L ca] 25)) 67 [.slice none 0 0]).alloc (.map #[] 0)).alloc (.cells #[.map (some (w.heap.size + 1 + 1))] 128)
  have k2 := (MapS.made ((w.alloc (.cells #[.string ⟨st.toArray⟩, .slice ga L ca] 25)).alloc (.cells #[.slice none 0 0] 67))).kp ((Kp.refl (fun _ => False) _).alloc (.cells #[.map (some (w.heap.size + 1 + 1))] 128)) (fun e => e)
  have k3 := Bk.new (((w.alloc (.cells #[.string ⟨st.toArray⟩, .slice ga L ca] 25)).alloc (.cells #[.slice none 0 0] 67)).alloc (.map #[] 0)) 128 [.map (some (w.heap.size + 1 + 1))]
  have hb0 := bel_trans (bel_trans (bel_trans (bel_new w (.cells #[.string ⟨st.toArray⟩, .slice ga L ca] 25)) (bel_new _ (.cells #[.slice none 0 0] 67))) (bel_new _ (.map #[] 0))) (bel_new _ (.cells #[.map (some (w.heap.size + 1 + 1))] 128))
  rw [show (w.alloc (.cells #[.string ⟨st.toArray⟩, .slice ga L ca] 25)).heap.size = w.heap.size + 1 by simp] at k1
  rw [show ((w.alloc (.cells #[.string ⟨st.toArray⟩, .slice ga L ca] 25)).alloc (.cells #[.slice none 0 0] 67)).heap.size = w.heap.size + 1 + 1 by simp] at k2
  rw [show (((w.alloc (.cells #[.string ⟨st.toArray⟩, .slice ga L ca] 25)).alloc (.cells #[.slice none 0 0] 67)).alloc (.map #[] 0)).heap.size = w.heap.size + 1 + 1 + 1 by simp] at k3
  obtain ⟨wa, hwa⟩ : ∃ wa, wa = ((((w.alloc (.cells #[.string ⟨st.toArray⟩, .slice ga L ca] 25)).alloc (.cells #[.slice none 0 0] 67)).alloc (.map #[] 0)).alloc (.cells #[.map (some (w.heap.size + 1 + 1))] 128)) := ⟨_, rfl⟩
  have hwas : wa.heap.size = w.heap.size + 1 + 1 + 1 + 1 := by rw [hwa]; simp
  rw [← hwa] at k0 k1 k2 k3 hb0 ⊢
  have q0 := k0.cell 0
  have q1 := k0.cell 1
  simp only [List.getElem?_cons_zero, List.getElem?_cons_succ] at q0 q1
  have Hk0 := hid k0
  have Hk1 := hid k1
  have Hk2 := hid k2
  have Hk3 := hid k3
  have Hb0 := hid hb0
  have Hwas := hid hwas
  clear hwa k0 k1 k2 k3 hb0 hwas hmm
  go_upto_region 5 with (go_at_call 74; refine (Hfc.out wa Hb0.out).mono ?_; rintro e w1 ⟨bm, rfl, hbm, hm1, hb1⟩)
  have hsw := hb1.size
  have h5 := Bk.new w1 128 [.map (some bm)]
  have hal := bel_new w1 (.cells #[.map (some bm)] 128)
  have hbl := bel_trans hb1 hal
  have hmlt := hm1.lt
  have hws := Hwas.out
  have hst0 : TbSt w (w.heap.size + 1) (w.heap.size + 1 + 1 + 1) w1.heap.size bm (w.heap.size + 1 + 1) (w1.heap.size + 1) rs (.slice none 0 0) [] 0 (w1.alloc (.cells #[.map (some bm)] 128)) := by
    refine ⟨Hk1.out.kp (below_kp hbl) (fun e => e), Hk3.out.kp (below_kp hbl) (fun e => e), h5, (Hk2.out.kp (below_kp hbl) (fun e => e)).same (fun t => rfl), ?_, OwnA.nil _ _ _ _ _, bel_trans Hb0.out hbl, ⟨by omega, by omega, by omega, by omega, by omega, by omega, by omega, by omega, by omega, by omega, by simp⟩, by omega, by omega, by omega, by omega, by omega, by omega, by omega⟩
    have h6 := hm1.kp ((Kp.refl (fun _ => False) w1).alloc (.cells #[.map (some bm)] 128)) (fun e => e)
    rw [HL.out] at h6
    exact h6
  have hbq := Hk0.out.kp (below_kp hbl) (fun e => e)
  obtain ⟨wb, hwb⟩ : ∃ wb, wb = w1.alloc (.cells #[.map (some bm)] 128) := ⟨_, rfl⟩
  obtain ⟨B, hB⟩ : ∃ B, B = w1.heap.size + 1 := ⟨_, rfl⟩
  obtain ⟨b5, hb5⟩ : ∃ b5, b5 = w1.heap.size := ⟨_, rfl⟩
  obtain ⟨b4, hb4⟩ : ∃ b4, b4 = w.heap.size + 1 + 1 + 1 := ⟨_, rfl⟩
  obtain ⟨bat, hbat⟩ : ∃ bat, bat = w.heap.size + 1 + 1 := ⟨_, rfl⟩
  obtain ⟨b3, hb3⟩ : ∃ b3, b3 = w.heap.size + 1 := ⟨_, rfl⟩
  obtain ⟨bq, hbqe⟩ : ∃ bq, bq = w.heap.size := ⟨_, rfl⟩
  rw [← hwb, ← hB, ← hb5, ← hb4, ← hbat, ← hb3] at hst0
  rw [← hwb, ← hbqe] at hbq
  rw [← hwb, ← hb5, ← hb4, ← hbat, ← hb3, ← hbqe]
  have p1 := hbq.cell 1
  simp only [List.getElem?_cons_zero, List.getElem?_cons_succ] at p1
  have hqB : bq < B := by omega
  have hq3 : ¬ bq = b3 := by omega
  have hqa : ¬ bq = bat := by omega
  have Hst0 := hid hst0
  have Hbq := hid hbq
  have Hbase := hid (show w.heap.size ≤ B by omega)
  clear hst0 hbq hwb hB hb5 hb4 hbat hb3 hbqe hsw h5 hal hbl hmlt hws hbm hm1 hb1 q0 q1
  go_upto_block 0 with fail
  go_cut [] (fun wx => ∃ (v : Value) (l : List Sym) (m c : Nat), Bk wx bq 25 [.string ⟨st.toArray⟩, .slice ga L ca] ∧ TbSt w b3 b4 b5 bm bat B rs v l m wx ∧ Cnt l m c ∧ c + Syn.bodies rs ≤ 900000 ∧ l = namesS rs)
  case first =>
    go_wp2_with fail
    go_loopg [21] L (fun k v21 wr => T1Rel w bq b3 b4 b5 bm bat B st rs ga ca k v21 wr)
    case atStart => exact ⟨0, _, [], 0, 0, rfl, by rw [HL.out]; rfl, Nat.zero_le _, by rw [← HL.out]; exact Hbq.out, Hst0.out, ⟨by simp, by simp, by simp⟩, by have := Hmost.out; omega, rfl⟩
    case round =>
      obtain ⟨i, v, l, m, c, rfl, hk, hil, hbq, hs1, hcn, hmo, hfo⟩ := hrel
      rcases Nat.lt_or_ge i rs.length with hlt | hge
      · have hltL : (i : Int) < (L : Int) := by have := HL.out; omega
        have hi0 : (0 : Int) ≤ (i : Int) := by omega
        obtain ⟨x, hxx⟩ : ∃ x, x = rs[i] := ⟨_, rfl⟩
        have hxm : x ∈ rs := by rw [hxx]; exact List.getElem_mem hlt
        obtain ⟨g1, o1, gk1, ck1, hga, hg1, a0, a1, a2, a3, hk1⟩ := Hin.out i x (by rw [hxx]; exact List.getElem?_eq_getElem hlt)
        have c0 := (hs1.bel.cell (p := ⟨g1, _, none⟩) hg1).trans a0
        have c1 := (hs1.bel.cell (p := ⟨g1, _, none⟩) hg1).trans a1
        have c2 := (hs1.bel.cell (p := ⟨g1, _, none⟩) hg1).trans a2
        have c3 := (hs1.bel.cell (p := ⟨g1, _, none⟩) hg1).trans a3
        have hl1 : g1 < wr.heap.size := Nat.lt_of_lt_of_le hg1 hs1.bel.size
        have hdrop : rs.drop i = x :: rs.drop (i + 1) := by rw [hxx]; exact List.drop_eq_getElem_cons hlt
        rw [hdrop, List.foldl_cons] at hfo
        obtain ⟨kx, hkx⟩ : ∃ kx : Int, kx = x.2.kind := ⟨_, rfl⟩
        obtain ⟨tx, htx⟩ : ∃ tx, tx = x.2.text := ⟨_, rfl⟩
        obtain ⟨nx, hnx⟩ : ∃ nx, nx = x.1 := ⟨_, rfl⟩
        obtain ⟨Lx, hLx⟩ : ∃ Lx, Lx = x.2.kids.len := ⟨_, rfl⟩
        rw [← hkx] at c1
        rw [← htx] at c2
        rw [← hnx] at c0 hfo
        rw [← hLx] at c3
        have hal := bel_new wr (.cells #[.string ⟨nx.toArray⟩, .int .i64 kx, .string ⟨tx.toArray⟩, .slice gk1 Lx ck1] 51)
        have hadd := add_calls (hs1.later hal) nx (by rw [hnx]; exact Hp.out.1 x hxm) (by have := hcn.len; omega) (by have := hcn.keys; omega) (by have := HL.out; omega)
        have Hadd := hid hadd
        have Hq := hid (hbq.kp (below_kp hal) (fun e => e))
        have Hcn := hid hcn
        have Hfo := hid hfo
        have Hk := hid hk
        have Hmo := hid hmo
        have Hlt := hid hlt
        have Hv := hid (fun q (e : v.ownBlock = some q) => (hs1.own.lt q e).1)
        subst hga
        clear hkx htx hnx hLx hxx hxm hk hil hbq hs1 hcn hmo hfo hdrop a0 a1 a2 a3 hk1 hal hadd hlt
        go_wp2_with (go_at_call 79; refine Hadd.out.mono ?_; rintro e w4 ⟨n4, hn4, rfl, v4, m4, hm4, hs4, hk4, hv4⟩; have Hs4 := hid hs4; have Hk4 := hid hk4; have Hm4 := hid hm4; clear hs4 hk4 hm4 hn4 hv4)
        go_roundg (L - (i + 1))
        case measure => have := Hk.out; have := HL.out; have := Hlt.out; omega
        case rel =>
          refine ⟨i + 1, v4, addS rs l nx, m4, c + 1, by go_num, by rw [HL.out], Hlt.out, ?_, Hs4.out, Hcn.out.add Hm4.out nx, by have := Hmo.out; have := Hlt.out; omega, Hfo.out⟩
          have h8 := Hq.out.kp Hk4.out (fun e => by rcases e with e | e | e; exact hq3 e; exact hqa e; have := Hv.out bq e; omega)
          exact h8
      · have hgeL : ¬ (i : Int) < (L : Int) := by have := HL.out; omega
        have hie : i = rs.length := by omega
        rw [hie, List.drop_length] at hfo
        rw [← HL.out] at hbq
        have Hq := hid hbq
        have Hs1 := hid hs1
        have Hcn := hid hcn
        have Hfo := hid hfo
        have Hmo := hid hmo
        clear hbq hs1 hcn hfo hmo hk hil hge hie
        go_wp2_with fail
        go_meet
        exact ⟨v, l, m, c, Hq.out, Hs1.out, Hcn.out, by have := Hmo.out; omega, Hfo.out⟩
  case rest =>
    obtain ⟨v, l, m, c, hbq, hs1, hcn, hmo, hfo⟩ := hcut
    have p1 := hbq.cell 1
    simp only [List.getElem?_cons_zero, List.getElem?_cons_succ] at p1
    have hlq := hbq.lt
    have Hq := hid hbq
    have Hs1 := hid hs1
    have Hcn := hid hcn
    have Hmo := hid hmo
    have Hfo := hid hfo
    clear hbq hs1 hcn hmo hfo
    go_upto_block 2 with fail
    go_cut [] (fun wx => ∃ (v : Value) (m : Nat), TbSt w b3 b4 b5 bm bat B rs v (tableS rs) m wx)
    case first =>
      go_wp2_with fail
      go_loopg [33] L (fun k v33 wr => T2Rel w bq b3 b4 b5 bm bat B st rs ga ca k v33 wr)
      case atStart => exact ⟨0, v, l, m, c, rfl, by rw [HL.out]; rfl, Nat.zero_le _, by rw [← HL.out]; exact Hq.out, Hs1.out, Hcn.out, by simpa using Hmo.out, by rw [Hfo.out]; rfl⟩
      case round =>
        obtain ⟨i, v1, l1, m1, n1, rfl, hk, hil, hbq, hs1, hcn, hmo, hfo⟩ := hrel
        rcases Nat.lt_or_ge i rs.length with hlt | hge
        · have hltL : (i : Int) < (L : Int) := by have := HL.out; omega
          have hi0 : (0 : Int) ≤ (i : Int) := by omega
          obtain ⟨x, hxx⟩ : ∃ x, x = rs[i] := ⟨_, rfl⟩
          have hxm : x ∈ rs := by rw [hxx]; exact List.getElem_mem hlt
          obtain ⟨g1, o1, gk1, ck1, hga, hg1, a0, a1, a2, a3, hk1⟩ := Hin.out i x (by rw [hxx]; exact List.getElem?_eq_getElem hlt)
          have c0 := (hs1.bel.cell (p := ⟨g1, _, none⟩) hg1).trans a0
          have c1 := (hs1.bel.cell (p := ⟨g1, _, none⟩) hg1).trans a1
          have c2 := (hs1.bel.cell (p := ⟨g1, _, none⟩) hg1).trans a2
          have c3 := (hs1.bel.cell (p := ⟨g1, _, none⟩) hg1).trans a3
          have hl1 : g1 < wr.heap.size := Nat.lt_of_lt_of_le hg1 hs1.bel.size
          have hdrop : rs.drop i = x :: rs.drop (i + 1) := by rw [hxx]; exact List.drop_eq_getElem_cons hlt
          rw [hdrop, List.foldl_cons] at hfo
          rw [hdrop] at hmo
          simp only [Syn.bodies] at hmo
          obtain ⟨kx, hkx⟩ : ∃ kx : Int, kx = x.2.kind := ⟨_, rfl⟩
          obtain ⟨tx, htx⟩ : ∃ tx, tx = x.2.text := ⟨_, rfl⟩
          obtain ⟨nx, hnx⟩ : ∃ nx, nx = x.1 := ⟨_, rfl⟩
          obtain ⟨Lx, hLx⟩ : ∃ Lx, Lx = x.2.kids.len := ⟨_, rfl⟩
          rw [← hkx] at c1
          rw [← htx] at c2
          rw [← hnx] at c0
          rw [← hLx] at c3
          have hal := bel_new wr (.cells #[.string ⟨nx.toArray⟩, .int .i64 kx, .string ⟨tx.toArray⟩, .slice gk1 Lx ck1] 51)
          have hs2 := hs1.later hal
          have hq2 := hbq.kp (below_kp hal) (fun e => e)
          have hbx := Bk.new wr 51 [.string ⟨nx.toArray⟩, .int .i64 kx, .string ⟨tx.toArray⟩, .slice gk1 Lx ck1]
          have hrc := refs_calls (wr.alloc (.cells #[.string ⟨nx.toArray⟩, .int .i64 kx, .string ⟨tx.toArray⟩, .slice gk1 Lx ck1] 51)) x.2 gk1 ck1 (by
            have h1 : NdIn w gk1 x.2.kids 0 := hk1
            exact h1.later hs2.bel) (Hp.out.2.1 x hxm) (Hp.out.2.2 x hxm) (by omega)
          simp only [nodeV] at hrc
          rw [← hkx, ← htx, ← hLx] at hrc
          obtain ⟨M, hM⟩ : ∃ M, M = x.2.refs.length := ⟨_, rfl⟩
          have hMn : M ≤ x.2.kids.nodes + 1 := by
            rw [hM]
            unfold Syn.Nod.refs
            have := Nd.refs_len x.2.kids
            split <;> simp <;> omega
          obtain ⟨ns, hns⟩ : ∃ ns, ns = x.2.refs := ⟨_, rfl⟩
          rw [← hns] at hrc hfo
          have hnsM : ns.length = M := by rw [hns, hM]
          have hnsl : ∀ t ∈ ns, t.length ≤ 1000000 := by rw [hns]; exact refs_short (Hp.out.2.2 x hxm)
          have hvb : ∀ q, v1.ownBlock = some q → q < wr.heap.size := fun q e => (hs1.own.lt q e).2
          have hrsb : rs.length ≤ 900000 := by have := HL.out; omega
          obtain ⟨wd, hwd⟩ : ∃ wd, wd = wr.alloc (.cells #[.string ⟨nx.toArray⟩, .int .i64 kx, .string ⟨tx.toArray⟩, .slice gk1 Lx ck1] 51) := ⟨_, rfl⟩
          obtain ⟨bx, hbx2⟩ : ∃ bx, bx = wr.heap.size := ⟨_, rfl⟩
          have hwds : wd.heap.size = wr.heap.size + 1 := by rw [hwd]; simp
          rw [← hwd] at hs2 hbx hrc hq2
          rw [← hbx2] at hbx hvb hwds
          have x1 := hbx.cell 1
          have x2 := hbx.cell 2
          have x3 := hbx.cell 3
          simp only [List.getElem?_cons_zero, List.getElem?_cons_succ] at x1 x2 x3
          have hbxl := hbx.lt
          have Hs2 := hid hs2
          have Hq2 := hid hq2
          have Hcn := hid hcn
          have Hfo := hid hfo
          have Hmo := hid hmo
          have Hk := hid hk
          have Hlt := hid hlt
          have HWD := hid hwd
          have HBX := hid hbx2
          have HMn := hid hMn
          have HnsM := hid hnsM
          have Hnsl := hid hnsl
          have Hvb := hid hvb
          have Hwds := hid hwds
          have Hrsb := hid hrsb
          subst hga
          clear hkx htx hnx hLx hxx hxm hk hil hbq hs1 hcn hmo hfo hdrop a0 a1 a2 a3 hk1 hal hs2 hq2 hlt hbx hwd hbx2 hM hMn hns hnsM hnsl hvb hwds hrsb
          go_upto_region 13 with fail
          rw [← HWD.out, ← HBX.out]
          go_upto_block 4 with (go_at_call 75; refine hrc.mono ?_; rintro e w2 ⟨rv, rfl, hown, hb2⟩; obtain ⟨gr, cr, hrv, hls⟩ := hown.lies StrR.fit; rw [HnsM.out] at hrv; subst hrv; clear hown)
          have hread : ∃ g, wd.heap.size ≤ g ∧ g ≤ w2.heap.size ∧ ∀ j t, ns[j]? = some t → gr = some ⟨g, 0, none⟩ ∧ g < w2.heap.size ∧ w2.cell? ⟨g, 0 + j * 1, none⟩ = some (.string ⟨t.toArray⟩) := by
            cases ns with
            | nil => exact ⟨w2.heap.size, hb2.size, Nat.le_refl _, fun j t h => by simp at h⟩
            | cons t0 r =>
              obtain ⟨g, xx, hg, hg1, hg2, _, _⟩ := hls 0 t0 rfl
              refine ⟨g, hg1, by omega, fun j t h => ?_⟩
              obtain ⟨g', x', hg', _, hg2', hx', hc'⟩ := hls j t h
              rw [hg] at hg'
              injection hg' with e
              injection e with e
              subst e
              refine ⟨hg, hg2', ?_⟩
              have := hc' 0 (.string ⟨t.toArray⟩) (by rw [hx']; rfl)
              simpa using this
          obtain ⟨g, hg1, hg2, hrd⟩ := hread
          have hs6 := Hs2.out.later hb2
          have hq6 := Hq2.out.kp (below_kp hb2) (fun e => e)
          have hw2 := hb2.size
          have hbx6 := hs6.bb.2.2.2.2.2.2.2.2.2.2
          obtain ⟨fin, hfin⟩ : ∃ fin, fin = usesS rs l1 ns := ⟨_, rfl⟩
          rw [← hfin] at Hfo
          have Hrd := hid hrd
          have Hg := hid (And.intro hg1 hg2)
          have Hs6 := hid hs6
          have Hq6 := hid hq6
          have Hfin := hid hfin
          have Hw2 := hid hw2
          clear hrd hg1 hg2 hs6 hfin hw2 hls hb2 x1 x2 x3 hrc hq6 hbx6
          go_wp2_with fail
          go_loopg [41] M (fun k v41 wx => UsRel w bq b3 b4 b5 bm bat B st rs (some ⟨g1, o1, none⟩) ca g ns fin (Syn.bodies (rs.drop (i + 1))) w2 k v41 wx)
          case atStart =>
            refine ⟨0, v1, l1, m1, n1, rfl, by rw [HnsM.out]; rfl, Nat.zero_le _, Hq6.out, Hs6.out, Hcn.out, ?_, Hfin.out.symm, fun q e => by have := Hvb.out q e; have := Hg.out.1; have := Hwds.out; omega, Kp.refl _ _⟩
            have h1 := Hmo.out
            have h2 := HMn.out
            have h4 := HnsM.out
            omega
          case round =>
            obtain ⟨j, v3, l3, m3, n3, rfl, hk3, hj, hq8, hs8, hcn8, hmo8, hf8, hvg8, hkp8⟩ := hrel
            rcases Nat.lt_or_ge j ns.length with hjl | hjge
            · have hjM : (j : Int) < (M : Int) := by have := HnsM.out; omega
              have hj0 : (0 : Int) ≤ (j : Int) := by omega
              have hMb : (M : Int) ≤ 1000000 := by have := HMn.out; have := Hmo.out; omega
              obtain ⟨t, ht⟩ : ∃ t, t = ns[j] := ⟨_, rfl⟩
              obtain ⟨hgr, hgl, hct⟩ := Hrd.out j t (by rw [ht]; exact List.getElem?_eq_getElem hjl)
              have htl := Hnsl.out t (by rw [ht]; exact List.getElem_mem hjl)
              have hdr : ns.drop j = t :: ns.drop (j + 1) := by rw [ht]; exact List.drop_eq_getElem_cons hjl
              rw [hdr, List.foldl_cons] at hf8
              have hc8 := hkp8.cell hct (fun e => e rfl)
              rw [Nat.zero_add, Nat.mul_one] at hc8
              have hgl8 : g < wr.heap.size := Nat.lt_of_lt_of_le hgl hkp8.size
              have huse := use_calls hs8 hcn8 t htl (by omega) Hrsb.out
              have hB3 : b3 < B ∧ bat < B ∧ B ≤ wr.heap.size := ⟨hs8.bb.2.2.2.2.2.1, hs8.bb.2.2.2.2.2.2.2.2.2.1, hs8.bb.2.2.2.2.2.2.2.2.2.2⟩
              have hBg : B ≤ g := by
                have h1 := Hs2.out.bb.2.2.2.2.2.2.2.2.2.2
                have h2 := Hg.out.1
                omega
              have hvB : ∀ q, v3.ownBlock = some q → B ≤ q := fun q e => (hs8.own.lt q e).1
              have Huse := hid huse
              have Hq8 := hid hq8
              have Hcn8 := hid hcn8
              have Hk3 := hid hk3
              have Hj := hid (And.intro hj hjl)
              have Hf8 := hid hf8
              have Hmo8 := hid hmo8
              have Hkp8 := hid hkp8
              have Hvg8 := hid hvg8
              have HB3 := hid hB3
              have HBg := hid hBg
              have HvB := hid hvB
              have Htl := hid htl
              subst hgr
              clear hs8 huse hq8 hcn8 hk3 hj hjl hf8 hmo8 hkp8 hvg8 hB3 hBg hvB ht htl hdr hct hgl
              go_wp2_with (go_at_call 79; refine Huse.out.mono ?_; rintro e w4 ⟨n4, L4, g5, cap5, us, rfl, hb3c, ⟨hn0, hnL, hLb, hu0, hub⟩, hl5, hc5, hf5, Hend⟩)
              go_roundg (M - (j + 1))
              case measure => have := Hk3.out; have := Hj.out.2; have := HnsM.out; omega
              case rel =>
                obtain ⟨v5, m5, hs5, hcn5, hkp5, hv5⟩ := Hend.out
                have hB := HB3.out
                refine ⟨j + 1, v5, useS rs l3 t, m5, n3 + 1, by go_num, by rw [HnsM.out], Hj.out.2, ?_, hs5, hcn5, by have := Hmo8.out; have := Hj.out.2; omega, Hf8.out, fun q e => ?_, Hkp8.out.trans (hkp5.mono fun q _ e => ?_)⟩
                · exact Hq8.out.kp hkp5 (fun e => by rcases e with e | e | e; exact hq3 e; exact hqa e; have := HvB.out bq e; omega)
                · rcases hv5 q e with e | e
                  · exact Hvg8.out q e
                  · intro e2
                    subst e2
                    omega
                · rcases e with e | e | e
                  · have := HBg.out; omega
                  · have := HBg.out; omega
                  · exact Hvg8.out q e
            · have hjM : ¬ (j : Int) < (M : Int) := by have := HnsM.out; omega
              rw [List.drop_eq_nil_of_le hjge] at hf8
              have hfe : l3 = fin := hf8
              subst hfe
              have Hs8 := hid hs8
              have Hq8 := hid hq8
              have Hcn8 := hid hcn8
              have Hmo8 := hid hmo8
              clear hs8 hq8 hcn8 hmo8 hf8 hk3 hj hjge hvg8 hkp8
              go_wp2_with fail
              go_roundg (L - (i + 1))
              case measure => have := Hk.out; have := HL.out; have := Hlt.out; omega
              case rel =>
                exact ⟨i + 1, v3, l3, m3, n3, by go_num, by rw [HL.out], Hlt.out, Hq8.out, Hs8.out, Hcn8.out, by have := Hmo8.out; omega, Hfo.out⟩
        · have hgeL : ¬ (i : Int) < (L : Int) := by have := HL.out; omega
          have hie : i = rs.length := by omega
          rw [hie, List.drop_length] at hfo
          have hle : l1 = tableS rs := hfo
          rw [hle] at hs1
          have Hs2 := hid hs1
          clear hbq hs1 hcn hfo hmo hk hil hge hie hle
          go_wp2_with fail
          go_meet
          exact ⟨v1, m1, Hs2.out⟩
    case rest =>
      obtain ⟨v1, m1, hs1⟩ := hcut
      have p3 := hs1.out.cell 0
      simp only [List.getElem?_cons_zero] at p3
      have hown : OwnA SymR 3 wc w.heap.size 70 v1 (tableS rs) := by
        obtain ⟨xs, ⟨e1, e2⟩, e3⟩ := hs1.own
        have hbb := Hbase.out
        refine ⟨xs, ⟨e1, ?_⟩, AllA.mapS (R' := SymR) (fun a x (hx : x = _) => hx) e3⟩
        rcases e2 with e2 | ⟨g, cap, cur, f1, f2, f3⟩
        · exact .inl e2
        · exact .inr ⟨g, cap, cur, f1, by omega, f3⟩
      have Hown := hid hown
      have Hbel := hid hs1.bel
      clear hs1 hown
      go_wp2_with fail
      go_ret
      exact ⟨_, rfl, Hown.out, Hbel.out⟩
end Go.Proofs.Ytjaampgpihicmaa
