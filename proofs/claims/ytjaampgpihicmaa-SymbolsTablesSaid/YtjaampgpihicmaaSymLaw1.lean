/- Chapter 7 (symbols), in plain Lean: the table's names; a grammar with a rule for each name. No program. -/
import Derived.Test.YtjaampgpihicmaaSym8
namespace Go.Proofs.Ytjaampgpihicmaa
open Syn (Nd Nod)

/-- A name is added, if it is new. -/
def nameA (ns : List (List UInt8)) (t : List UInt8) : List (List UInt8) := if ns.contains t = true then ns else ns ++ [t]
theorem symAt_some : ∀ (l : List Sym) (k : Nat) (t : List UInt8), (symAt l k t).isSome = (l.map Sym.name).contains t
  | [], _, _ => rfl
  | a :: r, k, t => by
    unfold symAt
    rw [List.map_cons, List.contains_cons]
    by_cases h : t = a.name
    · simp [h]
    · rw [if_neg h, symAt_some r (k + 1) t]
      simp [h]
theorem addS_names (rs : List (List UInt8 × Nod)) (l : List Sym) (t : List UInt8) : (addS rs l t).map Sym.name = nameA (l.map Sym.name) t := by
  unfold addS nameA
  rw [symAt_some]
  split <;> simp
theorem set_names : ∀ (l : List Sym) (i : Nat) (s : Sym), l[i]? = some s → (l.set i (incS s)).map Sym.name = l.map Sym.name
  | [], _, _, h => by simp at h
  | a :: r, 0, s, h => by
    simp at h
    subst h
    rfl
  | a :: r, i + 1, s, h => by
    rw [List.set_cons_succ, List.map_cons, List.map_cons, set_names r i s (by simpa using h)]
theorem useS_names (rs : List (List UInt8 × Nod)) (l : List Sym) (t : List UInt8) : (useS rs l t).map Sym.name = nameA (l.map Sym.name) t := by
  rw [← addS_names rs]
  unfold useS
  simp only []
  split
  · split
    · rename_i h
      exact set_names _ _ _ h
    · rfl
  · rfl
/-- All names of a grammar's rules, in the table's order. -/
def allN (rs : List (List UInt8 × Nod)) : List (List UInt8) := rs.map (fun x => x.1) ++ rs.flatMap (fun x => x.2.refs)
theorem usesS_names (rs : List (List UInt8 × Nod)) : ∀ (ns : List (List UInt8)) (l : List Sym), (usesS rs l ns).map Sym.name = ns.foldl nameA (l.map Sym.name)
  | [], _ => rfl
  | t :: r, l => by
    show (usesS rs (useS rs l t) r).map Sym.name = _
    rw [usesS_names rs r, useS_names, List.foldl_cons]
theorem fold_uses (all : List (List UInt8 × Nod)) : ∀ (rs : List (List UInt8 × Nod)) (l : List Sym), (rs.foldl (fun l x => usesS all l x.2.refs) l).map Sym.name = (rs.flatMap fun x => x.2.refs).foldl nameA (l.map Sym.name)
  | [], _ => rfl
  | x :: r, l => by
    rw [List.foldl_cons, fold_uses all r, usesS_names, List.flatMap_cons, List.foldl_append]
theorem fold_names (all : List (List UInt8 × Nod)) : ∀ (rs : List (List UInt8 × Nod)) (l : List Sym), (rs.foldl (fun l x => addS all l x.1) l).map Sym.name = (rs.map fun x => x.1).foldl nameA (l.map Sym.name)
  | [], _ => rfl
  | x :: r, l => by
    rw [List.foldl_cons, fold_names all r, addS_names, List.map_cons, List.foldl_cons]
theorem table_names (rs : List (List UInt8 × Nod)) : (tableS rs).map Sym.name = (allN rs).foldl nameA [] := by
  unfold tableS namesS allN
  rw [fold_uses, fold_names, List.foldl_append]
  rfl
theorem nameA_mem {ns : List (List UInt8)} {t u : List UInt8} : u ∈ nameA ns t ↔ u ∈ ns ∨ u = t := by
  unfold nameA
  split
  · rename_i h
    rw [List.contains_iff_mem] at h
    exact ⟨.inl, fun e => e.elim id (fun e => e ▸ h)⟩
  · simp
theorem nameA_nodup {ns : List (List UInt8)} (h : ns.Nodup) (t : List UInt8) : (nameA ns t).Nodup := by
  unfold nameA
  split
  · exact h
  · rename_i hc
    rw [List.contains_iff_mem] at hc
    rw [List.nodup_append]
    refine ⟨h, by simp, fun a ha b hb => ?_⟩
    simp at hb
    subst hb
    exact fun e => hc (e ▸ ha)
theorem foldA_mem : ∀ (l ns : List (List UInt8)) (u : List UInt8), u ∈ l.foldl nameA ns ↔ u ∈ ns ∨ u ∈ l
  | [], _, _ => by simp
  | t :: r, ns, u => by
    rw [List.foldl_cons, foldA_mem r, nameA_mem, List.mem_cons, or_assoc]
theorem foldA_nodup : ∀ (l ns : List (List UInt8)), ns.Nodup → (l.foldl nameA ns).Nodup
  | [], _, h => h
  | t :: r, _, h => foldA_nodup r _ (nameA_nodup h t)
theorem foldA_len : ∀ (l ns : List (List UInt8)), (l.foldl nameA ns).length ≤ ns.length + l.length
  | [], _ => by simp
  | t :: r, ns => by
    rw [List.foldl_cons]
    have h1 := foldA_len r (nameA ns t)
    have h2 : (nameA ns t).length ≤ ns.length + 1 := by
      unfold nameA
      split <;> simp
    rw [List.length_cons]
    omega
theorem refs_bodies : ∀ rs : List (List UInt8 × Nod), (rs.flatMap fun x => x.2.refs).length ≤ Syn.bodies rs
  | [] => Nat.le_refl _
  | x :: r => by
    rw [List.flatMap_cons, List.length_append, Syn.bodies]
    have h1 := refs_bodies r
    have h2 : x.2.refs.length ≤ x.2.kids.nodes + 1 := by
      unfold Syn.Nod.refs
      have := Nd.refs_len x.2.kids
      split <;> simp <;> omega
    omega
theorem table_len (rs : List (List UInt8 × Nod)) : (tableS rs).length ≤ rs.length + Syn.bodies rs := by
  have h1 := foldA_len (allN rs) []
  rw [← table_names, List.length_map] at h1
  have h2 := refs_bodies rs
  simp [allN] at h1
  have h3 : (rs.map (fun x : List UInt8 × Nod => x.2.refs.length)).sum = (rs.flatMap fun x => x.2.refs).length := by simp
  omega
/-- Each symbol has the first rule of its name. -/
def RuleOk (rs : List (List UInt8 × Nod)) (l : List Sym) : Prop := ∀ s ∈ l, s.rule = ruleOf rs s.name
theorem RuleOk.add {rs : List (List UInt8 × Nod)} {l : List Sym} (h : RuleOk rs l) (t : List UInt8) : RuleOk rs (addS rs l t) := by
  unfold addS
  split
  · exact h
  · intro s hs
    rcases List.mem_append.1 hs with hs | hs
    · exact h s hs
    · simp at hs
      subst hs
      rfl
theorem RuleOk.use {rs : List (List UInt8 × Nod)} {l : List Sym} (h : RuleOk rs l) (t : List UInt8) : RuleOk rs (useS rs l t) := by
  unfold useS
  simp only []
  split
  · split
    · rename_i hs
      intro x hx
      rcases List.mem_or_eq_of_mem_set hx with hx | hx
      · exact h.add t x hx
      · subst hx
        have h4 := h.add t _ (List.mem_of_getElem? hs)
        exact h4
    · exact h.add t
  · exact h.add t
theorem RuleOk.uses {rs : List (List UInt8 × Nod)} : ∀ (ns : List (List UInt8)) {l : List Sym}, RuleOk rs l → RuleOk rs (usesS rs l ns)
  | [], _, h => h
  | t :: r, _, h => RuleOk.uses r (h.use t)
theorem ruleOk_fold1 (all : List (List UInt8 × Nod)) : ∀ (rs : List (List UInt8 × Nod)) {l : List Sym}, RuleOk all l → RuleOk all (rs.foldl (fun l x => addS all l x.1) l)
  | [], _, h => h
  | x :: r, _, h => ruleOk_fold1 all r (h.add x.1)
theorem ruleOk_fold2 (all : List (List UInt8 × Nod)) : ∀ (rs : List (List UInt8 × Nod)) {l : List Sym}, RuleOk all l → RuleOk all (rs.foldl (fun l x => usesS all l x.2.refs) l)
  | [], _, h => h
  | _x :: r, _, h => ruleOk_fold2 all r (RuleOk.uses _ h)
theorem table_rules (rs : List (List UInt8 × Nod)) : RuleOk rs (tableS rs) := ruleOk_fold2 rs rs (ruleOk_fold1 rs rs (fun s hs => by simp at hs))
theorem firstAt_app (a b : List (List UInt8 × Nod)) (t : List UInt8) : ∀ (k : Nat), firstAt (a ++ b) k t = match firstAt a k t with
    | some i => some i
    | none => firstAt b (k + a.length) t := by
  induction a with
  | nil => intro k; rfl
  | cons x r ih =>
    intro k
    rw [List.cons_append, firstAt, firstAt]
    by_cases h : t = x.1
    · rw [if_pos h, if_pos h]
    · rw [if_neg h, if_neg h, ih, List.length_cons, show k + 1 + r.length = k + (r.length + 1) by omega]
theorem firstAt_mem : ∀ (rs : List (List UInt8 × Nod)) (k : Nat) (t : List UInt8), (firstAt rs k t).isSome = true ↔ t ∈ rs.map fun x => x.1
  | [], _, _ => by simp [firstAt]
  | x :: r, k, t => by
    unfold firstAt
    by_cases h : t = x.1
    · simp [h]
    · rw [if_neg h, firstAt_mem r (k + 1) t, List.map_cons, List.mem_cons]
      simp [h]
theorem firstAt_nodup : ∀ (rs : List (List UInt8 × Nod)) (k j : Nat) (x : List UInt8 × Nod), (rs.map fun x => x.1).Nodup → rs[j]? = some x → firstAt rs k x.1 = some (k + j)
  | [], _, _, _, _, h => by simp at h
  | y :: r, k, 0, x, _, h => by
    simp at h
    subst h
    simp [firstAt]
  | y :: r, k, j + 1, x, hn, h => by
    rw [List.map_cons, List.nodup_cons] at hn
    have hx : r[j]? = some x := by simpa using h
    rw [firstAt, if_neg, firstAt_nodup r (k + 1) j x hn.2 hx, show k + 1 + j = k + (j + 1) by omega]
    intro e
    exact hn.1 (e ▸ List.mem_map.2 ⟨x, List.mem_of_getElem? hx, rfl⟩)
/-- A rule without items. -/
def seqR (t : List UInt8) : List UInt8 × Nod := (t, ⟨3, [], .nil⟩)
/-- A rule for each symbol that has none. -/
def lackS (l : List Sym) : List (List UInt8 × Nod) := (l.filter fun s => decide (s.rule < 0)).map fun s => seqR s.name
def startIn (st : List UInt8) (l : List Sym) : Bool := l.any fun s => s.name == st
def addedS (st : List UInt8) (rs : List (List UInt8 × Nod)) : List (List UInt8 × Nod) := rs ++ (lackS (tableS rs) ++ if startIn st (tableS rs) = true then [] else [seqR st])
/-- The rules whose name has stood before. -/
def dupsFrom (all : List (List UInt8 × Nod)) : Nat → List (List UInt8 × Nod) → List Prob
  | _, [] => []
  | i, x :: r => (if firstAt all 0 x.1 = some i then [] else [⟨9, i, x.1⟩]) ++ dupsFrom all (i + 1) r
theorem probs_app (all : List (List UInt8 × Nod)) : ∀ (a b : List (List UInt8 × Nod)) (i : Nat), probsFrom all i (a ++ b) = probsFrom all i a ++ probsFrom all (i + a.length) b
  | [], b, i => rfl
  | x :: r, b, i => by
    rw [List.cons_append, probsFrom, probsFrom, probs_app all r b (i + 1), List.append_assoc, List.length_cons, show i + 1 + r.length = i + (r.length + 1) by omega]
theorem newN_none {F : List UInt8 → Bool} : ∀ {l told : List (List UInt8)}, (∀ t ∈ l, F t = true) → Syn.newN F l told = []
  | [], _, _ => rfl
  | t :: r, told, h => by
    rw [Syn.newN, h t (List.mem_cons_self ..)]
    exact newN_none fun u hu => h u (List.mem_cons_of_mem _ hu)
theorem ruleOf_neg {rs : List (List UInt8 × Nod)} {t : List UInt8} : ruleOf rs t < 0 ↔ firstAt rs 0 t = none := by
  unfold ruleOf
  cases firstAt rs 0 t with
  | some i => simp
  | none => simp
theorem startIn_iff {st : List UInt8} {l : List Sym} : startIn st l = true ↔ st ∈ l.map Sym.name := by
  unfold startIn
  rw [List.any_eq_true, List.mem_map]
  constructor
  · rintro ⟨s, h1, h2⟩
    exact ⟨s, h1, by simpa using h2⟩
  · rintro ⟨s, h1, h2⟩
    exact ⟨s, h1, by simpa using h2⟩
section
variable (st : List UInt8) (rs : List (List UInt8 × Nod))
theorem lack_names : (lackS (tableS rs)).map (fun x => x.1) = ((tableS rs).map Sym.name).filter fun t => (firstAt rs 0 t).isNone := by
  unfold lackS
  rw [List.map_map, List.filter_map]
  have : ((fun x : List UInt8 × Nod => x.1) ∘ fun s : Sym => seqR s.name) = Sym.name := rfl
  rw [this]
  congr 1
  apply List.filter_congr
  intro s hs
  rw [table_rules rs s hs]
  simp only [Function.comp]
  have := @ruleOf_neg rs s.name
  cases h : firstAt rs 0 s.name with
  | some i => simp [h] at this ⊢; omega
  | none => simp [h] at this ⊢; exact this
theorem more_nodup : ((lackS (tableS rs) ++ if startIn st (tableS rs) = true then [] else [seqR st]).map fun x => x.1).Nodup := by
  rw [List.map_append, lack_names]
  have hn : ((tableS rs).map Sym.name).Nodup := by rw [table_names]; exact foldA_nodup _ _ List.nodup_nil
  rw [List.nodup_append]
  refine ⟨hn.filter _, by split <;> simp, fun a ha b hb => ?_⟩
  split at hb
  · simp at hb
  · rename_i h
    simp [seqR] at hb
    subst hb
    intro e
    subst e
    exact h (startIn_iff.2 (List.mem_filter.1 ha).1)
theorem more_new : ∀ x ∈ (lackS (tableS rs) ++ if startIn st (tableS rs) = true then [] else [seqR st]), firstAt rs 0 x.1 = none ∧ x.2 = ⟨3, [], .nil⟩ := by
  intro x hx
  rcases List.mem_append.1 hx with hx | hx
  · have h1 : x.1 ∈ (lackS (tableS rs)).map fun x => x.1 := List.mem_map.2 ⟨x, hx, rfl⟩
    rw [lack_names] at h1
    have h2 := (List.mem_filter.1 h1).2
    refine ⟨by simpa using h2, ?_⟩
    unfold lackS at hx
    obtain ⟨s, _, rfl⟩ := List.mem_map.1 hx
    rfl
  · split at hx
    · simp at hx
    · rename_i h
      simp at hx
      subst hx
      refine ⟨?_, rfl⟩
      cases hf : firstAt rs 0 (seqR st).1 with
      | none => rfl
      | some i =>
        exfalso
        apply h
        rw [startIn_iff, table_names, foldA_mem]
        right
        have h2 : (firstAt rs 0 st).isSome = true := by
          have : (seqR st).1 = st := rfl
          rw [this] at hf
          rw [hf]; rfl
        exact List.mem_append.2 (.inl ((firstAt_mem rs 0 st).1 h2))
theorem added_known : ∀ t, t ∈ (tableS rs).map Sym.name ∨ t = st → (firstAt (addedS st rs) 0 t).isSome = true := by
  intro t ht
  rw [firstAt_mem]
  unfold addedS
  rw [List.map_append, List.map_append, lack_names, List.mem_append, List.mem_append]
  by_cases h1 : t ∈ (tableS rs).map Sym.name
  · cases hf : firstAt rs 0 t with
    | some i => exact .inl ((firstAt_mem rs 0 t).1 (by rw [hf]; rfl))
    | none => exact .inr (.inl (List.mem_filter.2 ⟨h1, by simp [hf]⟩))
  · rcases ht with ht | ht
    · exact absurd ht h1
    · subst ht
      right
      right
      rw [if_neg (fun h => h1 (startIn_iff.1 h))]
      simp [seqR]
theorem probs_old : ∀ (r : List (List UInt8 × Nod)) (i : Nat), (∀ x ∈ r, x ∈ rs) → probsFrom (addedS st rs) i r = dupsFrom rs i r
  | [], _, _ => rfl
  | x :: r, i, h => by
    have hx := h x (List.mem_cons_self ..)
    rw [probsFrom, dupsFrom, probs_old r (i + 1) (fun y hy => h y (List.mem_cons_of_mem _ hy)), probsOf, newN_none, List.map_nil, List.append_nil]
    · have hs : (firstAt rs 0 x.1).isSome = true := (firstAt_mem rs 0 x.1).2 (List.mem_map.2 ⟨x, hx, rfl⟩)
      have e : firstAt (addedS st rs) 0 x.1 = firstAt rs 0 x.1 := by
        unfold addedS
        rw [firstAt_app]
        cases hf : firstAt rs 0 x.1 with
        | some i => rfl
        | none => rw [hf] at hs; cases hs
      rw [e]
    · intro t ht
      refine added_known st rs t (.inl ?_)
      rw [table_names, foldA_mem]
      exact .inr (List.mem_append.2 (.inr (List.mem_flatMap.2 ⟨x, hx, ht⟩)))
theorem probs_more {m : List (List UInt8 × Nod)} (hnew : ∀ x ∈ m, firstAt rs 0 x.1 = none ∧ x.2 = ⟨3, [], .nil⟩) (hnd : (m.map fun x => x.1).Nodup) : ∀ (r : List (List UInt8 × Nod)) (j : Nat), m.drop j = r → probsFrom (rs ++ m) (rs.length + j) r = []
  | [], _, _ => rfl
  | x :: r, j, h => by
    have hj : m[j]? = some x := by
      have := congrArg (fun l => l[0]?) h
      simpa using this
    have hx := hnew x (List.mem_of_getElem? hj)
    have hr : m.drop (j + 1) = r := by rw [← List.drop_drop, h]; rfl
    rw [probsFrom, show rs.length + j + 1 = rs.length + (j + 1) by omega, probs_more hnew hnd r (j + 1) hr, probsOf, firstAt_app, hx.1, hx.2]
    simp only []
    rw [firstAt_nodup m _ j x hnd hj, Nat.zero_add, if_pos rfl]
    rfl
/-- With a rule for each name, and the start, only the names that stand twice are left. -/
theorem check_added : checkS st (addedS st rs) = dupsFrom rs 0 rs := by
  unfold checkS
  rw [added_known st rs st (.inr rfl), if_pos rfl, List.append_nil]
  conv => lhs; rw [show addedS st rs = rs ++ (lackS (tableS rs) ++ if startIn st (tableS rs) = true then [] else [seqR st]) from rfl]
  rw [probs_app]
  have h1 := probs_old st rs rs 0 (fun x hx => hx)
  have h2 := probs_more rs (more_new st rs) (more_nodup st rs) _ 0 rfl
  rw [List.drop_zero] at h2
  unfold addedS at h1
  rw [h1, Nat.zero_add]
  rw [Nat.add_zero] at h2
  rw [h2, List.append_nil]
theorem dups_code : ∀ (r : List (List UInt8 × Nod)) (i : Nat), ∀ p ∈ dupsFrom rs i r, p.code = 9
  | [], _, p, h => by simp [dupsFrom] at h
  | x :: r, i, p, h => by
    rw [dupsFrom, List.mem_append] at h
    rcases h with h | h
    · split at h
      · simp at h
      · simp at h
        subst h
        rfl
    · exact dups_code r (i + 1) p h
theorem dups_len : ∀ (r : List (List UInt8 × Nod)) (i : Nat), (dupsFrom rs i r).length ≤ r.length
  | [], _ => Nat.le_refl _
  | x :: r, i => by
    rw [dupsFrom, List.length_append, List.length_cons]
    have := dups_len r (i + 1)
    split <;> simp <;> omega
end
end Go.Proofs.Ytjaampgpihicmaa
