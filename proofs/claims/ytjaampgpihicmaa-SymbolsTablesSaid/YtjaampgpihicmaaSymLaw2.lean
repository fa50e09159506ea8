/- Chapter 7 (symbols), in plain Lean: a table's symbol counts its uses. No program. -/
import Derived.Test.YtjaampgpihicmaaSymLaw1
import Derived.Test.YtjaampgpihicmaaSymD4
namespace Go.Proofs.Ytjaampgpihicmaa
open Syn (Nd Nod)

theorem symAt_name : ∀ {l : List Sym} {k i : Nat} {t : List UInt8}, symAt l k t = some i → ∃ s, l[i - k]? = some s ∧ s.name = t ∧ k ≤ i
  | [], _, _, _, h => by simp [symAt] at h
  | a :: r, k, i, t, h => by
    unfold symAt at h
    by_cases e : t = a.name
    · rw [if_pos e] at h
      injection h with h
      subst h
      exact ⟨a, by simp, e.symm, Nat.le_refl _⟩
    · rw [if_neg e] at h
      obtain ⟨s, h1, h2, h3⟩ := symAt_name h
      refine ⟨s, ?_, h2, by omega⟩
      rw [show i - k = (i - (k + 1)) + 1 by omega]
      simpa using h1
/-- Each symbol of l counts its name in ns. -/
structure UsesOk (ns : List (List UInt8)) (l : List Sym) : Prop where
  uses : ∀ s ∈ l, s.uses = ns.count s.name
  all : ∀ t ∈ ns, t ∈ l.map Sym.name
  nodup : (l.map Sym.name).Nodup
theorem UsesOk.add {ns : List (List UInt8)} {l : List Sym} (h : UsesOk ns l) (rs : List (List UInt8 × Nod)) (t : List UInt8) : UsesOk ns (addS rs l t) := by
  have hn := addS_names rs l t
  refine ⟨fun s hs => ?_, fun u hu => ?_, by rw [hn]; exact nameA_nodup h.nodup t⟩
  · unfold addS at hs
    split at hs
    · exact h.uses s hs
    · rename_i hno
      rcases List.mem_append.1 hs with hs | hs
      · exact h.uses s hs
      · simp at hs
        subst hs
        show 0 = ns.count t
        rw [symAt_some] at hno
        rw [List.count_eq_zero_of_not_mem]
        intro ht
        exact hno (List.contains_iff_mem.2 (h.all t ht))
  · rw [hn, nameA_mem]
    exact .inl (h.all u hu)
theorem UsesOk.use {ns : List (List UInt8)} {l : List Sym} (h : UsesOk ns l) (rs : List (List UInt8 × Nod)) (t : List UInt8) : UsesOk (ns ++ [t]) (useS rs l t) := by
  have h2 := h.add rs t
  have hnm := useS_names rs l t
  have hn := addS_names rs l t
  have ht : t ∈ (addS rs l t).map Sym.name := by rw [hn, nameA_mem]; exact .inr rfl
  refine ⟨?_, fun u hu => ?_, by rw [hnm]; exact nameA_nodup h.nodup t⟩
  · unfold useS
    simp only []
    cases hs : symAt (addS rs l t) 0 t with
    | none =>
      have := symAt_some (addS rs l t) 0 t
      rw [hs] at this
      rw [List.contains_iff_mem.2 ht] at this
      cases this
    | some i =>
      obtain ⟨s, h3, h4, -⟩ := symAt_name hs
      rw [Nat.sub_zero] at h3
      simp only [h3]
      intro x hx
      obtain ⟨j, hj⟩ := List.mem_iff_getElem?.1 hx
      rw [List.getElem?_set] at hj
      by_cases hij : i = j
      · subst hij
        rw [if_pos rfl, if_pos ((List.getElem?_eq_some_iff.1 h3).1)] at hj
        injection hj with hj
        subst hj
        show s.uses + 1 = (ns ++ [t]).count s.name
        rw [List.count_append, h2.uses s (List.mem_of_getElem? h3), h4]
        simp
      · rw [if_neg hij] at hj
        have hne : x.name ≠ t := by
          intro e
          have h5 : ((addS rs l t).map Sym.name)[j]? = some t := by rw [List.getElem?_map, hj, ← e]; rfl
          have h6 : ((addS rs l t).map Sym.name)[i]? = some t := by rw [List.getElem?_map, h3, ← h4]; rfl
          exact hij ((List.getElem?_inj (by rw [List.length_map]; exact (List.getElem?_eq_some_iff.1 h3).1) h2.nodup).1 (h6.trans h5.symm))
        rw [h2.uses x (List.mem_of_getElem? hj), List.count_append, List.count_eq_zero_of_not_mem (a := x.name) (l := [t]) (by simp [hne])]
        omega
  · rw [hnm, nameA_mem]
    rcases List.mem_append.1 hu with hu | hu
    · exact .inl (h.all u hu)
    · simp at hu
      exact .inr hu
theorem UsesOk.fold (rs : List (List UInt8 × Nod)) : ∀ (r ns : List (List UInt8)) {l : List Sym}, UsesOk ns l → UsesOk (ns ++ r) (usesS rs l r)
  | [], ns, _, h => by rw [List.append_nil]; exact h
  | t :: r, ns, l, h => by
    have h2 := UsesOk.fold rs r (ns ++ [t]) (h.use rs t)
    rw [List.append_assoc] at h2
    exact h2
theorem UsesOk.names (all : List (List UInt8 × Nod)) : ∀ (rs : List (List UInt8 × Nod)) {l : List Sym}, UsesOk [] l → UsesOk [] (rs.foldl (fun l x => addS all l x.1) l)
  | [], _, h => h
  | x :: r, _, h => UsesOk.names all r (h.add all x.1)
theorem UsesOk.all_refs (all : List (List UInt8 × Nod)) : ∀ (rs : List (List UInt8 × Nod)) (ns : List (List UInt8)) {l : List Sym}, UsesOk ns l → UsesOk (ns ++ rs.flatMap fun x => x.2.refs) (rs.foldl (fun l x => usesS all l x.2.refs) l)
  | [], ns, _, h => by rw [List.flatMap_nil, List.append_nil]; exact h
  | x :: r, ns, l, h => by
    rw [List.flatMap_cons, ← List.append_assoc, List.foldl_cons]
    exact UsesOk.all_refs all r _ (UsesOk.fold all x.2.refs ns h)
theorem table_uses (rs : List (List UInt8 × Nod)) : ∀ s ∈ tableS rs, s.uses = (rs.flatMap fun x => x.2.refs).count s.name := by
  have h := UsesOk.all_refs rs rs [] (UsesOk.names rs rs (l := []) ⟨fun s hs => by simp at hs, fun t ht => by simp at ht, List.nodup_nil⟩)
  exact h.uses
theorem lits_bodies : ∀ rs : List (List UInt8 × Nod), (rs.flatMap fun x => x.2.lits).length ≤ Syn.bodies rs
  | [] => Nat.le_refl _
  | x :: r => by
    rw [List.flatMap_cons, List.length_append, Syn.bodies]
    have h1 := lits_bodies r
    have h2 : x.2.lits.length ≤ x.2.kids.nodes + 1 := by
      unfold Syn.Nod.lits
      have := Nd.lits_len x.2.kids
      split
      · simp
      · split <;> simp <;> omega
    omega
end Go.Proofs.Ytjaampgpihicmaa
