/- A row of rows of ints of the call's own, each appended to by itself. No program. -/
import Derived.Test.YtaehooafdbaomaaRep
import Derived.Maps.AppendAt
namespace Go.Proofs.Ytaehooafdbaomaa
open Go.RowKit

def OwnII (w : World) (base : Nat) (e : TypeId) (bo : Nat) (T : TypeId) (ls : List (List Int)) (vs : List Value) : Prop :=
  Bk w bo T vs ∧ vs.length = ls.length ∧ bo < base ∧ (∀ (a : Nat) v l, vs[a]? = some v → ls[a]? = some l → w.ownsRow base e 1 v l.length (l.map (Value.int .i64))) ∧
    ∀ (a b : Nat) u v, a ≠ b → vs[a]? = some u → vs[b]? = some v → u.ownBlock = none ∨ u.ownBlock ≠ v.ownBlock

section
variable {w w1 : World} {base : Nat} {e : TypeId} {bo : Nat} {T : TypeId} {ls : List (List Int)} {vs : List Value}

theorem OwnII.made {n : Nat} (h : Bk w bo T (List.replicate n (.slice none 0 0))) (hb : bo < base) : OwnII w base e bo T (List.replicate n []) (List.replicate n (.slice none 0 0)) := by
  refine ⟨h, by simp, hb, fun a v l hv hl => ?_, fun a b u v _ hu hv => ?_⟩
  · rw [List.getElem?_replicate] at hv hl
    split at hv
    · rw [if_pos (by assumption)] at hl
      cases hv; cases hl
      exact World.ownsRow_nil _ _ _ _
    · cases hv
  · rw [List.getElem?_replicate] at hu
    split at hu
    · cases hu; exact .inl rfl
    · cases hu

theorem OwnII.bk (h : OwnII w base e bo T ls vs) : Bk w bo T vs := h.1
theorem OwnII.len (h : OwnII w base e bo T ls vs) : vs.length = ls.length := h.2.1

theorem OwnII.at (h : OwnII w base e bo T ls vs) {a : Nat} {l : List Int} (hl : ls[a]? = some l) : ∃ v, vs[a]? = some v ∧ w.cell? ⟨bo, a, none⟩ = some v ∧ w.ownsRow base e 1 v l.length (l.map (Value.int .i64)) := by
  have hlt : a < vs.length := by rw [h.2.1]; exact (List.getElem?_eq_some_iff.1 hl).1
  have hv : vs[a]? = some vs[a] := List.getElem?_eq_getElem hlt
  exact ⟨vs[a], hv, by rw [h.1.cell]; exact hv, h.2.2.2.1 a _ l hv hl⟩

theorem OwnII.kp {S : Nat → Prop} (h : OwnII w base e bo T ls vs) (hk : Kp S w w1) (hs : ¬ S bo) (hv : ∀ v ∈ vs, ∀ g, v.ownBlock = some g → ¬ S g) : OwnII w1 base e bo T ls vs :=
  ⟨h.1.kp hk hs, h.2.1, h.2.2.1, fun a v l hv' hl => own_kp (h.2.2.2.1 a v l hv' hl) hk (hv v (List.mem_of_getElem? hv')), h.2.2.2.2⟩

theorem OwnII.lt (h : OwnII w base e bo T ls vs) : ∀ v ∈ vs, ∀ g, v.ownBlock = some g → base ≤ g ∧ g < w.heap.size := by
  intro v hv g hg
  obtain ⟨a, ha⟩ := List.getElem?_of_mem hv
  have hlt : a < ls.length := by rw [← h.2.1]; exact (List.getElem?_eq_some_iff.1 ha).1
  exact (h.2.2.2.1 a v _ ha (List.getElem?_eq_getElem hlt)).lt g hg

theorem OwnII.alloc (h : OwnII w base e bo T ls vs) (o : Obj) : OwnII (w.alloc o) base e bo T ls vs :=
  h.kp (S := fun _ => False) ((Kp.refl _ w).alloc o) (fun h => h) (fun _ _ _ _ h => h)
theorem OwnII.drewN (h : OwnII w base e bo T ls vs) (n : Nat) : OwnII (w.drewN n) base e bo T ls vs := h

theorem OwnII.ne (h : OwnII w base e bo T ls vs) {a : Nat} {v : Value} (hv : vs[a]? = some v) : some bo ≠ v.ownBlock := by
  intro e1
  have := (h.lt v (List.mem_of_getElem? hv) bo e1.symm).1
  have := h.2.2.1
  omega

/-- A row is grown, and stored back. -/
theorem OwnII.put (h : OwnII w base e bo T ls vs) {a : Nat} {l l' : List Int} {v v' : Value} {n : Nat} (hl : ls[a]? = some l) (hv : vs[a]? = some v) (hg : w.grownBy w1 v.ownBlock)
    (hown : w1.ownsRow base e 1 v' n (l'.map (Value.int .i64))) (hat' : ∃ g, v'.ownBlock = some g ∧ (v.ownBlock = some g ∨ w.heap.size ≤ g)) :
    OwnII (w1.setCell ⟨bo, a, none⟩ v') base e bo T (ls.set a l') (vs.set a v') := by
  obtain ⟨hbk, hlen, hbb, hall, hap⟩ := h
  have hat : v'.ownBlock = v.ownBlock ∨ ∃ g, v'.ownBlock = some g ∧ w.heap.size ≤ g := by
    obtain ⟨g, h1, h2 | h2⟩ := hat'
    · exact .inl (by rw [h1, h2])
    · exact .inr ⟨g, h1, h2⟩
  have hn : n = l'.length := by have := hown.1; simp at this; omega
  subst hn
  have hob : v.ownBlock ≠ some bo := by
    intro e1
    have := ((hall a v l hv hl).lt bo e1).1
    omega
  have hk : Kp (fun k => v.ownBlock = some k) w w1 := (Kp.refl _ w).grown hg fun k hk _ => hk
  have hk2 : Kp (fun k => k = bo) w1 (w1.setCell ⟨bo, a, none⟩ v') := Kp.set (S := fun k => k = bo) (Kp.refl _ w1) (.inl rfl) v'
  have hbo' : v'.ownBlock ≠ some bo := by
    intro e1
    have := (hown.lt bo e1).1
    omega
  refine ⟨(hbk.kp hk hob).set a v', by simp [hlen], hbb, fun c u m hu hm => ?_, fun c d u u' hcd hu hu' => ?_⟩
  · by_cases hc : c = a
    · subst hc
      rw [List.getElem?_set_self (List.getElem?_eq_some_iff.1 hv).1] at hu
      rw [List.getElem?_set_self (List.getElem?_eq_some_iff.1 hl).1] at hm
      cases hu; cases hm
      exact own_kp hown hk2 (fun g hg' e1 => hbo' (by rw [hg', e1]))
    · rw [List.getElem?_set_ne (Ne.symm hc)] at hu hm
      have ho := hall c u m hu hm
      refine own_kp (own_kp ho hk (fun g hg' e1 => ?_)) hk2 (fun g hg' e1 => ?_)
      · rcases hap c a u v hc hu hv with h1 | h1
        · rw [hg'] at h1; cases h1
        · exact h1 (by rw [hg', e1])
      · have := (ho.lt g hg').1
        omega
  · by_cases hc : c = a
    · subst hc
      rw [List.getElem?_set_self (List.getElem?_eq_some_iff.1 hv).1] at hu
      cases hu
      rw [List.getElem?_set_ne hcd] at hu'
      rcases hat with h1 | ⟨g, h1, h2⟩
      · rw [h1]; exact hap c d v u' hcd hv hu'
      · refine .inr fun e1 => ?_
        rw [h1] at e1
        have hlt : d < ls.length := by rw [← hlen]; exact (List.getElem?_eq_some_iff.1 hu').1
        have := ((hall d u' _ hu' (List.getElem?_eq_getElem hlt)).lt g e1.symm).2
        omega
    · rw [List.getElem?_set_ne (Ne.symm hc)] at hu
      by_cases hd : d = a
      · subst hd
        rw [List.getElem?_set_self (List.getElem?_eq_some_iff.1 hv).1] at hu'
        cases hu'
        rcases hat with h1 | ⟨g, h1, h2⟩
        · rw [h1]; exact hap c d u v hcd hu hv
        · refine .inr fun e1 => ?_
          rw [h1] at e1
          have hlt : c < ls.length := by rw [← hlen]; exact (List.getElem?_eq_some_iff.1 hu).1
          have := ((hall c u _ hu (List.getElem?_eq_getElem hlt)).lt g e1).2
          omega
      · rw [List.getElem?_set_ne (Ne.symm hd)] at hu'
        exact hap c d u u' hcd hu hu'

theorem own_rowID {n : Nat} {v : Value} {zs : List Int} (h : w.ownsRow base e 1 v n (zs.map (Value.int .i64))) : ∃ ga cap, v = .slice ga zs.length cap ∧ RowID w (fun k => base ≤ k ∧ k < w.heap.size) ga zs := by
  have hn : n = zs.length := by have := h.1; simp at this; omega
  subst hn
  obtain ⟨ga, cap, rfl, hc⟩ := own_slice h
  refine ⟨ga, cap, rfl, fun i hi => ?_⟩
  obtain ⟨g, h1, h2, h3, h4⟩ := hc i (.int .i64 zs[i]) (by simp [List.getElem?_eq_getElem hi])
  exact ⟨g, 0, _, h1, ⟨h2, h3⟩, by rw [Nat.zero_add]; exact h4, by simp [List.getD, List.getElem?_eq_getElem hi]⟩

theorem OwnII.rows (h : OwnII w base e bo T ls vs) : RowIID w (fun k => (k = bo ∨ base ≤ k) ∧ k < w.heap.size) (some ⟨bo, 0, none⟩) ls := by
  refine RowIID.intro fun i x hx => ?_
  obtain ⟨v, hv, hc, ho⟩ := h.at hx
  obtain ⟨ga, cap, rfl, hr⟩ := own_rowID ho
  refine ⟨bo, 0, ga, cap, rfl, ⟨.inl rfl, h.1.lt⟩, by rw [Nat.zero_add]; exact hc, hr.mono fun k hk => ⟨.inr hk.1, hk.2⟩, fun hga => ?_⟩
  subst hga
  rcases ho.2 with ⟨h0, _⟩ | ⟨g, cap', cur, h0, _⟩
  · simp only [Value.slice.injEq] at h0
    exact h0.2.2
  · simp at h0
end
end Go.Proofs.Ytaehooafdbaomaa
