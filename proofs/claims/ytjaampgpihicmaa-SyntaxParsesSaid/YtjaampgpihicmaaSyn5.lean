/- Chapter 5 (syntax): atom, given around. -/
import Derived.Test.YtjaampgpihicmaaSyn4
import Derived.Laws.ResultCell
namespace Go.Proofs.Ytjaampgpihicmaa
open Go.RowKit
attribute [local go_sem ↓] Go.wp_at_zero Go.wp_at_succ
attribute [local go_sem] frozen_alloc_lt
open Syn (Nd Nod)

/-- A node, or none. -/
def isAtom (b : Nat) (n : Option Nod) (v : Value) (w : World) : Prop := match n with
  | some n => ∃ u, v = .tuple #[u, .bool true] ∧ isNode b n u w
  | none => v = .tuple #[.agg #[.int .i64 0, .string ⟨#[]⟩, .slice none 0 0], .bool false]
section
variable {w : World} {B bp : Nat} {gT : Option Addr} {cT : Nat} {T : List Lex.Tok} {i o : Nat}
theorem peek_ok (h : Par w B bp gT cT T i o) (hf : Syn.far T i = false) : Calls Try.prog 96 #[.pointer (some ⟨bp, 0, none⟩)] w fun e w' => e = .returned (tokA (Syn.tk T i)) ∧ Below w.heap.size w w' := by
  refine (peek_calls h).mono ?_
  rintro e w' (⟨_, h1, h2⟩ | ⟨h1, _⟩)
  · exact ⟨h1, h2⟩
  · rw [hf] at h1; cases h1
theorem peek_no (h : Par w B bp gT cT T i o) (hf : Syn.far T i = true) : Calls Try.prog 96 #[.pointer (some ⟨bp, 0, none⟩)] w (Threw w (Syn.flt T i 6)) := by
  refine (peek_calls h).mono ?_
  rintro e w' (⟨h1, _⟩ | ⟨_, h1⟩)
  · rw [hf] at h1; cases h1
  · exact h1
theorem sign_ok (h : Par w B bp gT cT T i o) (hf : Syn.far T i = false) (s : List UInt8) : Calls Try.prog 93 #[.pointer (some ⟨bp, 0, none⟩), .string ⟨s.toArray⟩] w fun e w' => e = .returned (.bool (Syn.isS T i s)) ∧ Below w.heap.size w w' := by
  refine (sign_calls h s).mono ?_
  rintro e w' (⟨_, h1, h2⟩ | ⟨h1, _⟩)
  · exact ⟨h1, h2⟩
  · rw [hf] at h1; cases h1
theorem sign_no (h : Par w B bp gT cT T i o) (hf : Syn.far T i = true) (s : List UInt8) : Calls Try.prog 93 #[.pointer (some ⟨bp, 0, none⟩), .string ⟨s.toArray⟩] w (Threw w (Syn.flt T i 6)) := by
  refine (sign_calls h s).mono ?_
  rintro e w' (⟨h1, _⟩ | ⟨_, h1⟩)
  · rw [hf] at h1; cases h1
  · exact h1
set_option maxRecDepth 8000 in
set_option maxHeartbeats 4000000 in
theorem atom_far (h : Par w B bp gT cT T i o) (hf : Syn.far T i = true) :
    Calls Try.prog 142 #[.pointer (some ⟨bp, 0, none⟩)] w (PEnd (isAtom w.heap.size) w B bp gT cT T (.bad (Syn.flt T i 6))) := by
  have hb0 : Below w.heap.size w (w.alloc (.cells #[.int .i64 0, .string ⟨#[]⟩, .slice none 0 0] 49)) := (Below.refl _ _).alloc (Nat.le_refl _) _
  have hp := peek_no (h.below hb0) hf
  have Hb0 := hid hb0
  clear h hf hb0
  go_enter Try.func142, Try.ntmps142
  go_wp2_with (go_at_call 96; refine hp.mono ?_; rintro e w1 ⟨rfl, hb⟩)
  exact ⟨rfl, PEnd.isBad rfl (below_gb (Hb0.out.trans (hb.mono Hb0.out.size)) _)⟩
set_option maxRecDepth 8000 in
set_option maxHeartbeats 4000000 in
theorem atom_none (h : Par w B bp gT cT T i o) (h1 : (Syn.tk T i).kind ≠ 1) (h2 : (Syn.tk T i).kind ≠ 2) (h3 : Syn.isS T i [40] = false) (h4 : Syn.isS T i [91] = false) (h5 : Syn.isS T i [123] = false) (hf : Syn.far T i = false) :
    Calls Try.prog 142 #[.pointer (some ⟨bp, 0, none⟩)] w (PEnd (isAtom w.heap.size) w B bp gT cT T (.ok none i o)) := by
  obtain ⟨t, ht⟩ : ∃ t, t = Syn.tk T i := ⟨_, rfl⟩
  have H := hid h
  have hb0 : Below w.heap.size w (w.alloc (.cells #[.int .i64 0, .string ⟨#[]⟩, .slice none 0 0] 49)) := (Below.refl _ _).alloc (Nat.le_refl _) _
  have hp := peek_ok (h.below hb0) hf
  simp only [tokA, ← ht] at hp
  unfold Syn.isS at h3 h4 h5
  rw [← ht] at h1 h2 h3 h4 h5
  obtain ⟨z, hz⟩ : ∃ z : Int, z = t.kind := ⟨_, rfl⟩
  rw [← hz] at hp
  have z1 : ¬ z = 1 := by omega
  have z2 : ¬ z = 2 := by omega
  have Hb0 := hid hb0
  have rb := Bk.new w 49 [.int .i64 0, .string ⟨#[]⟩, .slice none 0 0]
  have fin : ∀ w1 : World, Below (w.alloc (.cells #[.int .i64 0, .string ⟨#[]⟩, .slice none 0 0] 49)).heap.size (w.alloc (.cells #[.int .i64 0, .string ⟨#[]⟩, .slice none 0 0] 49)) w1 →
      ∀ ob : Obj, PEnd (isAtom w.heap.size) w B bp gT cT T (.ok none i o) (.returned (.tuple #[.agg #[.int .i64 0, .string ⟨#[]⟩, .slice none 0 0], .bool false])) ((((w1.setCell ⟨w.heap.size, 0, none⟩ (.int .i64 0)).setCell ⟨w.heap.size, 1, none⟩ (.string ⟨#[]⟩)).setCell ⟨w.heap.size, 2, none⟩ (.slice none 0 0)).alloc ob) := by
    intro w1 hb ob
    have hb1 : Below w.heap.size w ((((w1.setCell ⟨w.heap.size, 0, none⟩ (.int .i64 0)).setCell ⟨w.heap.size, 1, none⟩ (.string ⟨#[]⟩)).setCell ⟨w.heap.size, 2, none⟩ (.slice none 0 0)).alloc ob) := by
      have hb2 := hb0.trans (hb.mono hb0.size)
      exact (((hb2.setCell (Nat.le_refl _) _).setCell (Nat.le_refl _) _).setCell (Nat.le_refl _) _).alloc (by simpa [World.setCell] using hb2.size) _
    exact PEnd.isOk rfl (below_gb hb1 _) rfl (h.below hb1)
  have Fin := hid fin
  by_cases z3 : z = 3
  · have hk : t.kind = 3 := by omega
    rw [hk] at h3 h4 h5
    have c40 : (t.text == [40]) = false := by simpa using h3
    have c91 : (t.text == [91]) = false := by simpa using h4
    have c123 : (t.text == [123]) = false := by simpa using h5
    clear ht h1 h2 h3 h4 h5 hf hz hb0 h hk fin
    go_enter Try.func142, Try.ntmps142
    go_wp2_with (go_at_call 96; refine hp.mono ?_; rintro e w1 ⟨rfl, hb⟩; (have rb1 := rb.below hb rb.lt); (have hl1 : w.heap.size < w1.heap.size := rb1.lt); (have r0 := rb1.cell 0); (have r1 := rb1.cell 1); (have r2 := rb1.cell 2); (have f0 := rb1.free 0); (have f1 := rb1.free 1); (have f2 := rb1.free 2); simp only [List.getElem?_cons_zero, List.getElem?_cons_succ] at r0 r1 r2)
    refine bodyPost_ret (by rw [results_cell_tmp rfl]; simp [go_sem, r0, r1, r2, hl1]; rfl) rfl ?_
    exact Fin.out w1 hb _
  · clear ht h1 h2 h3 h4 h5 hf hz hb0 h fin
    go_enter Try.func142, Try.ntmps142
    go_wp2_with (go_at_call 96; refine hp.mono ?_; rintro e w1 ⟨rfl, hb⟩; (have rb1 := rb.below hb rb.lt); (have hl1 : w.heap.size < w1.heap.size := rb1.lt); (have r0 := rb1.cell 0); (have r1 := rb1.cell 1); (have r2 := rb1.cell 2); (have f0 := rb1.free 0); (have f1 := rb1.free 1); (have f2 := rb1.free 2); simp only [List.getElem?_cons_zero, List.getElem?_cons_succ] at r0 r1 r2)
    refine bodyPost_ret (by rw [results_cell_tmp rfl]; simp [go_sem, r0, r1, r2, hl1]; rfl) rfl ?_
    exact Fin.out w1 hb _
set_option maxRecDepth 8000 in
set_option maxHeartbeats 4000000 in
theorem atom_ref (h : Par w B bp gT cT T i o) (h1 : (Syn.tk T i).kind = 1) (hf : Syn.far T i = false) :
    Calls Try.prog 142 #[.pointer (some ⟨bp, 0, none⟩)] w (PEnd (isAtom w.heap.size) w B bp gT cT T (.ok (some ⟨1, (Syn.tk T i).text, .nil⟩) (i + 1) o)) := by
  have hj := lt_last h.lt h.last (by omega)
  have hlt := h.k.lt
  obtain ⟨t, ht⟩ : ∃ t, t = Syn.tk T i := ⟨_, rfl⟩
  have hb0 : Below w.heap.size w (w.alloc (.cells #[.int .i64 0, .string ⟨#[]⟩, .slice none 0 0] 49)) := (Below.refl _ _).alloc (Nat.le_refl _) _
  have h0 := h.below hb0
  have hp := peek_ok h0 hf
  simp only [tokA, ← ht] at hp
  rw [← ht] at h1
  rw [← ht]
  obtain ⟨z, hz⟩ : ∃ z : Int, z = t.kind := ⟨_, rfl⟩
  rw [← hz] at hp
  have z1 : z = 1 := by omega
  obtain ⟨y, hy⟩ : ∃ y : Int, y = i := ⟨_, rfl⟩
  have hy1 : y < 1000000 := by have := h.len; have := h.lt; omega
  have hy0 : 0 ≤ y := by omega
  have rb := Bk.new w 49 [.int .i64 0, .string ⟨#[]⟩, .slice none 0 0]
  have fin : ∀ w1 : World, Below (w.alloc (.cells #[.int .i64 0, .string ⟨#[]⟩, .slice none 0 0] 49)).heap.size (w.alloc (.cells #[.int .i64 0, .string ⟨#[]⟩, .slice none 0 0] 49)) w1 →
      ∀ ob : Obj, PEnd (isAtom w.heap.size) w B bp gT cT T (.ok (some ⟨1, t.text, .nil⟩) (i + 1) o) (.returned (.tuple #[.agg #[.int .i64 1, .string ⟨t.text.toArray⟩, .slice none 0 0], .bool true])) (((((w1.setCell ⟨bp, 1, none⟩ (.int .i64 (y + 1))).setCell ⟨w.heap.size, 0, none⟩ (.int .i64 1)).setCell ⟨w.heap.size, 1, none⟩ (.string ⟨t.text.toArray⟩)).setCell ⟨w.heap.size, 2, none⟩ (.slice none 0 0)).alloc ob) := by
    intro w1 hb ob
    have hb2 := hb0.trans (hb.mono hb0.size)
    have hq := (h0.below hb).at (i + 1) hj
    rw [Int.natCast_add, Int.natCast_one, ← hy] at hq
    have hkp := ((((Kp.refl (fun k => k = w.heap.size) (w1.setCell ⟨bp, 1, none⟩ (.int .i64 (y + 1)))).set (p := ⟨w.heap.size, 0, none⟩) (.inl rfl) (.int .i64 1)).set (p := ⟨w.heap.size, 1, none⟩) (.inl rfl) (.string ⟨t.text.toArray⟩)).set (p := ⟨w.heap.size, 2, none⟩) (.inl rfl) (.slice none 0 0)).alloc ob
    refine PEnd.isOk rfl ?_ ⟨_, rfl, none, 0, rfl, trivial⟩ (hq.kp hkp (fun k e => by omega))
    refine gb_alloc ?_ _
    refine gb_set ?_ (.inr (Nat.le_refl _)) _
    refine gb_set ?_ (.inr (Nat.le_refl _)) _
    refine gb_set ?_ (.inr (Nat.le_refl _)) _
    refine gb_set ?_ (.inl rfl) _
    exact below_gb hb2 _
  have H0 := hid h0
  have Hy := hid hy
  have Fin := hid fin
  clear ht h1 hf hz hb0 h hj fin h0 hy
  subst z1
  go_enter Try.func142, Try.ntmps142
  go_wp2_with (go_at_call 96; refine hp.mono ?_; rintro e w1 ⟨rfl, hb⟩; (have rb1 := rb.below hb rb.lt); (have hl1 : w.heap.size < w1.heap.size := rb1.lt); (have hbl : bp < w1.heap.size := by omega); (have k1 := (H0.out.below hb).k.cell 1); (have fr1 := (H0.out.below hb).k.free 1); (have r0 := rb1.cell 0); (have r1 := rb1.cell 1); (have r2 := rb1.cell 2); (have f0 := rb1.free 0); (have f1 := rb1.free 1); (have f2 := rb1.free 2); simp only [List.getElem?_cons_zero, List.getElem?_cons_succ] at r0 r1 r2 k1; rw [← Hy.out] at k1)
  have hne : ¬ w.heap.size = bp := by omega
  refine bodyPost_ret (by rw [results_cell_tmp rfl]; simp [go_sem, r0, r1, r2, hl1]; rfl) rfl ?_
  exact Fin.out w1 hb _
set_option maxRecDepth 8000 in
set_option maxHeartbeats 4000000 in
theorem atom_lit (h : Par w B bp gT cT T i o) (h1 : (Syn.tk T i).kind = 2) (hf : Syn.far T i = false) :
    Calls Try.prog 142 #[.pointer (some ⟨bp, 0, none⟩)] w (PEnd (isAtom w.heap.size) w B bp gT cT T (.ok (some ⟨2, (Syn.tk T i).text, .nil⟩) (i + 1) o)) := by
  have hj := lt_last h.lt h.last (by omega)
  have hlt := h.k.lt
  obtain ⟨t, ht⟩ : ∃ t, t = Syn.tk T i := ⟨_, rfl⟩
  have hb0 : Below w.heap.size w (w.alloc (.cells #[.int .i64 0, .string ⟨#[]⟩, .slice none 0 0] 49)) := (Below.refl _ _).alloc (Nat.le_refl _) _
  have h0 := h.below hb0
  have hp := peek_ok h0 hf
  simp only [tokA, ← ht] at hp
  rw [← ht] at h1
  rw [← ht]
  obtain ⟨z, hz⟩ : ∃ z : Int, z = t.kind := ⟨_, rfl⟩
  rw [← hz] at hp
  have z1 : z = 2 := by omega
  obtain ⟨y, hy⟩ : ∃ y : Int, y = i := ⟨_, rfl⟩
  have hy1 : y < 1000000 := by have := h.len; have := h.lt; omega
  have hy0 : 0 ≤ y := by omega
  have rb := Bk.new w 49 [.int .i64 0, .string ⟨#[]⟩, .slice none 0 0]
  have fin : ∀ w1 : World, Below (w.alloc (.cells #[.int .i64 0, .string ⟨#[]⟩, .slice none 0 0] 49)).heap.size (w.alloc (.cells #[.int .i64 0, .string ⟨#[]⟩, .slice none 0 0] 49)) w1 →
      ∀ ob : Obj, PEnd (isAtom w.heap.size) w B bp gT cT T (.ok (some ⟨2, t.text, .nil⟩) (i + 1) o) (.returned (.tuple #[.agg #[.int .i64 2, .string ⟨t.text.toArray⟩, .slice none 0 0], .bool true])) (((((w1.setCell ⟨bp, 1, none⟩ (.int .i64 (y + 1))).setCell ⟨w.heap.size, 0, none⟩ (.int .i64 2)).setCell ⟨w.heap.size, 1, none⟩ (.string ⟨t.text.toArray⟩)).setCell ⟨w.heap.size, 2, none⟩ (.slice none 0 0)).alloc ob) := by
    intro w1 hb ob
    have hb2 := hb0.trans (hb.mono hb0.size)
    have hq := (h0.below hb).at (i + 1) hj
    rw [Int.natCast_add, Int.natCast_one, ← hy] at hq
    have hkp := ((((Kp.refl (fun k => k = w.heap.size) (w1.setCell ⟨bp, 1, none⟩ (.int .i64 (y + 1)))).set (p := ⟨w.heap.size, 0, none⟩) (.inl rfl) (.int .i64 2)).set (p := ⟨w.heap.size, 1, none⟩) (.inl rfl) (.string ⟨t.text.toArray⟩)).set (p := ⟨w.heap.size, 2, none⟩) (.inl rfl) (.slice none 0 0)).alloc ob
    refine PEnd.isOk rfl ?_ ⟨_, rfl, none, 0, rfl, trivial⟩ (hq.kp hkp (fun k e => by omega))
    refine gb_alloc ?_ _
    refine gb_set ?_ (.inr (Nat.le_refl _)) _
    refine gb_set ?_ (.inr (Nat.le_refl _)) _
    refine gb_set ?_ (.inr (Nat.le_refl _)) _
    refine gb_set ?_ (.inl rfl) _
    exact below_gb hb2 _
  have H0 := hid h0
  have Hy := hid hy
  have Fin := hid fin
  clear ht h1 hf hz hb0 h hj fin h0 hy
  subst z1
  go_enter Try.func142, Try.ntmps142
  go_wp2_with (go_at_call 96; refine hp.mono ?_; rintro e w1 ⟨rfl, hb⟩; (have rb1 := rb.below hb rb.lt); (have hl1 : w.heap.size < w1.heap.size := rb1.lt); (have hbl : bp < w1.heap.size := by omega); (have k1 := (H0.out.below hb).k.cell 1); (have fr1 := (H0.out.below hb).k.free 1); (have r0 := rb1.cell 0); (have r1 := rb1.cell 1); (have r2 := rb1.cell 2); (have f0 := rb1.free 0); (have f1 := rb1.free 1); (have f2 := rb1.free 2); simp only [List.getElem?_cons_zero, List.getElem?_cons_succ] at r0 r1 r2 k1; rw [← Hy.out] at k1)
  have hne : ¬ w.heap.size = bp := by omega
  refine bodyPost_ret (by rw [results_cell_tmp rfl]; simp [go_sem, r0, r1, r2, hl1]; rfl) rfl ?_
  exact Fin.out w1 hb _
end
end Go.Proofs.Ytjaampgpihicmaa
