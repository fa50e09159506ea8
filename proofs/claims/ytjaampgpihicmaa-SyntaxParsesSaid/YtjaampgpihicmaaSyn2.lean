/- Chapter 5 (syntax): the parser's sign, take, name. -/
import Derived.Test.YtjaampgpihicmaaSyn1
namespace Go.Proofs.Ytjaampgpihicmaa
open Go.RowKit
attribute [local go_sem ↓] Go.wp_at_zero Go.wp_at_succ
attribute [local go_sem] frozen_alloc_lt

/-- The place moves on. -/
theorem Par.moved {w w' : World} {B bp : Nat} {gT : Option Addr} {cT : Nat} {T : List Lex.Tok} {i o j : Nat} (h : Par w B bp gT cT T i o) (ht : TokR w' B gT T) (hk : Bk w' bp 101 [.slice gT T.length cT, .int .i64 j, .int .i64 o]) (hj : j < T.length) : Par w' B bp gT cT T j o := ⟨ht, hk, h.hB, h.len, hj, h.last⟩
theorem lt_last {T : List Lex.Tok} {i : Nat} (h : i < T.length) (hl : (Syn.tk T (T.length - 1)).kind = 4) (hk : (Syn.tk T i).kind ≠ 4) : i + 1 < T.length := by
  rcases Nat.lt_or_ge (i + 1) T.length with h1 | h1
  · exact h1
  · have : i = T.length - 1 := by omega
    rw [this] at hk
    exact absurd hl hk
theorem below_gb {w w' : World} (h : Below w.heap.size w w') (row : Option Nat) : w.grownBy w' row := ⟨h.os, h.tape, h.output, h.size, fun i hi _ => h.block i hi⟩
/-- What a call of the parser ends in: the row, or the fault. -/
def PEnd {α : Type} (V : α → Value → World → Prop) (w : World) (B bp : Nat) (gT : Option Addr) (cT : Nat) (T : List Lex.Tok) (r : Syn.Res α) (e : Ending) (w' : World) : Prop :=
  w.grownBy w' (some bp) ∧ match r with
    | .ok a j o => (∃ v, e = .returned v ∧ V a v w') ∧ Par w' B bp gT cT T j o
    | .bad f => e = .panicked [{ v := wrongV f, recovered := false }]
theorem PEnd.isBad {α : Type} {V : α → Value → World → Prop} {w w' : World} {B bp : Nat} {gT : Option Addr} {cT : Nat} {T : List Lex.Tok} {r : Syn.Res α} {f : Lex.Flt} (hr : r = .bad f) (hg : w.grownBy w' (some bp)) : PEnd V w B bp gT cT T r (.panicked [{ v := wrongV f, recovered := false }]) w' := by
  subst hr
  exact ⟨hg, rfl⟩
theorem PEnd.isOk {α : Type} {V : α → Value → World → Prop} {w w' : World} {B bp : Nat} {gT : Option Addr} {cT : Nat} {T : List Lex.Tok} {r : Syn.Res α} {a : α} {j o : Nat} {v : Value} (hr : r = .ok a j o) (hg : w.grownBy w' (some bp)) (hv : V a v w') (hp : Par w' B bp gT cT T j o) : PEnd V w B bp gT cT T r (.returned v) w' := by
  subst hr
  exact ⟨hg, ⟨v, rfl, hv⟩, hp⟩
theorem PEnd.whenBad {α : Type} {V : α → Value → World → Prop} {w w' : World} {B bp : Nat} {gT : Option Addr} {cT : Nat} {T : List Lex.Tok} {r : Syn.Res α} {e : Ending} {f : Lex.Flt} (h : PEnd V w B bp gT cT T r e w') (hr : r = .bad f) : e = .panicked [{ v := wrongV f, recovered := false }] ∧ w.grownBy w' (some bp) := by
  subst hr
  exact ⟨h.2, h.1⟩
theorem PEnd.whenOk {α : Type} {V : α → Value → World → Prop} {w w' : World} {B bp : Nat} {gT : Option Addr} {cT : Nat} {T : List Lex.Tok} {r : Syn.Res α} {e : Ending} {a : α} {j o : Nat} (h : PEnd V w B bp gT cT T r e w') (hr : r = .ok a j o) : (∃ v, e = .returned v ∧ V a v w') ∧ Par w' B bp gT cT T j o ∧ w.grownBy w' (some bp) := by
  subst hr
  exact ⟨h.2.1, h.2.2, h.1⟩
/-- The place is set. -/
theorem Par.at {w : World} {B bp : Nat} {gT : Option Addr} {cT : Nat} {T : List Lex.Tok} {i o : Nat} (h : Par w B bp gT cT T i o) (j : Nat) (hj : j < T.length) : Par (w.setCell ⟨bp, 1, none⟩ (.int .i64 j)) B bp gT cT T j o :=
  h.moved (h.t.below ((Below.refl B w).setCell h.hB _)) (h.k.set 1 _) hj
def isUnit (_ : Unit) (v : Value) (_ : World) : Prop := v = .tuple #[]
set_option maxRecDepth 8000 in
set_option maxHeartbeats 2000000 in
theorem sign_calls {w : World} {B bp : Nat} {gT : Option Addr} {cT : Nat} {T : List Lex.Tok} {i o : Nat} (h : Par w B bp gT cT T i o) (s : List UInt8) :
    Calls Try.prog 93 #[.pointer (some ⟨bp, 0, none⟩), .string ⟨s.toArray⟩] w fun e w' => (Syn.far T i = false ∧ e = .returned (.bool (Syn.isS T i s)) ∧ Below w.heap.size w w') ∨ (Syn.far T i = true ∧ Threw w (Syn.flt T i 6) e w') := by
  obtain ⟨t, ht⟩ : ∃ t, t = Syn.tk T i := ⟨_, rfl⟩
  have hp := peek_calls h
  simp only [tokA, ← ht] at hp
  have Ht := hid ht
  clear ht
  by_cases c1 : (t.kind : Int) = 3
  · have C1 := hid c1
    go_enter Try.func93, Try.ntmps93
    go_wp2_with (go_at_call 96; refine hp.mono ?_; rintro e w1 (⟨hf, rfl, hb⟩ | ⟨hf, rfl, hb⟩))
    · go_ret
      refine .inl ⟨hf, congrArg (fun b => Ending.returned (.bool b)) ?_, hb.alloc hb.size _⟩
      have c3 : t.kind = 3 := by have := C1.out; omega
      simp [Syn.isS, ← Ht.out, c3]
    · exact ⟨rfl, .inr ⟨hf, rfl, hb⟩⟩
  · have C1 := hid c1
    go_enter Try.func93, Try.ntmps93
    go_wp2_with (go_at_call 96; refine hp.mono ?_; rintro e w1 (⟨hf, rfl, hb⟩ | ⟨hf, rfl, hb⟩))
    · go_ret
      refine .inl ⟨hf, congrArg (fun b => Ending.returned (.bool b)) ?_, hb.alloc hb.size _⟩
      have c3 : t.kind ≠ 3 := by have := C1.out; omega
      simp [Syn.isS, ← Ht.out, c3]
    · exact ⟨rfl, .inr ⟨hf, rfl, hb⟩⟩
set_option maxRecDepth 8000 in
set_option maxHeartbeats 2000000 in
theorem take_calls {w : World} {B bp : Nat} {gT : Option Addr} {cT : Nat} {T : List Lex.Tok} {i o : Nat} (h : Par w B bp gT cT T i o) (s : List UInt8) :
    Calls Try.prog 95 #[.pointer (some ⟨bp, 0, none⟩), .string ⟨s.toArray⟩] w (PEnd isUnit w B bp gT cT T (Syn.takeS T s i o)) := by
  have hi : (i : Int) + 1 ≤ 1000000 := by have := h.lt; have := h.len; omega
  by_cases c1 : Syn.isS T i s = true
  · have hs := sign_calls h s
    rw [c1] at hs
    have hk : (Syn.tk T i).kind ≠ 4 := by
      unfold Syn.isS at c1
      simp at c1
      omega
    have hj := lt_last h.lt h.last hk
    have C1 := hid c1
    clear c1 hk
    go_enter Try.func95, Try.ntmps95
    go_wp2_with (go_at_call 93; refine hs.mono ?_; rintro e w1 (⟨hf, rfl, hb⟩ | ⟨hf, rfl, hb⟩); (have k1 := (h.below hb).k.cell 1; have f1 := (h.below hb).k.free 1; simp only [List.getElem?_cons_zero, List.getElem?_cons_succ] at k1))
    · refine bodyPost_end (results_none rfl _ _ _) rfl ?_
      refine PEnd.isOk (j := i + 1) (o := o) (a := ()) ?_ (gb_set (below_gb hb _) (.inl rfl) _) rfl ?_
      · simp [Syn.takeS, hf, C1.out]
      · exact (h.below hb).at (i + 1) hj
    · refine ⟨rfl, PEnd.isBad ?_ (below_gb hb _)⟩
      simp [Syn.takeS, hf]
  · have hs := sign_calls h s
    have c2 : Syn.isS T i s = false := by simpa using c1
    rw [c2] at hs
    have C2 := hid c2
    clear c1 c2
    go_enter Try.func95, Try.ntmps95
    go_wp2_with (first | (go_at_call 93; refine hs.mono ?_; rintro e w1 (⟨hf, rfl, hb⟩ | ⟨hf, rfl, hb⟩)) | (go_at_call 97; refine (sfail_calls (h.below hb) 2).mono ?_; rintro e w2 ⟨rfl, hb2⟩))
    · refine ⟨rfl, PEnd.isBad ?_ (below_gb (hb.trans (hb2.mono hb.size)) _)⟩
      simp [Syn.takeS, hf, C2.out]
    · refine ⟨rfl, PEnd.isBad ?_ (below_gb hb _)⟩
      simp [Syn.takeS, hf]
def isText (a : List UInt8) (v : Value) (_ : World) : Prop := v = .string ⟨a.toArray⟩
set_option maxRecDepth 20000 in
set_option maxHeartbeats 2000000 in
theorem sname_calls {w : World} {B bp : Nat} {gT : Option Addr} {cT : Nat} {T : List Lex.Tok} {i o : Nat} (h : Par w B bp gT cT T i o) :
    Calls Try.prog 94 #[.pointer (some ⟨bp, 0, none⟩)] w (PEnd isText w B bp gT cT T (Syn.nameS T i o)) := by
  have hi : (i : Int) + 1 ≤ 1000000 := by have := h.lt; have := h.len; omega
  have hp := peek_calls h
  obtain ⟨t, ht⟩ : ∃ t, t = Syn.tk T i := ⟨_, rfl⟩
  simp only [tokA, ← ht] at hp
  by_cases c1 : (t.kind : Int) = 1
  · have hk : (Syn.tk T i).kind ≠ 4 := by rw [← ht]; omega
    have hj := lt_last h.lt h.last hk
    have C1 := hid c1
    have Ht := hid ht
    clear hk ht
    go_enter Try.func94, Try.ntmps94
    go_wp2_with (go_at_call 96; refine hp.mono ?_; rintro e w1 (⟨hf, rfl, hb⟩ | ⟨hf, rfl, hb⟩); (have k1 := (h.below hb).k.cell 1; have f1 := (h.below hb).k.free 1; simp only [List.getElem?_cons_zero, List.getElem?_cons_succ] at k1; have hlt := (h.below hb).k.lt))
    · go_ret
      refine PEnd.isOk (j := i + 1) (o := o) (a := t.text) ?_ (gb_alloc (gb_set (below_gb hb _) (.inl rfl) _) _) rfl ?_
      · have c3 : t.kind = 1 := by have := C1.out; omega
        simp [Syn.nameS, hf, ← Ht.out, c3]
      · exact ((h.below hb).at (i + 1) hj).below ((Below.refl _ _).alloc (Nat.le_refl _) _)
    · refine ⟨rfl, PEnd.isBad ?_ (below_gb hb _)⟩
      simp [Syn.nameS, hf]
  · obtain ⟨z, hz⟩ : ∃ z : Int, z = t.kind := ⟨_, rfl⟩
    have C1 := hid c1
    have Ht := hid ht
    simp only [← hz] at hp c1
    have Hz := hid hz
    clear ht hz hi
    go_enter Try.func94, Try.ntmps94
    go_wp2_with (first | (go_at_call 96; refine hp.mono ?_; rintro e w1 (⟨hf, rfl, hb⟩ | ⟨hf, rfl, hb⟩); (have k1 := (h.below hb).k.cell 1; have hlt := (h.below hb).k.lt; simp only [List.getElem?_cons_zero, List.getElem?_cons_succ] at k1)) | (go_at_call 97; have hb3 := hb.alloc hb.size (.cells #[  .int .i64 z, .string ⟨t.text.toArray⟩, .int .i64 t.line, .int .i64 t.col] 46); refine (sfail_calls (h.below hb3) 2).mono ?_; rintro e w2 ⟨rfl, hb2⟩))
    · refine ⟨rfl, PEnd.isBad ?_ (below_gb ((hb.alloc hb.size _).trans (hb2.mono (by have := hb.size; simp; omega))) _)⟩
      have c3 : ¬ t.kind = 1 := by have := C1.out; omega
      simp [Syn.nameS, hf, ← Ht.out, c3]
    · refine ⟨rfl, PEnd.isBad ?_ (below_gb hb _)⟩
      simp [Syn.nameS, hf]
end Go.Proofs.Ytjaampgpihicmaa
