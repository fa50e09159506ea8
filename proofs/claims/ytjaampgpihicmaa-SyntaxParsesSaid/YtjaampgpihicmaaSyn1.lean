/- Chapter 5 (syntax): the parser's place: fail, peek, sign, take, name. -/
import Derived.Test.YtjaampgpihicmaaSynSpec
import Derived.Test.YtjaampgpihicmaaLexWalk4
import Derived.Test.YtjaampgpihicmaaRep
import Derived.Recover
import Derived.Deep.RegionHeld3
namespace Go.Proofs.Ytjaampgpihicmaa
open Go.RowKit
attribute [local go_sem ↓] Go.wp_at_zero Go.wp_at_succ
attribute [local go_sem] frozen_alloc_lt

/-- Tokens read in a world. -/
def TokR (W : World) (B : Nat) (ga : Option Addr) (T : List Lex.Tok) : Prop :=
  ∀ i t, T[i]? = some t → ∃ g off : Nat, ga = some ⟨g, off, none⟩ ∧ g < B ∧ W.cell? ⟨g, off + i * 4, none⟩ = some (.int .i64 t.kind) ∧ W.cell? ⟨g, off + i * 4 + 1, none⟩ = some (.string ⟨t.text.toArray⟩) ∧ W.cell? ⟨g, off + i * 4 + 2, none⟩ = some (.int .i64 t.line) ∧ W.cell? ⟨g, off + i * 4 + 3, none⟩ = some (.int .i64 t.col)
theorem TokR.below {W W' : World} {B : Nat} {ga : Option Addr} {T : List Lex.Tok} (h : TokR W B ga T) (hb : Below B W W') : TokR W' B ga T := by
  intro i t ht
  obtain ⟨g, off, h1, h2, h3, h4, h5, h6⟩ := h i t ht
  exact ⟨g, off, h1, h2, (hb.cell (p := ⟨g, _, none⟩) h2).trans h3, (hb.cell (p := ⟨g, _, none⟩) h2).trans h4, (hb.cell (p := ⟨g, _, none⟩) h2).trans h5, (hb.cell (p := ⟨g, _, none⟩) h2).trans h6⟩
/-- A parser: its tokens, its place, the brackets that are open. -/
structure Par (w : World) (B bp : Nat) (gT : Option Addr) (cT : Nat) (T : List Lex.Tok) (i o : Nat) : Prop where
  t : TokR w B gT T
  k : Bk w bp 101 [.slice gT T.length cT, .int .i64 i, .int .i64 o]
  hB : B ≤ bp
  len : T.length ≤ 1000000
  lt : i < T.length
  last : (Syn.tk T (T.length - 1)).kind = 4
def wrongV (f : Lex.Flt) : Value := .iface 97 (.agg #[.int .i64 f.line, .int .i64 f.col, .int .i64 f.code])
def Threw (w : World) (f : Lex.Flt) (e : Ending) (w' : World) : Prop := e = .panicked [{ v := wrongV f, recovered := false }] ∧ Below w.heap.size w w'
set_option maxHeartbeats 1000000 in
theorem sfail_calls {w : World} {B bp : Nat} {gT : Option Addr} {cT : Nat} {T : List Lex.Tok} {i o : Nat} (h : Par w B bp gT cT T i o) (c : Nat) :
    Calls Try.prog 97 #[.pointer (some ⟨bp, 0, none⟩), .int .i64 c] w (Threw w (Syn.flt T i c)) := by
  obtain ⟨g, off, hg, hgB, e0, e1, e2, e3⟩ := h.t i _ (List.getElem?_eq_getElem h.lt)
  have htk : Syn.tk T i = T[i]'h.lt := by unfold Syn.tk; rw [List.getD, List.getElem?_eq_getElem h.lt]; rfl
  obtain ⟨t, ht⟩ : ∃ t, t = T[i]'h.lt := ⟨_, rfl⟩
  rw [← ht] at e0 e1 e2 e3 htk
  have k0 := h.k.cell 0
  have k1 := h.k.cell 1
  simp only [List.getElem?_cons_zero, List.getElem?_cons_succ] at k0 k1
  have hi : (i : Int) < (T.length : Int) := by have := h.lt; omega
  have hi0 : (0 : Int) ≤ (i : Int) := by omega
  have Htk := hid htk
  clear ht htk h
  subst hg
  go_enter Try.func97, Try.ntmps97
  go_wp2_with fail
  go_region_held3 (fun w' => w'.cell? ⟨bp, 0, none⟩ = some (.slice (some ⟨g, off, none⟩) T.length cT) ∧ w'.cell? ⟨bp, 1, none⟩ = some (.int .i64 i) ∧ w'.cell? ⟨g, off + i * 4, none⟩ = some (.int .i64 t.kind) ∧ w'.cell? ⟨g, off + i * 4 + 1, none⟩ = some (.string ⟨t.text.toArray⟩) ∧ w'.cell? ⟨g, off + i * 4 + 2, none⟩ = some (.int .i64 t.line) ∧ w'.cell? ⟨g, off + i * 4 + 3, none⟩ = some (.int .i64 t.col)) (go_keep) (fail)
  all_goals
    go_wp2
    refine ⟨rfl, ?_, ((Below.refl _ _).alloc (Nat.le_refl _) _).drew⟩
    have htk := Htk.out
    simp only [wrongV, Syn.flt, htk]
/-- A token as a value. -/
def tokA (t : Lex.Tok) : Value := .agg #[.int .i64 t.kind, .string ⟨t.text.toArray⟩, .int .i64 t.line, .int .i64 t.col]
theorem Par.below {w w' : World} {B bp : Nat} {gT : Option Addr} {cT : Nat} {T : List Lex.Tok} {i o : Nat} (h : Par w B bp gT cT T i o) (hb : Below w.heap.size w w') : Par w' B bp gT cT T i o := by
  have hlt := h.k.lt
  exact ⟨h.t.below (hb.mono (by have := h.hB; omega)), h.k.below hb hlt, h.hB, h.len, h.lt, h.last⟩
set_option maxRecDepth 8000 in
set_option maxHeartbeats 2000000 in
theorem peek_calls {w : World} {B bp : Nat} {gT : Option Addr} {cT : Nat} {T : List Lex.Tok} {i o : Nat} (h : Par w B bp gT cT T i o) :
    Calls Try.prog 96 #[.pointer (some ⟨bp, 0, none⟩)] w fun e w' => (Syn.far T i = false ∧ e = .returned (tokA (Syn.tk T i)) ∧ Below w.heap.size w w') ∨ (Syn.far T i = true ∧ Threw w (Syn.flt T i 6) e w') := by
  have h' := h
  obtain ⟨g, off, hg, hgB, e0, e1, e2, e3⟩ := h.t i _ (List.getElem?_eq_getElem h.lt)
  have htk : Syn.tk T i = T[i]'h.lt := by unfold Syn.tk; rw [List.getD, List.getElem?_eq_getElem h.lt]; rfl
  obtain ⟨t, ht⟩ : ∃ t, t = T[i]'h.lt := ⟨_, rfl⟩
  rw [← ht] at e0 e1 e2 e3 htk
  have k0 := h.k.cell 0
  have k1 := h.k.cell 1
  simp only [List.getElem?_cons_zero, List.getElem?_cons_succ] at k0 k1
  have hi : (i : Int) < (T.length : Int) := by have := h.lt; omega
  have hi0 : (0 : Int) ≤ (i : Int) := by omega
  have Htk := hid htk
  have hbp : bp < w.heap.size := h.k.lt
  have hgl : g < w.heap.size := by have := h.hB; omega
  have H := hid h'
  clear ht htk h h'
  subst hg
  go_enter Try.func96, Try.ntmps96
  go_wp2_with fail
  go_region_held3 (fun w' => w'.cell? ⟨bp, 0, none⟩ = some (.slice (some ⟨g, off, none⟩) T.length cT) ∧ w'.cell? ⟨bp, 1, none⟩ = some (.int .i64 i) ∧ w'.cell? ⟨g, off + i * 4, none⟩ = some (.int .i64 t.kind) ∧ w'.cell? ⟨g, off + i * 4 + 1, none⟩ = some (.string ⟨t.text.toArray⟩) ∧ w'.cell? ⟨g, off + i * 4 + 2, none⟩ = some (.int .i64 t.line) ∧ w'.cell? ⟨g, off + i * 4 + 3, none⟩ = some (.int .i64 t.col)) (go_keep) (fail)
  all_goals
    by_cases c1 : (4096 : Int) ≤ (i : Int)
    · by_cases c2 : (t.kind : Int) = 4
      · go_wp2_with fail
        refine bodyPost_ret (v := tokA t) (by simp [results, Try.results96, go_sem, tokA, ← c2]) rfl ?_
        have htk := Htk.out
        have c3 : t.kind = 4 := by omega
        refine .inl ⟨by simp [Syn.far, htk, c3], by simp [tokA, htk, c3], ?_⟩
        exact (((Below.refl _ _).alloc (Nat.le_refl _) _).alloc (by simp) _).drew
      · go_wp2_with (go_at_call 97; refine (sfail_calls (H.out.below ((((Below.refl _ _).alloc (Nat.le_refl _) _).alloc (by simp) _).drew)) 6).mono ?_; rintro e w' ⟨rfl, hb⟩)
        have htk := Htk.out
        have c3 : t.kind ≠ 4 := by omega
        refine ⟨rfl, .inr ⟨by simp [Syn.far, htk, c3]; omega, rfl, ?_⟩⟩
        exact ((((Below.refl _ _).alloc (Nat.le_refl _) _).alloc (by simp) _).drew).trans (hb.mono (by simp; omega))
    · go_wp2_with fail
      refine bodyPost_ret (v := tokA t) (by simp [results, Try.results96, go_sem, tokA]) rfl ?_
      have htk := Htk.out
      refine .inl ⟨by simp [Syn.far]; omega, by simp [tokA, htk], ?_⟩
      exact (((Below.refl _ _).alloc (Nat.le_refl _) _).alloc (by simp) _).drew
end Go.Proofs.Ytjaampgpihicmaa
