/- Chapter 5 (syntax): the parser's place: fail, peek, sign, take, name. -/
import Derived.Test.YtjaampgpihicmaaSynSpec
import Derived.Test.YtjaampgpihicmaaLexWalk4
import Derived.Test.YtjaampgpihicmaaRep
import Derived.Recover
import Derived.Deep.RegionHeld3
import Derived.Laws.ResultCell
namespace Go.Proofs.Ytjaampgpihicmaa
open Go.RowKit
attribute [local go_sem ↓] Go.wp_at_zero Go.wp_at_succ
attribute [local go_sem] frozen_alloc_lt

/-- Tokens read in a world. -/
def TokR (W : World) (B : Nat) (ga : Option Addr) (T : List Lex.Tok) : Prop :=
  ∀ i t, T[i]? = some t → ∃ g off : Nat, ga = some ⟨g, off, none⟩ ∧ g < B ∧ W.cell? ⟨g, off + i * 4, none⟩ = some (.int .i64 t.kind) ∧ W.cell? ⟨g, off + i * 4 + 1, none⟩ = some (.string ⟨t.text.toArray⟩) ∧ W.cell? ⟨g, off + i * 4 + 2, none⟩ = some (.int .i64 t.line) ∧ W.cell? ⟨g, off + i * 4 + 3, none⟩ = some (.int .i64 t.col)
theorem TokR.below {W W' : World} {B : Nat} {ga : Option Addr} {T : List Lex.Tok} (h : TokR W B ga T) (hb : Below B W W') : TokR W' B ga T := by
  intro i t ht
  obtain ⟨g, off, h1, h2, h3, h4, h5, h6⟩ := h i t ht
  exact ⟨g, off, h1, h2, (hb.cell (p := ⟨g, _, none⟩) h2).trans h3, (hb.cell (p := ⟨g, _, none⟩) h2).trans h4, (hb.cell (p := ⟨g, _, none⟩) h2).trans h5, (hb.cell (p := ⟨g, _, none⟩) h2).trans h6⟩
/-- A parser: its tokens, its place, the brackets that are open. -/
structure Par (w : World) (B bp : Nat) (gT : Option Addr) (cT : Nat) (T : List Lex.Tok) (i o : Nat) : Prop where
  t : TokR w B gT T
  k : Bk w bp 101 [.slice gT T.length cT, .int .i64 i, .int .i64 o]
  hB : B ≤ bp
  len : T.length ≤ 1000000
  lt : i < T.length
  last : (Syn.tk T (T.length - 1)).kind = 4
def wrongV (f : Lex.Flt) : Value := .iface 97 (.agg #[.int .i64 f.line, .int .i64 f.col, .int .i64 f.code])
def Threw (w : World) (f : Lex.Flt) (e : Ending) (w' : World) : Prop := e = .panicked [{ v := wrongV f, recovered := false }] ∧ Below w.heap.size w w'
set_option maxHeartbeats 1000000 in
theorem sfail_calls {w : World} {B bp : Nat} {gT : Option Addr} {cT : Nat} {T : List Lex.Tok} {i o : Nat} (h : Par w B bp gT cT T i o) (c : Nat) :
    Calls Try.prog 97 #[.pointer (some ⟨bp, 0, none⟩), .int .i64 c] w (Threw w (Syn.flt T i c)) := by
  obtain ⟨g, off, hg, hgB, e0, e1, e2, e3⟩ := h.t i _ (List.getElem?_eq_getElem h.lt)
  have htk : Syn.tk T i = T[i]'h.lt := by unfold Syn.tk; rw [List.getD, List.getElem?_eq_getElem h.lt]; rfl
  obtain ⟨t, ht⟩ : ∃ t, t = T[i]'h.lt := ⟨_, rfl⟩
  rw [← ht] at e0 e1 e2 e3 htk
  have k0 := h.k.cell 0
  have k1 := h.k.cell 1
  simp only [List.getElem?_cons_zero, List.getElem?_cons_succ] at k0 k1
  have hi : (i : Int) < (T.length : Int) := by have := h.lt; omega
  have hi0 : (0 : Int) ≤ (i : Int) := by omega
  have Htk := hid htk
  clear ht htk h
  subst hg
  go_enter Try.func97, Try.ntmps97
  go_wp2_with fail
  go_region_held3 (fun w' => w'.cell? ⟨bp, 0, none⟩ = some (.slice (some ⟨g, off, none⟩) T.length cT) ∧ w'.cell? ⟨bp, 1, none⟩ = some (.int .i64 i) ∧ w'.cell? ⟨g, off + i * 4, none⟩ = some (.int .i64 t.kind) ∧ w'.cell? ⟨g, off + i * 4 + 1, none⟩ = some (.string ⟨t.text.toArray⟩) ∧ w'.cell? ⟨g, off + i * 4 + 2, none⟩ = some (.int .i64 t.line) ∧ w'.cell? ⟨g, off + i * 4 + 3, none⟩ = some (.int .i64 t.col)) (go_keep) (fail)
  all_goals
    go_wp2
    refine ⟨rfl, ?_, ((Below.refl _ _).alloc (Nat.le_refl _) _).drew⟩
    have htk := Htk.out
    simp only [wrongV, Syn.flt, htk]
/-- A token as a value. -/
def tokA (t : Lex.Tok) : Value := .agg #[.int .i64 t.kind, .string ⟨t.text.toArray⟩, .int .i64 t.line, .int .i64 t.col]
theorem Par.below {w w' : World} {B bp : Nat} {gT : Option Addr} {cT : Nat} {T : List Lex.Tok} {i o : Nat} (h : Par w B bp gT cT T i o) (hb : Below w.heap.size w w') : Par w' B bp gT cT T i o := by
  have hlt := h.k.lt
  exact ⟨h.t.below (hb.mono (by have := h.hB; omega)), h.k.below hb hlt, h.hB, h.len, h.lt, h.last⟩
set_option maxRecDepth 8000 in
set_option maxHeartbeats 2000000 in
theorem peek_calls {w : World} {B bp : Nat} {gT : Option Addr} {cT : Nat} {T : List Lex.Tok} {i o : Nat} (h : Par w B bp gT cT T i o) :
    Calls Try.prog 96 #[.pointer (some ⟨bp, 0, none⟩)] w fun e w' => (Syn.far T i = false ∧ e = .returned (tokA (Syn.tk T i)) ∧ Below w.heap.size w w') ∨ (Syn.far T i = true ∧ Threw w (Syn.flt T i 6) e w') := by
  have h' := h
  obtain ⟨g, off, hg, hgB, e0, e1, e2, e3⟩ := h.t i _ (List.getElem?_eq_getElem h.lt)
  have htk : Syn.tk T i = T[i]'h.lt := by unfold Syn.tk; rw [List.getD, List.getElem?_eq_getElem h.lt]; rfl
  obtain ⟨t, ht⟩ : ∃ t, t = T[i]'h.lt := ⟨_, rfl⟩
  rw [← ht] at e0 e1 e2 e3 htk
  have k0 := h.k.cell 0
  have k1 := h.k.cell 1
  simp only [List.getElem?_cons_zero, List.getElem?_cons_succ] at k0 k1
  have hi : (i : Int) < (T.length : Int) := by have := h.lt; omega
  have hi0 : (0 : Int) ≤ (i : Int) := by omega
  have Htk := hid htk
  have hbp : bp < w.heap.size := h.k.lt
  have hgl : g < w.heap.size := by have := h.hB; omega
  have H := hid h'
  clear ht htk h h'
  subst hg
  go_enter Try.func96, Try.ntmps96
  go_wp2_with fail
  go_region_held3 (fun w' => w'.cell? ⟨bp, 0, none⟩ = some (.slice (some ⟨g, off, none⟩) T.length cT) ∧ w'.cell? ⟨bp, 1, none⟩ = some (.int .i64 i) ∧ w'.cell? ⟨g, off + i * 4, none⟩ = some (.int .i64 t.kind) ∧ w'.cell? ⟨g, off + i * 4 + 1, none⟩ = some (.string ⟨t.text.toArray⟩) ∧ w'.cell? ⟨g, off + i * 4 + 2, none⟩ = some (.int .i64 t.line) ∧ w'.cell? ⟨g, off + i * 4 + 3, none⟩ = some (.int .i64 t.col)) (go_keep) (fail)
  all_goals
    by_cases c1 : (4096 : Int) ≤ (i : Int)
    · by_cases c2 : (t.kind : Int) = 4
      · go_wp2_with fail
        refine bodyPost_ret (v := tokA t) (by simp [results, Try.results96, go_sem, tokA, ← c2]) rfl ?_
        have htk := Htk.out
        have c3 : t.kind = 4 := by omega
        refine .inl ⟨by simp [Syn.far, htk, c3], by simp [tokA, htk, c3], ?_⟩
        exact (((Below.refl _ _).alloc (Nat.le_refl _) _).alloc (by simp) _).drew
      · go_wp2_with (go_at_call 97; refine (sfail_calls (H.out.below ((((Below.refl _ _).alloc (Nat.le_refl _) _).alloc (by simp) _).drew)) 6).mono ?_; rintro e w' ⟨rfl, hb⟩)
        have htk := Htk.out
        have c3 : t.kind ≠ 4 := by omega
        refine ⟨rfl, .inr ⟨by simp [Syn.far, htk, c3]; omega, rfl, ?_⟩⟩
        exact ((((Below.refl _ _).alloc (Nat.le_refl _) _).alloc (by simp) _).drew).trans (hb.mono (by simp; omega))
    · go_wp2_with fail
      refine bodyPost_ret (v := tokA t) (by simp [results, Try.results96, go_sem, tokA]) rfl ?_
      have htk := Htk.out
      refine .inl ⟨by simp [Syn.far]; omega, by simp [tokA, htk], ?_⟩
      exact (((Below.refl _ _).alloc (Nat.le_refl _) _).alloc (by simp) _).drew
end Go.Proofs.Ytjaampgpihicmaa
/- Chapter 5 (syntax): the parser's sign, take, name. -/
namespace Go.Proofs.Ytjaampgpihicmaa
open Go.RowKit
attribute [local go_sem ↓] Go.wp_at_zero Go.wp_at_succ
attribute [local go_sem] frozen_alloc_lt

/-- The place moves on. -/
theorem Par.moved {w w' : World} {B bp : Nat} {gT : Option Addr} {cT : Nat} {T : List Lex.Tok} {i o j : Nat} (h : Par w B bp gT cT T i o) (ht : TokR w' B gT T) (hk : Bk w' bp 101 [.slice gT T.length cT, .int .i64 j, .int .i64 o]) (hj : j < T.length) : Par w' B bp gT cT T j o := ⟨ht, hk, h.hB, h.len, hj, h.last⟩
theorem lt_last {T : List Lex.Tok} {i : Nat} (h : i < T.length) (hl : (Syn.tk T (T.length - 1)).kind = 4) (hk : (Syn.tk T i).kind ≠ 4) : i + 1 < T.length := by
  rcases Nat.lt_or_ge (i + 1) T.length with h1 | h1
  · exact h1
  · have : i = T.length - 1 := by omega
    rw [this] at hk
    exact absurd hl hk
theorem below_gb {w w' : World} (h : Below w.heap.size w w') (row : Option Nat) : w.grownBy w' row := ⟨h.os, h.tape, h.output, h.size, fun i hi _ => h.block i hi⟩
/-- What a call of the parser ends in: the row, or the fault. -/
def PEnd {α : Type} (V : α → Value → World → Prop) (w : World) (B bp : Nat) (gT : Option Addr) (cT : Nat) (T : List Lex.Tok) (r : Syn.Res α) (e : Ending) (w' : World) : Prop :=
  w.grownBy w' (some bp) ∧ match r with
    | .ok a j o => (∃ v, e = .returned v ∧ V a v w') ∧ Par w' B bp gT cT T j o
    | .bad f => e = .panicked [{ v := wrongV f, recovered := false }]
theorem PEnd.isBad {α : Type} {V : α → Value → World → Prop} {w w' : World} {B bp : Nat} {gT : Option Addr} {cT : Nat} {T : List Lex.Tok} {r : Syn.Res α} {f : Lex.Flt} (hr : r = .bad f) (hg : w.grownBy w' (some bp)) : PEnd V w B bp gT cT T r (.panicked [{ v := wrongV f, recovered := false }]) w' := by
  subst hr
  exact ⟨hg, rfl⟩
theorem PEnd.isOk {α : Type} {V : α → Value → World → Prop} {w w' : World} {B bp : Nat} {gT : Option Addr} {cT : Nat} {T : List Lex.Tok} {r : Syn.Res α} {a : α} {j o : Nat} {v : Value} (hr : r = .ok a j o) (hg : w.grownBy w' (some bp)) (hv : V a v w') (hp : Par w' B bp gT cT T j o) : PEnd V w B bp gT cT T r (.returned v) w' := by
  subst hr
  exact ⟨hg, ⟨v, rfl, hv⟩, hp⟩
theorem PEnd.whenBad {α : Type} {V : α → Value → World → Prop} {w w' : World} {B bp : Nat} {gT : Option Addr} {cT : Nat} {T : List Lex.Tok} {r : Syn.Res α} {e : Ending} {f : Lex.Flt} (h : PEnd V w B bp gT cT T r e w') (hr : r = .bad f) : e = .panicked [{ v := wrongV f, recovered := false }] ∧ w.grownBy w' (some bp) := by
  subst hr
  exact ⟨h.2, h.1⟩
theorem PEnd.whenOk {α : Type} {V : α → Value → World → Prop} {w w' : World} {B bp : Nat} {gT : Option Addr} {cT : Nat} {T : List Lex.Tok} {r : Syn.Res α} {e : Ending} {a : α} {j o : Nat} (h : PEnd V w B bp gT cT T r e w') (hr : r = .ok a j o) : (∃ v, e = .returned v ∧ V a v w') ∧ Par w' B bp gT cT T j o ∧ w.grownBy w' (some bp) := by
  subst hr
  exact ⟨h.2.1, h.2.2, h.1⟩
/-- The place is set. -/
theorem Par.at {w : World} {B bp : Nat} {gT : Option Addr} {cT : Nat} {T : List Lex.Tok} {i o : Nat} (h : Par w B bp gT cT T i o) (j : Nat) (hj : j < T.length) : Par (w.setCell ⟨bp, 1, none⟩ (.int .i64 j)) B bp gT cT T j o :=
  h.moved (h.t.below ((Below.refl B w).setCell h.hB _)) (h.k.set 1 _) hj
def isUnit (_ : Unit) (v : Value) (_ : World) : Prop := v = .tuple #[]
set_option maxRecDepth 8000 in
set_option maxHeartbeats 2000000 in
theorem sign_calls {w : World} {B bp : Nat} {gT : Option Addr} {cT : Nat} {T : List Lex.Tok} {i o : Nat} (h : Par w B bp gT cT T i o) (s : List UInt8) :
    Calls Try.prog 93 #[.pointer (some ⟨bp, 0, none⟩), .string ⟨s.toArray⟩] w fun e w' => (Syn.far T i = false ∧ e = .returned (.bool (Syn.isS T i s)) ∧ Below w.heap.size w w') ∨ (Syn.far T i = true ∧ Threw w (Syn.flt T i 6) e w') := by
  obtain ⟨t, ht⟩ : ∃ t, t = Syn.tk T i := ⟨_, rfl⟩
  have hp := peek_calls h
  simp only [tokA, ← ht] at hp
  have Ht := hid ht
  clear ht
  by_cases c1 : (t.kind : Int) = 3
  · have C1 := hid c1
    go_enter Try.func93, Try.ntmps93
    go_wp2_with (go_at_call 96; refine hp.mono ?_; rintro e w1 (⟨hf, rfl, hb⟩ | ⟨hf, rfl, hb⟩))
    · go_ret
      refine .inl ⟨hf, congrArg (fun b => Ending.returned (.bool b)) ?_, hb.alloc hb.size _⟩
      have c3 : t.kind = 3 := by have := C1.out; omega
      simp [Syn.isS, ← Ht.out, c3]
    · exact ⟨rfl, .inr ⟨hf, rfl, hb⟩⟩
  · have C1 := hid c1
    go_enter Try.func93, Try.ntmps93
    go_wp2_with (go_at_call 96; refine hp.mono ?_; rintro e w1 (⟨hf, rfl, hb⟩ | ⟨hf, rfl, hb⟩))
    · go_ret
      refine .inl ⟨hf, congrArg (fun b => Ending.returned (.bool b)) ?_, hb.alloc hb.size _⟩
      have c3 : t.kind ≠ 3 := by have := C1.out; omega
      simp [Syn.isS, ← Ht.out, c3]
    · exact ⟨rfl, .inr ⟨hf, rfl, hb⟩⟩
set_option maxRecDepth 8000 in
set_option maxHeartbeats 2000000 in
theorem take_calls {w : World} {B bp : Nat} {gT : Option Addr} {cT : Nat} {T : List Lex.Tok} {i o : Nat} (h : Par w B bp gT cT T i o) (s : List UInt8) :
    Calls Try.prog 95 #[.pointer (some ⟨bp, 0, none⟩), .string ⟨s.toArray⟩] w (PEnd isUnit w B bp gT cT T (Syn.takeS T s i o)) := by
  have hi : (i : Int) + 1 ≤ 1000000 := by have := h.lt; have := h.len; omega
  by_cases c1 : Syn.isS T i s = true
  · have hs := sign_calls h s
    rw [c1] at hs
    have hk : (Syn.tk T i).kind ≠ 4 := by
      unfold Syn.isS at c1
      simp at c1
      omega
    have hj := lt_last h.lt h.last hk
    have C1 := hid c1
    clear c1 hk
    go_enter Try.func95, Try.ntmps95
    go_wp2_with (go_at_call 93; refine hs.mono ?_; rintro e w1 (⟨hf, rfl, hb⟩ | ⟨hf, rfl, hb⟩); (have k1 := (h.below hb).k.cell 1; have f1 := (h.below hb).k.free 1; simp only [List.getElem?_cons_zero, List.getElem?_cons_succ] at k1))
    · refine bodyPost_end (results_none rfl _ _ _) rfl ?_
      refine PEnd.isOk (j := i + 1) (o := o) (a := ()) ?_ (gb_set (below_gb hb _) (.inl rfl) _) rfl ?_
      · simp [Syn.takeS, hf, C1.out]
      · exact (h.below hb).at (i + 1) hj
    · refine ⟨rfl, PEnd.isBad ?_ (below_gb hb _)⟩
      simp [Syn.takeS, hf]
  · have hs := sign_calls h s
    have c2 : Syn.isS T i s = false := by simpa using c1
    rw [c2] at hs
    have C2 := hid c2
    clear c1 c2
    go_enter Try.func95, Try.ntmps95
    go_wp2_with (first | (go_at_call 93; refine hs.mono ?_; rintro e w1 (⟨hf, rfl, hb⟩ | ⟨hf, rfl, hb⟩)) | (go_at_call 97; refine (sfail_calls (h.below hb) 2).mono ?_; rintro e w2 ⟨rfl, hb2⟩))
    · refine ⟨rfl, PEnd.isBad ?_ (below_gb (hb.trans (hb2.mono hb.size)) _)⟩
      simp [Syn.takeS, hf, C2.out]
    · refine ⟨rfl, PEnd.isBad ?_ (below_gb hb _)⟩
      simp [Syn.takeS, hf]
def isText (a : List UInt8) (v : Value) (_ : World) : Prop := v = .string ⟨a.toArray⟩
set_option maxRecDepth 20000 in
set_option maxHeartbeats 2000000 in
theorem sname_calls {w : World} {B bp : Nat} {gT : Option Addr} {cT : Nat} {T : List Lex.Tok} {i o : Nat} (h : Par w B bp gT cT T i o) :
    Calls Try.prog 94 #[.pointer (some ⟨bp, 0, none⟩)] w (PEnd isText w B bp gT cT T (Syn.nameS T i o)) := by
  have hi : (i : Int) + 1 ≤ 1000000 := by have := h.lt; have := h.len; omega
  have hp := peek_calls h
  obtain ⟨t, ht⟩ : ∃ t, t = Syn.tk T i := ⟨_, rfl⟩
  simp only [tokA, ← ht] at hp
  by_cases c1 : (t.kind : Int) = 1
  · have hk : (Syn.tk T i).kind ≠ 4 := by rw [← ht]; omega
    have hj := lt_last h.lt h.last hk
    have C1 := hid c1
    have Ht := hid ht
    clear hk ht
    go_enter Try.func94, Try.ntmps94
    go_wp2_with (go_at_call 96; refine hp.mono ?_; rintro e w1 (⟨hf, rfl, hb⟩ | ⟨hf, rfl, hb⟩); (have k1 := (h.below hb).k.cell 1; have f1 := (h.below hb).k.free 1; simp only [List.getElem?_cons_zero, List.getElem?_cons_succ] at k1; have hlt := (h.below hb).k.lt))
    · go_ret
      refine PEnd.isOk (j := i + 1) (o := o) (a := t.text) ?_ (gb_alloc (gb_set (below_gb hb _) (.inl rfl) _) _) rfl ?_
      · have c3 : t.kind = 1 := by have := C1.out; omega
        simp [Syn.nameS, hf, ← Ht.out, c3]
      · exact ((h.below hb).at (i + 1) hj).below ((Below.refl _ _).alloc (Nat.le_refl _) _)
    · refine ⟨rfl, PEnd.isBad ?_ (below_gb hb _)⟩
      simp [Syn.nameS, hf]
  · obtain ⟨z, hz⟩ : ∃ z : Int, z = t.kind := ⟨_, rfl⟩
    have C1 := hid c1
    have Ht := hid ht
    simp only [← hz] at hp c1
    have Hz := hid hz
    clear ht hz hi
    go_enter Try.func94, Try.ntmps94
    go_wp2_with (first | (go_at_call 96; refine hp.mono ?_; rintro e w1 (⟨hf, rfl, hb⟩ | ⟨hf, rfl, hb⟩); (have k1 := (h.below hb).k.cell 1; have hlt := (h.below hb).k.lt; simp only [List.getElem?_cons_zero, List.getElem?_cons_succ] at k1)) | (go_at_call 97; have hb3 := hb.alloc hb.size (.cells #[  .int .i64 z, .string ⟨t.text.toArray⟩, .int .i64 t.line, .int .i64 t.col] 46); refine (sfail_calls (h.below hb3) 2).mono ?_; rintro e w2 ⟨rfl, hb2⟩))
    · refine ⟨rfl, PEnd.isBad ?_ (below_gb ((hb.alloc hb.size _).trans (hb2.mono (by have := hb.size; simp; omega))) _)⟩
      have c3 : ¬ t.kind = 1 := by have := C1.out; omega
      simp [Syn.nameS, hf, ← Ht.out, c3]
    · refine ⟨rfl, PEnd.isBad ?_ (below_gb hb _)⟩
      simp [Syn.nameS, hf]
end Go.Proofs.Ytjaampgpihicmaa
/- Chapter 5 (syntax): nodes in memory; around, given alternation. -/
namespace Go.Proofs.Ytjaampgpihicmaa
open Go.RowKit
attribute [local go_sem ↓] Go.wp_at_zero Go.wp_at_succ
attribute [local go_sem] frozen_alloc_lt
open Syn (Nd Nod)

/-- Nodes lie in blocks of which D holds, from place i of a row on. -/
def NdAt (w : World) (D : Nat → Prop) (ga : Option Addr) : Nd → Nat → Prop
  | .nil, _ => True
  | .cons a t k r, i => (∃ (g off : Nat) (gk : Option Addr) (ck : Nat), ga = some ⟨g, off, none⟩ ∧ D g ∧ w.cell? ⟨g, off + i * 3, none⟩ = some (.int .i64 a) ∧ w.cell? ⟨g, off + i * 3 + 1, none⟩ = some (.string ⟨t.toArray⟩) ∧ w.cell? ⟨g, off + i * 3 + 2, none⟩ = some (.slice gk k.len ck) ∧ NdAt w D gk k 0) ∧ NdAt w D ga r (i + 1)
theorem NdAt.mono {w : World} {D D' : Nat → Prop} (hd : ∀ k, D k → D' k) : ∀ {f : Nd} {ga : Option Addr} {i : Nat}, NdAt w D ga f i → NdAt w D' ga f i
  | .nil, _, _, _ => trivial
  | .cons a t k r, ga, i, h => by
    unfold NdAt at h ⊢
    obtain ⟨⟨g, off, gk, ck, h1, h2, h3, h4, h5, h6⟩, h7⟩ := h
    exact ⟨⟨g, off, gk, ck, h1, hd g h2, h3, h4, h5, NdAt.mono hd h6⟩, NdAt.mono hd h7⟩
theorem NdAt.kp {w w' : World} {D S : Nat → Prop} (hk : Kp S w w') (hd : ∀ k, D k → ¬ S k) : ∀ {f : Nd} {ga : Option Addr} {i : Nat}, NdAt w D ga f i → NdAt w' D ga f i
  | .nil, _, _, _ => trivial
  | .cons a t k r, ga, i, h => by
    unfold NdAt at h ⊢
    obtain ⟨⟨g, off, gk, ck, h1, h2, h3, h4, h5, h6⟩, h7⟩ := h
    exact ⟨⟨g, off, gk, ck, h1, h2, hk.cell h3 (hd g h2), hk.cell h4 (hd g h2), hk.cell h5 (hd g h2), NdAt.kp hk hd h6⟩, NdAt.kp hk hd h7⟩
/-- Blocks from b on. -/
def From (b : Nat) (w : World) (k : Nat) : Prop := b ≤ k ∧ k < w.heap.size
theorem gb_kp {w w' : World} {b : Nat} (hg : w.grownBy w' (some b)) : Kp (fun k => k = b) w w' := (Kp.refl _ w).grown hg (fun k hk _ => by injection hk with hk; exact hk.symm)
def nodeV (n : Nod) (gk : Option Addr) (ck : Nat) : Value := .agg #[.int .i64 n.kind, .string ⟨n.text.toArray⟩, .slice gk n.kids.len ck]
/-- A value is a node, in blocks from b on. -/
def isNode (b : Nat) (n : Nod) (v : Value) (w : World) : Prop := ∃ gk ck, v = nodeV n gk ck ∧ NdAt w (From b w) gk n.kids 0
theorem isNode.mono {w : World} {b b' : Nat} (hb : b' ≤ b) {n : Nod} {v : Value} (h : isNode b n v w) : isNode b' n v w := by
  obtain ⟨gk, ck, h1, h2⟩ := h
  exact ⟨gk, ck, h1, h2.mono fun k hk => ⟨Nat.le_trans hb hk.1, hk.2⟩⟩
theorem isNode.kp {w w' : World} {b : Nat} {S : Nat → Prop} (hk : Kp S w w') (hs : ∀ k, b ≤ k → k < w.heap.size → ¬ S k) {n : Nod} {v : Value} (h : isNode b n v w) : isNode b n v w' := by
  obtain ⟨gk, ck, h1, h2⟩ := h
  exact ⟨gk, ck, h1, (h2.kp hk (fun k hk' => hs k hk'.1 hk'.2)).mono fun k hk' => ⟨hk'.1, Nat.lt_of_lt_of_le hk'.2 hk.size⟩⟩
/-- What lies behind the parser's block may change. -/
theorem Par.kp {S : Nat → Prop} {w w' : World} {B bp : Nat} {gT : Option Addr} {cT : Nat} {T : List Lex.Tok} {i o : Nat} (h : Par w B bp gT cT T i o) (hk : Kp S w w') (hs : ∀ k, S k → bp < k) : Par w' B bp gT cT T i o := by
  have hlt := h.k.lt
  have hb : Below (bp + 1) w w' := hk.to_below (by omega) (fun k e => hs k e)
  exact ⟨h.t.below (hb.mono (by have := h.hB; omega)), h.k.below hb (by omega), h.hB, h.len, h.lt, h.last⟩
/-- The brackets that are open are set. -/
theorem Par.opens {w : World} {B bp : Nat} {gT : Option Addr} {cT : Nat} {T : List Lex.Tok} {i o : Nat} (h : Par w B bp gT cT T i o) (p : Nat) : Par (w.setCell ⟨bp, 2, none⟩ (.int .i64 p)) B bp gT cT T i p :=
  ⟨h.t.below ((Below.refl B w).setCell h.hB _), h.k.set 2 _, h.hB, h.len, h.lt, h.last⟩
/-- What around answers, when its alternation answers. -/
def arndOf (T : List Lex.Tok) (e : List UInt8) (r : Syn.Res Nod) : Syn.Res Nod := match r with
  | .bad f => .bad f
  | .ok n i o => match Syn.takeS T e i o with
    | .bad f => .bad f
    | .ok _ j p => .ok n j (p - 1)
theorem take_o {T : List Lex.Tok} {e : List UInt8} {i o j p : Nat} {u : Unit} (h : Syn.takeS T e i o = .ok u j p) : p = o := by
  unfold Syn.takeS at h
  split at h
  · cases h
  · split at h
    · cases h; rfl
    · cases h
set_option maxRecDepth 8000 in
set_option maxHeartbeats 2000000 in
theorem around_deep {w : World} {B bp : Nat} {gT : Option Addr} {cT : Nat} {T : List Lex.Tok} {i : Nat} (h : Par w B bp gT cT T i 16) (s : List UInt8) :
    Calls Try.prog 148 #[.pointer (some ⟨bp, 0, none⟩), .string ⟨s.toArray⟩] w (PEnd (isNode w.heap.size) w B bp gT cT T (.bad (Syn.flt T i 11))) := by
  have k2 := h.k.cell 2
  simp only [List.getElem?_cons_zero, List.getElem?_cons_succ] at k2
  have hlt := h.k.lt
  go_enter Try.func148, Try.ntmps148
  go_wp2_with (go_at_call 97; refine (sfail_calls (h.below ((Below.refl _ _).alloc (Nat.le_refl _) _)) 11).mono ?_; rintro e w2 ⟨rfl, hb2⟩)
  refine ⟨rfl, PEnd.isBad rfl (below_gb (((Below.refl _ _).alloc (Nat.le_refl _) _).trans (hb2.mono (by simp))) _)⟩
end Go.Proofs.Ytjaampgpihicmaa
/- Chapter 5 (syntax): around, given alternation. -/
namespace Go.Proofs.Ytjaampgpihicmaa
open Go.RowKit
attribute [local go_sem ↓] Go.wp_at_zero Go.wp_at_succ
attribute [local go_sem] frozen_alloc_lt
open Syn (Nd Nod)

set_option maxRecDepth 8000 in
set_option maxHeartbeats 4000000 in
theorem around_calls {w : World} {B bp : Nat} {gT : Option Addr} {cT : Nat} {T : List Lex.Tok} {i o : Nat} (h : Par w B bp gT cT T i o) (s : List UInt8) (ho : o < 16) (hk : (Syn.tk T i).kind ≠ 4) {r : Syn.Res Nod}
    (hro : ∀ n j p, r = .ok n j p → p = o + 1)
    (ha : ∀ w', Par w' B bp gT cT T (i + 1) (o + 1) → Calls Try.prog 98 #[.pointer (some ⟨bp, 0, none⟩)] w' (PEnd (isNode w'.heap.size) w' B bp gT cT T r)) :
    Calls Try.prog 148 #[.pointer (some ⟨bp, 0, none⟩), .string ⟨s.toArray⟩] w (PEnd (isNode w.heap.size) w B bp gT cT T (arndOf T s r)) := by
  have k1 := h.k.cell 1
  have k2 := h.k.cell 2
  have fr1 := h.k.free 1
  have fr2 := h.k.free 2
  simp only [List.getElem?_cons_zero, List.getElem?_cons_succ] at k1 k2
  have hlt := h.k.lt
  have hj := lt_last h.lt h.last hk
  obtain ⟨y, hy⟩ : ∃ y : Int, y = i := ⟨_, rfl⟩
  have hi : y < 1000000 := by have := h.len; have := h.lt; omega
  have hi0 : 0 ≤ y := by omega
  obtain ⟨z, hz⟩ : ∃ z : Int, z = o := ⟨_, rfl⟩
  have ho' : z < 16 := by omega
  have hz0 : 0 ≤ z := by omega
  have hon : ¬ z = 16 := by omega
  rw [← hz] at k2
  rw [← hy] at k1
  have Hy := hid hy
  have Hj := hid hj
  have Hz := hid hz
  have Hro := hid hro
  have Ha := hid ha
  have H := hid h
  clear hz hy hj hro ha hk ho h
  have hg0 : w.grownBy (((w.setCell ⟨bp, 2, none⟩ (.int .i64 (z + 1))).setCell ⟨bp, 1, none⟩ (.int .i64 (y + 1))).alloc (.cells #[.int .i64 0, .string ⟨#[]⟩, .slice none 0 0] 49)) (some bp) := by
    refine gb_alloc ?_ _
    refine gb_set ?_ (.inl rfl) _
    refine gb_set ?_ (.inl rfl) _
    exact World.grownBy.refl w _
  have HG := hid hg0
  clear hg0
  have rb0 : Bk (((w.setCell ⟨bp, 2, none⟩ (.int .i64 (z + 1))).setCell ⟨bp, 1, none⟩ (.int .i64 (y + 1))).alloc (.cells #[.int .i64 0, .string ⟨#[]⟩, .slice none 0 0] 49)) w.heap.size 49 [.int .i64 0, .string ⟨#[]⟩, .slice none 0 0] := by
    have := Bk.new ((w.setCell ⟨bp, 2, none⟩ (.int .i64 (z + 1))).setCell ⟨bp, 1, none⟩ (.int .i64 (y + 1))) 49 [.int .i64 0, .string ⟨#[]⟩, .slice none 0 0]
    simpa [World.setCell] using this
  have RB := hid rb0
  clear rb0
  have Hlt := hid hlt
  cases r with
  | bad f =>
    go_enter Try.func148, Try.ntmps148
    go_wp2_with (go_at_call 98; (have hw := (((H.out.opens (o + 1)).at (i + 1) Hj.out).below ((Below.refl _ _).alloc (Nat.le_refl _) (.cells #[.int .i64 0, .string ⟨#[]⟩, .slice none 0 0] 49))); simp only [Int.natCast_add, Int.natCast_one] at hw; rw [← Hz.out, ← Hy.out] at hw; refine (Ha.out _ hw).mono ?_; rintro e w1 hP; clear hw; obtain ⟨rfl, hg⟩ := PEnd.whenBad hP rfl; clear hP))
    exact ⟨rfl, PEnd.isBad rfl (gb_trans HG.out hg)⟩
  | ok n j p =>
    have hp : p = o + 1 := Hro.out n j p rfl
    subst hp
    cases hts : Syn.takeS T s j (o + 1) with
    | bad f =>
      have Hts := hid hts
      clear hts
      go_enter Try.func148, Try.ntmps148
      go_wp2_with (first | (go_at_call 98; (have hw := (((H.out.opens (o + 1)).at (i + 1) Hj.out).below ((Below.refl _ _).alloc (Nat.le_refl _) (.cells #[.int .i64 0, .string ⟨#[]⟩, .slice none 0 0] 49))); simp only [Int.natCast_add, Int.natCast_one] at hw; rw [← Hz.out, ← Hy.out] at hw; refine (Ha.out _ hw).mono ?_; rintro e w1 hP; clear hw; obtain ⟨⟨v, rfl, gk, ck, rfl, hn⟩, hq, hg⟩ := PEnd.whenOk hP rfl; clear hP; simp only [nodeV])) | (go_at_call 95; have hb := (Below.refl w1.heap.size w1).alloc (Nat.le_refl _) (.cells #[.int .i64 n.kind, .string ⟨n.text.toArray⟩, .slice gk n.kids.len ck] 49); refine (take_calls (hq.below hb) s).mono ?_; rintro e w2 hP2; obtain ⟨rfl, hg2⟩ := PEnd.whenBad hP2 Hts.out; clear hP2))
      refine ⟨rfl, PEnd.isBad ?_ (gb_trans (gb_trans HG.out hg) (gb_trans (below_gb hb _) hg2))⟩
      simp [arndOf, Hts.out]
    | ok u j2 p2 =>
      have hp2 := take_o hts
      subst hp2
      have Hts := hid hts
      clear hts
      go_enter Try.func148, Try.ntmps148
      go_wp2_with (first | (go_at_call 98; (have hw := (((H.out.opens (o + 1)).at (i + 1) Hj.out).below ((Below.refl _ _).alloc (Nat.le_refl _) (.cells #[.int .i64 0, .string ⟨#[]⟩, .slice none 0 0] 49))); simp only [Int.natCast_add, Int.natCast_one] at hw; rw [← Hz.out, ← Hy.out] at hw; refine (Ha.out _ hw).mono ?_; rintro e w1 hP; clear hw; obtain ⟨⟨v, rfl, gk, ck, rfl, hn⟩, hq, hg⟩ := PEnd.whenOk hP rfl; clear hP; simp only [nodeV])) | (go_at_call 95; have hb := (Below.refl w1.heap.size w1).alloc (Nat.le_refl _) (.cells #[.int .i64 n.kind, .string ⟨n.text.toArray⟩, .slice gk n.kids.len ck] 49); refine (take_calls (hq.below hb) s).mono ?_; rintro e w2 hP2; obtain ⟨⟨v, rfl, rfl⟩, hq2, hg2⟩ := PEnd.whenOk hP2 Hts.out; clear hP2; (have hbw1 : bp < w1.heap.size := Nat.lt_of_lt_of_le Hlt.out (Nat.le_trans HG.out.size hg.size)); (have bk2 := (Bk.new w1 49 [.int .i64 n.kind, .string ⟨n.text.toArray⟩, .slice gk n.kids.len ck]).grown hg2 (by intro e; injection e with e; omega)); (have rb2 := ((RB.out.grown hg (by intro e; injection e with e; omega)).alloc (.cells #[.int .i64 n.kind, .string ⟨n.text.toArray⟩, .slice gk n.kids.len ck] 49)).grown hg2 (by intro e; injection e with e; omega)); (have q2 := hq2.k.cell 2); (have f2 := hq2.k.free 2); (have a0 := bk2.cell 0); (have a1 := bk2.cell 1); (have a2 := bk2.cell 2); (have r0 := rb2.cell 0); (have r1 := rb2.cell 1); (have r2 := rb2.cell 2); (have f0 := rb2.free 0); (have f1 := rb2.free 1); (have f3 := rb2.free 2); simp only [List.getElem?_cons_zero, List.getElem?_cons_succ, Int.natCast_add, Int.natCast_one] at q2 a0 a1 a2 r0 r1 r2; rw [← Hz.out] at q2; have Bk2 := hid bk2; have Rb2 := hid rb2; have Hq2 := hid hq2; have Hg := hid hg; have Hg2 := hid hg2; have Hb := hid hb; have Hn := hid hn; clear bk2 rb2 hq2 hg hg2 hb hn))
      have hne : w.heap.size ≠ bp := by have := Hlt.out; omega
      have Rb3 := (((Rb2.out.far (p := ⟨bp, 2, none⟩) hne (.int .i64 z)).set 0 (.int .i64 n.kind)).set 1 (.string ⟨n.text.toArray⟩)).set 2 (.slice gk n.kids.len ck)
      have e0 := Rb3.cell 0
      have e1 := Rb3.cell 1
      have e2 := Rb3.cell 2
      simp only [List.set_cons_zero, List.set_cons_succ, List.getElem?_cons_zero, List.getElem?_cons_succ] at e0 e1 e2
      refine bodyPost_ret (v := nodeV n gk ck) (by simp [results, Try.results148, go_sem, nodeV, e0, e1, e2]) rfl ?_
      clear q2 f2 a0 a1 a2 r0 r1 r2 f0 f1 f3 e0 e1 e2 Rb3
      refine PEnd.isOk (j := j2) (o := o) (a := n) ?_ ?_ ⟨gk, ck, rfl, ?_⟩ ?_
      · simp [arndOf, Hts.out]
      · refine gb_set ?_ (.inr (Nat.le_refl _)) _
        refine gb_set ?_ (.inr (Nat.le_refl _)) _
        refine gb_set ?_ (.inr (Nat.le_refl _)) _
        refine gb_set ?_ (.inl rfl) _
        exact gb_trans HG.out (gb_trans Hg.out (gb_trans (below_gb Hb.out _) Hg2.out))
      · have hs : (((w.setCell ⟨bp, 2, none⟩ (.int .i64 (z + 1))).setCell ⟨bp, 1, none⟩ (.int .i64 (y + 1))).alloc (.cells #[.int .i64 0, .string ⟨#[]⟩, .slice none 0 0] 49)).heap.size = w.heap.size + 1 := by simp [World.setCell]
        have hkp : Kp (fun k => k = bp ∨ k = w.heap.size) w1 w2 := ((Kp.refl _ w1).alloc _).grown Hg2.out (fun k hk _ => by injection hk with hk; exact .inl hk.symm)
        have hkp2 := (((hkp.set (p := ⟨bp, 2, none⟩) (.inl (.inl rfl)) (.int .i64 z)).set (p := ⟨w.heap.size, 0, none⟩) (.inl (.inr rfl)) (.int .i64 n.kind)).set (p := ⟨w.heap.size, 1, none⟩) (.inl (.inr rfl)) (.string ⟨n.text.toArray⟩)).set (p := ⟨w.heap.size, 2, none⟩) (.inl (.inr rfl)) (.slice gk n.kids.len ck)
        have hn2 := Hn.out
        rw [hs] at hn2
        exact (hn2.kp hkp2 (fun k hk e => by have := hk.1; have := Hlt.out; omega)).mono fun k hk => ⟨by have := hk.1; omega, Nat.lt_of_lt_of_le hk.2 hkp2.size⟩
      · have hq := Hq2.out.opens o
        rw [← Hz.out] at hq
        exact hq.kp (S := fun k => k = w.heap.size) ((((Kp.refl (fun k => k = w.heap.size) _).set (p := ⟨w.heap.size, 0, none⟩) (.inl rfl) _).set (p := ⟨w.heap.size, 1, none⟩) (.inl rfl) _).set (p := ⟨w.heap.size, 2, none⟩) (.inl rfl) _) (fun k e => by have := Hlt.out; omega)
end Go.Proofs.Ytjaampgpihicmaa
/- Chapter 5 (syntax): atom, given around. -/
namespace Go.Proofs.Ytjaampgpihicmaa
open Go.RowKit
attribute [local go_sem ↓] Go.wp_at_zero Go.wp_at_succ
attribute [local go_sem] frozen_alloc_lt
open Syn (Nd Nod)

/-- A node, or none. -/
def isAtom (b : Nat) (n : Option Nod) (v : Value) (w : World) : Prop := match n with
  | some n => ∃ u, v = .tuple #[u, .bool true] ∧ isNode b n u w
  | none => v = .tuple #[.agg #[.int .i64 0, .string ⟨#[]⟩, .slice none 0 0], .bool false]
section
variable {w : World} {B bp : Nat} {gT : Option Addr} {cT : Nat} {T : List Lex.Tok} {i o : Nat}
theorem peek_ok (h : Par w B bp gT cT T i o) (hf : Syn.far T i = false) : Calls Try.prog 96 #[.pointer (some ⟨bp, 0, none⟩)] w fun e w' => e = .returned (tokA (Syn.tk T i)) ∧ Below w.heap.size w w' := by
  refine (peek_calls h).mono ?_
  rintro e w' (⟨_, h1, h2⟩ | ⟨h1, _⟩)
  · exact ⟨h1, h2⟩
  · rw [hf] at h1; cases h1
theorem peek_no (h : Par w B bp gT cT T i o) (hf : Syn.far T i = true) : Calls Try.prog 96 #[.pointer (some ⟨bp, 0, none⟩)] w (Threw w (Syn.flt T i 6)) := by
  refine (peek_calls h).mono ?_
  rintro e w' (⟨h1, _⟩ | ⟨_, h1⟩)
  · rw [hf] at h1; cases h1
  · exact h1
theorem sign_ok (h : Par w B bp gT cT T i o) (hf : Syn.far T i = false) (s : List UInt8) : Calls Try.prog 93 #[.pointer (some ⟨bp, 0, none⟩), .string ⟨s.toArray⟩] w fun e w' => e = .returned (.bool (Syn.isS T i s)) ∧ Below w.heap.size w w' := by
  refine (sign_calls h s).mono ?_
  rintro e w' (⟨_, h1, h2⟩ | ⟨h1, _⟩)
  · exact ⟨h1, h2⟩
  · rw [hf] at h1; cases h1
theorem sign_no (h : Par w B bp gT cT T i o) (hf : Syn.far T i = true) (s : List UInt8) : Calls Try.prog 93 #[.pointer (some ⟨bp, 0, none⟩), .string ⟨s.toArray⟩] w (Threw w (Syn.flt T i 6)) := by
  refine (sign_calls h s).mono ?_
  rintro e w' (⟨h1, _⟩ | ⟨_, h1⟩)
  · rw [hf] at h1; cases h1
  · exact h1
set_option maxRecDepth 8000 in
set_option maxHeartbeats 4000000 in
theorem atom_far (h : Par w B bp gT cT T i o) (hf : Syn.far T i = true) :
    Calls Try.prog 142 #[.pointer (some ⟨bp, 0, none⟩)] w (PEnd (isAtom w.heap.size) w B bp gT cT T (.bad (Syn.flt T i 6))) := by
  have hb0 : Below w.heap.size w (w.alloc (.cells #[.int .i64 0, .string ⟨#[]⟩, .slice none 0 0] 49)) := (Below.refl _ _).alloc (Nat.le_refl _) _
  have hp := peek_no (h.below hb0) hf
  have Hb0 := hid hb0
  clear h hf hb0
  go_enter Try.func142, Try.ntmps142
  go_wp2_with (go_at_call 96; refine hp.mono ?_; rintro e w1 ⟨rfl, hb⟩)
  exact ⟨rfl, PEnd.isBad rfl (below_gb (Hb0.out.trans (hb.mono Hb0.out.size)) _)⟩
set_option maxRecDepth 8000 in
set_option maxHeartbeats 4000000 in
theorem atom_none (h : Par w B bp gT cT T i o) (h1 : (Syn.tk T i).kind ≠ 1) (h2 : (Syn.tk T i).kind ≠ 2) (h3 : Syn.isS T i [40] = false) (h4 : Syn.isS T i [91] = false) (h5 : Syn.isS T i [123] = false) (hf : Syn.far T i = false) :
    Calls Try.prog 142 #[.pointer (some ⟨bp, 0, none⟩)] w (PEnd (isAtom w.heap.size) w B bp gT cT T (.ok none i o)) := by
  obtain ⟨t, ht⟩ : ∃ t, t = Syn.tk T i := ⟨_, rfl⟩
  have H := hid h
  have hb0 : Below w.heap.size w (w.alloc (.cells #[.int .i64 0, .string ⟨#[]⟩, .slice none 0 0] 49)) := (Below.refl _ _).alloc (Nat.le_refl _) _
  have hp := peek_ok (h.below hb0) hf
  simp only [tokA, ← ht] at hp
  unfold Syn.isS at h3 h4 h5
  rw [← ht] at h1 h2 h3 h4 h5
  obtain ⟨z, hz⟩ : ∃ z : Int, z = t.kind := ⟨_, rfl⟩
  rw [← hz] at hp
  have z1 : ¬ z = 1 := by omega
  have z2 : ¬ z = 2 := by omega
  have Hb0 := hid hb0
  have rb := Bk.new w 49 [.int .i64 0, .string ⟨#[]⟩, .slice none 0 0]
  have fin : ∀ w1 : World, Below (w.alloc (.cells #[.int .i64 0, .string ⟨#[]⟩, .slice none 0 0] 49)).heap.size (w.alloc (.cells #[.int .i64 0, .string ⟨#[]⟩, .slice none 0 0] 49)) w1 →
      ∀ ob : Obj, PEnd (isAtom w.heap.size) w B bp gT cT T (.ok none i o) (.returned (.tuple #[.agg #[.int .i64 0, .string ⟨#[]⟩, .slice none 0 0], .bool false])) ((((w1.setCell ⟨w.heap.size, 0, none⟩ (.int .i64 0)).setCell ⟨w.heap.size, 1, none⟩ (.string ⟨#[]⟩)).setCell ⟨w.heap.size, 2, none⟩ (.slice none 0 0)).alloc ob) := by
    intro w1 hb ob
    have hb1 : Below w.heap.size w ((((w1.setCell ⟨w.heap.size, 0, none⟩ (.int .i64 0)).setCell ⟨w.heap.size, 1, none⟩ (.string ⟨#[]⟩)).setCell ⟨w.heap.size, 2, none⟩ (.slice none 0 0)).alloc ob) := by
      have hb2 := hb0.trans (hb.mono hb0.size)
      exact (((hb2.setCell (Nat.le_refl _) _).setCell (Nat.le_refl _) _).setCell (Nat.le_refl _) _).alloc (by simpa [World.setCell] using hb2.size) _
    exact PEnd.isOk rfl (below_gb hb1 _) rfl (h.below hb1)
  have Fin := hid fin
  by_cases z3 : z = 3
  · have hk : t.kind = 3 := by omega
    rw [hk] at h3 h4 h5
    have c40 : (t.text == [40]) = false := by simpa using h3
    have c91 : (t.text == [91]) = false := by simpa using h4
    have c123 : (t.text == [123]) = false := by simpa using h5
    clear ht h1 h2 h3 h4 h5 hf hz hb0 h hk fin
    go_enter Try.func142, Try.ntmps142
    go_wp2_with (go_at_call 96; refine hp.mono ?_; rintro e w1 ⟨rfl, hb⟩; (have rb1 := rb.below hb rb.lt); (have hl1 : w.heap.size < w1.heap.size := rb1.lt); (have r0 := rb1.cell 0); (have r1 := rb1.cell 1); (have r2 := rb1.cell 2); (have f0 := rb1.free 0); (have f1 := rb1.free 1); (have f2 := rb1.free 2); simp only [List.getElem?_cons_zero, List.getElem?_cons_succ] at r0 r1 r2)
    refine bodyPost_ret (by rw [results_cell_tmp rfl]; simp [go_sem, r0, r1, r2, hl1]; rfl) rfl ?_
    exact Fin.out w1 hb _
  · clear ht h1 h2 h3 h4 h5 hf hz hb0 h fin
    go_enter Try.func142, Try.ntmps142
    go_wp2_with (go_at_call 96; refine hp.mono ?_; rintro e w1 ⟨rfl, hb⟩; (have rb1 := rb.below hb rb.lt); (have hl1 : w.heap.size < w1.heap.size := rb1.lt); (have r0 := rb1.cell 0); (have r1 := rb1.cell 1); (have r2 := rb1.cell 2); (have f0 := rb1.free 0); (have f1 := rb1.free 1); (have f2 := rb1.free 2); simp only [List.getElem?_cons_zero, List.getElem?_cons_succ] at r0 r1 r2)
    refine bodyPost_ret (by rw [results_cell_tmp rfl]; simp [go_sem, r0, r1, r2, hl1]; rfl) rfl ?_
    exact Fin.out w1 hb _
set_option maxRecDepth 8000 in
set_option maxHeartbeats 4000000 in
theorem atom_ref (h : Par w B bp gT cT T i o) (h1 : (Syn.tk T i).kind = 1) (hf : Syn.far T i = false) :
    Calls Try.prog 142 #[.pointer (some ⟨bp, 0, none⟩)] w (PEnd (isAtom w.heap.size) w B bp gT cT T (.ok (some ⟨1, (Syn.tk T i).text, .nil⟩) (i + 1) o)) := by
  have hj := lt_last h.lt h.last (by omega)
  have hlt := h.k.lt
  obtain ⟨t, ht⟩ : ∃ t, t = Syn.tk T i := ⟨_, rfl⟩
  have hb0 : Below w.heap.size w (w.alloc (.cells #[.int .i64 0, .string ⟨#[]⟩, .slice none 0 0] 49)) := (Below.refl _ _).alloc (Nat.le_refl _) _
  have h0 := h.below hb0
  have hp := peek_ok h0 hf
  simp only [tokA, ← ht] at hp
  rw [← ht] at h1
  rw [← ht]
  obtain ⟨z, hz⟩ : ∃ z : Int, z = t.kind := ⟨_, rfl⟩
  rw [← hz] at hp
  have z1 : z = 1 := by omega
  obtain ⟨y, hy⟩ : ∃ y : Int, y = i := ⟨_, rfl⟩
  have hy1 : y < 1000000 := by have := h.len; have := h.lt; omega
  have hy0 : 0 ≤ y := by omega
  have rb := Bk.new w 49 [.int .i64 0, .string ⟨#[]⟩, .slice none 0 0]
  have fin : ∀ w1 : World, Below (w.alloc (.cells #[.int .i64 0, .string ⟨#[]⟩, .slice none 0 0] 49)).heap.size (w.alloc (.cells #[.int .i64 0, .string ⟨#[]⟩, .slice none 0 0] 49)) w1 →
      ∀ ob : Obj, PEnd (isAtom w.heap.size) w B bp gT cT T (.ok (some ⟨1, t.text, .nil⟩) (i + 1) o) (.returned (.tuple #[.agg #[.int .i64 1, .string ⟨t.text.toArray⟩, .slice none 0 0], .bool true])) (((((w1.setCell ⟨bp, 1, none⟩ (.int .i64 (y + 1))).setCell ⟨w.heap.size, 0, none⟩ (.int .i64 1)).setCell ⟨w.heap.size, 1, none⟩ (.string ⟨t.text.toArray⟩)).setCell ⟨w.heap.size, 2, none⟩ (.slice none 0 0)).alloc ob) := by
    intro w1 hb ob
    have hb2 := hb0.trans (hb.mono hb0.size)
    have hq := (h0.below hb).at (i + 1) hj
    rw [Int.natCast_add, Int.natCast_one, ← hy] at hq
    have hkp := ((((Kp.refl (fun k => k = w.heap.size) (w1.setCell ⟨bp, 1, none⟩ (.int .i64 (y + 1)))).set (p := ⟨w.heap.size, 0, none⟩) (.inl rfl) (.int .i64 1)).set (p := ⟨w.heap.size, 1, none⟩) (.inl rfl) (.string ⟨t.text.toArray⟩)).set (p := ⟨w.heap.size, 2, none⟩) (.inl rfl) (.slice none 0 0)).alloc ob
    refine PEnd.isOk rfl ?_ ⟨_, rfl, none, 0, rfl, trivial⟩ (hq.kp hkp (fun k e => by omega))
    refine gb_alloc ?_ _
    refine gb_set ?_ (.inr (Nat.le_refl _)) _
    refine gb_set ?_ (.inr (Nat.le_refl _)) _
    refine gb_set ?_ (.inr (Nat.le_refl _)) _
    refine gb_set ?_ (.inl rfl) _
    exact below_gb hb2 _
  have H0 := hid h0
  have Hy := hid hy
  have Fin := hid fin
  clear ht h1 hf hz hb0 h hj fin h0 hy
  subst z1
  go_enter Try.func142, Try.ntmps142
  go_wp2_with (go_at_call 96; refine hp.mono ?_; rintro e w1 ⟨rfl, hb⟩; (have rb1 := rb.below hb rb.lt); (have hl1 : w.heap.size < w1.heap.size := rb1.lt); (have hbl : bp < w1.heap.size := by omega); (have k1 := (H0.out.below hb).k.cell 1); (have fr1 := (H0.out.below hb).k.free 1); (have r0 := rb1.cell 0); (have r1 := rb1.cell 1); (have r2 := rb1.cell 2); (have f0 := rb1.free 0); (have f1 := rb1.free 1); (have f2 := rb1.free 2); simp only [List.getElem?_cons_zero, List.getElem?_cons_succ] at r0 r1 r2 k1; rw [← Hy.out] at k1)
  have hne : ¬ w.heap.size = bp := by omega
  refine bodyPost_ret (by rw [results_cell_tmp rfl]; simp [go_sem, r0, r1, r2, hl1]; rfl) rfl ?_
  exact Fin.out w1 hb _
set_option maxRecDepth 8000 in
set_option maxHeartbeats 4000000 in
theorem atom_lit (h : Par w B bp gT cT T i o) (h1 : (Syn.tk T i).kind = 2) (hf : Syn.far T i = false) :
    Calls Try.prog 142 #[.pointer (some ⟨bp, 0, none⟩)] w (PEnd (isAtom w.heap.size) w B bp gT cT T (.ok (some ⟨2, (Syn.tk T i).text, .nil⟩) (i + 1) o)) := by
  have hj := lt_last h.lt h.last (by omega)
  have hlt := h.k.lt
  obtain ⟨t, ht⟩ : ∃ t, t = Syn.tk T i := ⟨_, rfl⟩
  have hb0 : Below w.heap.size w (w.alloc (.cells #[.int .i64 0, .string ⟨#[]⟩, .slice none 0 0] 49)) := (Below.refl _ _).alloc (Nat.le_refl _) _
  have h0 := h.below hb0
  have hp := peek_ok h0 hf
  simp only [tokA, ← ht] at hp
  rw [← ht] at h1
  rw [← ht]
  obtain ⟨z, hz⟩ : ∃ z : Int, z = t.kind := ⟨_, rfl⟩
  rw [← hz] at hp
  have z1 : z = 2 := by omega
  obtain ⟨y, hy⟩ : ∃ y : Int, y = i := ⟨_, rfl⟩
  have hy1 : y < 1000000 := by have := h.len; have := h.lt; omega
  have hy0 : 0 ≤ y := by omega
  have rb := Bk.new w 49 [.int .i64 0, .string ⟨#[]⟩, .slice none 0 0]
  have fin : ∀ w1 : World, Below (w.alloc (.cells #[.int .i64 0, .string ⟨#[]⟩, .slice none 0 0] 49)).heap.size (w.alloc (.cells #[.int .i64 0, .string ⟨#[]⟩, .slice none 0 0] 49)) w1 →
      ∀ ob : Obj, PEnd (isAtom w.heap.size) w B bp gT cT T (.ok (some ⟨2, t.text, .nil⟩) (i + 1) o) (.returned (.tuple #[.agg #[.int .i64 2, .string ⟨t.text.toArray⟩, .slice none 0 0], .bool true])) (((((w1.setCell ⟨bp, 1, none⟩ (.int .i64 (y + 1))).setCell ⟨w.heap.size, 0, none⟩ (.int .i64 2)).setCell ⟨w.heap.size, 1, none⟩ (.string ⟨t.text.toArray⟩)).setCell ⟨w.heap.size, 2, none⟩ (.slice none 0 0)).alloc ob) := by
    intro w1 hb ob
    have hb2 := hb0.trans (hb.mono hb0.size)
    have hq := (h0.below hb).at (i + 1) hj
    rw [Int.natCast_add, Int.natCast_one, ← hy] at hq
    have hkp := ((((Kp.refl (fun k => k = w.heap.size) (w1.setCell ⟨bp, 1, none⟩ (.int .i64 (y + 1)))).set (p := ⟨w.heap.size, 0, none⟩) (.inl rfl) (.int .i64 2)).set (p := ⟨w.heap.size, 1, none⟩) (.inl rfl) (.string ⟨t.text.toArray⟩)).set (p := ⟨w.heap.size, 2, none⟩) (.inl rfl) (.slice none 0 0)).alloc ob
    refine PEnd.isOk rfl ?_ ⟨_, rfl, none, 0, rfl, trivial⟩ (hq.kp hkp (fun k e => by omega))
    refine gb_alloc ?_ _
    refine gb_set ?_ (.inr (Nat.le_refl _)) _
    refine gb_set ?_ (.inr (Nat.le_refl _)) _
    refine gb_set ?_ (.inr (Nat.le_refl _)) _
    refine gb_set ?_ (.inl rfl) _
    exact below_gb hb2 _
  have H0 := hid h0
  have Hy := hid hy
  have Fin := hid fin
  clear ht h1 hf hz hb0 h hj fin h0 hy
  subst z1
  go_enter Try.func142, Try.ntmps142
  go_wp2_with (go_at_call 96; refine hp.mono ?_; rintro e w1 ⟨rfl, hb⟩; (have rb1 := rb.below hb rb.lt); (have hl1 : w.heap.size < w1.heap.size := rb1.lt); (have hbl : bp < w1.heap.size := by omega); (have k1 := (H0.out.below hb).k.cell 1); (have fr1 := (H0.out.below hb).k.free 1); (have r0 := rb1.cell 0); (have r1 := rb1.cell 1); (have r2 := rb1.cell 2); (have f0 := rb1.free 0); (have f1 := rb1.free 1); (have f2 := rb1.free 2); simp only [List.getElem?_cons_zero, List.getElem?_cons_succ] at r0 r1 r2 k1; rw [← Hy.out] at k1)
  have hne : ¬ w.heap.size = bp := by omega
  refine bodyPost_ret (by rw [results_cell_tmp rfl]; simp [go_sem, r0, r1, r2, hl1]; rfl) rfl ?_
  exact Fin.out w1 hb _
end
end Go.Proofs.Ytjaampgpihicmaa
/- Chapter 5 (syntax): atom in brackets, given around. -/
namespace Go.Proofs.Ytjaampgpihicmaa
open Go.RowKit
attribute [local go_sem ↓] Go.wp_at_zero Go.wp_at_succ
attribute [local go_sem] frozen_alloc_lt
open Syn (Nd Nod)

/-- What atom answers, when around answers. -/
def atomOf (k : Nat) (r : Syn.Res Nod) : Syn.Res (Option Nod) := match r with
  | .bad f => .bad f
  | .ok n j p => .ok (some (if k = 0 then n else ⟨k, [], n.row⟩)) j p
/-- A node in a row of its own. -/
theorem NdAt.one {w : World} {D : Nat → Prop} {n : Nod} {gk : Option Addr} {ck g : Nat} {t : TypeId} (hb : Bk w g t [.int .i64 n.kind, .string ⟨n.text.toArray⟩, .slice gk n.kids.len ck]) (hg : D g) (hn : NdAt w D gk n.kids 0) : NdAt w D (some ⟨g, 0, none⟩) n.row 0 := by
  unfold Nod.row NdAt
  refine ⟨⟨g, 0, gk, ck, rfl, hg, ?_, ?_, ?_, hn⟩, trivial⟩
  · exact (hb.cell 0)
  · exact (hb.cell 1)
  · exact (hb.cell 2)
section
variable {w : World} {B bp : Nat} {gT : Option Addr} {cT : Nat} {T : List Lex.Tok} {i o : Nat}
set_option maxRecDepth 8000 in
set_option maxHeartbeats 4000000 in
theorem atom_round (h : Par w B bp gT cT T i o) (h1 : Syn.isS T i [40] = true) (hf : Syn.far T i = false) {r : Syn.Res Nod}
    (har : ∀ w', Par w' B bp gT cT T i o → Calls Try.prog 148 #[.pointer (some ⟨bp, 0, none⟩), .string ⟨#[41]⟩] w' (PEnd (isNode w'.heap.size) w' B bp gT cT T r)) :
    Calls Try.prog 142 #[.pointer (some ⟨bp, 0, none⟩)] w (PEnd (isAtom w.heap.size) w B bp gT cT T (atomOf 0 r)) := by
  have hlt := h.k.lt
  obtain ⟨t, ht⟩ : ∃ t, t = Syn.tk T i := ⟨_, rfl⟩
  have hb0 : Below w.heap.size w (w.alloc (.cells #[.int .i64 0, .string ⟨#[]⟩, .slice none 0 0] 49)) := (Below.refl _ _).alloc (Nat.le_refl _) _
  have h0 := h.below hb0
  have hp := peek_ok h0 hf
  unfold Syn.isS at h1
  rw [← ht] at h1
  simp only [tokA, ← ht] at hp
  have hk : t.kind = 3 := by simp at h1; exact h1.1
  have hx : t.text = [40] := by simp at h1; exact h1.2
  rw [hk, hx] at hp
  simp only [Int.cast_ofNat_Int] at hp
  obtain ⟨li, hli⟩ : ∃ li : Int, li = t.line := ⟨_, rfl⟩
  obtain ⟨co, hco⟩ : ∃ co : Int, co = t.col := ⟨_, rfl⟩
  rw [← hli, ← hco] at hp
  have rb := Bk.new w 49 [.int .i64 0, .string ⟨#[]⟩, .slice none 0 0]
  have H0 := hid h0
  have Har := hid har
  have Hb0 := hid hb0
  clear ht h1 hf hk hx h0 h hb0 har hli hco
  cases r with
  | bad f =>
    go_enter Try.func142, Try.ntmps142
    go_wp2_with (first
      | (go_at_call 148; have hba := hb.alloc hb.size (.cells #[.int .i64 3, .string ⟨#[40]⟩, .int .i64 li, .int .i64 co] 46); refine (Har.out _ (H0.out.below hba)).mono ?_; rintro e w2 hP; obtain ⟨rfl, hg2⟩ := PEnd.whenBad hP rfl; clear hP)
      | (go_at_call 96; refine hp.mono ?_; rintro e w1 ⟨rfl, hb⟩; (have rb1 := rb.below hb rb.lt); (have hl1 : w.heap.size < w1.heap.size := rb1.lt)))
    exact ⟨rfl, PEnd.isBad rfl (gb_trans (below_gb (Hb0.out.trans (hba.mono Hb0.out.size)) _) hg2)⟩
  | ok n j p =>
    have fin : ∀ w1 w2 : World, ∀ gk ck, Below w.heap.size w w1 → w.heap.size < w1.heap.size → w1.grownBy w2 (some bp) → NdAt w2 (From w1.heap.size w2) gk n.kids 0 → Par w2 B bp gT cT T j p →
        PEnd (isAtom w.heap.size) w B bp gT cT T (atomOf 0 (.ok n j p)) (.returned (.tuple #[nodeV n gk ck, .bool true])) (((w2.setCell ⟨w.heap.size, 0, none⟩ (.int .i64 n.kind)).setCell ⟨w.heap.size, 1, none⟩ (.string ⟨n.text.toArray⟩)).setCell ⟨w.heap.size, 2, none⟩ (.slice gk n.kids.len ck)) := by
        intro w1 w2 gk ck hba hl hg2 hn hq
        have hkp := ((((Kp.refl (fun k => k = w.heap.size) w2).set (p := ⟨w.heap.size, 0, none⟩) (.inl rfl) (.int .i64 n.kind)).set (p := ⟨w.heap.size, 1, none⟩) (.inl rfl) (.string ⟨n.text.toArray⟩)).set (p := ⟨w.heap.size, 2, none⟩) (.inl rfl) (.slice gk n.kids.len ck))
        have hn2 := (hn.kp hkp (fun k hk e => by have := hk.1; omega)).mono (D' := From w.heap.size _) fun k hk => ⟨by have := hk.1; omega, Nat.lt_of_lt_of_le hk.2 hkp.size⟩
        refine PEnd.isOk rfl ?_ ⟨_, rfl, gk, ck, rfl, hn2⟩ (hq.kp hkp (fun k e => by omega))
        · refine gb_set ?_ (.inr (Nat.le_refl _)) _
          refine gb_set ?_ (.inr (Nat.le_refl _)) _
          refine gb_set ?_ (.inr (Nat.le_refl _)) _
          exact gb_trans (below_gb hba _) hg2
    have Fin := hid fin
    clear fin
    go_enter Try.func142, Try.ntmps142
    go_wp2_with (first
      | (go_at_call 148; have hba := hb.alloc hb.size (.cells #[.int .i64 3, .string ⟨#[40]⟩, .int .i64 li, .int .i64 co] 46); refine (Har.out _ (H0.out.below hba)).mono ?_; rintro e w2 hP; obtain ⟨⟨v, rfl, gk, ck, rfl, hn⟩, hq, hg2⟩ := PEnd.whenOk hP rfl; clear hP; simp only [nodeV]; (have rb2 := (rb1.alloc (.cells #[.int .i64 3, .string ⟨#[40]⟩, .int .i64 li, .int .i64 co] 46)).grown hg2 (by intro e; injection e with e; omega)); (have hl2 : w.heap.size < w2.heap.size := rb2.lt); (have r0 := rb2.cell 0); (have r1 := rb2.cell 1); (have r2 := rb2.cell 2); (have f0 := rb2.free 0); (have f1 := rb2.free 1); (have f2 := rb2.free 2); simp only [List.getElem?_cons_zero, List.getElem?_cons_succ] at r0 r1 r2; have Hn := hid hn; have Hq := hid hq; have Hg2 := hid hg2; have Hba := hid hba; clear hn hq hg2 hba)
      | (go_at_call 96; refine hp.mono ?_; rintro e w1 ⟨rfl, hb⟩; (have rb1 := rb.below hb rb.lt); (have hl1 : w.heap.size < w1.heap.size := rb1.lt)))
    refine bodyPost_ret (by rw [results_cell_tmp rfl]; simp [go_sem, r0, r1, r2]; rfl) rfl ?_
    exact Fin.out _ w2 gk ck (Hb0.out.trans (Hba.out.mono Hb0.out.size)) (by simp; omega) Hg2.out Hn.out Hq.out
set_option maxRecDepth 8000 in
set_option maxHeartbeats 4000000 in
theorem atom_square (h : Par w B bp gT cT T i o) (h1 : Syn.isS T i [91] = true) (hf : Syn.far T i = false) {r : Syn.Res Nod}
    (har : ∀ w', Par w' B bp gT cT T i o → Calls Try.prog 148 #[.pointer (some ⟨bp, 0, none⟩), .string ⟨#[93]⟩] w' (PEnd (isNode w'.heap.size) w' B bp gT cT T r)) :
    Calls Try.prog 142 #[.pointer (some ⟨bp, 0, none⟩)] w (PEnd (isAtom w.heap.size) w B bp gT cT T (atomOf 5 r)) := by
  have hlt := h.k.lt
  obtain ⟨t, ht⟩ : ∃ t, t = Syn.tk T i := ⟨_, rfl⟩
  have hb0 : Below w.heap.size w (w.alloc (.cells #[.int .i64 0, .string ⟨#[]⟩, .slice none 0 0] 49)) := (Below.refl _ _).alloc (Nat.le_refl _) _
  have h0 := h.below hb0
  have hp := peek_ok h0 hf
  unfold Syn.isS at h1
  rw [← ht] at h1
  simp only [tokA, ← ht] at hp
  have hk : t.kind = 3 := by simp at h1; exact h1.1
  have hx : t.text = [91] := by simp at h1; exact h1.2
  rw [hk, hx] at hp
  simp only [Int.cast_ofNat_Int] at hp
  obtain ⟨li, hli⟩ : ∃ li : Int, li = t.line := ⟨_, rfl⟩
  obtain ⟨co, hco⟩ : ∃ co : Int, co = t.col := ⟨_, rfl⟩
  rw [← hli, ← hco] at hp
  have rb := Bk.new w 49 [.int .i64 0, .string ⟨#[]⟩, .slice none 0 0]
  have H0 := hid h0
  have Har := hid har
  have Hb0 := hid hb0
  clear ht h1 hf hk hx h0 h hb0 har hli hco
  cases r with
  | bad f =>
    go_enter Try.func142, Try.ntmps142
    go_wp2_with (first
      | (go_at_call 148; have hba := hb.alloc hb.size (.cells #[.int .i64 3, .string ⟨#[91]⟩, .int .i64 li, .int .i64 co] 46); refine (Har.out _ (H0.out.below hba)).mono ?_; rintro e w2 hP; obtain ⟨rfl, hg2⟩ := PEnd.whenBad hP rfl; clear hP)
      | (go_at_call 96; refine hp.mono ?_; rintro e w1 ⟨rfl, hb⟩; (have rb1 := rb.below hb rb.lt); (have hl1 : w.heap.size < w1.heap.size := rb1.lt)))
    exact ⟨rfl, PEnd.isBad rfl (gb_trans (below_gb (Hb0.out.trans (hba.mono Hb0.out.size)) _) hg2)⟩
  | ok n j p =>
    have fin : ∀ w1 w2 : World, ∀ gk ck, Below w.heap.size w w1 → w.heap.size < w1.heap.size → w1.grownBy w2 (some bp) → NdAt w2 (From w1.heap.size w2) gk n.kids 0 → Par w2 B bp gT cT T j p →
        PEnd (isAtom w.heap.size) w B bp gT cT T (atomOf 5 (.ok n j p)) (.returned (.tuple #[.agg #[.int .i64 5, .string ⟨#[]⟩, .slice (some ⟨w2.heap.size, 0, none⟩) 1 1], .bool true])) ((((w2.setCell ⟨w.heap.size, 0, none⟩ (.int .i64 5)).setCell ⟨w.heap.size, 1, none⟩ (.string ⟨#[]⟩)).setCell ⟨w.heap.size, 2, none⟩ (.slice (some ⟨w2.heap.size, 0, none⟩) 1 1)).alloc (.cells #[.int .i64 n.kind, .string ⟨n.text.toArray⟩, .slice gk n.kids.len ck] 49)) := by
        intro w1 w2 gk ck hba hl hg2 hn hq
        have hkp := (((((Kp.refl (fun k => k = w.heap.size) w2).set (p := ⟨w.heap.size, 0, none⟩) (.inl rfl) (.int .i64 5)).set (p := ⟨w.heap.size, 1, none⟩) (.inl rfl) (.string ⟨#[]⟩)).set (p := ⟨w.heap.size, 2, none⟩) (.inl rfl) (.slice (some ⟨w2.heap.size, 0, none⟩) 1 1)).alloc (.cells #[.int .i64 n.kind, .string ⟨n.text.toArray⟩, .slice gk n.kids.len ck] 49))
        have hn2 := (hn.kp hkp (fun k hk e => by have := hk.1; omega)).mono (D' := From w.heap.size _) fun k hk => ⟨by have := hk.1; omega, Nat.lt_of_lt_of_le hk.2 hkp.size⟩
        refine PEnd.isOk rfl ?_ ⟨_, rfl, some ⟨w2.heap.size, 0, none⟩, 1, rfl, NdAt.one (t := 49) (ck := ck) ?_ ?_ hn2⟩ (hq.kp hkp (fun k e => by omega))
        · refine gb_alloc ?_ _
          refine gb_set ?_ (.inr (Nat.le_refl _)) _
          refine gb_set ?_ (.inr (Nat.le_refl _)) _
          refine gb_set ?_ (.inr (Nat.le_refl _)) _
          exact gb_trans (below_gb hba _) hg2
        · have := Bk.new (((w2.setCell ⟨w.heap.size, 0, none⟩ (.int .i64 5)).setCell ⟨w.heap.size, 1, none⟩ (.string ⟨#[]⟩)).setCell ⟨w.heap.size, 2, none⟩ (.slice (some ⟨w2.heap.size, 0, none⟩) 1 1)) 49 [.int .i64 n.kind, .string ⟨n.text.toArray⟩, .slice gk n.kids.len ck]
          simpa [World.setCell] using this
        · exact ⟨by have := hg2.size; omega, by simp [World.setCell]⟩
    have Fin := hid fin
    clear fin
    go_enter Try.func142, Try.ntmps142
    go_wp2_with (first
      | (go_at_call 148; have hba := hb.alloc hb.size (.cells #[.int .i64 3, .string ⟨#[91]⟩, .int .i64 li, .int .i64 co] 46); refine (Har.out _ (H0.out.below hba)).mono ?_; rintro e w2 hP; obtain ⟨⟨v, rfl, gk, ck, rfl, hn⟩, hq, hg2⟩ := PEnd.whenOk hP rfl; clear hP; simp only [nodeV]; (have rb2 := (rb1.alloc (.cells #[.int .i64 3, .string ⟨#[91]⟩, .int .i64 li, .int .i64 co] 46)).grown hg2 (by intro e; injection e with e; omega)); (have hl2 : w.heap.size < w2.heap.size := rb2.lt); (have r0 := rb2.cell 0); (have r1 := rb2.cell 1); (have r2 := rb2.cell 2); (have f0 := rb2.free 0); (have f1 := rb2.free 1); (have f2 := rb2.free 2); simp only [List.getElem?_cons_zero, List.getElem?_cons_succ] at r0 r1 r2; have Hn := hid hn; have Hq := hid hq; have Hg2 := hid hg2; have Hba := hid hba; clear hn hq hg2 hba)
      | (go_at_call 96; refine hp.mono ?_; rintro e w1 ⟨rfl, hb⟩; (have rb1 := rb.below hb rb.lt); (have hl1 : w.heap.size < w1.heap.size := rb1.lt)))
    refine bodyPost_ret (by rw [results_cell_tmp rfl]; simp [go_sem, r0, r1, r2, hl2]; rfl) rfl ?_
    exact Fin.out _ w2 gk ck (Hb0.out.trans (Hba.out.mono Hb0.out.size)) (by simp; omega) Hg2.out Hn.out Hq.out
set_option maxRecDepth 8000 in
set_option maxHeartbeats 4000000 in
theorem atom_curly (h : Par w B bp gT cT T i o) (h1 : Syn.isS T i [123] = true) (hf : Syn.far T i = false) {r : Syn.Res Nod}
    (har : ∀ w', Par w' B bp gT cT T i o → Calls Try.prog 148 #[.pointer (some ⟨bp, 0, none⟩), .string ⟨#[125]⟩] w' (PEnd (isNode w'.heap.size) w' B bp gT cT T r)) :
    Calls Try.prog 142 #[.pointer (some ⟨bp, 0, none⟩)] w (PEnd (isAtom w.heap.size) w B bp gT cT T (atomOf 6 r)) := by
  have hlt := h.k.lt
  obtain ⟨t, ht⟩ : ∃ t, t = Syn.tk T i := ⟨_, rfl⟩
  have hb0 : Below w.heap.size w (w.alloc (.cells #[.int .i64 0, .string ⟨#[]⟩, .slice none 0 0] 49)) := (Below.refl _ _).alloc (Nat.le_refl _) _
  have h0 := h.below hb0
  have hp := peek_ok h0 hf
  unfold Syn.isS at h1
  rw [← ht] at h1
  simp only [tokA, ← ht] at hp
  have hk : t.kind = 3 := by simp at h1; exact h1.1
  have hx : t.text = [123] := by simp at h1; exact h1.2
  rw [hk, hx] at hp
  simp only [Int.cast_ofNat_Int] at hp
  obtain ⟨li, hli⟩ : ∃ li : Int, li = t.line := ⟨_, rfl⟩
  obtain ⟨co, hco⟩ : ∃ co : Int, co = t.col := ⟨_, rfl⟩
  rw [← hli, ← hco] at hp
  have rb := Bk.new w 49 [.int .i64 0, .string ⟨#[]⟩, .slice none 0 0]
  have H0 := hid h0
  have Har := hid har
  have Hb0 := hid hb0
  clear ht h1 hf hk hx h0 h hb0 har hli hco
  cases r with
  | bad f =>
    go_enter Try.func142, Try.ntmps142
    go_wp2_with (first
      | (go_at_call 148; have hba := hb.alloc hb.size (.cells #[.int .i64 3, .string ⟨#[123]⟩, .int .i64 li, .int .i64 co] 46); refine (Har.out _ (H0.out.below hba)).mono ?_; rintro e w2 hP; obtain ⟨rfl, hg2⟩ := PEnd.whenBad hP rfl; clear hP)
      | (go_at_call 96; refine hp.mono ?_; rintro e w1 ⟨rfl, hb⟩; (have rb1 := rb.below hb rb.lt); (have hl1 : w.heap.size < w1.heap.size := rb1.lt)))
    exact ⟨rfl, PEnd.isBad rfl (gb_trans (below_gb (Hb0.out.trans (hba.mono Hb0.out.size)) _) hg2)⟩
  | ok n j p =>
    have fin : ∀ w1 w2 : World, ∀ gk ck, Below w.heap.size w w1 → w.heap.size < w1.heap.size → w1.grownBy w2 (some bp) → NdAt w2 (From w1.heap.size w2) gk n.kids 0 → Par w2 B bp gT cT T j p →
        PEnd (isAtom w.heap.size) w B bp gT cT T (atomOf 6 (.ok n j p)) (.returned (.tuple #[.agg #[.int .i64 6, .string ⟨#[]⟩, .slice (some ⟨w2.heap.size, 0, none⟩) 1 1], .bool true])) ((((w2.setCell ⟨w.heap.size, 0, none⟩ (.int .i64 6)).setCell ⟨w.heap.size, 1, none⟩ (.string ⟨#[]⟩)).setCell ⟨w.heap.size, 2, none⟩ (.slice (some ⟨w2.heap.size, 0, none⟩) 1 1)).alloc (.cells #[.int .i64 n.kind, .string ⟨n.text.toArray⟩, .slice gk n.kids.len ck] 49)) := by
        intro w1 w2 gk ck hba hl hg2 hn hq
        have hkp := (((((Kp.refl (fun k => k = w.heap.size) w2).set (p := ⟨w.heap.size, 0, none⟩) (.inl rfl) (.int .i64 6)).set (p := ⟨w.heap.size, 1, none⟩) (.inl rfl) (.string ⟨#[]⟩)).set (p := ⟨w.heap.size, 2, none⟩) (.inl rfl) (.slice (some ⟨w2.heap.size, 0, none⟩) 1 1)).alloc (.cells #[.int .i64 n.kind, .string ⟨n.text.toArray⟩, .slice gk n.kids.len ck] 49))
        have hn2 := (hn.kp hkp (fun k hk e => by have := hk.1; omega)).mono (D' := From w.heap.size _) fun k hk => ⟨by have := hk.1; omega, Nat.lt_of_lt_of_le hk.2 hkp.size⟩
        refine PEnd.isOk rfl ?_ ⟨_, rfl, some ⟨w2.heap.size, 0, none⟩, 1, rfl, NdAt.one (t := 49) (ck := ck) ?_ ?_ hn2⟩ (hq.kp hkp (fun k e => by omega))
        · refine gb_alloc ?_ _
          refine gb_set ?_ (.inr (Nat.le_refl _)) _
          refine gb_set ?_ (.inr (Nat.le_refl _)) _
          refine gb_set ?_ (.inr (Nat.le_refl _)) _
          exact gb_trans (below_gb hba _) hg2
        · have := Bk.new (((w2.setCell ⟨w.heap.size, 0, none⟩ (.int .i64 6)).setCell ⟨w.heap.size, 1, none⟩ (.string ⟨#[]⟩)).setCell ⟨w.heap.size, 2, none⟩ (.slice (some ⟨w2.heap.size, 0, none⟩) 1 1)) 49 [.int .i64 n.kind, .string ⟨n.text.toArray⟩, .slice gk n.kids.len ck]
          simpa [World.setCell] using this
        · exact ⟨by have := hg2.size; omega, by simp [World.setCell]⟩
    have Fin := hid fin
    clear fin
    go_enter Try.func142, Try.ntmps142
    go_wp2_with (first
      | (go_at_call 148; have hba := hb.alloc hb.size (.cells #[.int .i64 3, .string ⟨#[123]⟩, .int .i64 li, .int .i64 co] 46); refine (Har.out _ (H0.out.below hba)).mono ?_; rintro e w2 hP; obtain ⟨⟨v, rfl, gk, ck, rfl, hn⟩, hq, hg2⟩ := PEnd.whenOk hP rfl; clear hP; simp only [nodeV]; (have rb2 := (rb1.alloc (.cells #[.int .i64 3, .string ⟨#[123]⟩, .int .i64 li, .int .i64 co] 46)).grown hg2 (by intro e; injection e with e; omega)); (have hl2 : w.heap.size < w2.heap.size := rb2.lt); (have r0 := rb2.cell 0); (have r1 := rb2.cell 1); (have r2 := rb2.cell 2); (have f0 := rb2.free 0); (have f1 := rb2.free 1); (have f2 := rb2.free 2); simp only [List.getElem?_cons_zero, List.getElem?_cons_succ] at r0 r1 r2; have Hn := hid hn; have Hq := hid hq; have Hg2 := hid hg2; have Hba := hid hba; clear hn hq hg2 hba)
      | (go_at_call 96; refine hp.mono ?_; rintro e w1 ⟨rfl, hb⟩; (have rb1 := rb.below hb rb.lt); (have hl1 : w.heap.size < w1.heap.size := rb1.lt)))
    refine bodyPost_ret (by rw [results_cell_tmp rfl]; simp [go_sem, r0, r1, r2, hl2]; rfl) rfl ?_
    exact Fin.out _ w2 gk ck (Hb0.out.trans (Hba.out.mono Hb0.out.size)) (by simp; omega) Hg2.out Hn.out Hq.out
end
end Go.Proofs.Ytjaampgpihicmaa
