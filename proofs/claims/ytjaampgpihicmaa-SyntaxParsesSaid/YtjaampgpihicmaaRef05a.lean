/- Chapter 5, the document's parser: its state, bad, look, is, need, name. -/
import Derived.Test.YtjaampgpihicmaaSyn3
namespace Go.Proofs.Ytjaampgpihicmaa
open Go.RowKit
attribute [local go_sem ↓] Go.wp_at_zero Go.wp_at_succ
attribute [local go_sem] frozen_alloc_lt

/-- The state of the document's parser: its tokens, its place, the fault (code 0: none), the brackets that are open. -/
structure Sta (w : World) (B bp : Nat) (gT : Option Addr) (cT : Nat) (T : List Lex.Tok) (i o : Nat) (f : Lex.Flt) : Prop where
  t : TokR w B gT T
  k : Bk w bp 108 [.slice gT T.length cT, .int .i64 i, .int .i64 f.line, .int .i64 f.col, .int .i64 f.code, .int .i64 o]
  hB : B ≤ bp
  len : T.length ≤ 1000000
  lt : i < T.length
  last : (Syn.tk T (T.length - 1)).kind = 4
theorem Sta.below {w w' : World} {B bp : Nat} {gT : Option Addr} {cT : Nat} {T : List Lex.Tok} {i o : Nat} {f : Lex.Flt} (h : Sta w B bp gT cT T i o f) (hb : Below w.heap.size w w') : Sta w' B bp gT cT T i o f := by
  have hlt := h.k.lt
  exact ⟨h.t.below (hb.mono (by have := h.hB; omega)), h.k.below hb hlt, h.hB, h.len, h.lt, h.last⟩
/-- What lies behind the state's block may change. -/
theorem Sta.kp {S : Nat → Prop} {w w' : World} {B bp : Nat} {gT : Option Addr} {cT : Nat} {T : List Lex.Tok} {i o : Nat} {f : Lex.Flt} (h : Sta w B bp gT cT T i o f) (hk : Kp S w w') (hs : ∀ k, S k → bp < k) : Sta w' B bp gT cT T i o f := by
  have hlt := h.k.lt
  have hb : Below (bp + 1) w w' := hk.to_below (by omega) (fun k e => hs k e)
  exact ⟨h.t.below (hb.mono (by have := h.hB; omega)), h.k.below hb (by omega), h.hB, h.len, h.lt, h.last⟩
/-- The place is set. -/
theorem Sta.at {w : World} {B bp : Nat} {gT : Option Addr} {cT : Nat} {T : List Lex.Tok} {i o : Nat} {f : Lex.Flt} (h : Sta w B bp gT cT T i o f) (j : Nat) (hj : j < T.length) : Sta (w.setCell ⟨bp, 1, none⟩ (.int .i64 j)) B bp gT cT T j o f :=
  ⟨h.t.below ((Below.refl B w).setCell h.hB _), h.k.set 1 _, h.hB, h.len, hj, h.last⟩
/-- The brackets that are open are set. -/
theorem Sta.opens {w : World} {B bp : Nat} {gT : Option Addr} {cT : Nat} {T : List Lex.Tok} {i o : Nat} {f : Lex.Flt} (h : Sta w B bp gT cT T i o f) (p : Nat) : Sta (w.setCell ⟨bp, 5, none⟩ (.int .i64 p)) B bp gT cT T i p f :=
  ⟨h.t.below ((Below.refl B w).setCell h.hB _), h.k.set 5 _, h.hB, h.len, h.lt, h.last⟩
/-- The fault is set. -/
theorem Sta.fault {w : World} {B bp : Nat} {gT : Option Addr} {cT : Nat} {T : List Lex.Tok} {i o : Nat} {f : Lex.Flt} (h : Sta w B bp gT cT T i o f) (f' : Lex.Flt) : Sta (((w.setCell ⟨bp, 2, none⟩ (.int .i64 f'.line)).setCell ⟨bp, 3, none⟩ (.int .i64 f'.col)).setCell ⟨bp, 4, none⟩ (.int .i64 f'.code)) B bp gT cT T i o f' :=
  ⟨h.t.below ((((Below.refl B w).setCell h.hB _).setCell h.hB _).setCell h.hB _), ((h.k.set 2 _).set 3 _).set 4 _, h.hB, h.len, h.lt, h.last⟩
/-- The first fault stays. -/
def first (f g : Lex.Flt) : Lex.Flt := if f.code = 0 then g else f
set_option maxRecDepth 8000 in
set_option maxHeartbeats 2000000 in
theorem rbad_calls {w : World} {B bp : Nat} {gT : Option Addr} {cT : Nat} {T : List Lex.Tok} {i o : Nat} {f : Lex.Flt} (h : Sta w B bp gT cT T i o f) (c : Nat) :
    Calls Try.prog 57 #[.pointer (some ⟨bp, 0, none⟩), .int .i64 c] w fun e w' => e = .returned (.tuple #[]) ∧ w.grownBy w' (some bp) ∧ Sta w' B bp gT cT T i o (first f (Syn.flt T i c)) := by
  have k4 := h.k.cell 4
  have f2 := h.k.free 2
  have f3 := h.k.free 3
  have f4 := h.k.free 4
  have hbp : bp < w.heap.size := h.k.lt
  have H := hid h
  by_cases c1 : (f.code : Int) = 0
  · obtain ⟨g, off, hg, hgB, e0, e1, e2, e3⟩ := h.t i _ (List.getElem?_eq_getElem h.lt)
    have htk : Syn.tk T i = T[i]'h.lt := by unfold Syn.tk; rw [List.getD, List.getElem?_eq_getElem h.lt]; rfl
    obtain ⟨t, ht⟩ : ∃ t, t = T[i]'h.lt := ⟨_, rfl⟩
    rw [← ht] at e0 e1 e2 e3 htk
    have k0 := h.k.cell 0
    have k1 := h.k.cell 1
    have k2 := h.k.cell 2
    have k3 := h.k.cell 3
    simp only [List.getElem?_cons_zero, List.getElem?_cons_succ] at k0 k1 k2 k3 k4
    have hi : (i : Int) < (T.length : Int) := by have := h.lt; omega
    have hi0 : (0 : Int) ≤ (i : Int) := by omega
    have Htk := hid htk
    have hgl : g < w.heap.size := by have := h.hB; omega
    have hgb : g ≠ bp := by have := h.hB; omega
    clear ht htk h
    have C1 := hid c1
    rw [c1] at k4
    clear c1
    subst hg
    go_enter Try.func57, Try.ntmps57
    go_wp2_with fail
    go_region_held3 (fun w' => w'.cell? ⟨bp, 0, none⟩ = some (.slice (some ⟨g, off, none⟩) T.length cT) ∧ w'.cell? ⟨bp, 1, none⟩ = some (.int .i64 i) ∧ w'.cell? ⟨g, off + i * 4, none⟩ = some (.int .i64 t.kind) ∧ w'.cell? ⟨g, off + i * 4 + 1, none⟩ = some (.string ⟨t.text.toArray⟩) ∧ w'.cell? ⟨g, off + i * 4 + 2, none⟩ = some (.int .i64 t.line) ∧ w'.cell? ⟨g, off + i * 4 + 3, none⟩ = some (.int .i64 t.col)) (go_keep) (fail)
    all_goals
      go_wp2
      refine bodyPost_end (results_none rfl _ _ _) rfl ?_
      have hc : f.code = 0 := by have := C1.out; omega
      refine ⟨rfl, ?_, ?_⟩
      · refine gb_drew ?_
        refine gb_alloc ?_ _
        refine gb_setb ?_
        refine gb_setb ?_
        refine gb_setb ?_
        exact World.grownBy.refl w _
      have he : first f (Syn.flt T i c) = ⟨t.line, t.col, c⟩ := by simp only [first, if_pos hc, Syn.flt, Htk.out]
      rw [he]
      exact (H.out.fault ⟨t.line, t.col, c⟩).below ((Below.refl _ _).alloc (Nat.le_refl _) _).drew
  · simp only [List.getElem?_cons_zero, List.getElem?_cons_succ] at k4
    have C1 := hid c1
    clear h
    go_enter Try.func57, Try.ntmps57
    go_wp2_with fail
    refine bodyPost_end (results_none rfl _ _ _) rfl ?_
    have hc : f.code ≠ 0 := by have := C1.out; omega
    refine ⟨rfl, World.grownBy.refl w _, ?_⟩
    simp only [first, if_neg hc]
    exact H.out
/-- What look does to the fault. -/
def lookF (T : List Lex.Tok) (i : Nat) (f : Lex.Flt) : Lex.Flt := if Syn.far T i = true then first f (Syn.flt T i 6) else f
set_option maxRecDepth 8000 in
set_option maxHeartbeats 2000000 in
theorem rlook_calls {w : World} {B bp : Nat} {gT : Option Addr} {cT : Nat} {T : List Lex.Tok} {i o : Nat} {f : Lex.Flt} (h : Sta w B bp gT cT T i o f) :
    Calls Try.prog 56 #[.pointer (some ⟨bp, 0, none⟩)] w fun e w' => e = .returned (.tuple #[.int .i64 (Syn.tk T i).kind, .string ⟨(Syn.tk T i).text.toArray⟩]) ∧ w.grownBy w' (some bp) ∧ Sta w' B bp gT cT T i o (lookF T i f) := by
  have h' := h
  obtain ⟨g, off, hg, hgB, e0, e1, e2, e3⟩ := h.t i _ (List.getElem?_eq_getElem h.lt)
  have htk : Syn.tk T i = T[i]'h.lt := by unfold Syn.tk; rw [List.getD, List.getElem?_eq_getElem h.lt]; rfl
  obtain ⟨t, ht⟩ : ∃ t, t = T[i]'h.lt := ⟨_, rfl⟩
  rw [← ht] at e0 e1 e2 e3 htk
  have k0 := h.k.cell 0
  have k1 := h.k.cell 1
  simp only [List.getElem?_cons_zero, List.getElem?_cons_succ] at k0 k1
  have hi : (i : Int) < (T.length : Int) := by have := h.lt; omega
  have hi0 : (0 : Int) ≤ (i : Int) := by omega
  have hbp : bp < w.heap.size := h.k.lt
  have hgl : g < w.heap.size := by have := h.hB; omega
  have H := hid h'
  rw [htk]
  have Htk := hid htk
  clear ht htk h h'
  subst hg
  have hb0 : Below w.heap.size w (w.alloc (.cells #[.int .i64 t.kind, .string ⟨t.text.toArray⟩, .int .i64 t.line, .int .i64 t.col] 157)).drew := ((Below.refl w.heap.size w).alloc (Nat.le_refl _) _).drew
  have HB := hid hb0
  clear hb0
  have bk1 : Bk (w.alloc (.cells #[.int .i64 t.kind, .string ⟨t.text.toArray⟩, .int .i64 t.line, .int .i64 t.col] 157)).drew w.heap.size 157 [.int .i64 t.kind, .string ⟨t.text.toArray⟩, .int .i64 t.line, .int .i64 t.col] := (Bk.new w 157 [.int .i64 t.kind, .string ⟨t.text.toArray⟩, .int .i64 t.line, .int .i64 t.col]).drew
  have BK := hid bk1
  clear bk1
  go_enter Try.func56, Try.ntmps56
  go_wp2_with fail
  go_region_held3 (fun w' => w'.cell? ⟨bp, 0, none⟩ = some (.slice (some ⟨g, off, none⟩) T.length cT) ∧ w'.cell? ⟨bp, 1, none⟩ = some (.int .i64 i) ∧ w'.cell? ⟨g, off + i * 4, none⟩ = some (.int .i64 t.kind) ∧ w'.cell? ⟨g, off + i * 4 + 1, none⟩ = some (.string ⟨t.text.toArray⟩) ∧ w'.cell? ⟨g, off + i * 4 + 2, none⟩ = some (.int .i64 t.line) ∧ w'.cell? ⟨g, off + i * 4 + 3, none⟩ = some (.int .i64 t.col)) (go_keep) (fail)
  all_goals
    by_cases c1 : (4096 : Int) ≤ (i : Int)
    · by_cases c2 : (t.kind : Int) = 4
      · have C1 := hid c1
        have C2 := hid c2
        go_wp2_with fail
        go_quiet (fail)
        go_wp2_with fail
        refine bodyPost_ret (v := .tuple #[.int .i64 t.kind, .string ⟨t.text.toArray⟩]) (by simp [results, Try.results56, go_sem, C2.out]) rfl ?_
        have c3 : t.kind = 4 := by have := C2.out; omega
        have hf : lookF T i f = f := by simp [lookF, Syn.far, Htk.out, c3]
        rw [hf]
        exact ⟨rfl, gb_drewN (gb_drew (gb_alloc (World.grownBy.refl w _) _)) _, H.out.below (below_drewN ((Below.refl _ _).alloc (Nat.le_refl _) _).drew _)⟩
      · have C1 := hid c1
        have C2 := hid c2
        go_wp2_with (go_at_call 57; refine (rbad_calls (H.out.below HB.out) 6).mono ?_; rintro e w2 ⟨rfl, hg2, hs2⟩; (have bk2 := BK.out.grown hg2 (by intro e; injection e with e; omega)); (have q0 := bk2.cell 0); (have q1 := bk2.cell 1); simp only [List.getElem?_cons_zero, List.getElem?_cons_succ] at q0 q1; have Hg2 := hid hg2; have Hs2 := hid hs2; clear hg2 hs2 bk2)
        go_quiet (fail)
        go_wp2_with fail
        refine bodyPost_ret (v := .tuple #[.int .i64 t.kind, .string ⟨t.text.toArray⟩]) (by simp [results, Try.results56, go_sem]) rfl ?_
        have c3 : t.kind ≠ 4 := by have := C2.out; omega
        have c4 : 4096 ≤ i := by have := C1.out; omega
        have hf : lookF T i f = first f (Syn.flt T i 6) := by simp [lookF, Syn.far, Htk.out, c3, c4]
        rw [hf]
        exact ⟨rfl, gb_drewN (gb_trans (below_gb HB.out _) Hg2.out) _, Hs2.out.below (below_drewN (Below.refl _ _) _)⟩
    · have C1 := hid c1
      go_wp2_with fail
      go_quiet (fail)
      go_wp2_with fail
      refine bodyPost_ret (v := .tuple #[.int .i64 t.kind, .string ⟨t.text.toArray⟩]) (by simp [results, Try.results56, go_sem]) rfl ?_
      have c4 : ¬ 4096 ≤ i := by have := C1.out; omega
      have hf : lookF T i f = f := by simp [lookF, Syn.far, c4]
      rw [hf]
      exact ⟨rfl, gb_drewN (gb_drew (gb_alloc (World.grownBy.refl w _) _)) _, H.out.below (below_drewN ((Below.refl _ _).alloc (Nat.le_refl _) _).drew _)⟩
/-- Is there no fault? -/
def isF (T : List Lex.Tok) (i : Nat) (f : Lex.Flt) (s : List UInt8) : Bool := decide ((lookF T i f).code = 0) && Syn.isS T i s
set_option maxRecDepth 8000 in
set_option maxHeartbeats 2000000 in
theorem ris_calls {w : World} {B bp : Nat} {gT : Option Addr} {cT : Nat} {T : List Lex.Tok} {i o : Nat} {f : Lex.Flt} (h : Sta w B bp gT cT T i o f) (s : List UInt8) :
    Calls Try.prog 53 #[.pointer (some ⟨bp, 0, none⟩), .string ⟨s.toArray⟩] w fun e w' => e = .returned (.bool (isF T i f s)) ∧ w.grownBy w' (some bp) ∧ Sta w' B bp gT cT T i o (lookF T i f) := by
  have hl := rlook_calls h
  obtain ⟨t, ht⟩ : ∃ t, t = Syn.tk T i := ⟨_, rfl⟩
  obtain ⟨q, hq⟩ : ∃ q, q = lookF T i f := ⟨_, rfl⟩
  simp only [← ht, ← hq] at hl
  have Ht := hid ht
  have Hq := hid hq
  have H := hid h
  clear ht hq h
  by_cases c1 : (q.code : Int) = 0
  · by_cases c2 : (t.kind : Int) = 3
    · have C1 := hid c1
      have C2 := hid c2
      go_enter Try.func53, Try.ntmps53
      go_wp2_with (go_at_call 56; refine hl.mono ?_; rintro e w1 ⟨rfl, hg1, hs1⟩; (have k4 := hs1.k.cell 4; simp only [List.getElem?_cons_zero, List.getElem?_cons_succ] at k4; have Hg1 := hid hg1; have Hs1 := hid hs1; clear hg1 hs1))
      go_ret
      refine ⟨congrArg (fun b => Ending.returned (.bool b)) ?_, Hg1.out, Hq.out ▸ Hs1.out⟩
      have c3 : t.kind = 3 := by have := C2.out; omega
      have c4 : q.code = 0 := by have := C1.out; omega
      simp [isF, Syn.isS, ← Ht.out, ← Hq.out, c3, c4]
    · have C1 := hid c1
      have C2 := hid c2
      go_enter Try.func53, Try.ntmps53
      go_wp2_with (go_at_call 56; refine hl.mono ?_; rintro e w1 ⟨rfl, hg1, hs1⟩; (have k4 := hs1.k.cell 4; simp only [List.getElem?_cons_zero, List.getElem?_cons_succ] at k4; have Hg1 := hid hg1; have Hs1 := hid hs1; clear hg1 hs1))
      go_ret
      refine ⟨congrArg (fun b => Ending.returned (.bool b)) ?_, Hg1.out, Hq.out ▸ Hs1.out⟩
      have c3 : t.kind ≠ 3 := by have := C2.out; omega
      simp [isF, Syn.isS, ← Ht.out, c3]
  · have C1 := hid c1
    go_enter Try.func53, Try.ntmps53
    go_wp2_with (go_at_call 56; refine hl.mono ?_; rintro e w1 ⟨rfl, hg1, hs1⟩; (have k4 := hs1.k.cell 4; simp only [List.getElem?_cons_zero, List.getElem?_cons_succ] at k4; have Hg1 := hid hg1; have Hs1 := hid hs1; clear hg1 hs1))
    go_ret
    refine ⟨congrArg (fun b => Ending.returned (.bool b)) ?_, Hg1.out, Hq.out ▸ Hs1.out⟩
    have c4 : q.code ≠ 0 := by have := C1.out; omega
    simp [isF, ← Hq.out, c4]
/-- No fault. -/
def no : Lex.Flt := ⟨0, 0, 0⟩
theorem look_no (T : List Lex.Tok) (i : Nat) : lookF T i no = if Syn.far T i = true then Syn.flt T i 6 else no := by
  unfold lookF first
  simp [no]
theorem look_bad (T : List Lex.Tok) (i : Nat) {f : Lex.Flt} (h : f.code ≠ 0) : lookF T i f = f := by
  unfold lookF first
  simp [h]
theorem isF_bad (T : List Lex.Tok) (i : Nat) {f : Lex.Flt} (h : f.code ≠ 0) (s : List UInt8) : isF T i f s = false := by
  unfold isF
  rw [look_bad T i h]
  simp [h]
theorem isF_no (T : List Lex.Tok) (i : Nat) (s : List UInt8) : isF T i no s = (!Syn.far T i && Syn.isS T i s) := by
  unfold isF
  rw [look_no]
  cases Syn.far T i <;> simp [no, Syn.flt]
/-- What a call of the document's parser ends in: what is read, or anything and the fault. -/
def SEnd {α : Type} (V : α → Value → World → Prop) (w : World) (B bp : Nat) (gT : Option Addr) (cT : Nat) (T : List Lex.Tok) (r : Syn.Res α) (e : Ending) (w' : World) : Prop :=
  w.grownBy w' (some bp) ∧ match r with
    | .ok a j o => (∃ v, e = .returned v ∧ V a v w') ∧ Sta w' B bp gT cT T j o no
    | .bad f => (∃ a v, e = .returned v ∧ V a v w') ∧ ∃ j o, Sta w' B bp gT cT T j o f
set_option maxRecDepth 8000 in
set_option maxHeartbeats 2000000 in
theorem rneed_no {w : World} {B bp : Nat} {gT : Option Addr} {cT : Nat} {T : List Lex.Tok} {i o : Nat} (h : Sta w B bp gT cT T i o no) (s : List UInt8) :
    Calls Try.prog 55 #[.pointer (some ⟨bp, 0, none⟩), .string ⟨s.toArray⟩] w (SEnd isUnit w B bp gT cT T (Syn.takeS T s i o)) := by
  have hi : (i : Int) + 1 ≤ 1000000 := by have := h.lt; have := h.len; omega
  have hs := ris_calls h s
  rw [isF_no, look_no] at hs
  by_cases c0 : Syn.far T i = true
  · simp only [c0, if_true, Bool.not_true, Bool.false_and] at hs
    have C0 := hid c0
    clear c0 h hi
    go_enter Try.func55, Try.ntmps55
    go_wp2_with (first | (go_at_call 53; refine hs.mono ?_; rintro e w1 ⟨rfl, hg1, hs1⟩) | (go_at_call 57; refine (rbad_calls hs1 2).mono ?_; rintro e w2 ⟨rfl, hg2, hs2⟩))
    refine bodyPost_end (results_none rfl _ _ _) rfl ?_
    simp only [first, Syn.flt, show ¬ (6 : Nat) = 0 from by decide, if_false] at hs2
    refine ⟨gb_trans hg1 hg2, ?_⟩
    simp only [Syn.takeS, C0.out, if_true]
    exact ⟨⟨(), _, rfl, rfl⟩, i, o, hs2⟩
  · have c0' : Syn.far T i = false := by simpa using c0
    simp only [c0', Bool.not_false, Bool.true_and, Bool.false_eq_true, if_false] at hs
    have C0 := hid c0'
    clear c0 c0'
    by_cases c1 : Syn.isS T i s = true
    · rw [c1] at hs
      have hk : (Syn.tk T i).kind ≠ 4 := by
        unfold Syn.isS at c1
        simp at c1
        omega
      have hj := lt_last h.lt h.last hk
      have C1 := hid c1
      clear c1 hk h
      go_enter Try.func55, Try.ntmps55
      go_wp2_with (go_at_call 53; refine hs.mono ?_; rintro e w1 ⟨rfl, hg1, hs1⟩; (have k1 := hs1.k.cell 1; have f1 := hs1.k.free 1; simp only [List.getElem?_cons_zero, List.getElem?_cons_succ] at k1))
      refine bodyPost_end (results_none rfl _ _ _) rfl ?_
      refine ⟨gb_set hg1 (.inl rfl) _, ?_⟩
      simp only [Syn.takeS, C0.out, C1.out, Bool.false_eq_true, if_false, if_true]
      exact ⟨⟨_, rfl, rfl⟩, hs1.at (i + 1) hj⟩
    · have c2 : Syn.isS T i s = false := by simpa using c1
      rw [c2] at hs
      have C2 := hid c2
      clear c1 c2 h hi
      go_enter Try.func55, Try.ntmps55
      go_wp2_with (first | (go_at_call 53; refine hs.mono ?_; rintro e w1 ⟨rfl, hg1, hs1⟩) | (go_at_call 57; refine (rbad_calls hs1 2).mono ?_; rintro e w2 ⟨rfl, hg2, hs2⟩))
      refine bodyPost_end (results_none rfl _ _ _) rfl ?_
      simp only [first, no, if_true] at hs2
      refine ⟨gb_trans hg1 hg2, ?_⟩
      simp only [Syn.takeS, C0.out, C2.out, Bool.false_eq_true, if_false]
      exact ⟨⟨(), _, rfl, rfl⟩, i, o, hs2⟩
set_option maxRecDepth 8000 in
set_option maxHeartbeats 2000000 in
/-- Behind a fault nothing is asked. -/
theorem rneed_bad {w : World} {B bp : Nat} {gT : Option Addr} {cT : Nat} {T : List Lex.Tok} {i o : Nat} {f : Lex.Flt} (h : Sta w B bp gT cT T i o f) (hf : f.code ≠ 0) (s : List UInt8) :
    Calls Try.prog 55 #[.pointer (some ⟨bp, 0, none⟩), .string ⟨s.toArray⟩] w fun e w' => e = .returned (.tuple #[]) ∧ w.grownBy w' (some bp) ∧ Sta w' B bp gT cT T i o f := by
  have hs := ris_calls h s
  rw [isF_bad _ _ hf, look_bad _ _ hf] at hs
  have Hf := hid hf
  clear hf h
  go_enter Try.func55, Try.ntmps55
  go_wp2_with (first | (go_at_call 53; refine hs.mono ?_; rintro e w1 ⟨rfl, hg1, hs1⟩) | (go_at_call 57; refine (rbad_calls hs1 2).mono ?_; rintro e w2 ⟨rfl, hg2, hs2⟩))
  first
    | (refine bodyPost_ret (results_none rfl _ _ _) rfl ?_)
    | go_ret
  have hfc := Hf.out
  simp only [first, hfc, if_false] at hs2
  exact ⟨rfl, gb_trans hg1 hg2, hs2⟩
set_option maxRecDepth 8000 in
set_option maxHeartbeats 2000000 in
theorem rname_no {w : World} {B bp : Nat} {gT : Option Addr} {cT : Nat} {T : List Lex.Tok} {i o : Nat} (h : Sta w B bp gT cT T i o no) :
    Calls Try.prog 54 #[.pointer (some ⟨bp, 0, none⟩)] w (SEnd isText w B bp gT cT T (Syn.nameS T i o)) := by
  have hi : (i : Int) + 1 ≤ 1000000 := by have := h.lt; have := h.len; omega
  have hl := rlook_calls h
  obtain ⟨t, ht⟩ : ∃ t, t = Syn.tk T i := ⟨_, rfl⟩
  rw [look_no] at hl
  simp only [← ht] at hl
  by_cases c0 : Syn.far T i = true
  · have ht4 : t.kind ≠ 4 := by
      unfold Syn.far at c0
      rw [← ht] at c0
      simp at c0
      omega
    simp only [c0, if_true] at hl
    have C0 := hid c0
    clear c0 h hi ht
    by_cases c1 : (t.kind : Int) = 1
    · have C1 := hid c1
      clear ht4
      go_enter Try.func54, Try.ntmps54
      go_wp2_with (go_at_call 56; refine hl.mono ?_; rintro e w1 ⟨rfl, hg1, hs1⟩; (have k4 := hs1.k.cell 4; simp only [List.getElem?_cons_zero, List.getElem?_cons_succ, Syn.flt] at k4))
      go_ret
      refine ⟨hg1, ?_⟩
      simp only [Syn.nameS, C0.out, if_true]
      exact ⟨⟨[], _, rfl, rfl⟩, i, o, hs1⟩
    · have C1 := hid c1
      clear ht4
      go_enter Try.func54, Try.ntmps54
      go_wp2_with (first | (go_at_call 56; refine hl.mono ?_; rintro e w1 ⟨rfl, hg1, hs1⟩) | (go_at_call 57; refine (rbad_calls hs1 2).mono ?_; rintro e w2 ⟨rfl, hg2, hs2⟩; (simp only [first, Syn.flt, show ¬ (6 : Nat) = 0 from by decide, if_false] at hs2); (have k4 := hs2.k.cell 4; simp only [List.getElem?_cons_zero, List.getElem?_cons_succ] at k4)))
      go_ret
      refine ⟨gb_trans hg1 hg2, ?_⟩
      simp only [Syn.nameS, C0.out, if_true]
      exact ⟨⟨[], _, rfl, rfl⟩, i, o, hs2⟩
  · have c0' : Syn.far T i = false := by simpa using c0
    simp only [c0', Bool.false_eq_true, if_false] at hl
    have C0 := hid c0'
    clear c0 c0'
    by_cases c1 : (t.kind : Int) = 1
    · have hk : (Syn.tk T i).kind ≠ 4 := by rw [← ht]; omega
      have hj := lt_last h.lt h.last hk
      have C1 := hid c1
      have Ht := hid ht
      clear hk h ht
      go_enter Try.func54, Try.ntmps54
      go_wp2_with (go_at_call 56; refine hl.mono ?_; rintro e w1 ⟨rfl, hg1, hs1⟩; (have k1 := hs1.k.cell 1; have f1 := hs1.k.free 1; have k4 := hs1.k.cell 4; simp only [List.getElem?_cons_zero, List.getElem?_cons_succ, no] at k1 k4))
      go_ret
      refine ⟨gb_set hg1 (.inl rfl) _, ?_⟩
      have c3 : t.kind = 1 := by have := C1.out; omega
      simp only [Syn.nameS, C0.out, ← Ht.out, c3, Bool.false_eq_true, if_false, if_true]
      exact ⟨⟨_, rfl, rfl⟩, hs1.at (i + 1) hj⟩
    · have C1 := hid c1
      have Ht := hid ht
      clear h hi ht
      go_enter Try.func54, Try.ntmps54
      go_wp2_with (first | (go_at_call 56; refine hl.mono ?_; rintro e w1 ⟨rfl, hg1, hs1⟩) | (go_at_call 57; refine (rbad_calls hs1 2).mono ?_; rintro e w2 ⟨rfl, hg2, hs2⟩; (simp only [first, no, if_true] at hs2); (have k4 := hs2.k.cell 4; simp only [List.getElem?_cons_zero, List.getElem?_cons_succ, Syn.flt] at k4)))
      go_ret
      refine ⟨gb_trans hg1 hg2, ?_⟩
      have c3 : ¬ t.kind = 1 := by have := C1.out; omega
      simp only [Syn.nameS, C0.out, ← Ht.out, c3, Bool.false_eq_true, if_false]
      exact ⟨⟨[], _, rfl, rfl⟩, i, o, hs2⟩
set_option maxRecDepth 8000 in
set_option maxHeartbeats 2000000 in
/-- Behind a fault there is no name. -/
theorem rname_bad {w : World} {B bp : Nat} {gT : Option Addr} {cT : Nat} {T : List Lex.Tok} {i o : Nat} {f : Lex.Flt} (h : Sta w B bp gT cT T i o f) (hf : f.code ≠ 0) :
    Calls Try.prog 54 #[.pointer (some ⟨bp, 0, none⟩)] w fun e w' => e = .returned (.string ⟨#[]⟩) ∧ w.grownBy w' (some bp) ∧ Sta w' B bp gT cT T i o f := by
  have hl := rlook_calls h
  rw [look_bad _ _ hf] at hl
  obtain ⟨t, ht⟩ : ∃ t, t = Syn.tk T i := ⟨_, rfl⟩
  simp only [← ht] at hl
  have hfi : ¬ (f.code : Int) = 0 := by omega
  have Hf := hid hf
  clear hf h ht
  by_cases c1 : (t.kind : Int) = 1
  · go_enter Try.func54, Try.ntmps54
    go_wp2_with (go_at_call 56; refine hl.mono ?_; rintro e w1 ⟨rfl, hg1, hs1⟩; (have k4 := hs1.k.cell 4; simp only [List.getElem?_cons_zero, List.getElem?_cons_succ] at k4))
    go_ret
    exact ⟨rfl, hg1, hs1⟩
  · go_enter Try.func54, Try.ntmps54
    go_wp2_with (first | (go_at_call 56; refine hl.mono ?_; rintro e w1 ⟨rfl, hg1, hs1⟩) | (go_at_call 57; refine (rbad_calls hs1 2).mono ?_; rintro e w2 ⟨rfl, hg2, hs2⟩; (have hfc := Hf.out); (simp only [first, hfc, if_false] at hs2); (have k4 := hs2.k.cell 4; simp only [List.getElem?_cons_zero, List.getElem?_cons_succ] at k4)))
    go_ret
    exact ⟨rfl, gb_trans hg1 hg2, hs2⟩
end Go.Proofs.Ytjaampgpihicmaa
