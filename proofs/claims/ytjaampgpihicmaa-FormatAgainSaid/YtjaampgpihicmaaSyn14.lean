/- Chapter 5 (syntax): Parse, which recovers. -/
import Derived.Test.YtjaampgpihicmaaSyn12
import Derived.Test.YtjaampgpihicmaaLexWalk9
import Derived.Defers
import Derived.Test.YtjaampgpihicmaaSynLaw4
namespace Go.Proofs.Ytjaampgpihicmaa
open Go.RowKit
attribute [local go_sem ↓] Go.wp_at_zero Go.wp_at_succ
attribute [local go_sem] frozen_alloc_lt
open Syn (Nd Nod)

theorem run_wrong (v : Value) (xT : TypeId) (w : World) : (Instr.typeAssert (.iface 97 v) xT 97 true).run Try.prog w = .ok (.tuple #[v, .bool true]) w := by
  simp [Instr.typeAssert, run_underlying Try.underlying97, go_sem]
attribute [local go_sem] run_wrong
set_option maxHeartbeats 4000000 in
theorem catch_idle (p q : Addr) (w : World) :
    CallsD Try.prog 50 #[.pointer (some p), .pointer (some q)] .returning w fun e u' w' => e = .returned (.tuple #[]) ∧ u' = .returning ∧ w' = w := by
  refine callsD_of_wpS Try.func50 rfl fun c₀ cs hu => ?_
  have ht : (#[Value.pointer (some p), Value.pointer (some q)] ++ Array.replicate (Try.f50.ntmps - (#[Value.pointer (some p), Value.pointer (some q)]).size) undef) = #[Value.pointer (some p), Value.pointer (some q), undef, undef, undef, undef, undef, undef, undef, undef, undef, undef, undef, undef, undef, undef, undef, undef, undef] := by rw [Try.ntmps50]; rfl
  rw [ht]
  apply wpS_seq
  apply wpS_region
  generalize hK : Code.wpS Try.prog _ (bodyPostS Try.prog Try.f50 c₀ cs _) = K
  simp [wpOpsS, go_sem, recoverD, hu, Exit.thenS]
  rw [← hK]
  clear hK K
  refine wpS_of_wp ?_
  go_wp2
  cases c₀
  simp_all [bodyPostS, results, Try.results50]
set_option maxRecDepth 8000 in
set_option maxHeartbeats 4000000 in
theorem catch_panicking (b c : Nat) (f : Lex.Flt) (w : World) (hb : Bk w b 25 [.string ⟨#[]⟩, .slice none 0 0]) (hc : Bk w c 28 [.int .i64 0, .int .i64 0, .int .i64 0]) (hbc : ¬ c = b) :
    CallsD Try.prog 50 #[.pointer (some ⟨b, 0, none⟩), .pointer (some ⟨c, 0, none⟩)] (.panicking [{ v := wrongV f, recovered := false }]) w fun e u' w' =>
      e = .returned (.tuple #[]) ∧ u' = .panicking [{ v := wrongV f, recovered := true }] ∧ Bk w' b 25 [.string ⟨#[]⟩, .slice none 0 0] ∧ Bk w' c 28 [.int .i64 f.line, .int .i64 f.col, .int .i64 f.code] ∧ Kp (fun k => k = b ∨ k = c) w w' := by
  obtain ⟨li, hli⟩ : ∃ li : Int, li = f.line := ⟨_, rfl⟩
  obtain ⟨co, hco⟩ : ∃ co : Int, co = f.col := ⟨_, rfl⟩
  obtain ⟨cd, hcd⟩ : ∃ cd : Int, cd = f.code := ⟨_, rfl⟩
  simp only [wrongV, ← hli, ← hco, ← hcd]
  clear hli hco hcd
  refine callsD_of_wpS Try.func50 rfl fun c₀ cs hu => ?_
  have ht : (#[Value.pointer (some ⟨b, 0, none⟩), Value.pointer (some ⟨c, 0, none⟩)] ++ Array.replicate (Try.f50.ntmps - (#[Value.pointer (some ⟨b, 0, none⟩), Value.pointer (some ⟨c, 0, none⟩)]).size) undef) = #[Value.pointer (some ⟨b, 0, none⟩), Value.pointer (some ⟨c, 0, none⟩), undef, undef, undef, undef, undef, undef, undef, undef, undef, undef, undef, undef, undef, undef, undef, undef, undef] := by rw [Try.ntmps50]; rfl
  rw [ht]
  apply wpS_seq
  apply wpS_region
  generalize hK : Code.wpS Try.prog _ (bodyPostS Try.prog Try.f50 c₀ cs _) = K
  simp [wpOpsS, go_sem, recoverD, hu, Exit.thenS]
  rw [← hK]
  clear hK K
  refine wpS_of_wp ?_
  have b0 := hb.cell 0
  have b1 := hb.cell 1
  have f0 := hb.free 0
  have f1 := hb.free 1
  have c0 := hc.cell 0
  have c1 := hc.cell 1
  have c2 := hc.cell 2
  have g0 := hc.free 0
  have g1 := hc.free 1
  have g2 := hc.free 2
  have hbl := hb.lt
  have hcl := hc.lt
  simp only [List.getElem?_cons_zero, List.getElem?_cons_succ] at b0 b1 c0 c1 c2
  go_wp2
  go_region
  show bodyPostS Try.prog Try.f50 c₀ cs _ Exit.normal _ _ _
  have hbc2 : b ≠ c := fun e => hbc e.symm
  refine ⟨rfl, _, rfl, .tuple #[], by simp [results, Try.results50], rfl, rfl, ?_, ?_, ?_⟩
  · exact ((((((hb.set 0 (.string ⟨#[]⟩)).set 1 (.slice none 0 0)).far (p := ⟨c, 0, none⟩) hbc2 (.int .i64 li)).far (p := ⟨c, 1, none⟩) hbc2 (.int .i64 co)).far (p := ⟨c, 2, none⟩) hbc2 (.int .i64 cd)).alloc _).drew
  · exact ((((((hc.far (p := ⟨b, 0, none⟩) hbc (.string ⟨#[]⟩)).far (p := ⟨b, 1, none⟩) hbc (.slice none 0 0)).set 0 (.int .i64 li)).set 1 (.int .i64 co)).set 2 (.int .i64 cd)).alloc _).drew
  · refine Kp.drew (Kp.alloc ?_ _)
    exact (((((Kp.refl (fun k => k = b ∨ k = c) w).set (p := ⟨b, 0, none⟩) (.inl (.inl rfl)) _).set (p := ⟨b, 1, none⟩) (.inl (.inl rfl)) _).set (p := ⟨c, 0, none⟩) (.inl (.inr rfl)) _).set (p := ⟨c, 1, none⟩) (.inl (.inr rfl)) _).set (p := ⟨c, 2, none⟩) (.inl (.inr rfl)) _
end Go.Proofs.Ytjaampgpihicmaa
/- Chapter 5 (syntax): Parse. -/
namespace Go.Proofs.Ytjaampgpihicmaa.Lex
theorem tokS_code {c : UInt8} {r : List UInt8} {li co : Nat} {f : Flt} (h : tokS c r li co = .bad f) : f.code ≠ 0 := by
  unfold tokS at h
  repeat' split at h
  all_goals first | (cases h; show (6 : Nat) ≠ 0; decide) | (cases h; show (2 : Nat) ≠ 0; decide) | cases h
theorem scanS_code : ∀ (n : Nat) (l : List UInt8) (li co : Nat) (f : Flt), l.length ≤ n → scanS l li co = .bad f → f.code ≠ 0 := by
  intro n
  induction n with
  | zero =>
    intro l li co f hn h
    have hl : l = [] := List.eq_nil_of_length_eq_zero (by omega)
    subst hl
    rw [scanS_eq] at h
    simp [skipS, contS] at h
  | succ n ih =>
    intro l li co f hn h
    rw [scanS_eq] at h
    have hsk := skipS_len false l li co
    rcases hs : skipS false l li co with ⟨l', li', co'⟩
    rw [hs] at h hsk
    cases l' with
    | nil => simp [contS] at h
    | cons c r =>
      simp only [contS] at h
      simp only [List.length_cons] at hsk
      cases ht : tokS c r li' co' with
      | bad f' =>
        rw [ht] at h
        cases h
        exact tokS_code ht
      | good t rest li2 co2 =>
        rw [ht] at h
        simp only [] at h
        have hlen := tokS_len ht
        cases hr : scanS rest li2 co2 with
        | bad f' =>
          rw [hr] at h
          cases h
          exact ih rest li2 co2 _ (by omega) hr
        | good m' => rw [hr] at h; cases h
theorem scan_code {l : List UInt8} {f : Flt} (h : scan l = .bad f) : f.code ≠ 0 := by
  unfold scan at h
  split at h
  · cases h; decide
  · exact scanS_code l.length l 1 1 f (Nat.le_refl _) h
end Go.Proofs.Ytjaampgpihicmaa.Lex
namespace Go.Proofs.Ytjaampgpihicmaa
open Go.RowKit
attribute [local go_sem ↓] Go.wp_at_zero Go.wp_at_succ
attribute [local go_sem] frozen_alloc_lt
open Syn (Nd Nod)

/-- What Parse leaves. -/
def ParsePost (w : World) (e : Ending) (w' : World) : Syn.PRes → Prop
  | .ok st rs => ∃ ga ca, e = .returned (.tuple #[.agg #[.string ⟨st.toArray⟩, .slice ga rs.length ca], .agg #[.int .i64 0, .int .i64 0, .int .i64 0]]) ∧ RulesM w' (From w.heap.size w') ga rs ∧ Below w.heap.size w w'
  | .bad f => e = .returned (.tuple #[.agg #[.string ⟨#[]⟩, .slice none 0 0], .agg #[.int .i64 f.line, .int .i64 f.col, .int .i64 f.code]]) ∧ Below w.heap.size w w'
/-- Tokens that Scan has made. -/
theorem toks_read {w : World} {base g cap : Nat} {ts : List Lex.Tok} (h : w.ownsRow base 46 4 (.slice (some ⟨g, 0, none⟩) ts.length cap) ts.length (toksV ts)) (hg : g < w.heap.size) : TokR w w.heap.size (some ⟨g, 0, none⟩) ts := by
  have hc : ∀ (j : Nat) (u : Value), (toksV ts)[j]? = some u → w.cell? ⟨g, j, none⟩ = some u := by
    intro j u hu
    have := h.cells (g := g) rfl j u hu
    rwa [addr_add0] at this
  have hat : ∀ (ts : List Lex.Tok) (i : Nat) (t : Lex.Tok), ts[i]? = some t → ∀ j u, (tokV t)[j]? = some u → (toksV ts)[i * 4 + j]? = some u := by
    intro ts
    induction ts with
    | nil => intro i t h; simp at h
    | cons a r ih =>
      intro i t h j u hu
      have hl : (tokV a).length = 4 := rfl
      have e : toksV (a :: r) = tokV a ++ toksV r := rfl
      rw [e]
      cases i with
      | zero =>
        simp at h
        subst h
        rw [Nat.zero_mul, Nat.zero_add, List.getElem?_append_left (List.getElem?_eq_some_iff.1 hu).1]
        exact hu
      | succ i =>
        rw [List.getElem?_append_right (by omega), hl, show (i + 1) * 4 + j - 4 = i * 4 + j by omega]
        exact ih i t (by simpa using h) j u hu
  intro i t ht
  refine ⟨g, 0, rfl, hg, ?_, ?_, ?_, ?_⟩
  · rw [Nat.zero_add]; exact hc _ _ (hat ts i t ht 0 _ rfl)
  · rw [Nat.zero_add]; exact hc _ _ (hat ts i t ht 1 _ rfl)
  · rw [Nat.zero_add]; exact hc _ _ (hat ts i t ht 2 _ rfl)
  · rw [Nat.zero_add]; exact hc _ _ (hat ts i t ht 3 _ rfl)
theorem parseT_gram (T : List Lex.Tok) : ∃ r, gramF T (5 * T.length + 6) = some r ∧ ((∃ st rs j p, r = .ok (st, rs) j p ∧ Syn.parseT T = .ok st rs) ∨ ∃ f, r = .bad f ∧ Syn.parseT T = .bad f) := by
  unfold gramF Syn.parseT
  cases Syn.headS T with
  | bad f => exact ⟨_, rfl, .inr ⟨f, rfl, rfl⟩⟩
  | ok st i o =>
    obtain ⟨x, hx, _⟩ := Syn.rules_fine T (5 * T.length + 6) [] i 0 (by omega)
    simp only [hx]
    cases x with
    | bad f => exact ⟨_, rfl, .inr ⟨f, rfl, rfl⟩⟩
    | ok rs j p => exact ⟨_, rfl, .inl ⟨_, _, _, _, rfl, rfl⟩⟩
theorem parse_results (W : World) (b c : Nat) (x y : Value) (l m n : Value) (tmps : Array Value) (h2 : tmps[2]?.getD undef = .pointer (some ⟨b, 0, none⟩)) (h3 : tmps[3]?.getD undef = .pointer (some ⟨c, 0, none⟩)) (hb : Bk W b 25 [x, y]) (hc : Bk W c 28 [l, m, n]) :
    (results Try.f15 tmps).run Try.prog W = .ok (.tuple #[.agg #[x, y], .agg #[l, m, n]]) W := by
  have b0 := hb.cell 0
  have b1 := hb.cell 1
  have c0 := hc.cell 0
  have c1 := hc.cell 1
  have c2 := hc.cell 2
  simp only [List.getElem?_cons_zero, List.getElem?_cons_succ] at b0 b1 c0 c1 c2
  simp only [results, Try.results15]
  simp [h2, h3, go_sem, b0, b1, c0, c1, c2]
set_option maxRecDepth 8000 in
set_option maxHeartbeats 4000000 in
theorem parse_bad (s : ByteArray) (w : World) (hs : s.size ≤ 9223372036854775807) {f : Lex.Flt} (h : Lex.scan s.data.toList = .bad f) :
    Calls Try.prog 15 #[.string s] w fun e w' => ParsePost w e w' (.bad f) := by
  have hc := Lex.scan_code h
  have hb0 : Below w.heap.size w ((w.alloc (.cells #[.string ⟨#[]⟩, .slice none 0 0] 25)).alloc (.cells #[.int .i64 0, .int .i64 0, .int .i64 0] 28)) := ((Below.refl _ _).alloc (Nat.le_refl _) _).alloc (by simp) _
  have hsc := scan_calls s ((w.alloc (.cells #[.string ⟨#[]⟩, .slice none 0 0] 25)).alloc (.cells #[.int .i64 0, .int .i64 0, .int .i64 0] 28)) hs
  rw [h] at hsc
  have rb := (Bk.new w 25 [.string ⟨#[]⟩, .slice none 0 0]).alloc (.cells #[.int .i64 0, .int .i64 0, .int .i64 0] 28)
  have rc : Bk ((w.alloc (.cells #[.string ⟨#[]⟩, .slice none 0 0] 25)).alloc (.cells #[.int .i64 0, .int .i64 0, .int .i64 0] 28)) (w.heap.size + 1) 28 [.int .i64 0, .int .i64 0, .int .i64 0] := by
    have := Bk.new (w.alloc (.cells #[.string ⟨#[]⟩, .slice none 0 0] 25)) 28 [.int .i64 0, .int .i64 0, .int .i64 0]
    simpa using this
  obtain ⟨li, hli⟩ : ∃ li : Int, li = f.line := ⟨_, rfl⟩
  obtain ⟨co, hco⟩ : ∃ co : Int, co = f.col := ⟨_, rfl⟩
  obtain ⟨cd, hcd⟩ : ∃ cd : Int, cd = f.code := ⟨_, rfl⟩
  have hcd0 : ¬ cd = 0 := by omega
  simp only [ScanPost, ← hli, ← hco, ← hcd] at hsc
  simp only [ParsePost, ← hli, ← hco, ← hcd]
  clear hli hco hcd h hc
  go_enter_defers Try.func15, Try.ntmps15
  go_upto_region 1 with fail
  obtain ⟨b, hb⟩ : ∃ b, b = w.heap.size := ⟨_, rfl⟩
  obtain ⟨c, hc⟩ : ∃ c, c = w.heap.size + 1 := ⟨_, rfl⟩
  obtain ⟨wa, hwa⟩ : ∃ wa, wa = ((w.alloc (.cells #[.string ⟨#[]⟩, .slice none 0 0] 25)).alloc (.cells #[.int .i64 0, .int .i64 0, .int .i64 0] 28)) := ⟨_, rfl⟩
  rw [← hwa] at hb0 hsc rb rc ⊢
  rw [← hc] at rc ⊢
  have hbw : w.heap.size ≤ b := by omega
  have hcw : w.heap.size ≤ c := by omega
  have hbc : ¬ b = c := by omega
  have hcb : ¬ c = b := by omega
  rw [← hb] at rb
  have HB := hid hb
  have Hb0 := hid hb0
  clear hwa hc hb0
  rw [← hb] at hbw hcw ⊢
  clear hb
  go_wp2_with (go_at_call 20; refine hsc.mono ?_; rintro e w1 ⟨rfl, hb1⟩; have rb1 := rb.below hb1 rb.lt; have rc1 := rc.below hb1 rc.lt; have b0 := rb1.cell 0; have b1 := rb1.cell 1; have f0 := rb1.free 0; have f1 := rb1.free 1; have c0 := rc1.cell 0; have c1 := rc1.cell 1; have c2 := rc1.cell 2; have g0 := rc1.free 0; have g1 := rc1.free 1; have g2 := rc1.free 2; simp only [List.getElem?_cons_zero, List.getElem?_cons_succ] at b0 b1 c0 c1 c2)
  go_region
  go_wp2
  refine ⟨.tuple #[.agg #[.string ⟨#[]⟩, .slice none 0 0], .agg #[.int .i64 li, .int .i64 co, .int .i64 cd]], parse_results _ b c _ _ _ _ _ _ (by rfl) (by rfl) ?_ ?_, rfl, ?_⟩
  · refine Bk.drew ?_
    exact ((((((((rb1.far (p := ⟨c, 0, none⟩) hbc _).far (p := ⟨c, 1, none⟩) hbc _).far (p := ⟨c, 2, none⟩) hbc _).set 0 (.string ⟨#[]⟩)).set 1 (.slice none 0 0)).far (p := ⟨c, 0, none⟩) hbc _).far (p := ⟨c, 1, none⟩) hbc _).far (p := ⟨c, 2, none⟩) hbc _)
  · refine Bk.drew ?_
    exact ((((((((rc1.set 0 (.int .i64 li)).set 1 (.int .i64 co)).set 2 (.int .i64 cd)).far (p := ⟨b, 0, none⟩) hcb _).far (p := ⟨b, 1, none⟩) hcb _).set 0 (.int .i64 li)).set 1 (.int .i64 co)).set 2 (.int .i64 cd))
  have hb3 := Hb0.out.trans (hb1.mono Hb0.out.size)
  rw [← HB.out] at hb3 ⊢
  refine Below.drew ?_
  refine Below.setCell ?_ hcw _
  refine Below.setCell ?_ hcw _
  refine Below.setCell ?_ hcw _
  refine Below.setCell ?_ hbw _
  refine Below.setCell ?_ hbw _
  refine Below.setCell ?_ hcw _
  refine Below.setCell ?_ hcw _
  refine Below.setCell ?_ hcw _
  exact hb3
set_option maxRecDepth 8000 in
set_option maxHeartbeats 4000000 in
theorem parse_good (s : ByteArray) (w : World) (hs : s.size ≤ 9223372036854775807) {T : List Lex.Tok} (h : Lex.scan s.data.toList = .good T) :
    Calls Try.prog 15 #[.string s] w fun e w' => ParsePost w e w' (Syn.parseT T) := by
  have hmf : ∀ (fn : Fn) (first cap : Array Value) (w : World), (Instr.makeFunc fn first cap).run Try.prog w = .ok (.func fn first cap) w := fun _ _ _ _ => rfl
  have hTl : T.length ≤ 1000000 ∧ 0 < T.length ∧ (Syn.tk T (T.length - 1)).kind = 4 := by
    obtain ⟨ts, e, h1, h2, h3, h4⟩ := Lex.scan_ok h
    have hsz : s.data.toList.length ≤ 65536 := by
      unfold Lex.scan at h
      split at h
      · cases h
      · omega
    subst h1
    refine ⟨by simp; omega, by simp, ?_⟩
    have : (ts ++ [e]).length - 1 = 0 + ts.length := by simp
    rw [this, Syn.tk_app']
    exact congrArg Prod.fst h2
  have hb0 : Below w.heap.size w ((w.alloc (.cells #[.string ⟨#[]⟩, .slice none 0 0] 25)).alloc (.cells #[.int .i64 0, .int .i64 0, .int .i64 0] 28)) := ((Below.refl _ _).alloc (Nat.le_refl _) _).alloc (by simp) _
  have hsc := scan_calls s ((w.alloc (.cells #[.string ⟨#[]⟩, .slice none 0 0] 25)).alloc (.cells #[.int .i64 0, .int .i64 0, .int .i64 0] 28)) hs
  rw [h] at hsc
  have rb := (Bk.new w 25 [.string ⟨#[]⟩, .slice none 0 0]).alloc (.cells #[.int .i64 0, .int .i64 0, .int .i64 0] 28)
  have rc : Bk ((w.alloc (.cells #[.string ⟨#[]⟩, .slice none 0 0] 25)).alloc (.cells #[.int .i64 0, .int .i64 0, .int .i64 0] 28)) (w.heap.size + 1) 28 [.int .i64 0, .int .i64 0, .int .i64 0] := by
    have := Bk.new (w.alloc (.cells #[.string ⟨#[]⟩, .slice none 0 0] 25)) 28 [.int .i64 0, .int .i64 0, .int .i64 0]
    simpa using this
  simp only [ScanPost] at hsc
  obtain ⟨r, hgr, hcase⟩ := parseT_gram T
  obtain ⟨pr, hpr⟩ : ∃ pr, pr = Syn.parseT T := ⟨_, rfl⟩
  rw [← hpr] at hcase ⊢
  have Hgr := hid hgr
  have Hcase := hid hcase
  have HT := hid hTl
  clear h hgr hcase hTl hpr
  go_enter_defers Try.func15, Try.ntmps15
  go_upto_region 1 with fail
  obtain ⟨b, hb⟩ : ∃ b, b = w.heap.size := ⟨_, rfl⟩
  obtain ⟨c, hc⟩ : ∃ c, c = w.heap.size + 1 := ⟨_, rfl⟩
  obtain ⟨wa, hwa⟩ : ∃ wa, wa = ((w.alloc (.cells #[.string ⟨#[]⟩, .slice none 0 0] 25)).alloc (.cells #[.int .i64 0, .int .i64 0, .int .i64 0] 28)) := ⟨_, rfl⟩
  have hwas : wa.heap.size = w.heap.size + 2 := by rw [hwa]; simp
  rw [← hwa] at hb0 hsc rb rc ⊢
  rw [← hc] at rc ⊢
  have hbw : w.heap.size ≤ b := by omega
  have hcw : w.heap.size ≤ c := by omega
  have hbc : ¬ b = c := by omega
  have hcb : ¬ c = b := by omega
  have hcwa : c + 1 = wa.heap.size := by omega
  rw [← hb] at rb
  have HB := hid hb
  have HC := hid hc
  have Hb0 := hid hb0
  have Hcwa := hid hcwa
  clear hwa hc hb0 hwas hcwa
  rw [← hb] at hbw hcw ⊢
  clear hb
  go_upto_region 6 with (go_at_call 20; refine hsc.mono ?_; rintro e w1 ⟨tv, rfl, hown, hb1⟩; obtain ⟨g, cap, rfl, -, hg⟩ := hown.form HT.out.2.1; have Hown := hid hown; clear hown; have rb1 := rb.below hb1 rb.lt; have rc1 := rc.below hb1 rc.lt; have b0 := rb1.cell 0; have b1 := rb1.cell 1; have f0 := rb1.free 0; have f1 := rb1.free 1; have c0 := rc1.cell 0; have c1 := rc1.cell 1; have c2 := rc1.cell 2; have g0 := rc1.free 0; have g1 := rc1.free 1; have g2 := rc1.free 2; simp only [List.getElem?_cons_zero, List.getElem?_cons_succ] at b0 b1 c0 c1 c2)
  obtain ⟨bp, hbp⟩ : ∃ bp, bp = w1.heap.size := ⟨_, rfl⟩
  have hs1 := hb1.size
  have htr := toks_read Hown.out hg
  have hkp : Kp (fun k => k = c) w1 ((((w1.setCell ⟨c, 0, none⟩ (.int .i64 0)).setCell ⟨c, 1, none⟩ (.int .i64 0)).setCell ⟨c, 2, none⟩ (.int .i64 0)).alloc (.cells #[.slice (some ⟨g, 0, none⟩) T.length cap, .int .i64 0, .int .i64 0] 101)) :=
    ((((Kp.refl (fun k => k = c) w1).set (p := ⟨c, 0, none⟩) (.inl rfl) _).set (p := ⟨c, 1, none⟩) (.inl rfl) _).set (p := ⟨c, 2, none⟩) (.inl rfl) _).alloc _
  have hgge : wa.heap.size ≤ g := by have := Hown.out.lt g rfl; omega
  have rbq : Bk ((((w1.setCell ⟨c, 0, none⟩ (.int .i64 0)).setCell ⟨c, 1, none⟩ (.int .i64 0)).setCell ⟨c, 2, none⟩ (.int .i64 0)).alloc (.cells #[.slice (some ⟨g, 0, none⟩) T.length cap, .int .i64 0, .int .i64 0] 101)) b 25 [.string ⟨#[]⟩, .slice none 0 0] := rb1.kp hkp hbc
  have rcq : Bk ((((w1.setCell ⟨c, 0, none⟩ (.int .i64 0)).setCell ⟨c, 1, none⟩ (.int .i64 0)).setCell ⟨c, 2, none⟩ (.int .i64 0)).alloc (.cells #[.slice (some ⟨g, 0, none⟩) T.length cap, .int .i64 0, .int .i64 0] 101)) c 28 [.int .i64 0, .int .i64 0, .int .i64 0] := (((rc1.set 0 (.int .i64 0)).set 1 (.int .i64 0)).set 2 (.int .i64 0)).alloc _
  have rpq : Bk ((((w1.setCell ⟨c, 0, none⟩ (.int .i64 0)).setCell ⟨c, 1, none⟩ (.int .i64 0)).setCell ⟨c, 2, none⟩ (.int .i64 0)).alloc (.cells #[.slice (some ⟨g, 0, none⟩) T.length cap, .int .i64 0, .int .i64 0] 101)) w1.heap.size 101 [.slice (some ⟨g, 0, none⟩) T.length cap, .int .i64 ((0 : Nat) : Int), .int .i64 ((0 : Nat) : Int)] := by
    have := Bk.new (((w1.setCell ⟨c, 0, none⟩ (.int .i64 0)).setCell ⟨c, 1, none⟩ (.int .i64 0)).setCell ⟨c, 2, none⟩ (.int .i64 0)) 101 [.slice (some ⟨g, 0, none⟩) T.length cap, .int .i64 0, .int .i64 0]
    simpa [World.setCell] using this
  have htq : TokR ((((w1.setCell ⟨c, 0, none⟩ (.int .i64 0)).setCell ⟨c, 1, none⟩ (.int .i64 0)).setCell ⟨c, 2, none⟩ (.int .i64 0)).alloc (.cells #[.slice (some ⟨g, 0, none⟩) T.length cap, .int .i64 0, .int .i64 0] 101)) w1.heap.size (some ⟨g, 0, none⟩) T := by
    intro i t ht
    obtain ⟨g', off, e, h1, h2, h3, h4, h5⟩ := htr i t ht
    injection e with e
    injection e with e1 e2
    subst e1
    have hgc : ¬ g = c := by have := Hcwa.out; omega
    exact ⟨g, off, by rw [e2], h1, hkp.cell h2 hgc, hkp.cell h3 hgc, hkp.cell h4 hgc, hkp.cell h5 hgc⟩
  have hpar : Par ((((w1.setCell ⟨c, 0, none⟩ (.int .i64 0)).setCell ⟨c, 1, none⟩ (.int .i64 0)).setCell ⟨c, 2, none⟩ (.int .i64 0)).alloc (.cells #[.slice (some ⟨g, 0, none⟩) T.length cap, .int .i64 0, .int .i64 0] 101)) w1.heap.size w1.heap.size (some ⟨g, 0, none⟩) cap T 0 0 := ⟨htq, rpq, Nat.le_refl _, HT.out.1, HT.out.2.1, HT.out.2.2⟩
  have hbq : Below b w ((((w1.setCell ⟨c, 0, none⟩ (.int .i64 0)).setCell ⟨c, 1, none⟩ (.int .i64 0)).setCell ⟨c, 2, none⟩ (.int .i64 0)).alloc (.cells #[.slice (some ⟨g, 0, none⟩) T.length cap, .int .i64 0, .int .i64 0] 101)) := by
    have h3 := Hb0.out.trans (hb1.mono Hb0.out.size)
    rw [← HB.out] at h3
    exact (((h3.setCell (p := ⟨c, 0, none⟩) (by have := HB.out; have := HC.out; show b ≤ c; omega) _).setCell (p := ⟨c, 1, none⟩) (by have := HB.out; have := HC.out; show b ≤ c; omega) _).setCell (p := ⟨c, 2, none⟩) (by have := HB.out; have := HC.out; show b ≤ c; omega) _).alloc (by have := h3.size; have := HB.out; simp [World.setCell]; omega) _
  obtain ⟨wq, hwq⟩ : ∃ wq, wq = ((((w1.setCell ⟨c, 0, none⟩ (.int .i64 0)).setCell ⟨c, 1, none⟩ (.int .i64 0)).setCell ⟨c, 2, none⟩ (.int .i64 0)).alloc (.cells #[.slice (some ⟨g, 0, none⟩) T.length cap, .int .i64 0, .int .i64 0] 101)) := ⟨_, rfl⟩
  rw [← hwq] at rbq rcq hpar hbq ⊢
  rw [← hbp] at hpar ⊢
  have hcbp : c < bp := by have := Hcwa.out; omega
  have hbbp : b < bp := by have := HB.out; have := HC.out; omega
  have Hbq := hid hbq
  have Hpar := hid hpar
  clear hwq hbp hkp rpq htq htr hpar hbq hs1 hgge b0 b1 f0 f1 c0 c1 c2 g0 g1 g2 rb1 rc1 hg hb1
  rcases Hcase.out with ⟨st, rs, j, p, rfl, rfl⟩ | ⟨f, rfl, rfl⟩
  · go_wp2_with (go_at_call 51; refine (grammar_calls Hgr.out Hpar.out).mono ?_; rintro e w2 hP; obtain ⟨⟨v, rfl, ga, ca, rfl, hr⟩, hq, hg2⟩ := PEnd.whenOk hP rfl; clear hP; have rb2 := rbq.grown hg2 (by intro e; injection e with e; omega); have rc2 := rcq.grown hg2 (by intro e; injection e with e; omega); have b0 := rb2.cell 0; have b1 := rb2.cell 1; have f0 := rb2.free 0; have f1 := rb2.free 1; have c0 := rc2.cell 0; have c1 := rc2.cell 1; have c2 := rc2.cell 2; have g0 := rc2.free 0; have g1 := rc2.free 1; have g2 := rc2.free 2; simp only [List.getElem?_cons_zero, List.getElem?_cons_succ] at b0 b1 c0 c1 c2)
    refine leaves_cons (f := 50) (args := #[.pointer (some ⟨b, 0, none⟩), .pointer (some ⟨c, 0, none⟩)]) (by simp) (by simp [go_sem]) ?_
    refine (catch_idle ⟨b, 0, none⟩ ⟨c, 0, none⟩ _).mono ?_
    rintro e u' w'' ⟨rfl, rfl, rfl⟩
    refine ⟨_, parse_results _ b c (.string ⟨st.toArray⟩) (.slice ga rs.length ca) (.int .i64 0) (.int .i64 0) (.int .i64 0) _ (by rfl) (by rfl) ?_ ?_, ga, ca, rfl, ?_, ?_⟩
    · exact ((((rb2.set 0 (.string ⟨st.toArray⟩)).set 1 (.slice ga rs.length ca)).far (p := ⟨c, 0, none⟩) hbc _).far (p := ⟨c, 1, none⟩) hbc _).far (p := ⟨c, 2, none⟩) hbc _
    · exact ((((rc2.far (p := ⟨b, 0, none⟩) hcb _).far (p := ⟨b, 1, none⟩) hcb _).set 0 (.int .i64 0)).set 1 (.int .i64 0)).set 2 (.int .i64 0)
    · have hkp2 : Kp (fun k => k = b ∨ k = c) w2 (((((w2.setCell ⟨b, 0, none⟩ (.string ⟨st.toArray⟩)).setCell ⟨b, 1, none⟩ (.slice ga rs.length ca)).setCell ⟨c, 0, none⟩ (.int .i64 0)).setCell ⟨c, 1, none⟩ (.int .i64 0)).setCell ⟨c, 2, none⟩ (.int .i64 0)) :=
        (((((Kp.refl (fun k => k = b ∨ k = c) w2).set (p := ⟨b, 0, none⟩) (.inl (.inl rfl)) _).set (p := ⟨b, 1, none⟩) (.inl (.inl rfl)) _).set (p := ⟨c, 0, none⟩) (.inl (.inr rfl)) _).set (p := ⟨c, 1, none⟩) (.inl (.inr rfl)) _).set (p := ⟨c, 2, none⟩) (.inl (.inr rfl)) _
      have hql := Hpar.out.k.lt
      exact (hr.kp hkp2 (fun k hk e => by have := hk.1; omega)).mono fun k hk => ⟨by have := hk.1; have := HB.out; omega, Nat.lt_of_lt_of_le hk.2 hkp2.size⟩
    · have h4 := Hbq.out.grown hg2 (by have := Hpar.out.k.lt; omega) (fun k hk => by cases hk; omega)
      rw [← HB.out]
      refine Below.setCell ?_ hcw _
      refine Below.setCell ?_ hcw _
      refine Below.setCell ?_ hcw _
      refine Below.setCell ?_ hbw _
      refine Below.setCell ?_ hbw _
      exact h4
  · go_wp2_with (go_at_call 51; refine (grammar_calls Hgr.out Hpar.out).mono ?_; rintro e w2 hP; obtain ⟨rfl, hg2⟩ := PEnd.whenBad hP rfl; clear hP)
    have rb2 := rbq.grown hg2 (by intro e; injection e with e; omega)
    have rc2 := rcq.grown hg2 (by intro e; injection e with e; omega)
    refine leaves_cons (f := 50) (args := #[.pointer (some ⟨b, 0, none⟩), .pointer (some ⟨c, 0, none⟩)]) (by simp) (by simp [go_sem]) ?_
    refine (catch_panicking b c f w2 rb2 rc2 hcb).mono ?_
    rintro e u' w'' ⟨rfl, rfl, hb3, hc3, hk3⟩
    refine ⟨_, parse_results _ b c _ _ _ _ _ _ (by rfl) (by rfl) hb3 hc3, rfl, ?_⟩
    have h4 := Hbq.out.grown hg2 (by have := Hpar.out.k.lt; omega) (fun k hk => by cases hk; omega)
    rw [← HB.out]
    exact h4.trans (hk3.to_below (by have := Hbq.out.size; have := h4.size; have := HB.out; omega) (fun k e => by have := HB.out; have := HC.out; omega))
/-- Parse of any text. -/
theorem parse_calls (s : ByteArray) (w : World) (hs : s.size ≤ 9223372036854775807) : Calls Try.prog 15 #[.string s] w fun e w' => ParsePost w e w' (Syn.parseS s.data.toList) := by
  unfold Syn.parseS
  cases h : Lex.scan s.data.toList with
  | bad f => exact parse_bad s w hs h
  | good T => exact parse_good s w hs h
end Go.Proofs.Ytjaampgpihicmaa
