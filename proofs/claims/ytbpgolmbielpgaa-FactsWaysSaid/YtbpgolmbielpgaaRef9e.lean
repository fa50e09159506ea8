/- Chapter 9, the document's answer: Loops: law and walk. -/
import Derived.Test.YtbpgolmbielpgaaRef9d
namespace Go.Proofs.Ytbpgolmbielpgaa
open Go.RowKit
attribute [local go_sem ↓] Go.wp_at_zero Go.wp_at_succ
attribute [local go_sem] frozen_alloc_lt

namespace Facts
/-- Come to from a by one step or more. -/
inductive WalkN (st : Nat → Nat → Bool) (n a : Nat) : Nat → Prop
  | base (c : Nat) : c < n → st a c = true → WalkN st n a c
  | step (b c : Nat) : WalkN st n a b → c < n → st b c = true → WalkN st n a c
theorem WalkN.lt {st : Nat → Nat → Bool} {n a c : Nat} (h : WalkN st n a c) : c < n := by cases h <;> assumption
def gB (cs : List Bool) (c : Nat) : Bool := cs.getD c false
structure ComR (st : Nat → Nat → Bool) (n a : Nat) (cs : List Bool) : Prop where
  len : cs.length = n
  snd : ∀ c, gB cs c = true → WalkN st n a c
  ini : ∀ c, c < n → st a c = true → gB cs c = true
def fixC (st : Nat → Nat → Bool) (n : Nat) (cs : List Bool) (m : Nat) : Prop := ∀ b, b < m → gB cs b = true → ∀ c, c < n → st b c = true → gB cs c = true
def hereC (st : Nat → Nat → Bool) (cs : List Bool) (b j : Nat) : Prop := gB cs b = true → ∀ c, c < j → st b c = true → gB cs c = true
theorem gB_set {cs : List Bool} {d c : Nat} (hd : d < cs.length) : gB (cs.set d true) c = (c == d || gB cs c) := by
  unfold gB
  by_cases h : c = d
  · subst h
    rw [List.getD, List.getElem?_set_self hd]
    simp
  · rw [List.getD, List.getElem?_set_ne (fun e => h e.symm)]
    simp [List.getD, h]
theorem gB_lt {cs : List Bool} {c : Nat} (h : gB cs c = true) : c < cs.length := by
  rcases Nat.lt_or_ge c cs.length with h1 | h1
  · exact h1
  · unfold gB at h
    rw [List.getD, List.getElem?_eq_none h1] at h
    cases h
theorem gB_get {cs : List Bool} {c : Nat} (h : c < cs.length) : gB cs c = cs[c] := by simp [gB, List.getD, List.getElem?_eq_getElem h]
theorem ComR.put {st : Nat → Nat → Bool} {n a b d : Nat} {cs : List Bool} (h : ComR st n a cs) (hd : d < n) (hb : gB cs b = true) (hs : st b d = true) : ComR st n a (cs.set d true) := by
  have hl : d < cs.length := by rw [h.len]; exact hd
  refine ⟨by rw [List.length_set]; exact h.len, fun c hc => ?_, fun c hc hs => ?_⟩
  · rw [gB_set hl] at hc
    simp only [Bool.or_eq_true, beq_iff_eq] at hc
    rcases hc with rfl | hc
    · exact .step b c (h.snd b hb) hd hs
    · exact h.snd c hc
  · rw [gB_set hl, h.ini c hc hs, Bool.or_true]
theorem ComR.least {st : Nat → Nat → Bool} {n a : Nat} {cs : List Bool} (h : ComR st n a cs) (hf : fixC st n cs n) (c : Nat) : gB cs c = true ↔ WalkN st n a c := by
  refine ⟨h.snd c, fun hw => ?_⟩
  induction hw with
  | base c hc hs => exact h.ini c hc hs
  | step b c hw hc hs ih => exact hf b hw.lt ih c hc hs
theorem ComR.first (st : Nat → Nat → Bool) (n a : Nat) : ComR st n a ((List.range n).map (st a)) := by
  have key : ∀ c, gB ((List.range n).map (st a)) c = (decide (c < n) && st a c) := by
    intro c
    unfold gB
    by_cases h : c < n
    · simp [List.getD, h]
    · simp [List.getD, h]
  refine ⟨by simp, fun c hc => ?_, fun c hc hs => ?_⟩
  · rw [key] at hc
    simp only [Bool.and_eq_true, decide_eq_true_eq] at hc
    exact .base c hc.1 hc.2
  · rw [key, hs]; simp [hc]
theorem hereC.snoc {st : Nat → Nat → Bool} {cs : List Bool} {b j : Nat} (h : hereC st cs b j) (hj : gB cs b = true → st b j = true → gB cs j = true) : hereC st cs b (j + 1) := by
  intro hb c hc hs
  by_cases e : c = j
  · subst e; exact hj hb hs
  · exact h hb c (by omega) hs
theorem fixC.snoc {st : Nat → Nat → Bool} {n : Nat} {cs : List Bool} {b : Nat} (h : fixC st n cs b) (hh : gB cs b = false ∨ hereC st cs b n) : fixC st n cs (b + 1) := by
  intro b' hb' hg c hc hs
  by_cases e : b' = b
  · subst e
    rcases hh with hh | hh
    · rw [hh] at hg; cases hg
    · exact hh hg c hc hs
  · exact h b' (by omega) hg c hc hs
/-- A row whose first i elements are told. -/
def toldB (f : Nat → Bool) (n i : Nat) : List Bool := (List.range i).map f ++ List.replicate (n - i) false
theorem toldB_len (f : Nat → Bool) {n i : Nat} (h : i ≤ n) : (toldB f n i).length = n := by simp [toldB]; omega
theorem toldB_set (f : Nat → Bool) {n i : Nat} (h : i < n) : (toldB f n i).set i (f i) = toldB f n (i + 1) := by
  unfold toldB
  rw [List.set_append_right _ _ (by simp), List.range_succ, List.map_append]
  simp only [List.length_map, List.length_range, Nat.sub_self, List.map_cons, List.map_nil, List.append_assoc]
  rw [show n - i = (n - (i + 1)) + 1 by omega, List.replicate_succ]
  rfl
theorem toldB_all (f : Nat → Bool) (n : Nat) : toldB f n n = (List.range n).map f := by simp [toldB]
theorem toldB_none (f : Nat → Bool) (n : Nat) : toldB f n 0 = List.replicate n false := by simp [toldB]
end Facts

theorem setCell_size (w : World) (p : Addr) (u : Value) : (w.setCell p u).heap.size = w.heap.size := by simp [World.setCell]
def RLo1 (go : Nat) (w0 : World) (st : Nat → Nat → Bool) (n k : Nat) (v6 : Value) (w : World) : Prop :=
  ∃ (i : Nat) (os : List Bool), v6 = .int .i64 i ∧ i ≤ n ∧ os.length = n ∧ Bk w go 4 (os.map Value.bool) ∧ (∀ a, a < i → (Facts.gB os a = true ↔ Facts.WalkN st n a a)) ∧ k = n - i ∧ Below go w0 w
def RLo2 (go gc : Nat) (w0 : World) (f : Nat → Bool) (os : List Bool) (n k : Nat) (v8 : Value) (w : World) : Prop :=
  ∃ i : Nat, v8 = .int .i64 i ∧ i ≤ n ∧ Bk w gc 4 ((Facts.toldB f n i).map Value.bool) ∧ Bk w go 4 (os.map Value.bool) ∧ k = n - i ∧ Below go w0 w
def RLo3 (go gc : Nat) (w0 : World) (st : Nat → Nat → Bool) (os : List Bool) (n a k : Nat) (v9 : Value) (w : World) : Prop :=
  ∃ (cs : List Bool) (more : Bool), v9 = .bool more ∧ Bk w gc 4 (cs.map Value.bool) ∧ Bk w go 4 (os.map Value.bool) ∧ Facts.ComR st n a cs ∧ (more = false → Facts.fixC st n cs n) ∧ k = 2 * cs.count false + (if more then 1 else 0) ∧ Below go w0 w
def RLo4 (go gc : Nat) (w0 : World) (st : Nat → Nat → Bool) (os : List Bool) (n a P k : Nat) (v9 v10 : Value) (w : World) : Prop :=
  ∃ (b : Nat) (cs : List Bool) (more : Bool), v10 = .int .i64 b ∧ v9 = .bool more ∧ b ≤ n ∧ Bk w gc 4 (cs.map Value.bool) ∧ Bk w go 4 (os.map Value.bool) ∧ Facts.ComR st n a cs ∧ (more = false → Facts.fixC st n cs b) ∧
    (if more then cs.count false < P else cs.count false ≤ P) ∧ k = n - b ∧ Below go w0 w
def RLo5 (go gc : Nat) (w0 : World) (st : Nat → Nat → Bool) (os : List Bool) (n a P b k : Nat) (v9 v11 : Value) (w : World) : Prop :=
  ∃ (j : Nat) (cs : List Bool) (more : Bool), v11 = .int .i64 j ∧ v9 = .bool more ∧ j ≤ n ∧ Bk w gc 4 (cs.map Value.bool) ∧ Bk w go 4 (os.map Value.bool) ∧ Facts.ComR st n a cs ∧ (more = false → Facts.fixC st n cs b ∧ Facts.hereC st cs b j) ∧
    (if more then cs.count false < P else cs.count false ≤ P) ∧ k = n - j ∧ Below go w0 w
/-- What the document's Loops tells. -/
def RLopYes (w : World) (G : Gr) (e : Ending) (w' : World) : Prop :=
  ∃ (ga : Option Addr) (cap : Nat) (os nb : List Bool), e = .returned (.slice ga G.names.length cap) ∧ os.length = G.names.length ∧ RowB w' w'.heap.size ga os ∧ (∀ a : Int, 0 ≤ a → (Facts.inB nb a = true ↔ Facts.Gen G.prods false a)) ∧
    (∀ a : Nat, a < G.names.length → (Facts.gB os a = true ↔ Facts.WalkN (fun b c => Facts.stepB nb G.prods b c) G.names.length a a)) ∧ Below w.heap.size w w'

set_option maxHeartbeats 8000000 in
set_option maxRecDepth 100000 in
theorem rloops_calls (w : World) (G : Gr) (gn gt gp : Option Addr) (cn ct cp : Nat) (h : GIn w G gn gt gp) (hs : Pl.soundB G = true) :
    Calls Try.prog 47 #[.agg #[.int .i64 G.start, .int .i64 G.rules, .slice gn G.names.length cn, .slice gt G.terms.length ct, .slice gp G.prods.length cp]] w (RLopYes w G) := by
  obtain ⟨i4, hi4, z0, z1, z2⟩ := info_parts boolInfo
  have Hsg := hid (sndG hs)
  have Hs := hid hs
  have hn1 := Hsg.out.n1
  have hb0 : Below w.heap.size w (w.alloc (.cells #[.int .i64 G.start, .int .i64 G.rules, .slice gn G.names.length cn, .slice gt G.terms.length ct, .slice gp G.prods.length cp] 57)) := (Below.refl _ _).alloc (Nat.le_refl _) _
  have hbk : Bk (w.alloc (.cells #[.int .i64 G.start, .int .i64 G.rules, .slice gn G.names.length cn, .slice gt G.terms.length ct, .slice gp G.prods.length cp] 57)) w.heap.size 57 [.int .i64 G.start, .int .i64 G.rules, .slice gn G.names.length cn, .slice gt G.terms.length ct, .slice gp G.prods.length cp] := Bk.new w _ _
  go_enter Try.func47, Try.ntmps47
  go_upto_region 1 with (fail)
  obtain ⟨wd, hwd⟩ : ∃ wd, wd = (w.alloc (.cells #[.int .i64 G.start, .int .i64 G.rules, .slice gn G.names.length cn, .slice gt G.terms.length ct, .slice gp G.prods.length cp] 57)) := ⟨_, rfl⟩
  obtain ⟨bb, hbb⟩ : ∃ bb, bb = w.heap.size := ⟨_, rfl⟩
  have hzd : wd.heap.size = bb + 1 := by rw [hwd, hbb]; simp
  rw [← hwd] at hb0 hbk ⊢
  rw [← hbb] at hbk ⊢
  have hgd : ∀ W, Below (bb + 1) wd W → GIn W G gn gt gp := fun W hW => h.later (hb0.trans (hW.mono (by rw [hbb]; exact Nat.le_succ _)))
  have hcd : ∀ W, Below (bb + 1) wd W → W.cell? ⟨bb, 0, none⟩ = some (.int .i64 G.start) ∧ W.cell? ⟨bb, 1, none⟩ = some (.int .i64 G.rules) ∧ W.cell? ⟨bb, 2, none⟩ = some (.slice gn G.names.length cn) ∧ W.cell? ⟨bb, 3, none⟩ = some (.slice gt G.terms.length ct) ∧ W.cell? ⟨bb, 4, none⟩ = some (.slice gp G.prods.length cp) := fun W hW => by
    have k := hbk.below hW (by omega)
    exact ⟨k.cell 0, k.cell 1, k.cell 2, k.cell 3, k.cell 4⟩
  have HG := hid hgd
  have HC := hid hcd
  have Hbb := hid hbb
  have Hzd := hid hzd
  have Hb0 := hid hb0
  clear hwd hbb hzd hgd hcd hbk h hs hb0
  obtain ⟨q0, q1, q2, q3, q4⟩ := HC.out wd (Below.refl _ _)
  go_upto_region 2 with (go_at_call 34; refine (rnull_calls _ G gn gt gp cn ct cp (HG.out _ (Below.refl _ _)) Hs.out).mono ?_; rintro e w1 ⟨gnu, capn, nb, rfl, hnl, hnr, hnp, hb1⟩)
  have hB1 : Below (bb + 1) wd w1 := hb1.mono (by rw [Hzd.out]; exact Nat.le_refl _)
  have hz1 : bb + 1 ≤ w1.heap.size := by have := hb1.size; rw [Hzd.out] at this; exact this
  clear q0 q1 q2 q3 q4 hb1
  obtain ⟨q0, q1, q2, q3, q4⟩ := HC.out w1 hB1
  go_upto_region 4 with (at_make; refine wpList_make_bk _ rfl _ _ _ rfl 4 i4 _ Try.underlying61 hi4 z0 z1 rfl _ _ G.names.length rfl rfl rfl rfl (by rw [z2]; omega) (by omega) ?_; intro w2 hbo hk2)
  have hb12 : Below w1.heap.size w1 w2 := hk2.to_below (Nat.le_refl _) (fun k hk => hk.elim)
  obtain ⟨go, hgo⟩ : ∃ go, go = w1.heap.size := ⟨_, rfl⟩
  rw [← hgo] at hbo hb12 hz1 hnr ⊢
  have hbo2 : Bk w2 go 4 ((List.replicate G.names.length false).map Value.bool) := hbo.of (by simp)
  have hB2 : ∀ W, Below go w1 W → Below (bb + 1) wd W := fun W hW => hB1.trans (hW.mono hz1)
  have HB := hid hB2
  have hgl : ∀ W, Below go w1 W → GIn W G gn gt gp := fun W hW => HG.out W (HB.out W hW)
  have hcl : ∀ W, Below go w1 W → W.cell? ⟨bb, 0, none⟩ = some (.int .i64 G.start) ∧ W.cell? ⟨bb, 1, none⟩ = some (.int .i64 G.rules) ∧ W.cell? ⟨bb, 2, none⟩ = some (.slice gn G.names.length cn) ∧ W.cell? ⟨bb, 3, none⟩ = some (.slice gt G.terms.length ct) ∧ W.cell? ⟨bb, 4, none⟩ = some (.slice gp G.prods.length cp) := fun W hW => HC.out W (HB.out W hW)
  have HGL := hid hgl
  have HCL := hid hcl
  obtain ⟨st, hst⟩ : ∃ st, st = (fun b c : Nat => Facts.stepB nb G.prods b c) := ⟨_, rfl⟩
  have hstep : ∀ (W : World), Below go w1 W → ∀ b c : Nat, Calls Try.prog 66 #[.agg #[.int .i64 G.start, .int .i64 G.rules, .slice gn G.names.length cn, .slice gt G.terms.length ct, .slice gp G.prods.length cp], .slice gnu G.names.length capn, .int .i64 b, .int .i64 c] W
      fun e w' => e = .returned (.bool (st b c)) ∧ w' = W.alloc (.cells #[.int .i64 G.start, .int .i64 G.rules, .slice gn G.names.length cn, .slice gt G.terms.length ct, .slice gp G.prods.length cp] 57) := by
    intro W hW b c
    have hz := hW.size
    rw [hst]
    exact rstep_calls W G gn gt gp gnu cn ct cp capn (HGL.out W hW) Hs.out nb ((hnr.below hW).mono (by rw [hgo]; exact hz)) hnl b c
  have Hst := hid hst
  have Hstep := hid hstep
  have Hnl := hid hnl
  have Hnp := hid hnp
  have Hgo := hid hgo
  have hzz := hb12.size
  clear hbo hk2 hB2 hgl hcl hst hstep hnl hnp hgo hnr q0 q1 q2 q3 q4 hB1
  go_wp2_with fail
  go_loopg [6] G.names.length (fun k v6 wr => RLo1 go w1 st G.names.length k v6 wr)
  case atStart => exact ⟨0, _, rfl, by omega, by simp, hbo2, fun a ha => by omega, rfl, hb12⟩
  case round =>
    clear hbo2 hb12
    obtain ⟨a, os, rfl, ha, hol, hko, hos, hk, hb⟩ := hrel
    have Hk := hid hk
    have Hos := hid hos
    have Hol := hid hol
    clear hk hos hol
    have hzr : go + 1 ≤ wr.heap.size := hko.lt
    by_cases hlt : a < G.names.length
    · have hlt' : (a : Int) < (G.names.length : Int) := by omega
      have ha0 : (0 : Int) ≤ (a : Int) := by omega
      go_upto_region 8 with (at_make; refine wpList_make_bk _ rfl _ _ _ rfl 4 i4 _ Try.underlying61 hi4 z0 z1 rfl _ _ G.names.length rfl rfl rfl rfl (by rw [z2]; omega) (by omega) ?_; intro w3 hbc hk3)
      have hko3 := hko.kp hk3 (fun e => e)
      have hb3 : Below go w1 w3 := hb.trans (hk3.to_below (by omega) (fun k hk => hk.elim))
      obtain ⟨gc, hgc⟩ : ∃ gc, gc = wr.heap.size := ⟨_, rfl⟩
      rw [← hgc] at hbc hzr ⊢
      have hbc2 : Bk w3 gc 4 ((Facts.toldB (st a) G.names.length 0).map Value.bool) := hbc.of (by rw [Facts.toldB_none]; simp)
      have hne : ¬ go = gc := by omega
      clear hbc hk3 hgc hko hb
      go_wp2_with fail
      go_loopg [8] G.names.length (fun k v8 wr => RLo2 go gc w1 (st a) os G.names.length k v8 wr)
      case atStart => exact ⟨0, rfl, by omega, hbc2, hko3, rfl, hb3⟩
      case round =>
        clear hbc2 hko3 hb3
        obtain ⟨c, rfl, hc, hkc, hko, hk, hb⟩ := hrel
        have Hkc := hid hk
        clear hk
        by_cases hct : c < G.names.length
        · have hct' : (c : Int) < (G.names.length : Int) := by omega
          have hc0 : (0 : Int) ≤ (c : Int) := by omega
          obtain ⟨q0, q1, q2, q3, q4⟩ := HCL.out wr hb
          have hcl : c < (Facts.toldB (st a) G.names.length c).length := by rw [Facts.toldB_len _ hc]; exact hct
          have cc := (hkc.alloc (.cells #[.int .i64 G.start, .int .i64 G.rules, .slice gn G.names.length cn, .slice gt G.terms.length ct, .slice gp G.prods.length cp] 57)).cell c
          have fc := (hkc.alloc (.cells #[.int .i64 G.start, .int .i64 G.rules, .slice gn G.names.length cn, .slice gt G.terms.length ct, .slice gp G.prods.length cp] 57)).free c
          simp only [List.getElem?_map, List.getElem?_eq_getElem hcl, Option.map_some] at cc
          obtain ⟨oldv, hov⟩ : ∃ v, v = (Facts.toldB (st a) G.names.length c)[c] := ⟨_, rfl⟩
          rw [← hov] at cc
          have hk2 : Bk ((wr.alloc (.cells #[.int .i64 G.start, .int .i64 G.rules, .slice gn G.names.length cn, .slice gt G.terms.length ct, .slice gp G.prods.length cp] 57)).setCell ⟨gc, c, none⟩ (.bool (st a c))) gc 4 ((Facts.toldB (st a) G.names.length (c + 1)).map Value.bool) := ((hkc.alloc _).set c (.bool (st a c))).of (by rw [← Facts.toldB_set _ hct, List.map_set])
          have hko2 : Bk ((wr.alloc (.cells #[.int .i64 G.start, .int .i64 G.rules, .slice gn G.names.length cn, .slice gt G.terms.length ct, .slice gp G.prods.length cp] 57)).setCell ⟨gc, c, none⟩ (.bool (st a c))) go 4 (os.map Value.bool) := (hko.alloc _).far hne (.bool (st a c))
          have hb2 : Below go w1 ((wr.alloc (.cells #[.int .i64 G.start, .int .i64 G.rules, .slice gn G.names.length cn, .slice gt G.terms.length ct, .slice gp G.prods.length cp] 57)).setCell ⟨gc, c, none⟩ (.bool (st a c))) := (hb.alloc (by have := hko.lt; omega) _).setCell (p := ⟨gc, c, none⟩) (by show go ≤ gc; omega) (.bool (st a c))
          have Hk2 := hid hk2
          have Hko2 := hid hko2
          have Hb2 := hid hb2
          clear hov hcl hk2 hko2 hb2
          go_wp2_with (go_at_call 66; refine (Hstep.out wr hb a c).mono ?_; rintro e w5 ⟨rfl, rfl⟩)
          go_roundg (G.names.length - (c + 1))
          case measure => have hk := Hkc.out; omega
          case rel => exact ⟨c + 1, by go_num, by omega, Hk2.out, Hko2.out, rfl, Hb2.out⟩
        · have hge : ¬ (c : Int) < (G.names.length : Int) := by omega
          have hcn : c = G.names.length := by omega
          have hkc2 : Bk wr gc 4 (((List.range G.names.length).map (st a)).map Value.bool) := hkc.of (by rw [hcn, Facts.toldB_all])
          have Hin := hid (Facts.ComR.first st G.names.length a)
          clear hkc hcn Hkc
          go_wp2_with fail
          clear hge hct
          go_loopg [9] (2 * ((List.range G.names.length).map (st a)).count false + 1) (fun k v9 wr => RLo3 go gc w1 st os G.names.length a k v9 wr)
          case atStart => exact ⟨_, true, rfl, hkc2, hko, Hin.out, (fun h => by cases h), rfl, hb⟩
          case round =>
            clear hkc2 hko hb Hin
            obtain ⟨cs, more, rfl, hkc, hko, hcom, hfix, hk, hb⟩ := hrel
            have Hk3 := hid hk
            have Hcom := hid hcom
            have Hfix : Hid (more = false → Facts.fixC st G.names.length cs G.names.length) := hid hfix
            clear hk hcom hfix
            rcases Bool.eq_false_or_eq_true more with hmr | hmr
            rotate_left
            · have hfx := Hid.out Hfix hmr
              have Hfx := hid hfx
              subst hmr
              clear Hfix hfx
              have hal : a < cs.length := by rw [Hcom.out.len]; exact hlt
              have haol : a < os.length := by rw [Hol.out]; exact hlt
              have ca := hkc.cell a
              have co := hko.cell a
              have fo := hko.free a
              simp only [List.getElem?_map, List.getElem?_eq_getElem hal, List.getElem?_eq_getElem haol, Option.map_some] at ca co
              have hva : Facts.gB cs a = cs[a] := Facts.gB_get hal
              obtain ⟨va, hv⟩ : ∃ va, va = cs[a] := ⟨_, rfl⟩
              obtain ⟨vo, hvo⟩ : ∃ vo, vo = os[a] := ⟨_, rfl⟩
              rw [← hv] at ca hva
              rw [← hvo] at co
              have hko2 : Bk (wr.setCell ⟨go, a, none⟩ (.bool va)) go 4 ((os.set a va).map Value.bool) := (hko.set a (.bool va)).of (by rw [List.map_set])
              have hb2 := hb.setCell (p := ⟨go, a, none⟩) (by exact Nat.le_refl _) (.bool va)
              have hos2 : ∀ a', a' < a + 1 → (Facts.gB (os.set a va) a' = true ↔ Facts.WalkN st G.names.length a' a') := by
                intro a' ha'
                by_cases e : a' = a
                · subst e
                  rw [← Hcom.out.least Hfx.out a', hva]
                  unfold Facts.gB
                  rw [List.getD, List.getElem?_set_self haol]
                  rfl
                · have h1 := Hos.out a' (by omega)
                  rw [← h1]
                  unfold Facts.gB
                  rw [List.getD, List.getElem?_set_ne (fun h => e h.symm)]
                  rfl
              have Hos2 := hid hos2
              clear hv hvo hva hal haol hos2
              go_wp2_with fail
              go_roundg (G.names.length - (a + 1))
              case measure => have hk := Hk.out; omega
              case rel => exact ⟨a + 1, _, by go_num, by omega, by rw [List.length_set]; exact Hol.out, hko2, Hos2.out, rfl, hb2⟩
            · subst hmr
              clear Hfix
              go_wp2_with fail
              go_loopg [9, 10] G.names.length (fun k v9 v10 wr => RLo4 go gc w1 st os G.names.length a (cs.count false) k v9 v10 wr)
              case atStart => exact ⟨0, cs, false, rfl, rfl, by omega, hkc, hko, Hcom.out, fun _ b hb => by omega, by simp, rfl, hb⟩
              case round =>
                clear hkc hko hb
                obtain ⟨b, cs2, more, rfl, rfl, hbn, hkc, hko, hcom, hfix, hpot, hk, hb⟩ := hrel
                have Hk4 := hid hk
                have Hcom2 := hid hcom
                have Hfix2 : Hid (more = false → Facts.fixC st G.names.length cs2 b) := hid hfix
                have Hpot := hid hpot
                clear hk hcom hfix hpot
                by_cases hbt : b < G.names.length
                · have hbt' : (b : Int) < (G.names.length : Int) := by omega
                  have hb0' : (0 : Int) ≤ (b : Int) := by omega
                  go_wp2_with fail
                  go_loopg [9, 11] G.names.length (fun k v9 v11 wr => RLo5 go gc w1 st os G.names.length a (cs.count false) b k v9 v11 wr)
                  case atStart => exact ⟨0, cs2, more, rfl, rfl, by omega, hkc, hko, Hcom2.out, fun hm => ⟨Hid.out Hfix2 hm, fun _ c hc => by omega⟩, Hpot.out, rfl, hb⟩
                  case round =>
                    clear hkc hko hb Hcom2 Hfix2 Hpot
                    obtain ⟨d, cs2, more, rfl, rfl, hdn, hkc, hko, hcom, hfix, hpot, hk, hb⟩ := hrel
                    have Hk5 := hid hk
                    have Hcom2 := hid hcom
                    have Hfix2 : Hid (more = false → Facts.fixC st G.names.length cs2 b ∧ Facts.hereC st cs2 b d) := hid hfix
                    have Hpot := hid hpot
                    clear hk hcom hfix hpot
                    have hbl : b < cs2.length := by rw [Hcom2.out.len]; exact hbt
                    have cb := hkc.cell b
                    simp only [List.getElem?_map, List.getElem?_eq_getElem hbl, Option.map_some] at cb
                    have hvb : Facts.gB cs2 b = cs2[b] := Facts.gB_get hbl
                    obtain ⟨vb, hv⟩ : ∃ vb, vb = cs2[b] := ⟨_, rfl⟩
                    rw [← hv] at cb hvb
                    have Hvb := hid hvb
                    clear hv hvb hbl
                    cases vb with
                    | false =>
                      have hnx : more = false → Facts.fixC st G.names.length cs2 (b + 1) := fun hm => (Hid.out Hfix2 hm).1.snoc (.inl Hvb.out)
                      have Hnx : Hid (more = false → Facts.fixC st G.names.length cs2 (b + 1)) := hid hnx
                      clear hnx Hfix2
                      go_wp2_with fail
                      go_roundg (G.names.length - (b + 1))
                      case measure => have hk := Hk4.out; omega
                      case rel => exact ⟨b + 1, cs2, more, by go_num, rfl, by omega, hkc, hko, Hcom2.out, Hid.out Hnx, Hpot.out, rfl, hb⟩
                    | true =>
                      by_cases hdt : d < G.names.length
                      · have hdt' : (d : Int) < (G.names.length : Int) := by omega
                        have hd0 : (0 : Int) ≤ (d : Int) := by omega
                        have hdl : d < cs2.length := by rw [Hcom2.out.len]; exact hdt
                        have cd := hkc.cell d
                        have cd' := (hkc.alloc (.cells #[.int .i64 G.start, .int .i64 G.rules, .slice gn G.names.length cn, .slice gt G.terms.length ct, .slice gp G.prods.length cp] 57)).cell d
                        have fd' := (hkc.alloc (.cells #[.int .i64 G.start, .int .i64 G.rules, .slice gn G.names.length cn, .slice gt G.terms.length ct, .slice gp G.prods.length cp] 57)).free d
                        simp only [List.getElem?_map, List.getElem?_eq_getElem hdl, Option.map_some] at cd cd'
                        have hvd : Facts.gB cs2 d = cs2[d] := Facts.gB_get hdl
                        obtain ⟨vd, hv⟩ : ∃ vd, vd = cs2[d] := ⟨_, rfl⟩
                        have hvs : cs2[d]? = some vd := by rw [hv]; exact List.getElem?_eq_getElem hdl
                        rw [← hv] at cd cd' hvd
                        have Hvd := hid hvd
                        have Hvs := hid hvs
                        clear hv hvd hdl hvs
                        cases vd with
                        | true =>
                          go_wp2_with fail
                          go_roundg (G.names.length - (d + 1))
                          case measure => have hk := Hk5.out; omega
                          case rel => exact ⟨d + 1, cs2, more, by go_num, rfl, by omega, hkc, hko, Hcom2.out, fun hm => ⟨(Hid.out Hfix2 hm).1, (Hid.out Hfix2 hm).2.snoc fun _ _ => Hvd.out⟩, Hpot.out, rfl, hb⟩
                        | false =>
                          obtain ⟨q0, q1, q2, q3, q4⟩ := HCL.out wr hb
                          obtain ⟨sv, hsv⟩ : ∃ sv, sv = st b d := ⟨_, rfl⟩
                          have hcall := Hstep.out wr hb b d
                          rw [← hsv] at hcall
                          have Hsv := hid hsv
                          clear hsv
                          cases sv with
                          | false =>
                            have hkc2 := hkc.alloc (.cells #[.int .i64 G.start, .int .i64 G.rules, .slice gn G.names.length cn, .slice gt G.terms.length ct, .slice gp G.prods.length cp] 57)
                            have hko2 := hko.alloc (.cells #[.int .i64 G.start, .int .i64 G.rules, .slice gn G.names.length cn, .slice gt G.terms.length ct, .slice gp G.prods.length cp] 57)
                            have hb2 := hb.alloc (by have := hko.lt; omega) (.cells #[.int .i64 G.start, .int .i64 G.rules, .slice gn G.names.length cn, .slice gt G.terms.length ct, .slice gp G.prods.length cp] 57)
                            go_wp2_with (go_at_call 66; refine hcall.mono ?_; rintro e w5 ⟨rfl, rfl⟩)
                            go_roundg (G.names.length - (d + 1))
                            case measure => have hk := Hk5.out; omega
                            case rel => exact ⟨d + 1, cs2, more, by go_num, rfl, by omega, hkc2, hko2, Hcom2.out, fun hm => ⟨(Hid.out Hfix2 hm).1, (Hid.out Hfix2 hm).2.snoc fun _ h => by rw [← Hsv.out] at h; cases h⟩, Hpot.out, rfl, hb2⟩
                          | true =>
                            have hkc2 : Bk ((wr.alloc (.cells #[.int .i64 G.start, .int .i64 G.rules, .slice gn G.names.length cn, .slice gt G.terms.length ct, .slice gp G.prods.length cp] 57)).setCell ⟨gc, d, none⟩ (.bool true)) gc 4 ((cs2.set d true).map Value.bool) := ((hkc.alloc _).set d (.bool true)).of (by rw [List.map_set])
                            have hko2 : Bk ((wr.alloc (.cells #[.int .i64 G.start, .int .i64 G.rules, .slice gn G.names.length cn, .slice gt G.terms.length ct, .slice gp G.prods.length cp] 57)).setCell ⟨gc, d, none⟩ (.bool true)) go 4 (os.map Value.bool) := (hko.alloc _).far hne (.bool true)
                            have hb2 : Below go w1 ((wr.alloc (.cells #[.int .i64 G.start, .int .i64 G.rules, .slice gn G.names.length cn, .slice gt G.terms.length ct, .slice gp G.prods.length cp] 57)).setCell ⟨gc, d, none⟩ (.bool true)) := (hb.alloc (by have := hko.lt; omega) _).setCell (p := ⟨gc, d, none⟩) (by show go ≤ gc; omega) (.bool true)
                            have hput := Hcom2.out.put hdt Hvb.out Hsv.out.symm
                            have hcnt := Facts.count_set_true cs2 d Hvs.out
                            have Hkc2 := hid hkc2
                            have Hko2 := hid hko2
                            have Hb2 := hid hb2
                            have Hput := hid hput
                            have Hcnt := hid hcnt
                            clear hkc2 hko2 hb2 hput hcnt
                            go_wp2_with (go_at_call 66; refine hcall.mono ?_; rintro e w5 ⟨rfl, rfl⟩)
                            go_roundg (G.names.length - (d + 1))
                            case measure => have hk := Hk5.out; omega
                            case rel => exact ⟨d + 1, _, true, by go_num, rfl, by omega, Hkc2.out, Hko2.out, Hput.out, (fun h => by cases h), by have h1 := Hcnt.out; have h2 := Hpot.out; simp; cases more <;> simp at h2 <;> omega, rfl, Hb2.out⟩
                      · have hge : ¬ (d : Int) < (G.names.length : Int) := by omega
                        have hdd : d = G.names.length := by omega
                        have hnx : more = false → Facts.fixC st G.names.length cs2 (b + 1) := fun hm => (Hid.out Hfix2 hm).1.snoc (.inr (hdd ▸ (Hid.out Hfix2 hm).2))
                        have Hnx : Hid (more = false → Facts.fixC st G.names.length cs2 (b + 1)) := hid hnx
                        clear hnx Hfix2 hdd
                        go_wp2_with fail
                        go_roundg (G.names.length - (b + 1))
                        case measure => have hk := Hk4.out; omega
                        case rel => exact ⟨b + 1, cs2, more, by go_num, rfl, by omega, hkc, hko, Hcom2.out, Hid.out Hnx, Hpot.out, rfl, hb⟩
                · have hge : ¬ (b : Int) < (G.names.length : Int) := by omega
                  have hbb2 : b = G.names.length := by omega
                  have Hbb2 := hid hbb2
                  clear hbb2
                  go_wp2_with fail
                  go_roundg (2 * cs2.count false + (if more then 1 else 0))
                  case measure => have hk := Hk3.out; have hp := Hpot.out; cases more <;> simp at hp hk ⊢ <;> omega
                  case rel => exact ⟨cs2, more, rfl, hkc, hko, Hcom2.out, (fun hm => by have h := Hid.out Hfix2 hm; rwa [Hbb2.out] at h), rfl, hb⟩
    · have hge : ¬ (a : Int) < (G.names.length : Int) := by omega
      have haa : a = G.names.length := by omega
      have Haa := hid haa
      clear haa
      go_wp2_with fail
      go_ret
      exact ⟨some ⟨go, 0, none⟩, G.names.length, os, nb, rfl, Hol.out, bk_rowB hko, Hnp.out, fun a' ha' => by rw [← Hst.out]; exact Hos.out a' (by rw [Haa.out]; exact ha'), Hb0.out.trans ((HB.out wr hb).mono (by rw [Hbb.out]; exact Nat.le_succ _))⟩
end Go.Proofs.Ytbpgolmbielpgaa
