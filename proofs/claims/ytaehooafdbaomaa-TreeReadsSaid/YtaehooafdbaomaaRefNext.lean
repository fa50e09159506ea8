/- Chapter 14 (tree), the document's side: Next, the tree of what is left of bytes. -/
import Derived.Test.YtaehooafdbaomaaRefThere
import Derived.Test.YtaehooafdbaomaaRefOct
import Derived.Test.YtaehooafdbaomaaTold
namespace Go.Proofs.Ytaehooafdbaomaa
open Go.RowKit
attribute [local go_sem ↓] Go.wp_at_zero Go.wp_at_succ
attribute [local go_sem] frozen_alloc_lt

namespace Tr
theorem readK_code {g : Option Int → List UInt8 → Nat → RR (Int × Fo)} {f : Nat} (hg : ∀ m l c e, c ≤ 65536 → l.length < f → g m l c = .bad e → e ≠ 0) (hl : ∀ m l c a l' c', c ≤ 65536 → g m l c = .ok a l' c' → l'.length ≤ l.length ∧ c' ≤ 65536) : ∀ (xs : List Int) (l : List UInt8) (c e : Nat), c ≤ 65536 → l.length < f → readK g xs l c = .bad e → e ≠ 0
  | [], l, c, e, hc, hf, h => by cases h
  | s :: r, l, c, e, hc, hf, h => by
    rw [readK] at h
    cases h1 : g (some s) l c with
    | bad e1 => rw [h1] at h; cases h; exact hg _ _ _ _ hc hf h1
    | ok a l1 c1 =>
      rw [h1] at h
      simp only [] at h
      obtain ⟨h2, h3⟩ := hl _ _ _ _ _ _ hc h1
      cases h4 : readK g r l1 c1 with
      | bad e2 => rw [h4] at h; cases h; exact readK_code hg hl r l1 c1 _ h3 (by omega) h4
      | ok fo l2 c2 => rw [h4] at h; cases h
theorem readT_code (G : Gr) : ∀ (f : Nat) (m : Option Int) (l : List UInt8) (c e : Nat), c ≤ 65536 → l.length < f → readT G f m l c = .bad e → e ≠ 0
  | 0, _, _, _, _, _, hf, _ => by omega
  | f + 1, m, l, c, e, hc, hf, h => by
    rw [readT] at h
    cases hg : Oct.getS l with
    | bad e1 => rw [hg] at h; cases h; exact Oct.getS_code hg
    | ok n k =>
      rw [hg] at h
      simp only [] at h
      obtain ⟨_, _, hk0, hkl, _⟩ := Oct.put_getS hg
      split at h
      · cases h; decide
      · split at h
        · cases h; decide
        · split at h
          · cases h; decide
          · cases hr : readK (readT G f) (rightS G n) (l.drop k) (c + 1) with
            | bad e1 =>
              rw [hr] at h
              cases h
              exact readK_code (f := f) (fun m l c e hc' hl h => readT_code G f m l c e hc' hl h) (fun m l c a l' c' hc h => ⟨Nat.le_of_lt (readT_le G f m l c a l' c' hc h).1, (readT_le G f m l c a l' c' hc h).2⟩) _ _ _ _ (by omega) (by rw [List.length_drop]; omega) hr
            | ok fo l1 c1 => rw [hr] at h; cases h
end Tr
def stC (S : ByteArray) (a n e : Nat) : List Value := [.string S, .int .i64 a, .int .i64 n, .int .i64 e]
/-- What the state says, behind. -/
def NxR (S : ByteArray) : RR (Int × Fo) → Int × Fo → Nat → Nat → Nat → Prop
  | .bad e0, _, _, _, e' => e' = e0
  | .ok a l c, a', at', n', e' => e' = 0 ∧ a' = a ∧ at' ≤ S.size ∧ l = S.data.toList.drop at' ∧ n' = c
def NxPost (bs : Nat) (S : ByteArray) (w : World) (R : RR (Int × Fo)) (e : Ending) (w' : World) : Prop :=
  Kp (fun k => k = bs) w w' ∧ ∃ (a : Int × Fo) (gk : Option Addr) (ck at' n' e' : Nat), e = .returned (.agg #[.int .i64 a.1, .slice gk a.2.len ck]) ∧ FoAt w' (fun k => w.heap.size ≤ k ∧ k < w'.heap.size) gk a.2 0 ∧ Bk w' bs 117 (stC S at' n' e') ∧ NxR S R a at' n' e'
section
variable {G : Gr} {gn gt gp : Option Addr} {cn ct cp : Nat}
set_option maxRecDepth 8000 in
set_option maxHeartbeats 4000000 in
/-- Behind an error nothing is read. -/
theorem next_err (w : World) (bs : Nat) (S : ByteArray) (a n E : Nat) (sy : Int) (must : Bool) (hE : E ≠ 0) (hk : Bk w bs 117 (stC S a n E)) :
    Calls Try.prog 68 #[.agg #[.int .i64 G.start, .int .i64 G.rules, .slice gn G.names.length cn, .slice gt G.terms.length ct, .slice gp G.prods.length cp], .pointer (some ⟨bs, 0, none⟩), .int .i64 sy, .bool must] w fun e w' => e = .returned (.agg #[.int .i64 0, .slice none 0 0]) ∧ Below w.heap.size w w' := by
  have hb0 : Below w.heap.size w ((w.alloc (.cells #[.int .i64 G.start, .int .i64 G.rules, .slice gn G.names.length cn, .slice gt G.terms.length ct, .slice gp G.prods.length cp] 33)).alloc (.cells #[.int .i64 0, .slice none 0 0] 50)) := bel_al (bel_al (bel_id w) _) _
  have hk8 := bk_at (Bk.new (w.alloc (.cells #[.int .i64 G.start, .int .i64 G.rules, .slice gn G.names.length cn, .slice gt G.terms.length ct, .slice gp G.prods.length cp] 33)) 50 [.int .i64 0, .slice none 0 0]) (show _ = w.heap.size + 1 by simp)
  have hks := hk.below hb0 hk.lt
  obtain ⟨wa, hwa⟩ : ∃ wa, wa = ((w.alloc (.cells #[.int .i64 G.start, .int .i64 G.rules, .slice gn G.names.length cn, .slice gt G.terms.length ct, .slice gp G.prods.length cp] 33)).alloc (.cells #[.int .i64 0, .slice none 0 0] 50)) := ⟨_, rfl⟩
  obtain ⟨b8, hb8⟩ : ∃ b8, b8 = w.heap.size + 1 := ⟨_, rfl⟩
  rw [← hwa] at hb0 hk8 hks
  rw [← hb8] at hk8
  have z3 := hks.cell 3
  have x0 := hk8.cell 0
  have x1 := hk8.cell 1
  have f0 := hk8.free 0
  have f1 := hk8.free 1
  have hl := hk8.lt
  simp only [stC, List.getElem?_cons_zero, List.getElem?_cons_succ] at z3 x0 x1
  have hEb : ((E : Int) != 0) = true := by simp; omega
  have hEb2 : ¬ (E : Int) = 0 := by omega
  have Hwa := hid (And.intro hwa hb8)
  have Hb0 := hid hb0
  have Hk8 := hid hk8
  have Hn := hid (show w.heap.size ≤ b8 by omega)
  clear hwa hb8 hb0 hk8 hks hk hE
  go_enter Try.func68, Try.ntmps68
  go_upto_region 1 with fail
  rw [← Hwa.out.1, ← Hwa.out.2]
  go_wp2_with fail
  have h1 := (Hk8.out.set 0 (.int .i64 0)).set 1 (.slice none 0 0)
  simp only [List.set_cons_zero, List.set_cons_succ] at h1
  have r0 := h1.cell 0
  have r1 := h1.cell 1
  simp only [List.getElem?_cons_zero, List.getElem?_cons_succ] at r0 r1
  refine bodyPost_ret (v := .agg #[.int .i64 0, .slice none 0 0]) (by simp [results, Try.results68, go_sem, r0, r1]) rfl ⟨rfl, ?_⟩
  exact (Hb0.out.setCell Hn.out _).setCell Hn.out _
def NextSays (G : Gr) (gn gt gp : Option Addr) (cn ct cp : Nat) (f : Nat) : Prop := ∀ (sy : Int) (must : Bool) (S : ByteArray) (a n bs : Nat) (w wg : World), S.size - a < f → S.size ≤ 1000000000 → a ≤ S.size → n ≤ 65536 → ChIn wg G gn gt gp → wg.heap.size ≤ bs → Below wg.heap.size wg w → Bk w bs 117 (stC S a n 0) →
  Calls Try.prog 68 #[.agg #[.int .i64 G.start, .int .i64 G.rules, .slice gn G.names.length cn, .slice gt G.terms.length ct, .slice gp G.prods.length cp], .pointer (some ⟨bs, 0, none⟩), .int .i64 sy, .bool must] w (NxPost bs S w (Tr.readT G f (if must = true then some sy else none) (S.data.toList.drop a) n))
/-- An error is written. -/
theorem nx_end {w W : World} {bs b8 : Nat} {S : ByteArray} {a n : Nat} {x y : Value} (hk : Kp (fun k => k = bs) w W) (h8 : Bk W b8 50 [x, y]) (hs : Bk W bs 117 (stC S a n 0)) (hw : w.heap.size ≤ b8) (hbs : bs < w.heap.size) (e : Nat) {ev : Int} (hev : (e : Int) = ev) :
    Bk (((W.setCell ⟨bs, 3, none⟩ (.int .i64 ev)).setCell ⟨b8, 0, none⟩ (.int .i64 0)).setCell ⟨b8, 1, none⟩ (.slice none 0 0)) b8 50 [.int .i64 0, .slice none 0 0] ∧
    NxPost bs S w (.bad e) (.returned (.agg #[.int .i64 0, .slice none 0 0])) (((W.setCell ⟨bs, 3, none⟩ (.int .i64 ev)).setCell ⟨b8, 0, none⟩ (.int .i64 0)).setCell ⟨b8, 1, none⟩ (.slice none 0 0)) := by
  subst hev
  have hne : b8 ≠ bs := by omega
  have h1 := (((h8.far (p := ⟨bs, 3, none⟩) hne (.int .i64 e)).set 0 (.int .i64 0)).set 1 (.slice none 0 0))
  simp only [List.set_cons_zero, List.set_cons_succ] at h1
  have h2 := ((hs.set 3 (.int .i64 e)).far (p := ⟨b8, 0, none⟩) (by show bs ≠ b8; omega) (.int .i64 0)).far (p := ⟨b8, 1, none⟩) (by show bs ≠ b8; omega) (.slice none 0 0)
  simp only [stC, List.set_cons_zero, List.set_cons_succ] at h2
  refine ⟨h1, ?_, (0, .nil), none, 0, a, n, e, rfl, trivial, h2, rfl⟩
  exact Kp.set (p := ⟨b8, 1, none⟩) (Kp.set (p := ⟨b8, 0, none⟩) (Kp.set (p := ⟨bs, 3, none⟩) hk (.inl rfl) _) (.inr hw) _) (.inr hw) _
/-- The state, the grammar's box, the tree that is built. -/
structure NxSt (G : Gr) (gn gt gp : Option Addr) (cn ct cp : Nat) (w0 : World) (bs bt b8 b4 : Nat) (S : ByteArray) (p : Int) (a c E : Nat) (v : Value) (ls : List (Int × Fo)) (w : World) : Prop where
  st : Bk w bs 117 (stC S a c E)
  gb : Bk w b4 33 [.int .i64 G.start, .int .i64 G.rules, .slice gn G.names.length cn, .slice gt G.terms.length ct, .slice gp G.prods.length cp]
  ks : KSt 50 bt b8 p v ls w
  kp : Kp (fun k => k = bs) w0 w
  bb : bs < w0.heap.size ∧ w0.heap.size ≤ b4 ∧ b4 < b8
def NxC (G : Gr) (f : Nat) (p : Int) (xs : List Int) (R : RR (Int × Fo)) (S : ByteArray) (i a c E : Nat) (ls : List (Int × Fo)) : Prop :=
  (E = 0 ∧ Tr.contK p ls (Tr.readK (Tr.readT G f) (xs.drop i) (S.data.toList.drop a) c) = R ∧ a ≤ S.size ∧ c ≤ 65536 ∧ S.size - a < f) ∨ (E ≠ 0 ∧ R = .bad E)
def NxRel (G : Gr) (gn gt gp : Option Addr) (cn ct cp : Nat) (w0 : World) (bs bt b8 b4 f : Nat) (S : ByteArray) (p : Int) (xs : List Int) (R : RR (Int × Fo)) (k : Nat) (v14 : Value) (w : World) : Prop :=
  ∃ (i a c E : Nat) (v : Value) (ls : List (Int × Fo)), v14 = .int .i64 i ∧ i ≤ xs.length ∧ k = xs.length - i ∧ NxSt G gn gt gp cn ct cp w0 bs bt b8 b4 S p a c E v ls w ∧ NxC G f p xs R S i a c E ls ∧ ls.length = i
theorem nx_start {w0 wc : World} {bs b8 b4 : Nat} {S : ByteArray} {a n k : Nat} (hk : Kp (fun k => k = bs) w0 wc) (h8 : Bk wc b8 50 [.int .i64 0, .slice none 0 0]) (h4 : Bk wc b4 33 [.int .i64 G.start, .int .i64 G.rules, .slice gn G.names.length cn, .slice gt G.terms.length ct, .slice gp G.prods.length cp]) (hs : Bk wc bs 117 (stC S a n 0)) (hbs : bs < w0.heap.size) (h40 : w0.heap.size ≤ b4) (h48 : b4 < b8) (p : Int) :
    NxSt G gn gt gp cn ct cp w0 bs wc.heap.size b8 b4 S p (a + k) (n + 1) 0 (.slice none 0 0) [] (((wc.setCell ⟨bs, 1, none⟩ (.int .i64 ((a : Int) + (k : Int)))).setCell ⟨bs, 2, none⟩ (.int .i64 ((n : Int) + 1))).alloc (.cells #[.int .i64 p, .slice none 0 0] 50)) := by
  have h1 := ((hs.set 1 (.int .i64 ((a : Int) + (k : Int)))).set 2 (.int .i64 ((n : Int) + 1))).alloc (.cells #[.int .i64 p, .slice none 0 0] 50)
  have hne : b8 ≠ bs := by omega
  have hne4 : b4 ≠ bs := by omega
  have h2 := (((h8.far (p := ⟨bs, 1, none⟩) hne (.int .i64 ((a : Int) + (k : Int)))).far (p := ⟨bs, 2, none⟩) hne (.int .i64 ((n : Int) + 1)))).alloc (.cells #[.int .i64 p, .slice none 0 0] 50)
  have h5 := (((h4.far (p := ⟨bs, 1, none⟩) hne4 (.int .i64 ((a : Int) + (k : Int)))).far (p := ⟨bs, 2, none⟩) hne4 (.int .i64 ((n : Int) + 1)))).alloc (.cells #[.int .i64 p, .slice none 0 0] 50)
  have hk9 : Kp (fun k => k = bs) wc ((wc.setCell ⟨bs, 1, none⟩ (.int .i64 ((a : Int) + (k : Int)))).setCell ⟨bs, 2, none⟩ (.int .i64 ((n : Int) + 1))) := ((Kp.refl (fun k => k = bs) wc).set (p := ⟨bs, 1, none⟩) (.inl rfl) _).set (p := ⟨bs, 2, none⟩) (.inl rfl) _
  have hs9 : ((wc.setCell ⟨bs, 1, none⟩ (.int .i64 ((a : Int) + (k : Int)))).setCell ⟨bs, 2, none⟩ (.int .i64 ((n : Int) + 1))).heap.size = wc.heap.size := by simp [World.setCell]
  have h3 := Bk.new ((wc.setCell ⟨bs, 1, none⟩ (.int .i64 ((a : Int) + (k : Int)))).setCell ⟨bs, 2, none⟩ (.int .i64 ((n : Int) + 1))) 50 [.int .i64 p, .slice none 0 0]
  rw [hs9] at h3
  refine ⟨by simpa [stC] using h1, h5, ⟨h3, h2, OwnA.nil _ _ _ _ _, h8.lt⟩, (hk.trans hk9).alloc _, hbs, h40, h48⟩
/-- The next kid. -/
theorem nx_call {f : Nat} (ih : NextSays G gn gt gp cn ct cp f) {wg w0 w : World} {bs bt b8 b4 : Nat} {S : ByteArray} {p : Int} {i a c E : Nat} {v : Value} {ls : List (Int × Fo)} {xs : List Int} {R : RR (Int × Fo)} (hst : NxSt G gn gt gp cn ct cp w0 bs bt b8 b4 S p a c E v ls w) (hc : NxC G f p xs R S i a c E ls) (hG : ChIn wg G gn gt gp) (hbs : wg.heap.size ≤ bs) (hbw : Below wg.heap.size wg w0) (hS : S.size ≤ 1000000000) {sx : Int} (hsx : xs.drop i = sx :: xs.drop (i + 1)) (hll : ls.length ≤ 1000000) :
    Calls Try.prog 68 #[.agg #[.int .i64 G.start, .int .i64 G.rules, .slice gn G.names.length cn, .slice gt G.terms.length ct, .slice gp G.prods.length cp], .pointer (some ⟨bs, 0, none⟩), .int .i64 sx, .bool true] w.drew fun e w3 => ∃ (q : Int) (gk : Option Addr) (kl ck : Nat), e = .returned (.agg #[.int .i64 q, .slice gk kl ck]) ∧ w3.cell? ⟨bt, 1, none⟩ = some v ∧ bt < w3.heap.size ∧
      ∃ g2 cap2 w5, (Builtin.append_ #[48, 48] 48 #[v, .slice (some ⟨w3.heap.size, 0, none⟩) 1 1]).run Try.prog ((w3.alloc (.cells #[.int .i64 q, .slice gk kl ck] 50)).drewN 0) = .ok (.slice (some ⟨g2, 0, none⟩) (ls.length + 1) cap2) w5 ∧
      w5.cell? ⟨bt, 1, none⟩ = some v ∧ w5.frozen? ⟨bt, 1, none⟩ = false ∧ bt < w5.heap.size ∧ Hid (∃ (x : Int × Fo) (a' c' E' : Nat), NxSt G gn gt gp cn ct cp w0 bs bt b8 b4 S p a' c' E' (.slice (some ⟨g2, 0, none⟩) (ls.length + 1) cap2) (ls ++ [x]) (w5.setCell ⟨bt, 1, none⟩ (.slice (some ⟨g2, 0, none⟩) (ls.length + 1) cap2)) ∧ NxC G f p xs R S (i + 1) a' c' E' (ls ++ [x])) := by
  obtain ⟨q1, q2, q3⟩ := hst.bb
  have q4 := hst.ks.bb
  have q5 := hst.ks.tb.lt
  have q6 := hst.kp.size
  have hd : Below w.heap.size w w.drew := (Below.refl _ _).drew
  have one : Calls Try.prog 68 #[.agg #[.int .i64 G.start, .int .i64 G.rules, .slice gn G.names.length cn, .slice gt G.terms.length ct, .slice gp G.prods.length cp], .pointer (some ⟨bs, 0, none⟩), .int .i64 sx, .bool true] w.drew fun e w3 => ∃ (x : Int × Fo) (gk : Option Addr) (ck a' c' E' : Nat), e = .returned (.agg #[.int .i64 x.1, .slice gk x.2.len ck]) ∧ FoAt w3 (fun k => w.heap.size ≤ k ∧ k < w3.heap.size) gk x.2 0 ∧ Bk w3 bs 117 (stC S a' c' E') ∧ Kp (fun k => k = bs) w w3 ∧ NxC G f p xs R S (i + 1) a' c' E' (ls ++ [x]) := by
    rcases hc with ⟨rfl, hcont, ha, hcc, hf⟩ | ⟨hE, hRb⟩
    · have hbd : Below wg.heap.size wg w.drew := (hbw.trans (hst.kp.to_below hbw.size (fun k e => by have : k = bs := e; omega))).drew
      refine (ih sx true S a c bs w.drew wg hf hS ha hcc hG hbs hbd (hst.st.below hd hst.st.lt)).mono ?_
      rintro e w3 ⟨hk3, x, gk, ck, a', c', E', rfl, hfo, hbk, hnx⟩
      refine ⟨x, gk, ck, a', c', E', rfl, hfo, hbk, (Kp.refl (fun k => k = bs) w).drew.trans hk3, ?_⟩
      rw [if_pos rfl] at hnx
      rw [hsx, Tr.readK] at hcont
      cases hrd : Tr.readT G f (some sx) (S.data.toList.drop a) c with
      | bad e0 =>
        rw [hrd] at hnx hcont
        have h1 : E' = e0 := hnx
        subst h1
        exact .inr ⟨Tr.readT_code G f _ _ _ _ hcc (by rw [List.length_drop, ← Lib.size_eq]; omega) hrd, hcont.symm⟩
      | ok b l2 c2 =>
        rw [hrd] at hnx hcont
        obtain ⟨h1, h2, h3, h4, h5⟩ := hnx
        subst h1 h2 h5 h4
        obtain ⟨hl2, hc2⟩ := Tr.readT_le G f _ _ _ _ _ _ hcc hrd
        rw [List.length_drop, List.length_drop, ← Lib.size_eq] at hl2
        refine .inl ⟨rfl, ?_, h3, hc2, by omega⟩
        rw [← hcont]
        simp only []
        cases h9 : Tr.readK (Tr.readT G f) (xs.drop (i + 1)) (S.data.toList.drop a') c' with
        | bad e => rfl
        | ok fo l3 c3 =>
          show RR.ok (p, (Fo.ofList (ls ++ [x])).app fo) l3 c3 = RR.ok (p, (Fo.ofList ls).app (Fo.cons x.1 x.2 fo)) l3 c3
          rw [Fo.ofList_snoc]
    · refine (next_err w.drew bs S a c E sx true hE (hst.st.below hd hst.st.lt)).mono ?_
      rintro e w3 ⟨rfl, hb3⟩
      have hb : Below w.heap.size w w3 := hd.trans hb3
      exact ⟨(0, .nil), none, 0, a, c, E, rfl, trivial, hst.st.below hb hst.st.lt, below_kpT hb, .inr ⟨hE, hRb⟩⟩
  refine one.mono ?_
  rintro e w3 ⟨x, gk, ck, a', c', E', rfl, hfo, hbk, hk3, hcc⟩
  have hst3 := hst.ks.kp hk3 (fun k e => by have : k = bs := e; omega)
  have n3 := hst3.tb.cell 1
  simp only [List.getElem?_cons_zero, List.getElem?_cons_succ] at n3
  obtain ⟨g2, cap2, w5, hrun, ⟨m2, mf, ml⟩, hst6, hk6⟩ := hst3.app (TL := 48) Try.underlying48 rtreeInfo (a := x) (ck := ck) (hfo.mono fun y hy => by
    have h1 : w.heap.size ≤ y := hy.1
    exact ⟨by omega, hy.2, fun e => by have h2 := (hst.ks.own.lt y e).2; omega⟩) hll 48 0 (N := w3.heap.size) rfl
  refine ⟨x.1, gk, x.2.len, ck, rfl, n3, hst3.tb.lt, g2, cap2, w5, hrun, m2, mf, ml, ⟨x, a', c', E', ⟨hbk.kp hk6 (fun e => by omega), (hst.gb.kp hk3 (fun e => by omega)).kp hk6 (fun e => by omega), hst6, ?_, q1, q2, q3⟩, hcc⟩⟩
  have h7 := hst.kp.trans hk3
  exact ((h7.mono (S' := fun k => k = bs ∨ w0.heap.size ≤ k) fun k _ e => .inl e).trans (hk6.mono fun k _ e => .inr (by omega))).mono fun k hk e => e.elim id (fun e => by omega)
/-- All kids are read. -/
theorem nx_fin {f : Nat} {w0 w : World} {bs bt b8 b4 : Nat} {S : ByteArray} {p : Int} {i a c E : Nat} {v : Value} {ls : List (Int × Fo)} {xs : List Int} {R : RR (Int × Fo)} (hst : NxSt G gn gt gp cn ct cp w0 bs bt b8 b4 S p a c E v ls w) (hc : NxC G f p xs R S i a c E ls) (hi : xs.length ≤ i) : ∃ ga ca, v = .slice ga ls.length ca ∧ NxPost bs S w0 R (.returned (.agg #[.int .i64 p, .slice ga ls.length ca])) ((w.setCell ⟨b8, 0, none⟩ (.int .i64 p)).setCell ⟨b8, 1, none⟩ (.slice ga ls.length ca)) := by
  obtain ⟨q1, q2, q3⟩ := hst.bb
  have q4 := hst.ks.bb
  obtain ⟨ga, ca, rfl, hrow⟩ := hst.ks.row
  refine ⟨ga, ca, rfl, ?_⟩
  have hks : Kp (fun k => k = b8) w ((w.setCell ⟨b8, 0, none⟩ (.int .i64 p)).setCell ⟨b8, 1, none⟩ (.slice ga ls.length ca)) := ((Kp.refl (fun k => k = b8) w).set (p := ⟨b8, 0, none⟩) (.inl rfl) _).set (p := ⟨b8, 1, none⟩) (.inl rfl) _
  refine ⟨((hst.kp.mono (S' := fun k => k = bs ∨ w0.heap.size ≤ k) fun k _ e => .inl e).trans (hks.mono fun k _ e => .inr (by omega))).mono fun k hk e => e.elim id (fun e => by omega), (p, Fo.ofList ls), ga, ca, a, c, E, by rw [Fo.ofList_len], (FoAt.kp hks (fun k hk e => by have := hk.1; omega) hrow).mono fun k hk => ⟨by have := hk.1; omega, Nat.lt_of_lt_of_le hk.2 hks.size⟩, hst.st.kp hks (fun e => by omega), ?_⟩
  rcases hc with ⟨rfl, hcont, ha, hcc, hf⟩ | ⟨hE, hRb⟩
  · rw [List.drop_of_length_le hi, Tr.readK] at hcont
    have h1 : R = .ok (p, Fo.ofList ls) (S.data.toList.drop a) c := by
      rw [← hcont]
      show RR.ok (p, (Fo.ofList ls).app .nil) _ c = _
      rw [Fo.app_nil']
    rw [h1]
    exact ⟨rfl, rfl, ha, rfl, rfl⟩
  · rw [hRb]
    exact rfl
set_option maxRecDepth 8000 in
set_option maxHeartbeats 8000000 in
theorem next_step (f : Nat) (ih : NextSays G gn gt gp cn ct cp f) : NextSays G gn gt gp cn ct cp (f + 1) := by
  intro sy must S a n bs w wg hf hS haS hn hG hbs hbw hk
  obtain ⟨R, hR⟩ : ∃ R, R = Tr.readT G (f + 1) (if must = true then some sy else none) (S.data.toList.drop a) n := ⟨_, rfl⟩
  rw [← hR]
  rw [Tr.readT] at hR
  have hb0 : Below w.heap.size w ((w.alloc (.cells #[.int .i64 G.start, .int .i64 G.rules, .slice gn G.names.length cn, .slice gt G.terms.length ct, .slice gp G.prods.length cp] 33)).alloc (.cells #[.int .i64 0, .slice none 0 0] 50)) := bel_al (bel_al (bel_id w) _) _
  have hk4 := (Bk.new w 33 [.int .i64 G.start, .int .i64 G.rules, .slice gn G.names.length cn, .slice gt G.terms.length ct, .slice gp G.prods.length cp]).alloc (.cells #[.int .i64 0, .slice none 0 0] 50)
  have hk8 := bk_at (Bk.new (w.alloc (.cells #[.int .i64 G.start, .int .i64 G.rules, .slice gn G.names.length cn, .slice gt G.terms.length ct, .slice gp G.prods.length cp] 33)) 50 [.int .i64 0, .slice none 0 0]) (show _ = w.heap.size + 1 by simp)
  have hks := hk.below hb0 hk.lt
  have hbl := hk.lt
  obtain ⟨wa, hwa⟩ : ∃ wa, wa = ((w.alloc (.cells #[.int .i64 G.start, .int .i64 G.rules, .slice gn G.names.length cn, .slice gt G.terms.length ct, .slice gp G.prods.length cp] 33)).alloc (.cells #[.int .i64 0, .slice none 0 0] 50)) := ⟨_, rfl⟩
  obtain ⟨b4, hb4⟩ : ∃ b4, b4 = w.heap.size := ⟨_, rfl⟩
  obtain ⟨b8, hb8⟩ : ∃ b8, b8 = w.heap.size + 1 := ⟨_, rfl⟩
  rw [← hwa] at hb0 hk4 hk8 hks
  rw [← hb4] at hk4
  rw [← hb8] at hk8
  obtain ⟨l, hl⟩ : ∃ l, l = S.data.toList.drop a := ⟨_, rfl⟩
  rw [← hl] at hR
  obtain ⟨B, hB⟩ : ∃ B : ByteArray, B = S.extract a S.size := ⟨_, rfl⟩
  have hBl : B.data.toList = l := by
    rw [hB, ByteArray.data_extract, Array.toList_extract, hl]
    simp only [List.extract_eq_take_drop]
    exact List.take_of_length_le (by rw [List.length_drop, ← Lib.size_eq]; exact Nat.le_refl _)
  have hBs : B.size = S.size - a := by rw [Lib.size_eq, hBl, hl, List.length_drop, ← Lib.size_eq]
  have hext : S.extract a S.size = B := hB.symm
  have hlb : l.length = S.size - a := by rw [← hBl, ← Lib.size_eq, hBs]
  have hget : ∀ W, Calls Try.prog 111 #[.string B] W fun e w' => e = .returned (Oct.goV (Oct.getS l)) ∧ Below W.heap.size W w' := fun W => by
    have := rget_calls B W (by omega)
    rwa [hBl] at this
  have Hwa := hid (And.intro hwa (And.intro hb4 hb8))
  have Hb0 := hid hb0
  have Hk4 := hid hk4
  have Hk8 := hid hk8
  have Hks := hid hks
  have HG := hid (And.intro hG (And.intro hbs hbw))
  have Hl := hid (And.intro hl (And.intro hlb hBs))
  have Hf := hid hf
  have Hn := hid hn
  have Hbl := hid (And.intro hbl (show w.heap.size ≤ b8 ∧ w.heap.size ≤ b4 by omega))
  have HR := hid hR
  have Ih := hid ih
  have ha0 : (0 : Int) ≤ (a : Int) := by omega
  have ha1 : (a : Int) ≤ (S.size : Int) := by omega
  have hS1 : (S.size : Int) ≤ 1000000000 := by omega
  have HaS := hid (And.intro haS hS)
  have z0 := Hks.out.cell 0
  have z1 := Hks.out.cell 1
  have z2 := Hks.out.cell 2
  have z3 := Hks.out.cell 3
  simp only [stC, List.getElem?_cons_zero, List.getElem?_cons_succ] at z0 z1 z2 z3
  have hbsl := Hks.out.lt
  clear hwa hb4 hb8 hb0 hk4 hk8 hks hG hbs hbw hl hlb hBs hBl hB hf hn hbl hR ih hk haS hS
  go_enter Try.func68, Try.ntmps68
  go_upto_region 1 with fail
  rw [← Hwa.out.1, ← Hwa.out.2.2, ← Hwa.out.2.1]
  go_upto_region 3 with fail
  have y0 : wa.drew.cell? ⟨bs, 0, none⟩ = some (.string S) := z0
  have y1 : wa.drew.cell? ⟨bs, 1, none⟩ = some (.int .i64 a) := z1
  cases hg : Oct.getS l with
  | bad e1 =>
    rw [hg] at hget
    have He := hid (show R = .bad e1 by rw [HR.out, hg])
    have hne := Oct.getS_code hg
    have hget2 : ∀ W, Calls Try.prog 111 #[.string B] W fun e w' => e = .returned (.tuple #[.int .i64 0, .int .i64 0, .int .i64 e1]) ∧ Below W.heap.size W w' := hget
    have Hget := hid hget2
    have hE1 : ((e1 : Int) == 0) = false := by simp; omega
    have hE2 : ((e1 : Int) != 0) = true := by simp; omega
    have hE3 : ¬ (e1 : Int) = 0 := by omega
    clear hg hget hget2 hne z0 z1 z2 z3
    go_region_held3 (fun W : World => W.cell? ⟨bs, 0, none⟩ = some (.string S) ∧ W.cell? ⟨bs, 1, none⟩ = some (.int .i64 a)) (first | exact ⟨y0, y1⟩ | exact ⟨(hb1.cell (p := ⟨bs, _, none⟩) hbsl).trans y0, (hb1.cell (p := ⟨bs, _, none⟩) hbsl).trans y1⟩)
      ((go_at_call 111; refine (Hget.out _).mono ?_; rintro e w1 ⟨rfl, hb1⟩))
    have hb1a : Below wa.heap.size wa w1 := (Below.refl _ _).drew.trans hb1
    have k8 := Hk8.out.below hb1a Hk8.out.lt
    have ks := Hks.out.below hb1a Hks.out.lt
    have u0 := k8.cell 0
    have u1 := k8.cell 1
    have fu0 := k8.free 0
    have fu1 := k8.free 1
    have ul := k8.lt
    have v3 := ks.cell 3
    have fv3 := ks.free 3
    have vl := ks.lt
    simp only [stC, List.getElem?_cons_zero, List.getElem?_cons_succ] at u0 u1 v3
    have hne8 : ¬ b8 = bs := by have := Hbl.out; omega
    have hne8' : ¬ bs = b8 := by have := Hbl.out; omega
    have hend := nx_end (w := w) (e := e1) ((below_kpT (belw Hb0.out hb1a))) k8 ks Hbl.out.2.1 Hbl.out.1 rfl
    have Hend := hid hend
    clear hend k8 ks
    go_wp2_with fail
    have h1 := Hend.out.1
    have r0 := h1.cell 0
    have r1 := h1.cell 1
    simp only [List.getElem?_cons_zero, List.getElem?_cons_succ] at r0 r1
    refine bodyPost_ret (v := .agg #[.int .i64 0, .slice none 0 0]) (by simp [results, Try.results68, go_sem, r0, r1]) rfl ?_
    rw [He.out]
    exact Hend.out.2
  | ok p k =>
    rw [hg] at hget
    obtain ⟨-, hpm, hk0, hkl, hk8'⟩ := Oct.put_getS hg
    have hR2 := HR.out
    rw [hg] at hR2
    simp only [] at hR2
    have hget2 : ∀ W, Calls Try.prog 111 #[.string B] W fun e w' => e = .returned (.tuple #[.int .i64 p, .int .i64 k, .int .i64 0]) ∧ Below W.heap.size W w' := hget
    have Hget := hid hget2
    have HR2 := hid hR2
    have Hkl := hid (And.intro hk0 (And.intro hkl hk8'))
    have hp1 : -9007199254740992 ≤ p := by unfold Oct.most at hpm; omega
    have hp2 : p ≤ 9007199254740992 := by unfold Oct.most at hpm; omega
    clear hg hget hget2 z0 z1 z2 z3 hR2 hpm hk0 hkl hk8'
    go_region_held3 (fun W : World => W.cell? ⟨bs, 0, none⟩ = some (.string S) ∧ W.cell? ⟨bs, 1, none⟩ = some (.int .i64 a)) (first | exact ⟨y0, y1⟩ | exact ⟨(hb1.cell (p := ⟨bs, _, none⟩) hbsl).trans y0, (hb1.cell (p := ⟨bs, _, none⟩) hbsl).trans y1⟩)
      ((go_at_call 111; refine (Hget.out _).mono ?_; rintro e w1 ⟨rfl, hb1⟩))
    have hb1a : Below wa.heap.size wa w1 := (Below.refl _ _).drew.trans hb1
    have hk41 := Hk4.out.below hb1a Hk4.out.lt
    have g0 := hk41.cell 0
    have g1 := hk41.cell 1
    have g2 := hk41.cell 2
    have g3 := hk41.cell 3
    have g4 := hk41.cell 4
    simp only [List.getElem?_cons_zero, List.getElem?_cons_succ] at g0 g1 g2 g3 g4
    have hg1 : ChIn w1 G gn gt gp := (HG.out.1.later (belw HG.out.2.2 (belw Hb0.out hb1a)))
    have hth := rthere_calls w1 G gn gt gp cn ct cp hg1 p (by omega)
    have Hb1a := hid hb1a
    have Hg1 := hid hg1
    have Hk41 := hid hk41
    clear y0 y1 hb1 hk41 hg1 hb1a
    cases hthb : Tr.thereB G p with
    | false =>
      rw [hthb] at hth
      have He := hid (show R = .bad 10 by rw [HR2.out, if_pos hthb])
      clear hthb
      go_upto_region 10 with (go_at_call 72; refine hth.mono ?_; rintro e w2 ⟨rfl, hb2⟩)
      have hb2a : Below wa.heap.size wa w2 := belw Hb1a.out hb2
      have k8 := Hk8.out.below hb2a Hk8.out.lt
      have ks := Hks.out.below hb2a Hks.out.lt
      clear g0 g1 g2 g3 g4 hth hb2
      have u0 := k8.cell 0
      have u1 := k8.cell 1
      have fu0 := k8.free 0
      have fu1 := k8.free 1
      have ul := k8.lt
      have v3 := ks.cell 3
      have fv3 := ks.free 3
      have vl := ks.lt
      simp only [stC, List.getElem?_cons_zero, List.getElem?_cons_succ] at u0 u1 v3
      have hne8 : ¬ b8 = bs := by have := Hbl.out; omega
      have hne8' : ¬ bs = b8 := by have := Hbl.out; omega
      have hend := nx_end (w := w) (e := 10) (ev := 10) ((below_kpT (belw Hb0.out hb2a))) k8 ks Hbl.out.2.1 Hbl.out.1 rfl
      have Hend := hid hend
      clear hend k8 ks
      go_wp2_with fail
      have h1 := Hend.out.1
      have r0 := h1.cell 0
      have r1 := h1.cell 1
      simp only [List.getElem?_cons_zero, List.getElem?_cons_succ] at r0 r1
      refine bodyPost_ret (v := .agg #[.int .i64 0, .slice none 0 0]) (by simp [results, Try.results68, go_sem, r0, r1]) rfl ?_
      rw [He.out]
      exact Hend.out.2
    | true =>
      rw [hthb] at hth
      have HR3 := hid (show R = if Tr.kindOk G (if must = true then some sy else none) p = false then .bad 7 else if n = 65536 then .bad 6 else (match Tr.readK (Tr.readT G f) (Tr.rightS G p) (l.drop k) (n + 1) with
        | .bad e => .bad e
        | .ok f l' c' => .ok (p, f) l' c') by rw [HR2.out, if_neg (by rw [hthb]; simp)]; rfl)
      have hpp : p < (G.prods.length : Int) := by
        have h := hthb
        unfold Tr.thereB at h
        simp at h
        exact h.1
      have hpt : -(G.terms.length : Int) ≤ p := by
        have h := hthb
        unfold Tr.thereB at h
        simp at h
        exact h.2
      have Hpt := hid hpt
      clear hthb hpt
      go_upto_region 6 with (go_at_call 72; refine hth.mono ?_; rintro e w2 ⟨rfl, hb2⟩)
      have hk42 := Hk41.out.below hb2 Hk41.out.lt
      have g0 := hk42.cell 0
      have g1 := hk42.cell 1
      have g2 := hk42.cell 2
      have g3 := hk42.cell 3
      have g4 := hk42.cell 4
      simp only [List.getElem?_cons_zero, List.getElem?_cons_succ] at g0 g1 g2 g3 g4
      have hro := rroot_calls w2 G gn gt gp cn ct cp (Hg1.out.later hb2) p hpp
      have Hb2 := hid hb2
      clear hth hb2 hk42
      obtain ⟨kb, hkb⟩ : ∃ kb, kb = Tr.kindOk G (if must = true then some sy else none) p := ⟨_, rfl⟩
      rw [← hkb] at HR3
      go_cut [54] from 43 to 54 (fun v54 wy => v54 = .bool (!kb) ∧ Below w2.heap.size w2 wy)
      case first =>
        cases must with
        | false =>
          have hkb1 : kb = true := by rw [hkb]; rfl
          subst hkb1
          clear hkb
          go_wp2_with fail
          go_meet
          exact ⟨rfl, Below.refl _ _⟩
        | true =>
          have hkb2 : kb = (Tr.rootS G p == sy) := by rw [hkb]; rfl
          obtain ⟨rt, hrt⟩ : ∃ rt, rt = Tr.rootS G p := ⟨_, rfl⟩
          rw [← hrt] at hkb2 hro
          clear hkb hrt
          by_cases hrs : rt = sy
          · subst hrs
            have hkb3 : kb = true := by rw [hkb2]; simp
            subst hkb3
            have hnn : (rt != rt) = false := by simp
            clear hkb2
            go_wp2_with (go_at_call 73; refine hro.mono ?_; rintro e w3 ⟨rfl, hb3⟩)
            go_meet
            exact ⟨rfl, hb3⟩
          · have hnn : (rt != sy) = true := by simpa using hrs
            have hkb3 : kb = false := by rw [hkb2]; simpa using hrs
            subst hkb3
            clear hkb2
            go_wp2_with (go_at_call 73; refine hro.mono ?_; rintro e w3 ⟨rfl, hb3⟩)
            go_meet
            exact ⟨rfl, hb3⟩
      case rest =>
        obtain ⟨rfl, hbc⟩ := hcut
        have hb3a : Below wa.heap.size wa wc := belw (belw Hb1a.out Hb2.out) hbc
        have k8 := Hk8.out.below hb3a Hk8.out.lt
        have ks := Hks.out.below hb3a Hks.out.lt
        have Hk4c := hid (Hk41.out.below (belw Hb2.out hbc) Hk41.out.lt)
        clear g0 g1 g2 g3 g4 hro hbc hkb
        cases kb with
        | false =>
          have He := hid (show R = .bad 7 by rw [HR3.out, if_pos rfl])
          go_upto_region 10 with fail
          have u0 := k8.cell 0
          have u1 := k8.cell 1
          have fu0 := k8.free 0
          have fu1 := k8.free 1
          have ul := k8.lt
          have v3 := ks.cell 3
          have fv3 := ks.free 3
          have vl := ks.lt
          simp only [stC, List.getElem?_cons_zero, List.getElem?_cons_succ] at u0 u1 v3
          have hne8 : ¬ b8 = bs := by have := Hbl.out; omega
          have hne8' : ¬ bs = b8 := by have := Hbl.out; omega
          have hend := nx_end (w := w) (e := 7) (ev := 7) ((below_kpT (belw Hb0.out hb3a))) k8 ks Hbl.out.2.1 Hbl.out.1 rfl
          have Hend := hid hend
          clear hend k8 ks
          go_wp2_with fail
          have h1 := Hend.out.1
          have r0 := h1.cell 0
          have r1 := h1.cell 1
          simp only [List.getElem?_cons_zero, List.getElem?_cons_succ] at r0 r1
          refine bodyPost_ret (v := .agg #[.int .i64 0, .slice none 0 0]) (by simp [results, Try.results68, go_sem, r0, r1]) rfl ?_
          rw [He.out]
          exact Hend.out.2
        | true =>
          have HR4 := HR3.out
          rw [if_neg (by simp)] at HR4
          have v2 := ks.cell 2
          simp only [stC, List.getElem?_cons_zero, List.getElem?_cons_succ] at v2
          by_cases hnm : n = 65536
          · rw [if_pos hnm] at HR4
            have He := hid HR4
            have hnb : ((n : Int) == 65536) = true := by rw [hnm]; rfl
            clear hnm HR4
            go_upto_region 10 with fail
            have u0 := k8.cell 0
            have u1 := k8.cell 1
            have fu0 := k8.free 0
            have fu1 := k8.free 1
            have ul := k8.lt
            have v3 := ks.cell 3
            have fv3 := ks.free 3
            have vl := ks.lt
            simp only [stC, List.getElem?_cons_zero, List.getElem?_cons_succ] at u0 u1 v3
            have hne8 : ¬ b8 = bs := by have := Hbl.out; omega
            have hne8' : ¬ bs = b8 := by have := Hbl.out; omega
            have hend := nx_end (w := w) (e := 6) (ev := 6) ((below_kpT (belw Hb0.out hb3a))) k8 ks Hbl.out.2.1 Hbl.out.1 rfl
            have Hend := hid hend
            clear hend k8 ks
            go_wp2_with fail
            have h1 := Hend.out.1
            have r0 := h1.cell 0
            have r1 := h1.cell 1
            simp only [List.getElem?_cons_zero, List.getElem?_cons_succ] at r0 r1
            refine bodyPost_ret (v := .agg #[.int .i64 0, .slice none 0 0]) (by simp [results, Try.results68, go_sem, r0, r1]) rfl ?_
            rw [He.out]
            exact Hend.out.2
          · rw [if_neg hnm] at HR4
            have HR5 := hid HR4
            have hnb : ((n : Int) == 65536) = false := by simp; omega
            have hn1 : (n : Int) ≤ 65535 := by have := Hn.out; omega
            have hn0 : (0 : Int) ≤ (n : Int) := by omega
            clear hnm HR4 v2
            have z1 := ks.cell 1
            have v2 := ks.cell 2
            have fz1 := ks.free 1
            have fz2 := ks.free 2
            have zl := ks.lt
            simp only [stC, List.getElem?_cons_zero, List.getElem?_cons_succ] at z1 v2
            have hst0 := nx_start (k := k) (below_kpT (belw Hb0.out hb3a)) k8 Hk4c.out ks Hbl.out.1 Hbl.out.2.2 (show b4 < b8 by have := Hwa.out.2; omega) p
            have hc0 : NxC G f p (Tr.rightS G p) R S 0 (a + k) (n + 1) 0 [] := by
              have h1 := Hl.out.1
              have h2 := Hl.out.2.1
              have h3 := Hkl.out.1
              have h4 := Hkl.out.2.1
              have h5 := HaS.out.1
              have h6 := Hf.out
              have h7 := Hn.out
              refine .inl ⟨rfl, ?_, by omega, by omega, by omega⟩
              rw [HR5.out, List.drop_zero, h1, List.drop_drop]
              unfold Tr.contK
              rfl
            have hakS : (a : Int) + (k : Int) ≤ 1000000000 := by
              have h2 := Hl.out.2.1
              have h4 := Hkl.out.2.1
              omega
            obtain ⟨w5, hw5⟩ : ∃ w5, w5 = (((wc.setCell ⟨bs, 1, none⟩ (.int .i64 ((a : Int) + (k : Int)))).setCell ⟨bs, 2, none⟩ (.int .i64 ((n : Int) + 1))).alloc (.cells #[.int .i64 p, .slice none 0 0] 50)) := ⟨_, rfl⟩
            obtain ⟨bt, hbt⟩ : ∃ bt, bt = wc.heap.size := ⟨_, rfl⟩
            rw [← hw5, ← hbt] at hst0
            have hk0' : (0 : Int) ≤ (k : Int) := by omega
            have Hst0 := hid hst0
            have Hc0 := hid hc0
            have HW5 := hid hw5
            have Hbt := hid hbt
            clear ks k8 hb3a hst0 hc0 hw5 hbt
            go_upto_region 16 with fail
            rw [← HW5.out, ← Hbt.out]
            clear z1 v2 fz1 fz2 zl
            by_cases hp0 : p < 0
            · have hge : ¬ (0 : Int) ≤ p := by omega
              have hrs : Tr.rightS G p = [] := by unfold Tr.rightS; rw [if_pos hp0]
              have hc1 := Hc0.out
              rw [hrs] at hc1
              obtain ⟨ga, ca, hv, hfin⟩ := nx_fin Hst0.out hc1 (Nat.le_refl _)
              cases hv
              have u0 := Hst0.out.ks.tb.cell 0
              have u1 := Hst0.out.ks.tb.cell 1
              have r0 := Hst0.out.ks.res.cell 0
              have r1 := Hst0.out.ks.res.cell 1
              have fr0 := Hst0.out.ks.res.free 0
              have fr1 := Hst0.out.ks.res.free 1
              have hlr := Hst0.out.ks.res.lt
              simp only [List.getElem?_cons_zero, List.getElem?_cons_succ] at u0 u1 r0 r1
              have Hfin := hid hfin
              clear hfin hc1 hrs
              go_wp2_with fail
              exact bodyPost_ret (v := .agg #[.int .i64 p, .slice none 0 0]) (by simp [results, Try.results68, go_sem, r0, r1]) rfl Hfin.out
            · obtain ⟨q, rfl⟩ := Int.eq_ofNat_of_zero_le (show 0 ≤ p by omega)
              have hq : q < G.prods.length := by omega
              have hx : G.prods[q]? = some G.prods[q] := List.getElem?_eq_getElem hq
              obtain ⟨xs, hxs⟩ : ∃ xs, xs = Tr.rightS G (q : Int) := ⟨_, rfl⟩
              have e : xs = G.prods[q].2 := by rw [hxs]; unfold Tr.rightS; rw [if_neg hp0, Int.toNat_natCast, List.getD, hx]; rfl
              have hx16 : xs.length ≤ 1000000 := by
                rw [hxs]
                exact HG.out.1.right_le q
              have hwg5 : Below wg.heap.size wg w5 := HG.out.2.2.trans (Hst0.out.kp.to_below HG.out.2.2.size (fun k e => by have : k = bs := e; have := HG.out.2.1; omega))
              obtain ⟨g, off, gr, cr, hgp, hg, e0, e1, hr⟩ := HG.out.1.g.p q _ hx
              rw [← e] at e1 hr
              subst hgp
              have e1' := (hwg5.cell (p := ⟨g, _, none⟩) hg).trans e1
              have t4 := Hst0.out.gb.cell 4
              simp only [List.getElem?_cons_zero, List.getElem?_cons_succ] at t4
              have hc1 := Hc0.out
              rw [← hxs] at hc1
              have Hc1 := hid hc1
              have Hr := hid hr
              have Hx := hid hx16
              have h3 := HG.out.1.h3
              have hql : (q : Int) < (G.prods.length : Int) := by omega
              have hq0 : (0 : Int) ≤ (q : Int) := by omega
              obtain ⟨M, hM⟩ : ∃ M, M = xs.length := ⟨_, rfl⟩
              rw [← hM] at e1'
              have HM := hid hM
              have Hpp := hid hpp
              clear Hc0 hc1 hr hx16 e hxs hx hM hwg5 e0 e1 hpp hp0
              go_upto_region 18 with fail
              clear e1' t4
              go_wp2_with fail
              go_loopg [14] M (fun mm v14 wx => NxRel G gn gt (some ⟨g, off, none⟩) cn ct cp w bs bt b8 b4 f S (q : Int) xs R mm v14 wx)
              case atStart => exact ⟨0, _, _, _, _, [], rfl, Nat.zero_le _, by rw [HM.out]; rfl, Hst0.out, Hc1.out, rfl⟩
              case round =>
                obtain ⟨i, a1, c1, E1, v, ls, rfl, hi, hgm, hst, hcc, hll⟩ := hrel
                have u0 := hst.ks.tb.cell 0
                have u1 := hst.ks.tb.cell 1
                have ul := hst.ks.tb.lt
                have t0 := hst.gb.cell 0
                have t1 := hst.gb.cell 1
                have t2 := hst.gb.cell 2
                have t3 := hst.gb.cell 3
                have t4 := hst.gb.cell 4
                simp only [List.getElem?_cons_zero, List.getElem?_cons_succ] at u0 u1 t0 t1 t2 t3 t4
                rcases Nat.lt_or_ge i xs.length with hlt | hge
                · have hltM : (i : Int) < (M : Int) := by have := HM.out; omega
                  have hi0 : (0 : Int) ≤ (i : Int) := by omega
                  have hMx : (M : Int) ≤ 1000000 := by have := Hx.out; have := HM.out; omega
                  obtain ⟨sx, hsx⟩ : ∃ sx, sx = xs[i] := ⟨_, rfl⟩
                  have hwr : Below wg.heap.size wg wr := HG.out.2.2.trans (hst.kp.to_below HG.out.2.2.size (fun k e => by have : k = bs := e; have := HG.out.2.1; omega))
                  obtain ⟨g1, o1, hgx, hgl, hcx⟩ := Hr.out.at hlt
                  rw [← hsx] at hcx
                  have hcx2 := (hwr.cell (p := ⟨g1, _, none⟩) hgl).trans hcx
                  have hdr : xs.drop i = sx :: xs.drop (i + 1) := by rw [hsx]; exact List.drop_eq_getElem_cons hlt
                  have hcall := nx_call Ih.out hst hcc HG.out.1 HG.out.2.1 HG.out.2.2 HaS.out.2 hdr (by have := Hx.out; omega)
                  have Hg := hid (And.intro hgm hlt)
                  have Hll := hid hll
                  obtain ⟨nl, hnl⟩ : ∃ nl, nl = ls.length := ⟨_, rfl⟩
                  rw [← hnl] at hcall
                  subst hgx
                  clear hst hcc hgm hlt hll hwr hgl hcx hdr hsx hi hnl
                  go_upto_region 21 with fail
                  go_region_law
                    (first
                      | (have hrun0 := hrun; refine step_app (by rfl) _ _ _ (by rfl) v (.slice (some ⟨w3.heap.size, 0, none⟩) 1 1) _ w5' (by go_simp) (by go_simp) (by exact hrun) ?_)
                      | (go_simp; go_at_call 68; refine hcall.mono ?_; rintro e w3 ⟨q3, gk3, kl3, ck3, rfl, n3, hln3, g2, cap2, w5', hrun, m2, mf, ml, hst6⟩))
                  all_goals
                    go_wp2_with fail
                    go_roundg (M - (i + 1))
                    case measure => have := Hg.out.1; have := Hg.out.2; have := HM.out; omega
                    case rel =>
                      obtain ⟨x, a', c', E', hst7, hcc7⟩ := hst6.out
                      exact ⟨i + 1, a', c', E', _, ls ++ [x], by go_num, Hg.out.2, by rw [HM.out], hst7, hcc7, by rw [List.length_append, Hll.out]; rfl⟩
                · have hgeM : ¬ (i : Int) < (M : Int) := by have := HM.out; omega
                  obtain ⟨ga, ca, rfl, hfin⟩ := nx_fin hst hcc hge
                  have r0 := hst.ks.res.cell 0
                  have r1 := hst.ks.res.cell 1
                  have fr0 := hst.ks.res.free 0
                  have fr1 := hst.ks.res.free 1
                  have hlr := hst.ks.res.lt
                  simp only [List.getElem?_cons_zero, List.getElem?_cons_succ] at r0 r1
                  have Hfin := hid hfin
                  clear hfin hst hcc hge hgm hll hi
                  go_wp2_with fail
                  exact bodyPost_ret (v := .agg #[.int .i64 q, .slice ga ls.length ca]) (by simp [results, Try.results68, go_sem, r0, r1]) rfl Hfin.out
theorem next_all (f : Nat) : NextSays G gn gt gp cn ct cp f := by
  induction f generalizing gp with
  | zero =>
    intro sy must S a n bs w wg hf
    omega
  | succ f ih => exact next_step f ih
end
end Go.Proofs.Ytaehooafdbaomaa
