/- Chapter 15 (least): fill. -/
import Derived.Test.YtbpgolmbielpgaaLeastLaw2
import Derived.Test.YtbpgolmbielpgaaRowApp
namespace Go.Proofs.Ytbpgolmbielpgaa
open Go.RowKit
attribute [local go_sem ↓] Go.wp_at_zero Go.wp_at_succ
attribute [local go_sem] frozen_alloc_lt

/-- The table as it is made: so many nonterminals' rows. -/
structure TB (w : World) (B : Nat) (V : GV) (bt : Nat) (gw : Option Addr) (lw cw L : Nat) (vn : Value) (Rs : List (Nat × Nat × List Nat)) : Prop where
  k : Bk w bt 119 [.int .i64 V.st, .int .i64 V.ru, .slice V.gn V.ln V.cn, .slice V.gt V.lt V.ct, .slice V.gp V.lp V.cp, .slice gw lw cw, vn]
  nn : w.ownsRow B 52 1 vn Rs.length (Rs.map fun x => .slice (some ⟨x.1, 0, none⟩) L x.2.1)
  rr : ∀ x ∈ Rs, w.ownsRow B 23 1 (.slice (some ⟨x.1, 0, none⟩) L x.2.1) L (x.2.2.map (rowI L))
  rc : ∀ x ∈ Rs, ∀ g ∈ x.2.2, B ≤ g ∧ Bk w g 3 ((List.replicate L (-1 : Int)).map (Value.int .i64))
  ap : (Rs.flatMap (·.2.2)).Nodup
section
variable {w w' : World} {B : Nat} {V : GV} {bt : Nat} {gw : Option Addr} {lw cw L : Nat} {vn : Value} {Rs : List (Nat × Nat × List Nat)}
theorem TB.kp {S : Nat → Prop} (h : TB w B V bt gw lw cw L vn Rs) (hk : Kp S w w') (h1 : ¬ S bt) (h2 : ∀ g, vn.ownBlock = some g → ¬ S g) (h3 : ∀ x ∈ Rs, ¬ S x.1) (h4 : ∀ x ∈ Rs, ∀ g ∈ x.2.2, ¬ S g) : TB w' B V bt gw lw cw L vn Rs :=
  ⟨h.k.kp hk h1, own_kp h.nn hk h2, fun x hx => own_kp (h.rr x hx) hk (fun g hg => by simp [Value.ownBlock] at hg; subst hg; exact h3 x hx), fun x hx g hg => ⟨(h.rc x hx g hg).1, (h.rc x hx g hg).2.kp hk (h4 x hx g hg)⟩, h.ap⟩
theorem TB.later (h : TB w B V bt gw lw cw L vn Rs) (hb : Below w.heap.size w w') : TB w' B V bt gw lw cw L vn Rs := by
  have hk : Kp (fun _ => False) w w' := ⟨hb.os, hb.tape, hb.output, hb.size, fun k hk _ => hb.block k hk⟩
  exact h.kp hk (fun e => e) (fun _ _ e => e) (fun _ _ e => e) (fun _ _ _ _ e => e)
/-- Rows of ints of another row's own are no part of it. -/
theorem TB.app {vr : Value} {n : Nat} {xs : List Value} (h : TB w B V bt gw lw cw L vn Rs) (hr : w.ownsRow B 23 1 vr n xs) (hx : ∀ x ∈ Rs, vr.ownBlock ≠ some x.1) (hk : Kp (fun k => vr.ownBlock = some k) w w') : TB w' B V bt gw lw cw L vn Rs := by
  refine h.kp hk (h.k.own_ne hr (by decide)) (fun g hg e => ?_) hx (fun x hx' g hg => (h.rc x hx' g hg).2.own_ne hr (by decide))
  rcases h.nn.2 with ⟨h0, _⟩ | ⟨g2, c2, cur2, h0, _, hh2, _⟩
  · rw [h0] at hg; cases hg
  · rw [h0] at hg
    simp [Value.ownBlock] at hg
    subst hg
    rcases hr.2 with ⟨h1, _⟩ | ⟨g3, c3, cur3, h1, _, hh3, _⟩
    · rw [h1] at e; cases e
    · rw [h1] at e
      simp [Value.ownBlock] at e
      subst e
      rw [hh2] at hh3
      injection hh3 with hh3
      injection hh3 with _ hh3
      exact absurd hh3 (by decide)
end
theorem own_ne2 {w : World} {B1 B2 s1 s2 n1 n2 : Nat} {T1 T2 : TypeId} {v1 v2 : Value} {xs1 xs2 : List Value} (h1 : w.ownsRow B1 T1 s1 v1 n1 xs1) (h2 : w.ownsRow B2 T2 s2 v2 n2 xs2) (hne : T1 ≠ T2) : ∀ g, v1.ownBlock = some g → v2.ownBlock ≠ some g := fun g hg e => by
  rcases h1.2 with ⟨h0, _⟩ | ⟨g2, c2, cur2, h0, _, hh2, _⟩
  · rw [h0] at hg; cases hg
  · rw [h0] at hg
    simp [Value.ownBlock] at hg
    subst hg
    rcases h2.2 with ⟨h1, _⟩ | ⟨g3, c3, cur3, h1, _, hh3, _⟩
    · rw [h1] at e; cases e
    · rw [h1] at e
      simp [Value.ownBlock] at e
      subst e
      rw [hh2] at hh3
      injection hh3 with hh3
      injection hh3 with _ hh3
      exact absurd hh3 hne
/-- A nonterminal's rows are appended. -/
theorem TB.put {w w' : World} {B : Nat} {V : GV} {bt : Nat} {gw : Option Addr} {lw cw L : Nat} {vn : Value} {Rs : List (Nat × Nat × List Nat)} (h : TB w B V bt gw lw cw L vn Rs) {r cr : Nat} {gs : List Nat}
    (hr : w.ownsRow B 23 1 (.slice (some ⟨r, 0, none⟩) L cr) L (gs.map (rowI L))) (hgs : ∀ g ∈ gs, B ≤ g ∧ Bk w g 3 ((List.replicate L (-1 : Int)).map (Value.int .i64))) (hnd : (Rs.flatMap (·.2.2) ++ gs).Nodup)
    (hk : Kp (fun k => vn.ownBlock = some k) w w') {v' : Value} (hn : w'.ownsRow B 52 1 v' (Rs.length + 1) ((Rs.map fun x => .slice (some ⟨x.1, 0, none⟩) L x.2.1) ++ [.slice (some ⟨r, 0, none⟩) L cr])) :
    TB (w'.setCell ⟨bt, 6, none⟩ v') B V bt gw lw cw L v' (Rs ++ [(r, cr, gs)]) := by
  have hk2 : Kp (fun k => k = bt) w' (w'.setCell ⟨bt, 6, none⟩ v') := Kp.set (S := fun k => k = bt) (p := ⟨bt, 6, none⟩) (Kp.refl _ _) (.inl rfl) _
  have hkb := h.k.kp hk (h.k.own_ne h.nn (by decide))
  have hro : ∀ (u : Value) (m : Nat) (xs : List Value), w.ownsRow B 23 1 u m xs → (w'.setCell ⟨bt, 6, none⟩ v').ownsRow B 23 1 u m xs := fun u m xs hu => by
    have h1 := own_kp hu hk (fun g hg e => own_ne2 hu h.nn (by decide) g hg e)
    exact own_kp h1 hk2 (fun g hg e => hkb.own_ne h1 (by decide) (by rw [hg, e]))
  have hbo : ∀ g, Bk w g 3 ((List.replicate L (-1 : Int)).map (Value.int .i64)) → Bk (w'.setCell ⟨bt, 6, none⟩ v') g 3 ((List.replicate L (-1 : Int)).map (Value.int .i64)) := fun g hg => by
    have h1 := hg.kp hk (hg.own_ne h.nn (by decide))
    exact h1.kp hk2 (h1.ne hkb (by decide))
  refine ⟨hkb.set 6 v', ?_, fun x hx => ?_, fun x hx g hg => ?_, by rw [List.flatMap_append]; simpa using hnd⟩
  · rw [List.length_append, List.map_append]
    exact own_kp hn hk2 (fun g hg e => hkb.own_ne hn (by decide) (by rw [hg, e]))
  · rcases List.mem_append.1 hx with hx | hx
    · exact hro _ _ _ (h.rr x hx)
    · rw [List.mem_singleton] at hx
      subst hx
      exact hro _ _ _ hr
  · rcases List.mem_append.1 hx with hx | hx
    · exact ⟨(h.rc x hx g hg).1, hbo g (h.rc x hx g hg).2⟩
    · rw [List.mem_singleton] at hx
      subst hx
      exact ⟨(hgs g hg).1, hbo g (hgs g hg).2⟩
theorem intssInfo : (Try.prog.info? 52).map (fun i => (i.zero, i.size, i.bytes)) = some (some (.slice none 0 0), 1, 24) := by kernel_rfl
def FB1 (B : Nat) (wd : World) (V : GV) (bt : Nat) (gw : Option Addr) (lw cw L n k : Nat) (v16 : Value) (w : World) : Prop :=
  ∃ (a : Nat) (vn : Value) (Rs : List (Nat × Nat × List Nat)), v16 = .int .i64 a ∧ a ≤ n ∧ Rs.length = a ∧ TB w B V bt gw lw cw L vn Rs ∧ k = n - a ∧ Below B wd w
def FB2 (B : Nat) (wd : World) (V : GV) (bt : Nat) (gw : Option Addr) (lw cw L : Nat) (vn : Value) (Rs : List (Nat × Nat × List Nat)) (k : Nat) (v6 v21 : Value) (w : World) : Prop :=
  ∃ (i : Nat) (gs : List Nat) (vr : Value), vr = v6 ∧ v21 = .int .i64 i ∧ i ≤ L ∧ TB w B V bt gw lw cw L vn Rs ∧ w.ownsRow B 23 1 vr i (gs.map (rowI L)) ∧ gs.length = i ∧
    (∀ g ∈ gs, B ≤ g ∧ Bk w g 3 ((List.replicate L (-1 : Int)).map (Value.int .i64))) ∧ (Rs.flatMap (·.2.2) ++ gs).Nodup ∧ (∀ x ∈ Rs, vr.ownBlock ≠ some x.1) ∧ k = L - i ∧ Below B wd w

theorem flat_inj {f : (Nat × Nat × List Nat) → List Nat} : ∀ {Rs : List (Nat × Nat × List Nat)}, (Rs.flatMap f).Nodup → ∀ {a a' i i' : Nat} {x x' : Nat × Nat × List Nat} {g : Nat}, Rs[a]? = some x → (f x)[i]? = some g → Rs[a']? = some x' → (f x')[i']? = some g → a = a' ∧ i = i'
  | [], _, _, _, _, _, _, _, _, h1, _, _, _ => by simp at h1
  | y :: Rs, hn, a, a', i, i', x, x', g, h1, h2, h3, h4 => by
    rw [List.flatMap_cons, List.nodup_append] at hn
    obtain ⟨n1, n2, n3⟩ := hn
    cases a with
    | zero =>
      simp at h1
      subst h1
      cases a' with
      | zero =>
        simp at h3
        subst h3
        exact ⟨rfl, nodup_at n1 h2 h4⟩
      | succ a' =>
        rw [List.getElem?_cons_succ] at h3
        exact absurd rfl (n3 g (List.mem_of_getElem? h2) g (List.mem_flatMap.2 ⟨x', List.mem_of_getElem? h3, List.mem_of_getElem? h4⟩))
    | succ a =>
      rw [List.getElem?_cons_succ] at h1
      cases a' with
      | zero =>
        simp at h3
        subst h3
        exact absurd rfl (n3 g (List.mem_of_getElem? h4) g (List.mem_flatMap.2 ⟨x, List.mem_of_getElem? h1, List.mem_of_getElem? h2⟩))
      | succ a' =>
        rw [List.getElem?_cons_succ] at h3
        obtain ⟨e1, e2⟩ := flat_inj n2 h1 h2 h3 h4
        exact ⟨by omega, e2⟩
/-- The table is made. -/
theorem TB.tab {w : World} {B : Nat} {V : GV} {bt : Nat} {gw : Option Addr} {word : List Int} {cw : Nat} {vn : Value} {Rs : List (Nat × Nat × List Nat)} (h : TB w B V bt gw word.length cw (word.length + 1) vn Rs) {n : Nat} (hn : Rs.length = n) (hn0 : 1 ≤ n) :
    ∃ (bn cb : Nat) (R : Nat → Nat) (C : Nat → Nat → Nat), TabO w B V bt bn n cb gw cw word R C (fun _ _ _ => -1) := by
  subst hn
  rcases h.nn.2 with ⟨-, h0⟩ | ⟨bn, cb, cur, rfl, hb1, hb2, -⟩
  · omega
  have hat : ∀ a, a < Rs.length → ∃ x, Rs[a]? = some x ∧ x ∈ Rs ∧ Rs.getD a (0, 0, []) = x := fun a ha => ⟨Rs[a], List.getElem?_eq_getElem ha, List.getElem_mem ha, by simp [List.getD, List.getElem?_eq_getElem ha]⟩
  have hlen : ∀ x ∈ Rs, x.2.2.length = word.length + 1 := fun x hx => by
    have := (h.rr x hx).1
    simpa using this
  have hcs : ∀ x ∈ Rs, ∀ i, i ≤ word.length → ∃ g, x.2.2[i]? = some g ∧ g ∈ x.2.2 ∧ x.2.2.getD i 0 = g := fun x hx i hi => by
    have hl := hlen x hx
    exact ⟨x.2.2[i], List.getElem?_eq_getElem (by omega), List.getElem_mem _, by simp [List.getD, List.getElem?_eq_getElem (show i < x.2.2.length by omega)]⟩
  have hadd : ∀ (g i : Nat), (⟨g, 0, none⟩ : Addr).add i = ⟨g, i, none⟩ := fun g i => by unfold Addr.add; split <;> simp_all
  have hbn : ∀ g, Bk w g 3 ((List.replicate (word.length + 1) (-1 : Int)).map (Value.int .i64)) → g ≠ bn := fun g hg e => hg.own_ne h.nn (by decide) (by rw [e]; rfl)
  refine ⟨bn, cb, fun a => (Rs.getD a (0, 0, [])).1, fun a i => (Rs.getD a (0, 0, [])).2.2.getD i 0, ⟨⟨h.k, fun a ha => ?_, fun a i ha hi => ?_, fun a i ha hi => ?_⟩, fun a i ha hi => ?_, fun a i a' i' ha hi ha' hi' e => ?_, fun a i ha hi => ?_⟩⟩
  · obtain ⟨x, h1, h2, h3⟩ := hat a ha
    refine ⟨x.2.1, ?_⟩
    rw [h3, ← hadd]
    exact h.nn.cells (g := bn) rfl a _ (by rw [List.getElem?_map, h1]; rfl)
  · obtain ⟨x, h1, h2, h3⟩ := hat a ha
    obtain ⟨g, g1, g2, g3⟩ := hcs x h2 i hi
    rw [h3, g3, ← hadd]
    exact (h.rr x h2).cells (g := x.1) rfl i _ (by rw [List.getElem?_map, g1]; rfl)
  · obtain ⟨x, h1, h2, h3⟩ := hat a ha
    obtain ⟨g, g1, g2, g3⟩ := hcs x h2 i hi
    rw [h3, g3]
    exact ⟨_, (h.rc x h2 g g2).2, by simp, fun j hj => by rw [List.getElem?_replicate, if_pos (by omega)]⟩
  · obtain ⟨x, h1, h2, h3⟩ := hat a ha
    obtain ⟨g, g1, g2, g3⟩ := hcs x h2 i hi
    rw [h3, g3]
    exact (h.rc x h2 g g2).1
  · obtain ⟨x, h1, h2, h3⟩ := hat a ha
    obtain ⟨g, g1, g2, g3⟩ := hcs x h2 i hi
    obtain ⟨x', h1', h2', h3'⟩ := hat a' ha'
    obtain ⟨g', g1', g2', g3'⟩ := hcs x' h2' i' hi'
    rw [h3, g3, h3', g3'] at e
    subst e
    exact flat_inj h.ap h1 g1 h1' g1'
  · obtain ⟨x, h1, h2, h3⟩ := hat a ha
    obtain ⟨g, g1, g2, g3⟩ := hcs x h2 i hi
    rw [h3, g3]
    have hg := (h.rc x h2 g g2).2
    refine ⟨hg.ne h.k (by decide), hbn g hg, fun a' ha' e => ?_⟩
    obtain ⟨x', h1', h2', h3'⟩ := hat a' ha'
    rw [h3'] at e
    exact hg.own_ne (h.rr x' h2') (by decide) (by rw [e]; rfl)

def FT (w0 : World) (B : Nat) (V : GV) (bt bn n cb : Nat) (gw : Option Addr) (cw : Nat) (word : List Int) (R : Nat → Nat) (C : Nat → Nat → Nat) (ps : List (Int × List Int)) (N : Nat → Nat → Nat → Int) (w : World) : Prop :=
  TabO w B V bt bn n cb gw cw word R C N ∧ (∀ a i j, -1 ≤ N a i j ∧ N a i j ≤ Le.cap) ∧ Le.Steps word ps N ∧ Below B w0 w
def DoneF (word : List Int) (ps : List (Int × List Int)) (N : Nat → Nat → Nat → Int) (size fr0 : Nat) : Prop := ∀ fr en, fr ≤ en → en ≤ word.length → (en < fr + size ∨ en = fr + size ∧ fr < fr0) → ∀ x ∈ ps, Le.FixR word N fr en x
def FF1 (w0 : World) (B : Nat) (V : GV) (bt bn n cb : Nat) (gw : Option Addr) (cw : Nat) (word : List Int) (R : Nat → Nat) (C : Nat → Nat → Nat) (ps : List (Int × List Int)) (k : Nat) (v7 : Value) (w : World) : Prop :=
  ∃ (size : Nat) (N : Nat → Nat → Nat → Int), v7 = .int .i64 size ∧ size ≤ word.length + 1 ∧ FT w0 B V bt bn n cb gw cw word R C ps N w ∧ DoneF word ps N size 0 ∧ k = word.length + 1 - size
def FF2 (w0 : World) (B : Nat) (V : GV) (bt bn n cb : Nat) (gw : Option Addr) (cw : Nat) (word : List Int) (R : Nat → Nat) (C : Nat → Nat → Nat) (ps : List (Int × List Int)) (size k : Nat) (v8 : Value) (w : World) : Prop :=
  ∃ (fr0 : Nat) (N : Nat → Nat → Nat → Int), v8 = .int .i64 fr0 ∧ fr0 + size ≤ word.length + 1 ∧ FT w0 B V bt bn n cb gw cw word R C ps N w ∧ DoneF word ps N size fr0 ∧ k = word.length + 1 - (fr0 + size)
def FF3 (w0 : World) (B : Nat) (V : GV) (bt bn n cb : Nat) (gw : Option Addr) (cw : Nat) (word : List Int) (R : Nat → Nat) (C : Nat → Nat → Nat) (ps : List (Int × List Int)) (size fr0 k : Nat) (w : World) : Prop :=
  ∃ (N : Nat → Nat → Nat → Int), FT w0 B V bt bn n cb gw cw word R C ps N w ∧ DoneF word ps N size fr0 ∧ k = Le.pot N fr0 (fr0 + size) n
/-- What is done stays done when a later part is told anew. -/
theorem DoneF.keep {word : List Int} {ps : List (Int × List Int)} {N M : Nat → Nat → Nat → Int} {size fr0 : Nat} (h : DoneF word ps N size fr0) (hM : ∀ a i j, ¬ (i = fr0 ∧ j = fr0 + size) → M a i j = N a i j) : DoneF word ps M size fr0 := fun fr en h1 h2 h3 x hx =>
  Le.fix_keep (N := N) (fun a i j hi hij hj => (hM a i j (by omega)).symm) h1 (h fr en h1 h2 h3 x hx)

def FillPost (w : World) (G : Gr) (gn gt gp : Option Addr) (cn ct cp : Nat) (gw : Option Addr) (cw : Nat) (word : List Int) (e : Ending) (w' : World) : Prop :=
  ∃ (bt bn cb : Nat) (R : Nat → Nat) (C : Nat → Nat → Nat) (N : Nat → Nat → Nat → Int), e = .returned (.pointer (some ⟨bt, 0, none⟩)) ∧
    TabO w' w.heap.size ⟨G.start, G.rules, gn, G.names.length, cn, gt, G.terms.length, ct, gp, G.prods.length, cp⟩ bt bn G.names.length cb gw cw word R C N ∧ (∀ a i j, -1 ≤ N a i j ∧ N a i j ≤ Le.cap) ∧ Le.Steps word G.prods N ∧
    (∀ fr en, fr ≤ en → en ≤ word.length → ∀ x ∈ G.prods, Le.FixR word N fr en x) ∧ Below w.heap.size w w'

set_option maxHeartbeats 8000000 in
set_option maxRecDepth 8000 in
theorem fill_calls (w : World) (G : Gr) (gn gt gp : Option Addr) (cn ct cp : Nat) (h : GIn w G gn gt gp) (hs : Pl.soundB G = true) (gw : Option Addr) (cw : Nat) (word : List Int) (hw : RowI w w.heap.size gw word) (hl : word.length ≤ 64) :
    Calls Try.prog 52 #[gramV G gn gt gp cn ct cp, .slice gw word.length cw] w (FillPost w G gn gt gp cn ct cp gw cw word) := by
  have Hsg := hid (sndG hs)
  have H := hid h
  have Hw := hid hw
  have hn0 := Hsg.out.n0
  have hn1 := Hsg.out.n1
  obtain ⟨i2, hi2, z0, z1, z2⟩ := info_parts intsInfo
  obtain ⟨i3, hi3, y0, y1, y2⟩ := info_parts intssInfo
  clear h hw hs
  unfold gramV
  go_enter Try.func52, Try.ntmps52
  go_upto_region 2 with fail
  have hb0 : Below w.heap.size w ((w.alloc (.cells #[.int .i64 G.start, .int .i64 G.rules, .slice gn G.names.length cn, .slice gt G.terms.length ct, .slice gp G.prods.length cp] 41)).alloc (.cells #[.int .i64 G.start, .int .i64 G.rules, .slice gn G.names.length cn, .slice gt G.terms.length ct, .slice gp G.prods.length cp, .slice gw word.length cw, .slice none 0 0] 119)) :=
    ((Below.refl _ _).alloc (Nat.le_refl _) _).alloc (by simp) _
  have hbk0 : Bk ((w.alloc (.cells #[.int .i64 G.start, .int .i64 G.rules, .slice gn G.names.length cn, .slice gt G.terms.length ct, .slice gp G.prods.length cp] 41)).alloc (.cells #[.int .i64 G.start, .int .i64 G.rules, .slice gn G.names.length cn, .slice gt G.terms.length ct, .slice gp G.prods.length cp, .slice gw word.length cw, .slice none 0 0] 119)) w.heap.size 41 [.int .i64 G.start, .int .i64 G.rules, .slice gn G.names.length cn, .slice gt G.terms.length ct, .slice gp G.prods.length cp] := (Bk.new w _ _).alloc _
  have hbk1 : Bk ((w.alloc (.cells #[.int .i64 G.start, .int .i64 G.rules, .slice gn G.names.length cn, .slice gt G.terms.length ct, .slice gp G.prods.length cp] 41)).alloc (.cells #[.int .i64 G.start, .int .i64 G.rules, .slice gn G.names.length cn, .slice gt G.terms.length ct, .slice gp G.prods.length cp, .slice gw word.length cw, .slice none 0 0] 119)) (w.heap.size + 1) 119 [.int .i64 G.start, .int .i64 G.rules, .slice gn G.names.length cn, .slice gt G.terms.length ct, .slice gp G.prods.length cp, .slice gw word.length cw, .slice none 0 0] := by
    have := Bk.new (w.alloc (.cells #[.int .i64 G.start, .int .i64 G.rules, .slice gn G.names.length cn, .slice gt G.terms.length ct, .slice gp G.prods.length cp] 41)) 119 [.int .i64 G.start, .int .i64 G.rules, .slice gn G.names.length cn, .slice gt G.terms.length ct, .slice gp G.prods.length cp, .slice gw word.length cw, .slice none 0 0]
    simpa using this
  obtain ⟨wd, hwd⟩ : ∃ wd, wd = ((w.alloc (.cells #[.int .i64 G.start, .int .i64 G.rules, .slice gn G.names.length cn, .slice gt G.terms.length ct, .slice gp G.prods.length cp] 41)).alloc (.cells #[.int .i64 G.start, .int .i64 G.rules, .slice gn G.names.length cn, .slice gt G.terms.length ct, .slice gp G.prods.length cp, .slice gw word.length cw, .slice none 0 0] 119)) := ⟨_, rfl⟩
  obtain ⟨b0, hb0e⟩ : ∃ b0, b0 = w.heap.size := ⟨_, rfl⟩
  obtain ⟨bt, hbte⟩ : ∃ bt, bt = b0 + 1 := ⟨_, rfl⟩
  have hbt0 : b0 ≤ bt := by omega
  rw [← hwd] at hb0 hbk0 hbk1 ⊢
  rw [← hb0e] at hbk0 hbk1 hb0 ⊢
  rw [← hbte] at hbk1 ⊢
  obtain ⟨V, hV⟩ : ∃ V : GV, V = ⟨G.start, G.rules, gn, G.names.length, cn, gt, G.terms.length, ct, gp, G.prods.length, cp⟩ := ⟨_, rfl⟩
  obtain ⟨L, hL⟩ : ∃ L, L = word.length + 1 := ⟨_, rfl⟩
  have HL := hid hL
  have hTB : TB wd b0 V bt gw word.length cw L (.slice none 0 0) [] := by
    rw [hV]
    exact ⟨hbk1, World.ownsRow_nil _ _ _ _, (fun x hx => by cases hx), (fun x hx => by cases hx), List.nodup_nil⟩
  have c2 := hbk0.cell 2
  simp only [List.getElem?_cons_zero, List.getElem?_cons_succ] at c2
  have hbb : Below b0 wd wd := Below.refl _ _
  have Hwb := hid hb0
  have HV := hid hV
  have Hb0e := hid hb0e
  have hzd : b0 ≤ wd.heap.size := by have := hb0.size; omega
  have hl1 : IntKind.i64.wrap ((word.length : Int) + 1) = ((word.length + 1 : Nat) : Int) := by rw [IntKind.wrap_i64] <;> omega
  have hl2 : (word.length : Int) + 1 = (L : Int) := by omega
  rw [← hL] at hl1
  clear hwd hb0e hbte hV hbk0 hbk1 hb0 hL
  go_wp2_with fail
  clear c2
  go_loopg [16] G.names.length (fun k v16 wq => FB1 b0 wd V bt gw word.length cw L G.names.length k v16 wq)
  case atStart => exact ⟨0, _, [], rfl, by omega, rfl, hTB, rfl, hbb⟩
  case round =>
    clear hTB hbb
    obtain ⟨a, vn, Rs, rfl, ha, hRs, hT, hk, hb⟩ := hrel
    have Hk := hid hk
    have HRs := hid hRs
    have Hb := hid hb
    clear hk hRs hb
    by_cases hlt : a < G.names.length
    · have hlt' : (a : Int) < (G.names.length : Int) := by omega
      have HT := hid hT
      clear hT
      have hown0 : wr.ownsRow b0 23 1 (.slice none 0 0) 0 (([] : List Nat).map (rowI L)) := World.ownsRow_nil _ _ _ _
      go_wp2_with fail
      go_loopg [6, 21] L (fun k v6 v21 wq => FB2 b0 wd V bt gw word.length cw L vn Rs k v6 v21 wq)
      case atStart => exact ⟨0, [], _, rfl, rfl, by omega, HT.out, hown0, rfl, (fun g hg => by cases hg), by rw [List.append_nil]; exact HT.out.ap, (fun x hx e => by cases e), rfl, Hb.out⟩
      case round =>
        clear hown0 HT Hb
        obtain ⟨i, gs, v6, rfl, rfl, hi, hT, hown, hgl, hgs, hnd, hvr, hk, hb⟩ := hrel
        have Hki := hid hk
        have HT := hid hT
        have Hgl := hid hgl
        have Hgs := hid hgs
        have Hnd := hid hnd
        have Hvr := hid hvr
        have Hb := hid hb
        have hzr := hb.size
        have hBr : b0 ≤ wr.heap.size := by omega
        clear hk hgl hgs hnd hvr hT hb
        by_cases hlt2 : i < L
        · have hlt2' : (i : Int) < (L : Int) := by omega
          have h27 : IntKind.i64.wrap ((word.length : Int) + 1) = (L : Int) := hl1
          have hzw : (wr.alloc (.cells #[.int .i64 (-1)] 3)).heap.size = wr.heap.size + 1 := by simp
          go_wp2_with (first
            | (go_at_call 56; refine (repeat_calls _ _ 1 (-1) L (by simp) (by omega) (by omega)).mono ?_; rintro e w3 ⟨g, rfl, hg, hbg, hb3⟩; have hk3 : Kp (fun _ => False) wr w3 := ⟨hb3.os, hb3.tape, hb3.output, by have := hb3.size; omega, fun k hk1 _ => by rw [hb3.block k (by omega)]; exact Below.heap_alloc wr _ k hk1⟩; obtain ⟨g2, cap2, w4, hrun, hon2, hk4, hg2, hl2⟩ := row_app (P := Try.prog) (own_kp hown hk3 (fun _ _ h => h)) 52 52 i2 (.slice none 0 0) 24 Try.underlying52 hi2 z0 z1 z2 rfl (by omega) (Nat.le_trans hBr hk3.size) (by omega) (rowI L g) rfl 0)
            | (at_builtin; refine wpList_append_run rfl _ _ _ rfl _ (.slice (some ⟨w3.heap.size, 0, none⟩) 1 1) (.slice (some ⟨g2, 0, none⟩) (i + 1) cap2) w4 (by rfl) (by rfl) (by exact hrun) ?_))
          have hTB3 := HT.out.kp hk3 (fun e => e) (fun _ _ e => e) (fun _ _ e => e) (fun _ _ _ _ e => e)
          have hown3 := own_kp hown hk3 (fun _ _ e => e)
          have hTB4 := hTB3.app hown3 Hvr.out hk4
          have hrl : ∀ x ∈ Rs, x.1 < wr.heap.size := fun x hx => (World.ownsRow.lt (HT.out.rr x hx) x.1 rfl).2
          have hcl : ∀ g' ∈ Rs.flatMap (·.2.2) ++ gs, g' < wr.heap.size := fun g' hg' => by
            rcases List.mem_append.1 hg' with h1 | h1
            · obtain ⟨x, hx, h2⟩ := List.mem_flatMap.1 h1
              exact (HT.out.rc x hx g' h2).2.lt
            · exact (Hgs.out g' h1).2.lt
          have hz3 := hk3.size
          have hgw : wr.heap.size < g := by omega
          have hgs4 : ∀ g' ∈ gs ++ [g], b0 ≤ g' ∧ Bk w4 g' 3 ((List.replicate L (-1 : Int)).map (Value.int .i64)) := fun g' hg' => by
            rcases List.mem_append.1 hg' with h1 | h1
            · obtain ⟨h2, h3⟩ := Hgs.out g' h1
              have h4 := h3.kp hk3 (fun e => e)
              exact ⟨h2, h4.kp hk4 (h4.own_ne hown3 (by decide))⟩
            · rw [List.mem_singleton] at h1
              subst h1
              exact ⟨by omega, hbg.kp hk4 (hbg.own_ne hown3 (by decide))⟩
          have hnd4 : (Rs.flatMap (·.2.2) ++ (gs ++ [g])).Nodup := by
            rw [← List.append_assoc, List.nodup_append]
            refine ⟨Hnd.out, by simp, fun a ha b hb e => ?_⟩
            rw [List.mem_singleton] at hb
            have := hcl a ha
            omega
          have hvr4 : ∀ x ∈ Rs, (Value.slice (some ⟨g2, 0, none⟩) (i + 1) cap2).ownBlock ≠ some x.1 := fun x hx e => by
            have e : g2 = x.1 := by simpa [Value.ownBlock] using e
            rcases hg2 with h1 | h1
            · exact Hvr.out x hx (by rw [h1, e])
            · have := hrl x hx
              omega
          have hb4 : Below b0 wd w4 := (Hb.out.trans (hk3.to_below (B := b0) hBr (fun _ e => e.elim))).trans (hk4.to_below (B := b0) (by omega) (fun k e => (World.ownsRow.lt hown3 k e).1))
          have HTB4 := hid hTB4
          have Hgs4 := hid hgs4
          have Hnd4 := hid hnd4
          have Hvr4 := hid hvr4
          have Hb4 := hid hb4
          clear hTB3 hown3 hTB4 hrl hcl hz3 hgw hgs4 hnd4 hvr4 hb4
          go_roundg (L - (i + 1))
          case measure => have hk := Hki.out; omega
          case rel => exact ⟨i + 1, gs ++ [g], _, rfl, by go_num, by omega, HTB4.out, by rw [List.map_append]; exact hon2, by rw [List.length_append, Hgl.out]; rfl, Hgs4.out, Hnd4.out, Hvr4.out, rfl, Hb4.out⟩
        · have hge : ¬ (i : Int) < (L : Int) := by omega
          have hie : i = L := by omega
          subst hie
          rcases hown.2 with ⟨-, h0⟩ | ⟨r, cr, cur, rfl, hr0, hrh, -⟩
          · omega
          have k6 := HT.out.k.cell 6
          simp only [List.getElem?_cons_zero, List.getElem?_cons_succ] at k6
          clear hr0 hrh
          obtain ⟨g2, cap2, w4, hrun, hon2, hk4, hg2, hl2⟩ := row_app (P := Try.prog) HT.out.nn 117 117 i3 (.slice none 0 0) 24 Try.underlying117 hi3 y0 y1 y2 rfl (by omega) hBr (by have := HRs.out; omega) (.slice (some ⟨r, 0, none⟩) i cr) rfl 0
          have hput := HT.out.put hown Hgs.out Hnd.out hk4 hon2
          have hkb4 := HT.out.k.kp hk4 (HT.out.k.own_ne HT.out.nn (by decide))
          have f6 := hkb4.free 6
          have j6 := hkb4.cell 6
          simp only [List.getElem?_cons_zero, List.getElem?_cons_succ] at j6
          have hb5 : Below b0 wd (w4.setCell ⟨bt, 6, none⟩ (.slice (some ⟨g2, 0, none⟩) (Rs.length + 1) cap2)) := ((Hb.out.trans (hk4.to_below (B := b0) hBr (fun k e => (World.ownsRow.lt HT.out.nn k e).1))).setCell (p := ⟨bt, 6, none⟩) (by show b0 ≤ bt; omega) _)
          have Hput := hid hput
          have Hb5 := hid hb5
          clear hput hkb4 hb5 hon2 hk4 hg2 hown
          go_wp2_with (at_builtin; refine wpList_append_run rfl _ _ _ rfl _ (.slice (some ⟨wr.heap.size, 0, none⟩) 1 1) (.slice (some ⟨g2, 0, none⟩) (Rs.length + 1) cap2) w4 (by rfl) (by rfl) (by exact hrun) ?_)
          go_roundg (G.names.length - (a + 1))
          case measure => have hk := Hk.out; omega
          case rel => exact ⟨a + 1, _, Rs ++ [(r, cr, gs)], by go_num, by omega, by rw [List.length_append, HRs.out]; rfl, Hput.out, rfl, Hb5.out⟩
    · have hge : ¬ (a : Int) < (G.names.length : Int) := by omega
      have hae : a = G.names.length := by omega
      subst hae
      rw [HL.out] at hT
      obtain ⟨bn, cb, R, C, hTO⟩ := hT.tab HRs.out hn0
      have hFT : FT wd b0 V bt bn G.names.length cb gw cw word R C G.prods (fun _ _ _ => -1) wr := ⟨hTO, fun _ _ _ => ⟨Int.le_refl _, by unfold Le.cap; show (-1 : Int) ≤ 1099511627776; decide⟩, .init, Hb.out⟩
      have Hwo : Hid (RowI w b0 gw word) := hid (by rw [Hb0e.out]; exact Hw.out)
      have Hpo : Hid (RowP w b0 V.gp G.prods) := hid (by rw [Hb0e.out, HV.out]; exact H.out.p)
      have Hlp : Hid (V.lp = G.prods.length) := hid (by rw [HV.out])
      clear hTO hT Hb Hk HRs
      go_wp2_with fail
      go_loopg [7] (word.length + 1) (fun k v7 wq => FF1 wd b0 V bt bn G.names.length cb gw cw word R C G.prods k v7 wq)
      case atStart => exact ⟨0, _, rfl, by omega, hFT, fun fr en h1 h2 h3 => absurd h3 (by omega), rfl⟩
      case round =>
        clear hFT
        obtain ⟨size, N, rfl, hsz, hFT, hD, hk⟩ := hrel
        have Hk := hid hk
        have HFT := hid hFT
        have HD := hid hD
        clear hk hFT hD
        by_cases hlt : size ≤ word.length
        · have hlt' : (size : Int) ≤ (word.length : Int) := by omega
          go_wp2_with fail
          go_loopg [8] (word.length + 1 - size) (fun k v8 wq => FF2 wd b0 V bt bn G.names.length cb gw cw word R C G.prods size k v8 wq)
          case atStart => exact ⟨0, N, rfl, by omega, HFT.out, HD.out, by omega⟩
          case round =>
            clear HFT HD N
            obtain ⟨fr0, N, rfl, hf0, hFT, hD, hk⟩ := hrel
            have Hkf := hid hk
            have HFT := hid hFT
            have HD := hid hD
            clear hk hFT hD
            obtain ⟨en, hen⟩ : ∃ en, en = fr0 + size := ⟨_, rfl⟩
            have hadd : IntKind.i64.wrap ((fr0 : Int) + (size : Int)) = (en : Int) := by rw [IntKind.wrap_i64] <;> omega
            have hadd2 : (fr0 : Int) + (size : Int) = (en : Int) := by omega
            have Hen := hid hen
            by_cases hlt2 : en ≤ word.length
            · have hlt2' : (en : Int) ≤ (word.length : Int) := by omega
              clear hen
              go_wp2_with fail
              go_loopg [] (Le.pot N fr0 (fr0 + size) G.names.length) (fun k wq => FF3 wd b0 V bt bn G.names.length cb gw cw word R C G.prods size fr0 k wq)
              case atStart => exact ⟨N, HFT.out, HD.out, rfl⟩
              case round =>
                clear HFT HD N
                obtain ⟨N, ⟨hT, hN, hS, hb⟩, hD, hk⟩ := hrel
                have hbw := Hwb.out.trans hb
                have hzr := hbw.size
                have hBr : b0 ≤ wr.heap.size := by have := Hb0e.out; omega
                have hround := round_calls hT hBr (Hwo.out.below hbw) hl G.prods (Hpo.out.below hbw) Hlp.out (by have := Hsg.out.p1; omega) (fun x hx => ⟨Hsg.out.r16 x hx, Hsg.out.l0 x hx, Hsg.out.l1 x hx, fun s hs => ⟨Hsg.out.r1 x hx s hs, by have := Hsg.out.r0 x hx s hs; have := Hsg.out.t1; omega⟩⟩) hN fr0 en (by have := Hen.out; omega) hlt2
                have hgoes := Le.round_goes (word := word) (fr := fr0) (en := en) (n := G.names.length) G.prods N false hN (fun x hx => by have := Hsg.out.l0 x hx; have := Hsg.out.l1 x hx; omega)
                have hsteps := Le.Steps.round (word := word) (ps := G.prods) (fr := fr0) (en := en) (by have := Hen.out; omega) hlt2 G.prods N false hS (fun x hx => hx)
                have helse : ∀ a i j, ¬ (i = fr0 ∧ j = fr0 + size) → (Le.roundS word fr0 en G.prods (N, false)).1 a i j = N a i j := fun a i j h => Le.round_else (by rw [Hen.out]; exact h) G.prods (N, false)
                obtain ⟨res, hres⟩ : ∃ res, res = Le.roundS word fr0 en G.prods (N, false) := ⟨_, rfl⟩
                rw [← hres] at hround hgoes hsteps helse
                have Hround := hid hround
                have Hgoes := hid hgoes
                have Hsteps := hid hsteps
                have Helse := hid helse
                have HD := hid hD
                have Hk3 := hid hk
                have Hb := hid hb
                clear hround hgoes hsteps helse hD hk hT hN hS hb hbw hres
                go_upto_region 17 with fail
                rcases Hgoes.out with ⟨rfl, hfix⟩ | ⟨N', rfl, hpot⟩
                · have hD2 : DoneF word G.prods N size (fr0 + 1) := fun fr e1 h1 h2 h3 x hx => by
                    by_cases h4 : e1 < fr + size ∨ e1 = fr + size ∧ fr < fr0
                    · exact HD.out fr e1 h1 h2 h4 x hx
                    · obtain ⟨rfl, rfl⟩ : fr = fr0 ∧ e1 = en := by have := Hen.out; omega
                      exact Le.fix_of (hfix x hx)
                  have HD2 := hid hD2
                  clear hD2 hfix
                  go_wp2_with (go_at_call 71; refine Hround.out.mono ?_; rintro e w3 ⟨rfl, hT3, hN3, hb3⟩)
                  go_roundg (word.length + 1 - (fr0 + 1 + size))
                  case measure => have hk := Hkf.out; have := Hen.out; omega
                  case rel => exact ⟨fr0 + 1, N, by go_num, by have := Hen.out; omega, ⟨hT3, hN3, Hsteps.out, Hb.out.trans (hb3.mono (by have := Hwb.out.size; have := Hb0e.out; omega))⟩, HD2.out, rfl⟩
                · have hD2 := HD.out.keep Helse.out
                  have HD2 := hid hD2
                  have Hpot := hid hpot
                  clear hD2 hpot
                  go_wp2_with (go_at_call 71; refine Hround.out.mono ?_; rintro e w3 ⟨rfl, hT3, hN3, hb3⟩)
                  go_roundg (Le.pot N' fr0 (fr0 + size) G.names.length)
                  case measure => have hk := Hk3.out; have hp := Hpot.out; rw [Hen.out] at hp; omega
                  case rel => exact ⟨N', ⟨hT3, hN3, Hsteps.out, Hb.out.trans (hb3.mono (by have := Hwb.out.size; have := Hb0e.out; omega))⟩, HD2.out, rfl⟩
            · have hge : ¬ (en : Int) ≤ (word.length : Int) := by omega
              have hD2 : DoneF word G.prods N (size + 1) 0 := fun fr e1 h1 h2 h3 x hx => HD.out fr e1 h1 h2 (by omega) x hx
              have HD2 := hid hD2
              clear hD2 hen
              go_wp2_with fail
              go_roundg (word.length + 1 - (size + 1))
              case measure => have hk := Hk.out; omega
              case rel => exact ⟨size + 1, N, by go_num, by omega, HFT.out, HD2.out, rfl⟩
        · have hge : ¬ (size : Int) ≤ (word.length : Int) := by omega
          go_wp2_with fail
          go_ret
          obtain ⟨h1, h2, h3, h4⟩ := HFT.out
          refine ⟨bt, bn, cb, R, C, N, rfl, ?_, h2, h3, fun fr e1 g1 g2 x hx => HD.out fr e1 g1 g2 (by omega) x hx, ?_⟩
          · rw [← Hb0e.out, ← HV.out]; exact h1
          · have := Hwb.out.trans h4
            rwa [Hb0e.out] at this
end Go.Proofs.Ytbpgolmbielpgaa
