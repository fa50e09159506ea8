/- Chapter 9, the document's answer: First: walk. -/
import Derived.Test.YtbpgolmbielpgaaRef9b
import Derived.Test.YtbpgolmbielpgaaRef9f
namespace Go.Proofs.Ytbpgolmbielpgaa
open Go.RowKit
attribute [local go_sem ↓] Go.wp_at_zero Go.wp_at_succ
attribute [local go_sem] frozen_alloc_lt

/-- One more element of a row of the call's own, by its run. -/
theorem row_app {P : Program} {w : World} {B : Nat} {T : TypeId} {v : Value} {n : Nat} {xs : List Value} (h : w.ownsRow B T 1 v n xs) (t ty : TypeId) (i : TypeInfo) (z : Value) (bytes : Nat) (ht : P.underlying t = some (.slice T)) (hi : P.info? T = some i)
    (hz : i.zero = some z) (hsize : i.size = 1) (hby : i.bytes = bytes) (hzs : z.cells.size = 1) (hbb : bytes ≤ 24) (hB : B ≤ w.heap.size) (hl : n ≤ 1000000) (x : Value) (hx : x.oneCell' = true) (q : Nat) :
    ∃ g2 cap2 w2, (Builtin.append_ #[t, t] ty #[v, .slice (some ⟨w.heap.size, 0, none⟩) 1 1]).run P ((w.alloc (.cells #[x] T)).drewN q) = .ok (.slice (some ⟨g2, 0, none⟩) (n + 1) cap2) w2 ∧
      w2.ownsRow B T 1 (.slice (some ⟨g2, 0, none⟩) (n + 1) cap2) (n + 1) (xs ++ [x]) ∧ Kp (fun k => v.ownBlock = some k) w w2 ∧ (v.ownBlock = some g2 ∨ w.heap.size < g2) ∧ g2 < w2.heap.size := by
  obtain ⟨g2, cap2, w2, hrun, h5, h6, h7, h8⟩ := run_append_lies (P := P) ((w.alloc (.cells #[x] T)).drewN q) t ty B T i z 1 bytes ht hi hz hsize hby hzs (by omega) v n xs (own_drewN (h.alloc _) q) ⟨w.heap.size, 0, none⟩ 1 1 [x] rfl
    (fun j u hj => by
      have hb := Bk.new w T [x]
      rw [add_off0 _ rfl]
      simp only [Nat.zero_add]
      exact (hb.cell j).trans hj) (fun u hu => by simp at hu; subst hu; exact hx) (by omega) (by unfold maxLen; omega) (by
        have : (n + 1) * bytes ≤ 1000001 * 24 := Nat.mul_le_mul (by omega) hbb
        omega) (by show B ≤ (w.alloc (.cells #[x] T)).heap.size; simp; omega) (w.heap.size + 1) (by show (w.alloc (.cells #[x] T)).heap.size = _; simp)
  exact ⟨g2, cap2, w2, hrun, h5, (((Kp.refl _ w).alloc _).drewN q).grown h6 (fun k hk _ => hk), h7.imp id (fun e => by omega), h8⟩

def rowV (t : Nat) (g : Nat) : Value := .slice (some ⟨g, 0, none⟩) t t
/-- The rows, made up to i. -/
def RFi1 (B : Nat) (wd : World) (n t k : Nat) (v5 v6 : Value) (w : World) : Prop :=
  ∃ (i : Nat) (gs : List Nat) (vr : Value), vr = v5 ∧ v6 = .int .i64 i ∧ i ≤ n ∧ w.ownsRow B 61 1 vr i (gs.map (rowV t)) ∧ gs.length = i ∧ (∀ g ∈ gs, B ≤ g ∧ Bk w g 4 ((List.replicate t false).map Value.bool) ∧ vr.ownBlock ≠ some g) ∧ gs.Nodup ∧ k = n - i ∧ Below B wd w
/-- The rows of the table. -/
structure BB (w : World) (B bo t : Nat) (gs : List Nat) (F : List (List Bool)) : Prop where
  len : gs.length = F.length
  out : ∀ (a : Nat) g, gs[a]? = some g → w.cell? ⟨bo, a, none⟩ = some (rowV t g)
  row : ∀ (a : Nat) g l, gs[a]? = some g → F[a]? = some l → Bk w g 4 (l.map Value.bool)
  nd : gs.Nodup
  ne : ∀ g ∈ gs, B ≤ g ∧ g ≠ bo
theorem BB.put {w : World} {B bo t : Nat} {gs : List Nat} {F : List (List Bool)} (h : BB w B bo t gs F) {a z g : Nat} {l : List Bool} (hg : gs[a]? = some g) (hl : F[a]? = some l) :
    BB (w.setCell ⟨g, z, none⟩ (.bool true)) B bo t gs (F.set a (l.set z true)) := by
  have ha : a < F.length := (List.getElem?_eq_some_iff.1 hl).1
  have hgm := List.mem_of_getElem? hg
  refine ⟨by rw [List.length_set]; exact h.len, fun b g' hb => ?_, fun b g' l' hb hl' => ?_, h.nd, h.ne⟩
  · exact ((Kp.refl (fun k => k = g) w).set (p := ⟨g, z, none⟩) (.inl rfl) _).cell (h.out b g' hb) (fun e => (h.ne g hgm).2 e.symm)
  · by_cases e : b = a
    · subst e
      rw [List.getElem?_set_self ha] at hl'
      rw [hg] at hb
      cases hl'
      cases hb
      exact ((h.row b g l hg hl).set z (.bool true)).of (by rw [List.map_set])
    · rw [List.getElem?_set_ne (fun h => e h.symm)] at hl'
      refine (h.row b g' l' hb hl').far (fun h2 => e ?_) _
      have h2 : g' = g := h2
      subst h2
      exact (List.getElem?_inj (List.getElem?_eq_some_iff.1 hb).1 h.nd).1 (hb.trans hg.symm)

def RFi2 (B : Nat) (wd : World) (bo n t : Nat) (gs : List Nat) (nul gen : Int → Bool) (ps : List (Int × List Int)) (k : Nat) (v7 : Value) (w : World) : Prop :=
  ∃ (F : List (List Bool)) (more : Bool), v7 = .bool more ∧ BB w B bo t gs F ∧ Facts.TabR ps n t nul gen F ∧ (more = false → Facts.fixT ps t nul gen F ps.length) ∧ k = 2 * Facts.cntT F + (if more then 1 else 0) ∧ Below B wd w
def RFi3 (B : Nat) (wd : World) (bo n t : Nat) (gs : List Nat) (nul gen : Int → Bool) (ps : List (Int × List Int)) (P k : Nat) (v7 v8 : Value) (w : World) : Prop :=
  ∃ (i : Nat) (F : List (List Bool)) (more : Bool), v8 = .int .i64 i ∧ v7 = .bool more ∧ i ≤ ps.length ∧ BB w B bo t gs F ∧ Facts.TabR ps n t nul gen F ∧ (more = false → Facts.fixT ps t nul gen F i) ∧
    (if more then Facts.cntT F < P else Facts.cntT F ≤ P) ∧ k = ps.length - i ∧ Below B wd w
def RFi4 (wq : World) (gen : Int → Bool) (r : List Int) (res : Bool) (k : Nat) (v11 v12 : Value) (w : World) : Prop :=
  ∃ (j : Nat) (ok : Bool), v12 = .int .i64 j ∧ v11 = .bool ok ∧ j ≤ r.length ∧ (ok && !(r.drop j).any (Facts.badS gen)) = res ∧ k = r.length - j ∧ w = wq
/-- Where a right side stands: the symbols ahead may all be empty, and what is asked for so far is there. -/
def AtK (nul : Int → Bool) (r : List Int) (j : Nat) (ok : Bool) : Prop := ok = true → Facts.terS nul r = Facts.terS nul (r.drop j) ∧ ∀ s ∈ Facts.preS nul (r.drop j), s ∈ Facts.preS nul r
def DoneK (nul : Int → Bool) (t : Nat) (F : List (List Bool)) (l : Nat) (r : List Int) (j : Nat) (ok : Bool) : Prop := (ok = true → Facts.Ob nul t F l (r.drop j)) → Facts.Ob nul t F l r
def RFi5 (B : Nat) (wd : World) (bo n t : Nat) (gs : List Nat) (nul gen : Int → Bool) (ps : List (Int × List Int)) (P i l : Nat) (r : List Int) (okS : Bool) (k : Nat) (v7 v11 v13 : Value) (w : World) : Prop :=
  ∃ (j : Nat) (ok : Bool) (F : List (List Bool)) (more : Bool), v13 = .int .i64 j ∧ v11 = .bool ok ∧ v7 = .bool more ∧ j ≤ r.length ∧ (ok = true → okS = true) ∧ AtK nul r j ok ∧ BB w B bo t gs F ∧ Facts.TabR ps n t nul gen F ∧ (more = false → Facts.fixT ps t nul gen F i ∧ (okS = true → DoneK nul t F l r j ok)) ∧
    (if more then Facts.cntT F < P else Facts.cntT F ≤ P) ∧ k = r.length - j ∧ Below B wd w
/-- What a symbol asks of the terminals below z. -/
def ObZ (F : List (List Bool)) (l : Nat) (s : Int) (z : Nat) : Prop := ∀ y, y < z → (s = -1 - (y : Int) ∨ 0 ≤ s ∧ Facts.tb F s.toNat y = true) → Facts.tb F l y = true
def RFi6 (B : Nat) (wd : World) (bo n t : Nat) (gs : List Nat) (nul gen : Int → Bool) (ps : List (Int × List Int)) (P i l : Nat) (r : List Int) (j : Nat) (s : Int) (k : Nat) (v7 v14 : Value) (w : World) : Prop :=
  ∃ (z : Nat) (F : List (List Bool)) (more : Bool), v14 = .int .i64 z ∧ v7 = .bool more ∧ z ≤ t ∧ BB w B bo t gs F ∧ Facts.TabR ps n t nul gen F ∧ (more = false → Facts.fixT ps t nul gen F i ∧ DoneK nul t F l r j true ∧ ObZ F l s z) ∧
    (if more then Facts.cntT F < P else Facts.cntT F ≤ P) ∧ k = t - z ∧ Below B wd w

theorem ObZ.snoc {F : List (List Bool)} {l : Nat} {s : Int} {z : Nat} (h : ObZ F l s z) (hz : (s = -1 - (z : Int) ∨ 0 ≤ s ∧ Facts.tb F s.toNat z = true) → Facts.tb F l z = true) : ObZ F l s (z + 1) := by
  intro y hy hs
  by_cases e : y = z
  · subst e; exact hz hs
  · exact h y (by omega) hs
/-- The symbol is told: the next one. -/
theorem DoneK.next {nul : Int → Bool} {t : Nat} {F : List (List Bool)} {l : Nat} {r : List Int} {j : Nat} (hj : j < r.length) (h : DoneK nul t F l r j true) (hz : ObZ F l r[j] t) (hlo : -(t : Int) ≤ r[j]) :
    DoneK nul t F l r (j + 1) (decide (0 ≤ r[j]) && nul r[j]) := by
  intro h2
  refine h fun _ => ?_
  rw [List.drop_eq_getElem_cons hj]
  by_cases hs : r[j] < 0
  · refine ⟨fun s hs' => ?_, fun z hz' => ?_⟩
    · unfold Facts.preS at hs'
      rw [if_pos hs] at hs'
      cases hs'
    · unfold Facts.terS at hz'
      rw [if_pos hs] at hz'
      injection hz' with hz'
      exact hz z (by omega) (.inl (by omega))
  · have hs0 : 0 ≤ r[j] := by omega
    have hmine : ∀ s : Nat, (s : Int) = r[j] → ∀ z, z < t → Facts.tb F s z = true → Facts.tb F l z = true := by
      intro s hs' z hzt hb
      exact hz z hzt (.inr ⟨hs0, by rw [← hs', Int.toNat_natCast]; exact hb⟩)
    cases hn : nul r[j] with
    | false =>
      refine ⟨fun s hs' => ?_, fun z hz' => ?_⟩
      · unfold Facts.preS at hs'
        rw [if_neg hs, hn] at hs'
        exact hmine s (by simpa using hs')
      · unfold Facts.terS at hz'
        rw [if_neg hs, hn] at hz'
        cases hz'
    | true =>
      have h3 := h2 (by rw [hn]; simp [hs0])
      refine ⟨fun s hs' => ?_, fun z hz' => ?_⟩
      · unfold Facts.preS at hs'
        rw [if_neg hs, hn, if_pos rfl] at hs'
        rcases List.mem_cons.1 hs' with e | e
        · exact hmine s e
        · exact h3.1 s e
      · unfold Facts.terS at hz'
        rw [if_neg hs, hn, if_pos rfl] at hz'
        exact h3.2 z hz'
theorem AtK.next {nul : Int → Bool} {r : List Int} {j : Nat} (hj : j < r.length) (h : AtK nul r j true) : AtK nul r (j + 1) (decide (0 ≤ r[j]) && nul r[j]) := by
  intro h2
  simp only [Bool.and_eq_true, decide_eq_true_eq] at h2
  obtain ⟨h0, h1⟩ := h2
  obtain ⟨h3, h4⟩ := h rfl
  rw [List.drop_eq_getElem_cons hj] at h3 h4
  have e1 : Facts.terS nul (r[j] :: r.drop (j + 1)) = Facts.terS nul (r.drop (j + 1)) := by rw [Facts.terS, if_neg (by omega), h1, if_pos rfl]
  have e2 : Facts.preS nul (r[j] :: r.drop (j + 1)) = r[j] :: Facts.preS nul (r.drop (j + 1)) := by rw [Facts.preS, if_neg (by omega), h1, if_pos rfl]
  rw [e1] at h3
  rw [e2] at h4
  exact ⟨h3, fun s hs => h4 s (by simp [hs])⟩
/-- A symbol that begins with z: so does the left side. -/
theorem sound_put {ps : List (Int × List Int)} {n t : Nat} {nul gen : Int → Bool} {F : List (List Bool)} (hT : Facts.TabR ps n t nul gen F) (hps : ∀ x ∈ ps, 0 ≤ x.1 ∧ x.1 < (n : Int)) {l : Nat} {r : List Int} (hx : ((l : Int), r) ∈ ps) (hok : r.any (Facts.badS gen) = false)
    {j : Nat} (hj : j < r.length) (hA : AtK nul r j true) {z : Nat} (hz : z < t) (hs : r[j] = -1 - (z : Int) ∨ 0 ≤ r[j] ∧ Facts.tb F r[j].toNat z = true) {row : List Bool} (hl : F[l]? = some row) : Facts.TabR ps n t nul gen (F.set l (row.set z true)) := by
  have hrl := hT.rl row (List.mem_of_getElem? hl)
  obtain ⟨h3, h4⟩ := hA rfl
  rw [List.drop_eq_getElem_cons hj] at h3 h4
  refine ⟨by rw [List.length_set]; exact hT.len, fun m hm => ?_, fun a z' h => ?_⟩
  · rcases List.mem_or_eq_of_mem_set hm with hm | rfl
    · exact hT.rl m hm
    · rw [List.length_set]; exact hrl
  · rw [Facts.tb_set hl (by omega)] at h
    simp only [Bool.or_eq_true, Bool.and_eq_true, beq_iff_eq] at h
    rcases h with ⟨rfl, rfl⟩ | h
    · rcases hs with hs | ⟨hs, hb⟩
      · refine Facts.fst_ter hps hx hok ?_
        show Facts.terS nul r = _
        rw [h3]
        unfold Facts.terS
        rw [if_pos (by omega), hs]
        congr 1
        omega
      · refine Facts.fst_pre hps hx hok (s := r[j]) (h4 _ ?_) ?_
        · unfold Facts.preS
          rw [if_neg (by omega)]
          split <;> simp
        · have := hT.snd _ _ hb
          rwa [Int.toNat_of_nonneg hs] at this
    · exact hT.snd a z' h

/-- What the document's First tells. -/
def RFiYes (w : World) (G : Gr) (e : Ending) (w' : World) : Prop :=
  ∃ (bo cap : Nat) (gs : List Nat) (F : List (List Bool)) (nul gen : Int → Bool), e = .returned (.slice (some ⟨bo, 0, none⟩) G.names.length cap) ∧ bo < w'.heap.size ∧ BB w' w.heap.size bo G.terms.length gs F ∧ F.length = G.names.length ∧ (∀ l ∈ F, l.length = G.terms.length) ∧
    (∀ a : Int, 0 ≤ a → (nul a = true ↔ Facts.Gen G.prods false a)) ∧ (∀ a : Int, 0 ≤ a → (gen a = true ↔ Facts.Gen G.prods true a)) ∧
    (∀ (a : Nat) (z : Int), FstOf (Facts.LS G.prods G.names.length nul gen) (Facts.FS G.prods G.names.length nul gen) a z ↔ 0 ≤ z ∧ Facts.tb F a z.toNat = true) ∧ Below w.heap.size w w'

theorem BB.at {w : World} {B bo t n : Nat} {gs : List Nat} {F : List (List Bool)} {ps : List (Int × List Int)} {nul gen : Int → Bool} (h : BB w B bo t gs F) (hT : Facts.TabR ps n t nul gen F) {d z : Nat} (hd : d < n) (hz : z < t) :
    ∃ g row, gs[d]? = some g ∧ F[d]? = some row ∧ w.cell? ⟨bo, d, none⟩ = some (.slice (some ⟨g, 0, none⟩) t t) ∧ w.cell? ⟨g, z, none⟩ = some (.bool (Facts.tb F d z)) ∧ w.frozen? ⟨g, z, none⟩ = false ∧ row[z]? = some (Facts.tb F d z) ∧ B ≤ g := by
  have hF : d < F.length := by rw [hT.len]; exact hd
  have hg : d < gs.length := by rw [h.len]; exact hF
  have h1 : gs[d]? = some gs[d] := List.getElem?_eq_getElem hg
  have h2 : F[d]? = some F[d] := List.getElem?_eq_getElem hF
  have hrl := hT.rl F[d] (List.getElem_mem hF)
  have e : F[d][z]? = some (Facts.tb F d z) := by
    have e2 : F.getD d [] = F[d] := by simp [List.getD, h2]
    unfold Facts.tb
    rw [e2]
    simp [List.getD, List.getElem?_eq_getElem (show z < F[d].length by omega)]
  have hb := h.row d _ _ h1 h2
  refine ⟨_, _, h1, h2, h.out d _ h1, ?_, hb.free z, e, (h.ne _ (List.getElem_mem hg)).1⟩
  rw [hb.cell, List.getElem?_map, e]
  rfl
theorem tb_rep (n t a z : Nat) : Facts.tb (List.replicate n (List.replicate t false)) a z = false := by
  unfold Facts.tb
  rcases Nat.lt_or_ge a n with h | h
  · have e : (List.replicate n (List.replicate t false)).getD a [] = List.replicate t false := by simp [List.getD, h]
    rw [e]
    rcases Nat.lt_or_ge z t with h2 | h2 <;> simp [List.getD, h2]
  · have e : (List.replicate n (List.replicate t false)).getD a [] = [] := by simp [List.getD, h]
    rw [e]
    rfl
theorem boolsInfo : (Try.prog.info? 61).map (fun i => (i.zero, i.size, i.bytes)) = some (some (.slice none 0 0), 1, 24) := by kernel_rfl
theorem TabR.start (ps : List (Int × List Int)) (n t : Nat) (nul gen : Int → Bool) : Facts.TabR ps n t nul gen (List.replicate n (List.replicate t false)) :=
  ⟨by simp, fun l hl => by rw [(List.mem_replicate.1 hl).2]; simp, fun a z h => by rw [tb_rep] at h; cases h⟩
theorem ob_nil (nul : Int → Bool) (t : Nat) (F : List (List Bool)) (l : Nat) : Facts.Ob nul t F l [] := ⟨fun s hs => by simp [Facts.preS] at hs, fun z hz => by simp [Facts.terS] at hz⟩
theorem gen_lt {ps : List (Int × List Int)} {n : Int} {T : Bool} (hps : ∀ x ∈ ps, 0 ≤ x.1 ∧ x.1 < n) {a : Int} (h : Facts.Gen ps T a) : a < n := by
  induction h with
  | mk x hx _ _ _ => exact (hps x hx).2
theorem fixT_snoc {ps : List (Int × List Int)} {t : Nat} {nul gen : Int → Bool} {F : List (List Bool)} {i : Nat} {x : Int × List Int} (hx : ps[i]? = some x) (h : Facts.fixT ps t nul gen F i) (hh : x.2.any (Facts.badS gen) = false → Facts.Ob nul t F x.1.toNat x.2) : Facts.fixT ps t nul gen F (i + 1) := by
  intro j y hj hy hb
  by_cases e : j = i
  · subst e
    rw [hx] at hy
    cases hy
    exact hh hb
  · exact h j y (by omega) hy hb

set_option maxHeartbeats 16000000 in
set_option maxRecDepth 100000 in
theorem rfirst_calls (w : World) (G : Gr) (gn gt gp : Option Addr) (cn ct cp : Nat) (h : GIn w G gn gt gp) (hs : Pl.soundB G = true) :
    Calls Try.prog 43 #[.agg #[.int .i64 G.start, .int .i64 G.rules, .slice gn G.names.length cn, .slice gt G.terms.length ct, .slice gp G.prods.length cp]] w (RFiYes w G) := by
  obtain ⟨i4, hi4, z0, z1, z2⟩ := info_parts boolInfo
  obtain ⟨i5, hi5, y0, y1, y2⟩ := info_parts boolsInfo
  have Hsg := hid (sndG hs)
  have Hs := hid hs
  have hn0 := Hsg.out.n0
  have hn1 := Hsg.out.n1
  have ht1 := Hsg.out.t1
  have hp1 := Hsg.out.p1
  have hb0 : Below w.heap.size w (w.alloc (.cells #[.int .i64 G.start, .int .i64 G.rules, .slice gn G.names.length cn, .slice gt G.terms.length ct, .slice gp G.prods.length cp] 57)) := (Below.refl _ _).alloc (Nat.le_refl _) _
  have hbk : Bk (w.alloc (.cells #[.int .i64 G.start, .int .i64 G.rules, .slice gn G.names.length cn, .slice gt G.terms.length ct, .slice gp G.prods.length cp] 57)) w.heap.size 57 [.int .i64 G.start, .int .i64 G.rules, .slice gn G.names.length cn, .slice gt G.terms.length ct, .slice gp G.prods.length cp] := Bk.new w _ _
  go_enter Try.func43, Try.ntmps43
  go_upto_region 1 with (fail)
  obtain ⟨wd, hwd⟩ : ∃ wd, wd = (w.alloc (.cells #[.int .i64 G.start, .int .i64 G.rules, .slice gn G.names.length cn, .slice gt G.terms.length ct, .slice gp G.prods.length cp] 57)) := ⟨_, rfl⟩
  obtain ⟨bb, hbb⟩ : ∃ bb, bb = w.heap.size := ⟨_, rfl⟩
  have hzd : wd.heap.size = bb + 1 := by rw [hwd, hbb]; simp
  rw [← hwd] at hb0 hbk ⊢
  rw [← hbb] at hbk ⊢
  have hgd : ∀ W, Below (bb + 1) wd W → GIn W G gn gt gp := fun W hW => h.later (hb0.trans (hW.mono (by rw [hbb]; exact Nat.le_succ _)))
  have hcd : ∀ W, Below (bb + 1) wd W → W.cell? ⟨bb, 0, none⟩ = some (.int .i64 G.start) ∧ W.cell? ⟨bb, 1, none⟩ = some (.int .i64 G.rules) ∧ W.cell? ⟨bb, 2, none⟩ = some (.slice gn G.names.length cn) ∧ W.cell? ⟨bb, 3, none⟩ = some (.slice gt G.terms.length ct) ∧ W.cell? ⟨bb, 4, none⟩ = some (.slice gp G.prods.length cp) := fun W hW => by
    have k := hbk.below hW (by omega)
    exact ⟨k.cell 0, k.cell 1, k.cell 2, k.cell 3, k.cell 4⟩
  have HG := hid hgd
  have HC := hid hcd
  have Hbb := hid hbb
  have Hzd := hid hzd
  have Hb0 := hid hb0
  have H0 : Hid (Below (bb + 1) wd wd.drew) := hid (below_drewN (Below.refl _ _) 1)
  obtain ⟨e00, e01, e02, e03, e04⟩ := hcd wd.drew H0.out
  clear hwd hbb hzd hgd hcd hbk h hs hb0
  go_region_held3 (fun w' => w'.cell? ⟨bb, 0, none⟩ = some (.int .i64 G.start) ∧ w'.cell? ⟨bb, 1, none⟩ = some (.int .i64 G.rules) ∧ w'.cell? ⟨bb, 2, none⟩ = some (.slice gn G.names.length cn) ∧ w'.cell? ⟨bb, 3, none⟩ = some (.slice gt G.terms.length ct) ∧ w'.cell? ⟨bb, 4, none⟩ = some (.slice gp G.prods.length cp) ∧ Hid (Below (bb + 1) wd w'))
    (first | exact ⟨‹_›, ‹_›, ‹_›, ‹_›, ‹_›, ‹_›⟩ | exact ⟨e00, e01, e02, e03, e04, H0⟩)
    (first | (go_at_call 34; refine (rnull_calls _ G gn gt gp cn ct cp (HG.out _ (Hid.out H0)) Hs.out).mono ?_; rintro e u1 ⟨gnu, capn, nb, rfl, hnl, hnr, hnp, hb1⟩; have H1 : Hid (Below (bb + 1) wd u1) := hid (Below.trans (Hid.out H0) (hb1.mono (by have := (Hid.out H0).size; have := Hzd.out; omega))); obtain ⟨e10, e11, e12, e13, e14⟩ := HC.out u1 (Hid.out H1)) | (go_at_call 30; refine (rshort_calls _ G gn gt gp cn ct cp (HG.out _ (Hid.out H1)) Hs.out).mono ?_; rintro e u2 ⟨gsh, caps, ks, rfl, hge, hks, hsho, hfix, hb2⟩; have H2 : Hid (Below (bb + 1) wd u2) := hid (Below.trans (Hid.out H1) (hb2.mono (by have := (Hid.out H0).size; have := (Hid.out H1).size; have := Hzd.out; omega))); obtain ⟨e20, e21, e22, e23, e24⟩ := HC.out u2 (Hid.out H2)))
  obtain ⟨B, hB⟩ : ∃ B, B = u2.heap.size := ⟨_, rfl⟩
  have hBz : bb + 1 ≤ B := by have := (Hid.out H0).size; have := (Hid.out H1).size; have := hb2.size; have := Hzd.out; omega
  have rnu : RowB u2 B gnu nb := by rw [hB]; exact (hnr.below hb2).mono hb2.size
  have rks : RowI u2 B (some ⟨gsh, 0, none⟩) ks := by rw [hB]; exact bk_rowI hks
  have HB : Hid (∀ W, Below B u2 W → Below (bb + 1) wd W) := hid fun W hW => (Hid.out H2).trans (hW.mono hBz)
  have HCL : Hid (∀ W, Below B u2 W → W.cell? ⟨bb, 0, none⟩ = some (.int .i64 G.start) ∧ W.cell? ⟨bb, 1, none⟩ = some (.int .i64 G.rules) ∧ W.cell? ⟨bb, 2, none⟩ = some (.slice gn G.names.length cn) ∧ W.cell? ⟨bb, 3, none⟩ = some (.slice gt G.terms.length ct) ∧ W.cell? ⟨bb, 4, none⟩ = some (.slice gp G.prods.length cp)) := hid fun W hW => HC.out W (HB.out W hW)
  have rp : RowP u2 B gp G.prods := by rw [hB]; exact (HG.out u2 (Hid.out H2)).p
  obtain ⟨nul, hnul⟩ : ∃ nul, nul = Facts.inB nb := ⟨_, rfl⟩
  obtain ⟨gen, hgen⟩ : ∃ gen, gen = Facts.inB (ks.map fun k => decide (0 ≤ k)) := ⟨_, rfl⟩
  have Hps : Hid (∀ x ∈ G.prods, 0 ≤ x.1 ∧ x.1 < (G.names.length : Int)) := hid fun x hx => ⟨Hsg.out.l0 x hx, Hsg.out.l1 x hx⟩
  have Hgen : Hid (∀ a : Int, 0 ≤ a → (gen a = true ↔ Facts.Gen G.prods true a)) := by
    refine hid fun a ha => ?_
    obtain ⟨d, rfl⟩ := Int.eq_ofNat_of_zero_le ha
    rw [hgen]
    unfold Facts.inB
    rw [Int.toNat_natCast]
    by_cases hd : d < G.names.length
    · have h1 := Facts.gen_sho hsho hfix (a := (d : Int)) ha (by omega)
      rw [h1]
      have hk : d < ks.length := by rw [hsho.len]; exact hd
      simp [Facts.atK, List.getD, List.getElem?_eq_getElem hk]
    · constructor
      · intro h
        exfalso
        rw [List.getD, List.getElem?_eq_none (by simp [hsho.len]; omega)] at h
        cases h
      · intro hg
        exfalso
        have := gen_lt Hps.out hg
        omega
  have Hnul : Hid (∀ a : Int, 0 ≤ a → (nul a = true ↔ Facts.Gen G.prods false a)) := hid (by rw [hnul]; exact hnp)
  have hnv : ∀ d : Nat, d < G.names.length → ∃ g off, gnu = some ⟨g, off, none⟩ ∧ g < B ∧ u2.cell? ⟨g, off + d, none⟩ = some (.bool (nul d)) := by
    intro d hd
    have hdb : d < nb.length := by rw [hnl]; exact hd
    obtain ⟨g, off, h1, h2, h3⟩ := rnu.at hdb
    refine ⟨g, off, h1, h2, ?_⟩
    rw [h3, hnul]
    simp [Facts.inB, List.getD, List.getElem?_eq_getElem hdb]
  have hkv : ∀ d : Nat, d < G.names.length → ∃ kd : Int, u2.cell? ⟨gsh, d, none⟩ = some (.int .i64 kd) ∧ gsh < B ∧ gen d = decide (0 ≤ kd) := by
    intro d hd
    have hdb : d < ks.length := by rw [hsho.len]; exact hd
    obtain ⟨g, off, h1, h2, h3⟩ := rks.at hdb
    injection h1 with h1
    injection h1 with h1 h4 _
    subst h1 h4
    rw [Nat.zero_add] at h3
    refine ⟨ks[d], h3, h2, ?_⟩
    rw [hgen]
    simp [Facts.inB, List.getD, List.getElem?_eq_getElem hdb]
  have Hnv := hid hnv
  have Hkv := hid hkv
  have HBe := hid hB
  have hown0 : u2.ownsRow B 61 1 (.slice none 0 0) 0 ([] : List Value) := ⟨rfl, .inl ⟨rfl, rfl⟩⟩
  have hbr0 : Below B u2 u2 := Below.refl _ _
  clear hnul hgen rnu rks hnv hkv hnl hnr hnp hks hsho hfix hge hb1 hb2 hB H0 H1 H2 HC HG e00 e01 e02 e03 e04 e10 e11 e12 e13 e14 e20 e21 e22 e23 e24
  go_wp2_with fail
  go_loopg [5, 6] G.names.length (fun k v5 v6 wr => RFi1 B u2 G.names.length G.terms.length k v5 v6 wr)
  case atStart => exact ⟨0, [], _, rfl, rfl, by omega, hown0, rfl, (fun g hg => by simp at hg), List.nodup_nil, rfl, hbr0⟩
  case round =>
    clear hown0 hbr0
    obtain ⟨i, gs, v5, rfl, rfl, hi, hown, hgl, hgs, hnd, hk, hb⟩ := hrel
    have Hk := hid hk
    have Hgl := hid hgl
    have Hgs := hid hgs
    have Hnd := hid hnd
    clear hk hgl hgs hnd
    obtain ⟨q0, q1, q2, q3, q4⟩ := HCL.out wr hb
    have hzr := hb.size
    by_cases hlt : i < G.names.length
    · have hlt' : (i : Int) < (G.names.length : Int) := by omega
      have hBr : B ≤ wr.heap.size := by have := HBe.out; omega
      go_wp2_with (first
        | (at_make; refine wpList_make_bk _ rfl _ _ _ rfl 4 i4 _ Try.underlying61 hi4 z0 z1 rfl _ _ G.terms.length rfl rfl rfl rfl (by rw [z2]; omega) (by omega) ?_; intro w3 hbc hk3; obtain ⟨g2, cap2, w4, hrun, hon2, hk4, hg2, hl2⟩ := row_app (P := Try.prog) (own_kp hown hk3 (fun _ _ h => h)) 79 79 i5 (.slice none 0 0) 24 Try.underlying79 hi5 y0 y1 y2 rfl (by omega) (Nat.le_trans hBr hk3.size) (by omega) (.slice (some ⟨wr.heap.size, 0, none⟩) G.terms.length G.terms.length) rfl 0)
        | (at_builtin; refine wpList_append_run rfl _ _ _ rfl _ (.slice (some ⟨w3.heap.size, 0, none⟩) 1 1) (.slice (some ⟨g2, 0, none⟩) (i + 1) cap2) w4 (by rfl) (by rfl) (by exact hrun) ?_))
      go_roundg (G.names.length - (i + 1))
      case measure => have hk := Hk.out; omega
      case rel =>
        have hbc2 : Bk w3 wr.heap.size 4 ((List.replicate G.terms.length false).map Value.bool) := hbc.of (by simp)
        have hw3 := hbc2.lt
        refine ⟨i + 1, gs ++ [wr.heap.size], _, rfl, by go_num, by omega, by rw [List.map_append]; exact hon2, by simp [Hgl.out], ?_, ?_, rfl, ?_⟩
        · intro g hg
          rcases List.mem_append.1 hg with hg | hg
          · obtain ⟨h1, h2, h3⟩ := Hgs.out g hg
            refine ⟨h1, (h2.kp hk3 (fun e => e)).kp hk4 h3, fun e => ?_⟩
            have e : g2 = g := by simpa [Value.ownBlock] using e
            subst e
            rcases hg2 with hg2 | hg2
            · exact h3 hg2
            · have := h2.lt
              omega
          · have hg : g = wr.heap.size := by simpa using hg
            subst hg
            have hnb : v5.ownBlock ≠ some wr.heap.size := fun e => by
              have := (World.ownsRow.lt hown _ e).2
              omega
            refine ⟨hBr, hbc2.kp hk4 hnb, fun e => ?_⟩
            have e : g2 = wr.heap.size := by simpa [Value.ownBlock] using e
            rcases hg2 with hg2 | hg2
            · rw [e] at hg2; exact hnb hg2
            · omega
        · rw [List.nodup_append]
          refine ⟨Hnd.out, by simp, fun a ha b hb' e => ?_⟩
          have hb' : b = wr.heap.size := by simpa using hb'
          have := (Hgs.out a ha).2.1.lt
          omega
        · exact hb.trans ((hk3.to_below (Nat.le_refl _) (fun k hk => hk.elim)).mono hBr) |>.trans (hk4.to_below (B := B) (Nat.le_trans hBr hk3.size) (fun k e => (World.ownsRow.lt hown k e).1))
    · have hge : ¬ (i : Int) < (G.names.length : Int) := by omega
      have hin : i = G.names.length := by omega
      subst hin
      rcases hown.2 with ⟨-, h0⟩ | ⟨bo, cap, cur, rfl, hbo, hh, hr⟩
      · omega
      have hBB : BB wr B bo G.terms.length gs (List.replicate G.names.length (List.replicate G.terms.length false)) := by
        refine ⟨by rw [Hgl.out]; simp, fun a g hg => ?_, fun a g l hg hl => ?_, Hnd.out, fun g hg => ⟨(Hgs.out g hg).1, fun e => (Hgs.out g hg).2.2 (by rw [e]; rfl)⟩⟩
        · have h1 := hown.cells (g := bo) rfl a (rowV G.terms.length g) (by rw [List.getElem?_map, hg]; rfl)
          rwa [show ((⟨bo, 0, none⟩ : Addr).add a) = ⟨bo, a, none⟩ by unfold Addr.add; split <;> simp_all] at h1
        · have h1 : l = List.replicate G.terms.length false := by
            have := List.mem_of_getElem? hl
            exact (List.mem_replicate.1 this).2
          rw [h1]
          exact (Hgs.out g (List.mem_of_getElem? hg)).2.1
      have hbz : bo < wr.heap.size := (World.ownsRow.lt hown bo rfl).2
      have hstart := TabR.start G.prods G.names.length G.terms.length nul gen
      have Hstart := hid hstart
      have Hbz := hid hbz
      have Hbo := hid hbo
      clear hown hh hr hstart hbz hbo Hgs Hnd Hk hi hlt hzr
      go_wp2_with fail
      clear hge q0 q1 q2 q3 q4
      go_loopg [7] (2 * Facts.cntT (List.replicate G.names.length (List.replicate G.terms.length false)) + 1) (fun k v7 wq => RFi2 B u2 bo G.names.length G.terms.length gs nul gen G.prods k v7 wq ∧ bo < wq.heap.size)
      case atStart => exact ⟨⟨_, true, rfl, hBB, Hstart.out, (fun h => by cases h), rfl, hb⟩, Hbz.out⟩
      case round =>
        clear hBB hb Hstart Hbz
        obtain ⟨⟨F, more, rfl, hBB, hT, hfix, hk, hb⟩, hbz⟩ := hrel
        have Hk := hid hk
        have HT := hid hT
        have Hbz := hid hbz
        have Hfix : Hid (more = false → Facts.fixT G.prods G.terms.length nul gen F G.prods.length) := hid hfix
        clear hk hT hfix hbz
        rcases Bool.eq_false_or_eq_true more with hmr | hmr
        rotate_left
        · have hfx := Hid.out Hfix hmr
          have Hfx := hid hfx
          subst hmr
          clear Hfix hfx
          go_wp2_with fail
          go_ret
          refine ⟨bo, cap, gs, F, nul, gen, rfl, Hbz.out, ⟨hBB.len, hBB.out, hBB.row, hBB.nd, fun g hg => ⟨?_, (hBB.ne g hg).2⟩⟩, HT.out.len, HT.out.rl, Hnul.out, Hgen.out, fun a z => ?_, Hb0.out.trans ((HB.out wr hb).mono (by rw [Hbb.out]; exact Nat.le_succ _))⟩
          · have := (hBB.ne g hg).1
            have := Hbb.out
            omega
          · exact HT.out.least Hps.out Hsg.out.r0 Hfx.out a z
        · subst hmr
          clear Hfix
          go_wp2_with fail
          go_loopg [7, 8] G.prods.length (fun k v7 v8 wq => RFi3 B u2 bo G.names.length G.terms.length gs nul gen G.prods (Facts.cntT F) k v7 v8 wq ∧ bo < wq.heap.size)
          case atStart => exact ⟨⟨0, F, false, rfl, rfl, by omega, hBB, HT.out, fun _ j x hj => by omega, by simp, rfl, hb⟩, Hbz.out⟩
          case round =>
            clear hBB hb Hbz HT
            obtain ⟨⟨i, F2, more, rfl, rfl, hi, hBB, hT, hfix, hpot, hki, hb⟩, hbz⟩ := hrel
            have Hki := hid hki
            have HT := hid hT
            have Hbz := hid hbz
            have Hfix2 : Hid (more = false → Facts.fixT G.prods G.terms.length nul gen F2 i) := hid hfix
            have Hpot := hid hpot
            clear hki hT hfix hpot hbz
            obtain ⟨q0, q1, q2, q3, q4⟩ := HCL.out wr hb
            by_cases hlt : i < G.prods.length
            · have hlt' : (i : Int) < (G.prods.length : Int) := by omega
              have hi0 : (0 : Int) ≤ (i : Int) := by omega
              obtain ⟨x, hx⟩ : ∃ x, x = G.prods[i] := ⟨_, rfl⟩
              have hxm : x ∈ G.prods := by rw [hx]; exact List.getElem_mem hlt
              have hxi : G.prods[i]? = some x := by rw [hx]; exact List.getElem?_eq_getElem hlt
              have hr16 := Hsg.out.r16 x hxm
              have hl0 := Hsg.out.l0 x hxm
              have hl1 := Hsg.out.l1 x hxm
              have Hs0 := hid (Hsg.out.r0 x hxm)
              have Hs1 := hid (Hsg.out.r1 x hxm)
              obtain ⟨g', off, gr, cr, rfl, hg', hd0, hd1, hrid⟩ := rp i _ hxi
              have hc0 := (hb.cell (p := ⟨g', off + i * 2, none⟩) hg').trans hd0
              have hc1 := (hb.cell (p := ⟨g', off + i * 2 + 1, none⟩) hg').trans hd1
              obtain ⟨l, r⟩ := x
              simp only at hr16 hl0 hl1 hc0 hc1 hd0 hd1 hrid Hs0 Hs1
              obtain ⟨a, rfl⟩ := Int.eq_ofNat_of_zero_le hl0
              have Hxi := hid hxi
              have Hxm := hid hxm
              obtain ⟨okS, hokS⟩ : ∃ okS, okS = !(r.any (Facts.badS gen)) := ⟨_, rfl⟩
              have HokS := hid hokS
              clear hx hxi hxm hd0 hd1 hokS
              go_wp2_with fail
              clear hc0 hc1 q0 q1 q2 q3 q4
              go_loopg [11, 12] r.length (fun k v11 v12 wq => RFi4 wr gen r okS k v11 v12 wq)
              case atStart => exact ⟨0, true, rfl, rfl, by omega, by rw [List.drop_zero, Bool.true_and]; exact HokS.out.symm, rfl, rfl⟩
              case round =>
                obtain ⟨j, ok, rfl, rfl, hj, hst, hk, rfl⟩ := hrel
                have Hkj := hid hk
                clear hk
                have hri := hrid.below hb
                by_cases hlj : j < r.length
                · have hlj' : (j : Int) < (r.length : Int) := by omega
                  have hj0 : (0 : Int) ≤ (j : Int) := by omega
                  obtain ⟨s, hs⟩ : ∃ s, s = r[j] := ⟨_, rfl⟩
                  have hsm : s ∈ r := by rw [hs]; exact List.getElem_mem hlj
                  have hs1 := Hs1.out s hsm
                  obtain ⟨gr', ofr, rfl, hgr, hcr⟩ := hri.at hlj
                  rw [← hs] at hcr
                  rw [List.drop_eq_getElem_cons hlj, ← hs, List.any_cons] at hst
                  clear hs hsm
                  cases ok with
                  | false =>
                    have Hst := hid hst
                    clear hst
                    go_wp2_with fail
                    go_roundg (r.length - (j + 1))
                    case measure => have hk := Hkj.out; omega
                    case rel => exact ⟨j + 1, false, by go_num, rfl, by omega, by rw [← Hst.out]; rfl, rfl, rfl⟩
                  | true =>
                    by_cases hpos : s < 0
                    · have Hst := hid hst
                      clear hst
                      go_wp2_with fail
                      go_roundg (r.length - (j + 1))
                      case measure => have hk := Hkj.out; omega
                      case rel => exact ⟨j + 1, true, by go_num, rfl, by omega, by rw [← Hst.out]; simp [Facts.badS]; omega, rfl, rfl⟩
                    · obtain ⟨d, rfl⟩ := Int.eq_ofNat_of_zero_le (show 0 ≤ s by omega)
                      obtain ⟨kd, hkd, hgb, hgd⟩ := Hkv.out d (by omega)
                      have hck := (hb.cell (p := ⟨gsh, d, none⟩) hgb).trans hkd
                      have hst2 : (decide (0 ≤ kd) && !(r.drop (j + 1)).any (Facts.badS gen)) = okS := by
                        rw [← hst, ← hgd]
                        simp [Facts.badS]
                      have Hst := hid hst2
                      have hdn : (d : Int) < (G.names.length : Int) := hs1
                      clear hst hst2 hkd hgd
                      go_wp2_with fail
                      go_roundg (r.length - (j + 1))
                      case measure => have hk := Hkj.out; omega
                      case rel => exact ⟨j + 1, decide (0 ≤ kd), by go_num, rfl, by omega, Hst.out, rfl, rfl⟩
                · have hge : ¬ (j : Int) < (r.length : Int) := by omega
                  have hok : ok = okS := by rw [← hst, List.drop_eq_nil_of_le (by omega)]; simp
                  subst hok
                  clear hst hri
                  go_wp2_with fail
                  clear hge
                  have hoks : ok = true → r.any (Facts.badS gen) = false := fun h => by have h2 := HokS.out; rw [h] at h2; simpa using h2.symm
                  have hoks2 : r.any (Facts.badS gen) = false → ok = true := fun h => by have h2 := HokS.out; rw [h] at h2; exact h2
                  have Hoks : Hid (ok = true → r.any (Facts.badS gen) = false) := hid hoks
                  have Hoks2 : Hid (r.any (Facts.badS gen) = false → ok = true) := hid hoks2
                  clear hoks hoks2 HokS Hkj hj hlj
                  go_loopg [7, 11, 13] r.length (fun k v7 v11 v13 wq => RFi5 B u2 bo G.names.length G.terms.length gs nul gen G.prods (Facts.cntT F) i a r ok k v7 v11 v13 wq ∧ bo < wq.heap.size)
                  case atStart => exact ⟨⟨0, ok, F2, more, rfl, rfl, rfl, by omega, fun h => h, (fun _ => ⟨by rw [List.drop_zero], fun s h => by rwa [List.drop_zero] at h⟩), hBB, HT.out, fun hm => ⟨Hid.out Hfix2 hm, fun he h => by have h2 := h he; rwa [List.drop_zero] at h2⟩, Hpot.out, rfl, hb⟩, Hbz.out⟩
                  case round =>
                    clear hBB hb Hbz HT Hfix2 Hpot
                    obtain ⟨⟨j, ok2, F3, more, rfl, rfl, rfl, hj, himp, hat, hBB, hT, hfix, hpot, hk, hb⟩, hbz⟩ := hrel
                    have Hkj := hid hk
                    have HT := hid hT
                    have Hbz := hid hbz
                    have Hat := hid hat
                    have Himp : Hid (ok2 = true → ok = true) := hid himp
                    have Hfix3 : Hid (more = false → Facts.fixT G.prods G.terms.length nul gen F3 i ∧ (ok = true → DoneK nul G.terms.length F3 a r j ok2)) := hid hfix
                    have Hpot := hid hpot
                    clear hk hT hfix hpot hbz hat himp
                    have hri := hrid.below hb
                    by_cases hlj : j < r.length
                    · have hlj' : (j : Int) < (r.length : Int) := by omega
                      have hj0 : (0 : Int) ≤ (j : Int) := by omega
                      cases ok2 with
                      | false =>
                        have hnx : more = false → Facts.fixT G.prods G.terms.length nul gen F3 (i + 1) := fun hm => fixT_snoc Hxi.out (Hid.out Hfix3 hm).1 fun hbad => by
                          show Facts.Ob nul G.terms.length F3 ((a : Int)).toNat r
                          rw [Int.toNat_natCast]
                          exact (Hid.out Hfix3 hm).2 (Hid.out Hoks2 hbad) (fun h => by cases h)
                        have Hnx : Hid (more = false → Facts.fixT G.prods G.terms.length nul gen F3 (i + 1)) := hid hnx
                        clear hnx Hfix3
                        go_wp2_with fail
                        go_roundg (G.prods.length - (i + 1))
                        case measure => have hk := Hki.out; omega
                        case rel => exact ⟨⟨i + 1, F3, more, by go_num, rfl, by omega, hBB, HT.out, Hid.out Hnx, Hpot.out, rfl, hb⟩, Hbz.out⟩
                      | true =>
                        have hokt := Hid.out Himp rfl
                        have hbad := Hid.out Hoks hokt
                        obtain ⟨s, hs⟩ : ∃ s, s = r[j] := ⟨_, rfl⟩
                        have hsm : s ∈ r := by rw [hs]; exact List.getElem_mem hlj
                        have hs0 := Hs0.out s hsm
                        have hs1 := Hs1.out s hsm
                        have Hs := hid hs
                        have Hbad := hid hbad
                        have Hokt := hid hokt
                        clear hs hsm hbad hokt
                        go_wp2_with fail
                        go_loopg [7, 14] G.terms.length (fun k v7 v14 wq => RFi6 B u2 bo G.names.length G.terms.length gs nul gen G.prods (Facts.cntT F) i a r j s k v7 v14 wq ∧ bo < wq.heap.size)
                        case atStart => exact ⟨⟨0, F3, more, rfl, rfl, by omega, hBB, HT.out, fun hm => ⟨(Hid.out Hfix3 hm).1, (Hid.out Hfix3 hm).2 Hokt.out, fun y hy => by omega⟩, Hpot.out, rfl, hb⟩, Hbz.out⟩
                        case round =>
                          clear hBB hb Hbz HT Hfix3 Hpot hri
                          obtain ⟨⟨z, F4, more, rfl, rfl, hz, hBB, hT, hfix, hpot, hk, hb⟩, hbz⟩ := hrel
                          have Hkz := hid hk
                          have Hbz := hid hbz
                          have Hfix4 : Hid (more = false → Facts.fixT G.prods G.terms.length nul gen F4 i ∧ DoneK nul G.terms.length F4 a r j true ∧ ObZ F4 a s z) := hid hfix
                          have Hpot := hid hpot
                          clear hk hfix hpot hbz
                          obtain ⟨q0, q1, q2, q3, q4⟩ := HCL.out wr hb
                          obtain ⟨gr', ofr, rfl, hgr, hcr⟩ := (hrid.below hb).at hlj
                          rw [← Hs.out] at hcr
                          by_cases hzt : z < G.terms.length
                          · have hzt' : (z : Int) < (G.terms.length : Int) := by omega
                            have hz0 : (0 : Int) ≤ (z : Int) := by omega
                            obtain ⟨gl, rowl, hgl, hrl, cl1, cl2, fl, hbit, hBgl⟩ := hBB.at hT (d := a) (z := z) (by omega) hzt
                            obtain ⟨vl, hvl⟩ : ∃ vl, vl = Facts.tb F4 a z := ⟨_, rfl⟩
                            rw [← hvl] at cl2 hbit
                            have HT := hid hT
                            have hput : (r[j] = -1 - (z : Int) ∨ 0 ≤ r[j] ∧ Facts.tb F4 r[j].toNat z = true) → vl = false → BB (wr.setCell ⟨gl, z, none⟩ (.bool true)) B bo G.terms.length gs (F4.set a (rowl.set z true)) ∧ Facts.TabR G.prods G.names.length G.terms.length nul gen (F4.set a (rowl.set z true)) ∧ Facts.cntT (F4.set a (rowl.set z true)) + 1 = Facts.cntT F4 ∧ Below B u2 (wr.setCell ⟨gl, z, none⟩ (.bool true)) ∧ bo < (wr.setCell ⟨gl, z, none⟩ (.bool true)).heap.size := by
                              intro h1 h2
                              exact ⟨hBB.put hgl hrl, sound_put HT.out Hps.out Hxm.out Hbad.out hlj Hat.out hzt h1 hrl, Facts.cntT_set hrl (by rw [hbit, h2]), hb.setCell (p := ⟨gl, z, none⟩) (by exact hBgl) _, by rw [setCell_size]; exact Hbz.out⟩
                            rw [← Hs.out] at hput
                            have Hput : Hid ((s = -1 - (z : Int) ∨ 0 ≤ s ∧ Facts.tb F4 s.toNat z = true) → vl = false → BB (wr.setCell ⟨gl, z, none⟩ (.bool true)) B bo G.terms.length gs (F4.set a (rowl.set z true)) ∧ Facts.TabR G.prods G.names.length G.terms.length nul gen (F4.set a (rowl.set z true)) ∧ Facts.cntT (F4.set a (rowl.set z true)) + 1 = Facts.cntT F4 ∧ Below B u2 (wr.setCell ⟨gl, z, none⟩ (.bool true)) ∧ bo < (wr.setCell ⟨gl, z, none⟩ (.bool true)).heap.size) := hid hput
                            have Hvl := hid hvl
                            clear hput hvl hgl hrl hbit
                            by_cases hneg : s < 0
                            · by_cases hse : s = -1 - (z : Int)
                              · have hsb : (s == -1 - (z : Int)) = true := by simp [hse]
                                cases vl with
                                | true =>
                                  have Hse := hid hse
                                  clear hse hT
                                  go_wp2_with fail
                                  go_roundg (G.terms.length - (z + 1))
                                  case measure => have hk := Hkz.out; omega
                                  case rel => exact ⟨⟨z + 1, F4, more, by go_num, rfl, by omega, hBB, HT.out, fun hm => ⟨(Hid.out Hfix4 hm).1, (Hid.out Hfix4 hm).2.1, (Hid.out Hfix4 hm).2.2.snoc fun _ => Hvl.out.symm⟩, Hpot.out, rfl, hb⟩, Hbz.out⟩
                                | false =>
                                  obtain ⟨p1, p2, p3, p4, p5⟩ := Hid.out Hput (.inl hse) rfl
                                  have Hse := hid hse
                                  have P1 := hid p1
                                  have P2 := hid p2
                                  have P3 := hid p3
                                  have P4 := hid p4
                                  have P5 := hid p5
                                  clear hse hT p1 p2 p3 p4 p5
                                  go_wp2_with fail
                                  go_roundg (G.terms.length - (z + 1))
                                  case measure => have hk := Hkz.out; omega
                                  case rel => exact ⟨⟨z + 1, _, true, by go_num, rfl, by omega, P1.out, P2.out, (fun h => by cases h), by have h1 := P3.out; have h2 := Hpot.out; simp; cases more <;> simp at h2 <;> omega, rfl, P4.out⟩, P5.out⟩
                              · have hsb : (s == -1 - (z : Int)) = false := by simp [hse]
                                have Hse : Hid (¬ s = -1 - (z : Int)) := hid hse
                                clear hse hT
                                go_wp2_with fail
                                go_roundg (G.terms.length - (z + 1))
                                case measure => have hk := Hkz.out; omega
                                case rel => exact ⟨⟨z + 1, F4, more, by go_num, rfl, by omega, hBB, HT.out, fun hm => ⟨(Hid.out Hfix4 hm).1, (Hid.out Hfix4 hm).2.1, (Hid.out Hfix4 hm).2.2.snoc fun h => by rcases h with h | ⟨h, -⟩; (exact absurd h Hse.out); omega⟩, Hpot.out, rfl, hb⟩, Hbz.out⟩
                            · obtain ⟨d, rfl⟩ := Int.eq_ofNat_of_zero_le (show 0 ≤ s by omega)
                              have hsb : ((d : Int) == -1 - (z : Int)) = false := by rw [beq_eq_false_iff_ne]; omega
                              obtain ⟨gd, rowd, -, -, cd1, cd2, -, -, -⟩ := hBB.at hT (d := d) (z := z) (by omega) hzt
                              obtain ⟨vd, hvd⟩ : ∃ vd, vd = Facts.tb F4 d z := ⟨_, rfl⟩
                              rw [← hvd] at cd2
                              have hdn : (d : Int) < (G.names.length : Int) := hs1
                              have hd0 : (0 : Int) ≤ (d : Int) := by omega
                              cases vd with
                              | false =>
                                have Hvd := hid hvd
                                clear hT hvd
                                go_wp2_with fail
                                go_roundg (G.terms.length - (z + 1))
                                case measure => have hk := Hkz.out; omega
                                case rel => exact ⟨⟨z + 1, F4, more, by go_num, rfl, by omega, hBB, HT.out, fun hm => ⟨(Hid.out Hfix4 hm).1, (Hid.out Hfix4 hm).2.1, (Hid.out Hfix4 hm).2.2.snoc fun h => by rcases h with h | ⟨-, h⟩; omega; (rw [Int.toNat_natCast, ← Hvd.out] at h; cases h)⟩, Hpot.out, rfl, hb⟩, Hbz.out⟩
                              | true =>
                                cases vl with
                                | true =>
                                  clear hT hvd
                                  go_wp2_with fail
                                  go_roundg (G.terms.length - (z + 1))
                                  case measure => have hk := Hkz.out; omega
                                  case rel => exact ⟨⟨z + 1, F4, more, by go_num, rfl, by omega, hBB, HT.out, fun hm => ⟨(Hid.out Hfix4 hm).1, (Hid.out Hfix4 hm).2.1, (Hid.out Hfix4 hm).2.2.snoc fun _ => Hvl.out.symm⟩, Hpot.out, rfl, hb⟩, Hbz.out⟩
                                | false =>
                                  obtain ⟨p1, p2, p3, p4, p5⟩ := Hid.out Hput (.inr ⟨hd0, by rw [Int.toNat_natCast]; exact hvd.symm⟩) rfl
                                  have P1 := hid p1
                                  have P2 := hid p2
                                  have P3 := hid p3
                                  have P4 := hid p4
                                  have P5 := hid p5
                                  clear hT hvd p1 p2 p3 p4 p5
                                  go_wp2_with fail
                                  go_roundg (G.terms.length - (z + 1))
                                  case measure => have hk := Hkz.out; omega
                                  case rel => exact ⟨⟨z + 1, _, true, by go_num, rfl, by omega, P1.out, P2.out, (fun h => by cases h), by have h1 := P3.out; have h2 := Hpot.out; simp; cases more <;> simp at h2 <;> omega, rfl, P4.out⟩, P5.out⟩
                          · have hge : ¬ (z : Int) < (G.terms.length : Int) := by omega
                            have hzz : z = G.terms.length := by omega
                            have HT := hid hT
                            have hdn : more = false → Facts.fixT G.prods G.terms.length nul gen F4 i ∧ (ok = true → DoneK nul G.terms.length F4 a r (j + 1) (decide (0 ≤ s) && nul s)) := fun hm => ⟨(Hid.out Hfix4 hm).1, fun _ => by
                              have h1 := (Hid.out Hfix4 hm).2.2
                              rw [hzz] at h1
                              have e := Hs.out
                              subst e
                              exact (Hid.out Hfix4 hm).2.1.next hlj h1 hs0⟩
                            have hat2 : AtK nul r (j + 1) (decide (0 ≤ s) && nul s) := by
                              rw [Hs.out]
                              exact Hat.out.next hlj
                            by_cases hneg : s < 0
                            · rw [show (decide (0 ≤ s) && nul s) = false by simp; omega] at hdn hat2
                              have Hdn : Hid (more = false → Facts.fixT G.prods G.terms.length nul gen F4 i ∧ (ok = true → DoneK nul G.terms.length F4 a r (j + 1) false)) := hid hdn
                              have Hat2 := hid hat2
                              clear hdn hat2 hzz hT
                              go_wp2_with fail
                              go_roundg (r.length - (j + 1))
                              case measure => have hk := Hkj.out; omega
                              case rel => exact ⟨⟨j + 1, false, F4, more, by go_num, rfl, rfl, by omega, (fun h => by cases h), Hat2.out, hBB, HT.out, Hid.out Hdn, Hpot.out, rfl, hb⟩, Hbz.out⟩
                            · obtain ⟨d, rfl⟩ := Int.eq_ofNat_of_zero_le (show 0 ≤ s by omega)
                              rw [show (decide (0 ≤ (d : Int)) && nul d) = nul d by simp] at hdn hat2
                              obtain ⟨gu, ofu, rfl, hgu, hcu⟩ := Hnv.out d (by omega)
                              have hcu := (hb.cell (p := ⟨gu, ofu + d, none⟩) hgu).trans hcu
                              obtain ⟨vn, hvn⟩ : ∃ vn, vn = nul d := ⟨_, rfl⟩
                              rw [← hvn] at hdn hat2 hcu
                              have Hdn : Hid (more = false → Facts.fixT G.prods G.terms.length nul gen F4 i ∧ (ok = true → DoneK nul G.terms.length F4 a r (j + 1) vn)) := hid hdn
                              have Hat2 := hid hat2
                              have hdn' : (d : Int) < (G.names.length : Int) := hs1
                              have hd0 : (0 : Int) ≤ (d : Int) := by omega
                              clear hdn hat2 hzz hT hvn
                              go_wp2_with fail
                              go_roundg (r.length - (j + 1))
                              case measure => have hk := Hkj.out; omega
                              case rel => exact ⟨⟨j + 1, vn, F4, more, by go_num, rfl, rfl, by omega, fun _ => Hokt.out, Hat2.out, hBB, HT.out, Hid.out Hdn, Hpot.out, rfl, hb⟩, Hbz.out⟩
                    · have hge : ¬ (j : Int) < (r.length : Int) := by omega
                      have hnx : more = false → Facts.fixT G.prods G.terms.length nul gen F3 (i + 1) := fun hm => fixT_snoc Hxi.out (Hid.out Hfix3 hm).1 fun hbad => by
                        show Facts.Ob nul G.terms.length F3 ((a : Int)).toNat r
                        rw [Int.toNat_natCast]
                        exact (Hid.out Hfix3 hm).2 (Hid.out Hoks2 hbad) (fun _ => by rw [List.drop_eq_nil_of_le (by omega)]; exact ob_nil _ _ _ _)
                      have Hnx : Hid (more = false → Facts.fixT G.prods G.terms.length nul gen F3 (i + 1)) := hid hnx
                      clear hnx Hfix3
                      go_wp2_with fail
                      go_roundg (G.prods.length - (i + 1))
                      case measure => have hk := Hki.out; omega
                      case rel => exact ⟨⟨i + 1, F3, more, by go_num, rfl, by omega, hBB, HT.out, Hid.out Hnx, Hpot.out, rfl, hb⟩, Hbz.out⟩
            · have hge : ¬ (i : Int) < (G.prods.length : Int) := by omega
              have hie : i = G.prods.length := by omega
              have Hie := hid hie
              clear hie
              go_wp2_with fail
              go_roundg (2 * Facts.cntT F2 + (if more then 1 else 0))
              case measure => have hk := Hk.out; have hp := Hpot.out; cases more <;> simp at hp hk ⊢ <;> omega
              case rel => exact ⟨⟨F2, more, rfl, hBB, HT.out, (fun hm => by have h := Hid.out Hfix2 hm; rwa [Hie.out] at h), rfl, hb⟩, Hbz.out⟩
end Go.Proofs.Ytbpgolmbielpgaa
