/- Chapter 10 (lang): mark: walk. -/
import Derived.Test.YtaehooafdbaomaaLang4
import Derived.Test.YtaehooafdbaomaaGrow
import Derived.Test.YtaehooafdbaomaaClone5
namespace Go.Proofs.Ytaehooafdbaomaa
open Go.RowKit
attribute [local go_sem ↓] Go.wp_at_zero Go.wp_at_succ
attribute [local go_sem] frozen_alloc_lt

theorem Fnd.setLive {F : FP} {bf : Nat} {lv wv : Value} {many : Bool} {w : World} (h : Fnd F bf lv wv many w) (v : Value) : Fnd F bf v wv many (w.setCell ⟨bf, 7, none⟩ v) := by
  have h1 := h.f.set 7 v
  have hk : Kp (fun k => k = bf) w (w.setCell ⟨bf, 7, none⟩ v) := (Kp.refl (fun k => k = bf) w).set (p := ⟨bf, 7, none⟩) (.inl rfl) _
  exact ⟨h1, h.k.kp hk (fun e => by have := h.kf; omega), h.k0, h.kf, h.bw.trans (hk.to_below h.bw.size (fun k e => by have := h.kf; have := h.k0; omega))⟩
theorem Fnd.setWords {F : FP} {bf : Nat} {lv wv : Value} {many : Bool} {w : World} (h : Fnd F bf lv wv many w) (v : Value) : Fnd F bf lv v many (w.setCell ⟨bf, 8, none⟩ v) := by
  have h1 := h.f.set 8 v
  have hk : Kp (fun k => k = bf) w (w.setCell ⟨bf, 8, none⟩ v) := (Kp.refl (fun k => k = bf) w).set (p := ⟨bf, 8, none⟩) (.inl rfl) _
  exact ⟨h1, h.k.kp hk (fun e => by have := h.kf; omega), h.k0, h.kf, h.bw.trans (hk.to_below h.bw.size (fun k e => by have := h.kf; have := h.k0; omega))⟩
def liveP (bs : List Bool) (a : Int) : Prop := Facts.inB bs a = true
/-- What mark finds. -/
structure LiveOk (F : FP) (bs : List Bool) : Prop where
  n : bs.length = F.G.names.length
  st : 0 ≤ Facts.atK F.ks F.G.start → liveP bs F.G.start
  sp : Lg.Spread F.G.prods F.ks (liveP bs)
/-- .. on the way: what is still to be looked at. -/
structure MkI (F : FP) (bs : List Bool) (work : List Int) : Prop where
  n : bs.length = F.G.names.length
  win : ∀ s ∈ work, 0 ≤ s ∧ s < F.G.names.length
  st : liveP bs F.G.start ∨ F.G.start ∈ work
  sp : ∀ x ∈ F.G.prods, liveP bs x.1 → Lg.aliveS F.ks x.2 = true → ∀ s ∈ x.2, 0 ≤ s → liveP bs s ∨ s ∈ work
/-- .. while the productions of a are gone through: the first i of them are done. -/
structure MkJ (F : FP) (bs : List Bool) (a : Nat) (i : Nat) (work : List Int) : Prop where
  n : bs.length = F.G.names.length
  a1 : a < F.G.names.length
  win : ∀ s ∈ work, 0 ≤ s ∧ s < F.G.names.length
  st : liveP bs F.G.start ∨ F.G.start ∈ work
  sp : ∀ x ∈ F.G.prods, liveP bs x.1 → x.1 ≠ (a : Int) → Lg.aliveS F.ks x.2 = true → ∀ s ∈ x.2, 0 ≤ s → liveP bs s ∨ s ∈ work
  dn : ∀ (j : Nat) x, j < i → F.G.prods[j]? = some x → x.1 = (a : Int) → Lg.aliveS F.ks x.2 = true → ∀ s ∈ x.2, 0 ≤ s → liveP bs s ∨ s ∈ work
theorem liveP_set {bs : List Bool} {a : Nat} (ha : a < bs.length) {s : Int} (h0 : 0 ≤ s) : liveP (bs.set a true) s ↔ s = (a : Int) ∨ liveP bs s := by
  unfold liveP
  have h1 := Facts.inB_set bs (a : Int) s (by omega) (by simpa using ha) h0
  rw [Int.toNat_natCast] at h1
  rw [h1]
  simp
theorem MkI.old {F : FP} {bs : List Bool} {work : List Int} {a : Nat} (h : MkI F bs (work ++ [(a : Int)])) (hl : liveP bs (a : Int)) : MkI F bs work := by
  refine ⟨h.n, fun s hs => h.win s (by simp [hs]), ?_, fun x hx h1 h2 s hs h0 => ?_⟩
  · rcases h.st with h1 | h1
    · exact .inl h1
    · rcases List.mem_append.1 h1 with h1 | h1
      · exact .inr h1
      · rw [List.mem_singleton.1 h1]; exact .inl hl
  · rcases h.sp x hx h1 h2 s hs h0 with h3 | h3
    · exact .inl h3
    · rcases List.mem_append.1 h3 with h3 | h3
      · exact .inr h3
      · rw [List.mem_singleton.1 h3]; exact .inl hl
theorem MkI.new {F : FP} (hF : F.Ok) {bs : List Bool} {work : List Int} {a : Nat} (h : MkI F bs (work ++ [(a : Int)])) : MkJ F (bs.set a true) a 0 work := by
  have ha := (h.win (a : Int) (by simp)).2
  have hb : a < bs.length := by rw [h.n]; omega
  have hs0 := hF.snd.s0
  refine ⟨by rw [List.length_set]; exact h.n, by omega, fun s hs => h.win s (by simp [hs]), ?_, fun x hx h1 h1n h2 s hs h0 => ?_, fun j x hj => by omega⟩
  · rcases h.st with h1 | h1
    · exact .inl ((liveP_set hb hs0).2 (.inr h1))
    · rcases List.mem_append.1 h1 with h1 | h1
      · exact .inr h1
      · exact .inl ((liveP_set hb hs0).2 (.inl (List.mem_singleton.1 h1)))
  · have hx0 := hF.snd.l0 x hx
    rcases (liveP_set hb hx0).1 h1 with h1 | h1
    · exact absurd h1 h1n
    · rcases h.sp x hx h1 h2 s hs h0 with h3 | h3
      · exact .inl ((liveP_set hb h0).2 (.inr h3))
      · rcases List.mem_append.1 h3 with h3 | h3
        · exact .inr h3
        · exact .inl ((liveP_set hb h0).2 (.inl (List.mem_singleton.1 h3)))
theorem MkJ.done {F : FP} {bs : List Bool} {work : List Int} {a : Nat} (h : MkJ F bs a F.G.prods.length work) : MkI F bs work :=
  ⟨h.n, h.win, h.st, fun x hx h1 h2 s hs h0 => by
    by_cases e : x.1 = (a : Int)
    · obtain ⟨j, hj⟩ := List.mem_iff_getElem?.1 hx
      exact h.dn j x (List.getElem?_eq_some_iff.1 hj).1 hj e h2 s hs h0
    · exact h.sp x hx h1 e h2 s hs h0⟩
theorem MkI.fin {F : FP} {bs : List Bool} (h : MkI F bs []) : LiveOk F bs :=
  ⟨h.n, fun _ => h.st.elim id (fun e => absurd e (by simp)), fun x hx h1 h2 s hs h0 => (h.sp x hx h1 h2 s hs h0).elim id (fun e => absurd e (by simp))⟩
theorem MkJ.more {F : FP} {bs : List Bool} {work w2 : List Int} {a i : Nat} (h : MkJ F bs a i work) (hw : ∀ s ∈ work, s ∈ w2) (h2 : ∀ s ∈ w2, 0 ≤ s ∧ s < F.G.names.length)
    (hn : ∀ x, F.G.prods[i]? = some x → x.1 = (a : Int) → Lg.aliveS F.ks x.2 = true → ∀ s ∈ x.2, 0 ≤ s → s ∈ w2) : MkJ F bs a (i + 1) w2 :=
  ⟨h.n, h.a1, h2, h.st.imp id (hw _), fun x hx h1 h1n h2 s hs h0 => (h.sp x hx h1 h1n h2 s hs h0).imp id (hw _), fun j x hj hx h1 h2 s hs h0 => by
    by_cases e : j = i
    · subst e; exact .inr (hn x hx h1 h2 s hs h0)
    · exact (h.dn j x (by omega) hx h1 h2 s hs h0).imp id (hw _)⟩
theorem own_belowK {w w' : World} {B n : Nat} {e : TypeId} {v : Value} {xs : List Value} (h : w.ownsRow B e 1 v n xs) (hb : Below w.heap.size w w') : w'.ownsRow B e 1 v n xs :=
  own_kp (S := fun _ => False) h ⟨hb.os, hb.tape, hb.output, hb.size, fun k hk _ => hb.block k hk⟩ (fun _ _ e => e.elim)
/-- Ints of the call's own. -/
theorem int_app9 {P : Program} {w : World} {B : Nat} {TI : TypeId} {v : Value} {zs : List Int} (h : w.ownsRow B TI 1 v zs.length (zs.map (Value.int .i64))) (t ty : TypeId) (i : TypeInfo) (ht : P.underlying t = some (.slice TI)) (hi : P.info? TI = some i)
    (hz : i.zero = some (.int .i64 0)) (hsize : i.size = 1) (hby : i.bytes = 8) (hB : B ≤ w.heap.size) (hl : zs.length ≤ 1000000000) (s : Int) (q : Nat) :
    ∃ g2 cap2 w2, (Builtin.append_ #[t, t] ty #[v, .slice (some ⟨w.heap.size, 0, none⟩) 1 1]).run P ((w.alloc (.cells #[.int .i64 s] TI)).drewN q) = .ok (.slice (some ⟨g2, 0, none⟩) (zs.length + 1) cap2) w2 ∧
      w2.ownsRow B TI 1 (.slice (some ⟨g2, 0, none⟩) (zs.length + 1) cap2) (zs ++ [s]).length ((zs ++ [s]).map (Value.int .i64)) ∧ Kp (fun k => v.ownBlock = some k) w w2 ∧ (v.ownBlock = some g2 ∨ w.heap.size < g2) ∧ g2 < w2.heap.size := by
  obtain ⟨g2, cap2, w2, hrun, h5, h6, h7, h8⟩ := run_append_lies (P := P) ((w.alloc (.cells #[.int .i64 s] TI)).drewN q) t ty B TI i (.int .i64 0) 1 8 ht hi hz hsize hby rfl (by omega) v zs.length (zs.map (Value.int .i64)) (own_drewN (h.alloc _) q) ⟨w.heap.size, 0, none⟩ 1 1 [.int .i64 s] rfl
    (fun j u hj => by
      have hb := Bk.new w TI [.int .i64 s]
      rw [add_off0 _ rfl]
      simp only [Nat.zero_add]
      exact (hb.cell j).trans hj) (fun u hu => by simp at hu; subst hu; rfl) (by omega) (by unfold maxLen; omega) (by omega) (by show B ≤ (w.alloc (.cells #[.int .i64 s] TI)).heap.size; simp; omega) (w.heap.size + 1) (by show (w.alloc (.cells #[.int .i64 s] TI)).heap.size = _; simp)
  refine ⟨g2, cap2, w2, hrun, ?_, (((Kp.refl _ w).alloc _).drewN q).grown h6 (fun k hk _ => hk), h7.imp id (fun e => by omega), h8⟩
  rw [List.map_append, List.length_append]
  exact h5
def MarkSaid (F : FP) (bf : Nat) (wv : Value) (many : Bool) (w : World) (e : Ending) (w' : World) : Prop :=
  e = .returned (.tuple #[]) ∧ ∃ (gl : Nat) (bs : List Bool), Fnd F bf (.slice (some ⟨gl, 0, none⟩) F.G.names.length F.G.names.length) wv many w' ∧ Bk w' gl 4 (bs.map Value.bool) ∧ bf < gl ∧ LiveOk F bs ∧ Kp (fun k => k = bf) w w'
/-- What lies in memory while mark works. -/
structure MkM (F : FP) (bf gl : Nat) (wv : Value) (many : Bool) (bs : List Bool) (work : List Int) (gv : Option Addr) (cap : Nat) (w0 w : World) : Prop where
  f : Fnd F bf (.slice (some ⟨gl, 0, none⟩) F.G.names.length F.G.names.length) wv many w
  l : Bk w gl 4 (bs.map Value.bool)
  o : w.ownsRow (gl + 1) 3 1 (.slice gv work.length cap) work.length (work.map (Value.int .i64))
  k : Kp (fun k => k = bf) w0 w
  z : w0.heap.size ≤ gl
  bl : bf < gl
def MkAt (F : FP) (bf gl : Nat) (wv : Value) (many : Bool) (w0 : World) (k : Nat) (v2 : Value) (w : World) : Prop :=
  ∃ (bs : List Bool) (work : List Int) (gv : Option Addr) (cap : Nat), v2 = .slice gv work.length cap ∧ MkM F bf gl wv many bs work gv cap w0 w ∧ MkI F bs work ∧ k = bs.count false * 5000 + work.length ∧ work.length + bs.count false * 4100 ≤ 1100000
def MkAt2 (F : FP) (bf gl : Nat) (wv : Value) (many : Bool) (w0 : World) (a K : Nat) (k : Nat) (v2 v69 : Value) (w : World) : Prop :=
  ∃ (i : Nat) (bs : List Bool) (work : List Int) (gv : Option Addr) (cap : Nat), v69 = .int .i64 i ∧ v2 = .slice gv work.length cap ∧ MkM F bf gl wv many bs work gv cap w0 w ∧ MkJ F bs a i work ∧ i ≤ F.G.prods.length ∧ k = F.G.prods.length - i ∧
    bs.count false * 5000 + work.length ≤ K + i * 16 ∧ work.length + bs.count false * 4100 + (256 - i) * 16 ≤ 1100000
def MkAt3 (F : FP) (bf gl : Nat) (wv : Value) (many : Bool) (w0 : World) (bs : List Bool) (w1 : List Int) (R : List Int) (k : Nat) (v2 v86 : Value) (w : World) : Prop :=
  ∃ (j : Nat) (work : List Int) (gv : Option Addr) (cap : Nat), v86 = .int .i64 j ∧ v2 = .slice gv work.length cap ∧ MkM F bf gl wv many bs work gv cap w0 w ∧ j ≤ R.length ∧ k = R.length - j ∧ work.length ≤ w1.length + j ∧
    (∀ s ∈ w1, s ∈ work) ∧ (∀ s ∈ work, s ∈ w1 ∨ (s ∈ R ∧ 0 ≤ s)) ∧ ∀ (q : Nat) s, q < j → R[q]? = some s → 0 ≤ s → s ∈ work
set_option maxHeartbeats 8000000 in
set_option maxRecDepth 30000 in
theorem mark_calls (F : FP) (hF : F.Ok) (w : World) (bf : Nat) (wvv : Value) (many : Bool) (h : Fnd F bf (.slice none 0 0) wvv many w) :
    Calls Try.prog 125 #[.pointer (some ⟨bf, 0, none⟩)] w (MarkSaid F bf wvv many w) := by
  obtain ⟨i3, hi3, z0, z1, z2⟩ := info_parts intInfo
  obtain ⟨i4, hi4, y0, y1, y2⟩ := info_parts boolInfo
  have hn1 := hF.snd.n1
  have hp1 := hF.snd.p1
  have HF := hid hF
  have c2 := h.f.cell 2
  simp only [FP.cells, List.getElem?_cons_zero, List.getElem?_cons_succ] at c2
  have H0 := hid h
  clear h hF
  go_enter Try.func125, Try.ntmps125
  go_upto_region 1 with (at_make; refine wpList_make_bk _ rfl _ _ _ rfl 4 i4 _ Try.underlying133 hi4 y0 y1 rfl _ _ F.G.names.length rfl rfl rfl rfl (by rw [y2]; omega) (by omega) ?_; intro w1 hba hk1; have hf1 := H0.out.kp hk1 (fun k e => e.elim); have c7 := hf1.f.cell 7; have f7 := hf1.f.free 7; simp only [FP.cells, List.getElem?_cons_zero, List.getElem?_cons_succ] at c7)
  have hf2 := hf1.setLive (.slice (some ⟨w.heap.size, 0, none⟩) F.G.names.length F.G.names.length)
  obtain ⟨w2, hw2⟩ : ∃ w2, w2 = (w1.setCell ⟨bf, 7, none⟩ (.slice (some ⟨w.heap.size, 0, none⟩) F.G.names.length F.G.names.length)) := ⟨_, rfl⟩
  obtain ⟨gl, hgl⟩ : ∃ gl, gl = w.heap.size := ⟨_, rfl⟩
  have hbfl := H0.out.f.lt
  have hl2 : Bk w2 gl 4 (List.replicate F.G.names.length (Value.bool false)) := by
    rw [hw2, hgl]
    exact hba.kp ((Kp.refl (fun k => k = bf) w1).set (p := ⟨bf, 7, none⟩) (.inl rfl) _) (fun e => by omega)
  have hl3 : Bk w2 gl 4 ((List.replicate F.G.names.length false).map Value.bool) := hl2.of (by simp)
  have hk2 : Kp (fun k => k = bf) w w2 := by
    rw [hw2]
    exact (hk1.mono fun k _ e => e.elim).trans ((Kp.refl (fun k => k = bf) w1).set (p := ⟨bf, 7, none⟩) (.inl rfl) _)
  rw [← hgl] at hw2
  rw [← hgl, ← hw2] at hf2
  rw [← hgl, ← hw2]
  have hs0 := HF.out.snd.s0
  have hs1 := HF.out.snd.s1
  obtain ⟨st, hst⟩ : ∃ st : Nat, F.G.start = (st : Int) := ⟨F.G.start.toNat, by omega⟩
  have hkl := HF.out.sho.len
  have hstl : st < F.ks.length := by rw [hkl]; omega
  obtain ⟨k0, hk0⟩ : ∃ k0, k0 = F.ks[st] := ⟨_, rfl⟩
  have hat : Facts.atK F.ks F.G.start = k0 := by rw [hst, hk0]; simp [Facts.atK, List.getD, List.getElem?_eq_getElem hstl]
  have f6 := hf2.f.cell 6
  have f0 := hf2.f.cell 0
  have fk := hf2.k.cell st
  simp only [FP.cells, List.getElem?_cons_zero, List.getElem?_cons_succ] at f6 f0
  rw [List.getElem?_map, List.getElem?_eq_getElem hstl, ← hk0, Option.map_some] at fk
  rw [hst] at f0
  have hst0 : (0 : Int) ≤ (st : Int) := by omega
  have hst1 : (st : Int) < (F.G.names.length : Int) := by omega
  have Hf2 := hid hf2
  have Hl3 := hid hl3
  have Hk2 := hid hk2
  have Hat := hid hat
  have Hst := hid hst
  have Hgl := hid (And.intro hgl hbfl)
  clear hf1 hf2 hw2 hgl hl2 hl3 hk2 hba hk1 c2 c7 f7 hs0 hs1 hst hk0 hat hstl hkl hbfl
  by_cases hneg : k0 < 0
  · go_region
    go_wp2_with fail
    refine bodyPost_end (results_none rfl _ _ _) rfl ?_
    refine ⟨rfl, gl, List.replicate F.G.names.length false, Hf2.out.later (Below.refl _ _).drew, Hl3.out, by have := Hgl.out; omega, ⟨by simp, fun h => by have := Hat.out; omega, fun x hx h1 => ?_⟩, Hk2.out.drew⟩
    unfold liveP Facts.inB at h1
    rw [List.getD, List.getElem?_replicate] at h1
    split at h1 <;> simp at h1
  · go_region
    go_upto_region 3 with fail
    obtain ⟨w3, hw3⟩ : ∃ w3, w3 = (w2.alloc (.cells #[.int .i64 (st : Int)] 3)).drew := ⟨_, rfl⟩
    obtain ⟨g3, hg3⟩ : ∃ g3, g3 = w2.heap.size := ⟨_, rfl⟩
    have hb3 : Below w2.heap.size w2 w3 := by rw [hw3]; exact (bel_al (bel_id w2) _).drew
    have hown3 : w3.ownsRow (gl + 1) 3 1 (.slice (some ⟨g3, 0, none⟩) 1 1) 1 ([(st : Int)].map (Value.int .i64)) := by
      rw [hw3, hg3]
      exact own_drewN (World.ownsRow_lit (base := gl + 1) (e := 3) (size := 1) w2 #[.int .i64 (st : Int)] 1 Hl3.out.lt (by unfold maxLen; omega) (by simp)) 1
    have hM3 : MkM F bf gl wvv many (List.replicate F.G.names.length false) [(st : Int)] (some ⟨g3, 0, none⟩) 1 w w3 :=
      ⟨Hf2.out.later hb3, Hl3.out.below hb3 Hl3.out.lt, hown3, Hk2.out.trans ⟨hb3.os, hb3.tape, hb3.output, hb3.size, fun k hk _ => hb3.block k hk⟩, by have := Hgl.out; omega, by have := Hgl.out; omega⟩
    have hI3 : MkI F (List.replicate F.G.names.length false) [(st : Int)] := ⟨by simp, fun s hs => by simp at hs; subst hs; exact ⟨hst0, hst1⟩, .inr (by rw [Hst.out]; simp), fun x hx h1 => by
      unfold liveP Facts.inB at h1
      rw [List.getD, List.getElem?_replicate] at h1
      split at h1 <;> simp at h1⟩
    rw [← hw3, ← hg3]
    have HM3 := hid hM3
    have HI3 := hid hI3
    have hn2 : F.G.names.length ≤ 256 := hn1
    clear hw3 hg3 hb3 hown3 hM3 hI3 f6 f0 fk hst0 hst1 hneg
    go_wp2_with fail
    go_loopg [2] (F.G.names.length * 5000 + 1) (fun k v2 wr => MkAt F bf gl wvv many w k v2 wr)
    case atStart => exact ⟨_, [(st : Int)], _, 1, rfl, HM3.out, HI3.out, by simp, by simp; omega⟩
    case round =>
      clear HM3 HI3
      obtain ⟨bs, work, gv, cap, rfl, hM, hI, hk, hmx⟩ := hrel
      rcases nil_or_snoc work with rfl | ⟨wk, s, rfl⟩
      · have HM := hid hM
        have HI := hid hI
        clear hM hI hk hmx
        simp only [List.length_nil] at *
        go_wp2_with fail
        refine bodyPost_end (results_none rfl _ _ _) rfl ?_
        exact ⟨rfl, gl, bs, HM.out.f, HM.out.l, HM.out.bl, HI.out.fin, HM.out.k⟩
      · have hl : (wk ++ [s]).length = wk.length + 1 := by simp
        have hown := hM.o
        rw [hl] at hown hk hmx ⊢
        obtain ⟨hs0, hs1⟩ := hI.win s (by simp)
        obtain ⟨a, rfl⟩ := Int.eq_ofNat_of_zero_le hs0
        have ha : a < bs.length := by rw [hI.n]; omega
        obtain ⟨gv', cap', hve, hcells⟩ := own_slice hown
        simp only [Value.slice.injEq] at hve
        obtain ⟨rfl, -, rfl⟩ := hve
        obtain ⟨g, rfl, hg1, hg2, hcs⟩ := hcells wk.length (.int .i64 a) (by simp)
        have hcap : wk.length + 1 ≤ cap := by
          rcases hown.2 with ⟨h0, _⟩ | ⟨g', cap', cur, hv, _, _, h6, _⟩
          · cases h0
          · simp only [Value.slice.injEq] at hv
            obtain ⟨_, _, rfl⟩ := hv
            simpa using h6
        have hcap' : (wk.length : Int) ≤ (cap : Int) := by omega
        have hwl : (wk.length : Int) + 1 ≤ 1100000 := by omega
        have hownd : wr.ownsRow (gl + 1) 3 1 (.slice (some ⟨g, 0, none⟩) wk.length cap) wk.length (wk.map (Value.int .i64)) := by
          have := hown
          rw [List.map_append] at this
          exact own_drop this
        have cb := hM.l.cell a
        have fb := hM.l.free a
        simp only [List.getElem?_map, List.getElem?_eq_getElem ha, Option.map_some] at cb
        have f7 := hM.f.f.cell 7
        simp only [FP.cells, List.getElem?_cons_zero, List.getElem?_cons_succ] at f7
        have hMd : MkM F bf gl wvv many bs wk (some ⟨g, 0, none⟩) cap w wr := ⟨hM.f, hM.l, hownd, hM.k, hM.z, hM.bl⟩
        have HMd := hid hMd
        have HI := hid hI
        have Hk := hid hk
        cases hb : bs[a] with
        | true =>
          rw [hb] at cb
          have hlv : liveP bs (a : Int) := by simp [liveP, Facts.inB, List.getD, List.getElem?_eq_getElem ha, hb]
          have HI2 := hid (hI.old hlv)
          clear hb hlv hcells hown hownd ha hl hM hMd hI hk fb
          go_wp2_with fail
          go_roundg (bs.count false * 5000 + wk.length)
          case measure => have := Hk.out; omega
          case rel => exact ⟨bs, wk, _, cap, rfl, HMd.out, HI2.out, rfl, by omega⟩
        | false =>
          rw [hb] at cb
          have hJ := hI.new HF.out
          have hcnt : (bs.set a true).count false + 1 = bs.count false := Facts.count_set_true bs a (by rw [List.getElem?_eq_getElem ha, hb])
          have hka : Kp (fun k => k = gl) wr (wr.setCell ⟨gl, a, none⟩ (.bool true)) := Kp.set (S := fun k => k = gl) (Kp.refl _ wr) (.inl rfl) _
          have hM4 : MkM F bf gl wvv many (bs.set a true) wk (some ⟨g, 0, none⟩) cap w (wr.setCell ⟨gl, a, none⟩ (.bool true)) :=
            ⟨hM.f.kp hka (fun k e => by have := hM.bl; omega), (hM.l.set a (.bool true)).of (by simp), own_set hownd (p := ⟨gl, a, none⟩) (fun e => by simp only [Value.ownBlock, Option.some.injEq] at e; omega) (.bool true),
              ((hM.k.mono (S' := fun k => k = bf ∨ k = gl) fun k _ e => .inl e).trans (hka.mono fun k _ e => .inr e)).mono (fun k hk e => e.resolve_right (by have := hM.z; omega)), hM.z, hM.bl⟩
          obtain ⟨wz, hwz⟩ : ∃ wz, wz = wr.setCell ⟨gl, a, none⟩ (.bool true) := ⟨_, rfl⟩
          rw [← hwz] at hM4
          have f4 := hM4.f.f.cell 4
          simp only [FP.cells, List.getElem?_cons_zero, List.getElem?_cons_succ] at f4
          obtain ⟨gpv, hgpv⟩ : ∃ gpv, gpv = F.gp := ⟨_, rfl⟩
          rw [← hgpv] at f4
          have Hgpv := hid hgpv
          clear hgpv
          have HM4 := hid hM4
          have HJ := hid hJ
          have Hcnt := hid hcnt
          have ha256 : (a : Int) < 256 := by have := HI.out.n; omega
          clear hb hcells hown hownd ha hl hM hMd hI hk hJ hcnt hka hM4
          go_upto_region 8 with fail
          rw [← hwz]
          clear hwz cb fb hcs f7 hwl hcap'
          go_wp2_with fail
          go_loopg [2, 69] F.G.prods.length (fun k v2 v69 wr => MkAt2 F bf gl wvv many w a ((bs.set a true).count false * 5000 + wk.length) k v2 v69 wr)
          case atStart => exact ⟨0, bs.set a true, wk, _, cap, rfl, rfl, HM4.out, HJ.out, Nat.zero_le _, rfl, by omega, (by have h1 := Hcnt.out; have h9 : (wk ++ [(a : Int)]).length = wk.length + 1 := by { simp }; omega)⟩
          case round =>
            obtain ⟨i, bs2, work, gv, cap, rfl, rfl, hM, hJ, hi, hk, hK, hmx⟩ := hrel
            have HM := hid hM
            have HJ := hid hJ
            have HkI := hid hk
            have HK := hid hK
            by_cases hlt : i < F.G.prods.length
            · obtain ⟨x, hxe⟩ : ∃ x, x = F.G.prods[i] := ⟨_, rfl⟩
              have hx : F.G.prods[i]? = some x := by rw [hxe]; exact List.getElem?_eq_getElem hlt
              have hxm : x ∈ F.G.prods := List.mem_of_getElem? hx
              have hpp := HF.out.i.p
              rw [← Hgpv.out] at hpp
              obtain ⟨gp', op, gr, cr, rfl, hgl, c0, c1, hrow0⟩ := hpp i x hx
              have c0 := (hM.f.bw.cell (p := ⟨gp', _, none⟩) hgl).trans c0
              have c1 := (hM.f.bw.cell (p := ⟨gp', _, none⟩) hgl).trans c1
              have hrow : RowI wr wr.heap.size gr x.2 := (hrow0.below hM.f.bw).mono hM.f.bw.size
              have Hrow0 := hid hrow0
              clear hrow0
              have hlt' : (i : Int) < (F.G.prods.length : Int) := by omega
              have hi0 : (0 : Int) ≤ (i : Int) := by omega
              have hR16 := HF.out.snd.r16 x hxm
              have hk9 := Bk.new wr 97 [.int .i64 x.1, .slice gr x.2.length cr]
              have hb9 : Below wr.heap.size wr (wr.alloc (.cells #[.int .i64 x.1, .slice gr x.2.length cr] 97)) := bel_al (bel_id wr) _
              have hal9 := alive_calls ((wr.alloc (.cells #[.int .i64 x.1, .slice gr x.2.length cr] 97))) bf (some ⟨F.gk, 0, none⟩) F.ck F.ks x.1 gr cr x.2 (by rw [HF.out.sho.len]; exact (hM.f.later hb9).f.cell 6) (hM.f.later hb9).row ((hrow.below hb9).mono hb9.size) (by omega) (fun s hs => by rw [HF.out.sho.len]; exact HF.out.snd.r1 x hxm s hs)
              obtain ⟨wv, hwv⟩ : ∃ wv, wv = wr.alloc (.cells #[.int .i64 x.1, .slice gr x.2.length cr] 97) := ⟨_, rfl⟩
              obtain ⟨bx, hbx⟩ : ∃ bx, bx = wr.heap.size := ⟨_, rfl⟩
              rw [← hwv] at hk9 hb9 hal9
              rw [← hbx] at hk9
              have x0 := hk9.cell 0
              have x1 := hk9.cell 1
              simp only [List.getElem?_cons_zero, List.getElem?_cons_succ] at x0 x1
              have Halive := hid hal9
              have Hb9 := hid hb9
              have Hwv := hid (And.intro hwv hbx)
              have Hrow := hid hrow
              have Hx := hid (And.intro hx hxm)
              have Hlt := hid hlt
              have Hmx := hid hmx
              clear hM hJ hk hK hpp hrow hx hxm hxe hk9 hb9 hal9 hlt hwv hbx hgl
              go_upto_region 11 with fail
              rw [← Hwv.out.1, ← Hwv.out.2]
              clear c0 c1
              by_cases hxa : x.1 = (a : Int)
              · have hne : ((x.1 : Int) != (a : Int)) = false := by simp [hxa]
                have Hxa := hid hxa
                clear hxa
                go_upto_if 82 with (go_at_call 140; refine Halive.out.mono ?_; rintro e wv2 ⟨rfl, hwv2⟩; have hb2 : Below wv.heap.size wv wv2 := (by rw [hwv2]; exact bel_al (bel_al (bel_id wv) _) _); clear hwv2)
                have hb99 : Below wr.heap.size wr wv2 := Hb9.out.trans (hb2.mono Hb9.out.size)
                have hbxl : bx < wv.heap.size := World.block_lt_of_cell? wv _ x1
                have x1' := (hb2.cell (p := ⟨bx, 1, none⟩) hbxl).trans x1
                have hM2 : MkM F bf gl wvv many bs2 work gv cap w wv2 := ⟨HM.out.f.later hb99, HM.out.l.below hb99 HM.out.l.lt, own_belowK HM.out.o hb99, HM.out.k.trans ⟨hb99.os, hb99.tape, hb99.output, hb99.size, fun k hk _ => hb99.block k hk⟩, HM.out.z, HM.out.bl⟩
                have hrow2 : RowI wv2 wv2.heap.size gr x.2 := (Hrow.out.below hb99).mono hb99.size
                have HM2 := hid hM2
                have Hrow2 := hid hrow2
                clear hb2 hb99 hbxl x0 x1 hM2 hrow2 hne
                cases hal : Lg.aliveS F.ks x.2 with
                | false =>
                  have Hal := hid hal
                  clear hal x1'
                  go_wp2_with fail
                  go_roundg (F.G.prods.length - (i + 1))
                  case measure => have := HkI.out; have := Hlt.out; omega
                  case rel =>
                    exact ⟨i + 1, bs2, work, gv, cap, by go_num, rfl, HM2.out,
                      HJ.out.more (fun _ h => h) HJ.out.win (fun y hy _ h2 => by rw [Hx.out.1] at hy; injection hy with hy; rw [← hy, Hal.out] at h2; cases h2), Hlt.out, rfl, by have := HK.out; omega, by have := Hmx.out; have := Hlt.out; omega⟩
                | true =>
                  have Hal := hid hal
                  clear hal
                  go_wp2_with fail
                  clear x1'
                  go_loopg [2, 86] x.2.length (fun k v2 v86 wq => MkAt3 F bf gl wvv many w bs2 work x.2 k v2 v86 wq)
                  case atStart => exact ⟨0, work, gv, cap, rfl, rfl, HM2.out, Nat.zero_le _, rfl, by omega, fun _ h => h, fun _ h => .inl h, fun q s hq => by omega⟩
                  case round =>
                    clear HM2
                    obtain ⟨j, wk2, gv2, cap2, rfl, rfl, hM, hj, hk, hwl2, hsub, hsup, hin⟩ := hrel
                    have HMq := hid hM
                    have HkJ := hid hk
                    have Hw2 := hid (And.intro hwl2 (And.intro hsub (And.intro hsup hin)))
                    by_cases hlj : j < x.2.length
                    · have hlj' : (j : Int) < (x.2.length : Int) := by omega
                      have hj0 : (0 : Int) ≤ (j : Int) := by omega
                      obtain ⟨s, hse⟩ : ∃ s, s = x.2[j] := ⟨_, rfl⟩
                      have hsx : x.2[j]? = some s := by rw [hse]; exact List.getElem?_eq_getElem hlj
                      have hrw : RowI wr wr.heap.size gr x.2 := (Hrow0.out.below hM.f.bw).mono hM.f.bw.size
                      obtain ⟨g8, o8, rfl, hg8, hc8⟩ := hrw.at hlj
                      rw [← hse] at hc8
                      have hsm : s ∈ x.2 := by rw [hse]; exact List.getElem_mem hlj
                      have Hse := hid (And.intro hsx hsm)
                      have Hlj := hid hlj
                      by_cases h0 : 0 ≤ s
                      · have hown := hM.o
                        have hwk2 : wk2.length ≤ 1000000000 := by have := Hmx.out; have := Hw2.out.1; omega
                        obtain ⟨gA, capA, wA, hrun, hownA, hkA, hgA, hlA⟩ := int_app9 (P := Try.prog) hown 22 22 i3 Try.underlying22 hi3 z0 z1 z2 (by have := hM.l.lt; omega) hwk2 s 0
                        have hrun' : (Builtin.append_ #[22, 22] 22 #[.slice gv2 wk2.length cap2, .slice (some ⟨wr.heap.size, 0, none⟩) 1 1]).run Try.prog (wr.alloc (.cells #[.int .i64 s] 3)) = .ok (.slice (some ⟨gA, 0, none⟩) (wk2.length + 1) capA) wA := hrun
                        have hob : ∀ k, (Value.slice gv2 wk2.length cap2).ownBlock = some k → gl + 1 ≤ k := fun k e => (World.ownsRow.lt hown k e).1
                        have hMA : MkM F bf gl wvv many bs2 (wk2 ++ [s]) (some ⟨gA, 0, none⟩) capA w wA := ⟨hM.f.kp hkA (fun k e => by have := hob k e; have := hM.bl; omega), hM.l.kp hkA (fun e => by have := hob gl e; omega), by rw [List.length_append] at hownA ⊢; exact hownA,
                          ((hM.k.mono (S' := fun k => k = bf ∨ gl + 1 ≤ k) fun k _ e => .inl e).trans (hkA.mono fun k _ e => .inr (hob k e))).mono (fun k hk e => e.resolve_right (by have := hM.z; omega)), hM.z, hM.bl⟩
                        have Hrun := hid hrun'
                        have HMA := hid hMA
                        clear hM hk hwl2 hsub hsup hin hlj hse hsx hrw hg8 hsm hown hwk2 hrun hownA hkA hgA hlA hrun' hob hMA
                        go_wp2_with (at_builtin; refine wpList_append_run rfl _ _ _ rfl (.slice gv2 wk2.length cap2) (.slice (some ⟨wr.heap.size, 0, none⟩) 1 1) (.slice (some ⟨gA, 0, none⟩) (wk2.length + 1) capA) wA (by rfl) (by rfl) (by exact Hrun.out) ?_)
                        go_roundg (x.2.length - (j + 1))
                        case measure => have := HkJ.out; have := Hlj.out; omega
                        case rel =>
                          refine ⟨j + 1, wk2 ++ [s], _, capA, by go_num, by rw [List.length_append]; rfl, HMA.out, Hlj.out, rfl, ?_, ?_, ?_, ?_⟩
                          · rw [List.length_append]; have := Hw2.out.1; simp; omega
                          · exact fun y hy => List.mem_append_left _ (Hw2.out.2.1 y hy)
                          · intro y hy
                            rcases List.mem_append.1 hy with hy | hy
                            · exact Hw2.out.2.2.1 y hy
                            · rw [List.mem_singleton.1 hy]; exact .inr ⟨Hse.out.2, h0⟩
                          · intro q y hq hy hy0
                            by_cases e : q = j
                            · subst e
                              rw [Hse.out.1] at hy
                              injection hy with hy
                              rw [← hy]; simp
                            · exact List.mem_append_left _ (Hw2.out.2.2.2 q y (by omega) hy hy0)
                      · have hneg : s < 0 := by omega
                        clear hM hk hwl2 hsub hsup hin hlj hse hsx hrw hg8 hsm
                        go_wp2_with fail
                        go_roundg (x.2.length - (j + 1))
                        case measure => have := HkJ.out; have := Hlj.out; omega
                        case rel =>
                          refine ⟨j + 1, wk2, gv2, cap2, by go_num, rfl, HMq.out, Hlj.out, rfl, by have := Hw2.out.1; omega, Hw2.out.2.1, Hw2.out.2.2.1, fun q y hq hy hy0 => ?_⟩
                          by_cases e : q = j
                          · subst e
                            rw [Hse.out.1] at hy
                            injection hy with hy
                            omega
                          · exact Hw2.out.2.2.2 q y (by omega) hy hy0
                    · have hge : ¬ (j : Int) < (x.2.length : Int) := by omega
                      have hjl : j = x.2.length := by omega
                      have Hjl := hid hjl
                      clear hM hk hwl2 hsub hsup hin hjl hlj
                      go_wp2_with fail
                      go_roundg (F.G.prods.length - (i + 1))
                      case measure => have := HkI.out; have := Hlt.out; omega
                      case rel =>
                        refine ⟨i + 1, bs2, wk2, gv2, cap2, by go_num, rfl, HMq.out,
                          HJ.out.more Hw2.out.2.1 (fun s hs => ?_) (fun y hy _ _ s hs h0 => ?_), Hlt.out, rfl, ?_, ?_⟩
                        · rcases Hw2.out.2.2.1 s hs with h1 | ⟨h1, h2⟩
                          · exact HJ.out.win s h1
                          · exact ⟨h2, HF.out.snd.r1 x Hx.out.2 s h1⟩
                        · rw [Hx.out.1] at hy
                          injection hy with hy
                          subst hy
                          obtain ⟨q, hq⟩ := List.mem_iff_getElem?.1 hs
                          exact Hw2.out.2.2.2 q s (by rw [Hjl.out]; exact (List.getElem?_eq_some_iff.1 hq).1) hq h0
                        · have := HK.out; have := Hw2.out.1; omega
                        · have := Hmx.out; have := Hlt.out; have := Hw2.out.1; omega
              · have hne : ((x.1 : Int) != (a : Int)) = true := by simp [hxa]
                go_wp2_with fail
                go_roundg (F.G.prods.length - (i + 1))
                case measure => have := HkI.out; have := Hlt.out; omega
                case rel =>
                  have hb99 : Below wr.heap.size wr wv := Hb9.out
                  exact ⟨i + 1, bs2, work, gv, cap, by go_num, rfl, ⟨HM.out.f.later hb99, HM.out.l.below hb99 HM.out.l.lt, own_belowK HM.out.o hb99, HM.out.k.trans ⟨hb99.os, hb99.tape, hb99.output, hb99.size, fun k hk _ => hb99.block k hk⟩, HM.out.z, HM.out.bl⟩,
                    HJ.out.more (fun _ h => h) HJ.out.win (fun y hy h1 => absurd (by rw [Hx.out.1] at hy; injection hy with hy; rw [hy]; exact h1) hxa), Hlt.out, rfl, by have := HK.out; omega, by have := Hmx.out; have := Hlt.out; omega⟩
            · have hge : ¬ (i : Int) < (F.G.prods.length : Int) := by omega
              have hil : i = F.G.prods.length := by omega
              subst hil
              clear hM hJ hk hK hlt
              go_wp2_with fail
              go_roundg (bs2.count false * 5000 + work.length)
              case measure =>
                have h1 := Hk.out; have h2 := HK.out; have h3 := Hcnt.out; have h9 : (wk ++ [(a : Int)]).length = wk.length + 1 := by simp
                omega
              case rel => exact ⟨bs2, work, _, cap, rfl, HM.out, HJ.out.done, rfl, by omega⟩
end Go.Proofs.Ytaehooafdbaomaa
