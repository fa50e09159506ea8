/- Chapter 13 (cyk): Make, of the doubling grammar; and where there is no chart. -/
import Derived.Test.YtbpgolmbielpgaaCykWay
namespace Go.Proofs.Ytbpgolmbielpgaa
open Go.RowKit
attribute [local go_sem ↓] Go.wp_at_zero Go.wp_at_succ
attribute [local go_sem] frozen_alloc_lt

theorem mapsInfo : (Try.prog.info? 91).map (fun i => (i.zero, i.size, i.bytes)) = some (some (.map none), 1, 8) := by kernel_rfl
theorem intInfo' : (Try.prog.info? 3).map (fun i => (i.zero, i.size, i.bytes)) = some (some (.int .i64 0), 1, 8) := by kernel_rfl
theorem pairInfo : (Try.prog.info? 90).map (fun i => (i.zero, i.size, i.bytes)) = some (some (.agg #[.int .i64 0, .int .i64 0]), 2, 16) := by kernel_rfl

/-- One element appended to nothing, by its run. -/
theorem app_nil {P : Program} (w : World) (T TS ty : TypeId) (i : TypeInfo) (z : Value) (size bytes : Nat) (ht : P.underlying TS = some (.slice T)) (hi : P.info? T = some i) (hz : i.zero = some z) (hsize : i.size = size) (hby : i.bytes = bytes) (hzs : z.cells.size = size) (hsz : 0 < size) (hb : bytes ≤ 64)
    (news : List Value) (hl : news.length = size) (h1 : ∀ u ∈ news, u.oneCell' = true) :
    ∃ g cap w2, (Builtin.append_ #[TS, TS] ty #[.slice none 0 0, .slice (some ⟨w.heap.size, 0, none⟩) 1 1]).run P (w.alloc (.cells news.toArray T)) = .ok (.slice (some ⟨g, 0, none⟩) 1 cap) w2 ∧ (∀ j u, news[j]? = some u → w2.cell? ⟨g, j, none⟩ = some u) ∧ Kp (fun _ => False) w w2 ∧ w.heap.size < g ∧ g < w2.heap.size := by
  have hk := Bk.new w T news
  obtain ⟨g, cap, w2, hrun, hown, hg, hgg, hlt⟩ := run_append_lies (P := P) (w.alloc (.cells news.toArray T)) TS ty w.heap.size T i z size bytes ht hi hz hsize hby hzs hsz (.slice none 0 0) 0 [] (World.ownsRow_nil _ _ _ _) ⟨w.heap.size, 0, none⟩ 1 1 news (by omega)
    (fun j u hj => by
      rw [add_off0 _ rfl]
      simp only [Nat.zero_add]
      exact (hk.cell j).trans hj) h1 (by omega) (by unfold maxLen; omega) (by omega) (by simp) (w.heap.size + 1) (by simp)
  refine ⟨g, cap, w2, by simpa using hrun, fun j u hj => ?_, ((Kp.refl _ w).alloc _).grown hg (fun k e => by cases e), ?_, hlt⟩
  · obtain ⟨ga, c, e, hc⟩ := own_slice hown
    cases e
    rw [List.nil_append] at hc
    obtain ⟨g', e, -, -, hcell⟩ := hc j u hj
    injection e with e
    injection e with e
    subst e
    exact hcell
  · rcases hgg with h | h
    · cases h
    · omega

set_option maxHeartbeats 2000000 in
theorem make_no (w : World) (st cnt te : Int) (em : Bool) (gp : Option Addr) (cp : Nat) (ps : List (Int × List Int)) (hp : RowP w w.heap.size gp ps) (h3 : ps.length ≤ 9223372036854775807) (h4 : ∀ x ∈ ps, x.2.length ≤ 9223372036854775807) (hte : te ≤ 9223372036854775807)
    (gw : Option Addr) (cw : Nat) (word : List Int) (hw : RowI w w.heap.size gw word) (hwl : word.length ≤ 9223372036854775807) (hno : Ck.rightB st cnt te ps word = false) :
    Calls Try.prog 15 #[.agg #[.int .i64 st, .int .i64 cnt, .int .i64 te, .bool em, .slice gp ps.length cp], .slice gw word.length cw] w fun e w' => e = .returned (.pointer none) ∧ Below w.heap.size w w' := by
  have hk := Bk.new w 28 [.int .i64 st, .int .i64 cnt, .int .i64 te, .bool em, .slice gp ps.length cp]
  have hb0 : Below w.heap.size w (w.alloc (.cells #[.int .i64 st, .int .i64 cnt, .int .i64 te, .bool em, .slice gp ps.length cp] 28)) := (Below.refl _ _).alloc (Nat.le_refl _) _
  have Hp4 := hid h4
  have Hno := hid hno
  clear hno h4
  go_enter Try.func15, Try.ntmps15
  go_upto_region 1 with fail
  obtain ⟨wd, hwd⟩ : ∃ wd, wd = (w.alloc (.cells #[.int .i64 st, .int .i64 cnt, .int .i64 te, .bool em, .slice gp ps.length cp] 28)) := ⟨_, rfl⟩
  obtain ⟨b, hb⟩ : ∃ b, b = w.heap.size := ⟨_, rfl⟩
  have hp2 := (hp.below hb0).mono hb0.size
  have hw2 := (hw.below hb0).mono hb0.size
  rw [← hwd] at hk hb0 hp2 hw2
  rw [← hwd]
  rw [← hb] at hk
  rw [← hb]
  clear hwd hb hp hw
  have g0 := hk.cell 0
  have g1 := hk.cell 1
  have g2 := hk.cell 2
  have g3 := hk.cell 3
  have g4 := hk.cell 4
  simp only [List.getElem?_cons_zero, List.getElem?_cons_succ] at g0 g1 g2 g3 g4
  have Hp2 := hid hp2
  have Hw2 := hid hw2
  clear hp2 hw2
  go_wp2_with (go_at_call 48; refine (right_calls wd st cnt te em gp cp ps Hp2.out h3 Hp4.out hte gw cw word Hw2.out hwl).mono ?_; rintro e w1 ⟨rfl, hb1⟩; rw [Hno.out])
  go_ret
  exact ⟨rfl, below0 hb0 hb1⟩

/-- The start: the chart without cells, and the tables of the doubling grammar. -/
def UnAt (w2 w : World) (mu i : Nat) : Prop := ∃ c f, MapV w mu c f ∧ c ≤ i ∧ if i = 0 then ∀ z, f z = none else ∃ g cp, (∀ z, f z = if z = 0 then some (.slice (some ⟨g, 0, none⟩) 1 cp) else none) ∧ w2.heap.size ≤ g ∧ g < w.heap.size ∧ w.cell? ⟨g, 0, none⟩ = some (.int .i64 0)
def PaAt (w2 w : World) (mq i : Nat) : Prop := ∃ c f, MapV w mq c f ∧ c ≤ i ∧ if i < 2 then ∀ z, f z = none else ∃ g cp, (∀ z, f z = if z = 0 then some (.slice (some ⟨g, 0, none⟩) 1 cp) else none) ∧ w2.heap.size ≤ g ∧ g < w.heap.size ∧ w.cell? ⟨g, 0, none⟩ = some (.int .i64 0) ∧ w.cell? ⟨g, 1, none⟩ = some (.int .i64 0)
def MkU (w2 : World) (mu mq : Nat) (k : Nat) (v : Value) (w : World) : Prop := ∃ i : Nat, v = .int .i64 i ∧ i ≤ 2 ∧ k = 2 - i ∧ UnAt w2 w mu i ∧ PaAt w2 w mq i ∧ Kp (fun x => x = mu ∨ x = mq) w2 w

/-- The parts told so far. -/
structure FilT (n : Nat) (ms : List Value) (T : Nat → Int → Int) (p : Nat → Nat → Prop) : Prop where
  val : ∀ k l, k < l → l ≤ n → p k l → (∃ m, ms[Ck.ix n k l]? = some (.map (some m))) ∧ T (Ck.ix n k l) 0 = Ck.wayN (l - k)
  ok : Ck.Okay T [0]
theorem FilT.put {n : Nat} {ms : List Value} {T : Nat → Int → Int} {p p' : Nat → Nat → Prop} (h : FilT n ms T p) (hl : ms.length = n * n) {i j : Nat} (hij : i < j) (hj : j ≤ n) (hx : Ck.ix n i j < n * n) {t : Int → Int} (h0 : t 0 = Ck.wayN (j - i)) (hz : ∀ z, z ≠ 0 → t z = 0) (m : Nat)
    (hp : ∀ k l, k < l → l ≤ n → p' k l → p k l ∨ (k = i ∧ l = j)) : FilT n (ms.set (Ck.ix n i j) (.map (some m))) (fun y => if y = Ck.ix n i j then t else T y) p' := by
  refine ⟨fun k l hkl hln hp' => ?_, ⟨fun x z => ?_, fun x z => ?_, fun x z hne => ?_⟩⟩
  · by_cases e : Ck.ix n k l = Ck.ix n i j
    · obtain ⟨rfl, rfl⟩ := Ck.ix_inj hkl hln hij hj e
      refine ⟨⟨m, List.getElem?_set_self (by rw [hl]; exact hx)⟩, ?_⟩
      rw [if_pos rfl]; exact h0
    · rcases hp k l hkl hln hp' with h1 | ⟨rfl, rfl⟩
      · obtain ⟨⟨m', h2⟩, h3⟩ := h.val k l hkl hln h1
        refine ⟨⟨m', by rw [List.getElem?_set_ne (fun e' => e e'.symm)]; exact h2⟩, ?_⟩
        rw [if_neg e]; exact h3
      · exact absurd rfl e
  · show 0 ≤ (if x = Ck.ix n i j then t else T x) z
    split
    · by_cases e : z = 0
      · rw [e, h0]; exact Ck.wayN_nonneg _
      · rw [hz z e]; exact Int.le_refl _
    · exact h.ok.lo x z
  · show (if x = Ck.ix n i j then t else T x) z ≤ Ck.cap
    split
    · by_cases e : z = 0
      · rw [e, h0]; exact Ck.wayN_le _
      · rw [hz z e]; decide
    · exact h.ok.hi x z
  · have hne : (if x = Ck.ix n i j then t else T x) z ≠ 0 := hne
    by_cases e : z = 0
    · simp [e]
    · split at hne
      · exact absurd (hz z e) hne
      · exact h.ok.dom x z hne
theorem FilT.mono {n : Nat} {ms : List Value} {T : Nat → Int → Int} {p p' : Nat → Nat → Prop} (h : FilT n ms T p) (hp : ∀ k l, k < l → l ≤ n → p' k l → p k l) : FilT n ms T p' := ⟨fun k l h1 h2 h3 => h.val k l h1 h2 (hp k l h1 h2 h3), h.ok⟩
def MkW (n b bc : Nat) (gp : Option Addr) (cp : Nat) (ws : World) (k : Nat) (v : Value) (w : World) : Prop :=
  ∃ (i : Nat) (ms : List Value) (T : Nat → Int → Int), v = .int .i64 i ∧ i ≤ n ∧ Chart w b bc n 0 1 1 false gp 2 cp ms T ∧ FilT n ms T (fun k l => l = k + 1 ∧ k < i) ∧ k = n - i ∧ Kp (fun x => x = bc) ws w
def MkC (m : Nat) (wm : World) (k : Nat) (v : Value) (w : World) : Prop :=
  ∃ (d c : Nat), v = .int .i64 d ∧ d ≤ 1 ∧ MapV w m c (fun z => if z = 0 ∧ 0 < d then some (.int .i64 1) else none) ∧ c ≤ d ∧ k = 1 - d ∧ Kp (fun x => x = m) wm w
def MkS (n b bc : Nat) (gp : Option Addr) (cp : Nat) (ws : World) (k : Nat) (v : Value) (w : World) : Prop :=
  ∃ (s : Nat) (ms : List Value) (T : Nat → Int → Int), v = .int .i64 s ∧ 2 ≤ s ∧ (s = 2 ∨ s ≤ n + 1) ∧ Chart w b bc n 0 1 1 false gp 2 cp ms T ∧ FilT n ms T (fun k l => l - k < s) ∧ k = n + 1 - s ∧ Kp (fun x => x = bc) ws w
def MkF (n b bc s : Nat) (gp : Option Addr) (cp : Nat) (ws : World) (k : Nat) (v : Value) (w : World) : Prop :=
  ∃ (f : Nat) (ms : List Value) (T : Nat → Int → Int), v = .int .i64 f ∧ f + s ≤ n + 1 ∧ Chart w b bc n 0 1 1 false gp 2 cp ms T ∧ FilT n ms T (fun k l => l - k < s ∨ (l - k = s ∧ k < f)) ∧ k = n + 1 - s - f ∧ Kp (fun x => x = bc) ws w
/-- The chart of n letters. -/
def MadeC (w : World) (n : Nat) (e : Ending) (w' : World) : Prop :=
  ∃ (b bc : Nat) (gp : Option Addr) (cp : Nat) (ms : List Value) (T : Nat → Int → Int), e = .returned (.pointer (some ⟨b, 0, none⟩)) ∧ Chart w' b bc n 0 1 1 false gp 2 cp ms T ∧ (∀ k l, k < l → l ≤ n → T (Ck.ix n k l) 0 = Ck.wayN (l - k)) ∧ Ck.Okay T [0] ∧ Below w.heap.size w w'

set_option maxHeartbeats 8000000 in
set_option maxRecDepth 8000 in
theorem make_dbl (w : World) (gp : Option Addr) (cp : Nat) (hp : RowP w w.heap.size gp dblP) (gw : Option Addr) (cw n : Nat) (hw : RowI w w.heap.size gw (List.replicate n 0)) (hn : n ≤ 64) :
    Calls Try.prog 15 #[.agg #[.int .i64 0, .int .i64 1, .int .i64 1, .bool false, .slice gp 2 cp], .slice gw n cw] w (MadeC w n) := by
  obtain ⟨i91, hi91, z0, z1, z2⟩ := info_parts mapsInfo
  have hk := Bk.new w 28 [.int .i64 0, .int .i64 1, .int .i64 1, .bool false, .slice gp 2 cp]
  have hb0 : Below w.heap.size w (w.alloc (.cells #[.int .i64 0, .int .i64 1, .int .i64 1, .bool false, .slice gp 2 cp] 28)) := (Below.refl _ _).alloc (Nat.le_refl _) _
  have hyes : Ck.rightB 0 1 1 dblP (List.replicate n 0) = true := by
    unfold Ck.rightB
    rw [show Nf.normB 0 1 1 dblP = true from rfl, show decide ((List.replicate n (0 : Int)).length ≤ 64) = true by simp; omega]
    simp [Ck.okW]
  have Hyes := hid hyes
  clear hyes
  obtain ⟨nn, hnn⟩ : ∃ nn, nn = n * n := ⟨_, rfl⟩
  have hn4 : nn ≤ 4096 := by rw [hnn]; exact Nat.mul_le_mul hn hn
  have hwr : IntKind.i64.wrap ((n : Int) * (n : Int)) = (nn : Int) := by
    have e : (n : Int) * (n : Int) = (nn : Int) := by rw [hnn]; push_cast; rfl
    rw [e, IntKind.wrap_i64] <;> omega
  have Hnn := hid hnn
  clear hnn
  go_enter Try.func15, Try.ntmps15
  go_upto_region 1 with fail
  obtain ⟨wd, hwd⟩ : ∃ wd, wd = (w.alloc (.cells #[.int .i64 0, .int .i64 1, .int .i64 1, .bool false, .slice gp 2 cp] 28)) := ⟨_, rfl⟩
  obtain ⟨b0, hb⟩ : ∃ b0, b0 = w.heap.size := ⟨_, rfl⟩
  have hp2 := (hp.below hb0).mono hb0.size
  have hw2 := (hw.below hb0).mono hb0.size
  rw [← hwd] at hk hb0 hp2 hw2
  rw [← hwd]
  rw [← hb] at hk
  rw [← hb]
  clear hwd hb hp hw
  have g0 := hk.cell 0
  have g1 := hk.cell 1
  have g2 := hk.cell 2
  have g3 := hk.cell 3
  have g4 := hk.cell 4
  simp only [List.getElem?_cons_zero, List.getElem?_cons_succ] at g0 g1 g2 g3 g4
  have Hp2 := hid hp2
  have Hw2 := hid hw2
  have Hk := hid hk
  have hrw : Calls Try.prog 48 #[.agg #[.int .i64 0, .int .i64 1, .int .i64 1, .bool false, .slice gp 2 cp], .slice gw n cw] wd fun e w' => e = .returned (.bool true) ∧ Below wd.heap.size wd w' := by
    have := right_calls wd 0 1 1 false gp cp dblP hp2 (by decide) (fun x hx => by simp [dblP] at hx; rcases hx with rfl | rfl <;> decide) (by decide) gw cw (List.replicate n 0) hw2 (by simp; omega)
    rw [Hyes.out, List.length_replicate] at this
    exact this
  have Hrw := hid hrw
  clear hp2 hw2 hk hrw
  go_upto_region 3 with (go_at_call 48; refine (Hrw.out).mono ?_; rintro e w1 ⟨rfl, hb1⟩)
  clear g0 g1 g2 g3 g4
  have hk1 := Hk.out.below hb1 Hk.out.lt
  have hdr : Below w1.heap.size w1 w1.drew := below_drewN (Below.refl _ _) 1
  obtain ⟨w2, hrun, hown, hg2⟩ := run_make_full (P := Try.prog) (w := w1.drew) w1.heap.size 83 91 i91 (.map none) 1 Try.underlying83 hi91 z0 z1 .i64 .i64 nn (by rw [z2]; omega) (by unfold maxLen; omega) (Nat.le_refl _)
  have hbc := bk_full hown
  have e1 : (madeCells (Value.map none).cells (nn * 1)).toList = List.replicate nn (.map none) := by
    simp [madeCells, Value.cells, Nat.mod_one, List.map_const']
  rw [e1] at hbc
  have hbce : w1.drew.heap.size = w1.heap.size := rfl
  rw [hbce] at hrun hbc
  have hkg : Kp (fun _ => False) w1.drew w2 := (Kp.refl _ _).grown hg2 (fun k e => by cases e)
  have hk1d : Bk w1.drew b0 28 [.int .i64 0, .int .i64 1, .int .i64 1, .bool false, .slice gp 2 cp] := hk1
  have hS : ∀ W, Kp (fun _ => False) w1.drew W → W.cell? ⟨b0, 0, none⟩ = some (.int .i64 0) ∧ W.cell? ⟨b0, 1, none⟩ = some (.int .i64 1) ∧ W.cell? ⟨b0, 2, none⟩ = some (.int .i64 1) ∧ W.cell? ⟨b0, 3, none⟩ = some (.bool false) ∧ W.cell? ⟨b0, 4, none⟩ = some (.slice gp 2 cp) := fun W h => by
    have k := hk1d.kp h (fun e => e)
    exact ⟨k.cell 0, k.cell 1, k.cell 2, k.cell 3, k.cell 4⟩
  obtain ⟨e0, e1', e2, e3, e4⟩ := hS _ (Kp.refl _ _)
  obtain ⟨f0, f1, f2, f3, f4⟩ := hS _ hkg
  obtain ⟨bc, hbce2⟩ : ∃ bc, bc = w1.heap.size := ⟨_, rfl⟩
  rw [← hbce2] at hrun hbc
  have hb3 : Bk (w2.alloc (.cells #[.int .i64 0, .int .i64 1, .int .i64 1, .bool false, .slice gp 2 cp, .int .i64 n, .slice (some ⟨bc, 0, none⟩) nn nn] 85)) w2.heap.size 85 [.int .i64 0, .int .i64 1, .int .i64 1, .bool false, .slice gp 2 cp, .int .i64 n, .slice (some ⟨bc, 0, none⟩) nn nn] := Bk.new w2 _ _
  have hk3 : Kp (fun _ => False) w1.drew (w2.alloc (.cells #[.int .i64 0, .int .i64 1, .int .i64 1, .bool false, .slice gp 2 cp, .int .i64 n, .slice (some ⟨bc, 0, none⟩) nn nn] 85)) := hkg.alloc _
  obtain ⟨h0, h1, h2, h3, h4⟩ := hS _ hk3
  have hbc3 := hbc.alloc (.cells #[.int .i64 0, .int .i64 1, .int .i64 1, .bool false, .slice gp 2 cp, .int .i64 n, .slice (some ⟨bc, 0, none⟩) nn nn] 85)
  have hne : w2.heap.size ≠ bc := fun e => by have := hbc.lt; omega
  have hbw3 : Below w.heap.size w (w2.alloc (.cells #[.int .i64 0, .int .i64 1, .int .i64 1, .bool false, .slice gp 2 cp, .int .i64 n, .slice (some ⟨bc, 0, none⟩) nn nn] 85)) := below0 (below0 (below0 hb0 hb1) hdr) (hk3.to_below (Nat.le_refl _) (fun k e => e.elim))
  have hdg : Below wd.heap.size wd (w2.alloc (.cells #[.int .i64 0, .int .i64 1, .int .i64 1, .bool false, .slice gp 2 cp, .int .i64 n, .slice (some ⟨bc, 0, none⟩) nn nn] 85)) := below0 (below0 hb1 hdr) (hk3.to_below (Nat.le_refl _) (fun k e => e.elim))
  have hbcw : w.heap.size ≤ bc := by rw [hbce2]; exact (below0 hb0 hb1).size
  have hwdb : wd.heap.size ≤ bc := by rw [hbce2]; exact hb1.size
  clear hS hk1 hk1d hkg hg2 hown hbce hbce2 e1 hbc hdr
  go_region_held3 (fun w' => w'.cell? ⟨b0, 0, none⟩ = some (.int .i64 0) ∧ w'.cell? ⟨b0, 1, none⟩ = some (.int .i64 1) ∧ w'.cell? ⟨b0, 2, none⟩ = some (.int .i64 1) ∧ w'.cell? ⟨b0, 3, none⟩ = some (.bool false) ∧ w'.cell? ⟨b0, 4, none⟩ = some (.slice gp 2 cp))
    (first | exact ⟨‹_›, ‹_›, ‹_›, ‹_›, ‹_›⟩)
    (fail)
  obtain ⟨b, hbe⟩ : ∃ b, b = w2.heap.size := ⟨_, rfl⟩
  obtain ⟨w3, hw3⟩ : ∃ w3, w3 = w2.alloc (.cells #[.int .i64 0, .int .i64 1, .int .i64 1, .bool false, .slice gp 2 cp, .int .i64 n, .slice (some ⟨bc, 0, none⟩) nn nn] 85) := ⟨_, rfl⟩
  rw [← hw3] at hb3 hbc3 hbw3 hdg hk3 h0 h1 h2 h3 h4
  rw [← hw3]
  rw [← hbe] at hb3 hne
  rw [← hbe]
  have Hbe := hid hbe
  clear hbe hw3 hrun e0 e1' e2 e3 e4 f0 f1 f2 f3 f4 h0 h1 h2 h3
  have hmm := @run_makeMap Try.prog
  have hmu := MapV.made w3
  have hmq := MapV.made (w3.alloc (.map #[] 0))
  have hmu2 := hmu.kept (World.grownBy_alloc _ (.map #[] 0) none) (by simp)
  have hk4 : Kp (fun _ => False) w3 ((w3.alloc (.map #[] 0)).alloc (.map #[] 0)) := ((Kp.refl _ _).alloc _).alloc _
  have hmqs : (w3.alloc (.map #[] 0)).heap.size = w3.heap.size + 1 := by simp
  rw [hmqs] at hmq
  have h44 := h4
  have hb04 : b0 < w3.heap.size := (Hk.out.below hdg Hk.out.lt).lt
  have h45 := hk4.cell h44 (fun e => e)
  have hp4 := (Hp2.out.below (hdg.trans ((hk4.to_below (Nat.le_refl _) (fun k e => e.elim)).mono hdg.size)))
  go_wp2_with fail
  obtain ⟨mq, hmqe⟩ : ∃ mq, mq = w3.heap.size + 1 := ⟨_, rfl⟩
  obtain ⟨mu, hmue⟩ : ∃ mu, mu = w3.heap.size := ⟨_, rfl⟩
  obtain ⟨w4, hw4⟩ : ∃ w4, w4 = (w3.alloc (.map #[] 0)).alloc (.map #[] 0) := ⟨_, rfl⟩
  rw [← hw4] at hmu2 hmq hk4 h45 hp4
  rw [← hw4]
  rw [← hmqe] at hmq
  rw [← hmqe]
  rw [← hmue] at hmu2
  rw [← hmue]
  have hmuq : mu < mq := by omega
  have hmu4 := hmu2.lt
  have hmq4 := hmq.lt
  have hb4 := hb3.kp hk4 (fun e => e)
  have hbc4 := hbc3.kp hk4 (fun e => e)
  have hbmu : b < mu := by rw [hmue]; exact hb3.lt
  have hbcmu : bc < mu := by rw [hmue]; exact hbc3.lt
  have hbw4 : Below w.heap.size w w4 := hbw3.trans ((hk4.to_below (Nat.le_refl _) (fun k e => e.elim)).mono hbw3.size)
  have hw04 := Hw2.out.below (hdg.trans ((hk4.to_below (Nat.le_refl _) (fun k e => e.elim)).mono hdg.size))
  have hwds : wd.heap.size ≤ mu := by rw [hmue]; exact hdg.size
  have Hmu2 := hid hmu2
  have Hmq := hid hmq
  have Hb4 := hid hb4
  have Hbc4 := hid hbc4
  have Hbw4 := hid hbw4
  have Hw04 := hid hw04
  have Hp4 := hid hp4
  have Hb04 : Hid (b0 < mu) := hid (by rw [hmue]; exact hb04)
  clear hmm hmu hmu2 hmq hk4 hmqs h4 h44 hw4 hmqe hmue hb3 hbc3 hbw3 hdg hk3 hb4 hbc4 hbw4 hb04 hp4 hw04
  obtain ⟨i23, hi23, y0, y1, y2⟩ := info_parts intInfo'
  obtain ⟨i90, hi90, x0', x1', x2'⟩ := info_parts pairInfo
  obtain ⟨g, off, gr1, cr1, rfl, hg, hc0, hc1, hr1⟩ := Hp4.out 0 _ rfl
  obtain ⟨g', off', gr2, cr2, e5, -, hc2, hc3, hr2⟩ := Hp4.out 1 _ rfl
  simp only [Option.some.injEq, Addr.mk.injEq] at e5
  obtain ⟨rfl, rfl, -⟩ := e5
  obtain ⟨ga, oa, rfl, hga, hca⟩ := hr1.at (i := 0) (by decide)
  obtain ⟨gb, ob, rfl, hgb, hcb0⟩ := hr2.at (i := 0) (by decide)
  obtain ⟨gb', ob', e6, -, hcb1⟩ := hr2.at (i := 1) (by decide)
  simp only [Option.some.injEq, Addr.mk.injEq] at e6
  obtain ⟨rfl, rfl, -⟩ := e6
  have Hcs := hid (show w4.cell? ⟨g, off, none⟩ = some (.int .i64 0) ∧ w4.cell? ⟨g, off + 1, none⟩ = some (.slice (some ⟨ga, oa, none⟩) 1 cr1) ∧ w4.cell? ⟨g, off + 2, none⟩ = some (.int .i64 0) ∧ w4.cell? ⟨g, off + 2 + 1, none⟩ = some (.slice (some ⟨gb, ob, none⟩) 2 cr2) ∧ w4.cell? ⟨ga, oa, none⟩ = some (.int .i64 (-1)) ∧ w4.cell? ⟨gb, ob, none⟩ = some (.int .i64 0) ∧ w4.cell? ⟨gb, ob + 1, none⟩ = some (.int .i64 0) from ⟨hc0, hc1, hc2, hc3, hca, hcb0, hcb1⟩)
  clear hc0 hc1 hc2 hc3 hca hcb0 hcb1 hr1 hr2 Hp2 Hp4
  go_loopg [39] 2 (fun k v wq => MkU w4 mu mq k v wq)
  case atStart => exact ⟨0, rfl, by omega, rfl, ⟨0, _, Hmu2.out, by omega, by rw [if_pos rfl]; exact fun _ => rfl⟩, ⟨0, _, Hmq.out, by omega, by rw [if_pos (by omega)]; exact fun _ => rfl⟩, Kp.refl _ _⟩
  case round =>
    obtain ⟨i, rfl, hi, hk, hu, hq, hkp⟩ := hrel
    have Hk2 := hid hk
    clear hk
    obtain ⟨q0, q1, q2, q3, q4, q5, q6⟩ := Hcs.out
    have q0 := hkp.cell q0 (fun e => by rcases e with e | e <;> omega)
    have q1 := hkp.cell q1 (fun e => by rcases e with e | e <;> omega)
    have q2 := hkp.cell q2 (fun e => by rcases e with e | e <;> omega)
    have q3 := hkp.cell q3 (fun e => by rcases e with e | e <;> omega)
    have q4 := hkp.cell q4 (fun e => by rcases e with e | e <;> omega)
    have q5 := hkp.cell q5 (fun e => by rcases e with e | e <;> omega)
    have q6 := hkp.cell q6 (fun e => by rcases e with e | e <;> omega)
    rcases (show i = 0 ∨ i = 1 ∨ i = 2 by omega) with rfl | rfl | rfl
    · obtain ⟨c, f, hm, hc, hf⟩ := hu
      rw [if_pos rfl] at hf
      have hxk := Bk.new wr 35 [.int .i64 0, .slice (some ⟨ga, oa, none⟩) 1 cr1]
      have hkx : Kp (fun _ => False) wr (wr.alloc (.cells #[.int .i64 0, .slice (some ⟨ga, oa, none⟩) 1 cr1] 35)) := (Kp.refl _ _).alloc _
      have hmx := hm.kp hkx (fun e => e)
      have p4 := hkx.cell q4 (fun e => e)
      go_upto_region 10 with fail
      obtain ⟨wx, hwx⟩ : ∃ wx, wx = wr.alloc (.cells #[.int .i64 0, .slice (some ⟨ga, oa, none⟩) 1 cr1] 35) := ⟨_, rfl⟩
      obtain ⟨cx, hcx⟩ : ∃ cx, cx = wr.heap.size := ⟨_, rfl⟩
      rw [← hwx] at hkx hmx p4 hxk
      rw [← hwx]
      rw [← hcx] at hxk
      rw [← hcx]
      have hwl : Kp (fun _ => False) wx.drew (wx.alloc (.cells #[.int .i64 0] 3)).drew := (show Kp (fun _ => False) wx.drew (wx.drew.alloc (.cells #[.int .i64 0] 3)) from (Kp.refl _ _).alloc _)
      have hmd : MapV wx.drew mu c f := hmx
      have hml := hmd.kp hwl (fun e => e)
      have hl1 := hmd.get 0 (by decide) (by decide) _ _ Try.underlying86 (show (zeroValue 23).run Try.prog wx.drew = .ok (.slice none 0 0) wx.drew by kernel_rfl)
      have hl2 := hml.get 0 (by decide) (by decide) _ _ Try.underlying86 (show (zeroValue 23).run Try.prog (wx.alloc (.cells #[.int .i64 0] 3)).drew = .ok (.slice none 0 0) (wx.alloc (.cells #[.int .i64 0] 3)).drew by kernel_rfl)
      rw [hf 0, Option.getD_none] at hl1 hl2
      obtain ⟨g5, cap5, w5, hap, hn5, hk5, hg5, hg5'⟩ := app_nil (P := Try.prog) wx.drew 3 23 23 i23 (.int .i64 0) 1 8 Try.underlying23 hi23 y0 y1 y2 rfl (by omega) (by omega) [.int .i64 0] rfl (by simp [Value.oneCell'])
      have hap : (Builtin.append_ #[23, 23] 23 #[.slice none 0 0, .slice (some ⟨wx.heap.size, 0, none⟩) 1 1]).run Try.prog (wx.alloc (.cells #[.int .i64 0] 3)).drew = .ok (.slice (some ⟨g5, 0, none⟩) 1 cap5) w5 := hap
      have hm5 := hmd.kp hk5 (fun e => e)
      obtain ⟨w6, hup, hm6, hg6⟩ := hm5.put 0 (.slice (some ⟨g5, 0, none⟩) 1 cap5) (by decide) (by decide) (by unfold maxLen; omega) _ _ Try.underlying86
      have hkd : Kp (fun _ => False) wr wx.drew := hkx.drew
      have hkr6 : Kp (fun x => x = mu ∨ x = mq) wr w6 := ((hkd.trans hk5).mono (S' := fun x => x = mu ∨ x = mq) (fun k _ e => e.elim)).grown hg6 (fun k e _ => by injection e with e; exact .inl e.symm)
      have hq6 : PaAt w4 w6 mq 1 := by
        obtain ⟨c', f', hm', hc', hf'⟩ := hq
        refine ⟨c', f', ((hm'.kp (hkd.trans hk5) (fun e => e)).kept hg6 (fun e => by injection e with e; omega)), by omega, ?_⟩
        rw [if_pos (by omega)] at hf' ⊢
        exact hf'
      have hgw : w4.heap.size ≤ g5 := by have h1 := hkp.size; have h2 := hkd.size; omega
      have hu6 : UnAt w4 w6 mu 1 := by
        refine ⟨c + 1, _, hm6, by omega, ?_⟩
        rw [if_neg (by omega)]
        refine ⟨g5, cap5, fun z => ?_, hgw, by have := hg6.size; omega, ?_⟩
        · by_cases hz : z = 0
          · rw [if_pos hz, if_pos hz]
          · rw [if_neg hz, if_neg hz]; exact hf z
        · have hk56 : Kp (fun x => x = mu) w5 w6 := (Kp.refl _ _).grown hg6 (fun k e _ => by injection e with e; exact e.symm)
          exact hk56.cell (hn5 0 _ rfl) (by omega)
      have Hu6 := hid hu6
      have Hq6 := hid hq6
      have Hkr6 := hid (hkp.trans hkr6)
      have hw0 : IntKind.i64.wrap 0 = 0 := by decide
      have hSx : ∀ W, Kp (fun _ => False) wx.drew W → W.cell? ⟨cx, 0, none⟩ = some (.int .i64 0) ∧ W.cell? ⟨cx, 1, none⟩ = some (.slice (some ⟨ga, oa, none⟩) 1 cr1) ∧ W.cell? ⟨ga, oa, none⟩ = some (.int .i64 (-1)) := fun W h => by
        have hxd : Bk wx.drew cx 35 [.int .i64 0, .slice (some ⟨ga, oa, none⟩) 1 cr1] := hxk
        have k := hxd.kp h (fun e => e)
        exact ⟨k.cell 0, k.cell 1, h.cell (w := wx.drew) p4 (fun e => e)⟩
      obtain ⟨x0, x1, x2⟩ := hSx _ (Kp.refl _ _)
      obtain ⟨x3, x4, x5⟩ := hSx _ hwl
      obtain ⟨x6, x7, x8⟩ := hSx _ hk5
      have hk56 : Kp (fun x => x = mu) w5 w6 := (Kp.refl _ _).grown hg6 (fun k e _ => by injection e with e; exact e.symm)
      have hmr := hm.lt
      have x9 := hk56.cell x6 (by omega)
      have x10 := hk56.cell x7 (by omega)
      have x11 := hk56.cell x8 (by omega)
      clear hwx hcx hSx hk56 hmr p4 hmx hmd hml hm5 hm6 hg6 hkd hkr6 hq6 hgw hu6 hn5 hk5 hwl hkx hxk hf hq hm hkp q0 q1 q2 q3 q4 q5 q6
      go_region_held3 (fun w' => w'.cell? ⟨cx, 0, none⟩ = some (.int .i64 0) ∧ w'.cell? ⟨cx, 1, none⟩ = some (.slice (some ⟨ga, oa, none⟩) 1 cr1) ∧ w'.cell? ⟨ga, oa, none⟩ = some (.int .i64 (-1)))
        (first | exact ⟨‹_›, ‹_›, ‹_›⟩)
        (first | (refine step_append_run (by rfl) _ _ _ (by rfl) (.slice none 0 0) (.slice (some ⟨wx.heap.size, 0, none⟩) 1 1) _ w5 (by go_simp) (by go_simp) (by exact hap) ?_))
      all_goals
        go_wp2_with fail
        go_roundg 1
        case measure => have hk := Hk2.out; omega
        case rel => exact ⟨1, rfl, by omega, rfl, Hu6.out, Hq6.out, Hkr6.out⟩
    · obtain ⟨c, f, hm, hc, hf⟩ := hq
      rw [if_pos (by omega)] at hf
      have hxk := Bk.new wr 35 [.int .i64 0, .slice (some ⟨gb, ob, none⟩) 2 cr2]
      have hkx : Kp (fun _ => False) wr (wr.alloc (.cells #[.int .i64 0, .slice (some ⟨gb, ob, none⟩) 2 cr2] 35)) := (Kp.refl _ _).alloc _
      have hmx := hm.kp hkx (fun e => e)
      have p4 := hkx.cell q5 (fun e => e)
      have p5 := hkx.cell q6 (fun e => e)
      go_upto_region 11 with fail
      obtain ⟨wx, hwx⟩ : ∃ wx, wx = wr.alloc (.cells #[.int .i64 0, .slice (some ⟨gb, ob, none⟩) 2 cr2] 35) := ⟨_, rfl⟩
      obtain ⟨cx, hcx⟩ : ∃ cx, cx = wr.heap.size := ⟨_, rfl⟩
      rw [← hwx] at hkx hmx p4 p5 hxk
      rw [← hwx]
      rw [← hcx] at hxk
      rw [← hcx]
      have hwl : Kp (fun _ => False) wx.drew (wx.alloc (.cells #[.int .i64 0, .int .i64 0] 90)).drew := (show Kp (fun _ => False) wx.drew (wx.drew.alloc (.cells #[.int .i64 0, .int .i64 0] 90)) from (Kp.refl _ _).alloc _)
      have hmd : MapV wx.drew mq c f := hmx
      have hml := hmd.kp hwl (fun e => e)
      have hl1 := hmd.get 0 (by decide) (by decide) _ _ Try.underlying87 (show (zeroValue 88).run Try.prog wx.drew = .ok (.slice none 0 0) wx.drew by kernel_rfl)
      have hl2 := hml.get 0 (by decide) (by decide) _ _ Try.underlying87 (show (zeroValue 88).run Try.prog (wx.alloc (.cells #[.int .i64 0, .int .i64 0] 90)).drew = .ok (.slice none 0 0) (wx.alloc (.cells #[.int .i64 0, .int .i64 0] 90)).drew by kernel_rfl)
      rw [hf 0, Option.getD_none] at hl1 hl2
      obtain ⟨g5, cap5, w5, hap, hn5, hk5, hg5, hg5'⟩ := app_nil (P := Try.prog) wx.drew 90 88 88 i90 (.agg #[.int .i64 0, .int .i64 0]) 2 16 Try.underlying88 hi90 x0' x1' x2' rfl (by omega) (by omega) [.int .i64 0, .int .i64 0] rfl (by simp [Value.oneCell'])
      have hap : (Builtin.append_ #[88, 88] 88 #[.slice none 0 0, .slice (some ⟨wx.heap.size, 0, none⟩) 1 1]).run Try.prog (wx.alloc (.cells #[.int .i64 0, .int .i64 0] 90)).drew = .ok (.slice (some ⟨g5, 0, none⟩) 1 cap5) w5 := hap
      have hm5 := hmd.kp hk5 (fun e => e)
      obtain ⟨w6, hup, hm6, hg6⟩ := hm5.put 0 (.slice (some ⟨g5, 0, none⟩) 1 cap5) (by decide) (by decide) (by unfold maxLen; omega) _ _ Try.underlying87
      have hkd : Kp (fun _ => False) wr wx.drew := hkx.drew
      have hkr6 : Kp (fun x => x = mu ∨ x = mq) wr w6 := ((hkd.trans hk5).mono (S' := fun x => x = mu ∨ x = mq) (fun k _ e => e.elim)).grown hg6 (fun k e _ => by injection e with e; exact .inr e.symm)
      have hu6 : UnAt w4 w6 mu 2 := by
        obtain ⟨c', f', hm', hc', hf'⟩ := hu
        refine ⟨c', f', ((hm'.kp (hkd.trans hk5) (fun e => e)).kept hg6 (fun e => by injection e with e; omega)), by omega, ?_⟩
        rw [if_neg (by omega)] at hf' ⊢
        obtain ⟨g8, cp8, h1, h2, h3, h4⟩ := hf'
        exact ⟨g8, cp8, h1, h2, Nat.lt_of_lt_of_le h3 hkr6.size, hkr6.cell h4 (fun e => by rcases e with e | e <;> omega)⟩
      have hgw : w4.heap.size ≤ g5 := by have h1 := hkp.size; have h2 := hkd.size; omega
      have hq6 : PaAt w4 w6 mq 2 := by
        refine ⟨c + 1, _, hm6, by omega, ?_⟩
        rw [if_neg (by omega)]
        have hk56 : Kp (fun x => x = mq) w5 w6 := (Kp.refl _ _).grown hg6 (fun k e _ => by injection e with e; exact e.symm)
        refine ⟨g5, cap5, fun z => ?_, hgw, by have := hg6.size; omega, hk56.cell (hn5 0 _ rfl) (by omega), hk56.cell (hn5 1 _ rfl) (by omega)⟩
        by_cases hz : z = 0
        · rw [if_pos hz, if_pos hz]
        · rw [if_neg hz, if_neg hz]; exact hf z
      have Hu6 := hid hu6
      have Hq6 := hid hq6
      have Hkr6 := hid (hkp.trans hkr6)
      have hw0 : IntKind.i64.wrap 0 = 0 := by decide
      have hSx : ∀ W, Kp (fun _ => False) wx.drew W → W.cell? ⟨cx, 0, none⟩ = some (.int .i64 0) ∧ W.cell? ⟨cx, 1, none⟩ = some (.slice (some ⟨gb, ob, none⟩) 2 cr2) ∧ W.cell? ⟨gb, ob, none⟩ = some (.int .i64 0) ∧ W.cell? ⟨gb, ob + 1, none⟩ = some (.int .i64 0) := fun W h => by
        have hxd : Bk wx.drew cx 35 [.int .i64 0, .slice (some ⟨gb, ob, none⟩) 2 cr2] := hxk
        have k := hxd.kp h (fun e => e)
        exact ⟨k.cell 0, k.cell 1, h.cell (w := wx.drew) p4 (fun e => e), h.cell (w := wx.drew) p5 (fun e => e)⟩
      obtain ⟨x0, x1, x2, t2⟩ := hSx _ (Kp.refl _ _)
      obtain ⟨x3, x4, x5, t5⟩ := hSx _ hwl
      obtain ⟨x6, x7, x8, t8⟩ := hSx _ hk5
      have hk56 : Kp (fun x => x = mq) w5 w6 := (Kp.refl _ _).grown hg6 (fun k e _ => by injection e with e; exact e.symm)
      have hmr := hm.lt
      have x9 := hk56.cell x6 (by omega)
      have x10 := hk56.cell x7 (by omega)
      have x11 := hk56.cell x8 (by omega)
      have t11 := hk56.cell t8 (by omega)
      clear hwx hcx hSx hk56 hmr p4 p5 hmx hmd hml hm5 hm6 hg6 hkd hkr6 hq6 hgw hu6 hn5 hk5 hwl hkx hxk hf hu hm hkp q0 q1 q2 q3 q4 q5 q6
      go_region_held3 (fun w' => w'.cell? ⟨cx, 0, none⟩ = some (.int .i64 0) ∧ w'.cell? ⟨cx, 1, none⟩ = some (.slice (some ⟨gb, ob, none⟩) 2 cr2) ∧ w'.cell? ⟨gb, ob, none⟩ = some (.int .i64 0) ∧ w'.cell? ⟨gb, ob + 1, none⟩ = some (.int .i64 0))
        (first | exact ⟨‹_›, ‹_›, ‹_›, ‹_›⟩)
        (first | (refine step_append_run (by rfl) _ _ _ (by rfl) (.slice none 0 0) (.slice (some ⟨wx.heap.size, 0, none⟩) 1 1) _ w5 (by go_simp) (by go_simp) (by exact hap) ?_))
      all_goals
        go_wp2_with fail
        go_roundg 0
        case measure => have hk := Hk2.out; omega
        case rel => exact ⟨2, rfl, by omega, rfl, Hu6.out, Hq6.out, Hkr6.out⟩
    · obtain ⟨cu, fu, hmu, hcu, hfu⟩ := hu
      obtain ⟨cq, fq, hmq, hcq, hfq⟩ := hq
      rw [if_neg (by omega)] at hfu hfq
      obtain ⟨g5, cap5, hfu, hg5, hg5', hc5⟩ := hfu
      obtain ⟨g6, cap6, hfq, hg6, hg6', hc60, hc61⟩ := hfq
      have hchart : Chart wr b bc n 0 1 1 false (some ⟨g, off, none⟩) 2 cp (List.replicate nn (.map none)) (fun _ _ => 0) := by
        refine ⟨?_, Hbc4.out.kp hkp (fun e => by rcases e with e | e <;> omega), by rw [List.length_replicate]; exact Hnn.out, fun x v hv => .inl ⟨?_, fun _ => rfl⟩, hne⟩
        · unfold chartL
          rw [Int.toNat_natCast, ← Hnn.out]
          exact Hb4.out.kp hkp (fun e => by rcases e with e | e <;> omega)
        · rw [List.getElem?_replicate] at hv
          split at hv
          · injection hv with hv; exact hv.symm
          · cases hv
      have hw04 := Hw04.out
      have hwn : ∀ k, k < n → ∃ gq oq, gw = some ⟨gq, oq, none⟩ ∧ gq < wd.heap.size ∧ wr.cell? ⟨gq, oq + k, none⟩ = some (.int .i64 0) := fun k hk => by
        obtain ⟨gq, oq, e, h1, h2⟩ := hw04.at (i := k) (by simpa using hk)
        refine ⟨gq, oq, e, h1, hkp.cell (h2.trans ?_) (fun e => by rcases e with e | e <;> omega)⟩
        simp
      have Hmu := hid hmu
      have Hmq := hid hmq
      have Hfu := hid hfu
      have Hfq := hid hfq
      have Hc5 := hid hc5
      have Hc60 := hid hc60
      have Hc61 := hid hc61
      have Hch := hid hchart
      have Hwn := hid hwn
      have Hbw := hid (Hbw4.out.trans ((hkp.to_below (B := w.heap.size) (by have := Hbw4.out.size; omega) (fun k e => by have := Hbw4.out.size; have := hb0.size; rcases e with e | e <;> omega)).mono (Nat.le_refl _)))
      have hwds2 : wd.heap.size ≤ bc := hwdb
      have hmuw : mu < wr.heap.size := hmu.lt
      have hmqw : mq < wr.heap.size := hmq.lt
      clear hmu hmq hfu hfq hc5 hc60 hc61 hchart hwn hw04 hkp q0 q1 q2 q3 q4 q5 q6 Hmu2 Hb4 Hbc4 Hw04 Hbw4 Hcs Hk2
      go_wp2_with fail
      obtain ⟨ws, hws⟩ : ∃ ws, ws = wr := ⟨_, rfl⟩
      go_loopg [87] n (fun k v wq => MkW n b bc (some ⟨g, off, none⟩) cp wr k v wq)
      case atStart => exact ⟨0, _, _, rfl, by omega, Hch.out, ⟨fun k l h1 h2 h3 => by omega, ⟨fun _ _ => Int.le_refl _, fun _ _ => by decide, fun _ _ h => absurd rfl h⟩⟩, rfl, Kp.refl _ _⟩
      case round =>
        obtain ⟨i, ms, T, rfl, hi, hch, hfl, hk, hkp⟩ := hrel
        have Hk := hid hk
        have Hfl := hid hfl
        clear hk hfl Hch
        by_cases hlt : i < n
        · have hlt' : (i : Int) < (n : Int) := by omega
          have hi0 : (0 : Int) ≤ (i : Int) := by omega
          obtain ⟨gq, oq, rfl, hgq, hcw⟩ := Hwn.out i hlt
          have hcw := hkp.cell hcw (show ¬ gq = bc by omega)
          have hix := hch.lt (show i < i + 1 by omega) (show i + 1 ≤ n by omega)
          have hmm := @run_makeMap Try.prog
          have hm0 := MapV.made wr
          have hkm : Kp (fun _ => False) wr (wr.alloc (.map #[] 0)) := (Kp.refl _ _).alloc _
          have hlk := ((Hmu.out.kp hkp (by omega)).kp hkm (fun e => e)).get 0 (by decide) (by decide) _ _ Try.underlying86 (show (zeroValue 23).run Try.prog (wr.alloc (.map #[] 0)) = .ok (.slice none 0 0) (wr.alloc (.map #[] 0)) by kernel_rfl)
          rw [Hfu.out 0, if_pos rfl, Option.getD_some] at hlk
          have c5 := hkm.cell (hkp.cell Hc5.out (show ¬ g5 = bc by omega)) (fun e => e)
          have hg5l : g5 < wr.heap.size := Nat.lt_of_lt_of_le hg5' hkp.size
          go_wp2_with fail
          obtain ⟨wm, hwm⟩ : ∃ wm, wm = wr.alloc (.map #[] 0) := ⟨_, rfl⟩
          obtain ⟨m, hme⟩ : ∃ m, m = wr.heap.size := ⟨_, rfl⟩
          have hms : wr.heap.size ≤ m := by omega
          have hmm0 : m < wm.heap.size := by rw [hwm, hme]; simp
          rw [← hwm] at hm0 hkm c5
          rw [← hwm]
          rw [← hme] at hm0 hg5l
          rw [← hme]
          have Hm0 := hid hm0
          have Hkm := hid hkm
          have Hch2 := hid hch
          have Hkp := hid hkp
          clear hlk hmm hcw hm0 hkm hwm hme hch hkp
          go_loopg [97] 1 (fun k v wq => MkC m wm k v wq)
          case atStart => exact ⟨0, 0, rfl, by omega, Hm0.out.same (fun z => by simp), by omega, rfl, Kp.refl _ _⟩
          case round =>
            clear Hm0
            obtain ⟨d, c, rfl, hd, hm, hc, hk2, hkp2⟩ := hrel
            have Hk2 := hid hk2
            clear hk2
            have c5' := hkp2.cell c5 (show ¬ g5 = m by omega)
            rcases (show d = 0 ∨ d = 1 by omega) with rfl | rfl
            · obtain ⟨w6, hup, hm6, hg6⟩ := hm.put 0 (.int .i64 1) (by decide) (by decide) (by unfold maxLen; omega) _ _ Try.underlying91
              have hkp6 := hkp2.grown hg6 (fun k e _ => by injection e with e; exact e.symm)
              have hm7 := hm6.same (g := fun z => if z = 0 ∧ 0 < 1 then some (.int .i64 1) else none) (fun z => by by_cases hz : z = 0 <;> simp [hz])
              clear hm6 hm hg6
              go_wp2_with fail
              go_roundg 0
              case measure => have hk := Hk2.out; omega
              case rel => exact ⟨1, c + 1, rfl, by omega, hm7, by omega, rfl, hkp6⟩
            · have hkw := (Hkm.out.mono (S' := fun x => x = m) (fun k _ e => e.elim)).trans hkp2
              have hv := hm.same (g := Ck.cellF fun z => if z = 0 then 1 else 0) (fun z => by by_cases hz : z = 0 <;> simp [Ck.cellF, hz])
              have hchart := Hch2.out.put hkw hms hix hv
              have hfil := Hfl.out.put (p' := fun k l => l = k + 1 ∧ k < i + 1) Hch2.out.l (show i < i + 1 by omega) (show i + 1 ≤ n by omega) hix (t := fun z => if z = 0 then 1 else 0) (by rw [show i + 1 - i = 1 by omega]; rfl) (fun z hz => if_neg hz) m (fun k l _ _ h => by omega)
              have hixj := hix
              have bk := Hch2.out.k.kp hkw (fun e => by have := Hch2.out.k.lt; omega)
              have bkc := Hch2.out.c.kp hkw (fun e => by have := Hch2.out.c.lt; omega)
              have hil : Ck.ix n i (i + 1) < ms.length := by rw [Hch2.out.l]; exact hix
              have d1 := bkc.cell (Ck.ix n i (i + 1))
              rw [List.getElem?_eq_getElem hil] at d1
              have d2 := bkc.free (Ck.ix n i (i + 1))
              have k5 := bk.cell 5
              have k6 := bk.cell 6
              unfold chartL at k5 k6
              simp only [List.getElem?_cons_zero, List.getElem?_cons_succ, Int.toNat_natCast] at k5 k6
              rw [← Hnn.out] at k6 hixj
              obtain ⟨v1, hv1⟩ : ∃ v1, v1 = ms[Ck.ix n i (i + 1)] := ⟨_, rfl⟩
              rw [← hv1] at d1
              obtain ⟨x1, hxe1⟩ : ∃ x1, x1 = Ck.ix n i (i + 1) := ⟨_, rfl⟩
              rw [← hxe1] at hixj d1 d2
              have hx1' : (x1 : Int) < (nn : Int) := by omega
              have hx10 : (0 : Int) ≤ (x1 : Int) := by omega
              have hat : Calls Try.prog 49 #[.pointer (some ⟨b, 0, none⟩), .int .i64 i, .int .i64 ((i : Int) + 1)] wr fun e w' => e = .returned (.tuple #[.int .i64 x1, .bool true]) ∧ w' = wr := by
                have h := at_yes wr b n i (i + 1) k5 (by omega) (by omega) hn
                rw [← hxe1, Int.natCast_add] at h
                exact h
              have hkf : Kp (fun x => x = bc) wr (wr.setCell ⟨bc, x1, none⟩ (.map (some m))) := Kp.set (S := fun x => x = bc) (p := ⟨bc, x1, none⟩) (Kp.refl _ _) (.inl rfl) _
              have hkall : Kp (fun x => x = bc) _ (wr.setCell ⟨bc, x1, none⟩ (.map (some m))) := Hkp.out.trans ((hkw.mono (S' := fun x => x = bc) (fun k hk e => by omega)).trans hkf)
              rw [← hxe1] at hchart hfil
              have Hat := hid hat
              have Hch3 := hid hchart
              have Hfil := hid hfil
              have Hkall := hid hkall
              clear hxe1 hat hchart hfil hkf hkall hv1 hil bk bkc hv hkw hixj hm hkp2 Hkp Hkm
              go_wp2_with (go_at_call 49; refine (Hat.out).mono ?_; rintro e wr ⟨rfl, rfl⟩)
              go_roundg (n - (i + 1))
              case measure => have hk := Hk.out; omega
              case rel => exact ⟨i + 1, _, _, by go_num, by omega, Hch3.out, Hfil.out, rfl, Hkall.out⟩
        · have hge : ¬ (i : Int) < (n : Int) := by omega
          have hin : i = n := by omega
          have hfl2 := Hfl.out.mono (p' := fun k l => l - k < 2) (fun k l h1 h2 h3 => by omega)
          have Hfl2 := hid hfl2
          have Hch2 := hid hch
          have Hkp := hid hkp
          clear hfl2 hch hkp hin hi Hwn
          go_wp2_with fail
          go_loopg [17] (n + 1 - 2) (fun k v wq => MkS n b bc (some ⟨g, off, none⟩) cp wr k v wq)
          case atStart => exact ⟨2, ms, T, rfl, by omega, by omega, Hch2.out, Hfl2.out, rfl, Kp.refl _ _⟩
          case round =>
            clear Hfl2 Hch2
            obtain ⟨sz, ms, T, rfl, hs2, hsn, hch, hfl, hk, hkp2⟩ := hrel
            have Hk3 := hid hk
            have Hfl3 := hid hfl
            clear hk hfl
            have hkw := Hkp.out.trans hkp2
            have k5 := hch.k.cell 5
            unfold chartL at k5
            simp only [List.getElem?_cons_zero, List.getElem?_cons_succ] at k5
            by_cases hle : sz ≤ n
            · have hle' : (sz : Int) ≤ (n : Int) := by omega
              have Hch4 := hid hch
              have Hkw := hid hkw
              have hfl4 := Hfl3.out.mono (p' := fun k l => l - k < sz ∨ (l - k = sz ∧ k < 0)) (fun k l h1 h2 h3 => by omega)
              have Hfl4 := hid hfl4
              have Hkp2 := hid hkp2
              clear hch hkw hfl4 hkp2
              go_wp2_with fail
              clear k5
              go_loopg [18] (n + 1 - sz - 0) (fun k v wq => MkF n b bc sz (some ⟨g, off, none⟩) cp wr k v wq)
              case atStart => exact ⟨0, ms, T, rfl, by omega, Hch4.out, Hfl4.out, rfl, Kp.refl _ _⟩
              case round =>
                clear Hfl4 Hch4
                obtain ⟨fr, ms, T, rfl, hfn, hch, hfl, hk, hkp3⟩ := hrel
                have Hk4 := hid hk
                have Hfl5 := hid hfl
                clear hk hfl
                have hkw := Hkw.out.trans hkp3
                have k5 := hch.k.cell 5
                unfold chartL at k5
                simp only [List.getElem?_cons_zero, List.getElem?_cons_succ] at k5
                have hws : IntKind.i64.wrap ((fr : Int) + (sz : Int)) = (fr : Int) + (sz : Int) := by rw [IntKind.wrap_i64] <;> omega
                by_cases hlf : fr + sz ≤ n
                · have hlf' : (fr : Int) + (sz : Int) ≤ (n : Int) := by omega
                  have hpairs : ∀ z, PairsAt wr (fq z) (Ck.dblQ z) := fun z => by
                    rw [Hfq.out z]
                    by_cases hz : z = 0
                    · rw [if_pos hz, hz]
                      refine ⟨some ⟨g6, 0, none⟩, cap6, rfl, fun k p hp => ?_⟩
                      match k, hp with
                      | 0, hp =>
                        injection hp with hp
                        subst hp
                        exact ⟨g6, 0, rfl, Nat.lt_of_lt_of_le hg6' hkw.size, hkw.cell Hc60.out (show ¬ g6 = bc by omega), hkw.cell Hc61.out (show ¬ g6 = bc by omega)⟩
                      | k + 1, hp => simp [Ck.dblQ] at hp
                    · rw [if_neg hz]
                      refine ⟨none, 0, ?_, fun k p hp => ?_⟩
                      · simp [Ck.dblQ, hz]
                      · simp [Ck.dblQ, hz] at hp
                  have hix := hch.lt (show fr < fr + sz by omega) hlf
                  have hfc := fill_calls wr hch hn mq cq fq (Hmq.out.kp hkw (by omega)) Ck.dblQ hpairs [0] (by simp) Hfl5.out.ok 1 (by simp [Ck.sumL, Ck.dblQ]) (by omega) (fun z => by unfold Ck.dblQ; split <;> simp) (fun z p hp => by
                    unfold Ck.dblQ at hp
                    split at hp
                    · simp at hp; subst hp; decide
                    · cases hp) fr (fr + sz) (by omega) hlf (fun k h1 h2 => ⟨(Hfl5.out.val fr k h1 (by omega) (.inl (by omega))).1, (Hfl5.out.val k (fr + sz) h2 hlf (.inl (by omega))).1⟩)
                  rw [Int.natCast_add] at hfc
                  have hfv := Ck.fill_dbl (T := T) (n := n) (i := fr) (j := fr + sz) (by omega) (fun k h1 h2 => ⟨(Hfl5.out.val fr k h1 (by omega) (.inl (by omega))).2, (Hfl5.out.val k (fr + sz) h2 hlf (.inl (by omega))).2⟩)
                  have hfil := fun m => Hfl5.out.put (p' := fun k l => l - k < sz ∨ (l - k = sz ∧ k < fr + 1)) hch.l (show fr < fr + sz by omega) hlf hix (t := Ck.fillV T n [0] Ck.dblQ fr (fr + sz)) hfv (fun z hz => Ck.fill_other hz) m (fun k l _ _ h => by omega)
                  have Hfc := hid hfc
                  have Hfil := hid hfil
                  have Hkp3 := hid hkp3
                  clear hfc hfil hfv hpairs hch hkw hkp3
                  go_wp2_with (go_at_call 50; refine (Hfc.out).mono ?_; rintro e w9 ⟨rfl, hkf, m, hmm, hcf⟩)
                  go_roundg (n + 1 - sz - (fr + 1))
                  case measure => have hk := Hk4.out; omega
                  case rel => exact ⟨fr + 1, _, _, by go_num, by omega, hcf, Hfil.out m, rfl, Hkp3.out.trans hkf⟩
                · have hlf' : ¬ (fr : Int) + (sz : Int) ≤ (n : Int) := by omega
                  have hfl6 := Hfl5.out.mono (p' := fun k l => l - k < sz + 1) (fun k l h1 h2 h3 => by omega)
                  have Hfl6 := hid hfl6
                  have Hch6 := hid hch
                  have Hkp6 := hid (Hkp2.out.trans hkp3)
                  clear hfl6 hch hkw hkp3
                  go_wp2_with fail
                  go_roundg (n + 1 - (sz + 1))
                  case measure => have hk := Hk3.out; omega
                  case rel => exact ⟨sz + 1, ms, T, by go_num, by omega, by omega, Hch6.out, Hfl6.out, rfl, Hkp6.out⟩
            · have hle' : ¬ (sz : Int) ≤ (n : Int) := by omega
              have hval : ∀ k l, k < l → l ≤ n → T (Ck.ix n k l) 0 = Ck.wayN (l - k) := fun k l h1 h2 => (Hfl3.out.val k l h1 h2 (by omega)).2
              have hok := Hfl3.out.ok
              have hbl := Hbw.out.trans ((hkw.to_below (B := w.heap.size) (by exact Hbw.out.size) (fun k e => by have := hb0.size; omega)).mono (Nat.le_refl _))
              have Hval := hid hval
              have Hok := hid hok
              have Hbl := hid hbl
              have Hch6 := hid hch
              clear hval hok hbl hch hkw hkp2
              go_wp2_with fail
              go_ret
              exact ⟨b, bc, _, cp, ms, T, rfl, Hch6.out, Hval.out, Hok.out, Hbl.out⟩
end Go.Proofs.Ytbpgolmbielpgaa
