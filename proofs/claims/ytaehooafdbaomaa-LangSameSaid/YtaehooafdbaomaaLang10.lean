/- Chapter 10 (lang): (spans).ends: walk. -/
import Derived.Test.YtaehooafdbaomaaLang3
import Derived.Test.YtaehooafdbaomaaDer1
namespace Go.Proofs.Ytaehooafdbaomaa
open Go.RowKit
attribute [local go_sem ↓] Go.wp_at_zero Go.wp_at_succ
attribute [local go_sem] frozen_alloc_lt

/-- Spans in memory: by nonterminals, from, to. -/
structure SpB (w : World) (go : Nat) (g : Nat → Nat) (h : Nat → Nat → Nat) (K n : Nat) (F : List (List Bool)) : Prop where
  o : Bk w go 150 ((List.range K).map fun a => Value.slice (some ⟨g a, 0, none⟩) n n)
  r : ∀ a, a < K → Bk w (g a) 133 ((List.range n).map fun i => Value.slice (some ⟨h a i, 0, none⟩) n n)
  c : ∀ a i, a < K → i < n → Bk w (h a i) 4 ((List.range n).map fun j => Value.bool (Dr.tb F a (i * n + j)))
theorem SpB.later {w w' : World} {go : Nat} {g : Nat → Nat} {h : Nat → Nat → Nat} {K n : Nat} {F : List (List Bool)} (s : SpB w go g h K n F) (hb : Below w.heap.size w w') : SpB w' go g h K n F :=
  ⟨s.o.below hb s.o.lt, fun a ha => (s.r a ha).below hb (s.r a ha).lt, fun a i ha hi => (s.c a i ha hi).below hb (s.c a i ha hi).lt⟩
theorem SpB.at {w : World} {go : Nat} {g : Nat → Nat} {h : Nat → Nat → Nat} {K n : Nat} {F : List (List Bool)} (s : SpB w go g h K n F) {a i j : Nat} (ha : a < K) (hi : i < n) (hj : j < n) :
    w.cell? ⟨go, a, none⟩ = some (.slice (some ⟨g a, 0, none⟩) n n) ∧ w.cell? ⟨g a, i, none⟩ = some (.slice (some ⟨h a i, 0, none⟩) n n) ∧ w.cell? ⟨h a i, j, none⟩ = some (.bool (Dr.tb F a (i * n + j))) := by
  refine ⟨?_, ?_, ?_⟩
  · rw [s.o.cell a]; simp [ha]
  · rw [(s.r a ha).cell i]; simp [hi]
  · rw [(s.c a i ha hi).cell j]; simp [hj]
def En1 (w0 : World) (n : Nat) (F : List (List Bool)) (word r : List Int) (i : Nat) (k : Nat) (v9 v26 : Value) (w : World) : Prop :=
  ∃ (q gn : Nat) (nw : List Bool), v26 = .int .i64 q ∧ v9 = .slice (some ⟨gn, 0, none⟩) n n ∧ q ≤ r.length ∧ Bk w gn 4 (nw.map Value.bool) ∧ w0.heap.size ≤ gn ∧ nw.length = n ∧ (∀ v, v < n → (Dr.gB nw v = true ↔ Dr.PS F word r i q v)) ∧ k = r.length - q ∧ Below w0.heap.size w0 w
def En2 (w5 : World) (gx n : Nat) (F : List (List Bool)) (word : List Int) (s : Int) (nw : List Bool) (k : Nat) (v36 : Value) (w : World) : Prop :=
  ∃ (u : Nat) (nx : List Bool), v36 = .int .i64 u ∧ u ≤ n ∧ Bk w gx 4 (nx.map Value.bool) ∧ nx.length = n ∧ (∀ v, v < n → (Dr.gB nx v = true ↔ ∃ u', u' < u ∧ Dr.gB nw u' = true ∧ Dr.Ed F word s u' v)) ∧ k = n - u ∧ Kp (fun k => k = gx) w5 w
def En3 (w5 : World) (gx n : Nat) (F : List (List Bool)) (word : List Int) (s : Int) (nw : List Bool) (u : Nat) (k : Nat) (v49 : Value) (w : World) : Prop :=
  ∃ (y : Nat) (nx : List Bool), v49 = .int .i64 y ∧ y ≤ n ∧ Bk w gx 4 (nx.map Value.bool) ∧ nx.length = n ∧ (∀ v, v < n → (Dr.gB nx v = true ↔ ((∃ u', u' < u ∧ Dr.gB nw u' = true ∧ Dr.Ed F word s u' v) ∨ (v < y ∧ Dr.Ed F word s u v)))) ∧ k = n - y ∧ Kp (fun k => k = gx) w5 w
def EndsSaid (F : List (List Bool)) (word r : List Int) (i : Nat) (w : World) (e : Ending) (w' : World) : Prop :=
  ∃ (gn : Nat) (nw : List Bool), e = .returned (.slice (some ⟨gn, 0, none⟩) (word.length + 1) (word.length + 1)) ∧ Bk w' gn 4 (nw.map Value.bool) ∧ w.heap.size ≤ gn ∧ nw.length = word.length + 1 ∧ (∀ v, v < word.length + 1 → (Dr.gB nw v = true ↔ Dr.PS F word r i r.length v)) ∧ Below w.heap.size w w'
set_option maxHeartbeats 8000000 in
set_option maxRecDepth 8000 in
theorem ends_calls (w : World) (go : Nat) (g : Nat → Nat) (h : Nat → Nat → Nat) (K : Nat) (F : List (List Bool)) (ps : List (Int × List Int)) (word R : List Int) (ga gw : Option Addr) (ca cw : Nat) (i : Nat) (hS : SpB w go g h K (word.length + 1) F) (hT : Dr.TabD ps word K F)
    (hr : RowI w w.heap.size ga R) (hw : RowI w w.heap.size gw word) (hi : i ≤ word.length) (hwl : word.length ≤ 64) (hrl : R.length ≤ 70000) (hR : ∀ s ∈ R, s < K ∧ -70000 ≤ s) (hK : K ≤ 70000) :
    Calls Try.prog 98 #[.slice (some ⟨go, 0, none⟩) K K, .slice ga R.length ca, .slice gw word.length cw, .int .i64 (i : Int)] w (EndsSaid F word R i w) := by
  obtain ⟨i4, hi4, y0, y1, y2⟩ := info_parts boolInfoD
  obtain ⟨n, hn⟩ : ∃ n, n = word.length + 1 := ⟨_, rfl⟩
  have hn1 : ((word.length : Int)) + 1 = (n : Int) := by omega
  have hn65 : (n : Int) ≤ 65 := by omega
  have hnn : n ≤ 65 := by omega
  rw [← hn] at hS
  have HS := hid hS
  have HT := hid hT
  have Hr := hid hr
  have Hw := hid hw
  have HR := hid (And.intro hR (And.intro hi hn))
  have hi0 : (0 : Int) ≤ (i : Int) := by omega
  have hin : (i : Int) < (n : Int) := by omega
  have Hrl := hid (And.intro hrl hwl)
  have hKI : (K : Int) ≤ 70000 := by omega
  have hwI : (word.length : Int) ≤ 64 := by omega
  have hrlI : (R.length : Int) ≤ 70000 := by omega
  clear hS hT hr hw hR hi hn hrl hwl
  go_enter Try.func98, Try.ntmps98
  go_upto_region 2 with (at_make; refine wpList_make_bk _ rfl _ _ _ rfl 4 i4 _ Try.underlying133 hi4 y0 y1 rfl _ _ n rfl rfl rfl rfl (by rw [y2]; omega) (by omega) ?_; intro w1 hba hk1)
  have hb1 : Below w.heap.size w w1 := hk1.to_below (Nat.le_refl _) (fun k hk => hk.elim)
  obtain ⟨gn, hgn⟩ : ∃ gn, gn = w.heap.size := ⟨_, rfl⟩
  rw [← hgn] at hba ⊢
  have hba1 : Bk w1 gn 4 ((List.replicate n false).map Value.bool) := hba.of (by simp)
  have hset := (hba1.set i (.bool true)).of (cs' := ((List.replicate n false).set i true).map Value.bool) (by simp)
  have hb2 : Below w.heap.size w (w1.setCell ⟨gn, i, none⟩ (.bool true)) := hb1.setCell (p := ⟨gn, i, none⟩) (by rw [hgn]; exact Nat.le_refl _) _
  have cb := hba1.cell i
  have fb := hba1.free i
  have hinN : i < n := by omega
  rw [List.getElem?_map, List.getElem?_replicate, if_pos hinN, Option.map_some] at cb
  obtain ⟨w2, hw2⟩ : ∃ w2, w2 = w1.setCell ⟨gn, i, none⟩ (.bool true) := ⟨_, rfl⟩
  rw [← hw2] at hset hb2
  have hinit : En1 w n F word R i R.length (.slice (some ⟨gn, 0, none⟩) n n) (.int .i64 0) w2 := ⟨0, gn, _, rfl, rfl, Nat.zero_le _, hset, by rw [hgn]; exact Nat.le_refl _, by simp, fun v hv => by
    rw [Dr.gB_set (by simp; exact hinN), Dr.gB_rep]
    unfold Dr.PS
    simp, rfl, hb2⟩
  have Hinit := hid hinit
  have Hw2 := hid hw2
  clear hb1 hgn hba hba1 hset hb2 hw2 hinit hk1
  go_upto_region 3 with fail
  rw [← Hw2.out]
  clear cb fb
  go_wp2_with fail
  go_loopg [9, 26] R.length (fun k v9 v26 wr => En1 w n F word R i k v9 v26 wr)
  case atStart => exact Hinit.out
  case round =>
    clear Hinit
    obtain ⟨q, gn2, nw, rfl, rfl, hq, hbn, hgn2, hnwl, hnw, hk, hbw⟩ := hrel
    have Hq := hid (And.intro hbn (And.intro hgn2 (And.intro hnwl (And.intro hnw (And.intro hk hbw)))))
    by_cases hlt : q < R.length
    · have hlt' : (q : Int) < (R.length : Int) := by omega
      have hq0 : (0 : Int) ≤ (q : Int) := by omega
      obtain ⟨s, hse⟩ : ∃ s, s = R[q] := ⟨_, rfl⟩
      have hsm : s ∈ R := by rw [hse]; exact List.getElem_mem hlt
      have hsg : R.getD q 0 = s := by rw [hse]; simp [List.getD, List.getElem?_eq_getElem hlt]
      have hsK := HR.out.1 s hsm
      obtain ⟨g1, o1, rfl, hg1, hc1⟩ := ((Hr.out.below hbw).mono hbw.size).at hlt
      rw [← hse] at hc1
      have Hs := hid (And.intro hlt (And.intro hsg hsK))
      obtain ⟨wo, rfl⟩ : ∃ wo : World, wo = wr := ⟨_, rfl⟩
      clear hk hbw hnw hnwl hgn2 hbn hlt hse hsm hsg hq
      go_upto_region 7 with (at_make; refine wpList_make_bk _ rfl _ _ _ rfl 4 i4 _ Try.underlying133 hi4 y0 y1 rfl _ _ n rfl rfl rfl rfl (by rw [y2]; omega) (by omega) ?_; intro w3 hba hk3)
      have hb3 : Below wo.heap.size wo w3 := hk3.to_below (Nat.le_refl _) (fun k hk => hk.elim)
      obtain ⟨gx, hgx⟩ : ∃ gx, gx = wo.heap.size := ⟨_, rfl⟩
      rw [← hgx] at hba ⊢
      have hba1 : Bk w3 gx 4 ((List.replicate n false).map Value.bool) := hba.of (by simp)
      have hnxn : gx ≠ gn2 := fun e => by have := Hq.out.1.lt; omega
      have hbn3 := Hq.out.1.below hb3 Hq.out.1.lt
      have hbw3 : Below w.heap.size w w3 := Hq.out.2.2.2.2.2.trans (hb3.mono Hq.out.2.2.2.2.2.size)
      have hgw : w.heap.size ≤ gx := by have := Hq.out.2.2.2.2.2.size; omega
      have Hx := hid (And.intro hba1 (And.intro hnxn (And.intro hbn3 (And.intro hbw3 hgw))))
      clear hba hk3 hb3 hgx hba1 hnxn hbn3 hbw3 hgw hc1 hg1
      go_wp2_with fail
      go_loopg [36] n (fun k v36 wr => En2 w3 gx n F word s nw k v36 wr)
      case atStart => exact ⟨0, List.replicate n false, rfl, Nat.zero_le _, Hx.out.1, by simp, fun v hv => by rw [Dr.gB_rep]; simp, rfl, Kp.refl _ _⟩
      case round =>
        obtain ⟨u, nx, rfl, hu, hbx, hnxl, hnx, hk, hkp⟩ := hrel
        have Hu := hid (And.intro hbx (And.intro hnxl (And.intro hnx (And.intro hk hkp))))
        by_cases hlu : u < n
        · have hlu' : (u : Int) < (n : Int) := by omega
          have hu0 : (0 : Int) ≤ (u : Int) := by omega
          have hbn4 : Bk wr gn2 4 (nw.map Value.bool) := Hx.out.2.2.1.kp hkp (fun e => Hx.out.2.1 e.symm)
          have cu := hbn4.cell u
          rw [List.getElem?_map, Dr.gB_get (by rw [Hq.out.2.2.1]; exact hlu), Option.map_some] at cu
          have hbw4 : Below w.heap.size w wr := Hx.out.2.2.2.1.trans (hkp.to_below Hx.out.2.2.2.1.size (fun k e => by have := Hx.out.2.2.2.2; omega))
          have Hlu := hid hlu
          have Hb4 := hid hbw4
          have Hbn4 := hid hbn4
          obtain ⟨bu, hbu⟩ : ∃ bu, bu = Dr.gB nw u := ⟨_, rfl⟩
          rw [← hbu] at cu
          have Hbu := hid hbu
          have hstep : ∀ v, (∃ u', u' < u + 1 ∧ Dr.gB nw u' = true ∧ Dr.Ed F word s u' v) ↔ (∃ u', u' < u ∧ Dr.gB nw u' = true ∧ Dr.Ed F word s u' v) ∨ (Dr.gB nw u = true ∧ Dr.Ed F word s u v) := fun v => by
            constructor
            · rintro ⟨u', h1, h2, h3⟩
              by_cases e : u' = u
              · subst e; exact .inr ⟨h2, h3⟩
              · exact .inl ⟨u', by omega, h2, h3⟩
            · rintro (⟨u', h1, h2, h3⟩ | ⟨h2, h3⟩)
              · exact ⟨u', by omega, h2, h3⟩
              · exact ⟨u, by omega, h2, h3⟩
          have Hstep := hid hstep
          cases bu with
          | false =>
            clear hk hkp hnx hnxl hbx hlu hu hbn4 hbw4 hbu hstep
            go_wp2_with fail
            go_roundg (n - (u + 1))
            case measure => have := Hu.out.2.2.2.1; have := Hlu.out; omega
            case rel =>
              refine ⟨u + 1, nx, by go_num, Hlu.out, Hu.out.1, Hu.out.2.1, fun v hv => ?_, rfl, Hu.out.2.2.2.2⟩
              rw [Hu.out.2.2.1 v hv, Hstep.out v, ← Hbu.out]
              simp
          | true =>
            by_cases hs0 : s < 0
            · have hsl := Hs.out.2.2.2
              have hwr : RowI wr wr.heap.size gw word := (Hw.out.below hbw4).mono hbw4.size
              by_cases huw : u < word.length
              · obtain ⟨g8, o8, rfl, hg8, hc8⟩ := hwr.at huw
                obtain ⟨x, hx⟩ : ∃ x, x = word[u] := ⟨_, rfl⟩
                rw [← hx] at hc8
                have hxg : word.getD u 0 = x := by rw [hx]; simp [List.getD, List.getElem?_eq_getElem huw]
                have huw' : (u : Int) < (word.length : Int) := by omega
                have hsw : IntKind.i64.wrap (-1 - s) = -1 - s := by rw [IntKind.wrap_i64]; have := hsl; omega
                obtain ⟨y, hy⟩ : ∃ y, -1 - s = y := ⟨_, rfl⟩
                rw [hy] at hsw
                have Hx8 := hid (And.intro hxg (And.intro huw hy))
                by_cases hxy : x = y
                · have hxyb : (x == y) = true := by simp [hxy]
                  obtain ⟨d, hd⟩ : ∃ d : Nat, (u : Int) + 1 = (d : Int) := ⟨u + 1, by omega⟩
                  have hdu : d = u + 1 := by omega
                  have hdn : d < n := by have := HR.out.2.2; omega
                  have cd := hbx.cell d
                  have fd := hbx.free d
                  rw [List.getElem?_map, Dr.gB_get (by rw [hnxl]; exact hdn), Option.map_some] at cd
                  have hdn' : (d : Int) < (n : Int) := by omega
                  have hd0 : (0 : Int) ≤ (d : Int) := by omega
                  have hks : Kp (fun k => k = gx) wr (wr.setCell ⟨gx, d, none⟩ (.bool true)) := (Kp.refl (fun k => k = gx) wr).set (p := ⟨gx, d, none⟩) (.inl rfl) _
                  have hset := (hbx.set d (.bool true)).of (cs' := (nx.set d true).map Value.bool) (by simp)
                  have Hset := hid (And.intro hset (hkp.trans hks))
                  have Hdu := hid (And.intro hdu hdn)
                  have Hxy := hid hxy
                  clear hk hkp hnx hnxl hbx hlu hu hbn4 hbw4 hbu hstep hwr hg8 hx hxg huw hdu hdn hks hset hxy hsl
                  go_wp2_with fail
                  go_roundg (n - (u + 1))
                  case measure => have := Hu.out.2.2.2.1; have := Hlu.out; omega
                  case rel =>
                    refine ⟨u + 1, nx.set d true, by have := Hdu.out.1; go_num, Hlu.out, Hset.out.1, by rw [List.length_set]; exact Hu.out.2.1, fun v hv => ?_, rfl, Hset.out.2⟩
                    rw [Hstep.out v, ← Hbu.out, Dr.gB_set (by rw [Hu.out.2.1]; exact Hdu.out.2)]
                    simp only [Bool.or_eq_true, beq_iff_eq, true_and]
                    rw [Hu.out.2.2.1 v hv, or_comm]
                    refine or_congr Iff.rfl ?_
                    have e1 := Hdu.out.1
                    constructor
                    · rintro rfl
                      exact .inl ⟨hs0, Hx8.out.2.1, by rw [Hx8.out.1, Hx8.out.2.2]; exact Hxy.out, e1⟩
                    · rintro (⟨-, -, -, h4⟩ | ⟨h4, -⟩)
                      · omega
                      · omega
                · have hxyb : (x == y) = false := by simp [hxy]
                  have Hxy := hid hxy
                  clear hk hkp hnx hnxl hbx hlu hu hbn4 hbw4 hbu hstep hwr hg8 hx hxg huw hxy hsl
                  go_wp2_with fail
                  go_roundg (n - (u + 1))
                  case measure => have := Hu.out.2.2.2.1; have := Hlu.out; omega
                  case rel =>
                    refine ⟨u + 1, nx, by go_num, Hlu.out, Hu.out.1, Hu.out.2.1, fun v hv => ?_, rfl, Hu.out.2.2.2.2⟩
                    rw [Hu.out.2.2.1 v hv, Hstep.out v]
                    constructor
                    · exact .inl
                    · rintro (h | ⟨-, h⟩)
                      · exact h
                      · rcases h with ⟨-, -, h3, -⟩ | ⟨h4, -⟩
                        · rw [Hx8.out.1, Hx8.out.2.2] at h3; exact absurd h3 Hxy.out
                        · omega
              · have huw' : ¬ (u : Int) < (word.length : Int) := by omega
                have Huw := hid huw
                clear hk hkp hnx hnxl hbx hlu hu hbn4 hbw4 hbu hstep hwr huw hsl
                go_wp2_with fail
                go_roundg (n - (u + 1))
                case measure => have := Hu.out.2.2.2.1; have := Hlu.out; omega
                case rel =>
                  refine ⟨u + 1, nx, by go_num, Hlu.out, Hu.out.1, Hu.out.2.1, fun v hv => ?_, rfl, Hu.out.2.2.2.2⟩
                  rw [Hu.out.2.2.1 v hv, Hstep.out v]
                  constructor
                  · exact .inl
                  · rintro (h | ⟨-, h⟩)
                    · exact h
                    · rcases h with ⟨-, h3, -⟩ | ⟨h4, -⟩
                      · exact absurd h3 Huw.out
                      · omega
            · have hsl := Hs.out.2.2.1
              obtain ⟨a, rfl⟩ := Int.eq_ofNat_of_zero_le (show 0 ≤ s by omega)
              have haK : a < K := by omega
              have haI : (a : Int) < (K : Int) := by omega
              have ha0 : (0 : Int) ≤ (a : Int) := by omega
              have hsp := HS.out.later hbw4
              obtain ⟨d1, d2, -⟩ := hsp.at haK (show u < n from hlu) (show 0 < n by omega)
              have hnl : ¬ (a : Int) < 0 := by omega
              have HaK := hid haK
              have hcell : ∀ y, y < n → ∀ W, Kp (fun k => k = gx) w3 W → W.cell? ⟨h a u, y, none⟩ = some (.bool (Dr.tb F a (u * n + y))) := fun y hy W hk => by
                have h1 := (HS.out.at haK (show u < n from hlu) hy).2.2
                have hgl : h a u < w.heap.size := World.block_lt_of_cell? _ _ h1
                have h2 := (Hx.out.2.2.2.1.cell (p := ⟨h a u, y, none⟩) hgl).trans h1
                exact hk.cell h2 (fun e => by have h3 := Hx.out.2.2.2.2; rw [e] at hgl; omega)
              have Hcell := hid hcell
              have Hkp := hid hkp
              clear hk hnx hnxl hbx hlu hu hbn4 hbw4 hbu hstep hsl hs0 haK hsp hcell hkp
              go_wp2_with fail
              go_loopg [49] n (fun k v49 wr => En3 w3 gx n F word (a : Int) nw u k v49 wr)
              case atStart => exact ⟨0, nx, rfl, Nat.zero_le _, Hu.out.1, Hu.out.2.1, fun v hv => by rw [Hu.out.2.2.1 v hv]; simp, rfl, Hu.out.2.2.2.2⟩
              case round =>
                obtain ⟨y, nz, rfl, hy, hbz, hnzl, hnz, hk, hkp⟩ := hrel
                have Hy := hid (And.intro hbz (And.intro hnzl (And.intro hnz (And.intro hk hkp))))
                by_cases hly : y < n
                · have hly' : (y : Int) < (n : Int) := by omega
                  have hy0 : (0 : Int) ≤ (y : Int) := by omega
                  have c1 := Hcell.out y hly wr hkp
                  have c2 := hbz.cell y
                  have f2 := hbz.free y
                  rw [List.getElem?_map, Dr.gB_get (by rw [hnzl]; exact hly), Option.map_some] at c2
                  obtain ⟨tv, htv⟩ : ∃ tv, tv = Dr.tb F a (u * n + y) := ⟨_, rfl⟩
                  obtain ⟨nv, hnv⟩ : ∃ nv, nv = Dr.gB nz y := ⟨_, rfl⟩
                  rw [← htv] at c1
                  rw [← hnv] at c2
                  have hks : Kp (fun k => k = gx) wr (wr.setCell ⟨gx, y, none⟩ (.bool (nv || tv))) := (Kp.refl (fun k => k = gx) wr).set (p := ⟨gx, y, none⟩) (.inl rfl) _
                  have hset := (hbz.set y (.bool (nv || tv))).of (cs' := (nz.set y (nv || tv)).map Value.bool) (by simp)
                  have hfin : En3 w3 gx n F word (a : Int) nw u (n - (y + 1)) (.int .i64 ((y : Int) + 1)) (wr.setCell ⟨gx, y, none⟩ (.bool (nv || tv))) := by
                    refine ⟨y + 1, nz.set y (nv || tv), by go_num, hly, hset, by rw [List.length_set]; exact hnzl, fun v hv => ?_, rfl, hkp.trans hks⟩
                    by_cases e : v = y
                    · subst e
                      have h1 : Dr.gB (nz.set v (nv || tv)) v = (nv || tv) := by
                        unfold Dr.gB
                        rw [List.getD, List.getElem?_set_self (by rw [hnzl]; exact hly)]
                        rfl
                      rw [h1, Bool.or_eq_true, hnv, hnz v hv, htv]
                      constructor
                      · rintro ((h2 | ⟨h2, -⟩) | h2)
                        · exact .inl h2
                        · omega
                        · obtain ⟨f, hf⟩ := HT.out.snd a u v (by have := HR.out.2.2; have := Hlu.out; omega) (by have := HR.out.2.2; omega) (by rw [← HR.out.2.2]; exact h2)
                          exact .inr ⟨by omega, .inr ⟨ha0, hf.le, by have := HR.out.2.2; omega, by rw [Int.toNat_natCast, ← HR.out.2.2]; exact h2⟩⟩
                      · rintro (h2 | ⟨-, h2⟩)
                        · exact .inl (.inl h2)
                        · rcases h2 with ⟨h3, -⟩ | ⟨-, -, -, h3⟩
                          · omega
                          · rw [Int.toNat_natCast, ← HR.out.2.2] at h3
                            exact .inr h3
                    · have h1 : Dr.gB (nz.set y (nv || tv)) v = Dr.gB nz v := by
                        unfold Dr.gB
                        rw [List.getD, List.getD, List.getElem?_set_ne (fun e' => e e'.symm)]
                      rw [h1, hnz v hv]
                      refine or_congr Iff.rfl (and_congr ?_ Iff.rfl)
                      omega
                  have Hfin := hid hfin
                  have Hly := hid hly
                  clear hk hkp hnz hnzl hbz hly hy htv hnv hks hset hfin d1 d2
                  cases nv with
                  | true =>
                    simp only [Bool.true_or] at Hfin
                    go_wp2_with fail
                    go_roundg (n - (y + 1))
                    case measure => have := Hy.out.2.2.2.1; have := Hly.out; omega
                    case rel => exact Hfin.out
                  | false =>
                    simp only [Bool.false_or] at Hfin
                    go_wp2_with fail
                    go_roundg (n - (y + 1))
                    case measure => have := Hy.out.2.2.2.1; have := Hly.out; omega
                    case rel => exact Hfin.out
                · have hge : ¬ (y : Int) < (n : Int) := by omega
                  have hyn : y = n := by omega
                  have Hyn := hid hyn
                  clear hk hkp hnz hnzl hbz hly hy hyn d1 d2
                  go_wp2_with fail
                  go_roundg (n - (u + 1))
                  case measure => have := Hu.out.2.2.2.1; have := Hlu.out; omega
                  case rel =>
                    refine ⟨u + 1, nz, by go_num, Hlu.out, Hy.out.1, Hy.out.2.1, fun v hv => ?_, rfl, Hy.out.2.2.2.2⟩
                    rw [Hy.out.2.2.1 v hv, Hstep.out v, ← Hbu.out]
                    refine or_congr Iff.rfl ?_
                    have := Hyn.out
                    constructor
                    · exact fun h => ⟨rfl, h.2⟩
                    · exact fun h => ⟨by omega, h.2⟩
        · have hge : ¬ (u : Int) < (n : Int) := by omega
          have hun : u = n := by omega
          have Hun := hid hun
          clear hk hkp hnx hnxl hbx hlu hun hu
          go_wp2_with fail
          go_roundg (R.length - (q + 1))
          case measure => have := Hq.out.2.2.2.2.1; have := Hs.out.1; omega
          case rel =>
            refine ⟨q + 1, gx, nx, by go_num, rfl, Hs.out.1, Hu.out.1, Hx.out.2.2.2.2, Hu.out.2.1, fun v hv => ?_, rfl, Hx.out.2.2.2.1.trans (Hu.out.2.2.2.2.to_below Hx.out.2.2.2.1.size (fun k e => by have := Hx.out.2.2.2.2; omega))⟩
            rw [Hu.out.2.2.1 v hv]
            show _ ↔ ∃ u', Dr.PS F word R i q u' ∧ Dr.Ed F word (R.getD q 0) u' v
            rw [Hs.out.2.1]
            constructor
            · rintro ⟨u', h1, h2, h3⟩
              exact ⟨u', (Hq.out.2.2.2.1 u' (by have := Hun.out; omega)).1 h2, h3⟩
            · rintro ⟨u', h1, h2⟩
              have h3 := Dr.PS.le HR.out.2.1 h1
              have h4 := HR.out.2.2
              exact ⟨u', by have := Hun.out; omega, (Hq.out.2.2.2.1 u' (by omega)).2 h1, h2⟩
    · have hge : ¬ (q : Int) < (R.length : Int) := by omega
      have hqn : q = R.length := by omega
      subst hqn
      clear hk hbw hnw hnwl hgn2 hbn hlt hq
      go_wp2_with fail
      go_ret
      have hn' := HR.out.2.2
      subst hn'
      exact ⟨gn2, nw, rfl, Hq.out.1, Hq.out.2.1, Hq.out.2.2.1, Hq.out.2.2.2.1, Hq.out.2.2.2.2.2⟩
end Go.Proofs.Ytaehooafdbaomaa
/- Chapter 10 (lang): spans that are made and written: facts, no walk. -/
namespace Go.Proofs.Ytaehooafdbaomaa
open Go.RowKit

theorem rset {f f' : Nat → Value} {K m : Nat} {v : Value} (hv : f' m = v) (hne : ∀ x, x < K → x ≠ m → f' x = f x) : ((List.range K).map f).set m v = (List.range K).map f' := by
  apply List.ext_getElem?
  intro x
  rcases Nat.lt_or_ge x K with hx | hx
  · by_cases e : x = m
    · subst e
      rw [List.getElem?_set_self (by simpa using hx)]
      simp [hx, hv]
    · rw [List.getElem?_set_ne (fun h => e h.symm)]
      simp [hx, hne x hx e]
  · rw [List.getElem?_eq_none (by simpa using hx), List.getElem?_eq_none (by simpa using hx)]
theorem reqv {f f' : Nat → Value} {K : Nat} (hne : ∀ x, x < K → f x = f' x) : (List.range K).map f = (List.range K).map f' :=
  List.map_congr_left fun x hx => hne x (List.mem_range.1 hx)
/-- Spans of one's own. -/
structure SpX (w : World) (B go : Nat) (g : Nat → Nat) (h : Nat → Nat → Nat) (K n : Nat) (F : List (List Bool)) : Prop where
  s : SpB w go g h K n F
  d : ∀ a i b j, a < K → i < n → b < K → j < n → h a i = h b j → a = b ∧ i = j
  e : ∀ a i, a < K → i < n → h a i ≠ go ∧ (∀ b, b < K → h a i ≠ g b) ∧ B ≤ h a i
theorem SpX.later {w w' : World} {B go : Nat} {g : Nat → Nat} {h : Nat → Nat → Nat} {K n : Nat} {F : List (List Bool)} (s : SpX w B go g h K n F) (hb : Below w.heap.size w w') : SpX w' B go g h K n F := ⟨s.s.later hb, s.d, s.e⟩
theorem SpX.put {w : World} {B go : Nat} {g : Nat → Nat} {h : Nat → Nat → Nat} {K n : Nat} {F : List (List Bool)} (s : SpX w B go g h K n F) {a i j : Nat} (ha : a < K) (hi : i < n) (hj : j < n) {row : List Bool} (hr : F[a]? = some row) (hl : row.length = n * n) :
    SpX (w.setCell ⟨h a i, j, none⟩ (.bool true)) B go g h K n (F.set a (row.set (i * n + j) true)) := by
  have hlt : i * n + j < row.length := by rw [hl]; exact Dr.idx_lt hi hj
  obtain ⟨e1, e2, -⟩ := s.e a i ha hi
  refine ⟨⟨s.s.o.far (fun e => e1 e.symm) _, fun b hb => (s.s.r b hb).far (fun e => e2 b hb e.symm) _, fun b i' hb hi' => ?_⟩, s.d, s.e⟩
  by_cases e : b = a ∧ i' = i
  · obtain ⟨rfl, rfl⟩ := e
    refine ((s.s.c b i' ha hi).set j (.bool true)).of (rset ?_ fun x hx hxj => ?_)
    · rw [Dr.tb_set hr hlt]; simp
    · rw [Dr.tb_set hr hlt]
      have : (i' * n + x == i' * n + j) = false := by simp; omega
      simp [this]
  · refine ((s.s.c b i' hb hi').far (fun e3 => e (s.d b i' a i hb hi' ha hi e3)) _).of (reqv fun x hx => ?_)
    rw [Dr.tb_set hr hlt]
    have : (b == a && i' * n + x == i * n + j) = false := by
      rw [Bool.and_eq_false_iff]
      by_cases e3 : b = a
      · right
        simp only [beq_eq_false_iff_ne, ne_eq]
        intro e4
        exact e ⟨e3, (Dr.idx hx hj e4).1⟩
      · left; simpa using e3
    rw [this, Bool.false_or]
/-- Made so far: m rows, i of the last one. -/
def MP (n m i x y : Nat) : Prop := x < m ∧ y < n ∧ (x + 1 < m ∨ y < i)
instance (n m i x y : Nat) : Decidable (MP n m i x y) := by unfold MP; infer_instance
def nilV : Value := .slice none 0 0
structure SpM (w : World) (B go : Nat) (g : Nat → Nat) (h : Nat → Nat → Nat) (K n m i : Nat) : Prop where
  o : Bk w go 150 ((List.range K).map fun x => if x < m then Value.slice (some ⟨g x, 0, none⟩) n n else nilV)
  r : ∀ x, x < m → Bk w (g x) 133 ((List.range n).map fun y => if MP n m i x y then Value.slice (some ⟨h x y, 0, none⟩) n n else nilV)
  c : ∀ x y, MP n m i x y → Bk w (h x y) 4 ((List.range n).map fun _ => Value.bool false)
  d : ∀ x y x' y', MP n m i x y → MP n m i x' y' → h x y = h x' y' → x = x' ∧ y = y'
  e : ∀ x y, MP n m i x y → h x y ≠ go ∧ (∀ b, b < m → h x y ≠ g b) ∧ B ≤ h x y
  f : ∀ x, x < m → g x ≠ go ∧ B ≤ g x
  gd : ∀ x y, x < m → y < m → g x = g y → x = y
  gb : B ≤ go
theorem rep_range (K : Nat) (v : Value) : List.replicate K v = (List.range K).map fun _ => v := by
  rw [List.map_const']
  simp
theorem SpM.start {w : World} {B go K n : Nat} (hb : Bk w go 150 (List.replicate K nilV)) (hB : B ≤ go) : SpM w B go (fun _ => 0) (fun _ _ => 0) K n 0 n :=
  ⟨hb.of (by rw [rep_range]; exact reqv fun x _ => by simp), fun x hx => by omega, fun x y h => by have := h.1; omega, fun x y x' y' h => by have := h.1; omega, fun x y h => by have := h.1; omega, fun x hx => by omega, fun x y hx => by omega, hB⟩
theorem SpM.row {w w1 : World} {B go K n m : Nat} {g : Nat → Nat} {h : Nat → Nat → Nat} (s : SpM w B go g h K n m n) (hk : Kp (fun _ => False) w w1) (gx : Nat) (hgx : gx = w.heap.size) (hb : Bk w1 gx 133 (List.replicate n nilV)) (hB : B ≤ w.heap.size) :
    SpM (w1.setCell ⟨go, m, none⟩ (.slice (some ⟨gx, 0, none⟩) n n)) B go (fun x => if x = m then gx else g x) h K n (m + 1) 0 := by
  have hn : ∀ {x y}, MP n (m + 1) 0 x y ↔ MP n m n x y := by
    intro x y
    unfold MP
    constructor
    · rintro ⟨h1, h2, h3⟩; exact ⟨by omega, h2, .inr h2⟩
    · rintro ⟨h1, h2, h3⟩; exact ⟨by omega, h2, .inl (by omega)⟩
  have hgo := s.o.lt
  have hne : ∀ x, x ≠ m → (if x = m then gx else g x) = g x := fun x e => if_neg e
  refine ⟨((s.o.kp hk (fun e => e)).set m _).of (rset ?_ fun x hx e => ?_), fun x hx => ?_, fun x y hm => ?_, fun x y x' y' h1 h2 e => ?_, fun x y hm => ?_, fun x hx => ?_, fun x y hx hy e => ?_, s.gb⟩
  · simp
  · simp only [hne x e]
    by_cases h1 : x < m
    · rw [if_pos h1, if_pos (by omega)]
    · rw [if_neg h1, if_neg (by omega)]
  · by_cases e : x = m
    · subst e
      simp only [if_true]
      refine (hb.far (by show gx ≠ go; omega) _).of ?_
      rw [rep_range]
      refine reqv fun y hy => ?_
      rw [if_neg (fun h1 => by have := (hn.1 h1).1; omega)]
    · simp only [hne x e]
      refine (((s.r x (by omega)).kp hk (fun e => e)).far (s.f x (by omega)).1 _).of (reqv fun y hy => ?_)
      by_cases h1 : MP n m n x y
      · rw [if_pos h1, if_pos (hn.2 h1)]
      · rw [if_neg h1, if_neg (fun h2 => h1 (hn.1 h2))]
  · exact ((s.c x y (hn.1 hm)).kp hk (fun e => e)).far (s.e x y (hn.1 hm)).1 _
  · exact s.d x y x' y' (hn.1 h1) (hn.1 h2) e
  · obtain ⟨h1, h2, h3⟩ := s.e x y (hn.1 hm)
    refine ⟨h1, fun b hb => ?_, h3⟩
    by_cases e : b = m
    · simp only [e, if_true]
      have := (s.c x y (hn.1 hm)).lt
      omega
    · simp only [hne b e]
      exact h2 b (by omega)
  · by_cases e : x = m
    · simp only [e, if_true]
      omega
    · simp only [hne x e]
      exact s.f x (by omega)
  · by_cases e1 : x = m
    · by_cases e2 : y = m
      · omega
      · simp only [e1, if_true, hne y e2] at e
        have := (s.r y (by omega)).lt
        omega
    · by_cases e2 : y = m
      · simp only [e2, if_true, hne x e1] at e
        have := (s.r x (by omega)).lt
        omega
      · simp only [hne x e1, hne y e2] at e
        exact s.gd x y (by omega) (by omega) e
theorem SpM.cell {w w1 : World} {B go K n m i : Nat} {g : Nat → Nat} {h : Nat → Nat → Nat} (s : SpM w B go g h K n (m + 1) i) (hi : i < n) (hk : Kp (fun _ => False) w w1) (hx : Nat) (hhx : hx = w.heap.size) (hb : Bk w1 hx 4 (List.replicate n (.bool false))) (hB : B ≤ w.heap.size) :
    SpM (w1.setCell ⟨g m, i, none⟩ (.slice (some ⟨hx, 0, none⟩) n n)) B go g (fun x y => if x = m ∧ y = i then hx else h x y) K n (m + 1) (i + 1) := by
  have hn : ∀ {x y}, MP n (m + 1) (i + 1) x y → ¬ (x = m ∧ y = i) → MP n (m + 1) i x y := by
    intro x y h1 h2
    unfold MP at *
    refine ⟨h1.1, h1.2.1, ?_⟩
    have := h1.2.2
    have := h1.1
    by_cases e : x = m
    · right; have : y ≠ i := fun e2 => h2 ⟨e, e2⟩; omega
    · left; omega
  have hn' : ∀ {x y}, MP n (m + 1) i x y → MP n (m + 1) (i + 1) x y := by
    intro x y h1
    unfold MP at *
    exact ⟨h1.1, h1.2.1, h1.2.2.imp id (by omega)⟩
  have hin : ¬ MP n (m + 1) i m i := by unfold MP; omega
  have hip : MP n (m + 1) (i + 1) m i := by unfold MP; omega
  have hgo := s.o.lt
  have hgm := s.f m (by omega)
  refine ⟨(s.o.kp hk (fun e => e)).far (fun e => hgm.1 e.symm) _, fun x hx' => ?_, fun x y hm => ?_, fun x y x' y' h1 h2 e => ?_, fun x y hm => ?_, s.f, s.gd, s.gb⟩
  · by_cases e : x = m
    · subst e
      refine (((s.r x hx').kp hk (fun e => e)).set i _).of (rset ?_ fun y hy e => ?_)
      · simp [hip]
      · by_cases h1 : MP n (x + 1) i x y
        · rw [if_pos h1, if_pos (hn' h1)]
          simp [e]
        · rw [if_neg h1, if_neg (fun h2 => h1 (hn h2 (fun e2 => e e2.2)))]
    · refine (((s.r x hx').kp hk (fun e => e)).far (fun e2 => e (s.gd x m hx' (by omega) e2)) _).of (reqv fun y hy => ?_)
      simp only [show ¬ (x = m ∧ y = i) from fun e2 => e e2.1, if_false]
      by_cases h1 : MP n (m + 1) i x y
      · rw [if_pos h1, if_pos (hn' h1)]
      · rw [if_neg h1, if_neg (fun h2 => h1 (hn h2 (fun e2 => e e2.1)))]
  · by_cases e : x = m ∧ y = i
    · simp only [e, and_self, if_true]
      have := (s.r m (by omega)).lt
      exact (hb.far (by show hx ≠ g m; omega) _).of (rep_range _ _)
    · simp only [e, if_false]
      exact ((s.c x y (hn hm e)).kp hk (fun e => e)).far ((s.e x y (hn hm e)).2.1 m (by omega)) _
  · by_cases e1 : x = m ∧ y = i
    · by_cases e2 : x' = m ∧ y' = i
      · omega
      · simp only [e1, and_self, if_true, e2, if_false] at e
        have := (s.c x' y' (hn h2 e2)).lt
        omega
    · by_cases e2 : x' = m ∧ y' = i
      · simp only [e1, if_false, e2, and_self, if_true] at e
        have := (s.c x y (hn h1 e1)).lt
        omega
      · simp only [e1, e2, if_false] at e
        exact s.d x y x' y' (hn h1 e1) (hn h2 e2) e
  · by_cases e : x = m ∧ y = i
    · simp only [e, and_self, if_true]
      refine ⟨by omega, fun b hb' => ?_, by omega⟩
      have := (s.r b hb').lt
      omega
    · simp only [e, if_false]
      exact s.e x y (hn hm e)
theorem SpM.all {w : World} {B go K n : Nat} {g : Nat → Nat} {h : Nat → Nat → Nat} (s : SpM w B go g h K n K n) : SpX w B go g h K n (List.replicate K (List.replicate (n * n) false)) := by
  have hm : ∀ {x y}, x < K → y < n → MP n K n x y := fun hx hy => ⟨hx, hy, .inr hy⟩
  refine ⟨⟨s.o.of (reqv fun x hx => by rw [if_pos hx]), fun x hx => (s.r x hx).of (reqv fun y hy => by rw [if_pos (hm hx hy)]), fun x y hx hy => (s.c x y (hm hx hy)).of (reqv fun z _ => by rw [Dr.tb_rep])⟩, fun a i b j ha hi hb hj => s.d a i b j (hm ha hi) (hm hb hj), fun a i ha hi => s.e a i (hm ha hi)⟩
theorem SpM.slot {w : World} {B go K n m : Nat} {g : Nat → Nat} {h : Nat → Nat → Nat} (s : SpM w B go g h K n m n) (hm : m < K) {w1 : World} (hk : Kp (fun _ => False) w w1) : w1.cell? ⟨go, m, none⟩ = some (.slice none 0 0) ∧ w1.frozen? ⟨go, m, none⟩ = false := by
  have k := s.o.kp hk (fun e => e)
  refine ⟨?_, k.free m⟩
  rw [k.cell m]
  simp [hm, nilV]
theorem SpM.head {w : World} {B go K n m i : Nat} {g : Nat → Nat} {h : Nat → Nat → Nat} (s : SpM w B go g h K n (m + 1) i) (hm : m < K) {w1 : World} (hk : Kp (fun _ => False) w w1) : w1.cell? ⟨go, m, none⟩ = some (.slice (some ⟨g m, 0, none⟩) n n) := by
  rw [(s.o.kp hk (fun e => e)).cell m]
  simp [hm]
theorem SpM.slot2 {w : World} {B go K n m i : Nat} {g : Nat → Nat} {h : Nat → Nat → Nat} (s : SpM w B go g h K n (m + 1) i) (hi : i < n) {w1 : World} (hk : Kp (fun _ => False) w w1) : w1.cell? ⟨g m, i, none⟩ = some (.slice none 0 0) ∧ w1.frozen? ⟨g m, i, none⟩ = false := by
  have k := (s.r m (by omega)).kp hk (fun e => e)
  refine ⟨?_, k.free i⟩
  rw [k.cell i]
  have : ¬ MP n (m + 1) i m i := by unfold MP; omega
  simp [hi, nilV, this]

theorem SpM.full {w : World} {B go K n m : Nat} {g : Nat → Nat} {h : Nat → Nat → Nat} (s : SpM w B go g h K n m n) : SpM w B go g h K n m n := s
end Go.Proofs.Ytaehooafdbaomaa
