/- Chapter 17 (earley): close: a walk. -/
import Derived.Test.YtaehooafdbaomaaEar3
namespace Go.Proofs.Ytaehooafdbaomaa
open Go.RowKit
attribute [local go_sem ↓] Go.wp_at_zero Go.wp_at_succ
attribute [local go_sem] frozen_alloc_lt
namespace Ed

section
variable (ps : List (Int × List Int)) (st : Int) (word : List Int) (Xs : List (List Itm)) (n s m : Nat) (w0 : World) (vl0 : Value) (X0 : List Itm)
def CloAt (k : Nat) (v6 : Value) (wr : World) : Prop := ∃ (i : Nat) (vl : Value) (X : List Itm), v6 = .int .i64 i ∧ i ≤ X.length ∧ Cs ps st word Xs n s m w0 vl0 X0 i wr vl X ∧ k = 300000 - i
def CloC (i : Nat) (Y : List Itm) (l : Int) (k : Nat) (v54 : Value) (wr : World) : Prop := ∃ (j : Nat) (vl : Value) (X : List Itm), v54 = .int .i64 j ∧ j ≤ Y.length ∧ Cs ps st word Xs n s m w0 vl0 X0 i wr vl X ∧ (∀ j' y, j' < j → Y[j']? = some y → nxt ps y = some l → stp y ∈ X) ∧ k = Y.length - j
def CloP (i : Nat) (row : List Int) (k : Nat) (v95 : Value) (wr : World) : Prop := ∃ (j : Nat) (vl : Value) (X : List Itm), v95 = .int .i64 j ∧ j ≤ row.length ∧ Cs ps st word Xs n s m w0 vl0 X0 i wr vl X ∧ (∀ j' (q : Nat), j' < j → row[j']? = some (q : Int) → (q, 0, n) ∈ X) ∧ k = row.length - j
/-- What close leaves. -/
def CloSaid (e : Ending) (w' : World) : Prop := ∃ (vl : Value) (X : List Itm), e = .returned (.tuple #[]) ∧ Cs ps st word Xs n s m w0 vl0 X0 X.length w' vl X
end
theorem nxt_at {ps : List (Int × List Int)} {p d f : Nat} {l : Int} {R : List Int} (h : ps[p]? = some (l, R)) : nxt ps (p, d, f) = R[d]? := by
  unfold nxt
  simp only [h, Option.bind_some]
theorem lft_at {ps : List (Int × List Int)} {p d f : Nat} {l : Int} {R : List Int} (h : ps[p]? = some (l, R)) : lft ps (p, d, f) = l := by
  unfold lft
  simp only [h, Option.map_some, Option.getD_some]
theorem add0_calls (w : World) (s m : Nat) (vl : Value) (X : List Itm) (h : SetM w s m vl X) (p f : Nat) (hx : InR (p, 0, f)) (hX : X.length ≤ 1000000) :
    Calls Try.prog 84 #[.pointer (some ⟨s, 0, none⟩), .agg #[.int .i64 (p : Int), .int .i64 0, .int .i64 (f : Int)]] w (AddSaid w s m vl (addS X (p, 0, f))) :=
  add_calls w s m vl X h p 0 f hx hX
set_option maxHeartbeats 16000000 in
set_option maxRecDepth 100000 in
theorem close_calls (w0 : World) (c s m h cph n K : Nat) (vl0 : Value) (X0 : List Itm) (G : Gr) (st : Int) (word : List Int) (gn gt gp gby gnu : Option Addr) (cp cby cnu : Nat) (BY : List (List Int)) (nb : List Bool) (ss : List Nat) (Xs : List (List Itm))
    (hM : ChM w0 m c G gn gt gp cp gby gnu cby cnu BY nb) (hB : ByNu G.prods K BY nb) (E : Env G.prods word)
    (c8 : w0.cell? ⟨c, 8, none⟩ = some (.slice (some ⟨h, 0, none⟩) (n + 1) cph))
    (hh : ∀ j sj, (ss ++ [s])[j]? = some sj → w0.cell? ⟨h, j, none⟩ = some (.pointer (some ⟨sj, 0, none⟩))) (hhn : ¬ Tch s m vl0 h) (hss : ss.length = n) (hXl : Xs.length = n) (hn64 : n ≤ 64)
    (hSt : StM w0 m ss Xs) (hset : SetM w0 s m vl0 X0)
    (hX : ∀ x ∈ X0, It G.prods st word n x.1 x.2.1 x.2.2) (hnd : X0.Nodup) (hne : X0 ≠ [])
    (hXs : ∀ j Y y, Xs[j]? = some Y → y ∈ Y → It G.prods st word j y.1 y.2.1 y.2.2) :
    Calls Try.prog 85 #[.pointer (some ⟨c, 0, none⟩), .pointer (some ⟨s, 0, none⟩), .int .i64 (n : Int)] w0 (CloSaid G.prods st word Xs n s m w0 vl0 X0) := by
  have hom : ∀ g, vl0.ownBlock = some g → m ≤ g := fun g hg => by have := (hset.o.lt g hg).1; have := hset.ms; omega
  have hm0 : m ≤ w0.heap.size := by have := hset.h.lt; omega
  have hcm := hM.clt
  have hP := E.p
  have hstart : CloAt G.prods st word Xs n s m w0 vl0 X0 300000 (.int .i64 0) w0 := ⟨0, vl0, X0, rfl, Nat.zero_le _, ⟨hset, Kp.refl _ _, fun _ hg => .inl hg, ⟨[], by simp⟩, hX, hnd, fun j x hj => by omega⟩, rfl⟩
  have Hom := hid hom
  have HM := hid hM
  have HB := hid hB
  have HE := hid E
  have Hc8 := hid c8
  have Hh := hid hh
  have Hhn := hid hhn
  have HSt := hid hSt
  have HXs := hid hXs
  have Hss := hid hss
  have HXl := hid hXl
  have Hne := hid hne
  clear hom hM hB E c8 hh hhn hSt hset hX hnd hXs hss hXl hne
  go_enter Try.func85, Try.ntmps85
  go_wp2_with fail
  go_loopg [6] 300000 (fun k v6 wr => CloAt G.prods st word Xs n s m w0 vl0 X0 k v6 wr)
  case atStart => exact hstart
  case round =>
    clear hstart
    obtain ⟨i, vl, X, rfl, hi, hC, hk⟩ := hrel
    have hbm := hC.to_below Hom.out hm0
    have hM1 := HM.out.later hbm
    have hlen := HE.out.len hC.nd hC.snd
    obtain ⟨ga, cap, rfl, hrow, -⟩ := own_rowE hC.set.o
    have s0 := hC.set.k.cell 0
    simp only [List.getElem?_cons_zero] at s0
    have HC := hid hC
    have Hk := hid hk
    have HM1 := hid hM1
    have Hbm := hid hbm
    clear hC hk hM1 hbm
    obtain ⟨M, hMl⟩ : ∃ M, M = X.length := ⟨_, rfl⟩
    rw [← hMl] at s0 hi hlen
    have HMl := hid hMl
    by_cases hlt : i < M
    · have hltI : (i : Int) < (M : Int) := by omega
      have hi0 : (0 : Int) ≤ (i : Int) := by omega
      obtain ⟨x, hx⟩ : ∃ x, X[i]? = some x := ⟨_, List.getElem?_eq_getElem (by omega)⟩
      obtain ⟨g, rfl, hgl, d0, d1, d2⟩ := hrow i x hx
      have Hx := hid hx
      have hIt := HC.out.snd x (List.mem_of_getElem? hx)
      obtain ⟨l, R, hp, hl0, hd, hR, hf, hn2, hp256⟩ := HE.out.box hIt
      have HIt := hid hIt
      obtain ⟨p, d, f⟩ := x
      simp only at d0 d1 d2 hp hd hf hp256
      clear hrow hx hIt hMl
      go_upto_region 4 with fail
      have hC1 := HC.out.below (bel_al (bel_id wr) (.cells #[.int .i64 (p : Int), .int .i64 (d : Int), .int .i64 (f : Int)] 146))
      have hkx := Bk.new wr 146 [.int .i64 (p : Int), .int .i64 (d : Int), .int .i64 (f : Int)]
      obtain ⟨w1, hw1⟩ : ∃ w1, w1 = wr.alloc (.cells #[.int .i64 (p : Int), .int .i64 (d : Int), .int .i64 (f : Int)] 146) := ⟨_, rfl⟩
      obtain ⟨bx, hbx⟩ : ∃ bx, bx = wr.heap.size := ⟨_, rfl⟩
      have hsb : s < bx := by have := HC.out.set.k.lt; omega
      have hgb : g < bx := by omega
      rw [← hw1] at hkx hC1 ⊢
      rw [← hbx] at hkx ⊢
      clear hw1 hbx s0 hgl d0 d1 d2
      have hM1 := HM.out.later (hC1.to_below Hom.out hm0)
      have hG1 := hM1.gin
      have c4 := hM1.c4
      have x0 := hkx.cell 0
      have x1 := hkx.cell 1
      have x2 := hkx.cell 2
      simp only [List.getElem?_cons_zero, List.getElem?_cons_succ] at x0 x1 x2
      have Hkx := hid hkx
      have HC1 := hid hC1
      have Hp := hid hp
      clear hM1 hkx hC1 hp
      cases hq : R[d]? with
      | none =>
        have Hq := hid hq
        clear hq
        go_upto_region 6 with (go_at_call 91; refine (next_calls w1 c G gn gt gp cp hG1 c4 p d f l R Hp.out hd (by omega) (by omega)).mono ?_; rintro e w2 ⟨he, hb2⟩; rw [Hq.out] at he; simp only [nxV] at he; subst he)
        have Hhb : Hid (w1.heap.size ≤ w2.heap.size) := hid hb2.size
        have hC2 := HC1.out.below hb2
        have hkx2 := Hkx.out.below hb2 Hkx.out.lt
        have hbm2 := hC2.to_below Hom.out hm0
        have hM2 := HM.out.later hbm2
        have hSt2 := HSt.out.later hbm2
        have x2 := hkx2.cell 2
        have c8 := (hbm2.cell (p := ⟨c, 8, none⟩) hcm).trans Hc8.out
        simp only [List.getElem?_cons_zero, List.getElem?_cons_succ] at x2
        have hYs : ∃ (Y : List Itm) (sj gy cy : Nat), w2.cell? ⟨h, f, none⟩ = some (.pointer (some ⟨sj, 0, none⟩)) ∧ w2.cell? ⟨sj, 0, none⟩ = some (.slice (some ⟨gy, 0, none⟩) Y.length cy) ∧ RowE w2 (some ⟨gy, 0, none⟩) Y ∧ Y ≠ [] ∧ Y.length ≤ 282880 ∧ (∀ y ∈ Y, It G.prods st word f y.1 y.2.1 y.2.2) ∧ (f < n → Xs[f]? = some Y) := by
          by_cases hfn : f < n
          · obtain ⟨Y0, hY⟩ : ∃ Y0, Xs[f]? = some Y0 := ⟨_, List.getElem?_eq_getElem (by rw [HXl.out]; exact hfn)⟩
            obtain ⟨sj, gy, cy, h1, h2, h3, h4, h5, h6, h7⟩ := hSt2 f _ hY
            exact ⟨_, sj, gy, cy, hC2.kp.cell (Hh.out f sj (by rw [List.getElem?_append_left (by rw [Hss.out]; exact hfn)]; exact h1)) Hhn.out, h3, h4, h6, h7, fun y hy => HXs.out f _ y hY hy, fun _ => hY⟩
          · obtain rfl : f = n := by omega
            obtain ⟨ga2, cap2, hv, hrow2, -⟩ := own_rowE hC2.set.o
            injection hv with hv1 hv2 hv3
            subst hv1
            have k0 := hC2.set.k.cell 0
            simp only [List.getElem?_cons_zero] at k0
            have e : (ss ++ [s])[f]? = some s := by rw [← Hss.out]; simp
            refine ⟨X, s, g, cap, hC2.kp.cell (Hh.out f s e) Hhn.out, k0, hrow2, fun e => ?_, HE.out.len hC2.nd hC2.snd, hC2.snd, fun e => absurd e hfn⟩
            have := HMl.out
            rw [e] at this
            simp at this
            omega
        obtain ⟨Y, sj, gy, cy, yh, ys, hYr, hYn, hYl, hYi, hYx⟩ := hYs
        have hb2d : Below w2.heap.size w2 w2.drew := below_drewN (Below.refl _ _) 1
        have hYr2 := hYr.later hb2d
        have hfI : (f : Int) < (n : Int) + 1 := by omega
        have hf0 : (0 : Int) ≤ (f : Int) := by omega
        have hfN : f < n + 1 := by omega
        have hcl := cloneE_calls w2.drew gy cy Y hYr2 hYn (by omega)
        have Hcl := hid hcl
        have HYi := hid hYi
        have HYx := hid hYx
        have Hbd := hid hb2d
        have HC2 := hid hC2
        have Hkx2 := hid hkx2
        obtain ⟨N, hN⟩ : ∃ N, N = Y.length := ⟨_, rfl⟩
        rw [← hN] at ys hYl Hcl
        have HN := hid hN
        clear hcl hYi hYx hb2d hC2 hkx2 hbm2 hM2 hSt2 hYr hYr2 hYn hG1 c4 x0 x1 hN
        go_cut [52, 53, 54] from 41 to 54 (fun v52 v53 v54 w3 => ∃ g3 c3, v52 = .slice (some ⟨g3, 0, none⟩) N c3 ∧ v53 = .int .i64 (N : Int) ∧ v54 = .int .i64 0 ∧ RowE w3 (some ⟨g3, 0, none⟩) Y ∧ w2.drew.heap.size ≤ g3 ∧ Below w2.drew.heap.size w2.drew w3)
        case first =>
          go_region_law (go_simp; go_at_call 119; refine Hcl.out.mono ?_; rintro e w3 ⟨g3, c3, rfl, hr3, hf3, hb3⟩; have H3 := hid (And.intro hr3 (And.intro hf3 hb3)); clear hr3 hf3 hb3)
          all_goals (go_wp2_with fail; go_meet; exact ⟨g3, c3, rfl, rfl, rfl, H3.out⟩)
        case rest =>
        clear c8 yh ys x2
        obtain ⟨g3, c3, rfl, rfl, rfl, hr3, hf3, hb3⟩ := hcut
        have hb23 := belw Hbd.out hb3
        have hC3 := HC2.out.below hb23
        have hkx3 := Hkx2.out.below hb23 Hkx2.out.lt
        have hg3 : w2.heap.size ≤ g3 := hf3
        have hgo := HC2.out.set.o.lt g rfl
        have ht3 : ¬ Tch s m (.slice (some ⟨g, 0, none⟩) X.length cap) g3 := by
          have h1 := HC2.out.set.k.lt
          have h2 := HC2.out.set.ms
          rintro (e | e | e)
          · omega
          · omega
          · have e : g = g3 := by simpa [Value.ownBlock] using e
            omega
        have htx : ¬ Tch s m (.slice (some ⟨g, 0, none⟩) X.length cap) bx := by
          have h2 := HC2.out.set.ms
          rintro (e | e | e)
          · omega
          · omega
          · have e : g = bx := by simpa [Value.ownBlock] using e
            omega
        have hag := hC3.again
        have hmg : m ≤ g := by have := HC2.out.set.ms; omega
        have hm3 : m ≤ wc.heap.size := by have := hb23.size; have := HC2.out.set.ms; have := HC2.out.set.k.lt; omega
        have hstart2 : CloC G.prods st word Xs n s m wc (.slice (some ⟨g, 0, none⟩) X.length cap) X i Y l Y.length (.int .i64 0) wc := ⟨0, _, X, rfl, Nat.zero_le _, hag, fun j' y hj => by omega, rfl⟩
        rw [← HN.out] at hstart2
        have HC3 := hid hC3
        have Hr3 := hid hr3
        have Hkx3 := hid hkx3
        have Ht3 := hid ht3
        have Htx := hid htx
        clear hr3 hf3 hb3 hb23 hC3 hkx3 hgo ht3 htx hag
        go_wp2_with fail
        go_loopg [54] N (fun k v54 wr => CloC G.prods st word Xs n s m wc (.slice (some ⟨g, 0, none⟩) X.length cap) X i Y l k v54 wr)
        case atStart => exact hstart2
        case round =>
          clear hstart2
          obtain ⟨j, vj, Xj, rfl, hj, hCj, hseen, hkj⟩ := hrel
          rw [← HN.out] at hj hkj
          have hbmj := hCj.to_below (fun g' e => by
            have e : g = g' := by simpa [Value.ownBlock] using e
            omega) hm3
          have hMj := HM.out.later ((HC3.out.to_below Hom.out hm0).trans hbmj)
          have hrj := Hr3.out.kp hCj.kp Ht3.out
          have hkj2 := Hkx3.out.kp hCj.kp Htx.out
          have Hseen := hid hseen
          have HCj := hid hCj
          have Hkj := hid hkj
          have Hkxj := hid hkj2
          have hszj := hCj.kp.size
          clear hbmj hseen hCj hkj
          by_cases hltj : j < N
          · have hltjI : (j : Int) < (N : Int) := by omega
            have hj0 : (0 : Int) ≤ (j : Int) := by omega
            obtain ⟨y, hy⟩ : ∃ y, Y[j]? = some y := ⟨_, List.getElem?_eq_getElem (by rw [← HN.out]; exact hltj)⟩
            obtain ⟨g4, hg4, hgl4, d0, d1, d2⟩ := hrj j y hy
            injection hg4 with hg4
            injection hg4 with hg4
            subst hg4
            have hyi := HYi.out y (List.mem_of_getElem? hy)
            obtain ⟨ly, Ry, hpy, hly0, hdy, hRy, hfy, hfn2, hpy256⟩ := HE.out.box hyi
            have Hy := hid hy
            have Hyi := hid hyi
            have Hpy := hid hpy
            obtain ⟨py, dy, fy⟩ := y
            simp only at d0 d1 d2 hdy hfy hpy256 Hpy
            clear hy hyi hpy hrj hMj hkj2
            go_upto_region 9 with fail
            have hC5 := HCj.out.below (bel_al (bel_id wr) (.cells #[.int .i64 (py : Int), .int .i64 (dy : Int), .int .i64 (fy : Int)] 146))
            have hky := Bk.new wr 146 [.int .i64 (py : Int), .int .i64 (dy : Int), .int .i64 (fy : Int)]
            have hkx5 := Hkxj.out.below (bel_al (bel_id wr) (.cells #[.int .i64 (py : Int), .int .i64 (dy : Int), .int .i64 (fy : Int)] 146)) Hkxj.out.lt
            obtain ⟨w5, hw5⟩ : ∃ w5, w5 = wr.alloc (.cells #[.int .i64 (py : Int), .int .i64 (dy : Int), .int .i64 (fy : Int)] 146) := ⟨_, rfl⟩
            obtain ⟨bq, hbq⟩ : ∃ bq, bq = wr.heap.size := ⟨_, rfl⟩
            rw [← hw5] at hC5 hky hkx5 ⊢
            rw [← hbq] at hky ⊢
            clear hw5 hbq hgl4 d0 d1 d2
            have hM5 := HM.out.later ((HC3.out.to_below Hom.out hm0).trans (hC5.to_below (fun g' e => by
              have e : g = g' := by simpa [Value.ownBlock] using e
              omega) hm3))
            have hG5 := hM5.gin
            have c4 := hM5.c4
            have y0 := hky.cell 0
            have y1 := hky.cell 1
            have y2 := hky.cell 2
            simp only [List.getElem?_cons_zero, List.getElem?_cons_succ] at y0 y1 y2
            have HC5 := hid hC5
            have Hky := hid hky
            have Hkx5 := hid hkx5
            clear hM5 hC5 hky hkx5
            have hjle : i ≤ Xj.length := by
              obtain ⟨r, hr⟩ := HCj.out.pre
              have h1 := HMl.out
              rw [hr, List.length_append]
              omega
            have hjlen := HE.out.len HCj.out.nd HCj.out.snd
            have Hjle := hid hjle
            clear hjle
            cases hqy : Ry[dy]? with
            | none =>
              have Hqy := hid hqy
              clear hqy
              go_upto_region 10 with (go_at_call 91; refine (next_calls w5 c G gn gt gp cp hG5 c4 py dy fy ly Ry Hpy.out hdy (by omega) (by omega)).mono ?_; rintro e w6 ⟨he, hb6⟩; rw [Hqy.out] at he; simp only [nxV] at he; subst he)
              have hb6d := hb6.trans ((show Below w6.heap.size w6 w6.drew from below_drewN (Below.refl _ _) 1).mono hb6.size)
              have HC6 := hid (HC5.out.below hb6d)
              clear hb6d hb6 hG5 c4 y0 y1 y2
              go_region
              go_wp2_with fail
              go_roundg (N - (j + 1))
              case measure => have := Hkj.out; omega
              case rel =>
                refine ⟨j + 1, vj, Xj, by go_num, by rw [← HN.out]; omega, HC6.out, fun j' y hj' hy' hn' => ?_, by rw [← HN.out]⟩
                by_cases e : j' = j
                · subst e
                  rw [Hy.out] at hy'
                  injection hy' with hy'
                  subst hy'
                  rw [nxt_at Hpy.out, Hqy.out] at hn'
                  cases hn'
                · exact Hseen.out j' y (by omega) hy' hn'
            | some ty =>
              have Hqy := hid hqy
              clear hqy
              go_upto_region 10 with (go_at_call 91; refine (next_calls w5 c G gn gt gp cp hG5 c4 py dy fy ly Ry Hpy.out hdy (by omega) (by omega)).mono ?_; rintro e w6 ⟨he, hb6⟩; rw [Hqy.out] at he; simp only [nxV] at he; subst he)
              have hb6d := hb6.trans ((show Below w6.heap.size w6 w6.drew from below_drewN (Below.refl _ _) 1).mono hb6.size)
              have HC6 := hid (HC5.out.below hb6d)
              have Hky6 := hid (Hky.out.below hb6d Hky.out.lt)
              have hM6 := HM.out.later ((HC3.out.to_below Hom.out hm0).trans ((HC5.out.below hb6).to_below (fun g' e => by
                have e : g = g' := by simpa [Value.ownBlock] using e
                omega) hm3))
              obtain ⟨g7, off7, gR7, cR7, rfl, hgl7, hcl7, -, -⟩ := hM6.gin.p p _ Hp.out
              have c46 := hM6.c4
              have x06 := (Hkx5.out.below hb6 Hkx5.out.lt).cell 0
              simp only [List.getElem?_cons_zero] at x06
              have hpI : (p : Int) < (G.prods.length : Int) := by have := (List.getElem?_eq_some_iff.1 Hp.out).1; omega
              have hp0 : (0 : Int) ≤ (p : Int) := by omega
              clear hb6d hb6 hG5 c4 y0 y1 y2 hM6
              by_cases hty : ty = l
              · have hte : (ty == l) = true := by simp [hty]
                have Hty := hid hty
                clear hty
                go_region
                go_upto_region 11 with fail
                obtain ⟨w7, hw7⟩ : ∃ w7, w7 = w6.drew := ⟨_, rfl⟩
                rw [← hw7] at HC6 Hky6 ⊢
                clear hw7 c46 x06 hcl7
                have y0 := Hky6.out.cell 0
                have y1 := Hky6.out.cell 1
                have y2 := Hky6.out.cell 2
                simp only [List.getElem?_cons_zero, List.getElem?_cons_succ] at y0 y1 y2
                have hdf : d = R.length := by have := List.getElem?_eq_none_iff.1 Hq.out; omega
                have hItc : It G.prods st word n py (dy + 1) fy := by
                  have h1 := HIt.out
                  try simp only at h1
                  rw [hdf] at h1
                  exact It.comp h1 Hp.out Hyi.out Hpy.out (by rw [Hqy.out, Hty.out])
                have hInr := HE.out.inr hItc
                have HItc := hid hItc
                clear hItc hdf
                go_upto_region 12 with (first | (go_at_call 120; refine (step_calls _ py dy fy (by omega)).mono ?_; rintro e w8 ⟨rfl, hb8⟩; have hC8 := HC6.out.below hb8; have HC8 := hid hC8; have hs8 := hC8.set; clear hC8 hb8) | (go_at_call 84; refine (add_calls _ s m vj Xj hs8 py (dy + 1) fy hInr (by omega)).mono ?_; rintro e w9 ⟨v9, rfl, hs9, hk9, ho9⟩))
                have HC9 := hid (HC8.out.add hs9 hk9 ho9 Hjle.out HItc.out)
                clear hs8 hs9 hk9 ho9 y0 y1 y2
                go_wp2_with fail
                go_roundg (N - (j + 1))
                case measure => have := Hkj.out; omega
                case rel =>
                  refine ⟨j + 1, v9, _, by go_num, by rw [← HN.out]; omega, HC9.out, fun j' y hj' hy' hn' => ?_, by rw [← HN.out]⟩
                  by_cases e : j' = j
                  · subst e
                    rw [Hy.out] at hy'
                    injection hy' with hy'
                    subst hy'
                    exact (addS_mem _ _ _).2 (.inr rfl)
                  · exact (addS_mem _ _ _).2 (.inl (Hseen.out j' y (by omega) hy' hn'))
              · have hte : (ty == l) = false := by simp [hty]
                have Hty := hid hty
                clear hty
                go_region
                go_wp2_with fail
                go_roundg (N - (j + 1))
                case measure => have := Hkj.out; omega
                case rel =>
                  refine ⟨j + 1, vj, Xj, by go_num, by rw [← HN.out]; omega, HC6.out, fun j' y hj' hy' hn' => ?_, by rw [← HN.out]⟩
                  by_cases e : j' = j
                  · subst e
                    rw [Hy.out] at hy'
                    injection hy' with hy'
                    subst hy'
                    rw [nxt_at Hpy.out, Hqy.out] at hn'
                    injection hn' with hn'
                    exact absurd hn' Hty.out
                  · exact Hseen.out j' y (by omega) hy' hn'
          · have hgej : ¬ (j : Int) < (N : Int) := by omega
            have hjN : j = N := by omega
            have hfin : Cs G.prods st word Xs n s m w0 vl0 X0 (i + 1) wr vj Xj := by
              have hJ := HC3.out.join HCj.out
              refine hJ.step (HCj.out.at Hx.out) ⟨fun s' q R' hn' _ _ _ => ?_, fun s' hn' _ _ => ?_, fun _ Y' y hf' hY' hy' hn' => ?_⟩
              · rw [nxt_at Hp.out, Hq.out] at hn'
                cases hn'
              · rw [nxt_at Hp.out, Hq.out] at hn'
                cases hn'
              · simp only at hf' hY'
                rw [HYx.out hf'] at hY'
                injection hY' with hY'
                subst hY'
                rw [lft_at Hp.out] at hn'
                obtain ⟨j', hj', he⟩ := List.mem_iff_getElem.1 hy'
                exact Hseen.out j' y (by have := HN.out; omega) (by rw [List.getElem?_eq_getElem hj', he]) hn'
            have hle2 : i + 1 ≤ Xj.length := by
              have := (List.getElem?_eq_some_iff.1 (HCj.out.at Hx.out)).1
              omega
            have Hfin := hid (And.intro hfin hle2)
            clear hfin hle2 hrj hMj hkj2 hjN
            go_wp2_with fail
            go_roundg (300000 - (i + 1))
            case measure => have := Hk.out; omega
            case rel => exact ⟨i + 1, vj, Xj, by go_num, Hfin.out.2, Hfin.out.1, rfl⟩
      | some sy =>
        have Hq := hid hq
        clear hq
        go_upto_region 13 with (go_at_call 91; refine (next_calls w1 c G gn gt gp cp hG1 c4 p d f l R Hp.out hd (by omega) (by omega)).mono ?_; rintro e w2 ⟨he, hb2⟩; rw [Hq.out] at he; simp only [nxV] at he; subst he)
        have HC2 := hid (HC1.out.below hb2)
        have Hkx2 := hid (Hkx.out.below hb2 Hkx.out.lt)
        have hM2 := HM.out.later (HC2.out.to_below Hom.out hm0)
        have hmg : m ≤ g := by have := (HC2.out.set.o.lt g rfl).1; have := HC2.out.set.ms; omega
        have hgs := (HC2.out.set.o.lt g rfl).2
        have hm2 : m ≤ w2.heap.size := by omega
        have htx : ¬ Tch s m (.slice (some ⟨g, 0, none⟩) X.length cap) bx := by
          have h2 := HC2.out.set.ms
          rintro (e | e | e)
          · omega
          · omega
          · have e : g = bx := by simpa [Value.ownBlock] using e
            omega
        have Htx := hid htx
        clear hb2 hG1 c4 x0 x1 x2 htx hgs
        by_cases hs0 : 0 ≤ sy
        · obtain ⟨a, rfl⟩ := Int.eq_ofNat_of_zero_le hs0
          have haK : a < K := by
            have := HB.out.low _ (List.mem_of_getElem? Hp.out) _ (List.mem_of_getElem? Hq.out)
            omega
          have haB : a < BY.length := by rw [HB.out.bl]; exact haK
          have hanb : a < nb.length := by rw [HB.out.nl]; exact haK
          have haBI : (a : Int) < (BY.length : Int) := by omega
          have hanI : (a : Int) < (nb.length : Int) := by omega
          have c6 := hM2.c6
          obtain ⟨g5, off5, gr, cr, rfl, hg5, hc5, hrow5⟩ := hM2.by_.at haB
          obtain ⟨row, hrw⟩ : ∃ row, row = BY[a] := ⟨_, rfl⟩
          rw [← hrw] at hc5 hrow5
          have hrowe : BY[a]? = some row := by rw [hrw]; exact List.getElem?_eq_getElem haB
          have hfew := HB.out.few row (List.mem_of_getElem? hrowe)
          have Hrow := hid (HB.out.by_ a row hrowe)
          have Hrow5 := hid hrow5
          have hstart3 : CloP G.prods st word Xs n s m w2 (.slice (some ⟨g, 0, none⟩) X.length cap) X i row row.length (.int .i64 0) w2 := ⟨0, _, X, rfl, Nat.zero_le _, HC2.out.again, fun j' q hj => by omega, rfl⟩
          obtain ⟨N, hN⟩ : ∃ N, N = row.length := ⟨_, rfl⟩
          rw [← hN] at hc5 hstart3 hfew
          have HN := hid hN
          clear hrw hrowe hrow5 hN hM2
          go_wp2_with fail
          go_loopg [95] N (fun k v95 wq => CloP G.prods st word Xs n s m w2 (.slice (some ⟨g, 0, none⟩) X.length cap) X i row k v95 wq)
          case atStart => exact hstart3
          case round =>
            clear hstart3 c6 hc5
            obtain ⟨j, vj, Xj, rfl, hj, hCj, hseen, hkj⟩ := hrel
            rw [← HN.out] at hj hkj
            have hbmj := hCj.to_below (fun g' e => by
              have e : g = g' := by simpa [Value.ownBlock] using e
              omega) hm2
            have hMj := HM.out.later ((HC2.out.to_below Hom.out hm0).trans hbmj)
            have hrj := Hrow5.out.below hbmj
            have hkj2 := Hkx2.out.kp hCj.kp Htx.out
            have Hseen := hid hseen
            have HCj := hid hCj
            have Hkj := hid hkj
            have Hkxj := hid hkj2
            have hset := hCj.set
            have hjlen := HE.out.len hCj.nd hCj.snd
            have Hjle : Hid (i ≤ Xj.length) := hid (by
              obtain ⟨r, hr⟩ := hCj.pre
              have h1 := HMl.out
              rw [hr, List.length_append]
              omega)
            clear hbmj hseen hCj hkj hkj2
            by_cases hltj : j < N
            · have hltjI : (j : Int) < (N : Int) := by omega
              have hj0 : (0 : Int) ≤ (j : Int) := by omega
              have hltr : j < row.length := by rw [← HN.out]; exact hltj
              obtain ⟨g6, off6, rfl, hg6, hc6⟩ := hrj.at hltr
              obtain ⟨v, hv⟩ : ∃ v, v = row[j] := ⟨_, rfl⟩
              rw [← hv] at hc6
              have hve : row[j]? = some v := by rw [hv]; exact List.getElem?_eq_getElem hltr
              obtain ⟨q, R', rfl, hpq, hfq⟩ := (Hrow.out v).1 (List.mem_of_getElem? hve)
              have hItq : It G.prods st word n q 0 n := It.pred HIt.out Hp.out Hq.out hs0 hpq hfq
              have hInr := HE.out.inr hItq
              have HItq := hid hItq
              have Hve := hid hve
              clear hv hve hItq hpq hfq hrj hMj hltr
              go_upto_region 18 with (go_at_call 84; refine (add0_calls _ s m vj Xj hset q n hInr (by omega)).mono ?_; rintro e w9 ⟨v9, rfl, hs9, hk9, ho9⟩)
              have HC9 := hid (HCj.out.add hs9 hk9 ho9 Hjle.out HItq.out)
              clear hset hs9 hk9 ho9 hc6
              go_wp2_with fail
              go_roundg (N - (j + 1))
              case measure => have := Hkj.out; omega
              case rel =>
                refine ⟨j + 1, v9, _, by go_num, by rw [← HN.out]; omega, HC9.out, fun j' q' hj' hq' => ?_, by rw [← HN.out]⟩
                by_cases e : j' = j
                · subst e
                  rw [Hve.out] at hq'
                  injection hq' with hq'
                  have e : q = q' := by omega
                  subst e
                  exact (addS_mem _ _ _).2 (.inr rfl)
                · exact (addS_mem _ _ _).2 (.inl (Hseen.out j' q' (by omega) hq'))
            · have hgej : ¬ (j : Int) < (N : Int) := by omega
              have hjN : j = N := by omega
              have hJ := HC2.out.join HCj.out
              have hall : ∀ (q : Nat) R', G.prods[q]? = some ((a : Int), R') → Fine G.prods R' → (q, 0, n) ∈ Xj := fun q R' h1 h2 => by
                have hm := (Hrow.out (q : Int)).2 ⟨q, R', rfl, h1, h2⟩
                obtain ⟨j', hj', he⟩ := List.mem_iff_getElem.1 hm
                exact Hseen.out j' q (by have := HN.out; omega) (by rw [List.getElem?_eq_getElem hj', he])
              have c7 := hMj.c7
              obtain ⟨g8, off8, rfl, hg8, hc8⟩ := hMj.nu.at hanb
              have hnb := HB.out.nu a nb[a] (List.getElem?_eq_getElem hanb)
              have hxj := HCj.out.at Hx.out
              have hle2 : i + 1 ≤ Xj.length := by
                have := (List.getElem?_eq_some_iff.1 hxj).1
                omega
              obtain ⟨bo, hbo⟩ : ∃ bo, bo = nb[a] := ⟨_, rfl⟩
              rw [← hbo] at hc8 hnb
              cases bo with
              | false =>
                have hfin : Cs G.prods st word Xs n s m w0 vl0 X0 (i + 1) wr vj Xj := by
                  refine hJ.step hxj ⟨fun s' q R' hn' _ h1 h2 => ?_, fun s' hn' _ h1 => ?_, fun hn' => ?_⟩
                  · rw [nxt_at Hp.out, Hq.out] at hn'
                    injection hn' with hn'
                    subst hn'
                    exact hall q R' h1 h2
                  · rw [nxt_at Hp.out, Hq.out] at hn'
                    injection hn' with hn'
                    subst hn'
                    have := hnb.2 h1
                    cases this
                  · rw [nxt_at Hp.out, Hq.out] at hn'
                    cases hn'
                have Hfin := hid (And.intro hfin hle2)
                clear hfin hle2 hrj hMj hjN hJ hall hnb hxj hbo hset
                go_wp2_with fail
                go_roundg (300000 - (i + 1))
                case measure => have := Hk.out; omega
                case rel => exact ⟨i + 1, vj, Xj, by go_num, Hfin.out.2, Hfin.out.1, rfl⟩
              | true =>
                have hItn : It G.prods st word n p (d + 1) f := by
                  have h1 := HIt.out
                  try simp only at h1
                  obtain ⟨R0, hR0, hd0⟩ := (hnb.1 rfl).inv hs0
                  obtain ⟨q, hq⟩ := List.mem_iff_getElem?.1 hR0
                  have hpr := It.pred h1 Hp.out Hq.out hs0 hq hd0.each
                  have hk := It.walk hd0 hpr hq (rest := []) (by simp) (by simp)
                  simp only [List.length_nil, Nat.add_zero, Nat.zero_add] at hk
                  exact It.comp hk hq h1 Hp.out Hq.out
                have hInr := HE.out.inr hItn
                have Hst := hid (And.intro hJ (And.intro hItn (And.intro hall (And.intro hxj hle2))))
                have y0 := Hkxj.out.cell 0
                have y1 := Hkxj.out.cell 1
                have y2 := Hkxj.out.cell 2
                simp only [List.getElem?_cons_zero, List.getElem?_cons_succ] at y0 y1 y2
                clear hle2 hrj hMj hjN hJ hall hnb hxj hbo hset hItn
                go_upto_region 2 with (first | (go_at_call 120; refine (step_calls _ p d f (by omega)).mono ?_; rintro e w8 ⟨rfl, hb8⟩; have hC8 := Hst.out.1.below hb8; have HC8 := hid hC8; have hs8 := hC8.set; clear hC8 hb8) | (go_at_call 84; refine (add_calls _ s m vj Xj hs8 p (d + 1) f hInr (by omega)).mono ?_; rintro e w9 ⟨v9, rfl, hs9, hk9, ho9⟩))
                have hC9 := HC8.out.add hs9 hk9 ho9 Hjle.out Hst.out.2.1
                have hxj9 : (addS Xj (p, d + 1, f))[i]? = some (p, d, f) := by
                  obtain ⟨r, hr⟩ := addS_pre Xj (p, d + 1, f)
                  rw [hr, List.getElem?_append_left (by have := Hst.out.2.2.2.2; omega)]
                  exact Hst.out.2.2.2.1
                have hfin := hC9.step hxj9 ⟨fun s' q R' hn' _ h1 h2 => by
                    rw [nxt_at Hp.out, Hq.out] at hn'
                    injection hn' with hn'
                    subst hn'
                    exact (addS_mem _ _ _).2 (.inl (Hst.out.2.2.1 q R' h1 h2)), fun s' hn' _ h1 => (addS_mem _ _ _).2 (.inr rfl), fun hn' => by
                    rw [nxt_at Hp.out, Hq.out] at hn'
                    cases hn'⟩
                have hle9 : i + 1 ≤ (addS Xj (p, d + 1, f)).length := by
                  have := (List.getElem?_eq_some_iff.1 hxj9).1
                  omega
                have Hfin := hid (And.intro hfin hle9)
                clear hs8 hs9 hk9 ho9 hC9 hxj9 hfin hle9 y0 y1 y2
                go_wp2_with fail
                go_roundg (300000 - (i + 1))
                case measure => have := Hk.out; omega
                case rel => exact ⟨i + 1, v9, _, by go_num, Hfin.out.2, Hfin.out.1, rfl⟩
        · have hfin := HC2.out.step Hx.out ⟨fun s' q R' hn' h1 _ _ => by
              rw [nxt_at Hp.out, Hq.out] at hn'
              injection hn' with hn'
              omega, fun s' hn' h1 _ => by
              rw [nxt_at Hp.out, Hq.out] at hn'
              injection hn' with hn'
              omega, fun hn' => by
              rw [nxt_at Hp.out, Hq.out] at hn'
              cases hn'⟩
          have Hfin := hid hfin
          clear hfin hM2
          go_wp2_with fail
          go_roundg (300000 - (i + 1))
          case measure => have := Hk.out; omega
          case rel => exact ⟨i + 1, _, X, by go_num, by rw [← HMl.out]; omega, Hfin.out, rfl⟩
    · have hge : ¬ (i : Int) < (M : Int) := by omega
      have hiM : i = X.length := by omega
      have Hfin := hid (hiM ▸ HC.out)
      clear hrow hMl hiM
      go_wp2_with fail
      refine bodyPost_end (results_none rfl _ _ _) rfl ?_
      exact ⟨_, X, rfl, Hfin.out⟩
end Ed
end Go.Proofs.Ytaehooafdbaomaa
