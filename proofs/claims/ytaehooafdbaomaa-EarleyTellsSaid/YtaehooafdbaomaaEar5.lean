/- Chapter 17 (earley): scan: a walk. -/
import Derived.Test.YtaehooafdbaomaaEar4
namespace Go.Proofs.Ytaehooafdbaomaa
open Go.RowKit
attribute [local go_sem ↓] Go.wp_at_zero Go.wp_at_succ
attribute [local go_sem] frozen_alloc_lt
namespace Ed

def ScnAt (ps : List (Int × List Int)) (st : Int) (word : List Int) (n s m : Nat) (w1 : World) (X : List Itm) (t : Int) (k : Nat) (v20 : Value) (wr : World) : Prop := ∃ (j : Nat) (vl : Value) (Y : List Itm), v20 = .int .i64 j ∧ j ≤ X.length ∧ Cs ps st word [] (n + 1) s m w1 (.slice none 0 0) [] 0 wr vl Y ∧ (∀ j' x, j' < j → X[j']? = some x → nxt ps x = some (-1 - t) → stp x ∈ Y) ∧ k = X.length - j
/-- What scan leaves. -/
def ScnSaid (ps : List (Int × List Int)) (st : Int) (word : List Int) (n : Nat) (w0 : World) (X : List Itm) (t : Int) (e : Ending) (w' : World) : Prop := ∃ (s m : Nat) (vl : Value) (Y : List Itm), e = .returned (.pointer (some ⟨s, 0, none⟩)) ∧ SetM w' s m vl Y ∧ w0.heap.size ≤ m ∧ Below w0.heap.size w0 w' ∧ Y.Nodup ∧ (∀ x ∈ Y, It ps st word (n + 1) x.1 x.2.1 x.2.2) ∧ ∀ x ∈ X, nxt ps x = some (-1 - t) → stp x ∈ Y
/-- A new set. -/
theorem SetM.made (w : World) : SetM ((w.alloc (.map #[] 0)).alloc (.cells #[.slice none 0 0, .map (some w.heap.size)] 143)) (w.heap.size + 1) w.heap.size (.slice none 0 0) [] := by
  refine ⟨bk_at (Bk.new (w.alloc (.map #[] 0)) 143 [.slice none 0 0, .map (some w.heap.size)]) (show _ = w.heap.size + 1 by simp), OwnA.nil _ _ _ _ _, ?_, Nat.lt_succ_self _⟩
  have h := SetE.made w
  exact h.at ((bel_al (bel_id (w.alloc (.map #[] 0))) _).block _ h.lt)
set_option maxHeartbeats 8000000 in
set_option maxRecDepth 100000 in
theorem scan_calls (w0 : World) (c s m n : Nat) (vl : Value) (X : List Itm) (G : Gr) (st : Int) (word : List Int) (gn gt gp : Option Addr) (cp : Nat) (t : Int)
    (hg : GIn w0 G gn gt gp) (hc : w0.cell? ⟨c, 4, none⟩ = some (.slice gp G.prods.length cp)) (E : Env G.prods word) (hset : SetM w0 s m vl X)
    (hX : ∀ x ∈ X, It G.prods st word n x.1 x.2.1 x.2.2) (hnd : X.Nodup) (ht : word[n]? = some t) (ht0 : 0 ≤ t) (ht1 : t ≤ 1000) :
    Calls Try.prog 86 #[.pointer (some ⟨c, 0, none⟩), .pointer (some ⟨s, 0, none⟩), .int .i64 t] w0 (ScnSaid G.prods st word n w0 X t) := by
  have hP := E.p
  have hlen := E.len hnd hX
  have hsl := hset.k.lt
  obtain ⟨ga, cap, rfl, hrow, -⟩ := own_rowE hset.o
  have k0 := hset.k.cell 0
  simp only [List.getElem?_cons_zero] at k0
  have hb1 : Below w0.heap.size w0 ((w0.alloc (.map #[] 0)).alloc (.cells #[.slice none 0 0, .map (some w0.heap.size)] 143)) := bel_al (bel_al (bel_id w0) _) _
  have hnew := SetM.made w0
  have hcl := World.block_lt_of_cell? w0 _ hc
  have HX := hid hX
  have HE := hid E
  have Hg := hid hg
  have Hc := hid hc
  have Ht := hid ht
  have Hrow := hid hrow
  clear hX E hg hset hnd hrow hc ht
  obtain ⟨N, hN⟩ : ∃ N, N = X.length := ⟨_, rfl⟩
  rw [← hN] at k0 hlen
  have HN := hid hN
  clear hN
  have hmm := @run_makeMap Try.prog
  go_enter Try.func86, Try.ntmps86
  go_upto_region 2 with fail
  obtain ⟨w1, hw1⟩ : ∃ w1, w1 = (w0.alloc (.map #[] 0)).alloc (.cells #[.slice none 0 0, .map (some w0.heap.size)] 143) := ⟨_, rfl⟩
  obtain ⟨m1, hm1⟩ : ∃ m1, m1 = w0.heap.size := ⟨_, rfl⟩
  rw [← hw1, ← hm1] at hnew ⊢
  rw [← hw1] at hb1
  rw [← hm1] at hcl hsl
  have hsz1 : m1 ≤ w1.heap.size := by rw [hm1]; exact hb1.size
  have k1 := (hb1.cell (p := ⟨s, 0, none⟩) (by show s < w0.heap.size; omega)).trans k0
  have hinit : Cs G.prods st word [] (n + 1) (m1 + 1) m1 w1 (.slice none 0 0) [] 0 w1 (.slice none 0 0) [] := ⟨hnew, Kp.refl _ _, fun _ hg => .inl hg, ⟨[], rfl⟩, (fun x hx => by cases hx), List.Pairwise.nil, (fun j x hj => by omega)⟩
  have hstart : ScnAt G.prods st word n (m1 + 1) m1 w1 X t N (.int .i64 0) w1 := ⟨0, _, [], rfl, Nat.zero_le _, hinit, fun j' x hj => by omega, by rw [← HN.out]; rfl⟩
  have Hb1 := hid hb1
  have Hm1 := hid hm1
  clear hw1 hnew hinit k0 hmm hb1 hm1
  go_wp2_with fail
  go_loopg [20] N (fun k v20 wr => ScnAt G.prods st word n (m1 + 1) m1 w1 X t k v20 wr)
  case atStart => exact hstart
  case round =>
    clear hstart k1
    obtain ⟨j, vj, Y, rfl, hj, hC, hseen, hk⟩ := hrel
    rw [← HN.out] at hj hk
    have hbm := hC.to_below (fun g' e => by simp [Value.ownBlock] at e) hsz1
    have hb0 : Below w0.heap.size w0 wr := Hb1.out.trans (by rw [← Hm1.out]; exact hbm)
    have HC := hid hC
    have Hseen := hid hseen
    have Hk := hid hk
    have hset := hC.set
    have hYlen := HE.out.len hC.nd hC.snd
    have Hb0 := hid hb0
    clear hC hseen hk hbm
    by_cases hlt : j < N
    · have hltI : (j : Int) < (N : Int) := by omega
      have hj0 : (0 : Int) ≤ (j : Int) := by omega
      obtain ⟨x, hx⟩ : ∃ x, X[j]? = some x := ⟨_, List.getElem?_eq_getElem (by rw [← HN.out]; exact hlt)⟩
      obtain ⟨g, rfl, hgl, d0, d1, d2⟩ := Hrow.out.later hb0 j x hx
      have hIt := HX.out x (List.mem_of_getElem? hx)
      obtain ⟨l, R, hp, hl0, hd, hR, hf, hn2, hp256⟩ := HE.out.box hIt
      have Hx := hid hx
      have HIt := hid hIt
      have Hp := hid hp
      obtain ⟨p, d, f⟩ := x
      simp only at d0 d1 d2 hd hf hp256 Hp
      clear hx hIt hp hb0
      go_upto_region 5 with fail
      have hba := bel_al (bel_id wr) (.cells #[.int .i64 (p : Int), .int .i64 (d : Int), .int .i64 (f : Int)] 146)
      have hC1 := HC.out.below hba
      have hkx := Bk.new wr 146 [.int .i64 (p : Int), .int .i64 (d : Int), .int .i64 (f : Int)]
      have hb01 := Hb0.out.trans (hba.mono Hb0.out.size)
      obtain ⟨w2, hw2⟩ : ∃ w2, w2 = wr.alloc (.cells #[.int .i64 (p : Int), .int .i64 (d : Int), .int .i64 (f : Int)] 146) := ⟨_, rfl⟩
      obtain ⟨bx, hbx⟩ : ∃ bx, bx = wr.heap.size := ⟨_, rfl⟩
      rw [← hw2] at hkx hC1 hb01 ⊢
      rw [← hbx] at hkx ⊢
      clear hw2 hbx hgl d0 d1 d2 hba hset
      have hG1 := Hg.out.later hb01
      have c4 := (hb01.cell (p := ⟨c, 4, none⟩) (by show c < w0.heap.size; have := Hm1.out; omega)).trans Hc.out
      have x0 := hkx.cell 0
      have x1 := hkx.cell 1
      have x2 := hkx.cell 2
      simp only [List.getElem?_cons_zero, List.getElem?_cons_succ] at x0 x1 x2
      have HC1 := hid hC1
      have Hkx := hid hkx
      clear hC1 hkx hb01
      cases hq : R[d]? with
      | none =>
        have Hq := hid hq
        clear hq
        go_upto_region 6 with (go_at_call 91; refine (next_calls w2 c G gn gt gp cp hG1 c4 p d f l R Hp.out hd (by omega) (by omega)).mono ?_; rintro e w3 ⟨he, hb3⟩; rw [Hq.out] at he; simp only [nxV] at he; subst he)
        have HC3 := hid (HC1.out.below hb3)
        clear hb3 hG1 c4 x0 x1 x2
        go_wp2_with fail
        go_roundg (N - (j + 1))
        case measure => have := Hk.out; omega
        case rel =>
          refine ⟨j + 1, vj, Y, by go_num, by rw [← HN.out]; omega, HC3.out, fun j' y hj' hy' hn' => ?_, by rw [← HN.out]⟩
          by_cases e : j' = j
          · subst e
            rw [Hx.out] at hy'
            injection hy' with hy'
            subst hy'
            rw [nxt_at Hp.out, Hq.out] at hn'
            cases hn'
          · exact Hseen.out j' y (by omega) hy' hn'
      | some sy =>
        have Hq := hid hq
        clear hq
        go_upto_region 6 with (go_at_call 91; refine (next_calls w2 c G gn gt gp cp hG1 c4 p d f l R Hp.out hd (by omega) (by omega)).mono ?_; rintro e w3 ⟨he, hb3⟩; rw [Hq.out] at he; simp only [nxV] at he; subst he)
        have HC3 := hid (HC1.out.below hb3)
        have Hkx3 := hid (Hkx.out.below hb3 Hkx.out.lt)
        clear hb3 hG1 c4 x0 x1 x2
        by_cases hty : sy = -1 - t
        · have hte : (sy == -1 - t) = true := by simp [hty]
          have Hty := hid hty
          have hItc : It G.prods st word (n + 1) p (d + 1) f := It.scan HIt.out Hp.out Hq.out (by omega) (by rw [Ht.out, hty]; congr 1; omega)
          have hInr := HE.out.inr hItc
          have HItc := hid hItc
          have y0 := Hkx3.out.cell 0
          have y1 := Hkx3.out.cell 1
          have y2 := Hkx3.out.cell 2
          simp only [List.getElem?_cons_zero, List.getElem?_cons_succ] at y0 y1 y2
          clear hty hItc
          go_upto_region 8 with (first | (go_at_call 120; refine (step_calls _ p d f (by omega)).mono ?_; rintro e w8 ⟨rfl, hb8⟩; have hC8 := HC3.out.below hb8; have HC8 := hid hC8; have hs8 := hC8.set; clear hC8 hb8) | (go_at_call 84; refine (add_calls _ (m1 + 1) m1 vj Y hs8 p (d + 1) f hInr (by omega)).mono ?_; rintro e w9 ⟨v9, rfl, hs9, hk9, ho9⟩))
          have HC9 := hid (HC8.out.add hs9 hk9 ho9 (Nat.zero_le _) HItc.out)
          clear hs8 hs9 hk9 ho9 y0 y1 y2
          go_wp2_with fail
          go_roundg (N - (j + 1))
          case measure => have := Hk.out; omega
          case rel =>
            refine ⟨j + 1, v9, _, by go_num, by rw [← HN.out]; omega, HC9.out, fun j' y hj' hy' hn' => ?_, by rw [← HN.out]⟩
            by_cases e : j' = j
            · subst e
              rw [Hx.out] at hy'
              injection hy' with hy'
              subst hy'
              exact (addS_mem _ _ _).2 (.inr rfl)
            · exact (addS_mem _ _ _).2 (.inl (Hseen.out j' y (by omega) hy' hn'))
        · have hte : (sy == -1 - t) = false := by simp [hty]
          have Hty := hid hty
          clear hty
          go_wp2_with fail
          go_roundg (N - (j + 1))
          case measure => have := Hk.out; omega
          case rel =>
            refine ⟨j + 1, vj, Y, by go_num, by rw [← HN.out]; omega, HC3.out, fun j' y hj' hy' hn' => ?_, by rw [← HN.out]⟩
            by_cases e : j' = j
            · subst e
              rw [Hx.out] at hy'
              injection hy' with hy'
              subst hy'
              rw [nxt_at Hp.out, Hq.out] at hn'
              injection hn' with hn'
              exact absurd hn' Hty.out
            · exact Hseen.out j' y (by omega) hy' hn'
    · have hge : ¬ (j : Int) < (N : Int) := by omega
      have hall : ∀ x ∈ X, nxt G.prods x = some (-1 - t) → stp x ∈ Y := fun x hx hn => by
        obtain ⟨j', hj', he⟩ := List.mem_iff_getElem.1 hx
        exact Hseen.out j' x (by have := HN.out; omega) (by rw [List.getElem?_eq_getElem hj', he]) hn
      have Hall := hid hall
      clear hall hset hb0
      go_wp2_with fail
      go_ret
      exact ⟨m1 + 1, m1, vj, Y, rfl, HC.out.set, Nat.le_of_eq Hm1.out.symm, Hb0.out, HC.out.nd, HC.out.snd, Hall.out⟩
end Ed
end Go.Proofs.Ytaehooafdbaomaa
