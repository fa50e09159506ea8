/- Chapter 17 (earley): Next: walks. -/
import Derived.Test.YtaehooafdbaomaaEar10
import Derived.Test.YtaehooafdbaomaaSortI
namespace Go.Proofs.Ytaehooafdbaomaa
open Go.RowKit
attribute [local go_sem ↓] Go.wp_at_zero Go.wp_at_succ
attribute [local go_sem] frozen_alloc_lt
namespace Ed

/-- What Next answers. -/
def NextSaid (w : World) (ps : List (Int × List Int)) (st : Int) (word : List Int) (n : Int) (e : Ending) (w' : World) : Prop := ∃ (v : Value) (ss : List Int), e = .returned v ∧ w'.ownsRow w.heap.size 3 1 v ss.length (ss.map (Value.int .i64)) ∧ ss.Pairwise (· < ·) ∧ (∀ z, z ∈ ss ↔ 0 ≤ z ∧ ∃ m : Nat, n = m ∧ m ≤ word.length ∧ Pre ps [st] (word.take m ++ [z])) ∧ Below w.heap.size w w'
def NxAt (ps : List (Int × List Int)) (w0 : World) (mb : Nat) (X : List Itm) (k : Nat) (v30 : Value) (wr : World) : Prop := ∃ (j cnt : Nat) (l : List Int), v30 = .int .i64 j ∧ j ≤ X.length ∧ SetI wr mb cnt l ∧ cnt ≤ j ∧ (∀ z, z ∈ l ↔ 0 ≤ z ∧ ∃ j' x, j' < j ∧ X[j']? = some x ∧ nxt ps x = some (-1 - z)) ∧ k = X.length - j ∧ Below w0.heap.size w0 wr
set_option maxHeartbeats 1000000 in
theorem nexts_none (w : World) (n : Int) : Calls Try.prog 49 #[.pointer none, .int .i64 n] w fun e w' => e = .returned (.slice none 0 0) ∧ w = w' := by
  by_cases hn : n < 0
  · go_enter Try.func49, Try.ntmps49
    go_wp2_with fail
    go_ret
    exact ⟨rfl, rfl⟩
  · have hn1 : (-1 : Int) < n := by omega
    go_enter Try.func49, Try.ntmps49
    go_wp2_with (go_at_call 47; refine (good_none _).mono ?_; rintro e w1 ⟨rfl, rfl⟩)
    go_ret
    exact ⟨rfl, rfl⟩
theorem NextSaid.empty {w : World} {ps : List (Int × List Int)} {st : Int} {word : List Int} {n : Int} (h : ∀ z : Int, 0 ≤ z → ¬ ∃ m : Nat, n = m ∧ m ≤ word.length ∧ Pre ps [st] (word.take m ++ [z])) : NextSaid w ps st word n (.returned (.slice none 0 0)) w :=
  ⟨_, [], rfl, World.ownsRow_nil _ _ _ _, List.Pairwise.nil, fun z => ⟨fun h => by (cases h), fun ⟨h0, h1⟩ => absurd h1 (h z h0)⟩, Below.refl _ _⟩
set_option maxHeartbeats 8000000 in
set_option maxRecDepth 8000 in
theorem nexts_some (w : World) (c : Nat) (G : Gr) (word : List Int) (Xs : List (List Itm)) (n : Int) (h : ChS w c G word Xs) (hS : SetsAre G.prods G.start word Xs) (E : Env G.prods word) (hst : 0 ≤ G.start) (hlow : ∀ x ∈ G.prods, ∀ s ∈ x.2, -1000 ≤ s) :
    Calls Try.prog 49 #[.pointer (some ⟨c, 0, none⟩), .int .i64 n] w (NextSaid w G.prods G.start word n) := by
  have hXl : Xs.length ≤ 65 := by have := hS.len; have := E.w; omega
  by_cases hn : n < 0
  · have Hno := hid (NextSaid.empty (w := w) (ps := G.prods) (st := G.start) (word := word) (n := n) (fun z _ ⟨m, h, _⟩ => by omega))
    clear h
    go_enter Try.func49, Try.ntmps49
    go_wp2_with fail
    go_ret
    exact Hno.out
  · by_cases hg : (Xs.length : Int) - 1 < n
    · have Hno := hid (NextSaid.empty (w := w) (ps := G.prods) (st := G.start) (word := word) (n := n) (fun z hz ⟨m, h, hm, hp⟩ => by
        obtain ⟨p, d, f, l, R, hi, _⟩ := (next_iff E.h0 hst hm hz).1 hp
        exact absurd hi (hS.none_ m (by omega) _ _ _)))
      go_enter Try.func49, Try.ntmps49
      go_wp2_with (go_at_call 47; refine (good_some _ c G word Xs h (by omega)).mono ?_; rintro e w1 ⟨rfl, rfl⟩)
      go_ret
      exact Hno.out
    · obtain ⟨m, rfl⟩ := Int.eq_ofNat_of_zero_le (show 0 ≤ n by omega)
      have hmX : m < Xs.length := by omega
      have hmXI : (m : Int) < (Xs.length : Int) := by omega
      have hm0 : (0 : Int) ≤ (m : Int) := by omega
      obtain ⟨X, hX⟩ : ∃ X, Xs[m]? = some X := ⟨_, List.getElem?_eq_getElem hmX⟩
      have hmw : m ≤ word.length := by have := hS.len; omega
      have hsnd : ∀ x ∈ X, It G.prods G.start word m x.1 x.2.1 x.2.2 := fun ⟨p, d, f⟩ hx => (hS.mem m X hX p d f).1 hx
      have hXlen := E.len (hS.nd m X hX) hsnd
      have hans : ∀ z : Int, (0 ≤ z ∧ ∃ (j' : Nat) (x : Itm), j' < X.length ∧ X[j']? = some x ∧ nxt G.prods x = some (-1 - z)) ↔ 0 ≤ z ∧ ∃ m' : Nat, (m : Int) = m' ∧ m' ≤ word.length ∧ Pre G.prods [G.start] (word.take m' ++ [z]) := fun z => by
        constructor
        · rintro ⟨h0, j', ⟨p, d, f⟩, _, hx, hn⟩
          obtain ⟨l, R, h1, h2⟩ := nxt_some.1 hn
          exact ⟨h0, m, rfl, hmw, (next_iff E.h0 hst hmw h0).2 ⟨p, d, f, l, R, hsnd _ (List.mem_of_getElem? hx), h1, h2⟩⟩
        · rintro ⟨h0, m', h1, h2, h3⟩
          obtain rfl : m = m' := by omega
          obtain ⟨p, d, f, l, R, hi, hp, hd⟩ := (next_iff E.h0 hst hmw h0).1 h3
          obtain ⟨j', hj', he⟩ := List.mem_iff_getElem.1 ((hS.mem m X hX p d f).2 hi)
          exact ⟨h0, j', (p, d, f), hj', by rw [List.getElem?_eq_getElem hj', he], nxt_some.2 ⟨l, R, hp, hd⟩⟩
      obtain ⟨gs, cs, c8, hrows⟩ := h.c8
      obtain ⟨hh, sj, ga, cap, rfl, r1, r2, r3⟩ := hrows m X hX
      obtain ⟨gn, gt, gp, cp, hG, c4⟩ := h.gin
      have hP := E.p
      have hbA : Below w.heap.size w (w.alloc (.map #[] 0)) := bel_al (bel_id w) _
      have hmade := SetI.made w
      have hkk : ∀ {a : Addr} {v : Value}, w.cell? a = some v → (w.alloc (.map #[] 0)).cell? a = some v := fun {a v} h => (hbA.cell (World.block_lt_of_cell? w _ h)).trans h
      have e8 := hkk c8
      have e1 := hkk r1
      have e2 := hkk r2
      obtain ⟨M, hM⟩ : ∃ M, M = X.length := ⟨_, rfl⟩
      rw [← hM] at e2 hXlen
      have HM := hid hM
      have Hans := hid hans
      have Hsnd := hid hsnd
      have HG := hid hG
      have Hc4 := hid c4
      have Hr3 := hid r3
      have HE := hid E
      have Hlow := hid hlow
      have Hh := hid h
      have hmm := @run_makeMap Try.prog
      clear hans hsnd hG c4 r3 hrows hX hM hkk c8 r1 r2 E hlow hS
      go_enter Try.func49, Try.ntmps49
      go_upto_region 3 with (go_at_call 47; refine (good_some _ c G word Xs Hh.out (by omega)).mono ?_; rintro e w1 ⟨rfl, rfl⟩)
      go_upto_region 4 with fail
      obtain ⟨w1, hw1⟩ : ∃ w1, w1 = w.alloc (.map #[] 0) := ⟨_, rfl⟩
      obtain ⟨mb, hmb⟩ : ∃ mb, mb = w.heap.size := ⟨_, rfl⟩
      rw [← hw1, ← hmb] at hmade ⊢
      rw [← hw1] at hbA e8 e1 e2
      have hstart : NxAt G.prods w mb X M (.int .i64 0) w1 := ⟨0, 0, [], rfl, Nat.zero_le _, hmade, Nat.le_refl _, fun z => ⟨fun h => by (cases h), fun ⟨_, j', x, h, _⟩ => by omega⟩, by rw [← HM.out]; rfl, hbA⟩
      have Hmb := hid hmb
      clear hw1 hmade hbA hmm hmb
      go_wp2_with fail
      go_loopg [30] M (fun k v30 wr => NxAt G.prods w mb X k v30 wr)
      case atStart => exact hstart
      case round =>
        clear hstart e8 e1 e2
        obtain ⟨j, cnt, l, rfl, hj, hset, hcnt, hl, hk, hb⟩ := hrel
        rw [← HM.out] at hj hk
        have Hset := hid hset
        have Hl := hid hl
        have Hk := hid hk
        have Hb := hid hb
        clear hset hl hk hb
        by_cases hlt : j < M
        · have hltI : (j : Int) < (M : Int) := by omega
          have hj0 : (0 : Int) ≤ (j : Int) := by omega
          obtain ⟨x, hx⟩ : ∃ x, X[j]? = some x := ⟨_, List.getElem?_eq_getElem (by rw [← HM.out]; exact hlt)⟩
          obtain ⟨g, rfl, hgl, d0, d1, d2⟩ := Hr3.out.later Hb.out j x hx
          obtain ⟨l0, R, hp, hl0, hd, hR, hf, hn2, hp256⟩ := HE.out.box (Hsnd.out x (List.mem_of_getElem? hx))
          have Hx := hid hx
          have Hp := hid hp
          obtain ⟨p, d, f⟩ := x
          simp only at d0 d1 d2 hd hf hp256 Hp
          clear hx hp
          go_upto_region 7 with fail
          have hba := bel_al (bel_id wr) (.cells #[.int .i64 (p : Int), .int .i64 (d : Int), .int .i64 (f : Int)] 146)
          have hkx := Bk.new wr 146 [.int .i64 (p : Int), .int .i64 (d : Int), .int .i64 (f : Int)]
          obtain ⟨w2, hw2⟩ : ∃ w2, w2 = wr.alloc (.cells #[.int .i64 (p : Int), .int .i64 (d : Int), .int .i64 (f : Int)] 146) := ⟨_, rfl⟩
          obtain ⟨bx, hbx⟩ : ∃ bx, bx = wr.heap.size := ⟨_, rfl⟩
          rw [← hw2] at hkx hba ⊢
          rw [← hbx] at hkx ⊢
          have hb2 := Hb.out.trans (hba.mono Hb.out.size)
          have hset2 := Hset.out.at (hba.block mb Hset.out.lt)
          have hG2 := HG.out.later hb2
          have c42 := (hb2.cell (World.block_lt_of_cell? w _ Hc4.out)).trans Hc4.out
          have x0 := hkx.cell 0
          have x1 := hkx.cell 1
          have x2 := hkx.cell 2
          simp only [List.getElem?_cons_zero, List.getElem?_cons_succ] at x0 x1 x2
          have Hset2 := hid hset2
          have Hb2 := hid hb2
          clear hw2 hbx hgl d0 d1 d2 hba hkx hset2 hb2
          cases hq : R[d]? with
          | none =>
            have Hq := hid hq
            clear hq
            go_upto_region 8 with (go_at_call 91; refine (next_calls w2 c G gn gt gp cp hG2 c42 p d f l0 R Hp.out hd (by omega) (by omega)).mono ?_; rintro e w3 ⟨he, hb3⟩; rw [Hq.out] at he; simp only [nxV] at he; subst he)
            have Hset3 := hid (Hset2.out.at (hb3.block mb Hset2.out.lt))
            have Hb3 := hid (Hb2.out.trans (hb3.mono Hb2.out.size))
            clear hb3 hG2 c42 x0 x1 x2
            go_wp2_with fail
            go_roundg (M - (j + 1))
            case measure => have := Hk.out; omega
            case rel =>
              refine ⟨j + 1, cnt, l, by go_num, by rw [← HM.out]; omega, Hset3.out, by omega, fun z => ?_, by rw [← HM.out], Hb3.out⟩
              rw [Hl.out z]
              constructor
              · rintro ⟨h0, j', y, h1, h2, h3⟩
                exact ⟨h0, j', y, by omega, h2, h3⟩
              · rintro ⟨h0, j', y, h1, h2, h3⟩
                refine ⟨h0, j', y, ?_, h2, h3⟩
                by_cases e : j' = j
                · subst e
                  rw [Hx.out] at h2
                  injection h2 with h2
                  subst h2
                  rw [nxt_at Hp.out, Hq.out] at h3
                  cases h3
                · omega
          | some sy =>
            have hsl := Hlow.out _ (List.mem_of_getElem? Hp.out) sy (List.mem_of_getElem? hq)
            have Hq := hid hq
            clear hq
            go_upto_region 8 with (go_at_call 91; refine (next_calls w2 c G gn gt gp cp hG2 c42 p d f l0 R Hp.out hd (by omega) (by omega)).mono ?_; rintro e w3 ⟨he, hb3⟩; rw [Hq.out] at he; simp only [nxV] at he; subst he)
            have hset3 := Hset2.out.at (hb3.block mb Hset2.out.lt)
            have Hset3 := hid hset3
            have Hb3 := hid (Hb2.out.trans (hb3.mono Hb2.out.size))
            clear hb3 hG2 c42 x0 x1 x2
            by_cases hneg : sy < 0
            · obtain ⟨w5, hrun, hset5, hg5⟩ := hset3.put (-1 - sy) (by omega) (by omega) (by unfold maxLen; omega) 156 Try.underlying156
              have Hset5 := hid hset5
              have Hb5 := hid (show Below w.heap.size w w5 from Hb3.out.grown hg5 Hb3.out.size (fun k e => by injection e with e; have := Hmb.out; omega))
              clear hset3 hset5 hg5
              go_wp2_with fail
              go_roundg (M - (j + 1))
              case measure => have := Hk.out; omega
              case rel =>
                refine ⟨j + 1, cnt + 1, (-1 - sy) :: l, by go_num, by rw [← HM.out]; omega, Hset5.out, by omega, fun z => ?_, by rw [← HM.out], Hb5.out⟩
                rw [List.mem_cons, Hl.out z]
                constructor
                · rintro (rfl | ⟨h0, j', y, h1, h2, h3⟩)
                  · exact ⟨by omega, j, (p, d, f), by omega, Hx.out, by rw [nxt_at Hp.out, Hq.out]; congr 1; omega⟩
                  · exact ⟨h0, j', y, by omega, h2, h3⟩
                · rintro ⟨h0, j', y, h1, h2, h3⟩
                  by_cases e : j' = j
                  · subst e
                    rw [Hx.out] at h2
                    injection h2 with h2
                    subst h2
                    rw [nxt_at Hp.out, Hq.out] at h3
                    injection h3 with h3
                    exact .inl (by omega)
                  · exact .inr ⟨h0, j', y, by omega, h2, h3⟩
            · clear hset3
              go_wp2_with fail
              go_roundg (M - (j + 1))
              case measure => have := Hk.out; omega
              case rel =>
                refine ⟨j + 1, cnt, l, by go_num, by rw [← HM.out]; omega, Hset3.out, by omega, fun z => ?_, by rw [← HM.out], Hb3.out⟩
                rw [Hl.out z]
                constructor
                · rintro ⟨h0, j', y, h1, h2, h3⟩
                  exact ⟨h0, j', y, by omega, h2, h3⟩
                · rintro ⟨h0, j', y, h1, h2, h3⟩
                  refine ⟨h0, j', y, ?_, h2, h3⟩
                  by_cases e : j' = j
                  · subst e
                    rw [Hx.out] at h2
                    injection h2 with h2
                    subst h2
                    rw [nxt_at Hp.out, Hq.out] at h3
                    injection h3 with h3
                    omega
                  · omega
        · have hge : ¬ (j : Int) < (M : Int) := by omega
          have hjM : j = X.length := by have := HM.out; omega
          have hsort := sorted_calls wr mb cnt l Hset.out (by omega)
          have hfin : ∀ z, z ∈ l ↔ 0 ≤ z ∧ ∃ m' : Nat, (m : Int) = m' ∧ m' ≤ word.length ∧ Pre G.prods [G.start] (word.take m' ++ [z]) := fun z => by
            rw [Hl.out z, hjM]
            exact Hans.out z
          have Hfin := hid hfin
          have Hsort := hid hsort
          clear hfin hjM hsort
          go_wp2_with (first
            | (go_at_call 93; refine (keys_calls mb _).mono ?_; rintro e w8 ⟨rfl, rfl⟩)
            | (go_at_call 92; refine Hsort.out.mono ?_; rintro e w9 ⟨v, ss, rfl, hrise, hvown, hb9⟩; have H9 := hid (And.intro hrise (And.intro hvown hb9)); clear hrise hvown hb9))
          go_ret
          obtain ⟨hrise, hvown, hb9⟩ := H9.out
          refine ⟨v, ss, rfl, ?_, hrise.1, fun z => by rw [hrise.2 z]; exact Hfin.out z, belw Hb.out hb9⟩
          rcases hvown with ⟨h1, h2 | ⟨g, cap', cur, h3, h4, h5⟩⟩
          · exact ⟨h1, .inl h2⟩
          · exact ⟨h1, .inr ⟨g, cap', cur, h3, Nat.le_trans Hb.out.size h4, h5⟩⟩
end Ed
end Go.Proofs.Ytaehooafdbaomaa
