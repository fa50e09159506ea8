/- The document's chapter 10: Words: walk. -/
import Derived.Test.YtaehooafdbaomaaRefAll
import Derived.Test.YtaehooafdbaomaaDer2
namespace Go.Proofs.Ytaehooafdbaomaa
open Go.RowKit
attribute [local go_sem ↓] Go.wp_at_zero Go.wp_at_succ
attribute [local go_sem] frozen_alloc_lt

/-- What lies from block a on, below block b, stays; and all that is older than block B. -/
def Away (B a b : Nat) (k : Nat) : Prop := B ≤ k ∧ ¬ (a ≤ k ∧ k < b)
def W1 (w0 : World) (t most : Nat) (d : List UInt8 → Bool) (k : Nat) (v5 v6 : Value) (w : World) : Prop :=
  ∃ (m : Nat) (vo : Value), vo = v5 ∧ v6 = .int .i64 m ∧ m ≤ most + 1 ∧ k = most + 1 - m ∧ OwnA WdR 1 w w0.heap.size 22 vo (wordsB t d m) ∧ Below w0.heap.size w0 w
def W2 (w0 w1 w2 : World) (t m : Nat) (d : List UInt8 → Bool) (L : List (List UInt8)) (k : Nat) (v5 v8 : Value) (w : World) : Prop :=
  ∃ (i : Nat) (vo : Value), vo = v5 ∧ v8 = .int .i64 i ∧ i ≤ L.length ∧ k = L.length - i ∧ OwnA WdR 1 w w0.heap.size 22 vo (wordsB t d m ++ (L.take i).filter d) ∧
    (∀ g, vo.ownBlock = some g → g < w1.heap.size ∨ w2.heap.size ≤ g) ∧ Kp (Away w0.heap.size w1.heap.size w2.heap.size) w2 w
theorem kpAny {w w' : World} (h : Below w.heap.size w w') (S : Nat → Prop) : Kp S w w' := ⟨h.os, h.tape, h.output, h.size, fun k hk _ => h.block k hk⟩
set_option maxHeartbeats 8000000 in
set_option maxRecDepth 8000 in
theorem rwords_calls (w : World) (G : Gr) (gn gt gp : Option Addr) (cn ct cp : Nat) (h : GIn w G gn gt gp) (hs : Pl.soundB G = true) (most : Nat) (hm : most ≤ 4) (ht : G.terms.length ≤ 3) (d : List UInt8 → Bool)
    (hd : ∀ z : List UInt8, d z = true ↔ ∃ f, Fo.Of G.prods (toI z) f [G.start] 0 (toI z).length) :
    Calls Try.prog 54 #[.agg #[.int .i64 G.start, .int .i64 G.rules, .slice gn G.names.length cn, .slice gt G.terms.length ct, .slice gp G.prods.length cp], .int .i64 (most : Int)] w fun e w' =>
      ∃ v, e = .returned v ∧ OwnA WdR 1 w' w.heap.size 22 v (wordsB G.terms.length d (most + 1)) ∧ Below w.heap.size w w' := by
  obtain ⟨i4, hi4, y0, y1, y2⟩ := info_parts slInfoA
  obtain ⟨T, hT⟩ : ∃ T, T = G.terms.length := ⟨_, rfl⟩
  have hder : ∀ W, Below w.heap.size w W → ∀ (ga : Option Addr) (ca : Nat) (z : List UInt8), RowI W W.heap.size ga (toI z) → z.length ≤ 64 → Calls Try.prog 46 #[.agg #[.int .i64 G.start, .int .i64 G.rules, .slice gn G.names.length cn, .slice gt T ct, .slice gp G.prods.length cp], .slice ga z.length ca] W fun e w' => e = .returned (.bool (d z)) ∧ Below W.heap.size W w' := fun W hW ga ca z hz hzl => by
    have := derives_calls W G gn gt gp cn ct cp (h.later hW) hs ga ca (toI z) hz (by rw [toI_len]; exact hzl)
    rw [toI_len] at this
    rw [hT]
    refine this.mono ?_
    rintro e w' ⟨b, rfl, hb, hbw⟩
    have e1 : b = d z := by rw [Bool.eq_iff_iff, hb, hd, toI_len]
    subst e1
    exact ⟨rfl, hbw⟩
  have hk0 := Bk.new w 33 [.int .i64 G.start, .int .i64 G.rules, .slice gn G.names.length cn, .slice gt T ct, .slice gp G.prods.length cp]
  have hb0 : Below w.heap.size w (w.alloc (.cells #[.int .i64 G.start, .int .i64 G.rules, .slice gn G.names.length cn, .slice gt T ct, .slice gp G.prods.length cp] 33)) := (Below.refl _ w).alloc (Nat.le_refl _) _
  rw [← hT] at ht ⊢
  have Hder := hid hder
  have htI : (T : Int) ≤ 3 := by omega
  have hmI : (most : Int) ≤ 4 := by omega
  have hm1 : (most : Int) + 1 ≤ 5 := by omega
  have Ht := hid (And.intro ht hm)
  clear hder h hs hd hT ht hm hm1
  go_enter Try.func54, Try.ntmps54
  go_upto_region 2 with fail
  obtain ⟨w0, hw0⟩ : ∃ w0, w0 = (w.alloc (.cells #[.int .i64 G.start, .int .i64 G.rules, .slice gn G.names.length cn, .slice gt T ct, .slice gp G.prods.length cp] 33)) := ⟨_, rfl⟩
  obtain ⟨bq, hbq⟩ : ∃ bq, bq = w.heap.size := ⟨_, rfl⟩
  rw [← hw0] at hk0 hb0 ⊢
  rw [← hbq] at hk0 ⊢
  have Hk0 := hid (And.intro hk0 hb0)
  clear hk0 hb0 hw0 hbq
  go_wp2_with fail
  go_loopg [5, 6] (most + 1) (fun k v5 v6 wr => W1 w0 T most d k v5 v6 wr)
  case atStart => exact ⟨0, _, rfl, rfl, Nat.zero_le _, rfl, OwnA.nil _ _ _ _ _, Below.refl _ _⟩
  case round =>
    obtain ⟨m, vo, rfl, rfl, hm, hk, hout, hb⟩ := hrel
    have Hk := hid hk
    have Hb := hid hb
    have Hout := hid hout
    by_cases hlt : m ≤ most
    · have hle : (m : Int) ≤ (most : Int) := by omega
      have hm0 : (0 : Int) ≤ (m : Int) := by omega
      have hm4 : m ≤ 4 := by have := Ht.out.2; omega
      have hk1 := Hk0.out.1.below hb Hk0.out.1.lt
      have c3 := hk1.cell 3
      simp only [List.getElem?_cons_zero, List.getElem?_cons_succ] at c3
      have hall := allw_calls wr T m Ht.out.1 hm4
      have Hall := hid hall
      have Hlt := hid hlt
      obtain ⟨w1, rfl⟩ : ∃ w1 : World, w1 = wr := ⟨_, rfl⟩
      clear hk hb hout hlt hm4 hk1 hall hm
      go_upto_region 6 with (go_at_call 96; refine Hall.out.mono ?_; rintro e w2 ⟨vl, rfl, hvl, hb2⟩)
      obtain ⟨L, hL⟩ : ∃ L, L = allB T m := ⟨_, rfl⟩
      have hLz : ∀ z ∈ L, z.length = m := fun z hz => by rw [hL] at hz; exact ((allB_mem (by have := Ht.out.1; omega) m z).1 hz).1
      have hLn : L.length ≤ 81 := by
        rw [hL, allB_len]
        exact Nat.le_trans (Nat.pow_le_pow_left Ht.out.1 m) (Nat.le_trans (Nat.pow_le_pow_right (by omega) (show m ≤ 4 by have := Ht.out.2; have := Hlt.out; omega)) (by decide))
      rw [← hL] at hvl
      obtain ⟨gl, cl, hvl2, hlies⟩ := hvl.lies WdR.fit
      obtain ⟨M, hM⟩ : ∃ M, M = L.length := ⟨_, rfl⟩
      rw [← hM] at hvl2
      subst hvl2
      have hM81 : (M : Int) ≤ 81 := by omega
      have HL := hid (And.intro hL (And.intro hLz (And.intro hLn hM)))
      have Hlies := hid hlies
      have Hb2 := hid hb2
      clear hL hLz hLn hM hvl hlies c3 hb2
      go_wp2_with fail
      go_loopg [5, 8] M (fun k v5 v8 wr => W2 w0 w1 w2 T m d L k v5 v8 wr)
      case atStart => exact ⟨0, _, rfl, rfl, Nat.zero_le _, HL.out.2.2.2, by simpa using Hout.out.later WdR.fit Hb2.out, fun g hg => .inl (Hout.out.lt g hg).2, Kp.refl _ _⟩
      case round =>
        obtain ⟨i, vm, rfl, rfl, hi, hk2, hom, haw, hkp⟩ := hrel
        have Hk2 := hid hk2
        have Hkp := hid hkp
        have Hom := hid hom
        have Haw := hid haw
        have hbw2 : Below w0.heap.size w0 wr := (Hb.out.trans (Hb2.out.mono Hb.out.size)).trans (hkp.to_below (Nat.le_trans Hb.out.size Hb2.out.size) (fun k hk => hk.1))
        have Hbw2 := hid hbw2
        by_cases hlj : i < M
        · have hlj' : (i : Int) < (M : Int) := by omega
          have hj0 : (0 : Int) ≤ (i : Int) := by omega
          have hjL : i < L.length := by rw [← HL.out.2.2.2]; exact hlj
          obtain ⟨z, hz⟩ : ∃ z, z = L[i] := ⟨_, rfl⟩
          have hzL : L[i]? = some z := by rw [hz]; exact List.getElem?_eq_getElem hjL
          obtain ⟨g0, x0, rfl, hg1, hg2, ⟨gz, cz, rfl, hrz⟩, hx0⟩ := Hlies.out i z hzL
          have hcz := hx0 0 _ rfl
          rw [Nat.mul_one, Nat.add_zero] at hcz
          have hnaw : ∀ k, (w1.heap.size ≤ k ∧ k < w2.heap.size) → ¬ Away w0.heap.size w1.heap.size w2.heap.size k := fun k hk hn => hn.2 hk
          have hcr := hkp.cell hcz (hnaw g0 ⟨hg1, hg2⟩)
          have hrr := hrz.kp hkp hnaw
          have hrI : RowI wr wr.heap.size gz (toI z) := hrr.mono fun k hk => Nat.lt_of_lt_of_le hk.2 hkp.size
          have hzl : z.length = m := HL.out.2.1 z (List.mem_of_getElem? hzL)
          have hz64 : z.length ≤ 64 := by have := Ht.out.2; have := Hlt.out; omega
          obtain ⟨lz, hlz⟩ : ∃ lz, lz = z.length := ⟨_, rfl⟩
          have hdr := Hder.out wr.drew ((Hk0.out.2.trans (hbw2.mono Hk0.out.2.size)).trans (below_drewN (Below.refl _ _) 1)) gz cz z hrI hz64
          obtain ⟨bz, hbz⟩ : ∃ bz, bz = d z := ⟨_, rfl⟩
          rw [← hbz, ← hlz] at hdr
          rw [← hlz] at hcr
          have kb := Hk0.out.1.below hbw2 Hk0.out.1.lt
          have HZ := hid (And.intro hzL (And.intro hrr (And.intro hlz (And.intro hbz (And.intro hg2 hg1)))))
          have hS : ∀ W, Below wr.heap.size wr W → (W.cell? ⟨bq, 0, none⟩ = some (.int .i64 G.start) ∧ W.cell? ⟨bq, 1, none⟩ = some (.int .i64 G.rules) ∧ W.cell? ⟨bq, 2, none⟩ = some (.slice gn G.names.length cn) ∧ W.cell? ⟨bq, 3, none⟩ = some (.slice gt T ct) ∧ W.cell? ⟨bq, 4, none⟩ = some (.slice gp G.prods.length cp) ∧ W.cell? ⟨g0, i, none⟩ = some (.slice gz lz cz) ∧ Hid (Below wr.heap.size wr W)) := fun W hW => by
            have k2 := kb.below hW kb.lt
            exact ⟨k2.cell 0, k2.cell 1, k2.cell 2, k2.cell 3, k2.cell 4, (hW.cell (p := ⟨g0, i, none⟩) (Nat.lt_of_lt_of_le hg2 hkp.size)).trans hcr, hid hW⟩
          have HS := hid hS
          obtain ⟨a0, a1, a2, a3, a4, a5, Hw0⟩ := hS wr.drew (below_drewN (Below.refl _ _) 1)
          have Hdr := hid hdr
          have Hlj := hid hlj
          clear hk2 hkp hom haw hbw2 hlj hjL hz hzL hrz hx0 hcz hnaw hrr hrI hzl hz64 hlz hbz hdr kb hS hg1 hg2 hcr hi
          go_upto_region 9 with fail
          go_region_held3 (fun W => W.cell? ⟨bq, 0, none⟩ = some (.int .i64 G.start) ∧ W.cell? ⟨bq, 1, none⟩ = some (.int .i64 G.rules) ∧ W.cell? ⟨bq, 2, none⟩ = some (.slice gn G.names.length cn) ∧ W.cell? ⟨bq, 3, none⟩ = some (.slice gt T ct) ∧ W.cell? ⟨bq, 4, none⟩ = some (.slice gp G.prods.length cp) ∧ W.cell? ⟨g0, i, none⟩ = some (.slice gz lz cz) ∧ Hid (Below wr.heap.size wr W))
            (first | exact ⟨‹_›, ‹_›, ‹_›, ‹_›, ‹_›, ‹_›, ‹_›⟩)
            (first
              | (go_at_call 46; refine Hdr.out.mono ?_; rintro e w3 ⟨rfl, hb3⟩; obtain ⟨d0, d1, d2, d3, d4, d5, Hw3⟩ := HS.out w3 (belw Hw0.out hb3)))
          cases bz with
          | true =>
            have hkpA : Kp (fun _ => False) wr w3 := kpAny Hw3.out _
            have hom3 := Hom.out.kp WdR.fit hkpA (fun _ _ _ e => e)
            have hzz := HZ.out.2.2.1
            have hx : WdR w3 (fun q => w0.heap.size ≤ q ∧ q < w3.heap.size ∧ vm.ownBlock ≠ some q) z [.slice gz lz cz] := ⟨gz, cz, by rw [hzz], by
              refine (HZ.out.2.1.kp hkpA (fun _ _ e => e)).mono fun k hk => ⟨by have := Hb.out.size; omega, by have := Hkp.out.size; have := Hw3.out.size; omega, fun e => ?_⟩
              rcases Haw.out k e with h | h <;> omega⟩
            obtain ⟨gA, capA, wA, hrun, hownA, hkA, hgA, hlA⟩ := hom3.app (P := Try.prog) WdR.fit 23 23 i4 (.slice none 0 0) 24 Try.underlying23 hi4 y0 y1 y2 rfl (by omega) (by omega) (by have := Hw3.out.size; have := Hbw2.out.size; omega) (by
              have h1 := wordsB_few (t := T) (m := m) Ht.out.1 (by have := Ht.out.2; have := Hlt.out; omega) d
              have h2 := List.length_filter_le d (L.take i)
              rw [List.length_take] at h2
              rw [List.length_append]
              have := HL.out.2.2.1
              omega) z _ hx 0
            obtain ⟨nn, hnn⟩ : ∃ nn, nn = (wordsB T d m ++ (L.take i).filter d).length := ⟨_, rfl⟩
            rw [← hnn] at hrun hownA
            have hnew : wordsB T d m ++ (L.take i).filter d ++ [z] = wordsB T d m ++ (L.take (i + 1)).filter d := by
              rw [List.take_add_one, HZ.out.1, List.append_assoc, List.filter_append]
              have : d z = true := HZ.out.2.2.2.1.symm
              simp [this]
            rw [hnew] at hownA
            have hkw : Kp (Away w0.heap.size w1.heap.size w2.heap.size) w2 wA := (Hkp.out.trans (kpAny Hw3.out _)).trans (hkA.mono fun k _ e => ⟨(hom3.lt k e).1, fun hh => by rcases Haw.out k e with h | h <;> omega⟩)
            have hnaw : ∀ g, (Value.slice (some ⟨gA, 0, none⟩) (nn + 1) capA).ownBlock = some g → g < w1.heap.size ∨ w2.heap.size ≤ g := fun g hg => by
              have e : gA = g := by simpa [Value.ownBlock] using hg
              subst e
              rcases hgA with h | h
              · exact Haw.out gA h
              · have := Hkp.out.size
                have := Hw3.out.size
                exact .inr (by omega)
            have hrun' : (Builtin.append_ #[23, 23] 23 #[vm, .slice (some ⟨w3.heap.size, 0, none⟩) 1 1]).run Try.prog (w3.alloc (.cells #[.slice gz lz cz] 22)) = .ok (.slice (some ⟨gA, 0, none⟩) (nn + 1) capA) wA := hrun
            have Hfin := hid (And.intro hownA (And.intro hnaw hkw))
            clear hkpA hom3 hzz hx hrun hownA hkA hgA hlA hnn hnew hkw hnaw
            go_wp2_with (at_builtin; refine wpList_append_run rfl _ _ _ rfl vm (.slice (some ⟨w3.heap.size, 0, none⟩) 1 1) (.slice (some ⟨gA, 0, none⟩) (nn + 1) capA) wA (by rfl) (by rfl) (by exact hrun') ?_)
            go_roundg (M - (i + 1))
            case measure => have := Hk2.out; have := Hlj.out; have := HL.out.2.2.2; omega
            case rel => exact ⟨i + 1, _, rfl, by go_num, by have := Hlj.out; have := HL.out.2.2.2; omega, by have := HL.out.2.2.2; omega, Hfin.out.1, Hfin.out.2.1, Hfin.out.2.2⟩
          | false =>
            have hnew : wordsB T d m ++ (L.take (i + 1)).filter d = wordsB T d m ++ (L.take i).filter d := by
              rw [List.take_add_one, HZ.out.1, List.filter_append]
              have : d z = false := HZ.out.2.2.2.1.symm
              simp [this]
            have Hnew := hid hnew
            clear hnew
            go_wp2_with fail
            go_roundg (M - (i + 1))
            case measure => have := Hk2.out; have := Hlj.out; have := HL.out.2.2.2; omega
            case rel => exact ⟨i + 1, _, rfl, by go_num, by have := Hlj.out; have := HL.out.2.2.2; omega, by have := HL.out.2.2.2; omega, by rw [Hnew.out]; exact Hom.out.later WdR.fit Hw3.out, Haw.out, Hkp.out.trans (kpAny Hw3.out _)⟩
        · have hge : ¬ (i : Int) < (M : Int) := by omega
          have hiM : L.take i = L := List.take_of_length_le (by have := HL.out.2.2.2; omega)
          rw [hiM, HL.out.1] at hom
          have Hom2 := hid hom
          clear hk2 hkp hom haw hbw2 hlj hiM hi
          go_wp2_with fail
          go_roundg (most + 1 - (m + 1))
          case measure => have := Hk.out; have := Hlt.out; omega
          case rel => exact ⟨m + 1, _, rfl, by go_num, by have := Hlt.out; omega, rfl, Hom2.out, Hbw2.out⟩
    · have hge : ¬ (m : Int) ≤ (most : Int) := by omega
      have hme : m = most + 1 := by omega
      rw [hme] at hout
      have Hout2 := hid hout
      clear hk hb hlt hm hme hout
      go_wp2_with fail
      go_ret
      exact ⟨_, rfl, Hout2.out.base WdR.fit Hk0.out.2.size, belw Hk0.out.2 Hb.out⟩
end Go.Proofs.Ytaehooafdbaomaa
