/- Chapter 17 (earley): Ends, Yes: walks. -/
import Derived.Test.YtaehooafdbaomaaEar9
namespace Go.Proofs.Ytaehooafdbaomaa
open Go.RowKit
attribute [local go_sem ↓] Go.wp_at_zero Go.wp_at_succ
attribute [local go_sem] frozen_alloc_lt
namespace Ed

def endI (ps : List (Int × List Int)) (st : Int) (x : Itm) : Bool := (nxt ps x).isNone && (decide (x.2.2 = 0) && decide (lft ps x = st))
theorem endI_at {ps : List (Int × List Int)} {st : Int} {p d f : Nat} {l : Int} {R : List Int} (h : ps[p]? = some (l, R)) : endI ps st (p, d, f) = endB st l R d f := by
  unfold endI endB
  rw [nxt_at h, lft_at h]
theorem any_end {ps : List (Int × List Int)} {st : Int} {word : List Int} {Xs : List (List Itm)} {X : List Itm} {n : Nat} (h0 : ∀ x ∈ ps, 0 ≤ x.1) (hst : 0 ≤ st) (hn : n ≤ word.length) (h : SetsAre ps st word Xs) (hX : Xs[n]? = some X) : X.any (endI ps st) = true ↔ Dw ps [st] (word.take n) := by
  rw [ends_iff h0 hst hn]
  constructor
  · intro ha
    obtain ⟨⟨p, d, f⟩, hx, he⟩ := List.any_eq_true.1 ha
    have hi := (h.mem n X hX p d f).1 hx
    obtain ⟨l, R, hs⟩ := hi.says h0
    rw [endI_at hs.at_] at he
    unfold endB at he
    rw [Bool.and_eq_true, Bool.and_eq_true, decide_eq_true_eq, decide_eq_true_eq, Option.isNone_iff_eq_none, List.getElem?_eq_none_iff] at he
    obtain ⟨h1, rfl, rfl⟩ := he
    have := hs.dot
    obtain rfl : d = R.length := by omega
    exact ⟨p, R, hi, hs.at_⟩
  · rintro ⟨p, R, hi, hp⟩
    refine List.any_eq_true.2 ⟨(p, R.length, 0), (h.mem n X hX p _ 0).2 hi, ?_⟩
    rw [endI_at hp]
    simp [endB]
/-- What Ends answers. -/
def EndsSaid (w : World) (ps : List (Int × List Int)) (st : Int) (word : List Int) (n : Int) (e : Ending) (w' : World) : Prop := ∃ b : Bool, e = .returned (.bool b) ∧ (b = true ↔ ∃ m : Nat, n = m ∧ m ≤ word.length ∧ Dw ps [st] (word.take m)) ∧ Below w.heap.size w w'
theorem ChS.later {w w' : World} {c : Nat} {G : Gr} {word : List Int} {Xs : List (List Itm)} (h : ChS w c G word Xs) (hb : Below w.heap.size w w') : ChS w' c G word Xs := by
  obtain ⟨gn, gt, gp, cp, ⟨wG, h1, h2⟩, h3⟩ := h.g
  obtain ⟨gw, cw, h5⟩ := h.c5
  obtain ⟨gs, cs, h8, hr⟩ := h.c8
  have hk : ∀ {a : Addr} {v : Value}, w.cell? a = some v → w'.cell? a = some v := fun {a v} h => (hb.cell (World.block_lt_of_cell? w _ h)).trans h
  refine ⟨⟨gn, gt, gp, cp, ⟨wG, h1, h2.trans (hb.mono h2.size)⟩, hk h3⟩, hk h.c0, ⟨gw, cw, hk h5⟩, ⟨gs, cs, hk h8, fun j X hX => ?_⟩⟩
  obtain ⟨hh, sj, ga, cap, k1, k2, k3, k4⟩ := hr j X hX
  exact ⟨hh, sj, ga, cap, k1, hk k2, hk k3, k4.later hb⟩
theorem ChS.gin {w : World} {c : Nat} {G : Gr} {word : List Int} {Xs : List (List Itm)} (h : ChS w c G word Xs) : ∃ gn gt gp cp, GIn w G gn gt gp ∧ w.cell? ⟨c, 4, none⟩ = some (.slice gp G.prods.length cp) := by
  obtain ⟨gn, gt, gp, cp, ⟨wG, h1, h2⟩, h3⟩ := h.g
  exact ⟨gn, gt, gp, cp, h1.later h2, h3⟩
set_option maxHeartbeats 1000000 in
theorem ends_none (w : World) (n : Int) : Calls Try.prog 45 #[.pointer none, .int .i64 n] w fun e w' => e = .returned (.bool false) ∧ Below w.heap.size w w' := by
  have hb : Below w.heap.size w (w.alloc (.cells #[.pointer none] 78)) := bel_al (bel_id w) _
  by_cases hn : n < 0
  · go_enter Try.func45, Try.ntmps45
    go_wp2_with fail
    go_ret
    exact ⟨rfl, hb⟩
  · have hn1 : (-1 : Int) < n := by omega
    go_enter Try.func45, Try.ntmps45
    go_wp2_with (go_at_call 47; refine (good_none _).mono ?_; rintro e w1 ⟨rfl, rfl⟩)
    go_ret
    exact ⟨rfl, hb⟩
set_option maxHeartbeats 4000000 in
theorem ends_some (w : World) (c : Nat) (G : Gr) (word : List Int) (Xs : List (List Itm)) (n : Int) (h : ChS w c G word Xs) (hS : SetsAre G.prods G.start word Xs) (E : Env G.prods word) (hst : 0 ≤ G.start) :
    Calls Try.prog 45 #[.pointer (some ⟨c, 0, none⟩), .int .i64 n] w (EndsSaid w G.prods G.start word n) := by
  have hXl : Xs.length ≤ 65 := by have := hS.len; have := E.w; omega
  have hb : Below w.heap.size w (w.alloc (.cells #[.pointer (some ⟨c, 0, none⟩)] 78)) := bel_al (bel_id w) _
  have hk := Bk.new w 78 [.pointer (some ⟨c, 0, none⟩)]
  have h1 := h.later hb
  by_cases hn : n < 0
  · have Hno := hid (show (false = true ↔ ∃ m : Nat, n = m ∧ m ≤ word.length ∧ Dw G.prods [G.start] (word.take m)) from ⟨fun h => by (cases h), fun ⟨m, h, _⟩ => by omega⟩)
    have Hb := hid hb
    clear hb hk h1 h
    go_enter Try.func45, Try.ntmps45
    go_wp2_with fail
    go_ret
    exact ⟨false, rfl, Hno.out, Hb.out⟩
  · by_cases hg : (Xs.length : Int) - 1 < n
    · have Hno := hid (show (false = true ↔ ∃ m : Nat, n = m ∧ m ≤ word.length ∧ Dw G.prods [G.start] (word.take m)) from ⟨fun h => by (cases h), fun ⟨m, h, hm, hd⟩ => by
        obtain ⟨p, R, hi, _⟩ := (ends_iff E.h0 hst hm).1 hd
        exact absurd hi (hS.none_ m (by omega) _ _ _)⟩)
      have Hb := hid hb
      clear hb hk h
      go_enter Try.func45, Try.ntmps45
      go_wp2_with (go_at_call 47; refine (good_some _ c G word Xs h1 (by omega)).mono ?_; rintro e w1 ⟨rfl, rfl⟩)
      go_ret
      exact ⟨false, rfl, Hno.out, Hb.out⟩
    · obtain ⟨m, rfl⟩ := Int.eq_ofNat_of_zero_le (show 0 ≤ n by omega)
      have hmX : m < Xs.length := by omega
      have hmXI : (m : Int) < (Xs.length : Int) := by omega
      have hm0 : (0 : Int) ≤ (m : Int) := by omega
      obtain ⟨X, hX⟩ : ∃ X, Xs[m]? = some X := ⟨_, List.getElem?_eq_getElem hmX⟩
      have hmw : m ≤ word.length := by have := hS.len; omega
      have hany := any_end E.h0 hst hmw hS hX
      have hsnd : ∀ x ∈ X, It G.prods G.start word m x.1 x.2.1 x.2.2 := fun ⟨p, d, f⟩ hx => (hS.mem m X hX p d f).1 hx
      have hXlen := E.len (hS.nd m X hX) hsnd
      obtain ⟨w1, hw1⟩ : ∃ w1, w1 = w.alloc (.cells #[.pointer (some ⟨c, 0, none⟩)] 78) := ⟨_, rfl⟩
      obtain ⟨b, hbe⟩ : ∃ b, b = w.heap.size := ⟨_, rfl⟩
      rw [← hw1] at hb hk h1
      rw [← hbe] at hk
      obtain ⟨gs, cs, c8, hrows⟩ := h1.c8
      obtain ⟨hh, sj, ga, cap, rfl, r1, r2, r3⟩ := hrows m X hX
      obtain ⟨gn, gt, gp, cp, hG, c4⟩ := h1.gin
      have c0 := h1.c0
      have b0 := hk.cell 0
      simp only [List.getElem?_cons_zero] at b0
      have hP := E.p
      have Heg := hid (fun (args : Array Value) (w : World) => show (callFunc 90 args).run Try.prog w = .ok (.enter 90 args) w by kernel_rfl)
      have hcon := containsE_calls w1 ga cap X 90 (.pointer (some ⟨b, 0, none⟩)) (endI G.prods G.start) r3 (by omega) Heg.out (fun x hx w2 hb2 => by
        obtain ⟨p, d, f⟩ := x
        obtain ⟨l, R, hp, hl0, hd, hR, hf, hn2, hp256⟩ := E.box (hsnd _ hx)
        simp only at hp hd hf
        rw [endI_at hp]
        exact ends1_calls w2 b c G gn gt gp cp (hG.later hb2) ((hb2.cell (World.block_lt_of_cell? w1 _ b0)).trans b0) ((hb2.cell (World.block_lt_of_cell? w1 _ c0)).trans c0) ((hb2.cell (World.block_lt_of_cell? w1 _ c4)).trans c4) p d f l R hp hd (by omega) (by omega) (by omega))
      obtain ⟨M, hM⟩ : ∃ M, M = X.length := ⟨_, rfl⟩
      rw [← hM] at hcon r2
      have Hcon := hid hcon
      have Hany := hid hany
      have Hb := hid hb
      have H1 := hid h1
      have Hmw := hid hmw
      clear hcon hany hb h1 h hk hsnd hrows hX hM r3 hG c4 hmw hXlen hS
      go_enter Try.func45, Try.ntmps45
      go_upto_region 1 with fail
      rw [← hw1, ← hbe]
      clear hw1 hbe
      go_wp2_with (first | (go_at_call 47; refine (good_some _ c G word Xs H1.out (by omega)).mono ?_; rintro e w2 ⟨rfl, rfl⟩) | (go_at_call 89; refine Hcon.out.mono ?_; rintro e w2 ⟨rfl, hb2⟩; have Hb2 := hid hb2; clear hb2))
      go_ret
      refine ⟨_, rfl, ?_, belw Hb.out Hb2.out⟩
      rw [Hany.out]
      exact ⟨fun h => ⟨m, rfl, Hmw.out, h⟩, fun ⟨m', h1, _, h2⟩ => by
        obtain rfl : m = m' := by omega
        exact h2⟩
end Ed
end Go.Proofs.Ytaehooafdbaomaa
