/- Chapter 15 (least): tails. -/
import Derived.Test.YtbpgolmbielpgaaLeast1
namespace Go.Proofs.Ytbpgolmbielpgaa
open Go.RowKit
attribute [local go_sem ↓] Go.wp_at_zero Go.wp_at_succ
attribute [local go_sem] frozen_alloc_lt

theorem BI.at {w : World} {B bo t : Nat} {gs : List Nat} {F : List (List Int)} (h : BI w B bo t gs F) (hF : ∀ l ∈ F, l.length = t) {a z : Nat} (ha : a < F.length) (hz : z < t) :
    ∃ g l, gs[a]? = some g ∧ F[a]? = some l ∧ w.cell? ⟨bo, a, none⟩ = some (.slice (some ⟨g, 0, none⟩) t t) ∧ w.cell? ⟨g, z, none⟩ = some (.int .i64 (ti F a z)) ∧ w.frozen? ⟨g, z, none⟩ = false ∧ B ≤ g := by
  have hg : a < gs.length := by rw [h.len]; exact ha
  have h1 := List.getElem?_eq_getElem hg
  have h2 := List.getElem?_eq_getElem ha
  have hl := hF F[a] (List.getElem_mem ha)
  have hb := h.row a _ _ h1 h2
  refine ⟨gs[a], F[a], h1, h2, h.out a _ h1, ?_, hb.free z, (h.ne _ (List.getElem_mem hg)).1⟩
  have hc := hb.cell z
  rw [List.getElem?_map, List.getElem?_eq_getElem (by omega)] at hc
  rw [hc]
  simp [ti, List.getD, h2, List.getElem?_eq_getElem (show z < F[a].length by omega)]

theorem set_next {α : Type} (l : List α) (z v : α) (k : Nat) : (l ++ List.replicate (k + 1) z).set l.length v = (l ++ [v]) ++ List.replicate k z := by
  rw [List.set_append, if_neg (by omega), Nat.sub_self, List.replicate_succ]
  simp

def LT1 (w0 : World) (bo m t : Nat) (k : Nat) (v : Value) (w : World) : Prop :=
  ∃ (q : Nat) (gs : List Nat), v = .int .i64 q ∧ q ≤ m ∧ gs.length = q ∧ Bk w bo 23 (gs.map (rowI t) ++ List.replicate (m - q) (.slice none 0 0)) ∧
    (∀ g ∈ gs, w0.heap.size ≤ g ∧ g ≠ bo ∧ Bk w g 3 ((List.replicate t (-1 : Int)).map (Value.int .i64))) ∧ gs.Nodup ∧ k = m - q ∧ Below w0.heap.size w0 w
def LT2 (w0 : World) (bo m fr en t : Nat) (gs : List Nat) (of : Int → Nat → Nat → Int) (xs : List Int) (k : Nat) (v11 : Value) (w : World) : Prop :=
  ∃ (q : Nat) (z : Int) (F : List (List Int)), v11 = .int .i64 z ∧ z = (q : Int) - 1 ∧ q ≤ m ∧ BI w w0.heap.size bo t gs F ∧ F.length = m + 1 ∧ (∀ l ∈ F, l.length = t) ∧
    (∀ p, q ≤ p → p ≤ m → ∀ i, fr ≤ i → i ≤ en → ti F p i = Le.tl of en (xs.drop p) i) ∧ k = q ∧ bo < w.heap.size ∧ Below w0.heap.size w0 w
def LT3 (w0 : World) (bo m r fr en t : Nat) (gs : List Nat) (of : Int → Nat → Nat → Int) (xs : List Int) (k : Nat) (v12 : Value) (w : World) : Prop :=
  ∃ (i : Nat) (F : List (List Int)), v12 = .int .i64 i ∧ fr ≤ i ∧ i ≤ en + 1 ∧ BI w w0.heap.size bo t gs F ∧ F.length = m + 1 ∧ (∀ l ∈ F, l.length = t) ∧
    (∀ p, r + 1 ≤ p → p ≤ m → ∀ i, fr ≤ i → i ≤ en → ti F p i = Le.tl of en (xs.drop p) i) ∧ (∀ i', fr ≤ i' → i' < i → ti F r i' = Le.tl of en (xs.drop r) i') ∧ k = en + 1 - i ∧ bo < w.heap.size ∧ Below w0.heap.size w0 w
def LT4 (wr : World) (i en : Nat) (f : Nat → Int) (k : Nat) (v13 v14 : Value) (w : World) : Prop :=
  ∃ (j : Nat) (best : Int), v14 = .int .i64 j ∧ v13 = .int .i64 best ∧ i ≤ j ∧ j ≤ en + 1 ∧ best = Le.bestF f i (j - i) ∧ k = en + 1 - j ∧ w = wr
def TailPost (w : World) (xs : List Int) (of : Int → Nat → Nat → Int) (fr en : Nat) (e : Ending) (w' : World) : Prop :=
  ∃ (bo : Nat) (gs : List Nat) (F : List (List Int)), e = .returned (.slice (some ⟨bo, 0, none⟩) (xs.length + 1) (xs.length + 1)) ∧ w.heap.size ≤ bo ∧ bo < w'.heap.size ∧ BI w' w.heap.size bo (en + 1) gs F ∧ F.length = xs.length + 1 ∧ (∀ l ∈ F, l.length = en + 1) ∧
    (∀ q, q ≤ xs.length → ∀ i, fr ≤ i → i ≤ en → ti F q i = Le.tl of en (xs.drop q) i) ∧ Below w.heap.size w w'

set_option maxHeartbeats 8000000 in
set_option maxRecDepth 8000 in
theorem tails_calls {w : World} {V : GV} {bt bn n cb : Nat} {gw : Option Addr} {cw : Nat} {word : List Int} {R : Nat → Nat} {C : Nat → Nat → Nat} {N : Nat → Nat → Nat → Int} (_h : Tab w V bt bn n cb gw cw word R C N) (hw : RowI w w.heap.size gw word) (hl : word.length ≤ 64)
    (hTlt : ∀ w', Below w.heap.size w w' → Tab w' V bt bn n cb gw cw word R C N) (gx : Option Addr) (cx : Nat) (xs : List Int) (hx : RowI w w.heap.size gx xs) (hxl : xs.length ≤ 16) (hxs : ∀ s ∈ xs, s < (n : Int) ∧ -65536 ≤ s) (hN : ∀ a i j, -1 ≤ N a i j ∧ N a i j ≤ Le.cap)
    (fr en : Nat) (hft : fr ≤ en) (hen : en ≤ word.length) :
    Calls Try.prog 72 #[.pointer (some ⟨bt, 0, none⟩), .slice gx xs.length cx, .int .i64 fr, .int .i64 en] w (TailPost w xs (Le.ofT N word) fr en) := by
  obtain ⟨i2, hi2, z0, z1, z2⟩ := info_parts intsInfo
  have Hxs := hid hxs
  have Hx := hid hx
  have Hw := hid hw
  have HT := hid hTlt
  have HN := hid hN
  obtain ⟨m1, hm1⟩ : ∃ m1, m1 = xs.length + 1 := ⟨_, rfl⟩
  obtain ⟨t1, ht1⟩ : ∃ t1, t1 = en + 1 := ⟨_, rfl⟩
  have hadd : IntKind.i64.wrap ((xs.length : Int) + 1) = (m1 : Int) := by rw [IntKind.wrap_i64] <;> omega
  have hadd2 : IntKind.i64.wrap ((en : Int) + 1) = (t1 : Int) := by rw [IntKind.wrap_i64] <;> omega
  have hadd3 : (xs.length : Int) + 1 = (m1 : Int) := by omega
  have hadd4 : (en : Int) + 1 = (t1 : Int) := by omega
  have hm17 : m1 ≤ 17 := by omega
  have ht65 : t1 ≤ 65 := by omega
  have ht0 : 1 ≤ t1 := by omega
  have Hm1 := hid hm1
  have Ht1 := hid ht1
  clear hxs hx hw hTlt hN hm1 ht1
  go_enter Try.func72, Try.ntmps72
  go_upto_region 2 with (at_make; refine wpList_make_bk _ rfl _ _ _ rfl 23 i2 _ Try.underlying52 hi2 z0 z1 rfl _ _ m1 rfl rfl (by first | rfl | (simp; omega)) (by first | rfl | (simp; omega)) (by rw [z2]; omega) (by omega) ?_; intro w1 hbo hk1)
  have hb1 := hk1.to_below (B := w.heap.size) (Nat.le_refl _) (fun k e => e.elim)
  have hbow := hbo.lt
  obtain ⟨bo, hboe⟩ : ∃ bo, bo = w.heap.size := ⟨_, rfl⟩
  rw [← hboe] at hbo hbow ⊢
  have hbo0 : w.heap.size ≤ bo := by omega
  clear hboe hk1
  go_wp2_with fail
  go_loopg [24] m1 (fun k v wq => LT1 w bo m1 t1 k v wq)
  case atStart => exact ⟨0, [], rfl, by omega, rfl, hbo, fun g hg => by simp at hg, List.nodup_nil, rfl, hb1⟩
  case round =>
    clear hbo hb1 hbow
    obtain ⟨q, gs, rfl, hq, hgl, hbk, hgs, hnd, hk, hb⟩ := hrel
    have Hk := hid hk
    have Hgs := hid hgs
    have Hnd := hid hnd
    have Hgl := hid hgl
    have Hb := hid hb
    clear hk hgs hnd
    by_cases hlt : q < m1
    · have hlt' : (q : Int) < (m1 : Int) := by omega
      have hq0 : (0 : Int) ≤ (q : Int) := by omega
      have hbow := hbk.lt
      have hba := hbk.alloc (.cells #[.int .i64 (-1)] 3)
      have hat : (gs.map (rowI t1) ++ List.replicate (m1 - q) (.slice none 0 0))[q]? = some (.slice none 0 0) := by
        rw [List.getElem?_append_right (by rw [List.length_map]; omega), List.length_map, hgl, Nat.sub_self, List.getElem?_replicate, if_pos (by omega)]
      have Hat := hid hat
      clear hgl hb hat
      go_wp2_with (go_at_call 56; refine (repeat_calls _ _ 1 (-1) t1 (by simp) ht0 (by omega)).mono ?_; rintro e w3 ⟨g, rfl, hg, hbg, hb3⟩; have hbk3 := hba.below hb3 hba.lt; have hc3 := (hbk3.cell q).trans Hat.out; have hf3 := hbk3.free q)
      have hall : Below w.heap.size w w3 := (Hb.out.alloc Hb.out.size _).trans (hb3.mono (by have := Hb.out.size; simp; omega))
      have hset := hbk3.set q (rowI t1 g)
      rw [show m1 - q = (m1 - (q + 1)) + 1 by omega] at hset
      have hsn := set_next (gs.map (rowI t1)) (.slice none 0 0) (rowI t1 g) (m1 - (q + 1))
      rw [List.length_map, Hgl.out] at hsn
      rw [hsn, show gs.map (rowI t1) ++ [rowI t1 g] = (gs ++ [g]).map (rowI t1) by simp] at hset
      have hgn : wr.heap.size < g := by simp at hg; omega
      have hk3 : Kp (fun x => x = bo) w3 (w3.setCell ⟨bo, q, none⟩ (rowI t1 g)) := Kp.set (S := fun x => x = bo) (p := ⟨bo, q, none⟩) (Kp.refl _ _) (.inl rfl) _
      have hgs2 : ∀ g' ∈ gs ++ [g], w.heap.size ≤ g' ∧ g' ≠ bo ∧ Bk (w3.setCell ⟨bo, q, none⟩ (rowI t1 g)) g' 3 ((List.replicate t1 (-1 : Int)).map (Value.int .i64)) := fun g' hg' => by
        rw [List.mem_append, List.mem_singleton] at hg'
        rcases hg' with h | rfl
        · obtain ⟨h1, h2, h3⟩ := Hgs.out g' h
          exact ⟨h1, h2, (((h3.alloc _).below hb3 (h3.alloc _).lt).kp hk3 h2)⟩
        · exact ⟨by have := Hb.out.size; omega, by omega, hbg.kp hk3 (by omega)⟩
      have hnd2 : (gs ++ [g]).Nodup := by
        rw [List.nodup_append]
        refine ⟨Hnd.out, by simp, fun a ha b hb e => ?_⟩
        rw [List.mem_singleton] at hb
        have := (Hgs.out a ha).2.2.lt
        omega
      have hb4 : Below w.heap.size w (w3.setCell ⟨bo, q, none⟩ (rowI t1 g)) := hall.setCell (p := ⟨bo, q, none⟩) (by exact hbo0) _
      have Hset := hid hset
      have Hgs2 := hid hgs2
      have Hnd2 := hid hnd2
      have Hb4 := hid hb4
      clear hall hset hsn hgn hk3 hgs2 hnd2 hb4 hc3 hf3 hbk3 hba hbk
      go_roundg (m1 - (q + 1))
      case measure => have hk := Hk.out; omega
      case rel => exact ⟨q + 1, gs ++ [g], by go_num, by omega, by rw [List.length_append, Hgl.out]; rfl, Hset.out, Hgs2.out, Hnd2.out, rfl, Hb4.out⟩
    · have hge : ¬ (q : Int) < (m1 : Int) := by omega
      have hqe : q = m1 := by omega
      have hbow := hbk.lt
      rw [show m1 - q = 0 by omega, List.replicate_zero, List.append_nil] at hbk
      have hBI : BI wr w.heap.size bo t1 gs (List.replicate m1 (List.replicate t1 (-1))) := by
        refine ⟨by rw [List.length_replicate, Hgl.out, hqe], fun a g ha => ?_, fun a g l ha hl => ?_, Hnd.out, fun g hg => ⟨(Hgs.out g hg).1, (Hgs.out g hg).2.1⟩⟩
        · have := hbk.cell a
          rw [List.getElem?_map, ha] at this
          exact this
        · have hll : l = List.replicate t1 (-1) := (List.mem_replicate.1 (List.mem_of_getElem? hl)).2
          rw [hll]
          exact (Hgs.out g (List.mem_of_getElem? ha)).2.2
      have hF0 : ∀ l ∈ List.replicate m1 (List.replicate t1 (-1 : Int)), l.length = t1 := fun l hl => by rw [(List.mem_replicate.1 hl).2, List.length_replicate]
      have hti : ∀ a i, a < m1 → i < t1 → ti (List.replicate m1 (List.replicate t1 (-1))) a i = -1 := fun a i ha hi => by
        simp [ti, List.getD, ha, hi]
      obtain ⟨gm, lm, hgm, hlm, cm1, cm2, fm, hBgm⟩ := hBI.at hF0 (a := xs.length) (z := en) (by rw [List.length_replicate]; have := Hm1.out; omega) (by have := Ht1.out; omega)
      rw [hti xs.length en (by have := Hm1.out; omega) (by have := Ht1.out; omega)] at cm2
      have hlml := hF0 lm (List.mem_of_getElem? hlm)
      have hput := hBI.put hgm hlm (z := en) 0
      have htp := ti_set hlm (z := en) (by rw [hlml]; have := Ht1.out; omega) 0
      obtain ⟨F1, hF1⟩ : ∃ F1, F1 = (List.replicate m1 (List.replicate t1 (-1 : Int))).set xs.length (lm.set en 0) := ⟨_, rfl⟩
      have hF1l : F1.length = xs.length + 1 := by rw [hF1, List.length_set, List.length_replicate]; exact Hm1.out
      have hF1r : ∀ l ∈ F1, l.length = t1 := fun l hl => by
        rw [hF1] at hl
        rcases List.mem_or_eq_of_mem_set hl with h | h
        · exact hF0 l h
        · rw [h, List.length_set]; exact hlml
      have htl : ∀ p, xs.length ≤ p → p ≤ xs.length → ∀ i, fr ≤ i → i ≤ en → ti F1 p i = Le.tl (Le.ofT N word) en (xs.drop p) i := fun p h1 h2 i h3 h4 => by
        have hp : p = xs.length := by omega
        subst hp
        rw [hF1, htp, List.drop_length, Le.tl, hti xs.length i (by have := Hm1.out; omega) (by have := Ht1.out; omega)]
        simp
      rw [← hF1] at hput
      have hb5 : Below w.heap.size w (wr.setCell ⟨gm, en, none⟩ (.int .i64 0)) := Hb.out.setCell (p := ⟨gm, en, none⟩) (by exact hBgm) _
      have hmx : (xs.length : Int) < (m1 : Int) := by omega
      have hex : (en : Int) < (t1 : Int) := by omega
      have hx0 : (0 : Int) ≤ (xs.length : Int) := by omega
      have he0 : (0 : Int) ≤ (en : Int) := by omega
      have hsub : IntKind.i64.wrap ((xs.length : Int) - 1) = (xs.length : Int) - 1 := by rw [IntKind.wrap_i64] <;> omega
      have Hput := hid hput
      have HF1l := hid hF1l
      have HF1r := hid hF1r
      have Htl := hid htl
      have Hb5 := hid hb5
      have hbo5 : bo < (wr.setCell ⟨gm, en, none⟩ (.int .i64 0)).heap.size := by simp [World.setCell]; exact hbow
      have Hbo5 := hid hbo5
      clear hqe hbk hBI hF0 hti hgm hlm hBgm hlml hput htp hF1 hF1l hF1r htl hb5 hbo5 hgl hb hq Hgs Hnd Hgl Hk
      go_wp2_with fail
      go_loopg [11] xs.length (fun k v wq => LT2 w bo xs.length fr en t1 gs (Le.ofT N word) xs k v wq)
      case atStart => exact ⟨xs.length, (xs.length : Int) - 1, F1, rfl, rfl, by omega, Hput.out, HF1l.out, HF1r.out, Htl.out, rfl, Hbo5.out, Hb5.out⟩
      case round =>
        clear Hput HF1l HF1r Htl Hbo5 cm1 cm2 fm Hb5
        obtain ⟨q, z, F, rfl, hz, hq, hBI, hFl, hFr, htl, hk, hbo', hb⟩ := hrel
        have Hk := hid hk
        have Hbo' := hid hbo'
        have HFr := hid hFr
        have HFl := hid hFl
        have Htl := hid htl
        have Hb := hid hb
        clear hk hFr htl hbo' hb
        cases q with
        | zero =>
          have hz1 : z = -1 := by omega
          subst hz1
          have HBI := hid hBI
          clear hBI hFl hz
          go_wp2_with fail
          go_ret
          refine ⟨bo, gs, F, ?_, hbo0, Hbo'.out, by rw [← Ht1.out]; exact HBI.out, HFl.out, fun l hl => by rw [← Ht1.out]; exact HFr.out l hl, fun q hq i h1 h2 => Htl.out q (by omega) hq i h1 h2, Hb.out⟩
          rw [← Hm1.out]; rfl
        | succ r =>
          have hz1 : z = (r : Int) := by omega
          subst hz1
          have hrx : r < xs.length := by omega
          have hrx' : (r : Int) < (m1 : Int) := by omega
          have hr0 : (0 : Int) ≤ (r : Int) := by omega
          have hrb : (r : Int) < (xs.length : Int) := by omega
          have hge0 : decide ((0 : Int) ≤ (r : Int)) = true := by simp
          have HBI := hid hBI
          clear hBI hFl hz hge
          go_wp2_with fail
          obtain ⟨sy, hsy⟩ : ∃ sy, sy = xs[r] := ⟨_, rfl⟩
          have hdrop : xs.drop r = sy :: xs.drop (r + 1) := by rw [hsy]; exact List.drop_eq_getElem_cons hrx
          obtain ⟨hs1, hs2⟩ := Hxs.out sy (by rw [hsy]; exact List.getElem_mem hrx)
          obtain ⟨f, hf⟩ : ∃ f : Nat → Nat → Int, f = fun i j => Le.comb (Le.ofT N word sy i j) (Le.tl (Le.ofT N word) en (xs.drop (r + 1)) j) := ⟨_, rfl⟩
          obtain ⟨r1, hr1⟩ : ∃ r1, r1 = r + 1 := ⟨_, rfl⟩
          have hwr1 : IntKind.i64.wrap ((r : Int) + 1) = (r1 : Int) := by rw [IntKind.wrap_i64] <;> omega
          have hadd5 : (r : Int) + 1 = (r1 : Int) := by omega
          have hr1m : (r1 : Int) < (m1 : Int) := by have := Hm1.out; omega
          have hr10 : (0 : Int) ≤ (r1 : Int) := by omega
          have hr18 : r1 ≤ 17 := by omega
          have Hdrop := hid hdrop
          have Hsy := hid hsy
          have Hf := hid hf
          have Hr1 := hid hr1
          clear hdrop hsy hf hr1
          go_loopg [12] (en + 1 - fr) (fun k v wq => LT3 w bo xs.length r fr en t1 gs (Le.ofT N word) xs k v wq)
          case atStart => exact ⟨fr, F, rfl, by omega, by omega, HBI.out, HFl.out, HFr.out, Htl.out, fun i' h1 h2 => by omega, rfl, Hbo'.out, Hb.out⟩
          case round =>
            clear HBI HFl HFr Htl Hbo' Hb
            obtain ⟨i, F, rfl, hi1, hi2, hBI, hFl, hFr, htl, hti, hk3, hbo', hb⟩ := hrel
            have Hk3 := hid hk3
            have HBI := hid hBI
            have HFl := hid hFl
            have HFr := hid hFr
            have Htl := hid htl
            have Hti := hid hti
            have Hbo' := hid hbo'
            have Hb := hid hb
            clear hk3 hBI hFl hFr htl hti hbo' hb
            by_cases hie : i ≤ en
            · have hie' : (i : Int) ≤ (en : Int) := by omega
              have hi0 : (0 : Int) ≤ (i : Int) := by omega
              have hit : (i : Int) < (t1 : Int) := by omega
              go_wp2_with fail
              go_loopg [13, 14] (en + 1 - i) (fun k v13 v14 wq => LT4 wr i en (f i) k v13 v14 wq)
              case atStart => exact ⟨i, -1, rfl, rfl, by omega, by omega, by rw [Nat.sub_self]; rfl, rfl, rfl⟩
              case round =>
                obtain ⟨j, best, rfl, rfl, hj1, hj2, hbest, hk4, rfl⟩ := hrel
                have Hk4 := hid hk4
                have Hbest := hid hbest
                clear hk4 hbest
                by_cases hje : j ≤ en
                · have hje' : (j : Int) ≤ (en : Int) := by omega
                  have hj0 : (0 : Int) ≤ (j : Int) := by omega
                  have hjt : (j : Int) < (t1 : Int) := by omega
                  obtain ⟨g1, l1, hg1, hl1, c1, c2, f1, hBg1⟩ := HBI.out.at HFr.out (a := r1) (z := j) (by have := HFl.out; have := Hr1.out; omega) (by omega)
                  rw [Htl.out r1 (by have := Hr1.out; omega) (by have := Hr1.out; omega) j (by omega) hje] at c2
                  obtain ⟨gx', ox, rfl, hgx, hcx⟩ := Hx.out.at hrx
                  rw [← Hsy.out] at hcx
                  have hcx := (Hb.out.cell (p := ⟨gx', ox + r, none⟩) hgx).trans hcx
                  obtain ⟨rest, hrest⟩ : ∃ rest, rest = Le.tl (Le.ofT N word) en (xs.drop r1) j := ⟨_, rfl⟩
                  obtain ⟨own, hown⟩ : ∃ own, own = Le.ofT N word sy i j := ⟨_, rfl⟩
                  rw [← hrest] at c2
                  have hofr : ∀ s i j, -1 ≤ Le.ofT N word s i j ∧ Le.ofT N word s i j ≤ Le.cap := fun s i j => by
                    unfold Le.ofT
                    split
                    · exact HN.out _ _ _
                    · unfold Le.cap; split <;> omega
                  have hrr := Le.tl_range hofr en (xs.drop r1) j
                  have hor := hofr sy i j
                  rw [← hrest] at hrr
                  rw [← hown] at hor
                  unfold Le.cap at hrr hor
                  have hnext : f i j = Le.comb own rest := by rw [Hf.out, hown, hrest, Hr1.out]
                  have hbs : Le.bestF (f i) i (j + 1 - i) = Le.better best (Le.comb own rest) := by
                    rw [show j + 1 - i = (j - i) + 1 by omega, Le.bestF, ← Hbest.out, show i + (j - i) = j by omega, hnext]
                  have Hbs := hid hbs
                  have hofc := of_calls (HT.out wr Hb.out) ((Hw.out.below Hb.out).mono Hb.out.size) hl sy i j hs1 hs2 (by omega) (by omega)
                  rw [← hown] at hofc
                  have Hofc := hid hofc
                  clear hrest hown hofr hnext hbs hofc hg1 hl1 hBg1 hgx f1
                  by_cases hr0' : rest = -1
                  · have hrb' : (rest == -1) = true := by simp [hr0']
                    have hkeep : best = Le.bestF (f i) i (j + 1 - i) := by
                      rw [Hbs.out, Le.comb, if_pos (.inl hr0'), Le.better, if_pos rfl]
                    have Hkeep := hid hkeep
                    clear hkeep
                    go_wp2_with fail
                    go_roundg (en + 1 - (j + 1))
                    case measure => have hk := Hk4.out; omega
                    case rel => exact ⟨j + 1, best, by go_num, rfl, by omega, by omega, Hkeep.out, rfl, rfl⟩
                  · have hrb' : (rest == -1) = false := by simp [hr0']
                    by_cases ho0 : own = -1
                    · have hob : (own == -1) = true := by simp [ho0]
                      have hkeep : best = Le.bestF (f i) i (j + 1 - i) := by
                        rw [Hbs.out, Le.comb, if_pos (.inr ho0), Le.better, if_pos rfl]
                      have Hkeep := hid hkeep
                      clear hkeep
                      go_wp2_with (go_at_call 53; refine (Hofc.out).mono ?_; rintro e wr ⟨rfl, rfl⟩)
                      go_roundg (en + 1 - (j + 1))
                      case measure => have hk := Hk4.out; omega
                      case rel => exact ⟨j + 1, best, by go_num, rfl, by omega, by omega, Hkeep.out, rfl, rfl⟩
                    · have hob : (own == -1) = false := by simp [ho0]
                      obtain ⟨nv, hnv⟩ : ∃ nv, nv = min (own + rest) 1099511627776 := ⟨_, rfl⟩
                      have hif : (if (1099511627776 : Int) < own + rest then (1099511627776 : Int) else own + rest) = nv := by rw [hnv]; split <;> omega
                      have hnv0 : ¬ nv = -1 := by omega
                      have hcomb : Le.comb own rest = nv := by rw [Le.comb, if_neg (by omega), hnv]
                      have Hcomb := hid hcomb
                      clear hcomb hnv
                      by_cases hb1' : best = -1
                      · have hbb : (best == -1) = true := by simp [hb1']
                        have hkeep : nv = Le.bestF (f i) i (j + 1 - i) := by
                          rw [Hbs.out, Hcomb.out, Le.better, if_neg hnv0, if_pos (.inl hb1')]
                        have Hkeep := hid hkeep
                        clear hkeep
                        go_wp2_with (go_at_call 53; refine (Hofc.out).mono ?_; rintro e wr ⟨rfl, rfl⟩)
                        go_roundg (en + 1 - (j + 1))
                        case measure => have hk := Hk4.out; omega
                        case rel => exact ⟨j + 1, nv, by go_num, rfl, by omega, by omega, Hkeep.out, rfl, rfl⟩
                      · have hbb : (best == -1) = false := by simp [hb1']
                        by_cases hlt4 : nv < best
                        · have hltb : decide (nv < best) = true := by simp [hlt4]
                          have hkeep : nv = Le.bestF (f i) i (j + 1 - i) := by
                            rw [Hbs.out, Hcomb.out, Le.better, if_neg hnv0, if_pos (.inr hlt4)]
                          have Hkeep := hid hkeep
                          clear hkeep
                          go_wp2_with (go_at_call 53; refine (Hofc.out).mono ?_; rintro e wr ⟨rfl, rfl⟩)
                          go_roundg (en + 1 - (j + 1))
                          case measure => have hk := Hk4.out; omega
                          case rel => exact ⟨j + 1, nv, by go_num, rfl, by omega, by omega, Hkeep.out, rfl, rfl⟩
                        · have hltb : decide (nv < best) = false := by simp; omega
                          have hkeep : best = Le.bestF (f i) i (j + 1 - i) := by
                            rw [Hbs.out, Hcomb.out, Le.better, if_neg hnv0, if_neg (by omega)]
                          have Hkeep := hid hkeep
                          clear hkeep
                          go_wp2_with (go_at_call 53; refine (Hofc.out).mono ?_; rintro e wr ⟨rfl, rfl⟩)
                          go_roundg (en + 1 - (j + 1))
                          case measure => have hk := Hk4.out; omega
                          case rel => exact ⟨j + 1, best, by go_num, rfl, by omega, by omega, Hkeep.out, rfl, rfl⟩
                · have hge4 : ¬ (j : Int) ≤ (en : Int) := by omega
                  have hbv : best = Le.tl (Le.ofT N word) en (xs.drop r) i := by
                    rw [Hbest.out, Hdrop.out, Le.tl, Hf.out, show j = en + 1 by omega]
                  obtain ⟨g0, l0, hg0, hl0, c1, c2, f0, hBg0⟩ := HBI.out.at HFr.out (a := r) (z := i) (by have := HFl.out; omega) (by omega)
                  have hl0l := HFr.out l0 (List.mem_of_getElem? hl0)
                  have hput := HBI.out.put hg0 hl0 (z := i) best
                  have htp := ti_set hl0 (z := i) (by rw [hl0l]; omega) best
                  obtain ⟨F1, hF1⟩ : ∃ F1, F1 = F.set r (l0.set i best) := ⟨_, rfl⟩
                  rw [← hF1] at hput
                  have hF1l : F1.length = xs.length + 1 := by rw [hF1, List.length_set]; exact HFl.out
                  have hF1r : ∀ l ∈ F1, l.length = t1 := fun l hl => by
                    rw [hF1] at hl
                    rcases List.mem_or_eq_of_mem_set hl with h | h
                    · exact HFr.out l h
                    · rw [h, List.length_set]; exact hl0l
                  have htl1 : ∀ p, r + 1 ≤ p → p ≤ xs.length → ∀ i, fr ≤ i → i ≤ en → ti F1 p i = Le.tl (Le.ofT N word) en (xs.drop p) i := fun p h1 h2 i' h3 h4 => by
                    rw [hF1, htp, if_neg (by omega)]
                    exact Htl.out p h1 h2 i' h3 h4
                  have hti1 : ∀ i', fr ≤ i' → i' < i + 1 → ti F1 r i' = Le.tl (Le.ofT N word) en (xs.drop r) i' := fun i' h1 h2 => by
                    rw [hF1, htp]
                    by_cases e : i' = i
                    · rw [if_pos ⟨rfl, e⟩, e]; exact hbv
                    · rw [if_neg (fun h => e h.2)]
                      exact Hti.out i' h1 (by omega)
                  have hb6 : Below w.heap.size w (wr.setCell ⟨g0, i, none⟩ (.int .i64 best)) := Hb.out.setCell (p := ⟨g0, i, none⟩) (by exact hBg0) _
                  have hbo6 : bo < (wr.setCell ⟨g0, i, none⟩ (.int .i64 best)).heap.size := by simp [World.setCell]; exact Hbo'.out
                  have Hput := hid hput
                  have HF1l := hid hF1l
                  have HF1r := hid hF1r
                  have Htl1 := hid htl1
                  have Hti1 := hid hti1
                  have Hb6 := hid hb6
                  have Hbo6 := hid hbo6
                  clear hbv hg0 hl0 hBg0 hl0l hput htp hF1 hF1l hF1r htl1 hti1 hb6 hbo6
                  go_wp2_with fail
                  go_roundg (en + 1 - (i + 1))
                  case measure => have hk := Hk3.out; omega
                  case rel => exact ⟨i + 1, F1, by go_num, by omega, by omega, Hput.out, HF1l.out, HF1r.out, Htl1.out, Hti1.out, rfl, Hbo6.out, Hb6.out⟩
            · have hge3 : ¬ (i : Int) ≤ (en : Int) := by omega
              have hsubr : IntKind.i64.wrap ((r : Int) - 1) = (r : Int) - 1 := by rw [IntKind.wrap_i64] <;> omega
              have htl2 : ∀ p, r ≤ p → p ≤ xs.length → ∀ i, fr ≤ i → i ≤ en → ti F p i = Le.tl (Le.ofT N word) en (xs.drop p) i := fun p h1 h2 i' h3 h4 => by
                by_cases e : p = r
                · subst e
                  exact Hti.out i' h3 (by omega)
                · exact Htl.out p (by omega) h2 i' h3 h4
              have Htl2 := hid htl2
              clear htl2
              go_wp2_with fail
              go_roundg r
              case measure => have hk := Hk.out; omega
              case rel => exact ⟨r, (r : Int) - 1, F, rfl, rfl, by omega, HBI.out, HFl.out, HFr.out, Htl2.out, rfl, Hbo'.out, Hb.out⟩
end Go.Proofs.Ytbpgolmbielpgaa
