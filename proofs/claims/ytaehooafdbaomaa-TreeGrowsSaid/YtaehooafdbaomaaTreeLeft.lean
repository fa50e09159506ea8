/- Chapter 14 (tree): Leftmost of any tree. -/
import Derived.Test.YtaehooafdbaomaaTreeB
namespace Go.Proofs.Ytaehooafdbaomaa
open Go.RowKit
attribute [local go_sem ↓] Go.wp_at_zero Go.wp_at_succ
attribute [local go_sem] frozen_alloc_lt

namespace Fo
/-- The production of a node, if it is one. -/
def own (p : Int) : List Int := if p < 0 then [] else [p]
def lm : Fo → List Int
  | nil => []
  | cons p k r => (own p ++ k.lm) ++ r.lm
theorem own_le (p : Int) : (own p).length ≤ 1 := by unfold own; split <;> simp
theorem lm_le : ∀ f : Fo, f.lm.length ≤ f.nodes
  | nil => Nat.le_refl _
  | cons p k r => by
    have := lm_le k
    have := lm_le r
    have := own_le p
    simp only [lm, nodes, List.length_append]
    omega
/-- The productions of a tree, from the left. -/
def lmT (p : Int) (k : Fo) : List Int := own p ++ k.lm
theorem lmT_le (p : Int) (k : Fo) : (lmT p k).length ≤ 1 + k.nodes := by
  have := lm_le k
  have := own_le p
  unfold lmT
  rw [List.length_append]
  omega
end Fo
def LeftAt (w0 : World) (ga : Option Addr) (len m : Nat) (ys : List Int) (k : Nat) (v3 v17 : Value) (w : World) : Prop :=
  ∃ (i : Nat) (r : Fo) (zs : List Int), v17 = .int .i64 i ∧ w.ownsRow w0.heap.size 3 1 v3 zs.length (zs.map (Value.int .i64)) ∧ FoAt w0 (fun k => k < w0.heap.size) ga r i ∧ i + r.len = len ∧ zs ++ r.lm = ys ∧ k = r.len ∧ zs.length + r.nodes ≤ 1000000000 ∧ r.nodes ≤ m ∧ Below w0.heap.size w0 w
def LeftSays (m : Nat) : Prop := ∀ (p : Int) (kids : Fo) (w : World) (gk : Option Addr) (ck : Nat), kids.nodes = m → kids.nodes ≤ 999999999 → FoAt w (fun k => k < w.heap.size) gk kids 0 →
    Calls Try.prog 36 #[.agg #[.int .i64 p, .slice gk kids.len ck]] w (YieldSaid (Fo.lmT p kids) w)
set_option maxRecDepth 8000 in
set_option maxHeartbeats 2000000 in
theorem left_step (m : Nat) (ih : ∀ m', m' < m → LeftSays m') : LeftSays m := by
  intro p kids w gk ck hm hmax hat
  have hlen := kids.len_le
  have hk := Bk.new w 45 [.int .i64 p, .slice gk kids.len ck]
  have hb0 : Below w.heap.size w (w.alloc (.cells #[.int .i64 p, .slice gk kids.len ck] 45)) := (Below.refl _ _).alloc (Nat.le_refl _) _
  have hat0 := (hat.below hb0 (fun k hk => hk)).mono fun k (hk : k < w.heap.size) => Nat.lt_of_lt_of_le hk hb0.size
  have Hb0 := hid hb0
  have Hm := hid hm
  have Hlen := hid hlen
  have hlm : kids.len ≤ 1000000000 := by omega
  clear hm hlen hat hb0
  go_enter Try.func36, Try.ntmps36
  go_upto_region 1 with fail
  obtain ⟨wa, hwa⟩ : ∃ wa, wa = (w.alloc (.cells #[.int .i64 p, .slice gk kids.len ck] 45)) := ⟨_, rfl⟩
  rw [← hwa] at hk hat0 Hb0 ⊢
  obtain ⟨b, hb⟩ : ∃ b, b = w.heap.size := ⟨_, rfl⟩
  rw [← hb] at hk ⊢
  clear hwa
  have HB := hid hb
  clear hb
  obtain ⟨L, hL⟩ : ∃ L, L = kids.len := ⟨_, rfl⟩
  rw [← hL] at hk hlm ⊢
  have HL := hid hL
  clear hL
  have g0 := hk.cell 0
  have g1 := hk.cell 1
  simp only [List.getElem?_cons_zero, List.getElem?_cons_succ] at g0 g1
  have Hk0 := hid hk
  have hkl := hk.lt
  clear hk
  go_upto_if 8 with fail
  go_cut [3] from 6 to 13 (fun v3 wy => ∃ zs : List Int, zs = Fo.own p ∧ wy.ownsRow wa.heap.size 3 1 v3 zs.length (zs.map (Value.int .i64)) ∧ Below wa.heap.size wa wy)
  case first =>
    by_cases hneg : p < 0
    · have hy : Fo.own p = [] := by unfold Fo.own; rw [if_pos hneg]
      have HY := hid hy
      clear hy
      go_wp2_with fail
      go_meet
      exact ⟨[], HY.out.symm, World.ownsRow_nil _ _ _ _, Below.refl _ _⟩
    · have hy : Fo.own p = [p] := by unfold Fo.own; rw [if_neg hneg]
      have hbk := Bk.new wa 3 [.int .i64 p]
      have hbn := bel_al (bel_id wa) (.cells #[.int .i64 p] 3)
      obtain ⟨v', w3, hrun, hown3, hb3⟩ := app_rows (zs := []) (World.ownsRow_nil (wa.alloc (.cells #[.int .i64 p] 3)) wa.heap.size 3 1) (bk_rowI (zs := [p]) hbk) 1 (by simp) hbn.size
      rw [List.nil_append] at hown3
      simp only [List.length_singleton] at hrun
      have Hrun := hid hrun
      clear hrun
      have HY := hid hy
      have Hown3 := hid hown3
      have Hb3 := hid (hbn.trans hb3)
      clear hy hown3 hb3 hbk hbn
      go_wp2_with (at_builtin; refine wpList_append_run rfl _ _ _ rfl (.slice none 0 0) (.slice (some ⟨wa.heap.size, 0, none⟩) 1 1) v' w3 (by rfl) (by rfl) (by exact (Hid.out Hrun)) ?_)
      go_meet
      exact ⟨[p], HY.out.symm, Hown3.out, Hb3.out⟩
  case rest =>
  obtain ⟨zs0, hz0, hown0, hbc⟩ := hcut
  have hkc := Hk0.out.below hbc hkl
  have g0 := hkc.cell 0
  have g1 := hkc.cell 1
  simp only [List.getElem?_cons_zero, List.getElem?_cons_succ] at g0 g1
  have Hz0 := hid hz0
  have Hown0 := hid hown0
  have Hbc := hid hbc
  clear hz0 hown0 hbc hkc
  go_wp2_with fail
  go_loopg [3, 17] L (fun k v3 v17 wr => LeftAt wa gk L m (Fo.own p ++ kids.lm) k v3 v17 wr)
  case atStart => exact ⟨0, kids, zs0, rfl, Hown0.out, hat0, by rw [HL.out]; omega, by rw [Hz0.out], HL.out, by have := Fo.own_le p; rw [Hz0.out]; omega, by have := Hm.out; omega, Hbc.out⟩
  case round =>
    obtain ⟨i, r, zs, rfl, hown, hr, hi, hzs, hkk, hmx, hnm, hbw⟩ := hrel
    cases r with
    | nil =>
      simp only [Fo.len, Fo.lm, Nat.add_zero, List.append_nil] at hi hzs
      subst hi
      have hge : ¬ (i : Int) < (i : Int) := by omega
      obtain ⟨gv, cv, rfl, hrow⟩ := own_rowID hown
      have Hrow := hid hrow
      have Hzs := hid hzs
      clear hrow hzs hown hkk
      go_wp2
      go_ret
      have hs := Hb0.out.size
      exact ⟨gv, cv, by rw [show Fo.lmT p kids = Fo.own p ++ kids.lm from rfl, ← Hzs.out]; rfl, by rw [show Fo.lmT p kids = Fo.own p ++ kids.lm from rfl, ← Hzs.out]; exact Hrow.out.mono fun k hk => ⟨Nat.le_trans hs hk.1, hk.2⟩, belw Hb0.out hbw⟩
    | cons q k r' =>
      simp only [Fo.len, Fo.lm] at hi hzs
      simp only [Fo.nodes] at hmx hnm
      have L1 : 1 + k.nodes + r'.nodes ≤ m := hnm
      unfold FoAt at hr
      obtain ⟨⟨g, off, ga', ca', rfl, hg, c0, c1, hk'⟩, hr'⟩ := hr
      have hlt : (i : Int) < (L : Int) := by omega
      have hi0 : (0 : Int) ≤ (i : Int) := by omega
      have c0' := (hbw.cell (p := ⟨g, _, none⟩) hg).trans c0
      have c1' := (hbw.cell (p := ⟨g, _, none⟩) hg).trans c1
      have hlt' : k.nodes < m := by have := Hm.out; have := L1; omega
      have hba : Below wr.heap.size wr (wr.alloc (.cells #[.int .i64 q, .slice ga' k.len ca'] 45)) := (Below.refl _ _).alloc (Nat.le_refl _) _
      have hka := (hk'.below hbw (fun _ hk => hk)).mono (D' := fun x => x < wr.heap.size) fun x (hk : x < wa.heap.size) => Nat.lt_of_lt_of_le hk hbw.size
      have hka2 := (hka.below hba (fun _ hk => hk)).mono (D' := fun x => x < (wr.alloc (.cells #[.int .i64 q, .slice ga' k.len ca'] 45)).heap.size) fun x (hk : x < wr.heap.size) => Nat.lt_of_lt_of_le hk hba.size
      have hcall := ih k.nodes hlt' q k _ ga' ca' rfl (by omega) hka2
      have Hcall := hid hcall
      have Hr' := hid hr'
      have Hba := hid hba
      have Hi := hid hi
      have Hk := hid hkk
      have Hzs := hid hzs
      have Hown := hid hown
      clear hcall hka hka2 hr' hba hi hkk c0 c1 hk' hlt' hzs hown
      go_wp2_with (first
        | (at_builtin; refine wpList_append_run rfl _ _ _ rfl _ (.slice ga2 (Fo.lmT q k).length cap2) v' w3 (by rfl) (by rfl) (by exact hrun) ?_)
        | (go_at_call 36; refine Hcall.out.mono ?_; rintro e w2 ⟨ga2, cap2, rfl, hrow2, hb2⟩; obtain ⟨v', w3, hrun, hown3, hb3⟩ := app_rows (own_below (Hown.out.alloc _) hb2) hrow2 cap2 (by have := Fo.lmT_le q k; omega) (by have := hbw.size; have := Hba.out.size; have := hb2.size; omega); have Hown3 := hid hown3; have Hb3 := hid hb3; have Hb2 := hid hb2; clear hown3 hb3 hb2))
      go_roundg r'.len
      case measure => have := Hk.out; rw [Fo.len] at this; omega
      case rel =>
        have hz0 := hbw.size
        have hz1 := Hba.out.size
        have hz2 := Hb2.out.size
        have hyl := Fo.lmT_le q k
        exact ⟨i + 1, r', zs ++ Fo.lmT q k, by go_num, Hown3.out, Hr'.out, by have := Hi.out; omega, by rw [List.append_assoc]; exact Hzs.out, rfl, by rw [List.length_append]; omega, by omega, (belw hbw (belw Hba.out Hb2.out)).trans Hb3.out⟩
theorem left_calls (m : Nat) : LeftSays m := by
  induction m using Nat.strongRecOn with
  | ind m ih => exact left_step m ih
end Go.Proofs.Ytaehooafdbaomaa
