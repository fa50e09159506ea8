/- Chapter 14 (tree): Yield of any tree. -/
import Derived.Test.YtaehooafdbaomaaTreeA
namespace Go.Proofs.Ytaehooafdbaomaa
open Go.RowKit
attribute [local go_sem ↓] Go.wp_at_zero Go.wp_at_succ
attribute [local go_sem] frozen_alloc_lt

namespace Fo
def yield : Fo → List Int
  | nil => []
  | cons p k r => (if p < 0 then [-1 - p] else k.yield) ++ r.yield
/-- Its numbers are ints. -/
def fits : Fo → Prop
  | nil => True
  | cons p k r => -9223372036854775808 ≤ p ∧ k.fits ∧ r.fits
theorem yield_le : ∀ f : Fo, f.yield.length ≤ f.nodes
  | nil => Nat.le_refl _
  | cons p k r => by
    have := yield_le k
    have := yield_le r
    rw [yield, nodes, List.length_append]
    split <;> simp <;> omega
/-- The terminals of a tree. -/
def yieldT (p : Int) (k : Fo) : List Int := if p < 0 then [-1 - p] else k.yield
theorem yieldT_le (p : Int) (k : Fo) : (yieldT p k).length ≤ 1 + k.nodes := by
  have := yield_le k
  unfold yieldT
  split <;> simp <;> omega
end Fo
def YieldSaid (ys : List Int) (w : World) (e : Ending) (w' : World) : Prop := ∃ ga cap, e = .returned (.slice ga ys.length cap) ∧ RowID w' (fun k => w.heap.size ≤ k ∧ k < w'.heap.size) ga ys ∧ Below w.heap.size w w'
def YieldAt (w0 : World) (ga : Option Addr) (len m : Nat) (ys : List Int) (k : Nat) (v3 v16 : Value) (w : World) : Prop :=
  ∃ (i : Nat) (r : Fo) (zs : List Int), v16 = .int .i64 i ∧ w.ownsRow w0.heap.size 3 1 v3 zs.length (zs.map (Value.int .i64)) ∧ FoAt w0 (fun k => k < w0.heap.size) ga r i ∧ r.fits ∧ i + r.len = len ∧ zs ++ r.yield = ys ∧ k = r.len ∧ zs.length + r.nodes ≤ 1000000000 ∧ r.nodes ≤ m ∧ Below w0.heap.size w0 w
def YieldSays (m : Nat) : Prop := ∀ (p : Int) (kids : Fo) (w : World) (gk : Option Addr) (ck : Nat), kids.nodes = m → kids.nodes ≤ 1000000000 → -9223372036854775808 ≤ p → kids.fits → FoAt w (fun k => k < w.heap.size) gk kids 0 →
    Calls Try.prog 32 #[.agg #[.int .i64 p, .slice gk kids.len ck]] w (YieldSaid (Fo.yieldT p kids) w)
theorem rowID_cells {w : World} {D : Nat → Prop} {ga : Option Addr} {ys : List Int} (h : RowID w D ga ys) : CellsD w D ga (ys.map (Value.int .i64)).length fun i u => (ys.map (Value.int .i64))[i]? = some u := by
  intro i hi
  rw [List.length_map] at hi
  obtain ⟨g, o, h1, h2, h3⟩ := h.at hi
  exact ⟨g, o, _, h1, h2, h3, by show (ys.map (Value.int .i64))[i]? = _; rw [List.getElem?_map, List.getElem?_eq_getElem hi]; rfl⟩
theorem intInfoT : (Try.prog.info? 3).map (fun i => (i.zero, i.size, i.bytes)) = some (some (.int .i64 0), 1, 8) := by kernel_rfl
/-- append(out, l...): whatever l is. -/
theorem app_rows {w : World} {B : Nat} {v : Value} {zs : List Int} (h : w.ownsRow B 3 1 v zs.length (zs.map (Value.int .i64))) {D : Nat → Prop} {ga : Option Addr} {ys : List Int} (hr : RowID w D ga ys) (c : Nat) (hl : zs.length + ys.length ≤ 1000000000000) (hB : B ≤ w.heap.size) :
    ∃ v' w', (Builtin.append_ #[22, 22] 22 #[v, .slice ga ys.length c]).run Try.prog w = .ok v' w' ∧ w'.ownsRow B 3 1 v' (zs ++ ys).length ((zs ++ ys).map (Value.int .i64)) ∧ Below B w w' := by
  obtain ⟨i3, hi3, z0, z1, z2⟩ := info_parts intInfoT
  obtain ⟨gv, cap, w', h1, h2, h3, h4⟩ := run_append_cells (P := Try.prog) w B 22 22 3 i3 (.int .i64 0) Try.underlying22 hi3 z0 z1 (by omega) rfl v zs.length _ h D ga c (ys.map (Value.int .i64)) (rowID_cells hr) (fun u hu => by obtain ⟨x, _, rfl⟩ := List.mem_map.1 hu; rfl) (by rw [List.length_map]; exact hl) hB
  rw [List.length_map] at h1 h2
  refine ⟨_, w', h1, by rw [List.map_append, List.length_append]; exact h2, (Below.refl _ _).grown h3 hB fun k hk => (World.ownsRow.lt h k hk).1⟩
set_option maxHeartbeats 2000000 in
theorem yield_step (m : Nat) (ih : ∀ m', m' < m → YieldSays m') : YieldSays m := by
  intro p kids w gk ck hm hmax hp hfit hat
  have hlen := kids.len_le
  have hk := Bk.new w 45 [.int .i64 p, .slice gk kids.len ck]
  have hb0 : Below w.heap.size w (w.alloc (.cells #[.int .i64 p, .slice gk kids.len ck] 45)) := (Below.refl _ _).alloc (Nat.le_refl _) _
  have hat0 := (hat.below hb0 (fun k hk => hk)).mono fun k (hk : k < w.heap.size) => Nat.lt_of_lt_of_le hk hb0.size
  have Hb0 := hid hb0
  have Hm := hid hm
  have Hlen := hid hlen
  have Hfit := hid hfit
  have hlm : kids.len ≤ 1000000000 := by omega
  clear hm hlen hat hb0 hfit
  by_cases hneg : p < 0
  · have hy : Fo.yieldT p kids = [-1 - p] := by unfold Fo.yieldT; rw [if_pos hneg]
    have hb1 : -9223372036854775808 ≤ -1 - p := by omega
    have hb2 : -1 - p ≤ 9223372036854775807 := by omega
    have HY := hid hy
    clear hy
    go_enter Try.func32, Try.ntmps32
    go_wp2
    go_ret
    rw [HY.out]
    refine ⟨_, _, rfl, ?_, belw Hb0.out ((Below.refl _ _).alloc (Nat.le_refl _) _)⟩
    intro i hi
    have hi0 : i = 0 := by simp at hi; omega
    subst hi0
    have hbk := bk_at (Bk.new (w.alloc (.cells #[.int .i64 p, .slice gk kids.len ck] 45)) 3 [.int .i64 (-1 - p)]) (show _ = w.heap.size + 1 by simp)
    exact ⟨_, 0, _, rfl, ⟨by simp, by simp⟩, hbk.cell 0, rfl⟩
  · have hy : Fo.yieldT p kids = kids.yield := by unfold Fo.yieldT; rw [if_neg hneg]
    have HY := hid hy
    clear hy
    go_enter Try.func32, Try.ntmps32
    go_upto_region 1 with fail
    obtain ⟨wa, hwa⟩ : ∃ wa, wa = (w.alloc (.cells #[.int .i64 p, .slice gk kids.len ck] 45)) := ⟨_, rfl⟩
    rw [← hwa] at hk hat0 Hb0 ⊢
    obtain ⟨b, hb⟩ : ∃ b, b = w.heap.size := ⟨_, rfl⟩
    rw [← hb] at hk ⊢
    clear hwa
    have HB := hid hb
    clear hb
    have g0 := hk.cell 0
    have g1 := hk.cell 1
    simp only [List.getElem?_cons_zero, List.getElem?_cons_succ] at g0 g1
    go_wp2
    obtain ⟨L, hL⟩ : ∃ L, L = kids.len := ⟨_, rfl⟩
    rw [← hL] at hlm ⊢
    have HL := hid hL
    clear hL g0 g1
    go_loopg [3, 16] L (fun k v3 v16 wr => YieldAt wa gk L m kids.yield k v3 v16 wr)
    case atStart => exact ⟨0, kids, [], rfl, World.ownsRow_nil _ _ _ _, hat0, Hfit.out, by rw [HL.out]; omega, rfl, HL.out, by simpa using hmax, by have := Hm.out; omega, Below.refl _ _⟩
    case round =>
      obtain ⟨i, r, zs, rfl, hown, hr, hf, hi, hzs, hkk, hmx, hnm, hbw⟩ := hrel
      cases r with
      | nil =>
        simp only [Fo.len, Fo.yield, Nat.add_zero, List.append_nil] at hi hzs
        subst hi
        have hge : ¬ (i : Int) < (i : Int) := by omega
        obtain ⟨gv, cv, rfl, hrow⟩ := own_rowID hown
        have Hrow := hid hrow
        have Hzs := hid hzs
        clear hrow hzs hown hkk
        go_wp2
        go_ret
        have hs := Hb0.out.size
        exact ⟨gv, cv, by rw [HY.out, ← Hzs.out]; rfl, by rw [HY.out, ← Hzs.out]; exact Hrow.out.mono fun k hk => ⟨Nat.le_trans hs hk.1, hk.2⟩, belw Hb0.out hbw⟩
      | cons q k r' =>
        simp only [Fo.len] at hi
        simp only [Fo.nodes] at hmx hnm
        have L1 : 1 + k.nodes + r'.nodes ≤ m := hnm
        unfold Fo.fits at hf
        unfold FoAt at hr
        obtain ⟨⟨g, off, ga', ca', rfl, hg, c0, c1, hk'⟩, hr'⟩ := hr
        have hlt : (i : Int) < (L : Int) := by omega
        have hi0 : (0 : Int) ≤ (i : Int) := by omega
        have c0' := (hbw.cell (p := ⟨g, _, none⟩) hg).trans c0
        have c1' := (hbw.cell (p := ⟨g, _, none⟩) hg).trans c1
        have hlt' : k.nodes < m := by have := Hm.out; have := L1; omega
        have hba : Below wr.heap.size wr (wr.alloc (.cells #[.int .i64 q, .slice ga' k.len ca'] 45)) := (Below.refl _ _).alloc (Nat.le_refl _) _
        have hka := (hk'.below hbw (fun _ hk => hk)).mono (D' := fun x => x < wr.heap.size) fun x (hk : x < wa.heap.size) => Nat.lt_of_lt_of_le hk hbw.size
        have hka2 := (hka.below hba (fun _ hk => hk)).mono (D' := fun x => x < (wr.alloc (.cells #[.int .i64 q, .slice ga' k.len ca'] 45)).heap.size) fun x (hk : x < wr.heap.size) => Nat.lt_of_lt_of_le hk hba.size
        have hcall := ih k.nodes hlt' q k _ ga' ca' rfl (by omega) hf.1 hf.2.1 hka2
        have Hcall := hid hcall
        have Hr' := hid hr'
        have Hba := hid hba
        have Hi := hid hi
        have Hk := hid hkk
        have Hf := hid hf.2.2
        have Hzs := hid hzs
        have Hown := hid hown
        clear hcall hka hka2 hr' hba hi hkk c0 c1 hk' hlt' hf hzs hown
        go_wp2_with (first
          | (at_builtin; refine wpList_append_run rfl _ _ _ rfl _ (.slice ga2 (Fo.yieldT q k).length cap2) v' w3 (by rfl) (by rfl) (by exact hrun) ?_)
          | (go_at_call 32; refine Hcall.out.mono ?_; rintro e w2 ⟨ga2, cap2, rfl, hrow2, hb2⟩; obtain ⟨v', w3, hrun, hown3, hb3⟩ := app_rows (own_below (Hown.out.alloc _) hb2) hrow2 cap2 (by have := Fo.yieldT_le q k; omega) (by have := hbw.size; have := Hba.out.size; have := hb2.size; omega); have Hown3 := hid hown3; have Hb3 := hid hb3; have Hb2 := hid hb2; clear hown3 hb3 hb2))
        go_roundg r'.len
        case measure => have := Hk.out; rw [Fo.len] at this; omega
        case rel =>
          have hz0 := hbw.size
          have hz1 := Hba.out.size
          have hz2 := Hb2.out.size
          have hyl := Fo.yieldT_le q k
          exact ⟨i + 1, r', zs ++ Fo.yieldT q k, by go_num, Hown3.out, Hr'.out, Hf.out, by have := Hi.out; omega, by rw [List.append_assoc]; exact Hzs.out, rfl, by rw [List.length_append]; omega, by omega, (belw hbw (belw Hba.out Hb2.out)).trans Hb3.out⟩
theorem yield_calls (m : Nat) : YieldSays m := by
  induction m using Nat.strongRecOn with
  | ind m ih => exact yield_step m ih
end Go.Proofs.Ytaehooafdbaomaa
