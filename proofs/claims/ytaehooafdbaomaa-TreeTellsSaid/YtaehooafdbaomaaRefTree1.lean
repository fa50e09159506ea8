/- Chapter 14 (tree): Leftmost of any tree. -/
import Derived.Test.YtaehooafdbaomaaTreeB
namespace Go.Proofs.Ytaehooafdbaomaa
open Go.RowKit
attribute [local go_sem ↓] Go.wp_at_zero Go.wp_at_succ
attribute [local go_sem] frozen_alloc_lt

namespace Fo
/-- The production of a node, if it is one. -/
def own (p : Int) : List Int := if p < 0 then [] else [p]
def lm : Fo → List Int
  | nil => []
  | cons p k r => (own p ++ k.lm) ++ r.lm
theorem own_le (p : Int) : (own p).length ≤ 1 := by unfold own; split <;> simp
theorem lm_le : ∀ f : Fo, f.lm.length ≤ f.nodes
  | nil => Nat.le_refl _
  | cons p k r => by
    have := lm_le k
    have := lm_le r
    have := own_le p
    simp only [lm, nodes, List.length_append]
    omega
/-- The productions of a tree, from the left. -/
def lmT (p : Int) (k : Fo) : List Int := own p ++ k.lm
theorem lmT_le (p : Int) (k : Fo) : (lmT p k).length ≤ 1 + k.nodes := by
  have := lm_le k
  have := own_le p
  unfold lmT
  rw [List.length_append]
  omega
end Fo
def LeftAt (w0 : World) (ga : Option Addr) (len m : Nat) (ys : List Int) (k : Nat) (v3 v17 : Value) (w : World) : Prop :=
  ∃ (i : Nat) (r : Fo) (zs : List Int), v17 = .int .i64 i ∧ w.ownsRow w0.heap.size 3 1 v3 zs.length (zs.map (Value.int .i64)) ∧ FoAt w0 (fun k => k < w0.heap.size) ga r i ∧ i + r.len = len ∧ zs ++ r.lm = ys ∧ k = r.len ∧ zs.length + r.nodes ≤ 1000000000 ∧ r.nodes ≤ m ∧ Below w0.heap.size w0 w
def LeftSays (m : Nat) : Prop := ∀ (p : Int) (kids : Fo) (w : World) (gk : Option Addr) (ck : Nat), kids.nodes = m → kids.nodes ≤ 999999999 → FoAt w (fun k => k < w.heap.size) gk kids 0 →
    Calls Try.prog 36 #[.agg #[.int .i64 p, .slice gk kids.len ck]] w (YieldSaid (Fo.lmT p kids) w)
set_option maxRecDepth 8000 in
set_option maxHeartbeats 2000000 in
theorem left_step (m : Nat) (ih : ∀ m', m' < m → LeftSays m') : LeftSays m := by
  intro p kids w gk ck hm hmax hat
  have hlen := kids.len_le
  have hk := Bk.new w 45 [.int .i64 p, .slice gk kids.len ck]
  have hb0 : Below w.heap.size w (w.alloc (.cells #[.int .i64 p, .slice gk kids.len ck] 45)) := (Below.refl _ _).alloc (Nat.le_refl _) _
  have hat0 := (hat.below hb0 (fun k hk => hk)).mono fun k (hk : k < w.heap.size) => Nat.lt_of_lt_of_le hk hb0.size
  have Hb0 := hid hb0
  have Hm := hid hm
  have Hlen := hid hlen
  have hlm : kids.len ≤ 1000000000 := by omega
  clear hm hlen hat hb0
  go_enter Try.func36, Try.ntmps36
  go_upto_region 1 with fail
  obtain ⟨wa, hwa⟩ : ∃ wa, wa = (w.alloc (.cells #[.int .i64 p, .slice gk kids.len ck] 45)) := ⟨_, rfl⟩
  rw [← hwa] at hk hat0 Hb0 ⊢
  obtain ⟨b, hb⟩ : ∃ b, b = w.heap.size := ⟨_, rfl⟩
  rw [← hb] at hk ⊢
  clear hwa
  have HB := hid hb
  clear hb
  obtain ⟨L, hL⟩ : ∃ L, L = kids.len := ⟨_, rfl⟩
  rw [← hL] at hk hlm ⊢
  have HL := hid hL
  clear hL
  have g0 := hk.cell 0
  have g1 := hk.cell 1
  simp only [List.getElem?_cons_zero, List.getElem?_cons_succ] at g0 g1
  have Hk0 := hid hk
  have hkl := hk.lt
  clear hk
  go_upto_if 8 with fail
  go_cut [3] from 6 to 13 (fun v3 wy => ∃ zs : List Int, zs = Fo.own p ∧ wy.ownsRow wa.heap.size 3 1 v3 zs.length (zs.map (Value.int .i64)) ∧ Below wa.heap.size wa wy)
  case first =>
    by_cases hneg : p < 0
    · have hy : Fo.own p = [] := by unfold Fo.own; rw [if_pos hneg]
      have HY := hid hy
      clear hy
      go_wp2_with fail
      go_meet
      exact ⟨[], HY.out.symm, World.ownsRow_nil _ _ _ _, Below.refl _ _⟩
    · have hy : Fo.own p = [p] := by unfold Fo.own; rw [if_neg hneg]
      have hbk := Bk.new wa 3 [.int .i64 p]
      have hbn := bel_al (bel_id wa) (.cells #[.int .i64 p] 3)
      obtain ⟨v', w3, hrun, hown3, hb3⟩ := app_rows (zs := []) (World.ownsRow_nil (wa.alloc (.cells #[.int .i64 p] 3)) wa.heap.size 3 1) (bk_rowI (zs := [p]) hbk) 1 (by simp) hbn.size
      rw [List.nil_append] at hown3
      simp only [List.length_singleton] at hrun
      have Hrun := hid hrun
      clear hrun
      have HY := hid hy
      have Hown3 := hid hown3
      have Hb3 := hid (hbn.trans hb3)
      clear hy hown3 hb3 hbk hbn
      go_wp2_with (at_builtin; refine wpList_append_run rfl _ _ _ rfl (.slice none 0 0) (.slice (some ⟨wa.heap.size, 0, none⟩) 1 1) v' w3 (by rfl) (by rfl) (by exact (Hid.out Hrun)) ?_)
      go_meet
      exact ⟨[p], HY.out.symm, Hown3.out, Hb3.out⟩
  case rest =>
  obtain ⟨zs0, hz0, hown0, hbc⟩ := hcut
  have hkc := Hk0.out.below hbc hkl
  have g0 := hkc.cell 0
  have g1 := hkc.cell 1
  simp only [List.getElem?_cons_zero, List.getElem?_cons_succ] at g0 g1
  have Hz0 := hid hz0
  have Hown0 := hid hown0
  have Hbc := hid hbc
  clear hz0 hown0 hbc hkc
  go_wp2_with fail
  go_loopg [3, 17] L (fun k v3 v17 wr => LeftAt wa gk L m (Fo.own p ++ kids.lm) k v3 v17 wr)
  case atStart => exact ⟨0, kids, zs0, rfl, Hown0.out, hat0, by rw [HL.out]; omega, by rw [Hz0.out], HL.out, by have := Fo.own_le p; rw [Hz0.out]; omega, by have := Hm.out; omega, Hbc.out⟩
  case round =>
    obtain ⟨i, r, zs, rfl, hown, hr, hi, hzs, hkk, hmx, hnm, hbw⟩ := hrel
    cases r with
    | nil =>
      simp only [Fo.len, Fo.lm, Nat.add_zero, List.append_nil] at hi hzs
      subst hi
      have hge : ¬ (i : Int) < (i : Int) := by omega
      obtain ⟨gv, cv, rfl, hrow⟩ := own_rowID hown
      have Hrow := hid hrow
      have Hzs := hid hzs
      clear hrow hzs hown hkk
      go_wp2
      go_ret
      have hs := Hb0.out.size
      exact ⟨gv, cv, by rw [show Fo.lmT p kids = Fo.own p ++ kids.lm from rfl, ← Hzs.out]; rfl, by rw [show Fo.lmT p kids = Fo.own p ++ kids.lm from rfl, ← Hzs.out]; exact Hrow.out.mono fun k hk => ⟨Nat.le_trans hs hk.1, hk.2⟩, belw Hb0.out hbw⟩
    | cons q k r' =>
      simp only [Fo.len, Fo.lm] at hi hzs
      simp only [Fo.nodes] at hmx hnm
      have L1 : 1 + k.nodes + r'.nodes ≤ m := hnm
      unfold FoAt at hr
      obtain ⟨⟨g, off, ga', ca', rfl, hg, c0, c1, hk'⟩, hr'⟩ := hr
      have hlt : (i : Int) < (L : Int) := by omega
      have hi0 : (0 : Int) ≤ (i : Int) := by omega
      have c0' := (hbw.cell (p := ⟨g, _, none⟩) hg).trans c0
      have c1' := (hbw.cell (p := ⟨g, _, none⟩) hg).trans c1
      have hlt' : k.nodes < m := by have := Hm.out; have := L1; omega
      have hba : Below wr.heap.size wr (wr.alloc (.cells #[.int .i64 q, .slice ga' k.len ca'] 45)) := (Below.refl _ _).alloc (Nat.le_refl _) _
      have hka := (hk'.below hbw (fun _ hk => hk)).mono (D' := fun x => x < wr.heap.size) fun x (hk : x < wa.heap.size) => Nat.lt_of_lt_of_le hk hbw.size
      have hka2 := (hka.below hba (fun _ hk => hk)).mono (D' := fun x => x < (wr.alloc (.cells #[.int .i64 q, .slice ga' k.len ca'] 45)).heap.size) fun x (hk : x < wr.heap.size) => Nat.lt_of_lt_of_le hk hba.size
      have hcall := ih k.nodes hlt' q k _ ga' ca' rfl (by omega) hka2
      have Hcall := hid hcall
      have Hr' := hid hr'
      have Hba := hid hba
      have Hi := hid hi
      have Hk := hid hkk
      have Hzs := hid hzs
      have Hown := hid hown
      clear hcall hka hka2 hr' hba hi hkk c0 c1 hk' hlt' hzs hown
      go_wp2_with (first
        | (at_builtin; refine wpList_append_run rfl _ _ _ rfl _ (.slice ga2 (Fo.lmT q k).length cap2) v' w3 (by rfl) (by rfl) (by exact hrun) ?_)
        | (go_at_call 36; refine Hcall.out.mono ?_; rintro e w2 ⟨ga2, cap2, rfl, hrow2, hb2⟩; obtain ⟨v', w3, hrun, hown3, hb3⟩ := app_rows (own_below (Hown.out.alloc _) hb2) hrow2 cap2 (by have := Fo.lmT_le q k; omega) (by have := hbw.size; have := Hba.out.size; have := hb2.size; omega); have Hown3 := hid hown3; have Hb3 := hid hb3; have Hb2 := hid hb2; clear hown3 hb3 hb2))
      go_roundg r'.len
      case measure => have := Hk.out; rw [Fo.len] at this; omega
      case rel =>
        have hz0 := hbw.size
        have hz1 := Hba.out.size
        have hz2 := Hb2.out.size
        have hyl := Fo.lmT_le q k
        exact ⟨i + 1, r', zs ++ Fo.lmT q k, by go_num, Hown3.out, Hr'.out, by have := Hi.out; omega, by rw [List.append_assoc]; exact Hzs.out, rfl, by rw [List.length_append]; omega, by omega, (belw hbw (belw Hba.out Hb2.out)).trans Hb3.out⟩
theorem left_calls (m : Nat) : LeftSays m := by
  induction m using Nat.strongRecOn with
  | ind m ih => exact left_step m ih
end Go.Proofs.Ytaehooafdbaomaa
/- Chapter 14 (tree), the document's side: Nodes, Deep, Yield, Leftmost of any tree. -/
namespace Go.Proofs.Ytaehooafdbaomaa
open Go.RowKit
attribute [local go_sem ↓] Go.wp_at_zero Go.wp_at_succ
attribute [local go_sem] frozen_alloc_lt

theorem FoAt.fwdR {w w' : World} {gk : Option Addr} {f : Fo} {i : Nat} (h : FoAt w (fun k => k < w.heap.size) gk f i) (hb : Below w.heap.size w w') : FoAt w' (fun k => k < w'.heap.size) gk f i :=
  (h.below hb (fun _ h => h)).mono (fun _k hk => Nat.lt_of_lt_of_le hk hb.size)
theorem rt_box (w : World) (p : Int) (gk : Option Addr) (n ck : Nat) : Below w.heap.size w (w.alloc (.cells #[.int .i64 p, .slice gk n ck] 50)) := (Below.refl _ _).alloc (Nat.le_refl _) _
def rnodesSays (m : Nat) : Prop := ∀ (p : Int) (kids : Fo) (w : World) (gk : Option Addr) (ck : Nat), kids.nodes = m → kids.nodes ≤ 900000000 → FoAt w (fun k => k < w.heap.size) gk kids 0 →
    Calls Try.prog 34 #[.agg #[.int .i64 p, .slice gk kids.len ck]] w (fun e w' => e = .returned (.int .i64 ((1 + kids.nodes : Nat) : Int)) ∧ Below w.heap.size w w')
def RnAt (w0 : World) (ga : Option Addr) (L N : Nat) (k : Nat) (v3 v4 : Value) (w : World) : Prop :=
  ∃ (i n : Nat) (r : Fo), v4 = .int .i64 i ∧ v3 = .int .i64 n ∧ FoAt w0 (fun k => k < w0.heap.size) ga r i ∧ i + r.len = L ∧ n + r.nodes = N ∧ k = r.len ∧ 1 ≤ n ∧ Below w0.heap.size w0 w
set_option maxRecDepth 8000 in
set_option maxHeartbeats 4000000 in
theorem rnodes_step (m : Nat) (ih : ∀ m', m' < m → rnodesSays m') : rnodesSays m := by
  intro p kids w gk ck hm hmax hat
  have hlen := kids.len_le
  have hk := Bk.new w 50 [.int .i64 p, .slice gk kids.len ck]
  have hb0 := rt_box w p gk kids.len ck
  have hat0 := hat.fwdR hb0
  obtain ⟨wa, hwa⟩ : ∃ wa, wa = (w.alloc (.cells #[.int .i64 p, .slice gk kids.len ck] 50)) := ⟨_, rfl⟩
  obtain ⟨b, hb⟩ : ∃ b, b = w.heap.size := ⟨_, rfl⟩
  rw [← hwa] at hk hb0 hat0
  rw [← hb] at hk
  obtain ⟨L, hL⟩ : ∃ L, L = kids.len := ⟨_, rfl⟩
  rw [← hL] at hk hlen hwa ⊢
  have hlm : (L : Int) ≤ 900000000 := by omega
  have g0 := hk.cell 0
  have g1 := hk.cell 1
  have hbl := hk.lt
  simp only [List.getElem?_cons_zero, List.getElem?_cons_succ] at g0 g1
  have HwL := hid hL
  have Hwa := hid (And.intro hwa hb)
  have Hb0 := hid hb0
  have Hk := hid hk
  have Hm := hid hm
  have Hlen := hid (And.intro hlen hmax)
  clear hwa hb hL hb0 hk hm hlen hmax hat
  go_enter Try.func34, Try.ntmps34
  go_upto_region 1 with fail
  rw [← Hwa.out.1, ← Hwa.out.2]
  go_wp2_with fail
  go_loopg [3, 4] L (fun k v3 v4 wr => RnAt wa gk L (1 + m) k v3 v4 wr)
  case atStart => exact ⟨0, 1, kids, rfl, rfl, hat0, by rw [HwL.out]; omega, by rw [Hm.out], HwL.out, Nat.le_refl _, Below.refl _ _⟩
  case round =>
    obtain ⟨i, n, r, rfl, rfl, hr, hi, hn, hkk, hn1, hbw⟩ := hrel
    have hkr := Hk.out.below hbw hbl
    have g0' := hkr.cell 0
    have g1' := hkr.cell 1
    simp only [List.getElem?_cons_zero, List.getElem?_cons_succ] at g0' g1'
    clear hkr
    cases r with
    | nil =>
      simp only [Fo.len, Nat.add_zero, Fo.nodes] at hi hn
      have hge : ¬ (i : Int) < (L : Int) := by omega
      have Hn := hid hn
      have Hbw := hid hbw
      clear hn hi hkk hbw
      go_wp2_with fail
      go_ret
      exact ⟨by rw [Hm.out, show (1 : Int) + (m : Int) = (n : Int) by have := Hn.out; omega]; rfl, belw Hb0.out Hbw.out⟩
    | cons q k r' =>
      simp only [Fo.len, Fo.nodes] at hi hn
      try simp only [Fo.nodes] at hn
      unfold FoAt at hr
      obtain ⟨⟨g, off, ga', ca', rfl, hg, c0, c1, hk'⟩, hr'⟩ := hr
      have hlt : (i : Int) < (L : Int) := by omega
      have hi0 : (0 : Int) ≤ (i : Int) := by omega
      have c0' := (hbw.cell (p := ⟨g, _, none⟩) hg).trans c0
      have c1' := (hbw.cell (p := ⟨g, _, none⟩) hg).trans c1
      have hlt' : k.nodes < m := by have := Hm.out; omega
      have hka := (hk'.below hbw (fun _ hk => hk)).mono (D' := fun x => x < wr.heap.size) fun x (hk : x < wa.heap.size) => Nat.lt_of_lt_of_le hk hbw.size
      have hkn : k.nodes ≤ 900000000 := by have := Hlen.out.2; have := Hm.out; omega
      have hcall := ih k.nodes hlt' q k wr ga' ca' rfl hkn hka
      have hb2 : (n : Int) + ((1 + k.nodes : Nat) : Int) ≤ 900000001 := by have := Hlen.out.2; have := Hm.out; omega
      have hb3 : (0 : Int) ≤ (n : Int) := by omega
      have hb4 : (0 : Int) ≤ ((1 + k.nodes : Nat) : Int) := by omega
      obtain ⟨kn, hkn2⟩ : ∃ kn, kn = 1 + k.nodes := ⟨_, rfl⟩
      rw [← hkn2] at hcall hb2 hb4
      have Hkn := hid hkn2
      have Hn1 := hid hn1
      have Hcall := hid hcall
      have Hr' := hid hr'
      have Hi := hid hi
      have Hn := hid hn
      have Hkk := hid hkk
      have Hbw := hid hbw
      clear hcall hka hr' hi hn hkk c0 c1 hk' hlt' hkn hkn2 hn1 hbw
      go_wp2_with (go_at_call 34; refine Hcall.out.mono ?_; rintro e w2 ⟨rfl, hb2⟩)
      go_roundg r'.len
      case measure => have := Hkk.out; rw [Fo.len] at this; omega
      case rel => exact ⟨i + 1, n + kn, r', by go_num, by go_num, Hr'.out, by have := Hi.out; omega, by have := Hn.out; have := Hkn.out; omega, rfl, by have := Hn1.out; omega, belw Hbw.out hb2⟩
theorem rnodes_calls (m : Nat) : rnodesSays m := by
  induction m using Nat.strongRecOn with
  | ind m ih => exact rnodes_step m ih
def rdeepSays (m : Nat) : Prop := ∀ (p : Int) (kids : Fo) (w : World) (gk : Option Addr) (ck : Nat), kids.nodes = m → kids.nodes ≤ 900000000 → FoAt w (fun k => k < w.heap.size) gk kids 0 →
    Calls Try.prog 35 #[.agg #[.int .i64 p, .slice gk kids.len ck]] w (fun e w' => e = .returned (.int .i64 ((kids.deep + 1 : Nat) : Int)) ∧ Below w.heap.size w w')
def RdAt (w0 : World) (ga : Option Addr) (L N D : Nat) (k : Nat) (v3 v4 : Value) (w : World) : Prop :=
  ∃ (i d : Nat) (r : Fo), v4 = .int .i64 i ∧ v3 = .int .i64 d ∧ FoAt w0 (fun k => k < w0.heap.size) ga r i ∧ i + r.len = L ∧ r.nodes ≤ N ∧ max d r.deep = D ∧ k = r.len ∧ Below w0.heap.size w0 w
set_option maxRecDepth 8000 in
set_option maxHeartbeats 4000000 in
theorem rdeep_step (m : Nat) (ih : ∀ m', m' < m → rdeepSays m') : rdeepSays m := by
  intro p kids w gk ck hm hmax hat
  have hlen := kids.len_le
  have hk := Bk.new w 50 [.int .i64 p, .slice gk kids.len ck]
  have hb0 := rt_box w p gk kids.len ck
  have hat0 := hat.fwdR hb0
  obtain ⟨wa, hwa⟩ : ∃ wa, wa = (w.alloc (.cells #[.int .i64 p, .slice gk kids.len ck] 50)) := ⟨_, rfl⟩
  obtain ⟨b, hb⟩ : ∃ b, b = w.heap.size := ⟨_, rfl⟩
  rw [← hwa] at hk hb0 hat0
  rw [← hb] at hk
  obtain ⟨L, hL⟩ : ∃ L, L = kids.len := ⟨_, rfl⟩
  rw [← hL] at hk hlen hwa ⊢
  have hlm : (L : Int) ≤ 900000000 := by omega
  have g0 := hk.cell 0
  have g1 := hk.cell 1
  have hbl := hk.lt
  simp only [List.getElem?_cons_zero, List.getElem?_cons_succ] at g0 g1
  have HwL := hid hL
  have Hwa := hid (And.intro hwa hb)
  have Hb0 := hid hb0
  have Hk := hid hk
  have Hm := hid hm
  have Hlen := hid (And.intro hlen hmax)
  clear hwa hb hL hb0 hk hm hlen hmax hat
  obtain ⟨D, hD⟩ : ∃ D, D = kids.deep := ⟨_, rfl⟩
  have hD2 : D ≤ 900000000 := by have := Fo.deep_le kids; have := Hlen.out.2; omega
  rw [← hD]
  have HD := hid hD
  clear hD
  go_enter Try.func35, Try.ntmps35
  go_upto_region 1 with fail
  rw [← Hwa.out.1, ← Hwa.out.2]
  go_wp2_with fail
  go_loopg [3, 4] L (fun k v3 v4 wr => RdAt wa gk L m D k v3 v4 wr)
  case atStart => exact ⟨0, 0, kids, rfl, rfl, hat0, by rw [HwL.out]; omega, by rw [Hm.out]; exact Nat.le_refl _, by rw [HD.out]; omega, HwL.out, Below.refl _ _⟩
  case round =>
    obtain ⟨i, d, r, rfl, rfl, hr, hi, hn, hd, hkk, hbw⟩ := hrel
    have hkr := Hk.out.below hbw hbl
    have g0' := hkr.cell 0
    have g1' := hkr.cell 1
    simp only [List.getElem?_cons_zero, List.getElem?_cons_succ] at g0' g1'
    clear hkr
    cases r with
    | nil =>
      simp only [Fo.len, Nat.add_zero, Fo.deep] at hi hd
      have hge : ¬ (i : Int) < (L : Int) := by omega
      obtain rfl : d = D := by omega
      have Hbw := hid hbw
      have hd1 : (d : Int) ≤ 900000000 := by omega
      have hd2 : (0 : Int) ≤ (d : Int) := by omega
      clear hn hi hkk hbw hd
      go_wp2_with fail
      go_ret
      exact ⟨rfl, belw Hb0.out Hbw.out⟩
    | cons q k r' =>
      simp only [Fo.len, Fo.deep] at hi hd
      try simp only [Fo.nodes] at hn
      unfold FoAt at hr
      obtain ⟨⟨g, off, ga', ca', rfl, hg, c0, c1, hk'⟩, hr'⟩ := hr
      have hlt : (i : Int) < (L : Int) := by omega
      have hi0 : (0 : Int) ≤ (i : Int) := by omega
      have c0' := (hbw.cell (p := ⟨g, _, none⟩) hg).trans c0
      have c1' := (hbw.cell (p := ⟨g, _, none⟩) hg).trans c1
      have hlt' : k.nodes < m := by have := Hm.out; omega
      have hka := (hk'.below hbw (fun _ hk => hk)).mono (D' := fun x => x < wr.heap.size) fun x (hk : x < wa.heap.size) => Nat.lt_of_lt_of_le hk hbw.size
      have hkn : k.nodes ≤ 900000000 := by have := Hlen.out.2; have := Hm.out; omega
      have hcall := ih k.nodes hlt' q k wr ga' ca' rfl hkn hka
      have hdd := Fo.deep_le k
      obtain ⟨kd, hkd⟩ : ∃ kd, kd = k.deep + 1 := ⟨_, rfl⟩
      rw [← hkd] at hcall
      have hd3 : (0 : Int) ≤ (d : Int) := by omega
      have hd4 : (0 : Int) ≤ (kd : Int) := by omega
      have Hkd := hid hkd
      have Hd := hid hd
      have Hcall := hid hcall
      have Hr' := hid hr'
      have Hi := hid hi
      have Hn := hid hn
      have Hkk := hid hkk
      have Hbw := hid hbw
      clear hcall hka hr' hi hn hkk c0 c1 hk' hlt' hkn hkd hd hdd hbw
      by_cases hgt : (d : Int) < (kd : Int)
      · go_wp2_with (go_at_call 35; refine Hcall.out.mono ?_; rintro e w2 ⟨rfl, hb2⟩)
        go_roundg r'.len
        case measure => have := Hkk.out; rw [Fo.len] at this; omega
        case rel => exact ⟨i + 1, kd, r', by go_num, rfl, Hr'.out, by have := Hi.out; omega, by have := Hn.out; omega, by have := Hd.out; have := Hkd.out; omega, rfl, belw Hbw.out hb2⟩
      · go_wp2_with (go_at_call 35; refine Hcall.out.mono ?_; rintro e w2 ⟨rfl, hb2⟩)
        go_roundg r'.len
        case measure => have := Hkk.out; rw [Fo.len] at this; omega
        case rel => exact ⟨i + 1, d, r', by go_num, rfl, Hr'.out, by have := Hi.out; omega, by have := Hn.out; omega, by have := Hd.out; have := Hkd.out; omega, rfl, belw Hbw.out hb2⟩
theorem rdeep_calls (m : Nat) : rdeepSays m := by
  induction m using Nat.strongRecOn with
  | ind m ih => exact rdeep_step m ih
def ryieldSays (m : Nat) : Prop := ∀ (p : Int) (kids : Fo) (w : World) (gk : Option Addr) (ck : Nat), kids.nodes = m → kids.nodes ≤ 900000000 → -9223372036854775808 ≤ p → kids.fits → FoAt w (fun k => k < w.heap.size) gk kids 0 →
    Calls Try.prog 33 #[.agg #[.int .i64 p, .slice gk kids.len ck]] w (YieldSaid (Fo.yieldT p kids) w)
def ryieldAt (w0 : World) (ga : Option Addr) (L N : Nat) (ys : List Int) (k : Nat) (v3 v4 : Value) (w : World) : Prop :=
  ∃ (i : Nat) (r : Fo) (zs : List Int), v4 = .int .i64 i ∧ w.ownsRow w0.heap.size 3 1 v3 zs.length (zs.map (Value.int .i64)) ∧ FoAt w0 (fun k => k < w0.heap.size) ga r i ∧ i + r.len = L ∧ r.nodes ≤ N ∧ zs ++ r.yield = ys ∧ k = r.len ∧ zs.length + r.nodes ≤ 900000002 ∧ Below w0.heap.size w0 w ∧ r.fits
set_option maxRecDepth 8000 in
set_option maxHeartbeats 4000000 in
theorem ryield_step (m : Nat) (ih : ∀ m', m' < m → ryieldSays m') : ryieldSays m := by
  intro p kids w gk ck hm hmax hp hfit hat
  have hlen := kids.len_le
  have hk := Bk.new w 50 [.int .i64 p, .slice gk kids.len ck]
  have hb0 := rt_box w p gk kids.len ck
  have hat0 := hat.fwdR hb0
  obtain ⟨wa, hwa⟩ : ∃ wa, wa = (w.alloc (.cells #[.int .i64 p, .slice gk kids.len ck] 50)) := ⟨_, rfl⟩
  obtain ⟨b, hb⟩ : ∃ b, b = w.heap.size := ⟨_, rfl⟩
  rw [← hwa] at hk hb0 hat0
  rw [← hb] at hk
  obtain ⟨L, hL⟩ : ∃ L, L = kids.len := ⟨_, rfl⟩
  rw [← hL] at hk hlen hwa ⊢
  have hlm : (L : Int) ≤ 900000000 := by omega
  have g0 := hk.cell 0
  have g1 := hk.cell 1
  have hbl := hk.lt
  simp only [List.getElem?_cons_zero, List.getElem?_cons_succ] at g0 g1
  have HwL := hid hL
  have Hwa := hid (And.intro hwa hb)
  have Hb0 := hid hb0
  have Hk := hid hk
  have Hm := hid hm
  have Hlen := hid (And.intro hlen hmax)
  clear hwa hb hL hb0 hk hm hlen hmax hat
  by_cases hneg : p < 0
  · have hy : Fo.yieldT p kids = [-1 - p] := by unfold Fo.yieldT; rw [if_pos hneg]
    have hb1 : -9223372036854775808 ≤ -1 - p := by omega
    have hb2 : -1 - p ≤ 9223372036854775807 := by omega
    have hbk := Bk.new wa 3 [.int .i64 (-1 - p)]
    have hbn := bel_al (bel_id wa) (.cells #[.int .i64 (-1 - p)] 3)
    have HY := hid hy
    have Hbk := hid hbk
    have Hbn := hid hbn
    clear hy hbk hbn
    go_enter Try.func33, Try.ntmps33
    go_upto_region 1 with fail
    rw [← Hwa.out.1, ← Hwa.out.2]
    go_wp2_with fail
    go_ret
    rw [HY.out]
    refine ⟨_, _, rfl, ?_, belw Hb0.out Hbn.out⟩
    intro i hi
    have hi0 : i = 0 := by simp at hi; omega
    subst hi0
    exact ⟨_, 0, _, rfl, ⟨Hb0.out.size, by simp⟩, Hbk.out.cell 0, rfl⟩
  have hy : Fo.yieldT p kids = kids.yield := by unfold Fo.yieldT; rw [if_neg hneg]
  have HY := hid hy
  have Hfit := hid hfit
  clear hy hfit
  go_enter Try.func33, Try.ntmps33
  go_upto_region 1 with fail
  rw [← Hwa.out.1, ← Hwa.out.2]
  go_wp2_with fail
  go_loopg [3, 4] L (fun k v3 v4 wr => ryieldAt wa gk L m kids.yield k v3 v4 wr)
  case atStart => exact ⟨0, kids, [], rfl, World.ownsRow_nil _ _ _ _, hat0, by rw [HwL.out]; omega, by rw [Hm.out]; exact Nat.le_refl _, rfl, HwL.out, by have := Hlen.out.2; simp; omega, Below.refl _ _, Hfit.out⟩
  case round =>
    obtain ⟨i, r, zs, rfl, hown, hr, hi, hn, hzs, hkk, hmx, hbw, hf⟩ := hrel
    have hkr := Hk.out.below hbw hbl
    have g0' := hkr.cell 0
    have g1' := hkr.cell 1
    simp only [List.getElem?_cons_zero, List.getElem?_cons_succ] at g0' g1'
    clear hkr
    cases r with
    | nil =>
      simp only [Fo.len, Nat.add_zero, Fo.yield] at hi hzs
      have hge : ¬ (i : Int) < (L : Int) := by omega
      rw [List.append_nil] at hzs
      obtain ⟨gv, cv, rfl, hrow⟩ := own_rowID hown
      have Hrow := hid hrow
      have Hzs := hid hzs
      have Hbw := hid hbw
      clear hrow hzs hown hkk hi hbw
      go_wp2_with fail
      go_ret
      have hs := Hb0.out.size
      exact ⟨gv, cv, by rw [HY.out, ← Hzs.out]; rfl, by rw [HY.out, ← Hzs.out]; exact Hrow.out.mono fun k hk => ⟨Nat.le_trans hs hk.1, hk.2⟩, belw Hb0.out Hbw.out⟩
    | cons q k r' =>
      simp only [Fo.len, Fo.yield] at hi hzs
      try simp only [Fo.nodes] at hn
      unfold FoAt at hr
      obtain ⟨⟨g, off, ga', ca', rfl, hg, c0, c1, hk'⟩, hr'⟩ := hr
      have hlt : (i : Int) < (L : Int) := by omega
      have hi0 : (0 : Int) ≤ (i : Int) := by omega
      have c0' := (hbw.cell (p := ⟨g, _, none⟩) hg).trans c0
      have c1' := (hbw.cell (p := ⟨g, _, none⟩) hg).trans c1
      have hlt' : k.nodes < m := by have := Hm.out; omega
      have hka := (hk'.below hbw (fun _ hk => hk)).mono (D' := fun x => x < wr.heap.size) fun x (hk : x < wa.heap.size) => Nat.lt_of_lt_of_le hk hbw.size
      have hkn : k.nodes ≤ 900000000 := by have := Hlen.out.2; have := Hm.out; omega
      unfold Fo.fits at hf
      have hcall := ih k.nodes hlt' q k wr ga' ca' rfl hkn hf.1 hf.2.1 hka
      simp only [Fo.nodes] at hmx
      have Hzs := hid hzs
      have Hown := hid hown
      have Hmx := hid hmx
      have Hf := hid hf.2.2
      have Hcall := hid hcall
      have Hr' := hid hr'
      have Hi := hid hi
      have Hn := hid hn
      have Hkk := hid hkk
      have Hbw := hid hbw
      clear hcall hka hr' hi hn hkk c0 c1 hk' hlt' hkn hzs hown hmx hf hbw
      go_wp2_with (first
        | (at_builtin; refine wpList_append_run rfl _ _ _ rfl _ (.slice ga2 (Fo.yieldT q k).length cap2) v' w3 (by rfl) (by rfl) (by exact hrun) ?_)
        | (go_at_call 33; refine Hcall.out.mono ?_; rintro e w2 ⟨ga2, cap2, rfl, hrow2, hb2⟩; obtain ⟨v', w3, hrun, hown3, hb3⟩ := app_rows (own_below Hown.out hb2) hrow2 cap2 (by have := Fo.yieldT_le q k; have := Hmx.out; omega) (by have := Hbw.out.size; have := hb2.size; omega); have Hown3 := hid hown3; have Hb3 := hid hb3; have Hb2 := hid hb2; clear hown3 hb3 hb2))
      go_roundg r'.len
      case measure => have := Hkk.out; rw [Fo.len] at this; omega
      case rel =>
        have hyl := Fo.yieldT_le q k
        exact ⟨i + 1, r', zs ++ Fo.yieldT q k, by go_num, Hown3.out, Hr'.out, by have := Hi.out; omega, by have := Hn.out; omega, by rw [List.append_assoc]; exact Hzs.out, rfl, by have := Hmx.out; rw [List.length_append]; omega, (belw Hbw.out Hb2.out).trans Hb3.out, Hf.out⟩
theorem ryield_calls (m : Nat) : ryieldSays m := by
  induction m using Nat.strongRecOn with
  | ind m ih => exact ryield_step m ih
def rleftSays (m : Nat) : Prop := ∀ (p : Int) (kids : Fo) (w : World) (gk : Option Addr) (ck : Nat), kids.nodes = m → kids.nodes ≤ 900000000 → FoAt w (fun k => k < w.heap.size) gk kids 0 →
    Calls Try.prog 37 #[.agg #[.int .i64 p, .slice gk kids.len ck]] w (YieldSaid (Fo.lmT p kids) w)
def rleftAt (w0 : World) (ga : Option Addr) (L N : Nat) (ys : List Int) (k : Nat) (v3 v4 : Value) (w : World) : Prop :=
  ∃ (i : Nat) (r : Fo) (zs : List Int), v4 = .int .i64 i ∧ w.ownsRow w0.heap.size 3 1 v3 zs.length (zs.map (Value.int .i64)) ∧ FoAt w0 (fun k => k < w0.heap.size) ga r i ∧ i + r.len = L ∧ r.nodes ≤ N ∧ zs ++ r.lm = ys ∧ k = r.len ∧ zs.length + r.nodes ≤ 900000002 ∧ Below w0.heap.size w0 w
set_option maxRecDepth 8000 in
set_option maxHeartbeats 4000000 in
theorem rleft_step (m : Nat) (ih : ∀ m', m' < m → rleftSays m') : rleftSays m := by
  intro p kids w gk ck hm hmax hat
  have hlen := kids.len_le
  have hk := Bk.new w 50 [.int .i64 p, .slice gk kids.len ck]
  have hb0 := rt_box w p gk kids.len ck
  have hat0 := hat.fwdR hb0
  obtain ⟨wa, hwa⟩ : ∃ wa, wa = (w.alloc (.cells #[.int .i64 p, .slice gk kids.len ck] 50)) := ⟨_, rfl⟩
  obtain ⟨b, hb⟩ : ∃ b, b = w.heap.size := ⟨_, rfl⟩
  rw [← hwa] at hk hb0 hat0
  rw [← hb] at hk
  obtain ⟨L, hL⟩ : ∃ L, L = kids.len := ⟨_, rfl⟩
  rw [← hL] at hk hlen hwa ⊢
  have hlm : (L : Int) ≤ 900000000 := by omega
  have g0 := hk.cell 0
  have g1 := hk.cell 1
  have hbl := hk.lt
  simp only [List.getElem?_cons_zero, List.getElem?_cons_succ] at g0 g1
  have HwL := hid hL
  have Hwa := hid (And.intro hwa hb)
  have Hb0 := hid hb0
  have Hk := hid hk
  have Hm := hid hm
  have Hlen := hid (And.intro hlen hmax)
  clear hwa hb hL hb0 hk hm hlen hmax hat
  go_enter Try.func37, Try.ntmps37
  go_upto_region 1 with fail
  rw [← Hwa.out.1, ← Hwa.out.2]
  go_upto_if 7 with fail
  go_cut [3] from 5 to 10 (fun v3 wy => ∃ zs : List Int, zs = Fo.own p ∧ wy.ownsRow wa.heap.size 3 1 v3 zs.length (zs.map (Value.int .i64)) ∧ Below wa.heap.size wa wy)
  case first =>
    by_cases hneg : p < 0
    · have hy : Fo.own p = [] := by unfold Fo.own; rw [if_pos hneg]
      have HY := hid hy
      clear hy
      go_wp2_with fail
      go_meet
      exact ⟨[], HY.out.symm, World.ownsRow_nil _ _ _ _, Below.refl _ _⟩
    · have hy : Fo.own p = [p] := by unfold Fo.own; rw [if_neg hneg]
      have hbk := Bk.new wa 3 [.int .i64 p]
      have hbn := bel_al (bel_id wa) (.cells #[.int .i64 p] 3)
      have HY := hid hy
      have Hbk := hid hbk
      have Hbn := hid hbn
      clear hy hbk hbn
      go_wp2_with fail
      go_meet
      exact ⟨[p], HY.out.symm, bk_own Hbk.out (Nat.le_refl _) (by simp) (by simp), Hbn.out⟩
  case rest =>
  obtain ⟨zs0, hz0, hown0, hbc⟩ := hcut
  have hkc := Hk.out.below hbc hbl
  have g0' := hkc.cell 0
  have g1' := hkc.cell 1
  simp only [List.getElem?_cons_zero, List.getElem?_cons_succ] at g0' g1'
  have Hz0 := hid hz0
  have Hown0 := hid hown0
  have Hbc := hid hbc
  clear hz0 hown0 hbc hkc
  go_wp2_with fail
  clear g0' g1'
  go_loopg [3, 4] L (fun k v3 v4 wr => rleftAt wa gk L m (Fo.own p ++ kids.lm) k v3 v4 wr)
  case atStart => exact ⟨0, kids, zs0, rfl, Hown0.out, hat0, by rw [HwL.out]; omega, by rw [Hm.out]; exact Nat.le_refl _, by rw [Hz0.out], HwL.out, by have := Hlen.out.2; have := Fo.own_le p; rw [Hz0.out]; omega, Hbc.out⟩
  case round =>
    obtain ⟨i, r, zs, rfl, hown, hr, hi, hn, hzs, hkk, hmx, hbw⟩ := hrel
    have hkr := Hk.out.below hbw hbl
    have g0' := hkr.cell 0
    have g1' := hkr.cell 1
    simp only [List.getElem?_cons_zero, List.getElem?_cons_succ] at g0' g1'
    clear hkr
    cases r with
    | nil =>
      simp only [Fo.len, Nat.add_zero, Fo.lm] at hi hzs
      have hge : ¬ (i : Int) < (L : Int) := by omega
      rw [List.append_nil] at hzs
      obtain ⟨gv, cv, rfl, hrow⟩ := own_rowID hown
      have Hrow := hid hrow
      have Hzs := hid hzs
      have Hbw := hid hbw
      clear hrow hzs hown hkk hi hbw
      go_wp2_with fail
      go_ret
      have hs := Hb0.out.size
      exact ⟨gv, cv, by rw [show Fo.lmT p kids = Fo.own p ++ kids.lm from rfl, ← Hzs.out]; rfl, by rw [show Fo.lmT p kids = Fo.own p ++ kids.lm from rfl, ← Hzs.out]; exact Hrow.out.mono fun k hk => ⟨Nat.le_trans hs hk.1, hk.2⟩, belw Hb0.out Hbw.out⟩
    | cons q k r' =>
      simp only [Fo.len, Fo.lm] at hi hzs
      try simp only [Fo.nodes] at hn
      unfold FoAt at hr
      obtain ⟨⟨g, off, ga', ca', rfl, hg, c0, c1, hk'⟩, hr'⟩ := hr
      have hlt : (i : Int) < (L : Int) := by omega
      have hi0 : (0 : Int) ≤ (i : Int) := by omega
      have c0' := (hbw.cell (p := ⟨g, _, none⟩) hg).trans c0
      have c1' := (hbw.cell (p := ⟨g, _, none⟩) hg).trans c1
      have hlt' : k.nodes < m := by have := Hm.out; omega
      have hka := (hk'.below hbw (fun _ hk => hk)).mono (D' := fun x => x < wr.heap.size) fun x (hk : x < wa.heap.size) => Nat.lt_of_lt_of_le hk hbw.size
      have hkn : k.nodes ≤ 900000000 := by have := Hlen.out.2; have := Hm.out; omega
      have hcall := ih k.nodes hlt' q k wr ga' ca' rfl hkn hka
      simp only [Fo.nodes] at hmx
      have Hzs := hid hzs
      have Hown := hid hown
      have Hmx := hid hmx
      have Hcall := hid hcall
      have Hr' := hid hr'
      have Hi := hid hi
      have Hn := hid hn
      have Hkk := hid hkk
      have Hbw := hid hbw
      clear hcall hka hr' hi hn hkk c0 c1 hk' hlt' hkn hzs hown hmx hbw
      go_wp2_with (first
        | (at_builtin; refine wpList_append_run rfl _ _ _ rfl _ (.slice ga2 (Fo.lmT q k).length cap2) v' w3 (by rfl) (by rfl) (by exact hrun) ?_)
        | (go_at_call 37; refine Hcall.out.mono ?_; rintro e w2 ⟨ga2, cap2, rfl, hrow2, hb2⟩; obtain ⟨v', w3, hrun, hown3, hb3⟩ := app_rows (own_below Hown.out hb2) hrow2 cap2 (by have := Fo.lmT_le q k; have := Hmx.out; omega) (by have := Hbw.out.size; have := hb2.size; omega); have Hown3 := hid hown3; have Hb3 := hid hb3; have Hb2 := hid hb2; clear hown3 hb3 hb2))
      go_roundg r'.len
      case measure => have := Hkk.out; rw [Fo.len] at this; omega
      case rel =>
        have hyl := Fo.lmT_le q k
        exact ⟨i + 1, r', zs ++ Fo.lmT q k, by go_num, Hown3.out, Hr'.out, by have := Hi.out; omega, by have := Hn.out; omega, by rw [List.append_assoc]; exact Hzs.out, rfl, by have := Hmx.out; rw [List.length_append]; omega, (belw Hbw.out Hb2.out).trans Hb3.out⟩
theorem rleft_calls (m : Nat) : rleftSays m := by
  induction m using Nat.strongRecOn with
  | ind m ih => exact rleft_step m ih
end Go.Proofs.Ytaehooafdbaomaa
