/- cnf.Normal: is a grammar of numbers in normal form? -/
import Derived.Test.YtbpgolmbielpgaaOrd
namespace Go.Proofs.Ytbpgolmbielpgaa
open Go.RowKit
attribute [local go_sem ↓] Go.wp_at_zero Go.wp_at_succ
attribute [local go_sem] frozen_alloc_lt

theorem below0 {a b c : World} (h : Below a.heap.size a b) (k : Below b.heap.size b c) : Below a.heap.size a c := h.trans (k.mono h.size)
namespace Nf
/-- A symbol that may not stand in a right side of this length. -/
def badN (cnt te : Int) (len : Nat) (s : Int) : Bool := decide (cnt ≤ s) || decide (s < -te) || (decide (s < 0) != (len == 1))
def afterO : Option (Int × List Int) → Int × List Int → Bool
  | none, _ => false
  | some q, x => decide (0 ≤ ordP q x)
def normP (cnt te : Int) : Option (Int × List Int) → List (Int × List Int) → Bool
  | _, [] => true
  | p, x :: r => if x.1 < 0 ∨ cnt ≤ x.1 then false else if afterO p x = true then false else if x.2.any (badN cnt te x.2.length) then false else if x.2.length < 1 ∨ 2 < x.2.length then false else normP cnt te (some x) r
def normB (st cnt te : Int) (ps : List (Int × List Int)) : Bool := if st < 0 ∨ cnt ≤ st ∨ te < 0 then false else normP cnt te none ps
end Nf

def prevO (ps : List (Int × List Int)) (i : Nat) : Option (Int × List Int) := if i = 0 then none else ps[i - 1]?
theorem prevO_succ (ps : List (Int × List Int)) (i : Nat) : prevO ps (i + 1) = ps[i]? := by simp [prevO]
def NorAt (wd : World) (cnt te : Int) (ps : List (Int × List Int)) (res : Bool) (k : Nat) (v : Value) (w : World) : Prop :=
  ∃ i : Nat, v = .int .i64 i ∧ i ≤ ps.length ∧ Nf.normP cnt te (prevO ps i) (ps.drop i) = res ∧ k = ps.length - i ∧ Below wd.heap.size wd w
def NorIn (wx : World) (r : List Int) (bad : Int → Bool) (res : Bool) (k : Nat) (v : Value) (w : World) : Prop :=
  ∃ j : Nat, v = .int .i64 j ∧ j ≤ r.length ∧ (r.drop j).any bad = res ∧ k = r.length - j ∧ w = wx

set_option maxHeartbeats 4000000 in
set_option maxRecDepth 8000 in
theorem normal_calls (w : World) (st cnt te : Int) (em : Bool) (gp : Option Addr) (cp : Nat) (ps : List (Int × List Int)) (hp : RowP w w.heap.size gp ps) (h3 : ps.length ≤ 9223372036854775807) (h4 : ∀ x ∈ ps, x.2.length ≤ 9223372036854775807) (hte : te ≤ 9223372036854775807) :
    Calls Try.prog 67 #[.agg #[.int .i64 st, .int .i64 cnt, .int .i64 te, .bool em, .slice gp ps.length cp]] w fun e w' => e = .returned (.bool (Nf.normB st cnt te ps)) ∧ Below w.heap.size w w' := by
  have hk := Bk.new w 28 [.int .i64 st, .int .i64 cnt, .int .i64 te, .bool em, .slice gp ps.length cp]
  have hb0 : Below w.heap.size w (w.alloc (.cells #[.int .i64 st, .int .i64 cnt, .int .i64 te, .bool em, .slice gp ps.length cp] 28)) := (Below.refl _ _).alloc (Nat.le_refl _) _
  obtain ⟨res, hres⟩ : ∃ res, res = Nf.normB st cnt te ps := ⟨_, rfl⟩
  rw [← hres]
  have Hres := hid hres
  have Hp4 := hid h4
  clear hres h4
  go_enter Try.func67, Try.ntmps67
  go_upto_region 1 with fail
  obtain ⟨wd, hwd⟩ : ∃ wd, wd = (w.alloc (.cells #[.int .i64 st, .int .i64 cnt, .int .i64 te, .bool em, .slice gp ps.length cp] 28)) := ⟨_, rfl⟩
  obtain ⟨b, hb⟩ : ∃ b, b = w.heap.size := ⟨_, rfl⟩
  have hp2 := (hp.below hb0).mono hb0.size
  rw [← hwd] at hk hb0 hp2
  rw [← hwd]
  rw [← hb] at hk
  rw [← hb]
  clear hwd hb hp
  have g0 := hk.cell 0
  have g1 := hk.cell 1
  have g2 := hk.cell 2
  have g4 := hk.cell 4
  simp only [List.getElem?_cons_zero, List.getElem?_cons_succ] at g0 g1 g2 g4
  by_cases d1 : st < 0
  · have e := Hres.out
    rw [Nf.normB, if_pos (.inl d1)] at e
    have E := hid e
    clear e
    go_wp2_with fail
    go_ret
    exact ⟨by rw [E.out]; rfl, hb0⟩
  by_cases d2 : cnt ≤ st
  · have e := Hres.out
    rw [Nf.normB, if_pos (.inr (.inl d2))] at e
    have E := hid e
    clear e
    go_wp2_with fail
    go_ret
    exact ⟨by rw [E.out]; rfl, hb0⟩
  by_cases d3 : te < 0
  · have e := Hres.out
    rw [Nf.normB, if_pos (.inr (.inr d3))] at e
    have E := hid e
    clear e
    go_wp2_with fail
    go_ret
    exact ⟨by rw [E.out]; rfl, hb0⟩
  have e := Hres.out
  rw [Nf.normB, if_neg (by simp only [not_or]; exact ⟨d1, d2, d3⟩)] at e
  have E := hid e
  clear e Hres
  go_wp2_with fail
  clear g0 g1 g2 g4
  go_loopg [25] ps.length (fun k v wr => NorAt wd cnt te ps res k v wr)
  case atStart => exact ⟨0, rfl, Nat.zero_le _, by rw [List.drop_zero]; exact E.out.symm, rfl, Below.refl _ _⟩
  case round =>
    obtain ⟨i, rfl, hi, hps, hk', hbr⟩ := hrel
    have Hk := hid hk'
    clear hk'
    have hbkr := hk.below hbr hk.lt
    have hpr := (hp2.below hbr).mono hbr.size
    have hbwr : Below w.heap.size w wr := hb0.trans (hbr.mono hb0.size)
    have g1 := hbkr.cell 1
    have g2 := hbkr.cell 2
    have g4 := hbkr.cell 4
    simp only [List.getElem?_cons_zero, List.getElem?_cons_succ] at g1 g2 g4
    by_cases hlt : i < ps.length
    · have hlt' : (i : Int) < (ps.length : Int) := by omega
      have hi0 : (0 : Int) ≤ (i : Int) := by omega
      obtain ⟨x, hx⟩ : ∃ x, x = ps[i] := ⟨_, rfl⟩
      have hxi : ps[i]? = some x := by rw [hx]; exact List.getElem?_eq_getElem hlt
      have hrl := Hp4.out x (by rw [hx]; exact List.getElem_mem hlt)
      rw [List.drop_eq_getElem_cons hlt, ← hx, Nf.normP] at hps
      obtain ⟨l, r⟩ := x
      simp only at hps hrl
      obtain ⟨g, off, gr, cr, rfl, hg, hc0, hc1, hri⟩ := hpr i _ hxi
      simp only at hc0 hc1 hri
      have Hxi := hid hxi
      have Hps := hid hps
      clear hx hxi hps
      have hbx : Below wr.heap.size wr (wr.alloc (.cells #[.int .i64 l, .slice gr r.length cr] 35)) := (Below.refl _ _).alloc (Nat.le_refl _) _
      have hxk : Bk (wr.alloc (.cells #[.int .i64 l, .slice gr r.length cr] 35)) wr.heap.size 35 [.int .i64 l, .slice gr r.length cr] := Bk.new wr _ _
      go_upto_region 6 with fail
      obtain ⟨wx, hwx⟩ : ∃ wx, wx = (wr.alloc (.cells #[.int .i64 l, .slice gr r.length cr] 35)) := ⟨_, rfl⟩
      obtain ⟨c, hcc⟩ : ∃ c, c = wr.heap.size := ⟨_, rfl⟩
      rw [← hwx] at hbx hxk ⊢
      rw [← hcc] at hxk ⊢
      clear hcc hwx
      have c0 := hxk.cell 0
      have c1 := hxk.cell 1
      have kx := hbkr.below hbx hbkr.lt
      have g1' := kx.cell 1
      have g4' := kx.cell 4
      simp only [List.getElem?_cons_zero, List.getElem?_cons_succ] at c0 c1 g1' g4'
      have hbwx : Below w.heap.size w wx := hbwr.trans (hbx.mono hbwr.size)
      clear g1 g2 g4 kx
      have hps := Hps.out
      clear Hps
      by_cases e1 : l < 0
      · rw [if_pos (.inl e1)] at hps
        have Hr := hid hps
        clear hps
        go_quiet (fail)
        go_wp2_with fail
        go_ret
        exact ⟨by rw [← Hr.out]; rfl, below_drewN hbwx _⟩
      by_cases e2 : cnt ≤ l
      · rw [if_pos (.inr e2)] at hps
        have Hr := hid hps
        clear hps
        go_quiet (fail)
        go_wp2_with fail
        go_ret
        exact ⟨by rw [← Hr.out]; rfl, below_drewN hbwx _⟩
      rw [if_neg (by simp only [not_or]; exact ⟨e1, e2⟩)] at hps
      have e1b : decide (l < 0) = false := by simp; omega
      have e2b : decide (cnt ≤ l) = false := by simp; omega
      by_cases hiz : i = 0
      · subst hiz
        rw [show prevO ps 0 = none from rfl, Nf.afterO, if_neg (by simp)] at hps
        have Hps := hid hps
        clear hps
        go_quiet (fail)
        have hps := Hps.out
        clear Hps hbwx c0 c1 g1' g4'
        obtain ⟨wz, hwz⟩ : ∃ wz, wz = wx.drewN nq := ⟨_, rfl⟩
        have hbz : Below wx.heap.size wx wz := by rw [hwz]; exact below_drewN (Below.refl _ _) _
        rw [← hwz]
        clear hwz
        have kz := hbkr.below (below0 hbx hbz) hbkr.lt
        have xz := hxk.below hbz hxk.lt
        have z1 := kz.cell 1
        have z2 := kz.cell 2
        have y1 := xz.cell 1
        simp only [List.getElem?_cons_zero, List.getElem?_cons_succ] at z1 z2 y1
        have hrz := (hri.below (below0 hbx hbz)).mono (Nat.le_trans hbx.size hbz.size)
        have hbwz : Below w.heap.size w wz := hbwr.trans ((below0 hbx hbz).mono hbwr.size)
        have hbdz : Below wd.heap.size wd wz := hbr.trans ((below0 hbx hbz).mono hbr.size)
        obtain ⟨bad, hbad⟩ : ∃ bad, bad = Nf.badN cnt te r.length := ⟨_, rfl⟩
        obtain ⟨an, han⟩ : ∃ an, an = r.any bad := ⟨_, rfl⟩
        rw [← hbad, ← han] at hps
        have Hps2 := hid hps
        have Hbad := hid hbad
        have Han := hid han
        clear hps hbad han hbkr hxk hbx hbz kz xz hri hbr hbwr
        go_wp2_with fail
        go_loopg [58] r.length (fun k v wq => NorIn wz r bad an k v wq)
        case atStart => exact ⟨0, rfl, Nat.zero_le _, by rw [List.drop_zero]; exact Han.out.symm, rfl, rfl⟩
        case round =>
          obtain ⟨j, rfl, hj, hany, hk2, rfl⟩ := hrel
          have Hk2 := hid hk2
          clear hk2
          by_cases hlj : j < r.length
          · have hlj' : (j : Int) < (r.length : Int) := by omega
            have hj0 : (0 : Int) ≤ (j : Int) := by omega
            obtain ⟨s, hs⟩ : ∃ s, s = r[j] := ⟨_, rfl⟩
            rw [List.drop_eq_getElem_cons hlj, ← hs, List.any_cons, Hbad.out, Nf.badN, ← Hbad.out] at hany
            obtain ⟨gs, os, rfl, hgs, hcs⟩ := hrz.at hlj
            rw [← hs] at hcs
            have Hany := hid hany
            clear hany hs hgs
            by_cases b1 : cnt ≤ s
            · have ha : an = true := by rw [← Hany.out]; simp [b1]
              have hr := Hps2.out
              rw [ha, if_pos rfl] at hr
              have Hr := hid hr
              clear hr ha
              go_wp2_with fail
              go_ret
              exact ⟨by rw [← Hr.out]; rfl, hbwz⟩
            by_cases b2 : s < -te
            · have ha : an = true := by rw [← Hany.out]; simp [b2]
              have hr := Hps2.out
              rw [ha, if_pos rfl] at hr
              have Hr := hid hr
              clear hr ha
              go_wp2_with fail
              go_ret
              exact ⟨by rw [← Hr.out]; rfl, hbwz⟩
            have hb1 : decide (cnt ≤ s) = false := by simp; omega
            have hb2 : decide (s < -te) = false := by simp; omega
            obtain ⟨u, hu⟩ : ∃ u, u = decide (s < 0) := ⟨_, rfl⟩
            obtain ⟨v, hv⟩ : ∃ v, v = ((r.length : Int) == 1) := ⟨_, rfl⟩
            have hv2 : (r.length == 1) = v := by rw [hv, Bool.eq_iff_iff]; simp; omega
            have ha := Hany.out
            rw [hb1, hb2, ← hu, hv2] at ha
            by_cases huv : u = v
            · subst huv
              have ha2 : (r.drop (j + 1)).any bad = an := by rw [← ha]; simp
              have Ha := hid ha2
              have hu' := hu.symm
              have hv' := hv.symm
              clear ha ha2 hv2 hu hv
              cases u with
              | true =>
                have hs0 : s < 0 := by simpa using hu'
                go_wp2_with fail
                go_roundg (r.length - (j + 1))
                case measure => have hk := Hk2.out; omega
                case rel => exact ⟨j + 1, by go_num, by omega, Ha.out, rfl, rfl⟩
              | false =>
                have hs0 : ¬ s < 0 := by simpa using hu'
                go_wp2_with fail
                go_roundg (r.length - (j + 1))
                case measure => have hk := Hk2.out; omega
                case rel => exact ⟨j + 1, by go_num, by omega, Ha.out, rfl, rfl⟩
            · have ha2 : an = true := by rw [← ha]; cases u <;> cases v <;> simp at huv ⊢
              have hr := Hps2.out
              rw [ha2, if_pos rfl] at hr
              have Hr := hid hr
              have hu' := hu.symm
              have hv' := hv.symm
              clear hr ha ha2 hv2 hu hv
              cases u with
              | true =>
                cases v with
                | true => exact absurd rfl huv
                | false =>
                  go_wp2_with fail
                  go_ret
                  exact ⟨by rw [← Hr.out]; rfl, hbwz⟩
              | false =>
                cases v with
                | false => exact absurd rfl huv
                | true =>
                  go_wp2_with fail
                  go_ret
                  exact ⟨by rw [← Hr.out]; rfl, hbwz⟩
          · have hge : ¬ (j : Int) < (r.length : Int) := by omega
            rw [List.drop_eq_nil_of_le (by omega), List.any_nil] at hany
            have hr := Hps2.out
            rw [← hany, if_neg (by simp)] at hr
            clear hany
            by_cases l1 : r.length < 1
            · have l1' : (r.length : Int) < 1 := by omega
              rw [if_pos (.inl l1)] at hr
              have Hr := hid hr
              clear hr
              go_wp2_with fail
              go_ret
              exact ⟨by rw [← Hr.out]; rfl, hbwz⟩
            by_cases l2 : 2 < r.length
            · have l1' : ¬ (r.length : Int) < 1 := by omega
              have l2' : (2 : Int) < (r.length : Int) := by omega
              rw [if_pos (.inr l2)] at hr
              have Hr := hid hr
              clear hr
              go_wp2_with fail
              go_ret
              exact ⟨by rw [← Hr.out]; rfl, hbwz⟩
            have l1' : ¬ (r.length : Int) < 1 := by omega
            have l2' : ¬ (2 : Int) < (r.length : Int) := by omega
            rw [if_neg (by simp only [not_or]; exact ⟨l1, l2⟩)] at hr
            have Hr := hid hr
            clear hr
            go_wp2_with fail
            go_roundg (ps.length - (0 + 1))
            case measure => have hk := Hk.out; omega
            case rel => exact ⟨0 + 1, by go_num, by omega, by rw [prevO_succ, Hxi.out]; first | exact Hr.out | (rw [Hij.out]; exact Hr.out), rfl, hbdz⟩

      · obtain ⟨j0, hij⟩ : ∃ j0, i = j0 + 1 := ⟨i - 1, by omega⟩
        have hwr : IntKind.i64.wrap ((i : Int) - 1) = (j0 : Int) := by rw [IntKind.wrap_i64] <;> omega
        have hip : (0 : Int) < (i : Int) := by omega
        have hipd : decide (0 < i) = true := by simp; omega
        have hj0 : (0 : Int) ≤ (j0 : Int) := by omega
        have hj1 : j0 < ps.length := by omega
        have hji : (j0 : Int) < (ps.length : Int) := by omega
        obtain ⟨y, hy⟩ : ∃ y, y = ps[j0] := ⟨_, rfl⟩
        have hyj : ps[j0]? = some y := by rw [hy]; exact List.getElem?_eq_getElem hj1
        have hyl := Hp4.out y (by rw [hy]; exact List.getElem_mem hj1)
        rw [hij, prevO_succ, hyj, Nf.afterO] at hps
        have Hij := hid hij
        obtain ⟨l', r'⟩ := y
        simp only at hyl
        obtain ⟨g', off', gr', cr', e3, hg', hy0, hy1, hri'⟩ := hpr j0 _ hyj
        simp only [Option.some.injEq, Addr.mk.injEq] at e3
        obtain ⟨rfl, rfl, -⟩ := e3
        simp only at hy0 hy1 hri'
        obtain ⟨o, ho⟩ : ∃ o, o = ordP (l', r') (l, r) := ⟨_, rfl⟩
        rw [← ho] at hps
        have hdr : Below wx.heap.size wx wx.drew := below_drewN (Below.refl _ _) 1
        have hS : ∀ W, Below wx.heap.size wx W → W.cell? ⟨b, 1, none⟩ = some (.int .i64 cnt) ∧ W.cell? ⟨b, 4, none⟩ = some (.slice (some ⟨g, off, none⟩) ps.length cp) ∧ W.cell? ⟨c, 0, none⟩ = some (.int .i64 l) ∧ W.cell? ⟨c, 1, none⟩ = some (.slice gr r.length cr) ∧ W.cell? ⟨g, off + j0 * 2, none⟩ = some (.int .i64 l') ∧ W.cell? ⟨g, off + j0 * 2 + 1, none⟩ = some (.slice gr' r'.length cr') := fun W h => by
          have k1 := hbkr.below (below0 hbx h) hbkr.lt
          have k2 := hxk.below h hxk.lt
          exact ⟨k1.cell 1, k1.cell 4, k2.cell 0, k2.cell 1, ((below0 hbx h).cell (p := ⟨g, off + j0 * 2, none⟩) hg').trans hy0, ((below0 hbx h).cell (p := ⟨g, off + j0 * 2 + 1, none⟩) hg').trans hy1⟩
        obtain ⟨f1, f2, f3, f4, f5, f6⟩ := hS wx.drew hdr
        have hra : RowI wx.drew wx.drew.heap.size gr' r' := (hri'.below hbx).mono hbx.size
        have hrb : RowI wx.drew wx.drew.heap.size gr r := (hri.below hbx).mono hbx.size
        have Hra := hid hra
        have Hrb := hid hrb
        have HS := hid hS
        have Hdr := hid hdr
        have Ho := hid ho
        have Hps := hid hps
        clear hij hiz hps hy hyj hy0 hy1 hri' hS hra hrb hdr ho c0 c1 g1' g4' hc0 hc1
        by_cases ho2 : 0 ≤ o
        · have ho3 : decide (0 ≤ o) = true := by simp [ho2]
          go_region_held3 (fun w' => w'.cell? ⟨b, 1, none⟩ = some (.int .i64 cnt) ∧ w'.cell? ⟨b, 4, none⟩ = some (.slice (some ⟨g, off, none⟩) ps.length cp) ∧ w'.cell? ⟨c, 0, none⟩ = some (.int .i64 l) ∧ w'.cell? ⟨c, 1, none⟩ = some (.slice gr r.length cr) ∧ w'.cell? ⟨g, off + j0 * 2, none⟩ = some (.int .i64 l') ∧ w'.cell? ⟨g, off + j0 * 2 + 1, none⟩ = some (.slice gr' r'.length cr'))
            (first | exact ⟨‹_›, ‹_›, ‹_›, ‹_›, ‹_›, ‹_›⟩)
            (first | (go_at_call 89; refine (order_calls _ l' l gr' gr cr' cr r' r Hra.out Hrb.out hyl hrl).mono ?_; rintro e wz ⟨rfl, hbz0⟩; rw [← Ho.out]; obtain ⟨z1, z2, z3, z4, z5, z6⟩ := HS.out wz (Hdr.out.trans hbz0)))
          have hr := Hps.out
          rw [if_pos ho3] at hr
          have Hr := hid hr
          clear hr
          go_wp2_with fail
          go_ret
          exact ⟨by rw [← Hr.out]; rfl, hbwx.trans ((Hdr.out.trans hbz0).mono hbwx.size)⟩
        · have ho3 : decide (0 ≤ o) = false := by simp; omega
          go_region_held3 (fun w' => w'.cell? ⟨b, 1, none⟩ = some (.int .i64 cnt) ∧ w'.cell? ⟨b, 4, none⟩ = some (.slice (some ⟨g, off, none⟩) ps.length cp) ∧ w'.cell? ⟨c, 0, none⟩ = some (.int .i64 l) ∧ w'.cell? ⟨c, 1, none⟩ = some (.slice gr r.length cr) ∧ w'.cell? ⟨g, off + j0 * 2, none⟩ = some (.int .i64 l') ∧ w'.cell? ⟨g, off + j0 * 2 + 1, none⟩ = some (.slice gr' r'.length cr'))
            (first | exact ⟨‹_›, ‹_›, ‹_›, ‹_›, ‹_›, ‹_›⟩)
            (first | (go_at_call 89; refine (order_calls _ l' l gr' gr cr' cr r' r Hra.out Hrb.out hyl hrl).mono ?_; rintro e wz ⟨rfl, hbz0⟩; rw [← Ho.out]; obtain ⟨z1, z2, z3, z4, z5, z6⟩ := HS.out wz (Hdr.out.trans hbz0)))
          have hps := Hps.out
          rw [if_neg (by rw [ho3]; simp)] at hps
          have hbz : Below wx.heap.size wx wz := Hdr.out.trans hbz0
          clear Hps hbwx f1 f2 f3 f4 f5 f6 z1 z2 z3 z4 z5 z6 hbz0 Hra Hrb HS Hdr Ho ho2 ho3
          have kz := hbkr.below (below0 hbx hbz) hbkr.lt
          have xz := hxk.below hbz hxk.lt
          have z1 := kz.cell 1
          have z2 := kz.cell 2
          have y1 := xz.cell 1
          simp only [List.getElem?_cons_zero, List.getElem?_cons_succ] at z1 z2 y1
          have hrz := (hri.below (below0 hbx hbz)).mono (Nat.le_trans hbx.size hbz.size)
          have hbwz : Below w.heap.size w wz := hbwr.trans ((below0 hbx hbz).mono hbwr.size)
          have hbdz : Below wd.heap.size wd wz := hbr.trans ((below0 hbx hbz).mono hbr.size)
          obtain ⟨bad, hbad⟩ : ∃ bad, bad = Nf.badN cnt te r.length := ⟨_, rfl⟩
          obtain ⟨an, han⟩ : ∃ an, an = r.any bad := ⟨_, rfl⟩
          rw [← hbad, ← han] at hps
          have Hps2 := hid hps
          have Hbad := hid hbad
          have Han := hid han
          clear hps hbad han hbkr hxk hbx hbz kz xz hri hbr hbwr
          go_wp2_with fail
          go_loopg [58] r.length (fun k v wq => NorIn wz r bad an k v wq)
          case atStart => exact ⟨0, rfl, Nat.zero_le _, by rw [List.drop_zero]; exact Han.out.symm, rfl, rfl⟩
          case round =>
            obtain ⟨j, rfl, hj, hany, hk2, rfl⟩ := hrel
            have Hk2 := hid hk2
            clear hk2
            by_cases hlj : j < r.length
            · have hlj' : (j : Int) < (r.length : Int) := by omega
              have hj0 : (0 : Int) ≤ (j : Int) := by omega
              obtain ⟨s, hs⟩ : ∃ s, s = r[j] := ⟨_, rfl⟩
              rw [List.drop_eq_getElem_cons hlj, ← hs, List.any_cons, Hbad.out, Nf.badN, ← Hbad.out] at hany
              obtain ⟨gs, os, rfl, hgs, hcs⟩ := hrz.at hlj
              rw [← hs] at hcs
              have Hany := hid hany
              clear hany hs hgs
              by_cases b1 : cnt ≤ s
              · have ha : an = true := by rw [← Hany.out]; simp [b1]
                have hr := Hps2.out
                rw [ha, if_pos rfl] at hr
                have Hr := hid hr
                clear hr ha
                go_wp2_with fail
                go_ret
                exact ⟨by rw [← Hr.out]; rfl, hbwz⟩
              by_cases b2 : s < -te
              · have ha : an = true := by rw [← Hany.out]; simp [b2]
                have hr := Hps2.out
                rw [ha, if_pos rfl] at hr
                have Hr := hid hr
                clear hr ha
                go_wp2_with fail
                go_ret
                exact ⟨by rw [← Hr.out]; rfl, hbwz⟩
              have hb1 : decide (cnt ≤ s) = false := by simp; omega
              have hb2 : decide (s < -te) = false := by simp; omega
              obtain ⟨u, hu⟩ : ∃ u, u = decide (s < 0) := ⟨_, rfl⟩
              obtain ⟨v, hv⟩ : ∃ v, v = ((r.length : Int) == 1) := ⟨_, rfl⟩
              have hv2 : (r.length == 1) = v := by rw [hv, Bool.eq_iff_iff]; simp; omega
              have ha := Hany.out
              rw [hb1, hb2, ← hu, hv2] at ha
              by_cases huv : u = v
              · subst huv
                have ha2 : (r.drop (j + 1)).any bad = an := by rw [← ha]; simp
                have Ha := hid ha2
                have hu' := hu.symm
                have hv' := hv.symm
                clear ha ha2 hv2 hu hv
                cases u with
                | true =>
                  have hs0 : s < 0 := by simpa using hu'
                  go_wp2_with fail
                  go_roundg (r.length - (j + 1))
                  case measure => have hk := Hk2.out; omega
                  case rel => exact ⟨j + 1, by go_num, by omega, Ha.out, rfl, rfl⟩
                | false =>
                  have hs0 : ¬ s < 0 := by simpa using hu'
                  go_wp2_with fail
                  go_roundg (r.length - (j + 1))
                  case measure => have hk := Hk2.out; omega
                  case rel => exact ⟨j + 1, by go_num, by omega, Ha.out, rfl, rfl⟩
              · have ha2 : an = true := by rw [← ha]; cases u <;> cases v <;> simp at huv ⊢
                have hr := Hps2.out
                rw [ha2, if_pos rfl] at hr
                have Hr := hid hr
                have hu' := hu.symm
                have hv' := hv.symm
                clear hr ha ha2 hv2 hu hv
                cases u with
                | true =>
                  cases v with
                  | true => exact absurd rfl huv
                  | false =>
                    go_wp2_with fail
                    go_ret
                    exact ⟨by rw [← Hr.out]; rfl, hbwz⟩
                | false =>
                  cases v with
                  | false => exact absurd rfl huv
                  | true =>
                    go_wp2_with fail
                    go_ret
                    exact ⟨by rw [← Hr.out]; rfl, hbwz⟩
            · have hge : ¬ (j : Int) < (r.length : Int) := by omega
              rw [List.drop_eq_nil_of_le (by omega), List.any_nil] at hany
              have hr := Hps2.out
              rw [← hany, if_neg (by simp)] at hr
              clear hany
              by_cases l1 : r.length < 1
              · have l1' : (r.length : Int) < 1 := by omega
                rw [if_pos (.inl l1)] at hr
                have Hr := hid hr
                clear hr
                go_wp2_with fail
                go_ret
                exact ⟨by rw [← Hr.out]; rfl, hbwz⟩
              by_cases l2 : 2 < r.length
              · have l1' : ¬ (r.length : Int) < 1 := by omega
                have l2' : (2 : Int) < (r.length : Int) := by omega
                rw [if_pos (.inr l2)] at hr
                have Hr := hid hr
                clear hr
                go_wp2_with fail
                go_ret
                exact ⟨by rw [← Hr.out]; rfl, hbwz⟩
              have l1' : ¬ (r.length : Int) < 1 := by omega
              have l2' : ¬ (2 : Int) < (r.length : Int) := by omega
              rw [if_neg (by simp only [not_or]; exact ⟨l1, l2⟩)] at hr
              have Hr := hid hr
              clear hr
              go_wp2_with fail
              go_roundg (ps.length - (i + 1))
              case measure => have hk := Hk.out; omega
              case rel => exact ⟨i + 1, by go_num, by omega, by rw [prevO_succ, Hxi.out]; first | exact Hr.out | (rw [Hij.out]; exact Hr.out), rfl, hbdz⟩


    · have hge : ¬ (i : Int) < (ps.length : Int) := by omega
      rw [List.drop_eq_nil_of_le (by omega), Nf.normP] at hps
      have Hps := hid hps
      clear hps
      go_wp2_with fail
      go_ret
      exact ⟨by rw [← Hps.out]; rfl, hbwr⟩
end Go.Proofs.Ytbpgolmbielpgaa
