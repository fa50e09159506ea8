/- Chapter 14 (tree): Check of any tree. -/
import Derived.Test.YtaehooafdbaomaaTreeA
namespace Go.Proofs.Ytaehooafdbaomaa
open Go.RowKit
attribute [local go_sem ↓] Go.wp_at_zero Go.wp_at_succ
attribute [local go_sem] frozen_alloc_lt

namespace Tr
def thereB (G : Gr) (p : Int) : Bool := decide (p < (G.prods.length : Int)) && decide (-(G.terms.length : Int) ≤ p)
def rootS (G : Gr) (p : Int) : Int := if p < 0 then p else (G.prods.getD p.toNat (0, [])).1
def rightS (G : Gr) (p : Int) : List Int := if p < 0 then [] else (G.prods.getD p.toNat (0, [])).2
/-- Pairwise, as long as both last. -/
def all2 (g : Int → Int → Fo → Bool) : List Int → Fo → Bool
  | _, .nil => true
  | [], .cons _ _ _ => true
  | s :: ys, .cons p k r => g s p k && all2 g ys r
def eqS (g : Int → Int → Fo → Bool) (xs : List Int) (f : Fo) : Bool := decide (xs.length = f.len) && all2 g xs f
def chkF (G : Gr) : List Int → Fo → Bool
  | _, .nil => true
  | [], .cons _ _ _ => true
  | s :: ys, .cons p k r => ((thereB G p && (decide ((rightS G p).length = k.len) && chkF G (rightS G p) k)) && (rootS G p == s)) && chkF G ys r
def chkT (G : Gr) (p : Int) (k : Fo) : Bool := thereB G p && (decide ((rightS G p).length = k.len) && chkF G (rightS G p) k)
def chkG (G : Gr) (s p : Int) (k : Fo) : Bool := chkT G p k && (rootS G p == s)
theorem all2_chk (G : Gr) : ∀ (f : Fo) (xs : List Int), all2 (chkG G) xs f = chkF G xs f
  | .nil, xs => by cases xs <;> rfl
  | .cons p k r, [] => rfl
  | .cons p k r, s :: ys => by
    rw [all2, all2_chk G r ys, chkF]
    rfl
end Tr

def EqAt (w0 : World) (gk : Option Addr) (g : Int → Int → Fo → Bool) (xs : List Int) (res : Bool) (N k : Nat) (v17 : Value) (w : World) : Prop :=
  ∃ (i : Nat) (r : Fo), v17 = .int .i64 i ∧ i + r.len = xs.length ∧ r.nodes ≤ N ∧ FoAt w0 (fun k => k < w0.heap.size) gk r i ∧ Tr.all2 g (xs.drop i) r = res ∧ k = r.len ∧ Below w0.heap.size w0 w
set_option maxHeartbeats 2000000 in
theorem equalFunc_calls (w : World) (ga gk : Option Addr) (ca ck : Nat) (xs : List Int) (kids : Fo) (F : Nat) (c : Value) (g : Int → Int → Fo → Bool) (hr : RowI w w.heap.size ga xs) (hl : xs.length ≤ 9223372036854775807) (_hl2 : kids.len ≤ 9223372036854775807) (hat : FoAt w (fun k => k < w.heap.size) gk kids 0)
    (eg : ∀ args w, (callFunc F args).run Try.prog w = .ok (.enter F args) w)
    (hp : ∀ (wy : World) (s p : Int) (k : Fo) (gk' : Option Addr) (ck' : Nat), Below w.heap.size w wy → 1 + k.nodes ≤ kids.nodes → FoAt wy (fun k => k < wy.heap.size) gk' k 0 → Calls Try.prog F #[.int .i64 s, .agg #[.int .i64 p, .slice gk' k.len ck'], c] wy fun e w' => e = .returned (.bool (g s p k)) ∧ Below wy.heap.size wy w') :
    Calls Try.prog 112 #[.slice ga xs.length ca, .slice gk kids.len ck, .func (.func F) #[] #[c]] w fun e w' => e = .returned (.bool (Tr.eqS g xs kids)) ∧ Below w.heap.size w w' := by
  have Hp := hid hp
  have Heg := hid eg
  clear hp eg
  by_cases hne : xs.length = kids.len
  · have he : Tr.eqS g xs kids = Tr.all2 g xs kids := by unfold Tr.eqS; rw [decide_eq_true hne]; rfl
    rw [he]
    clear he
    obtain ⟨res, hres⟩ : ∃ res, res = Tr.all2 g xs kids := ⟨_, rfl⟩
    rw [← hres]
    have Hres := hid hres
    have Hne := hid hne
    have hneb : ((xs.length : Int) != (kids.len : Int)) = false := by simp [hne]
    have hneb2 : (xs.length != kids.len) = false := by simp [hne]
    obtain ⟨L, hL⟩ : ∃ L, L = kids.len := ⟨_, rfl⟩
    obtain ⟨M, hM⟩ : ∃ M, M = xs.length := ⟨_, rfl⟩
    have HM := hid hM
    have HL := hid hL
    have Heg2 := Heg.out
    rw [← hL, ← hM] at hneb hneb2
    rw [← hL, ← hM]
    rw [← hM] at hl
    clear hne hres hL hM
    go_enter Try.func112, Try.ntmps112
    go_wp2_with fail
    go_loopg [17] M (fun k v17 wr => EqAt w gk g xs res kids.nodes k v17 wr)
    case atStart => exact ⟨0, kids, rfl, by rw [Nat.zero_add]; exact Hne.out.symm, Nat.le_refl _, hat, by rw [List.drop_zero]; exact Hres.out.symm, by rw [HM.out]; exact Hne.out, Below.refl _ _⟩
    case round =>
      obtain ⟨i, r, rfl, hi, hnd, hat2, hx, hk, hb⟩ := hrel
      have Hk := hid hk
      have Hb := hid hb
      have Hi := hid hi
      clear hk hi
      cases r with
      | nil =>
        have hge : ¬ (i : Int) < (M : Int) := by have h1 := Hi.out; have h2 := HM.out; simp only [Fo.len] at h1; omega
        have hx2 : res = true := by rw [← hx]; cases xs.drop i <;> rfl
        have Hx := hid hx2
        clear hx hx2
        go_wp2_with fail
        go_ret
        rw [Hx.out]
        exact ⟨rfl, Hb.out⟩
      | cons p k r' =>
        have hlt : i < xs.length := by have := Hi.out; simp only [Fo.len] at this; omega
        have hlt' : (i : Int) < (M : Int) := by have := HM.out; omega
        have hltL : (i : Int) < (L : Int) := by have := HL.out; have := Hne.out; omega
        have hi0 : (0 : Int) ≤ (i : Int) := by omega
        obtain ⟨g1, o1, rfl, hg1, hc1⟩ := hr.at hlt
        obtain ⟨s, hs⟩ : ∃ s, s = xs[i] := ⟨_, rfl⟩
        rw [← hs] at hc1
        have hx2 : (g s p k && Tr.all2 g (xs.drop (i + 1)) r') = res := by rw [← hx, List.drop_eq_getElem_cons hlt, hs]; rfl
        unfold FoAt at hat2
        obtain ⟨⟨g2, o2, gk2, ck2, rfl, hg2, e0, e1, hk2⟩, hat3⟩ := hat2
        have c1 := (Hb.out.cell (p := ⟨g1, _, none⟩) hg1).trans hc1
        have d0 := (Hb.out.cell (p := ⟨g2, _, none⟩) hg2).trans e0
        have d1 := (Hb.out.cell (p := ⟨g2, _, none⟩) hg2).trans e1
        simp only [Fo.nodes] at hnd
        have hal : Below wr.heap.size wr (wr.alloc (.cells #[.int .i64 p, .slice gk2 k.len ck2] 45)) := bel_al (bel_id wr) _
        have hk3 := ((hk2.below Hb.out (fun _ h => h)).mono (D' := fun x => x < wr.heap.size) (fun x hx => Nat.lt_of_lt_of_le hx Hb.out.size))
        have hk4 := ((hk3.below hal (fun _ h => h)).mono (D' := fun x => x < (wr.alloc (.cells #[.int .i64 p, .slice gk2 k.len ck2] 45)).heap.size) (fun x hx => Nat.lt_of_lt_of_le hx hal.size))
        have hpc := Hp.out _ s p k gk2 ck2 (belw Hb.out hal) (by omega) hk4
        have Hpc := hid hpc
        have Hal := hid hal
        have Hat3 := hid hat3
        have hnd2 : r'.nodes ≤ kids.nodes := by omega
        have Hnd := hid hnd2
        clear hx hs hc1 e0 e1 hk2 hat3 hk3 hk4 hpc hal hnd hnd2 hb
        cases hg : g s p k with
        | false =>
          rw [hg] at hx2 Hpc
          have Hx := hid hx2
          clear hx2 hg
          go_wp2_with ((with_reducible refine (Hid.out Hpc).mono ?_); rintro e w2 ⟨rfl, hb2⟩)
          go_ret
          rw [← Hx.out]
          exact ⟨rfl, belw Hb.out (belw Hal.out hb2)⟩
        | true =>
          rw [hg] at hx2 Hpc
          have Hx := hid hx2
          clear hx2 hg
          go_wp2_with ((with_reducible refine (Hid.out Hpc).mono ?_); rintro e w2 ⟨rfl, hb2⟩)
          go_roundg r'.len
          case measure => have hk := Hk.out; simp only [Fo.len] at hk; omega
          case rel => exact ⟨i + 1, r', by go_num, by have := Hi.out; simp only [Fo.len] at this; omega, Hnd.out, Hat3.out, Hx.out, rfl, belw Hb.out (belw Hal.out hb2)⟩
  · have he : Tr.eqS g xs kids = false := by unfold Tr.eqS; rw [decide_eq_false hne]; rfl
    rw [he]
    have hneb : ((xs.length : Int) != (kids.len : Int)) = true := by simp; omega
    have hneb2 : (xs.length != kids.len) = true := by simp [hne]
    clear he hne
    go_enter Try.func112, Try.ntmps112
    go_wp2_with fail
    go_ret
    exact ⟨rfl, Below.refl _ _⟩

/-- What there, right, root and check stand on. -/
structure ChIn (w : World) (G : Gr) (gn gt gp : Option Addr) : Prop where
  g : GIn w G gn gt gp
  h2 : G.terms.length ≤ 1000000
  h3 : G.prods.length ≤ 1000000
  h4 : ∀ x ∈ G.prods, x.2.length ≤ 1000000
theorem ChIn.later {w w' : World} {G : Gr} {gn gt gp : Option Addr} (h : ChIn w G gn gt gp) (hb : Below w.heap.size w w') : ChIn w' G gn gt gp := ⟨h.g.later hb, h.h2, h.h3, h.h4⟩
def RightSaid (w : World) (xs : List Int) (e : Ending) (w' : World) : Prop := ∃ ga ca, e = .returned (.slice ga xs.length ca) ∧ RowI w w.heap.size ga xs ∧ Below w.heap.size w w'
section
variable (w : World) (G : Gr) (gn gt gp : Option Addr) (cn ct cp : Nat) (h : ChIn w G gn gt gp)
include h
set_option maxHeartbeats 1000000 in
theorem there_calls (p : Int) : Calls Try.prog 108 #[.agg #[.int .i64 G.start, .int .i64 G.rules, .slice gn G.names.length cn, .slice gt G.terms.length ct, .slice gp G.prods.length cp], .int .i64 p] w fun e w' => e = .returned (.bool (Tr.thereB G p)) ∧ Below w.heap.size w w' := by
  have hb0 : Below w.heap.size w (w.alloc (.cells #[.int .i64 G.start, .int .i64 G.rules, .slice gn G.names.length cn, .slice gt G.terms.length ct, .slice gp G.prods.length cp] 30)) := bel_al (bel_id w) _
  have h2 := h.h2
  have h3 := h.h3
  by_cases c1 : p < (G.prods.length : Int)
  · by_cases c2 : -(G.terms.length : Int) ≤ p
    · have e : Tr.thereB G p = true := by simp [Tr.thereB, c1, c2]
      rw [e]
      have c2b : decide (-(G.terms.length : Int) ≤ p) = true := by simp [c2]
      clear e h
      go_enter Try.func108, Try.ntmps108
      go_wp2
      all_goals go_ret
      all_goals exact ⟨rfl, hb0⟩
    · have e : Tr.thereB G p = false := by simp [Tr.thereB, c2]
      rw [e]
      have c2b : decide (-(G.terms.length : Int) ≤ p) = false := by simp; omega
      clear e h
      go_enter Try.func108, Try.ntmps108
      go_wp2
      all_goals go_ret
      all_goals exact ⟨rfl, hb0⟩
  · have e : Tr.thereB G p = false := by simp [Tr.thereB]; omega
    rw [e]
    have c1b : decide (p < (G.prods.length : Int)) = false := by simp; omega
    clear e h
    go_enter Try.func108, Try.ntmps108
    go_wp2
    all_goals go_ret
    all_goals exact ⟨rfl, hb0⟩
set_option maxHeartbeats 1000000 in
theorem root_calls (p : Int) (hp : p < (G.prods.length : Int)) : Calls Try.prog 109 #[.agg #[.int .i64 G.start, .int .i64 G.rules, .slice gn G.names.length cn, .slice gt G.terms.length ct, .slice gp G.prods.length cp], .int .i64 p] w fun e w' => e = .returned (.int .i64 (Tr.rootS G p)) ∧ Below w.heap.size w w' := by
  have hb0 : Below w.heap.size w (w.alloc (.cells #[.int .i64 G.start, .int .i64 G.rules, .slice gn G.names.length cn, .slice gt G.terms.length ct, .slice gp G.prods.length cp] 30)) := bel_al (bel_id w) _
  by_cases c : p < 0
  · have e : Tr.rootS G p = p := by unfold Tr.rootS; rw [if_pos c]
    have E := hid e
    clear e h
    go_enter Try.func109, Try.ntmps109
    go_wp2
    go_ret
    rw [E.out]
    exact ⟨rfl, hb0⟩
  · obtain ⟨q, rfl⟩ := Int.eq_ofNat_of_zero_le (show 0 ≤ p by omega)
    have hq : q < G.prods.length := by omega
    have hx : G.prods[q]? = some G.prods[q] := List.getElem?_eq_getElem hq
    have e : Tr.rootS G (q : Int) = G.prods[q].1 := by unfold Tr.rootS; rw [if_neg c, Int.toNat_natCast, List.getD, hx]; rfl
    obtain ⟨g, off, gr, cr, rfl, hg, e0, e1, hr⟩ := h.g.p q _ hx
    obtain ⟨l, hl⟩ : ∃ l, l = G.prods[q].1 := ⟨_, rfl⟩
    rw [← hl] at e e0
    have E := hid e
    have e0' := (hb0.cell (p := ⟨g, _, none⟩) hg).trans e0
    have h3 := h.h3
    clear e h hx hr e1 hl e0
    go_enter Try.func109, Try.ntmps109
    go_wp2
    go_ret
    rw [E.out]
    exact ⟨rfl, hb0⟩
set_option maxHeartbeats 1000000 in
theorem right_calls (p : Int) (hp : p < (G.prods.length : Int)) : Calls Try.prog 110 #[.agg #[.int .i64 G.start, .int .i64 G.rules, .slice gn G.names.length cn, .slice gt G.terms.length ct, .slice gp G.prods.length cp], .int .i64 p] w (RightSaid w (Tr.rightS G p)) := by
  have hb0 : Below w.heap.size w (w.alloc (.cells #[.int .i64 G.start, .int .i64 G.rules, .slice gn G.names.length cn, .slice gt G.terms.length ct, .slice gp G.prods.length cp] 30)) := bel_al (bel_id w) _
  by_cases c : p < 0
  · have e : Tr.rightS G p = [] := by unfold Tr.rightS; rw [if_pos c]
    have E := hid e
    clear e h
    go_enter Try.func110, Try.ntmps110
    go_wp2
    go_ret
    rw [E.out]
    exact ⟨none, 0, rfl, fun j hj => by simp at hj, hb0⟩
  · obtain ⟨q, rfl⟩ := Int.eq_ofNat_of_zero_le (show 0 ≤ p by omega)
    have hq : q < G.prods.length := by omega
    have hx : G.prods[q]? = some G.prods[q] := List.getElem?_eq_getElem hq
    have e : Tr.rightS G (q : Int) = G.prods[q].2 := by unfold Tr.rightS; rw [if_neg c, Int.toNat_natCast, List.getD, hx]; rfl
    obtain ⟨g, off, gr, cr, rfl, hg, e0, e1, hr⟩ := h.g.p q _ hx
    obtain ⟨l, hl⟩ : ∃ l, l = G.prods[q].2 := ⟨_, rfl⟩
    rw [← hl] at e e1 hr
    have E := hid e
    have e1' := (hb0.cell (p := ⟨g, _, none⟩) hg).trans e1
    have h3 := h.h3
    have Hr := hid hr
    clear e h hx hr e0 hl e1
    go_enter Try.func110, Try.ntmps110
    go_wp2
    go_ret
    rw [E.out]
    exact ⟨gr, cr, rfl, Hr.out, hb0⟩
end
def CheckSays (G : Gr) (gn gt gp : Option Addr) (cn ct cp : Nat) (m : Nat) : Prop := ∀ (w : World) (p : Int) (kids : Fo) (gk : Option Addr) (ck : Nat), ChIn w G gn gt gp → kids.nodes = m → kids.nodes ≤ 1000000000000 → FoAt w (fun k => k < w.heap.size) gk kids 0 →
    Calls Try.prog 69 #[.agg #[.int .i64 G.start, .int .i64 G.rules, .slice gn G.names.length cn, .slice gt G.terms.length ct, .slice gp G.prods.length cp], .agg #[.int .i64 p, .slice gk kids.len ck]] w fun e w' => e = .returned (.bool (Tr.chkT G p kids)) ∧ Below w.heap.size w w'
set_option maxHeartbeats 2000000 in
theorem check1_calls {G : Gr} {gn gt gp : Option Addr} {cn ct cp : Nat} {w : World} (h : ChIn w G gn gt gp) {b : Nat} (hk : Bk w b 30 [.int .i64 G.start, .int .i64 G.rules, .slice gn G.names.length cn, .slice gt G.terms.length ct, .slice gp G.prods.length cp])
    (s p : Int) (kids : Fo) (gk : Option Addr) (ck : Nat) (ih : CheckSays G gn gt gp cn ct cp kids.nodes) (hn : kids.nodes ≤ 1000000000000) (hat : FoAt w (fun k => k < w.heap.size) gk kids 0) :
    Calls Try.prog 113 #[.int .i64 s, .agg #[.int .i64 p, .slice gk kids.len ck], .pointer (some ⟨b, 0, none⟩)] w fun e w' => e = .returned (.bool (Tr.chkG G s p kids)) ∧ Below w.heap.size w w' := by
  have hk4 := Bk.new w 45 [.int .i64 p, .slice gk kids.len ck]
  have hb0 : Below w.heap.size w (w.alloc (.cells #[.int .i64 p, .slice gk kids.len ck] 45)) := bel_al (bel_id w) _
  have hc := ih _ p kids gk ck (h.later hb0) rfl hn ((hat.below hb0 (fun _ h => h)).mono (fun k hk => Nat.lt_of_lt_of_le hk hb0.size))
  have hkb := hk.alloc (.cells #[.int .i64 p, .slice gk kids.len ck] 45)
  have hin := h.later hb0
  go_enter Try.func113, Try.ntmps113
  go_upto_region 1 with fail
  obtain ⟨wa, hwa⟩ : ∃ wa, wa = w.alloc (.cells #[.int .i64 p, .slice gk kids.len ck] 45) := ⟨_, rfl⟩
  obtain ⟨b4, hb4⟩ : ∃ b4, b4 = w.heap.size := ⟨_, rfl⟩
  rw [← hwa] at hk4 hb0 hc hkb hin ⊢
  rw [← hb4] at hk4 ⊢
  have g0 := hkb.cell 0
  have g1 := hkb.cell 1
  have g2 := hkb.cell 2
  have g3 := hkb.cell 3
  have g4 := hkb.cell 4
  have x0 := hk4.cell 0
  have x1 := hk4.cell 1
  simp only [List.getElem?_cons_zero, List.getElem?_cons_succ] at g0 g1 g2 g3 g4 x0 x1
  have Hc := hid hc
  have Hin := hid hin
  have Hb0 := hid hb0
  clear hwa hb4 hc hb0 hin
  cases hct : Tr.chkT G p kids with
  | false =>
    have e : Tr.chkG G s p kids = false := by unfold Tr.chkG; rw [hct]; rfl
    have E := hid e
    rw [hct] at Hc
    clear e hct
    go_wp2_with (go_at_call 69; refine Hc.out.mono ?_; rintro e w2 ⟨rfl, hb2⟩)
    go_ret
    rw [E.out]
    exact ⟨rfl, belw Hb0.out hb2⟩
  | true =>
    have hpl : p < (G.prods.length : Int) := by
      unfold Tr.chkT Tr.thereB at hct
      simp at hct
      exact hct.1.1
    obtain ⟨r, hr⟩ : ∃ r, r = Tr.rootS G p := ⟨_, rfl⟩
    have e : Tr.chkG G s p kids = (r == s) := by unfold Tr.chkG; rw [hct, hr]; rfl
    have E := hid e
    rw [hct] at Hc
    have Hr := hid hr
    clear e hct hr
    go_wp2_with (first
      | (go_at_call 69; refine Hc.out.mono ?_; rintro e w2 ⟨rfl, hb2⟩; have hk42 := hk4.below hb2 hk4.lt; have hkb2 := hkb.below hb2 hkb.lt; have y0 := hk42.cell 0; have z0 := hkb2.cell 0; have z1 := hkb2.cell 1; have z2 := hkb2.cell 2; have z3 := hkb2.cell 3; have z4 := hkb2.cell 4; simp only [List.getElem?_cons_zero, List.getElem?_cons_succ] at y0 z0 z1 z2 z3 z4; have Hb2 := hid hb2; clear hb2 hk42 hkb2)
      | (go_at_call 109; refine (root_calls _ G gn gt gp cn ct cp (Hin.out.later Hb2.out) p hpl).mono ?_; rintro e w3 ⟨rfl, hb3⟩; rw [← Hr.out]))
    go_ret
    rw [E.out]
    exact ⟨rfl, belw Hb0.out (belw Hb2.out hb3)⟩

set_option maxHeartbeats 4000000 in
theorem check_step {G : Gr} {gn gt gp : Option Addr} {cn ct cp : Nat} (m : Nat) (ih : ∀ m', m' < m → CheckSays G gn gt gp cn ct cp m') : CheckSays G gn gt gp cn ct cp m := by
  intro w p kids gk ck h hm hmax hat
  have hlen := kids.len_le
  have hk2 := (Bk.new w 30 [.int .i64 G.start, .int .i64 G.rules, .slice gn G.names.length cn, .slice gt G.terms.length ct, .slice gp G.prods.length cp]).alloc (.cells #[.int .i64 p, .slice gk kids.len ck] 45)
  have hk3 := bk_at (Bk.new (w.alloc (.cells #[.int .i64 G.start, .int .i64 G.rules, .slice gn G.names.length cn, .slice gt G.terms.length ct, .slice gp G.prods.length cp] 30)) 45 [.int .i64 p, .slice gk kids.len ck]) (show _ = w.heap.size + 1 by simp)
  have hb0 : Below w.heap.size w ((w.alloc (.cells #[.int .i64 G.start, .int .i64 G.rules, .slice gn G.names.length cn, .slice gt G.terms.length ct, .slice gp G.prods.length cp] 30)).alloc (.cells #[.int .i64 p, .slice gk kids.len ck] 45)) := bel_al (bel_al (bel_id w) _) _
  have hin := h.later hb0
  have hat0 := (hat.below hb0 (fun _ h => h)).mono (D' := fun x => x < ((w.alloc (.cells #[.int .i64 G.start, .int .i64 G.rules, .slice gn G.names.length cn, .slice gt G.terms.length ct, .slice gp G.prods.length cp] 30)).alloc (.cells #[.int .i64 p, .slice gk kids.len ck] 45)).heap.size) (fun k hk => Nat.lt_of_lt_of_le hk hb0.size)
  have Hih := hid ih
  have Hm := hid hm
  have Hmax := hid hmax
  have Hlen := hid hlen
  clear ih hm hat hlen h
  go_enter Try.func69, Try.ntmps69
  go_upto_region 1 with fail
  obtain ⟨wa, hwa⟩ : ∃ wa, wa = ((w.alloc (.cells #[.int .i64 G.start, .int .i64 G.rules, .slice gn G.names.length cn, .slice gt G.terms.length ct, .slice gp G.prods.length cp] 30)).alloc (.cells #[.int .i64 p, .slice gk kids.len ck] 45)) := ⟨_, rfl⟩
  obtain ⟨b2, hb2⟩ : ∃ b2, b2 = w.heap.size := ⟨_, rfl⟩
  obtain ⟨b3, hb3⟩ : ∃ b3, b3 = b2 + 1 := ⟨_, rfl⟩
  rw [← hwa] at hk2 hk3 hb0 hin hat0 ⊢
  rw [← hb2] at hk2 hk3 ⊢
  rw [← hb3] at hk3 ⊢
  have g0 := hk2.cell 0
  have g1 := hk2.cell 1
  have g2 := hk2.cell 2
  have g3 := hk2.cell 3
  have g4 := hk2.cell 4
  have x0 := hk3.cell 0
  simp only [List.getElem?_cons_zero, List.getElem?_cons_succ] at g0 g1 g2 g3 g4 x0
  have Hin := hid hin
  have Hat0 := hid hat0
  have Hb0 := hid hb0
  clear hwa hb2 hb3 hin hat0 hb0
  cases hth : Tr.thereB G p with
  | false =>
    have e : Tr.chkT G p kids = false := by unfold Tr.chkT; rw [hth]; rfl
    have E := hid e
    have Hth := hid hth
    clear e hth
    go_wp2_with (go_at_call 108; refine (there_calls _ G gn gt gp cn ct cp Hin.out p).mono ?_; rintro e w1 ⟨rfl, hb1⟩; rw [Hth.out])
    go_ret
    rw [E.out]
    exact ⟨rfl, belw Hb0.out hb1⟩
  | true =>
    have hpl : p < (G.prods.length : Int) := by
      unfold Tr.thereB at hth
      simp at hth
      exact hth.1
    have e : Tr.chkT G p kids = Tr.eqS (Tr.chkG G) (Tr.rightS G p) kids := by unfold Tr.chkT Tr.eqS; rw [hth, Tr.all2_chk]; rfl
    have hrl : (Tr.rightS G p).length ≤ 1000000 := by
      unfold Tr.rightS
      split
      · simp
      · rcases Nat.lt_or_ge p.toNat G.prods.length with h1 | h1
        · rw [List.getD, List.getElem?_eq_getElem h1]
          exact Hin.out.h4 _ (List.getElem_mem h1)
        · rw [List.getD, List.getElem?_eq_none h1]; simp
    have E := hid e
    have Hth := hid hth
    have Hk2 := hid hk2
    have Hk3 := hid hk3
    have Heg := hid (fun (args : Array Value) (w : World) => show (callFunc 113 args).run Try.prog w = .ok (.enter 113 args) w by kernel_rfl)
    clear e hth
    go_upto_region 3 with (go_at_call 108; refine (there_calls _ G gn gt gp cn ct cp Hin.out p).mono ?_; rintro e w1 ⟨rfl, hb1⟩; rw [Hth.out])
    have hk21 := Hk2.out.below hb1 Hk2.out.lt
    have hk31 := Hk3.out.below hb1 Hk3.out.lt
    have hin1 := Hin.out.later hb1
    have hat1 := (Hat0.out.below hb1 (fun _ h => h)).mono (D' := fun x => x < w1.heap.size) (fun k hk => Nat.lt_of_lt_of_le hk hb1.size)
    have d0 := hk21.cell 0
    have d1 := hk21.cell 1
    have d2 := hk21.cell 2
    have d3 := hk21.cell 3
    have d4 := hk21.cell 4
    have y0 := hk31.cell 0
    have y1 := hk31.cell 1
    simp only [List.getElem?_cons_zero, List.getElem?_cons_succ] at d0 d1 d2 d3 d4 y0 y1
    have Hk21 := hid hk21
    have Hk31 := hid hk31
    have Hin1 := hid hin1
    have Hat1 := hid hat1
    have Hb1 := hid hb1
    clear g0 g1 g2 g3 g4 x0 hk2 hk3 hk21 hk31 hin1 hat1 hb1
    have hbD : Below w1.heap.size w1 w1.drew := below_drewN (bel_id w1) 1
    go_region_held3 (fun w' => w'.cell? ⟨b2, 0, none⟩ = some (.int .i64 G.start) ∧ w'.cell? ⟨b2, 1, none⟩ = some (.int .i64 G.rules) ∧ w'.cell? ⟨b2, 2, none⟩ = some (.slice gn G.names.length cn) ∧ w'.cell? ⟨b2, 3, none⟩ = some (.slice gt G.terms.length ct) ∧ w'.cell? ⟨b2, 4, none⟩ = some (.slice gp G.prods.length cp) ∧ w'.cell? ⟨b3, 0, none⟩ = some (.int .i64 p) ∧ w'.cell? ⟨b3, 1, none⟩ = some (.slice gk kids.len ck))
      (go_keep)
      (first
        | (go_at_call 112; refine (equalFunc_calls w2 ga2 gk ca2 ck (Tr.rightS G p) kids 113 (.pointer (some ⟨b2, 0, none⟩)) (Tr.chkG G) Hr2.out (by omega) (by have := Hlen.out; omega) Hat2.out Heg.out (fun wy s p' k gk' ck' hy hn hf => check1_calls (Hin2.out.later hy) (Hk22.out.below hy Hk22.out.lt) s p' k gk' ck' (Hih.out _ (by have := Hm.out; omega)) (by have := Hmax.out; omega) hf)).mono ?_; rintro e w3 ⟨rfl, hb3⟩; have m0 := (Hk22.out.below hb3 Hk22.out.lt).cell 0; have m1 := (Hk22.out.below hb3 Hk22.out.lt).cell 1; have m2 := (Hk22.out.below hb3 Hk22.out.lt).cell 2; have m3 := (Hk22.out.below hb3 Hk22.out.lt).cell 3; have m4 := (Hk22.out.below hb3 Hk22.out.lt).cell 4; have m5 := (Hk32.out.below hb3 Hk32.out.lt).cell 0; have m6 := (Hk32.out.below hb3 Hk32.out.lt).cell 1; simp only [List.getElem?_cons_zero, List.getElem?_cons_succ] at m0 m1 m2 m3 m4 m5 m6)
        | (go_at_call 110; refine (right_calls _ G gn gt gp cn ct cp (Hin1.out.later hbD) p hpl).mono ?_; rintro e w2 ⟨ga2, ca2, rfl, hr2, hb2⟩; have hb12 := hbD.trans hb2; have hk22 := Hk21.out.below hb12 Hk21.out.lt; have hk32 := Hk31.out.below hb12 Hk31.out.lt; have Hr2 := hid ((hr2.below hb2).mono hb2.size); have Hat2 := hid ((Hat1.out.below hb12 (fun _ h => h)).mono (D' := fun x => x < w2.heap.size) (fun k hk => Nat.lt_of_lt_of_le hk hb12.size)); have Hin2 := hid (Hin1.out.later hb12); have n0 := hk22.cell 0; have n1 := hk22.cell 1; have n2 := hk22.cell 2; have n3 := hk22.cell 3; have n4 := hk22.cell 4; have n5 := hk32.cell 0; have n6 := hk32.cell 1; simp only [List.getElem?_cons_zero, List.getElem?_cons_succ] at n0 n1 n2 n3 n4 n5 n6; have Hk22 := hid hk22; have Hk32 := hid hk32; have Hb12 := hid hb12; clear hb2 hb12 hk22 hk32 hr2))
    all_goals
      go_wp2_with fail
      go_ret
      rw [E.out]
      exact ⟨rfl, belw Hb0.out (belw Hb1.out (belw Hb12.out hb3))⟩
theorem check_calls {G : Gr} {gn gt gp : Option Addr} {cn ct cp : Nat} (m : Nat) : CheckSays G gn gt gp cn ct cp m := by
  induction m using Nat.strongRecOn with
  | ind m ih => exact check_step m ih
end Go.Proofs.Ytaehooafdbaomaa
