/- Chapter 7 (symbols): SymbolsProblems. -/
import Derived.Test.YtjaampgpihicmaaLaw07a
import Derived.Test.YtjaampgpihicmaaSymD3
import Derived.Test.YtjaampgpihicmaaCopy07
import Derived.Deep.RegionHeld3
import Derived.BigQuiet
namespace Go.Proofs.Ytjaampgpihicmaa
open Go.RowKit
attribute [local go_sem ↓] Go.wp_at_zero Go.wp_at_succ
attribute [local go_sem] frozen_alloc_lt
open Syn (Nd Nod)

/-- Problems, read. -/
def PrIn (w : World) (gl : Option Addr) (l : List Prob) : Prop := ∀ (i : Nat) (p : Prob), l[i]? = some p → ∃ g, gl = some ⟨g, 0, none⟩ ∧ g < w.heap.size ∧ w.cell? ⟨g, i * 3, none⟩ = some (.int .i64 p.code) ∧ w.cell? ⟨g, i * 3 + 1, none⟩ = some (.int .i64 p.rule) ∧ w.cell? ⟨g, i * 3 + 2, none⟩ = some (.string ⟨p.name.toArray⟩)
theorem PrIn.of {w : World} {B : Nat} {T : TypeId} {v : Value} {l : List Prob} (h : OwnA ProbR 3 w B T v l) : ∃ gl cl, v = .slice gl l.length cl ∧ PrIn w gl l := by
  obtain ⟨gl, cl, hv, hl⟩ := h.lies ProbR.fit
  refine ⟨gl, cl, hv, fun i p hp => ?_⟩
  obtain ⟨g, x, h1, h2, h3, h4, h5⟩ := hl i p hp
  have h4 : x = [.int .i64 p.code, .int .i64 p.rule, .string ⟨p.name.toArray⟩] := h4
  subst h4
  exact ⟨g, h1, h3, h5 0 _ rfl, h5 1 _ rfl, h5 2 _ rfl⟩
theorem PrIn.kp {w w' : World} {gl : Option Addr} {l : List Prob} (h : PrIn w gl l) (hk : Kp (fun _ => False) w w') : PrIn w' gl l := fun i p hp => by
  obtain ⟨g, h1, h2, h3, h4, h5⟩ := h i p hp
  exact ⟨g, h1, Nat.lt_of_lt_of_le h2 hk.size, hk.cell h3 (fun e => e), hk.cell h4 (fun e => e), hk.cell h5 (fun e => e)⟩
def PbRel (w4 : World) (N : Nat) (k : Nat) (v7 : Value) (w : World) : Prop := ∃ i : Nat, v7 = .int .i64 i ∧ i ≤ N ∧ k = N - i ∧ Kp (fun _ => False) w4 w
section
variable (s : ByteArray) (w : World) (hs : s.size ≤ 9223372036854775807)
include hs
set_option maxRecDepth 8000 in
set_option maxHeartbeats 4000000 in
/-- A text that is not read. -/
theorem probs_no (h : 1000 < s.size ∨ ∃ f, Syn.parseS s.data.toList = .bad f) : Calls Try.prog 7 #[.string s] w fun e w' => e = .returned (.bool true) ∧ Below w.heap.size w w' := by
  have hrd : ∀ w, Calls Try.prog 26 #[.string s] w fun e w' => e = .returned (.tuple #[.agg #[.string ⟨#[]⟩, .slice none 0 0], .bool false]) ∧ Below w.heap.size w w' := fun w => by
    by_cases h1 : 1000 < s.size
    · exact read7_long s w hs h1
    · rcases h with h | ⟨f, h⟩
      · exact absurd h h1
      · exact read7_bad s w hs h1 h
  clear h hs
  go_enter Try.func7, Try.ntmps7
  go_wp2_with (first
    | (go_at_call 26; refine (hrd _).mono ?_; rintro e w2 ⟨rfl, hb2⟩)
    | (go_at_call 25; refine (speaks07_calls _).mono ?_; rintro e w1 ⟨rfl, hb1⟩))
  go_ret
  exact ⟨rfl, bel_trans hb1 (bel_trans hb2 (bel_new _ _))⟩
set_option maxRecDepth 8000 in
set_option maxHeartbeats 8000000 in
theorem probs_ok (h : ¬ 1000 < s.size) {st : List UInt8} {rs : List (List UInt8 × Nod)} (hp : Syn.parseS s.data.toList = .ok st rs) : Calls Try.prog 7 #[.string s] w fun e w' => e = .returned (.bool true) ∧ Below w.heap.size w w' := by
  obtain ⟨L, hL⟩ : ∃ L, L = rs.length := ⟨_, rfl⟩
  obtain ⟨pl, hpl⟩ : ∃ pl, pl = checkS st rs := ⟨_, rfl⟩
  obtain ⟨N, hN⟩ : ∃ N, N = pl.length := ⟨_, rfl⟩
  have hrd := fun w => read7_ok s w hs h hp
  have hkp := parse_keeps hp
  have hb9 := Syn.parse_bodies hp
  have hck := fun (w : World) ga ca (hin : RulesIn w ga rs) => check_parsed hp w ga ca hin
  have hrc := fun (w : World) ga ca (hin : RulesIn w ga rs) => rcheck_calls w st rs ga ca hin (by omega) hkp.2.2.2.1 (by omega)
  have hgr := fun (w : World) ga ca (hin : RulesIn w ga rs) => grammar07_calls w st rs ga ca hin (by omega) hkp.2.2.2.1
  have hNl : N ≤ 200000 := by
    rw [hN, hpl]
    exact checkS_len st rs (by omega) hb9
  rw [← hL] at hrd hck hrc hgr
  rw [← hpl] at hck hrc
  have Hrd := hid hrd
  have HL := hid hL
  have Hck : Hid (∀ (W : World) ga ca, RulesIn W ga rs → Calls Try.prog 27 #[.agg #[.string ⟨st.toArray⟩, .slice ga L ca]] W fun e w3 => ∃ g2 c2, e = .returned (.slice g2 N c2) ∧ PrIn w3 g2 pl ∧ Kp (fun _ => False) W w3) := hid fun W ga ca hin => by
    refine (hck W ga ca hin).mono ?_
    rintro e w3 ⟨v, rfl, hown, hb⟩
    obtain ⟨gl, cl, rfl, hpr⟩ := PrIn.of hown
    exact ⟨gl, cl, by rw [hN], hpr, below_kp hb⟩
  have Hrc : Hid (∀ (W : World) ga ca, RulesIn W ga rs → Calls Try.prog 28 #[.agg #[.string ⟨st.toArray⟩, .slice ga L ca]] W fun e w3 => ∃ g2 c2, e = .returned (.slice g2 N c2) ∧ PrIn w3 g2 pl ∧ Kp (fun _ => False) W w3) := hid fun W ga ca hin => by
    refine (hrc W ga ca hin).mono ?_
    rintro e w3 ⟨v, rfl, hown, hb⟩
    obtain ⟨gl, cl, rfl, hpr⟩ := PrIn.of hown
    exact ⟨gl, cl, by rw [hN], hpr, below_kp hb⟩
  have Hgr : Hid (∀ (W : World) ga ca, RulesIn W ga rs → Calls Try.prog 29 #[.agg #[.string ⟨st.toArray⟩, .slice ga L ca]] W fun e w3 => ∃ g2 c2, e = .returned (.agg #[.string ⟨st.toArray⟩, .slice g2 L c2]) ∧ RulesIn w3 g2 rs ∧ Kp (fun _ => False) W w3) := hid fun W ga ca hin => by
    refine (hgr W ga ca hin).mono ?_
    rintro e w3 ⟨v, rfl, ⟨gl, cl, rfl, hr⟩, hb⟩
    exact ⟨gl, cl, by rw [hL], RulesIn.of hr, below_kp hb⟩
  have HN := hid hN
  clear h hs hp hrd hck hrc hgr hkp hb9 hL hpl hN
  go_enter Try.func7, Try.ntmps7
  go_upto_region 6 with (first
    | (go_at_call 26; refine (Hrd.out _).mono ?_; rintro e w2 ⟨ga, ca, rfl, hr2, hb2⟩)
    | (go_at_call 25; refine (speaks07_calls _).mono ?_; rintro e w1 ⟨rfl, hb1⟩))
  have hbq := Bk.new w2 25 [.string ⟨st.toArray⟩, .slice ga L ca]
  have hbn := bel_new w2 (.cells #[.string ⟨st.toArray⟩, .slice ga L ca] 25)
  have hri := (RulesIn.of hr2).later hbn
  obtain ⟨C, hC⟩ : ∃ C, C = w2.heap.size := ⟨_, rfl⟩
  obtain ⟨wb, hwb⟩ : ∃ wb, wb = w2.alloc (.cells #[.string ⟨st.toArray⟩, .slice ga L ca] 25) := ⟨_, rfl⟩
  have hball := bel_trans hb1 (bel_trans hb2 hbn)
  rw [← hwb] at hbq hri hball ⊢
  rw [← hC] at hbq ⊢
  have x0 := hbq.cell 0
  have x1 := hbq.cell 1
  have hlq := hbq.lt
  simp only [List.getElem?_cons_zero, List.getElem?_cons_succ] at x0 x1
  have hrk : ∀ W, Kp (fun _ => False) wb W → RulesIn W ga rs := fun W hk => (RulesM.kp hri hk (fun _ _ e => e)).mono fun k (hk2 : k < wb.heap.size) => Nat.lt_of_lt_of_le hk2 hk.size
  have Hrk := hid hrk
  have Hb := hid hball
  have Hbq := hid hbq
  clear hri hrk hball hbq hbn hb1 hb2 hr2 hwb hC
  go_region_held3 (fun W : World => W.cell? ⟨C, 0, none⟩ = some (.string ⟨st.toArray⟩) ∧ W.cell? ⟨C, 1, none⟩ = some (.slice ga L ca)) (first | exact ⟨x0, x1⟩ | exact ⟨z0, z1⟩ | exact ⟨y0, y1⟩ | exact ⟨u0, u1⟩)
    (first
      | (go_at_call 28; refine (Hrc.out _ _ _ hr4).mono ?_; rintro e w5 ⟨g5, c5, rfl, hp5, hk5⟩; have u0 := hk5.cell y0 (fun e => e); have u1 := hk5.cell y1 (fun e => e))
      | (go_at_call 29; refine (Hgr.out _ _ _ (Hrk.out _ hk3)).mono ?_; rintro e w4 ⟨g4, c4, rfl, hr4, hk4⟩; have y0 := hk4.cell z0 (fun e => e); have y1 := hk4.cell z1 (fun e => e))
      | (go_at_call 27; refine (Hck.out _ _ _ (Hrk.out _ (Kp.refl _ wb).drew)).mono ?_; rintro e w3 ⟨g3, c3, rfl, hp3, hk3'⟩; have hk3 := (Kp.refl (fun _ => False) wb).drew.trans hk3'; have z0 := hk3.cell x0 (fun e => e); have z1 := hk3.cell x1 (fun e => e)))
  have hk35 := (hk3.trans hk4).trans hk5
  have hbel := Hb.out.trans (hk35.to_below Hb.out.size (fun k e => e.elim))
  have Hpa := hid ((hp3.kp hk4).kp hk5)
  have Hpb := hid hp5
  have Hbel := hid hbel
  clear hk35 hbel hp3 hp5 hk3 hk3' hk4 hk5 hr4 x0 x1 y0 y1 z0 z1 u0 u1 hlq
  go_wp2_with fail
  go_loopg [7] N (fun k v7 wx => PbRel w5 N k v7 wx)
  case atStart => exact ⟨0, rfl, Nat.zero_le _, rfl, Kp.refl _ _⟩
  case round =>
    obtain ⟨i, rfl, hi, hk, hkp⟩ := hrel
    rcases Nat.lt_or_ge i N with hlt | hge
    · have hltN : (i : Int) < (N : Int) := by omega
      have hi0 : (0 : Int) ≤ (i : Int) := by omega
      obtain ⟨p, hpi⟩ : ∃ p, pl[i]? = some p := ⟨_, List.getElem?_eq_getElem (by rw [← HN.out]; exact hlt)⟩
      obtain ⟨ga3, rfl, hl3, a0, a1, a2⟩ := (Hpa.out.kp hkp) i p hpi
      obtain ⟨gb3, rfl, hm3, b0, b1, b2⟩ := (Hpb.out.kp hkp) i p hpi
      obtain ⟨pc, hpc⟩ : ∃ pc : Int, pc = p.code := ⟨_, rfl⟩
      obtain ⟨pr, hpr⟩ : ∃ pr : Int, pr = p.rule := ⟨_, rfl⟩
      obtain ⟨pn, hpn⟩ : ∃ pn, pn = p.name := ⟨_, rfl⟩
      rw [← hpc] at a0 b0
      rw [← hpr] at a1 b1
      rw [← hpn] at a2 b2
      have Hkp := hid hkp
      have Hk := hid (And.intro hk hlt)
      clear hkp hk hi hlt hpc hpr hpn hpi
      go_wp2_with fail
      go_quiet (fail)
      go_wp2_with fail
      go_roundg (N - (i + 1))
      case measure => have := Hk.out; omega
      case rel => exact ⟨i + 1, by go_num, Hk.out.2, rfl, Hkp.out.drewN _⟩
    · have hgeN : ¬ (i : Int) < (N : Int) := by omega
      have Hkp := hid hkp
      clear hkp hk hi hge
      go_wp2_with fail
      go_ret
      exact ⟨rfl, Hbel.out.trans (Hkp.out.to_below Hbel.out.size (fun k e => e.elim))⟩
end
/-- SymbolsProblems, of any text. -/
theorem problems_calls (s : ByteArray) (w : World) (hs : s.size ≤ 9223372036854775807) : Calls Try.prog 7 #[.string s] w fun e w' => e = .returned (.bool true) ∧ Below w.heap.size w w' := by
  by_cases h : 1000 < s.size
  · exact probs_no s w hs (.inl h)
  · cases hp : Syn.parseS s.data.toList with
    | bad f => exact probs_no s w hs (.inr ⟨f, hp⟩)
    | ok st rs => exact probs_ok s w hs h hp
end Go.Proofs.Ytjaampgpihicmaa
