/- Chapter 7 (symbols), the document's side: In, First. -/
import Derived.Test.YtjaampgpihicmaaSym8
import Derived.Test.YtjaampgpihicmaaTxt
namespace Go.Proofs.Ytjaampgpihicmaa
open Go.RowKit
attribute [local go_sem ↓] Go.wp_at_zero Go.wp_at_succ
attribute [local go_sem] frozen_alloc_lt
open Syn (Nd Nod)

def InAt (w0 : World) (ss : List (List UInt8)) (t : List UInt8) (res : Bool) (k : Nat) (v5 : Value) (w : World) : Prop :=
  ∃ i : Nat, v5 = .int .i64 i ∧ i ≤ ss.length ∧ k = ss.length - i ∧ (ss.drop i).contains t = res ∧ w = w0
set_option maxRecDepth 8000 in
set_option maxHeartbeats 4000000 in
theorem in_calls {w : World} {D : Nat → Prop} {ga : Option Addr} {ss : List (List UInt8)} (h : TxD w D ga ss) (ca : Nat) (t : List UInt8) (hl : ss.length ≤ 1000000000) :
    Calls Try.prog 77 #[.slice ga ss.length ca, .string ⟨t.toArray⟩] w fun e w' => e = .returned (.bool (ss.contains t)) ∧ w' = w := by
  obtain ⟨L, hL⟩ : ∃ L, L = ss.length := ⟨_, rfl⟩
  obtain ⟨res, hres⟩ : ∃ res, res = ss.contains t := ⟨_, rfl⟩
  rw [← hL] at hl ⊢
  rw [← hres]
  have H := hid h
  have HL := hid hL
  have Hres := hid hres
  clear h hL hres
  go_enter Try.func77, Try.ntmps77
  go_wp2_with fail
  go_loopg [5] L (fun k v5 wr => InAt w ss t res k v5 wr)
  case atStart => exact ⟨0, rfl, Nat.zero_le _, HL.out, by rw [List.drop_zero]; exact Hres.out.symm, rfl⟩
  case round =>
    obtain ⟨i, rfl, hi, hk, hd, rfl⟩ := hrel
    rcases Nat.lt_or_ge i ss.length with hlt | hge
    · have hltL : (i : Int) < (L : Int) := by have := HL.out; omega
      have hi0 : (0 : Int) ≤ (i : Int) := by omega
      obtain ⟨x, hx⟩ : ∃ x, x = ss[i] := ⟨_, rfl⟩
      obtain ⟨g, off, rfl, -, hg, hc⟩ := H.out.at (i := i) (t := x) (by rw [hx]; exact List.getElem?_eq_getElem hlt)
      rw [List.drop_eq_getElem_cons hlt, ← hx, List.contains_cons] at hd
      have Hk := hid hk
      have Hlt := hid hlt
      clear hk hi hlt hx
      by_cases hxt : x = t
      · subst hxt
        have e : res = true := by rw [← hd]; simp
        have He := hid e
        clear hd e
        go_wp2_with fail
        go_ret
        exact ⟨by rw [He.out]; rfl, rfl⟩
      · have hne : (x == t) = false := by simpa using hxt
        have hne2 : ¬ t = x := fun e => hxt e.symm
        have e : (ss.drop (i + 1)).contains t = res := by rw [← hd]; simp [hne2]
        have He := hid e
        clear hd e hne2
        go_wp2_with fail
        go_roundg (L - (i + 1))
        case measure => have := Hk.out; have := Hlt.out; have := HL.out; omega
        case rel => exact ⟨i + 1, by go_num, Hlt.out, by rw [HL.out], He.out, rfl⟩
    · have hgeL : ¬ (i : Int) < (L : Int) := by have := HL.out; omega
      rw [List.drop_of_length_le hge] at hd
      have Hd := hid hd
      clear hd hk hi hge
      go_wp2_with fail
      go_ret
      exact ⟨by rw [← Hd.out]; rfl, rfl⟩
def FiAt (w0 : World) (rs : List (List UInt8 × Nod)) (t : List UInt8) (k : Nat) (v5 : Value) (w : World) : Prop :=
  ∃ i : Nat, v5 = .int .i64 i ∧ i ≤ rs.length ∧ k = rs.length - i ∧ firstAt (rs.drop i) i t = firstAt rs 0 t ∧ w = w0
set_option maxRecDepth 8000 in
set_option maxHeartbeats 4000000 in
theorem rfirst_calls (w : World) (st : List UInt8) (rs : List (List UInt8 × Nod)) (ga : Option Addr) (ca : Nat) (t : List UInt8) (hin : RulesIn w ga rs) (hl : rs.length ≤ 1000000) :
    Calls Try.prog 35 #[.agg #[.string ⟨st.toArray⟩, .slice ga rs.length ca], .string ⟨t.toArray⟩] w fun e w' => e = .returned (.int .i64 (ruleOf rs t)) ∧ w.alloc (.cells #[.string ⟨st.toArray⟩, .slice ga rs.length ca] 33) = w' := by
  obtain ⟨L, hL⟩ : ∃ L, L = rs.length := ⟨_, rfl⟩
  obtain ⟨R, hR⟩ : ∃ R, R = ruleOf rs t := ⟨_, rfl⟩
  have hbx := Bk.new w 33 [.string ⟨st.toArray⟩, .slice ga rs.length ca]
  have hin0 := hin.later (bel_new w (.cells #[.string ⟨st.toArray⟩, .slice ga rs.length ca] 33))
  rw [← hL] at hl hbx hin0 ⊢
  rw [← hR]
  obtain ⟨wa, hwa⟩ : ∃ wa, wa = w.alloc (.cells #[.string ⟨st.toArray⟩, .slice ga L ca] 33) := ⟨_, rfl⟩
  obtain ⟨b, hb⟩ : ∃ b, b = w.heap.size := ⟨_, rfl⟩
  rw [← hwa] at hbx hin0 ⊢
  rw [← hb] at hbx
  have q1 := hbx.cell 1
  have hbl := hbx.lt
  simp only [List.getElem?_cons_zero, List.getElem?_cons_succ] at q1
  have HW := hid hwa
  have HB := hid hb
  have HL := hid hL
  have HR := hid hR
  have Hin := hid hin0
  clear hwa hb hL hR hin hin0 hbx
  go_enter Try.func35, Try.ntmps35
  go_upto_region 1 with fail
  rw [← HW.out, ← HB.out]
  go_wp2_with fail
  go_loopg [5] L (fun k v5 wr => FiAt wa rs t k v5 wr)
  case atStart => exact ⟨0, rfl, Nat.zero_le _, HL.out, by rw [List.drop_zero], rfl⟩
  case round =>
    obtain ⟨i, rfl, hi, hk, hd, rfl⟩ := hrel
    rcases Nat.lt_or_ge i rs.length with hlt | hge
    · have hltL : (i : Int) < (L : Int) := by have := HL.out; omega
      have hi0 : (0 : Int) ≤ (i : Int) := by omega
      obtain ⟨x, hx⟩ : ∃ x, x = rs[i] := ⟨_, rfl⟩
      obtain ⟨g1, o1, gk1, ck1, hga, hg1, a0, a1, a2, a3, hk1⟩ := Hin.out i x (by rw [hx]; exact List.getElem?_eq_getElem hlt)
      rw [List.drop_eq_getElem_cons hlt, ← hx, firstAt] at hd
      obtain ⟨nx, hnx⟩ : ∃ nx, nx = x.1 := ⟨_, rfl⟩
      rw [← hnx] at a0 hd
      have hg1 : g1 < wr.heap.size := hg1
      subst hga
      have Hk := hid hk
      have Hlt := hid hlt
      clear hk hi hlt hx a1 a2 a3 hk1 hnx
      by_cases hxt : nx = t
      · subst hxt
        rw [if_pos rfl] at hd
        have e : R = (i : Int) := by rw [HR.out, ruleOf, ← hd]
        have He := hid e
        clear hd e
        go_wp2_with fail
        go_ret
        exact ⟨by rw [He.out]; rfl, rfl⟩
      · have hne : (nx == t) = false := by simpa using hxt
        have hne2 : ¬ t = nx := fun e => hxt e.symm
        rw [if_neg hne2] at hd
        have He := hid hd
        clear hd hne2
        go_wp2_with fail
        go_roundg (L - (i + 1))
        case measure => have := Hk.out; have := Hlt.out; have := HL.out; omega
        case rel => exact ⟨i + 1, by go_num, Hlt.out, by rw [HL.out], He.out, rfl⟩
    · have hgeL : ¬ (i : Int) < (L : Int) := by have := HL.out; omega
      rw [List.drop_of_length_le hge, firstAt] at hd
      have e : R = -1 := by rw [HR.out, ruleOf, ← hd]
      have He := hid e
      clear hd hk hi hge e
      go_wp2_with fail
      go_ret
      exact ⟨by rw [He.out]; rfl, rfl⟩
end Go.Proofs.Ytjaampgpihicmaa
