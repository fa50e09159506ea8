/- Chapter 7 (symbols), the document's side: Refs of any node. -/
import Derived.Test.YtjaampgpihicmaaSym2
import Derived.Test.YtjaampgpihicmaaTxt
namespace Go.Proofs.Ytjaampgpihicmaa
open Go.RowKit
attribute [local go_sem ↓] Go.wp_at_zero Go.wp_at_succ
attribute [local go_sem] frozen_alloc_lt
open Syn (Nd Nod)

/-- What a function answers that answers texts. -/
def TxSaid (ss : List (List UInt8)) (w : World) (e : Ending) (w' : World) : Prop := ∃ v, e = .returned v ∧ TxO w' w.heap.size v ss ∧ Below w.heap.size w w'
def RRefsAt (w0 : World) (ga : Option Addr) (L m : Nat) (all : List (List UInt8)) (k : Nat) (v3 v4 : Value) (w : World) : Prop :=
  ∃ (i : Nat) (r : Nd) (ss : List (List UInt8)), v4 = .int .i64 i ∧ TxO w w0.heap.size v3 ss ∧ NdIn w0 ga r i ∧ r.fits 100000 ∧ i + r.len = L ∧ ss ++ r.refs = all ∧ k = r.len ∧ ss.length + r.nodes ≤ 1000000 ∧ r.nodes ≤ m ∧ Below w0.heap.size w0 w
def RRefsSays (m : Nat) : Prop := ∀ (n : Nod) (w : World) (ga : Option Addr) (ca : Nat), n.kids.nodes = m → NdIn w ga n.kids 0 → n.fits 100000 → m ≤ 1000000 →
  Calls Try.prog 76 #[nodeV n ga ca] w (TxSaid n.refs w)
set_option maxRecDepth 8000 in
set_option maxHeartbeats 4000000 in
theorem rrefs_step (m : Nat) (ih : ∀ m', m' < m → RRefsSays m') : RRefsSays m := by
  intro n w ga ca hm hin hfit hlen
  obtain ⟨kn, hkn⟩ : ∃ kn : Int, kn = n.kind := ⟨_, rfl⟩
  obtain ⟨L, hL⟩ : ∃ L, L = n.kids.len := ⟨_, rfl⟩
  simp only [nodeV, ← hkn, ← hL]
  have hb0 := bel_new w (.cells #[.int .i64 kn, .string ⟨n.text.toArray⟩, .slice ga L ca] 85)
  by_cases h1 : n.kind = 1
  · have e : n.refs = [n.text] := by unfold Syn.Nod.refs; rw [if_pos h1]
    rw [e]
    have hk1 : kn = 1 := by omega
    subst hk1
    have ho := TxO.one (w.alloc (.cells #[.int .i64 1, .string ⟨n.text.toArray⟩, .slice ga L ca] 85)) n.text
    have hb1 := bel_trans hb0 (bel_new _ (.cells #[.string ⟨n.text.toArray⟩] 9))
    rw [show (w.alloc (.cells #[.int .i64 1, .string ⟨n.text.toArray⟩, .slice ga L ca] 85)).heap.size = w.heap.size + 1 by simp] at ho
    have Ho := hid (And.intro ho hb1)
    clear hkn hL hb0 e h1 hm hin hfit hlen ih ho hb1
    go_enter Try.func76, Try.ntmps76
    go_wp2_with fail
    go_ret
    exact ⟨_, rfl, Ho.out.1.base (by omega), Ho.out.2⟩
  · have e : n.refs = n.kids.refs := by unfold Syn.Nod.refs; rw [if_neg h1]
    rw [e]
    have hk1 : ¬ kn = 1 := by omega
    have hkb : (kn == 1) = false := by simpa using hk1
    have hL1 : L ≤ 100000 := by have := hfit.1; omega
    have hbx := Bk.new w 85 [.int .i64 kn, .string ⟨n.text.toArray⟩, .slice ga L ca]
    have hin0 := hin.later hb0
    obtain ⟨wa, hwa⟩ : ∃ wa, wa = w.alloc (.cells #[.int .i64 kn, .string ⟨n.text.toArray⟩, .slice ga L ca] 85) := ⟨_, rfl⟩
    obtain ⟨b, hb⟩ : ∃ b, b = w.heap.size := ⟨_, rfl⟩
    obtain ⟨all, hall⟩ : ∃ all, all = n.kids.refs := ⟨_, rfl⟩
    rw [← hall]
    rw [← hwa] at hb0 hbx hin0
    rw [← hb] at hbx
    have HW := hid hwa
    have HB := hid hb
    have Hall := hid hall
    have Hin := hid hin0
    have Hfit := hid hfit
    have Hlen := hid hlen
    have Hm := hid hm
    have Hih := hid ih
    have HL := hid hL
    have Hb0 := hid hb0
    have Hbx := hid hbx
    clear hkn hL hb0 e h1 hm hin hin0 hfit hlen ih hwa hall hb hbx
    go_enter Try.func76, Try.ntmps76
    go_upto_region 1 with fail
    rw [← HW.out, ← HB.out]
    have g0 := Hbx.out.cell 0
    simp only [List.getElem?_cons_zero] at g0
    go_wp2_with fail
    clear g0
    go_loopg [3, 4] L (fun k v3 v4 wr => RRefsAt wa ga L m all k v3 v4 wr)
    case atStart => exact ⟨0, n.kids, [], rfl, TxO.nil _ _, Hin.out, Hfit.out.2, by rw [HL.out]; omega, by rw [Hall.out]; rfl, HL.out, by have := Hm.out; have := Hlen.out; simp; omega, by have := Hm.out; omega, Below.refl _ _⟩
    case round =>
      obtain ⟨i, r, ss, rfl, hown, hr, hf, hi, hss, hkk, hmx, hnm, hbw⟩ := hrel
      have q2 := (Hbx.out.below hbw Hbx.out.lt).cell 2
      have hbl := (Hbx.out.below hbw Hbx.out.lt).lt
      simp only [List.getElem?_cons_zero, List.getElem?_cons_succ] at q2
      cases r with
      | nil =>
        have hge : ¬ (i : Int) < (L : Int) := by simp only [Nd.len] at hi; omega
        have e : ss = all := by simpa [Syn.Nd.refs] using hss
        have He := hid e
        have Hown := hid hown
        have Hbw := hid hbw
        clear hss e hr hf hmx hnm hi hown hbw hkk
        go_wp2_with fail
        go_ret
        have := HB.out
        have := Hb0.out.size
        exact ⟨_, rfl, He.out ▸ (Hown.out.base (by omega)), bel_trans Hb0.out Hbw.out⟩
      | cons a t kids r1 =>
        have hlt : (i : Int) < (L : Int) := by simp only [Nd.len] at hi; omega
        have hi0 : (0 : Int) ≤ (i : Int) := by omega
        unfold NdIn NdAt at hr
        obtain ⟨⟨g1, o1, gm, cm, hga, hg1, a0, a1, a2, hk1⟩, hr1⟩ := hr
        simp only [Nd.nodes] at hnm hmx
        simp only [Syn.Nd.fits] at hf
        have c0 := (hbw.cell (p := ⟨g1, _, none⟩) hg1).trans a0
        have c1 := (hbw.cell (p := ⟨g1, _, none⟩) hg1).trans a1
        have c2 := (hbw.cell (p := ⟨g1, _, none⟩) hg1).trans a2
        have hgl : g1 < wr.heap.size := Nat.lt_of_lt_of_le hg1 hbw.size
        have hk2 : NdIn wa gm kids 0 := hk1
        have hpc := Hih.out kids.nodes (by omega) ⟨a, t, kids⟩ wr gm cm rfl (hk2.later hbw) ⟨hf.1, hf.2.1⟩ (by omega)
        simp only [nodeV] at hpc
        have hpc2 : Calls Try.prog 76 #[.agg #[.int .i64 a, .string ⟨t.toArray⟩, .slice gm kids.len cm]] wr fun e w2 => ∃ g2 n2 c2 v' w3, e = .returned (.slice g2 n2 c2) ∧
            (Builtin.append_ #[71, 71] 71 #[u3, .slice g2 n2 c2]).run Try.prog w2 = .ok v' w3 ∧ Hid (TxO w3 wa.heap.size v' (ss ++ Nod.refs ⟨a, t, kids⟩) ∧ Below wa.heap.size wa w3) := by
          refine hpc.mono ?_
          rintro e w2 ⟨v2, rfl, ho2, hb2⟩
          obtain ⟨g2, c2, rfl, hd2⟩ := ho2.read
          have h1 : (Nod.refs ⟨a, t, kids⟩).length ≤ 1 + kids.nodes := by
            unfold Syn.Nod.refs
            have := Nd.refs_len kids
            split <;> simp <;> omega
          obtain ⟨v', w3, hrun, ho3, _, hb3, _⟩ := TxO.cat (hown.later hb2) hd2 c2 (by omega) (by have := hbw.size; have := hb2.size; omega) 71
          exact ⟨_, _, _, _, _, rfl, hrun, hid ⟨ho3, (bel_trans hbw hb2).trans hb3⟩⟩
        have hall2 : (ss ++ Nod.refs ⟨a, t, kids⟩) ++ r1.refs = all := by
          rw [← hss]
          unfold Syn.Nod.refs
          rw [Syn.Nd.refs, List.append_assoc]
        have hlen2 : (ss ++ Nod.refs ⟨a, t, kids⟩).length + r1.nodes ≤ 1000000 := by
          have h1 : (Nod.refs ⟨a, t, kids⟩).length ≤ 1 + kids.nodes := by
            unfold Syn.Nod.refs
            have := Nd.refs_len kids
            split <;> simp <;> omega
          rw [List.length_append]
          omega
        have Hr := hid (And.intro hr1 hf.2.2)
        have Hall2 := hid (And.intro hall2 hlen2)
        have Hi := hid (And.intro hi hkk)
        have Hnd2 := hid (show r1.nodes ≤ m by omega)
        subst hga
        clear hss hall2 hlen2 hnm hmx hf hr1 hk1 hk2 hpc hown hbw hi hkk a0 a1 a2
        go_wp2_with (first
          | (at_builtin; refine wpList_app rfl _ _ _ rfl _ (.slice g2 n2 c2) v' w3 (by rfl) (by rfl) (by exact hrun) ?_)
          | (go_at_call 76; refine hpc2.mono ?_; rintro e w2 ⟨g2, n2, c2, v', w3, rfl, hrun, H3⟩))
        go_roundg r1.len
        case measure => have := Hi.out.2; simp only [Nd.len] at this; omega
        case rel => exact ⟨i + 1, r1, _, by go_num, H3.out.1, Hr.out.1, Hr.out.2, by have := Hi.out.1; simp only [Nd.len] at this; omega, Hall2.out.1, rfl, Hall2.out.2, Hnd2.out, H3.out.2⟩
theorem rrefs_all (m : Nat) : RRefsSays m := by
  induction m using Nat.strongRecOn with
  | ind m ih => exact rrefs_step m ih
end Go.Proofs.Ytjaampgpihicmaa
