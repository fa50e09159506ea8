/- Chapter 7 (symbols): the document's Uses; texts. -/
import Derived.Test.YtjaampgpihicmaaSymD5
import Derived.BigQuiet
namespace Go.Proofs.Ytjaampgpihicmaa
open Go.RowKit
attribute [local go_sem ↓] Go.wp_at_zero Go.wp_at_succ
attribute [local go_sem] frozen_alloc_lt
open Syn (Nd Nod)

def Us1 (w0 : World) (rs : List (List UInt8 × Nod)) (nm : List UInt8) (U : Nat) (k : Nat) (v5 v6 : Value) (w : World) : Prop :=
  ∃ (i n : Nat), v5 = .int .i64 n ∧ v6 = .int .i64 i ∧ k = rs.length - i ∧ i ≤ rs.length ∧ n + ((rs.drop i).flatMap fun x => x.2.refs).count nm = U ∧ n + Syn.bodies (rs.drop i) ≤ 900000 ∧ Kp (fun _ => False) w0 w
def Us2 (w0 : World) (ns : List (List UInt8)) (nm : List UInt8) (fin most : Nat) (k : Nat) (v5 v8 : Value) (w : World) : Prop :=
  ∃ (j n : Nat), v5 = .int .i64 n ∧ v8 = .int .i64 j ∧ k = ns.length - j ∧ j ≤ ns.length ∧ n + (ns.drop j).count nm = fin ∧ n + (ns.length - j) + most ≤ 900000 ∧ Kp (fun _ => False) w0 w
set_option maxRecDepth 8000 in
set_option maxHeartbeats 8000000 in
theorem ruses_calls (w : World) (st : List UInt8) (rs : List (List UInt8 × Nod)) (ga : Option Addr) (ca : Nat) (nm : List UInt8) (hin : RulesIn w ga rs) (hl : rs.length ≤ 1000) (hfit : ∀ x ∈ rs, x.2.fits 100000) (hmost : Syn.bodies rs ≤ 800000) :
    Calls Try.prog 36 #[.agg #[.string ⟨st.toArray⟩, .slice ga rs.length ca], .string ⟨nm.toArray⟩] w fun e w' => e = .returned (.int .i64 (((rs.flatMap fun x => x.2.refs).count nm : Nat) : Int)) ∧ Kp (fun _ => False) w w' := by
  obtain ⟨L, hL⟩ : ∃ L, L = rs.length := ⟨_, rfl⟩
  obtain ⟨U, hU⟩ : ∃ U, U = (rs.flatMap fun x => x.2.refs).count nm := ⟨_, rfl⟩
  have hbx := Bk.new w 33 [.string ⟨st.toArray⟩, .slice ga rs.length ca]
  have hkn : Kp (fun _ => False) w (w.alloc (.cells #[.string ⟨st.toArray⟩, .slice ga rs.length ca] 33)) := (Kp.refl _ w).alloc _
  rw [← hL] at hl hbx hkn ⊢
  rw [← hU]
  obtain ⟨wa, hwa⟩ : ∃ wa, wa = w.alloc (.cells #[.string ⟨st.toArray⟩, .slice ga L ca] 33) := ⟨_, rfl⟩
  obtain ⟨bq, hbq⟩ : ∃ bq, bq = w.heap.size := ⟨_, rfl⟩
  rw [← hwa] at hbx hkn
  rw [← hbq] at hbx
  have HW := hid hwa
  have HQ := hid hbq
  have HL := hid hL
  have HU := hid hU
  have Hin := hid hin
  have Hfit := hid hfit
  have Hmost := hid hmost
  have Hbx := hid hbx
  have Hkn := hid hkn
  clear hwa hbq hL hin hfit hmost hbx hU hkn
  go_enter Try.func36, Try.ntmps36
  go_upto_region 1 with fail
  rw [← HW.out, ← HQ.out]
  go_wp2_with fail
  go_loopg [5, 6] L (fun k v5 v6 wr => Us1 wa rs nm U k v5 v6 wr)
  case atStart => exact ⟨0, 0, rfl, rfl, by rw [HL.out]; rfl, Nat.zero_le _, by rw [List.drop_zero, HU.out]; omega, by rw [List.drop_zero]; have := Hmost.out; omega, Kp.refl _ _⟩
  case round =>
    obtain ⟨i, n, rfl, rfl, hk, hil, hall, hmo, hkp⟩ := hrel
    have hbx := Hbx.out.kp hkp (fun e => e)
    have q1 := hbx.cell 1
    have hbl := hbx.lt
    have hk0 := Hkn.out.trans hkp
    simp only [List.getElem?_cons_zero, List.getElem?_cons_succ] at q1
    rcases Nat.lt_or_ge i rs.length with hlt | hge
    · have hltL : (i : Int) < (L : Int) := by have := HL.out; omega
      have hi0 : (0 : Int) ≤ (i : Int) := by omega
      obtain ⟨x, hxx⟩ : ∃ x, x = rs[i] := ⟨_, rfl⟩
      have hgx : rs[i]? = some x := by rw [hxx]; exact List.getElem?_eq_getElem hlt
      have hxm : x ∈ rs := by rw [hxx]; exact List.getElem_mem hlt
      obtain ⟨g1, o1, gk1, ck1, hga, hg1, a0, a1, a2, a3, hk1⟩ := Hin.out i x hgx
      have c1 := hk0.cell a1 (fun e => e)
      have c2 := hk0.cell a2 (fun e => e)
      have c3 := hk0.cell a3 (fun e => e)
      have hl1 : g1 < wr.heap.size := Nat.lt_of_lt_of_le hg1 hk0.size
      rw [List.drop_eq_getElem_cons hlt, ← hxx] at hall hmo
      rw [List.flatMap_cons, List.count_append] at hall
      rw [Syn.bodies] at hmo
      have hk2 : NdIn w gk1 x.2.kids 0 := hk1
      have hrc := rrefs_all x.2.kids.nodes x.2 wr gk1 ck1 rfl ((NdAt.kp hk0 (fun _ _ e => e) hk2).mono fun k (hk : k < w.heap.size) => Nat.lt_of_lt_of_le hk hk0.size) (Hfit.out x hxm) (by omega)
      simp only [nodeV] at hrc
      obtain ⟨kx, hkx⟩ : ∃ kx : Int, kx = x.2.kind := ⟨_, rfl⟩
      obtain ⟨tx, htx⟩ : ∃ tx, tx = x.2.text := ⟨_, rfl⟩
      obtain ⟨Lx, hLx⟩ : ∃ Lx, Lx = x.2.kids.len := ⟨_, rfl⟩
      obtain ⟨ns, hns⟩ : ∃ ns, ns = x.2.refs := ⟨_, rfl⟩
      obtain ⟨M, hM⟩ : ∃ M, M = ns.length := ⟨_, rfl⟩
      obtain ⟨fin, hfin⟩ : ∃ fin, fin = n + ns.count nm := ⟨_, rfl⟩
      rw [← hns, ← hkx, ← htx, ← hLx] at hrc
      rw [← hns, ← Nat.add_assoc, ← hfin] at hall
      rw [← hkx] at c1
      rw [← htx] at c2
      rw [← hLx] at c3
      have hMn : M ≤ x.2.kids.nodes + 1 := by
        rw [hM, hns]
        unfold Syn.Nod.refs
        have := Nd.refs_len x.2.kids
        split <;> simp <;> omega
      have hrc2 : Calls Try.prog 76 #[.agg #[.int .i64 kx, .string ⟨tx.toArray⟩, .slice gk1 Lx ck1]] wr fun e w2 => ∃ gr cr, e = .returned (.slice gr M cr) ∧ Hid (TxD w2 (fun _ => True) gr ns ∧ Kp (fun _ => False) wa w2) := by
        refine hrc.mono ?_
        rintro e w2 ⟨v2, rfl, ho2, hb2⟩
        obtain ⟨gr, cr, rfl, hd2⟩ := ho2.read
        exact ⟨gr, cr, by rw [hM], hid ⟨hd2.mono fun _ _ => trivial, hkp.trans (below_kp hb2)⟩⟩
      have hnb : (n : Int) ≤ 900000 := by omega
      have Hfin := hid hfin
      have HM := hid (And.intro hM hMn)
      have Hall := hid hall
      have Hmo := hid hmo
      have Hk := hid hk
      have Hlt := hid hlt
      subst hga
      clear hrc hfin hM hns hMn hk2 hall hmo hk hlt hil hkx htx hLx hgx hxx hxm a0 a1 a2 a3 hk1 hkp hk0 hbx
      go_upto_region 6 with (go_at_call 76; refine hrc2.mono ?_; rintro e w2 ⟨gr, cr, rfl, H2⟩)
      obtain ⟨wp, hwp⟩ : ∃ wp : World, wp = wr := ⟨_, rfl⟩
      have hM1 : (M : Int) ≤ 900001 := by have h1 := HM.out.2; have h2 := Hmo.out; omega
      clear hrc2 q1 hbl c1 c2 c3 hl1
      go_wp2_with fail
      go_loopg [5, 8] M (fun k v5 v8 wx => Us2 w2 ns nm fin (Syn.bodies (rs.drop (i + 1))) k v5 v8 wx)
      case atStart => exact ⟨0, n, rfl, rfl, by rw [HM.out.1]; rfl, Nat.zero_le _, by rw [Hfin.out]; rfl, by have h1 := Hmo.out; have h2 := HM.out; omega, Kp.refl _ _⟩
      case round =>
        obtain ⟨j, n1, rfl, rfl, hk3, hj, hf8, hmo8, hkp8⟩ := hrel
        rcases Nat.lt_or_ge j ns.length with hjl | hjge
        · have hjM : (j : Int) < (M : Int) := by have := HM.out.1; omega
          have hj0 : (0 : Int) ≤ (j : Int) := by omega
          have hn0 : (0 : Int) ≤ (n1 : Int) := by omega
          have hn9 : (n1 : Int) ≤ 900000 := by omega
          obtain ⟨t, ht⟩ : ∃ t, t = ns[j] := ⟨_, rfl⟩
          have hnt : ns[j]? = some t := by rw [ht]; exact List.getElem?_eq_getElem hjl
          have hdr : ns.drop j = t :: ns.drop (j + 1) := by rw [ht]; exact List.drop_eq_getElem_cons hjl
          rw [hdr, List.count_cons] at hf8
          obtain ⟨gq, oq, hgr, -, hgl, hct⟩ := (H2.out.1.kp hkp8 (fun _ _ e => e)).at hnt
          have Hkp8 := hid hkp8
          have Hmo8 := hid hmo8
          have Hk3 := hid hk3
          have Hj := hid (And.intro hj hjl)
          subst hgr
          clear hkp8 hmo8 hk3 hj hjl hnt ht hdr
          by_cases hc : t = nm
          · subst hc
            have e : n1 + 1 + (ns.drop (j + 1)).count t = fin := by rw [← hf8]; simp; omega
            have He := hid e
            clear e hf8
            go_wp2_with fail
            go_roundg (M - (j + 1))
            case measure => have := Hk3.out; have := HM.out.1; have := Hj.out.2; omega
            case rel => exact ⟨j + 1, n1 + 1, by go_num, by go_num, by rw [HM.out.1], Hj.out.2, He.out, by have := Hmo8.out; have := Hj.out.2; omega, Hkp8.out⟩
          · have hne : (t == nm) = false := by simpa using hc
            have e : n1 + (ns.drop (j + 1)).count nm = fin := by rw [← hf8, hne]; simp
            have He := hid e
            clear e hf8
            go_wp2_with fail
            go_roundg (M - (j + 1))
            case measure => have := Hk3.out; have := HM.out.1; have := Hj.out.2; omega
            case rel => exact ⟨j + 1, n1, rfl, by go_num, by rw [HM.out.1], Hj.out.2, He.out, by have := Hmo8.out; omega, Hkp8.out⟩
        · have hjM : ¬ (j : Int) < (M : Int) := by have := HM.out.1; omega
          rw [List.drop_of_length_le hjge, List.count_nil, Nat.add_zero] at hf8
          have Hf8 := hid hf8
          have Hmo8 := hid hmo8
          have Hkp8 := hid hkp8
          clear hf8 hmo8 hkp8 hk3 hj hjge
          go_wp2_with fail
          go_roundg (L - (i + 1))
          case measure => have := Hk.out; have := HL.out; have := Hlt.out; omega
          case rel => exact ⟨i + 1, n1, rfl, by go_num, by rw [HL.out], Hlt.out, by rw [Hf8.out]; exact Hall.out, by have := Hmo8.out; omega, H2.out.2.trans Hkp8.out⟩
    · have hgeL : ¬ (i : Int) < (L : Int) := by have := HL.out; omega
      rw [List.drop_of_length_le hge, List.flatMap_nil, List.count_nil, Nat.add_zero] at hall
      subst hall
      have Hk0 := hid hk0
      clear hk hil hmo hge hkp hk0 hbx
      go_wp2_with fail
      go_ret
      exact ⟨rfl, Hk0.out⟩
def EqT (w0 : World) (k : Nat) (L : Nat) (v5 : Value) (w : World) : Prop := ∃ i : Nat, v5 = .int .i64 i ∧ i ≤ L ∧ k = L - i ∧ Kp (fun _ => False) w0 w
set_option maxRecDepth 8000 in
set_option maxHeartbeats 4000000 in
/-- texts of alike rows. -/
theorem texts7_calls (w : World) (D E : Nat → Prop) (ga gb : Option Addr) (ca cb : Nat) (ss : List (List UInt8)) (ha : TxD w D ga ss) (hb : TxD w E gb ss) (hl : ss.length ≤ 1000000000) :
    Calls Try.prog 32 #[.slice ga ss.length ca, .slice gb ss.length cb] w fun e w' => e = .returned (.bool true) ∧ Kp (fun _ => False) w w' := by
  obtain ⟨L, hL⟩ : ∃ L, L = ss.length := ⟨_, rfl⟩
  rw [← hL] at hl ⊢
  have Ha := hid ha
  have Hb := hid hb
  have HL := hid hL
  clear ha hb hL
  go_enter Try.func32, Try.ntmps32
  go_wp2_with fail
  go_loopg [5] L (fun k v5 wr => EqT w k L v5 wr)
  case atStart => exact ⟨0, rfl, Nat.zero_le _, rfl, Kp.refl _ _⟩
  case round =>
    obtain ⟨i, rfl, hi, hk, hkp⟩ := hrel
    rcases Nat.lt_or_ge i L with hlt | hge
    · have hltL : (i : Int) < (L : Int) := by omega
      have hi0 : (0 : Int) ≤ (i : Int) := by omega
      obtain ⟨t, ht⟩ : ∃ t, ss[i]? = some t := ⟨_, List.getElem?_eq_getElem (by rw [← HL.out]; exact hlt)⟩
      obtain ⟨g1, o1, rfl, -, h1, c1⟩ := (Ha.out.kp hkp (fun _ _ e => e)).at ht
      obtain ⟨g2, o2, rfl, -, h2, c2⟩ := (Hb.out.kp hkp (fun _ _ e => e)).at ht
      have Hkp := hid hkp
      have Hk := hid (And.intro hk hlt)
      clear hkp hk hi hlt ht
      go_wp2_with fail
      go_quiet (fail)
      go_wp2_with fail
      go_roundg (L - (i + 1))
      case measure => have := Hk.out; omega
      case rel => exact ⟨i + 1, by go_num, Hk.out.2, rfl, Hkp.out.drewN _⟩
    · have hgeL : ¬ (i : Int) < (L : Int) := by omega
      have Hkp := hid hkp
      clear hkp hk hi hge
      go_wp2_with fail
      go_ret
      exact ⟨rfl, Hkp.out⟩
end Go.Proofs.Ytjaampgpihicmaa
