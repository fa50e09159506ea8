/- Chapter 7 (symbols): SymbolsTables. -/
import Derived.Test.YtjaampgpihicmaaLaw07a
import Derived.Test.YtjaampgpihicmaaSymD6
import Derived.Test.YtjaampgpihicmaaSymD7
import Derived.Test.YtjaampgpihicmaaSymD8
import Derived.Test.YtjaampgpihicmaaSymLaw2
import Derived.Test.YtjaampgpihicmaaCopy07
import Derived.Deep.RegionHeld3
namespace Go.Proofs.Ytjaampgpihicmaa
open Go.RowKit
attribute [local go_sem ↓] Go.wp_at_zero Go.wp_at_succ
attribute [local go_sem] frozen_alloc_lt
open Syn (Nd Nod)

/-- Symbols, read. -/
def SyIn (w : World) (gl : Option Addr) (l : List Sym) : Prop := ∀ (i : Nat) (p : Sym), l[i]? = some p → ∃ g, gl = some ⟨g, 0, none⟩ ∧ g < w.heap.size ∧ w.cell? ⟨g, i * 3, none⟩ = some (.string ⟨p.name.toArray⟩) ∧ w.cell? ⟨g, i * 3 + 1, none⟩ = some (.int .i64 p.rule) ∧ w.cell? ⟨g, i * 3 + 2, none⟩ = some (.int .i64 p.uses)
theorem SyIn.of {w : World} {B : Nat} {T : TypeId} {v : Value} {l : List Sym} (h : OwnA SymR 3 w B T v l) : ∃ gl cl, v = .slice gl l.length cl ∧ SyIn w gl l := by
  obtain ⟨gl, cl, hv, hl⟩ := h.lies SymR.fit
  refine ⟨gl, cl, hv, fun i p hp => ?_⟩
  obtain ⟨g, x, h1, h2, h3, h4, h5⟩ := hl i p hp
  have h4 : x = [.string ⟨p.name.toArray⟩, .int .i64 p.rule, .int .i64 p.uses] := h4
  subst h4
  exact ⟨g, h1, h3, h5 0 _ rfl, h5 1 _ rfl, h5 2 _ rfl⟩
theorem SyIn.kp {w w' : World} {gl : Option Addr} {l : List Sym} (h : SyIn w gl l) (hk : Kp (fun _ => False) w w') : SyIn w' gl l := fun i p hp => by
  obtain ⟨g, h1, h2, h3, h4, h5⟩ := h i p hp
  exact ⟨g, h1, Nat.lt_of_lt_of_le h2 hk.size, hk.cell h3 (fun e => e), hk.cell h4 (fun e => e), hk.cell h5 (fun e => e)⟩
/-- Texts, read. -/
def TxIn (w : World) (gl : Option Addr) (l : List (List UInt8)) : Prop := TxD w (fun _ => True) gl l
theorem TxIn.said {l : List (List UInt8)} {w : World} {e : Ending} {w' : World} (h : TxSaid l w e w') : ∃ gl cl, e = .returned (.slice gl l.length cl) ∧ TxIn w' gl l ∧ Kp (fun _ => False) w w' := by
  obtain ⟨v, rfl, h1, h2⟩ := h
  obtain ⟨gl, cl, rfl, h3⟩ := h1.read
  exact ⟨gl, cl, rfl, h3.mono fun _ _ => trivial, below_kp h2⟩
theorem TxIn.kp {w w' : World} {gl : Option Addr} {l : List (List UInt8)} (h : TxIn w gl l) (hk : Kp (fun _ => False) w w') : TxIn w' gl l := TxD.kp h hk (fun _ _ e => e)
def TaRel (w4 : World) (N : Nat) (k : Nat) (v8 : Value) (w : World) : Prop := ∃ i : Nat, v8 = .int .i64 i ∧ i ≤ N ∧ k = N - i ∧ Kp (fun _ => False) w4 w
section
variable (s : ByteArray) (w : World) (hs : s.size ≤ 9223372036854775807)
include hs
set_option maxRecDepth 8000 in
set_option maxHeartbeats 4000000 in
/-- A text that is not read. -/
theorem tables_no (h : 1000 < s.size ∨ ∃ f, Syn.parseS s.data.toList = .bad f) : Calls Try.prog 9 #[.string s] w fun e w' => e = .returned (.bool true) ∧ Below w.heap.size w w' := by
  have hrd : ∀ w, Calls Try.prog 26 #[.string s] w fun e w' => e = .returned (.tuple #[.agg #[.string ⟨#[]⟩, .slice none 0 0], .bool false]) ∧ Below w.heap.size w w' := fun w => by
    by_cases h1 : 1000 < s.size
    · exact read7_long s w hs h1
    · rcases h with h | ⟨f, h⟩
      · exact absurd h h1
      · exact read7_bad s w hs h1 h
  clear h hs
  go_enter Try.func9, Try.ntmps9
  go_wp2_with (first
    | (go_at_call 26; refine (hrd _).mono ?_; rintro e w2 ⟨rfl, hb2⟩)
    | (go_at_call 25; refine (speaks07_calls _).mono ?_; rintro e w1 ⟨rfl, hb1⟩))
  go_ret
  exact ⟨rfl, bel_trans hb1 (bel_trans hb2 (bel_new _ _))⟩
set_option maxRecDepth 8000 in
set_option maxHeartbeats 8000000 in
theorem tables_ok (h : ¬ 1000 < s.size) {st : List UInt8} {rs : List (List UInt8 × Nod)} (hp : Syn.parseS s.data.toList = .ok st rs) : Calls Try.prog 9 #[.string s] w fun e w' => e = .returned (.bool true) ∧ Below w.heap.size w w' := by
  obtain ⟨L, hL⟩ : ∃ L, L = rs.length := ⟨_, rfl⟩
  obtain ⟨tab, htab⟩ : ∃ tab, tab = tableS rs := ⟨_, rfl⟩
  obtain ⟨N, hN⟩ : ∃ N, N = tab.length := ⟨_, rfl⟩
  obtain ⟨tms, htms⟩ : ∃ tms, tms = (rs.flatMap fun x => x.2.lits).foldl nameA [] := ⟨_, rfl⟩
  obtain ⟨T, hT⟩ : ∃ T, T = tms.length := ⟨_, rfl⟩
  have hrd := fun w => read7_ok s w hs h hp
  have hkp := parse_keeps hp
  have hb9 := Syn.parse_bodies hp
  have htb := fun (w : World) ga ca (hin : RulesIn w ga rs) => table_parsed hp w ga ca hin
  have hnm := fun (w : World) ga ca (hin : RulesIn w ga rs) => rnames_calls w st rs ga ca hin (by omega) hkp.2.2.2.1 (by omega)
  have htm := fun (w : World) ga ca (hin : RulesIn w ga rs) => terminals_calls w st rs ga ca hin (by omega) hkp.2.2.2.1 hkp.2.2.2.2 (by omega)
  have hrt := fun (w : World) ga ca (hin : RulesIn w ga rs) => rterms_calls w st rs ga ca hin (by omega) hkp.2.2.2.1 (by omega)
  have hgr := fun (w : World) ga ca (hin : RulesIn w ga rs) => grammar07_calls w st rs ga ca hin (by omega) hkp.2.2.2.1
  have hfi := fun (w : World) ga ca t (hin : RulesIn w ga rs) => rfirst_calls w st rs ga ca t hin (by omega)
  have hus := fun (w : World) ga ca t (hin : RulesIn w ga rs) => ruses_calls w st rs ga ca t hin (by omega) hkp.2.2.2.1 (by omega)
  have hNl : N ≤ 200000 := by
    rw [hN, htab]
    have := table_len rs
    omega
  have hTl : T ≤ 1000000000 := by
    rw [hT, htms]
    have h1 := foldA_len (rs.flatMap fun x => x.2.lits) []
    have h2 := lits_bodies rs
    simp at h1
    simp only [List.length_flatMap] at h2
    omega
  rw [← hL] at hrd htb hnm htm hrt hgr hfi hus
  rw [← htab] at htb
  rw [← htms] at htm hrt
  have Hrd := hid hrd
  have HL := hid hL
  have Htb : Hid (∀ (W : World) ga ca, RulesIn W ga rs → Calls Try.prog 30 #[.agg #[.string ⟨st.toArray⟩, .slice ga L ca]] W fun e w3 => ∃ g2 c2, e = .returned (.slice g2 N c2) ∧ SyIn w3 g2 tab ∧ Kp (fun _ => False) W w3) := hid fun W ga ca hin => by
    refine (htb W ga ca hin).mono ?_
    rintro e w3 ⟨v, rfl, hown, hb⟩
    obtain ⟨gl, cl, rfl, hpr⟩ := SyIn.of hown
    exact ⟨gl, cl, by rw [hN], hpr, below_kp hb⟩
  have Hnm : Hid (∀ (W : World) ga ca, RulesIn W ga rs → Calls Try.prog 31 #[.agg #[.string ⟨st.toArray⟩, .slice ga L ca]] W fun e w3 => ∃ g2 c2, e = .returned (.slice g2 N c2) ∧ TxIn w3 g2 (tab.map Sym.name) ∧ Kp (fun _ => False) W w3) := hid fun W ga ca hin => by
    refine (hnm W ga ca hin).mono ?_
    intro e w3 hsd
    rw [← table_names, ← htab] at hsd
    obtain ⟨gl, cl, rfl, h1, h2⟩ := TxIn.said hsd
    exact ⟨gl, cl, by rw [hN, List.length_map], h1, h2⟩
  have Htm : Hid (∀ (W : World) ga ca, RulesIn W ga rs → Calls Try.prog 33 #[.agg #[.string ⟨st.toArray⟩, .slice ga L ca]] W fun e w3 => ∃ g2 c2, e = .returned (.slice g2 T c2) ∧ TxIn w3 g2 tms ∧ Kp (fun _ => False) W w3) := hid fun W ga ca hin => by
    refine (htm W ga ca hin).mono ?_
    intro e w3 hsd
    obtain ⟨gl, cl, rfl, h1, h2⟩ := TxIn.said hsd
    exact ⟨gl, cl, by rw [hT], h1, h2⟩
  have Hrt : Hid (∀ (W : World) ga ca, RulesIn W ga rs → Calls Try.prog 34 #[.agg #[.string ⟨st.toArray⟩, .slice ga L ca]] W fun e w3 => ∃ g2 c2, e = .returned (.slice g2 T c2) ∧ TxIn w3 g2 tms ∧ Kp (fun _ => False) W w3) := hid fun W ga ca hin => by
    refine (hrt W ga ca hin).mono ?_
    intro e w3 hsd
    obtain ⟨gl, cl, rfl, h1, h2⟩ := TxIn.said hsd
    exact ⟨gl, cl, by rw [hT], h1, h2⟩
  have Hgr : Hid (∀ (W : World) ga ca, RulesIn W ga rs → Calls Try.prog 29 #[.agg #[.string ⟨st.toArray⟩, .slice ga L ca]] W fun e w3 => ∃ g2 c2, e = .returned (.agg #[.string ⟨st.toArray⟩, .slice g2 L c2]) ∧ RulesIn w3 g2 rs ∧ Kp (fun _ => False) W w3) := hid fun W ga ca hin => by
    refine (hgr W ga ca hin).mono ?_
    rintro e w3 ⟨v, rfl, ⟨gl, cl, rfl, hr⟩, hb⟩
    exact ⟨gl, cl, by rw [hL], RulesIn.of hr, below_kp hb⟩
  have Hfi : Hid (∀ (W : World) ga ca t, RulesIn W ga rs → Calls Try.prog 35 #[.agg #[.string ⟨st.toArray⟩, .slice ga L ca], .string ⟨t.toArray⟩] W fun e w3 => e = .returned (.int .i64 (ruleOf rs t)) ∧ Kp (fun _ => False) W w3) := hid fun W ga ca t hin => by
    refine (hfi W ga ca t hin).mono ?_
    rintro e w3 ⟨rfl, rfl⟩
    exact ⟨rfl, (Kp.refl _ W).alloc _⟩
  have Hus := hid hus
  have Htx : Hid (∀ (W : World) ga gb ca cb, TxIn W ga tms → TxIn W gb tms → Calls Try.prog 32 #[.slice ga T ca, .slice gb T cb] W fun e w3 => e = .returned (.bool true) ∧ Kp (fun _ => False) W w3) := hid fun W ga gb ca cb ha hb => by
    have := texts7_calls W _ _ ga gb ca cb tms ha hb (by rw [← hT]; exact hTl)
    rw [← hT] at this
    exact this
  have HN := hid (And.intro hN htab)
  have htn : ∀ (i : Nat) (p : Sym), tab[i]? = some p → p.rule = ruleOf rs p.name ∧ p.uses = (rs.flatMap fun x => x.2.refs).count p.name := fun i p hpi => by
    have hm : p ∈ tableS rs := by rw [← htab]; exact List.mem_of_getElem? hpi
    exact ⟨table_rules rs p hm, table_uses rs p hm⟩
  have Htn := hid htn
  clear h hs hp hrd htb hnm htm hrt hgr hfi hus hkp hb9 hL htab hN htms hT htn hTl
  go_enter Try.func9, Try.ntmps9
  go_upto_region 6 with (first
    | (go_at_call 26; refine (Hrd.out _).mono ?_; rintro e w2 ⟨ga, ca, rfl, hr2, hb2⟩)
    | (go_at_call 25; refine (speaks07_calls _).mono ?_; rintro e w1 ⟨rfl, hb1⟩))
  have hbq := Bk.new w2 25 [.string ⟨st.toArray⟩, .slice ga L ca]
  have hbn := bel_new w2 (.cells #[.string ⟨st.toArray⟩, .slice ga L ca] 25)
  have hri := (RulesIn.of hr2).later hbn
  obtain ⟨C, hC⟩ : ∃ C, C = w2.heap.size := ⟨_, rfl⟩
  obtain ⟨wb, hwb⟩ : ∃ wb, wb = w2.alloc (.cells #[.string ⟨st.toArray⟩, .slice ga L ca] 25) := ⟨_, rfl⟩
  have hball := bel_trans hb1 (bel_trans hb2 hbn)
  rw [← hwb] at hbq hri hball ⊢
  rw [← hC] at hbq ⊢
  have x0 := hbq.cell 0
  have x1 := hbq.cell 1
  have hlq := hbq.lt
  simp only [List.getElem?_cons_zero, List.getElem?_cons_succ] at x0 x1
  have Hri := hid hri
  have Hb := hid hball
  have Hbq := hid hbq
  clear hri hball hbq hbn hb1 hb2 hr2 hwb hC
  go_upto_region 7 with (go_at_call 29; refine (Hgr.out _ _ _ Hri.out).mono ?_; rintro e w3 ⟨gw, cw, rfl, hr3, hk3⟩)
  have hbd := Bk.new w3 33 [.string ⟨st.toArray⟩, .slice gw L cw]
  have hkd : Kp (fun _ => False) wb (w3.alloc (.cells #[.string ⟨st.toArray⟩, .slice gw L cw] 33)) := hk3.alloc _
  have hrd := hr3.later (bel_new w3 (.cells #[.string ⟨st.toArray⟩, .slice gw L cw] 33))
  obtain ⟨Z, hZ⟩ : ∃ Z, Z = w3.heap.size := ⟨_, rfl⟩
  obtain ⟨wd, hwd⟩ : ∃ wd, wd = w3.alloc (.cells #[.string ⟨st.toArray⟩, .slice gw L cw] 33) := ⟨_, rfl⟩
  rw [← hwd] at hbd hkd hrd ⊢
  rw [← hZ] at hbd ⊢
  have hrka : ∀ W, Kp (fun _ => False) wd W → RulesIn W ga rs := fun W hk => (RulesM.kp Hri.out (hkd.trans hk) (fun _ _ e => e)).mono fun k (hk2 : k < wb.heap.size) => Nat.lt_of_lt_of_le hk2 (hkd.trans hk).size
  have hrkw : ∀ W, Kp (fun _ => False) wd W → RulesIn W gw rs := fun W hk => (RulesM.kp hrd hk (fun _ _ e => e)).mono fun k (hk2 : k < wd.heap.size) => Nat.lt_of_lt_of_le hk2 hk.size
  have hbq2 := Hbq.out.kp hkd (fun e => e)
  have a0 := hbq2.cell 0
  have a1 := hbq2.cell 1
  have b0 := hbd.cell 0
  have b1 := hbd.cell 1
  simp only [List.getElem?_cons_zero, List.getElem?_cons_succ] at a0 a1 b0 b1
  have Hrka := hid hrka
  have Hrkw := hid hrkw
  have Hkd := hid hkd
  clear hrka hrkw hkd hrd hbd hbq2 hk3 hr3 hZ hwd x0 x1 hlq
  go_region_held3 (fun W : World => (W.cell? ⟨C, 0, none⟩ = some (.string ⟨st.toArray⟩) ∧ W.cell? ⟨C, 1, none⟩ = some (.slice ga L ca)) ∧ W.cell? ⟨Z, 0, none⟩ = some (.string ⟨st.toArray⟩) ∧ W.cell? ⟨Z, 1, none⟩ = some (.slice gw L cw)) (first | exact ⟨⟨a0, a1⟩, b0, b1⟩ | exact ⟨⟨c0, c1⟩, d0, d1⟩ | exact ⟨⟨e0, e1⟩, f0, f1⟩)
    (first
      | (go_at_call 31; refine (Hnm.out _ _ _ (Hrkw.out _ hk4)).mono ?_; rintro e w5 ⟨g5, c5, rfl, hp5, hk5⟩; have e0 := hk5.cell c0 (fun e => e); have e1 := hk5.cell c1 (fun e => e); have f0 := hk5.cell d0 (fun e => e); have f1 := hk5.cell d1 (fun e => e))
      | (go_at_call 30; refine (Htb.out _ _ _ (Hrka.out _ (Kp.refl _ wd).drew)).mono ?_; rintro e w4 ⟨g4, c4, rfl, hp4, hk4'⟩; have hk4 := (Kp.refl (fun _ => False) wd).drew.trans hk4'; have c0 := hk4.cell a0 (fun e => e); have c1 := hk4.cell a1 (fun e => e); have d0 := hk4.cell b0 (fun e => e); have d1 := hk4.cell b1 (fun e => e)))
  have hkA := hk4.trans hk5
  have hsy := hp4.kp hk5
  obtain ⟨wf, hwf⟩ : ∃ wf : World, wf = w5 := ⟨_, rfl⟩
  have HkA := hid hkA
  have Hsy := hid hsy
  have Hnms := hid hp5
  clear hkA hsy hp4 hp5 hk4 hk4' hk5 a0 a1 b0 b1 c0 c1 d0 d1 hwf wf
  go_wp2_with fail
  go_region_held3 (fun W : World => (W.cell? ⟨C, 0, none⟩ = some (.string ⟨st.toArray⟩) ∧ W.cell? ⟨C, 1, none⟩ = some (.slice ga L ca)) ∧ W.cell? ⟨Z, 0, none⟩ = some (.string ⟨st.toArray⟩) ∧ W.cell? ⟨Z, 1, none⟩ = some (.slice gw L cw)) (first | exact ⟨⟨e0, e1⟩, f0, f1⟩ | exact ⟨⟨a0, a1⟩, b0, b1⟩ | exact ⟨⟨c0, c1⟩, d0, d1⟩ | exact ⟨⟨r0, r1⟩, s0, s1⟩)
    (first
      | (go_at_call 32; refine (Htx.out _ _ _ _ _ (hp6.kp hk7) hp7).mono ?_; rintro e w8 ⟨rfl, hk8⟩; have r0 := hk8.cell c0 (fun e => e); have r1 := hk8.cell c1 (fun e => e); have s0 := hk8.cell d0 (fun e => e); have s1 := hk8.cell d1 (fun e => e))
      | (go_at_call 34; refine (Hrt.out _ _ _ (Hrkw.out _ hk6)).mono ?_; rintro e w7 ⟨g7, c7, rfl, hp7, hk7⟩; have c0 := hk7.cell a0 (fun e => e); have c1 := hk7.cell a1 (fun e => e); have d0 := hk7.cell b0 (fun e => e); have d1 := hk7.cell b1 (fun e => e))
      | (go_at_call 33; refine (Htm.out _ _ _ (Hrka.out _ HkA.out.drew)).mono ?_; rintro e w6 ⟨g6, c6, rfl, hp6, hk6'⟩; have hk6 := HkA.out.drew.trans hk6'; have hk6b := (Kp.refl (fun _ => False) w5).drew.trans hk6'; have a0 := hk6b.cell e0 (fun e => e); have a1 := hk6b.cell e1 (fun e => e); have b0 := hk6b.cell f0 (fun e => e); have b1 := hk6b.cell f1 (fun e => e)))
  have hkB := (hk6.trans hk7).trans hk8
  have hkC := (hk6b.trans hk7).trans hk8
  have Hsy2 := hid (Hsy.out.kp hkC)
  have Hnm2 := hid (Hnms.out.kp hkC)
  have HkB := hid hkB
  have Hbel := hid (Hb.out.trans ((Hkd.out.trans hkB).to_below Hb.out.size (fun k e => e.elim)))
  have hlz : Z < w8.heap.size := by
    have h1 := World.block_lt_of_cell? w8 _ s0
    exact h1
  clear hkB hkC hp6 hp7 hk6 hk6' hk6b hk7 hk8 a0 a1 b0 b1 c0 c1 d0 d1 e0 e1 f0 f1 Hsy Hnms r0 r1
  have S0 := hid (And.intro s0 (And.intro s1 hlz))
  clear s0 s1 hlz
  go_wp2_with fail
  go_loopg [8] N (fun k v8 wx => TaRel w8 N k v8 wx)
  case atStart => exact ⟨0, rfl, Nat.zero_le _, rfl, Kp.refl _ _⟩
  case round =>
    obtain ⟨i, rfl, hi, hk, hkp⟩ := hrel
    rcases Nat.lt_or_ge i N with hlt | hge
    · have hltN : (i : Int) < (N : Int) := by omega
      have hi0 : (0 : Int) ≤ (i : Int) := by omega
      obtain ⟨p, hpi⟩ : ∃ p, tab[i]? = some p := ⟨_, List.getElem?_eq_getElem (by rw [← HN.out.1]; exact hlt)⟩
      obtain ⟨hpr, hpu⟩ := Htn.out i p hpi
      obtain ⟨ga3, rfl, hl3, a0, a1, a2⟩ := (Hsy2.out.kp hkp) i p hpi
      obtain ⟨gb3, ob, rfl, -, hm3, b0⟩ := (Hnm2.out.kp hkp).at (i := i) (t := p.name) (by rw [List.getElem?_map, hpi]; rfl)
      have z0 := hkp.cell S0.out.1 (fun e => e)
      have z1 := hkp.cell S0.out.2.1 (fun e => e)
      have hlz : Z < wr.heap.size := Nat.lt_of_lt_of_le S0.out.2.2 hkp.size
      obtain ⟨pn, hpn⟩ : ∃ pn, pn = p.name := ⟨_, rfl⟩
      obtain ⟨pr, hpr2⟩ : ∃ pr : Int, pr = p.rule := ⟨_, rfl⟩
      obtain ⟨pu, hpu2⟩ : ∃ pu : Nat, pu = p.uses := ⟨_, rfl⟩
      rw [← hpn] at a0 b0 hpr hpu
      rw [← hpr2] at a1 hpr
      rw [← hpu2] at a2 hpu
      have hfi := fun W (hk : Kp (fun _ => False) wr W) => Hfi.out W gw cw pn (Hrkw.out W ((HkB.out.trans hkp).trans hk))
      have hus := fun W (hk : Kp (fun _ => False) wr W) => Hus.out W gw cw pn (Hrkw.out W ((HkB.out.trans hkp).trans hk))
      rw [← hpr] at hfi
      rw [← hpu] at hus
      have Hfi2 := hid hfi
      have Hus2 := hid hus
      have Hkp := hid hkp
      have Hk := hid (And.intro hk hlt)
      clear hkp hk hi hlt hpn hpr hpu hpr2 hpu2 hpi hfi hus
      go_wp2_with fail
      go_cut [64] from 43 to 63 (fun v64 wx => v64 = .bool false ∧ Kp (fun _ => False) wr wx)
      case first =>
        go_region_held3 (fun W : World => ((W.cell? ⟨ga3, i * 3, none⟩ = some (.string ⟨pn.toArray⟩) ∧ W.cell? ⟨ga3, i * 3 + 1, none⟩ = some (.int .i64 pr) ∧ W.cell? ⟨ga3, i * 3 + 2, none⟩ = some (.int .i64 (pu : Int))) ∧ W.cell? ⟨gb3, ob + i, none⟩ = some (.string ⟨pn.toArray⟩)) ∧ W.cell? ⟨Z, 0, none⟩ = some (.string ⟨st.toArray⟩) ∧ W.cell? ⟨Z, 1, none⟩ = some (.slice gw L cw)) (first | exact ⟨⟨⟨a0, a1, a2⟩, b0⟩, z0, z1⟩ | exact ⟨⟨⟨c0, c1, c2⟩, d0⟩, e0, e1⟩ | exact ⟨⟨⟨f0, f1, f2⟩, r0⟩, s0, s1⟩)
          (first
            | (go_at_call 36; refine (Hus2.out _ hkf).mono ?_; rintro e w10 ⟨rfl, hku⟩; have f0 := hku.cell c0 (fun e => e); have f1 := hku.cell c1 (fun e => e); have f2 := hku.cell c2 (fun e => e); have r0 := hku.cell d0 (fun e => e); have s0 := hku.cell e0 (fun e => e); have s1 := hku.cell e1 (fun e => e))
            | (go_at_call 35; refine (Hfi2.out _ (Kp.refl _ wr).drew).mono ?_; rintro e w9 ⟨rfl, hkf'⟩; have hkf := (Kp.refl (fun _ => False) wr).drew.trans hkf'; have c0 := hkf.cell a0 (fun e => e); have c1 := hkf.cell a1 (fun e => e); have c2 := hkf.cell a2 (fun e => e); have d0 := hkf.cell b0 (fun e => e); have e0 := hkf.cell z0 (fun e => e); have e1 := hkf.cell z1 (fun e => e)))
        have hkz := hkf.trans hku
        go_wp2_with fail
        go_meet
        exact ⟨rfl, hkz⟩
      case rest =>
        obtain ⟨h64, hk9⟩ := hcut
        subst h64
        have Hk9 := hid (Hkp.out.trans hk9)
        clear hk9
        go_wp2_with fail
        go_roundg (N - (i + 1))
        case measure => have := Hk.out; omega
        case rel => exact ⟨i + 1, by go_num, Hk.out.2, rfl, Hk9.out⟩
    · have hgeN : ¬ (i : Int) < (N : Int) := by omega
      have Hkp := hid hkp
      clear hkp hk hi hge
      go_wp2_with fail
      go_ret
      exact ⟨rfl, Hbel.out.trans (Hkp.out.to_below Hbel.out.size (fun k e => e.elim))⟩
end
/-- SymbolsTables, of any text. -/
theorem tables_calls (s : ByteArray) (w : World) (hs : s.size ≤ 9223372036854775807) : Calls Try.prog 9 #[.string s] w fun e w' => e = .returned (.bool true) ∧ Below w.heap.size w w' := by
  by_cases h : 1000 < s.size
  · exact tables_no s w hs (.inl h)
  · cases hp : Syn.parseS s.data.toList with
    | bad f => exact tables_no s w hs (.inr ⟨f, hp⟩)
    | ok st rs => exact tables_ok s w hs h hp
end Go.Proofs.Ytjaampgpihicmaa
