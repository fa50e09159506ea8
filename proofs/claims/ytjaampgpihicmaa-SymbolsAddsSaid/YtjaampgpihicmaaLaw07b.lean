/- Chapter 7 (symbols): SymbolsAdds. -/
import Derived.Test.YtjaampgpihicmaaLaw07a
import Derived.Test.YtjaampgpihicmaaSym10
import Derived.BigQuiet
import Derived.Deep.CutBlock
import Derived.Deep.DeepCutAuto
import Derived.Deep.RegionLaw
namespace Go.Proofs.Ytjaampgpihicmaa
open Go.RowKit
attribute [local go_sem ↓] Go.wp_at_zero Go.wp_at_succ
attribute [local go_sem] frozen_alloc_lt
open Syn (Nd Nod)

theorem own_blk {g L c q : Nat} (e : (Value.slice (some ⟨g, 0, none⟩) L c).ownBlock = some q) : g = q := by simpa [Value.ownBlock] using e
theorem lack_take (l : List Sym) (i : Nat) {x : Sym} (h : l[i]? = some x) : lackS (l.take (i + 1)) = lackS (l.take i) ++ (if x.rule < 0 then [seqR x.name] else []) := by
  have hl := (List.getElem?_eq_some_iff.1 h).1
  have hx := (List.getElem?_eq_some_iff.1 h).2
  rw [List.take_succ_eq_append_getElem hl, hx]
  unfold lackS
  rw [List.filter_append, List.map_append]
  by_cases h1 : x.rule < 0
  · simp [h1]
  · simp [h1]
theorem startIn_take (st : List UInt8) (l : List Sym) (i : Nat) {x : Sym} (h : l[i]? = some x) : startIn st (l.take (i + 1)) = (startIn st (l.take i) || x.name == st) := by
  have hl := (List.getElem?_eq_some_iff.1 h).1
  have hx := (List.getElem?_eq_some_iff.1 h).2
  rw [List.take_succ_eq_append_getElem hl, hx]
  unfold startIn
  rw [List.any_append]
  simp
theorem dups_app (all : List (List UInt8 × Nod)) : ∀ (a b : List (List UInt8 × Nod)) (i : Nat), dupsFrom all i (a ++ b) = dupsFrom all i a ++ dupsFrom all (i + a.length) b
  | [], b, i => rfl
  | x :: r, b, i => by
    rw [List.cons_append, dupsFrom, dupsFrom, dups_app all r b (i + 1), List.append_assoc, List.length_cons, show i + 1 + r.length = i + (r.length + 1) by omega]
theorem dups_take (rs : List (List UInt8 × Nod)) (i : Nat) {x : List UInt8 × Nod} (h : rs[i]? = some x) : (dupsFrom rs 0 (rs.take (i + 1))).length = (dupsFrom rs 0 (rs.take i)).length + (if firstAt rs 0 x.1 = some i then 0 else 1) := by
  have hl := (List.getElem?_eq_some_iff.1 h).1
  have hx := (List.getElem?_eq_some_iff.1 h).2
  rw [List.take_succ_eq_append_getElem hl, hx, dups_app, List.length_append, dupsFrom, List.length_append, List.length_take, Nat.zero_add, Nat.min_eq_left (by omega)]
  simp only [dupsFrom, List.length_nil]
  split <;> simp
/-- In the first loop: start is v7, i is v8. -/
def AdRel (w0 wa : World) (C B bh gt : Nat) (st : List UInt8) (rs : List (List UInt8 × Nod)) (tab : List Sym) (k : Nat) (v7 v8 : Value) (w : World) : Prop :=
  ∃ (i : Nat) (v : Value), v7 = .bool (startIn st (tab.take i)) ∧ v8 = .int .i64 i ∧ i ≤ tab.length ∧ k = tab.length - i ∧ HSt w0 C B bh st v (rs ++ lackS (tab.take i)) w ∧ Kp (fun k => C < k ∧ k ≠ gt) wa w ∧ ∀ q, v.ownBlock = some q → q ≠ gt
def TwRel (w7 : World) (rs : List (List UInt8 × Nod)) (k : Nat) (v10 v11 : Value) (w : World) : Prop :=
  ∃ (i tw : Nat), v10 = .int .i64 tw ∧ v11 = .int .i64 i ∧ i ≤ rs.length ∧ k = rs.length - i ∧ tw = (dupsFrom rs 0 (rs.take i)).length ∧ Kp (fun _ => False) w7 w
def TkRel (w7 : World) (rs : List (List UInt8 × Nod)) (i tw : Nat) (nm : List UInt8) (k : Nat) (v10 v12 : Value) (w : World) : Prop :=
  ∃ j : Nat, v10 = .int .i64 tw ∧ v12 = .int .i64 j ∧ j ≤ i ∧ k = i - j ∧ firstAt (rs.drop j) j nm = firstAt rs 0 nm ∧ Kp (fun _ => False) w7 w
def CdRel (w7 : World) (n : Nat) (k : Nat) (v13 : Value) (w : World) : Prop := ∃ i : Nat, v13 = .int .i64 i ∧ i ≤ n ∧ k = n - i ∧ Kp (fun _ => False) w7 w
section
variable (s : ByteArray) (w : World) (hs : s.size ≤ 9223372036854775807)
include hs
set_option maxRecDepth 8000 in
set_option maxHeartbeats 4000000 in
/-- A text that is not read. -/
theorem adds_no (h : 1000 < s.size ∨ ∃ f, Syn.parseS s.data.toList = .bad f) : Calls Try.prog 8 #[.string s] w fun e w' => e = .returned (.bool true) ∧ Below w.heap.size w w' := by
  have hrd : ∀ w, Calls Try.prog 26 #[.string s] w fun e w' => e = .returned (.tuple #[.agg #[.string ⟨#[]⟩, .slice none 0 0], .bool false]) ∧ Below w.heap.size w w' := fun w => by
    by_cases h1 : 1000 < s.size
    · exact read7_long s w hs h1
    · rcases h with h | ⟨f, h⟩
      · exact absurd h h1
      · exact read7_bad s w hs h1 h
  clear h hs
  go_enter Try.func8, Try.ntmps8
  go_wp2_with (first
    | (go_at_call 26; refine (hrd _).mono ?_; rintro e w2 ⟨rfl, hb2⟩)
    | (go_at_call 25; refine (speaks07_calls _).mono ?_; rintro e w1 ⟨rfl, hb1⟩))
  go_ret
  exact ⟨rfl, bel_trans hb1 (bel_trans hb2 (bel_new _ _))⟩
set_option maxRecDepth 8000 in
set_option maxHeartbeats 8000000 in
theorem adds_ok (h : ¬ 1000 < s.size) {st : List UInt8} {rs : List (List UInt8 × Nod)} (hp : Syn.parseS s.data.toList = .ok st rs) : Calls Try.prog 8 #[.string s] w fun e w' => e = .returned (.bool true) ∧ Below w.heap.size w w' := by
  obtain ⟨L, hL⟩ : ∃ L, L = rs.length := ⟨_, rfl⟩
  have hrd := fun w => read7_ok s w hs h hp
  have hkp := parse_keeps hp
  have hpp := (Syn.parse_proper hp).2.1
  have hlen : s.data.toList.length ≤ 1000 := by have := Lib.size_eq s; omega
  have Hlen := hid hlen
  rw [← hL] at hrd hkp
  have Hrd := hid hrd
  have Hkp := hid hkp
  have Hne := hid hpp
  have Hp := hid hp
  have HL := hid hL
  clear h hs hrd hkp hpp hp hL hlen
  go_enter Try.func8, Try.ntmps8
  go_upto_region 6 with (first
    | (go_at_call 26; refine (Hrd.out _).mono ?_; rintro e w2 ⟨ga, ca, rfl, hr2, hb2⟩)
    | (go_at_call 25; refine (speaks07_calls _).mono ?_; rintro e w1 ⟨rfl, hb1⟩))
  have hbq := Bk.new w2 25 [.string ⟨st.toArray⟩, .slice ga L ca]
  have hbn := bel_new w2 (.cells #[.string ⟨st.toArray⟩, .slice ga L ca] 25)
  have hr3 := RulesM.kp hr2 (below_kp hbn) (fun _ _ e => e)
  have hlq := hbq.lt
  obtain ⟨C, hC⟩ : ∃ C, C = w2.heap.size := ⟨_, rfl⟩
  obtain ⟨B, hB⟩ : ∃ B, B = w1.heap.size := ⟨_, rfl⟩
  obtain ⟨wb, hwb⟩ : ∃ wb, wb = w2.alloc (.cells #[.string ⟨st.toArray⟩, .slice ga L ca] 25) := ⟨_, rfl⟩
  have hwbs : wb.heap.size = C + 1 := by rw [hwb, hC]; simp
  rw [← hwb] at hbq hbn hr3 hlq ⊢
  rw [← hC] at hbq hlq ⊢
  have hr4 := hr3.mono (D' := fun k => B ≤ k ∧ k < C) fun k hk => ⟨by rw [hB]; exact hk.1, by rw [hC]; exact hk.2⟩
  have x0 := hbq.cell 0
  have x1 := hbq.cell 1
  simp only [List.getElem?_cons_zero, List.getElem?_cons_succ] at x0 x1
  have hcp := fun (wx : World) (hk : Kp (fun _ => False) wb wx) (ad : Addr) (ty : TypeId) => copy_rules wx (fun k => B ≤ k ∧ k < C) B C ga ca rs (RulesM.kp hr4 hk (fun _ _ e => e)) (fun k hk2 => hk2) (by have := hk.size; omega) Hne.out (by have := HL.out; have := Hkp.out.1; omega) (by have := hb2.size; have := hk.size; omega) ad ty
  rw [← HL.out] at hcp
  have Hcp := hid hcp
  have Hbq := hid hbq
  have Hr4 := hid hr4
  have Hb := hid (bel_trans hb1 (bel_trans hb2 hbn))
  have HC := hid (show B ≤ C by have := hb2.size; omega)
  have Hwrs := hid hwbs
  have HB := hid (show w.heap.size ≤ B by have := hb1.size; omega)
  clear hr2 hr3 hr4 hbq hbn hb1 hb2 hwb hB hC hcp hwbs
  go_cut [5] from 23 to 29 (fun v5 wx => ∃ bh v, v5 = .pointer (some ⟨bh, 0, none⟩) ∧ HSt wb C B bh st v rs wx)
  case first =>
    have hE : ∀ W : World, Kp (fun _ => False) W (W.alloc (.cells #[] 51)) := fun W => (Kp.refl _ W).alloc _
    obtain ⟨gA, cA, wA, hrA, kA, lA, f0A, f1A, HA⟩ : ∃ g2 cap2 w5, (Builtin.append_ #[23, 23] 23 #[.slice (some ⟨wb.heap.size + 1, 0, none⟩) 0 0, .slice ga L ca]).run Try.prog ((wb.alloc (.cells #[.string ⟨#[]⟩, .slice none 0 0] 25)).alloc (.cells #[] 51)).drew = .ok (.slice (some ⟨g2, 0, none⟩) L cap2) w5 ∧ Hid (Bk w5 wb.heap.size 25 [.string ⟨#[]⟩, .slice none 0 0]) ∧ wb.heap.size < w5.heap.size ∧ w5.frozen? ⟨wb.heap.size, 0, none⟩ = false ∧ w5.frozen? ⟨wb.heap.size, 1, none⟩ = false ∧ Hid (OwnA (RuleP C) 4 w5 B 51 (.slice (some ⟨g2, 0, none⟩) L cap2) rs ∧ Kp (fun _ => False) wb w5 ∧ wb.heap.size < g2) := by
      have hk0 : Kp (fun _ => False) wb ((wb.alloc (.cells #[.string ⟨#[]⟩, .slice none 0 0] 25)).alloc (.cells #[] 51)).drew := (((Kp.refl _ wb).alloc _).alloc _).drew
      obtain ⟨g2, c2, w5, h1, h2, h3, h4, h5⟩ := Hcp.out _ hk0 ⟨wb.heap.size + 1, 0, none⟩ 23
      have hb := (((Bk.new wb 25 [.string ⟨#[]⟩, .slice none 0 0]).alloc (.cells #[] 51)).kp ((Kp.refl (fun _ => False) _).drew) (fun e => e)).kp h3 (fun e => e)
      exact ⟨g2, c2, w5, h1, hid hb, hb.lt, hb.free 0, hb.free 1, hid ⟨h2, hk0.trans h3, by rw [h4]; show _ < (World.drew _).heap.size; simp [World.drew]; omega⟩⟩
    obtain ⟨gB, cB, wB, hrB, kB, lB, f0B, f1B, HB5⟩ : ∃ g2 cap2 w5, (Builtin.append_ #[23, 23] 23 #[.slice (some ⟨wb.heap.size, 0, none⟩) 0 0, .slice ga L ca]).run Try.prog ((wb.alloc (.cells #[] 51)).alloc (.cells #[.string ⟨#[]⟩, .slice none 0 0] 25)).drew = .ok (.slice (some ⟨g2, 0, none⟩) L cap2) w5 ∧ Hid (Bk w5 (wb.heap.size + 1) 25 [.string ⟨#[]⟩, .slice none 0 0]) ∧ wb.heap.size + 1 < w5.heap.size ∧ w5.frozen? ⟨wb.heap.size + 1, 0, none⟩ = false ∧ w5.frozen? ⟨wb.heap.size + 1, 1, none⟩ = false ∧ Hid (OwnA (RuleP C) 4 w5 B 51 (.slice (some ⟨g2, 0, none⟩) L cap2) rs ∧ Kp (fun _ => False) wb w5 ∧ wb.heap.size + 1 < g2) := by
      have hk0 : Kp (fun _ => False) wb ((wb.alloc (.cells #[] 51)).alloc (.cells #[.string ⟨#[]⟩, .slice none 0 0] 25)).drew := (((Kp.refl _ wb).alloc _).alloc _).drew
      obtain ⟨g2, c2, w5, h1, h2, h3, h4, h5⟩ := Hcp.out _ hk0 ⟨wb.heap.size, 0, none⟩ 23
      have hb0 := Bk.new (wb.alloc (.cells #[] 51)) 25 [.string ⟨#[]⟩, .slice none 0 0]
      rw [show (wb.alloc (.cells #[] 51)).heap.size = wb.heap.size + 1 by simp] at hb0
      have hb := (hb0.kp ((Kp.refl (fun _ => False) _).drew) (fun e => e)).kp h3 (fun e => e)
      exact ⟨g2, c2, w5, h1, hid hb, hb.lt, hb.free 0, hb.free 1, hid ⟨h2, hk0.trans h3, by rw [h4]; show _ < (World.drew _).heap.size; simp [World.drew]⟩⟩
    obtain ⟨gC, cC, wC, hrC, HC5⟩ : ∃ g2 cap2 w5, (Builtin.append_ #[23, 23] 23 #[.slice (some ⟨wb.heap.size, 0, none⟩) 0 0, .slice ga L ca]).run Try.prog (wb.alloc (.cells #[] 51)).drew = .ok (.slice (some ⟨g2, 0, none⟩) L cap2) w5 ∧ Hid (OwnA (RuleP C) 4 w5 B 51 (.slice (some ⟨g2, 0, none⟩) L cap2) rs ∧ Kp (fun _ => False) wb w5 ∧ wb.heap.size < g2) := by
      have hk0 : Kp (fun _ => False) wb (wb.alloc (.cells #[] 51)).drew := ((Kp.refl _ wb).alloc _).drew
      obtain ⟨g2, c2, w5, h1, h2, h3, h4, h5⟩ := Hcp.out _ hk0 ⟨wb.heap.size, 0, none⟩ 23
      exact ⟨g2, c2, w5, h1, hid ⟨h2, hk0.trans h3, by rw [h4]; show _ < (World.drew _).heap.size; simp [World.drew]⟩⟩
    have a0 := kA.out.cell 0
    have a1 := kA.out.cell 1
    have b0 := kB.out.cell 0
    have b1 := kB.out.cell 1
    have qA := (Hbq.out.kp HA.out.2.1 (fun e => e)).cell 0
    have qB := (Hbq.out.kp HB5.out.2.1 (fun e => e)).cell 0
    have qC := (Hbq.out.kp HC5.out.2.1 (fun e => e)).cell 0
    have lA2 := (Hbq.out.kp HA.out.2.1 (fun e => e)).lt
    have lB2 := (Hbq.out.kp HB5.out.2.1 (fun e => e)).lt
    have lC2 := (Hbq.out.kp HC5.out.2.1 (fun e => e)).lt
    simp only [List.getElem?_cons_zero, List.getElem?_cons_succ] at a0 a1 b0 b1 qA qB qC
    have FA := hid (h_done (C := C) kA.out (by have := Hwrs.out; omega) HA.out.1 HA.out.2.1 (fun q e => by have e := own_blk e; have := HA.out.2.2; have := Hwrs.out; constructor <;> omega) Hwrs.out HC.out st)
    have FB := hid (h_done (C := C) kB.out (by have := Hwrs.out; omega) HB5.out.1 HB5.out.2.1 (fun q e => by have e := own_blk e; have := HB5.out.2.2; have := Hwrs.out; constructor <;> omega) Hwrs.out HC.out st)
    have FC := hid (h_done2 (C := C) HC5.out.1 HC5.out.2.1 (fun q e => by have e := own_blk e; have := HC5.out.2.2; have := Hwrs.out; omega) Hwrs.out HC.out st)
    go_region_law (first
      | (refine step_app (by rfl) _ _ _ (by rfl) (.slice (some ⟨wb.heap.size + 1, 0, none⟩) 0 0) (.slice ga L ca) _ wA (by go_simp) (by go_simp) (by exact hrA) ?_)
      | (refine step_app (by rfl) _ _ _ (by rfl) (.slice (some ⟨wb.heap.size, 0, none⟩) 0 0) (.slice ga L ca) _ wB (by go_simp) (by go_simp) (by exact hrB) ?_)
      | (refine step_app (by rfl) _ _ _ (by rfl) (.slice (some ⟨wb.heap.size, 0, none⟩) 0 0) (.slice ga L ca) _ wC (by go_simp) (by go_simp) (by exact hrC) ?_))
    all_goals
      go_wp2_with fail
      go_meet
      first
        | exact ⟨_, _, rfl, FA.out⟩
        | exact ⟨_, _, rfl, FB.out⟩
        | exact ⟨_, _, rfl, FC.out⟩
  case rest =>
    obtain ⟨bh, vh, rfl, hst⟩ := hcut
    have hri : RulesIn wc ga rs := (RulesM.kp Hr4.out hst.old (fun _ _ e => e)).mono fun k hk => by have := hst.kp.size; have := hst.sz; omega
    have htc := table_parsed Hp.out wc ga ca hri
    rw [← HL.out] at htc
    have hbq := Hbq.out.kp hst.old (fun e => e)
    have y0 := hbq.cell 0
    have y1 := hbq.cell 1
    have hlq2 := hbq.lt
    simp only [List.getElem?_cons_zero, List.getElem?_cons_succ] at y0 y1
    obtain ⟨tab, htab⟩ : ∃ tab, tab = tableS rs := ⟨_, rfl⟩
    obtain ⟨M, hM⟩ : ∃ M, M = tab.length := ⟨_, rfl⟩
    rw [← htab] at htc
    have hMl : M ≤ 140128 := by rw [hM, htab]; have := table_len rs; have := Syn.parse_bodies Hp.out; have := Hkp.out.1; have := HL.out; omega
    have Hst := hid hst
    have Hri := hid hri
    have Htab := hid htab
    have HM := hid hM
    clear hst hri hbq htab hM x0 x1 hlq
    go_upto_region 8 with (go_at_call 30; refine htc.mono ?_; rintro e wa ⟨v6, rfl, hown6, hb6⟩; obtain ⟨gt, ct, hv6, hls6⟩ := hown6.lies SymR.fit; rw [← HM.out] at hv6; subst hv6; clear hown6)
    have hne : tab ≠ [] := by
      intro e
      have h1 : rs ≠ [] := Hne.out
      cases hr : rs with
      | nil => exact h1 hr
      | cons x r =>
        have h2 := table_names rs
        rw [← Htab.out, e] at h2
        have h3 := (foldA_mem (allN rs) [] x.1).2 (.inr (by rw [hr]; simp [allN]))
        rw [← h2] at h3
        simp at h3
    obtain ⟨g, hgt, hg1, hg2⟩ : ∃ g, gt = some ⟨g, 0, none⟩ ∧ wc.heap.size ≤ g ∧ g < wa.heap.size := by
      obtain ⟨s0, r0, hs0⟩ : ∃ s0 r0, tab = s0 :: r0 := by
        cases tab with
        | nil => exact absurd rfl hne
        | cons a b => exact ⟨a, b, rfl⟩
      obtain ⟨g, x, h1, h2, h3, _⟩ := hls6 0 s0 (by rw [hs0]; rfl)
      exact ⟨g, h1, h2, h3⟩
    subst hgt
    have hrd : ∀ i x, tab[i]? = some x → wa.cell? ⟨g, i * 3 + 0, none⟩ = some (.string ⟨x.name.toArray⟩) ∧ wa.cell? ⟨g, i * 3 + 1, none⟩ = some (.int .i64 x.rule) := fun i x hx => by
      obtain ⟨g', xs, h1, h2, h3, h4, h5⟩ := hls6 i x hx
      injection h1 with h1
      injection h1 with h1
      subst h1
      have h4 : xs = [.string ⟨x.name.toArray⟩, .int .i64 x.rule, .int .i64 x.uses] := h4
      subst h4
      exact ⟨h5 0 _ rfl, h5 1 _ rfl⟩
    have hst1 := Hst.out.later hb6
    have hbhg : bh ≠ g := by have := Hst.out.out.lt; omega
    have hvg : ∀ q, vh.ownBlock = some q → q ≠ g := fun q e => by have := (Hst.out.own.lt q e).2; omega
    have Hrd := hid hrd
    have Hst1 := hid hst1
    have Hbhg := hid hbhg
    have Hvg := hid hvg
    have Hg := hid (And.intro (show C < g by have := Hst.out.kp.size; have := Hst.out.sz; omega) hg2)
    have Hb6 := hid hb6
    clear hrd hst1 hbhg hvg hg1 hg2 hls6 hb6 htc y0 y1 hlq2 hne Hst
    go_wp2_with fail
    go_loopg [7, 8] M (fun k v7 v8 wx => AdRel wb wa C B bh g st rs tab k v7 v8 wx)
    case atStart => exact ⟨0, vh, rfl, rfl, Nat.zero_le _, by rw [HM.out]; omega, by simpa [lackS] using Hst1.out, Kp.refl _ _, Hvg.out⟩
    case round =>
      obtain ⟨i, v, rfl, rfl, hi, hk, hst, hkp, hvg⟩ := hrel
      have hgl : g < wr.heap.size := Nat.lt_of_lt_of_le Hg.out.2 hkp.size
      have hbq := Hbq.out.kp hst.old (fun e => e)
      have y0 := hbq.cell 0
      have y1 := hbq.cell 1
      have hlq := hbq.lt
      simp only [List.getElem?_cons_zero, List.getElem?_cons_succ] at y0 y1
      have h1 := hst.out.cell 1
      have f1 := hst.out.free 1
      have hbl := hst.out.lt
      simp only [List.getElem?_cons_zero, List.getElem?_cons_succ] at h1
      rcases Nat.lt_or_ge i tab.length with hlt | hge
      · have hltM : (i : Int) < (M : Int) := by have := HM.out; omega
        have hi0 : (0 : Int) ≤ (i : Int) := by omega
        obtain ⟨x, hx⟩ : ∃ x, x = tab[i] := ⟨_, rfl⟩
        have hgx : tab[i]? = some x := by rw [hx]; exact List.getElem?_eq_getElem hlt
        have c0 := hkp.cell (Hrd.out i x hgx).1 (fun e => e.2 rfl)
        have c1 := hkp.cell (Hrd.out i x hgx).2 (fun e => e.2 rfl)
        rw [Nat.add_zero] at c0
        obtain ⟨sn, hsn⟩ : ∃ sn, sn = x.name := ⟨_, rfl⟩
        obtain ⟨sr, hsr⟩ : ∃ sr, sr = x.rule := ⟨_, rfl⟩
        have hlk := lack_take tab i hgx
        have hsi := startIn_take st tab i hgx
        rw [← hsn, ← hsr] at hlk
        rw [← hsn] at hsi c0
        rw [← hsr] at c1
        obtain ⟨b0, hb0⟩ : ∃ b0, b0 = startIn st (tab.take i) := ⟨_, rfl⟩
        rw [← hb0] at hsi ⊢
        have hll : (rs ++ lackS (tab.take i)).length ≤ 140300 := by
          rw [List.length_append]
          unfold lackS
          rw [List.length_map]
          have h5 := List.length_filter_le (fun s : Sym => decide (s.rule < 0)) (tab.take i)
          rw [List.length_take] at h5
          have := HM.out
          have := HL.out
          have := Hkp.out.1
          omega
        have Hst2 := hid hst
        have Hkp2 := hid hkp
        have Hvg2 := hid hvg
        have Hk := hid hk
        have Hlt := hid hlt
        have Hlk := hid hlk
        have Hsi := hid hsi
        have Hgx := hid (And.intro hgx (And.intro hsn hsr))
        have Hll := hid hll
        clear hst hkp hvg hi hk hlt hgx hx hsn hsr hlk hsi hb0 hbq hll
        go_upto_if 43 with fail
        go_cut [] from 43 to 55 (fun wx => ∃ v2, HSt wb C B bh st v2 (rs ++ lackS (tab.take (i + 1))) wx ∧ Kp (fun k => C < k ∧ k ≠ g) wa wx ∧ ∀ q, v2.ownBlock = some q → q ≠ g)
        case first =>
          by_cases hneg : sr < 0
          · have e : rs ++ lackS (tab.take (i + 1)) = (rs ++ lackS (tab.take i)) ++ [seqR sn] := by rw [Hlk.out, if_pos hneg, List.append_assoc]
            have hap := Hst2.out.app sn (by have := Hll.out; omega) 23 1 (N := wr.heap.size) rfl
            rw [← e] at hap
            obtain ⟨nl, hnl⟩ : ∃ nl, nl = (rs ++ lackS (tab.take i)).length := ⟨_, rfl⟩
            rw [← hnl] at hap
            clear hnl
            obtain ⟨g2, cap2, w5, hrun, ⟨m1, mf, ml⟩, hst5, hk5, hg5⟩ := hap
            have Hst5 := hid hst5
            have Hk5 := hid hk5
            have Hg5 := hid hg5
            clear e hst5 hk5 hg5
            go_wp2_with fail
            go_region_law (refine step_app (by rfl) _ _ _ (by rfl) v (.slice (some ⟨wr.heap.size, 0, none⟩) 1 1) _ w5 (by go_simp) (by go_simp) (by exact hrun) ?_)
            all_goals
              go_wp2_with fail
              go_meet
              refine ⟨_, Hst5.out, Hkp2.out.trans (Hk5.out.mono fun k _ e => ?_), fun q e => ?_⟩
              · rcases e with e | e
                · exact ⟨by have := Hst1.out.lt; omega, by have := Hbhg.out; omega⟩
                · exact ⟨(Hst2.out.vb _ e).1, Hvg2.out _ e⟩
              · have e := own_blk e
                rcases Hg5.out with h7 | h7
                · exact Hvg2.out _ (e ▸ h7)
                · omega
          · have e : rs ++ lackS (tab.take (i + 1)) = rs ++ lackS (tab.take i) := by rw [Hlk.out, if_neg hneg, List.append_nil]
            have He := hid e
            clear e
            go_wp2_with fail
            go_meet
            exact ⟨v, by rw [He.out]; exact Hst2.out, Hkp2.out, Hvg2.out⟩
        case rest =>
          obtain ⟨v2, hst, hkp, hvg⟩ := hcut
          have hgl : g < wc.heap.size := Nat.lt_of_lt_of_le Hg.out.2 hkp.size
          have c0 := hkp.cell (Hrd.out i x Hgx.out.1).1 (fun e => e.2 rfl)
          rw [Nat.add_zero, ← Hgx.out.2.1] at c0
          have hbq := Hbq.out.kp hst.old (fun e => e)
          have y0 := hbq.cell 0
          have hlq := hbq.lt
          simp only [List.getElem?_cons_zero] at y0
          have Hst3 := hid hst
          have Hkp3 := hid hkp
          have Hvg3 := hid hvg
          clear hst hkp hvg hbq
          cases hb0 : b0 with
          | true =>
            subst hb0
            have e : startIn st (tab.take (i + 1)) = true := by rw [Hsi.out]; rfl
            have He := hid e
            clear e
            go_wp2_with fail
            go_quiet (fail)
            go_wp2_with fail
            go_roundg (M - (i + 1))
            case measure => have := Hk.out; have := HM.out; have := Hlt.out; omega
            case rel => exact ⟨i + 1, v2, by rw [He.out], by go_num, Hlt.out, by rw [HM.out], Hst3.out.upon ((Kp.refl _ _).drewN _) (fun _ e => e.elim) (fun e => e) (fun _ _ e => e), Hkp3.out.drewN _, Hvg3.out⟩
          | false =>
            subst hb0
            by_cases hs : sn = st
            · subst hs
              have e : startIn sn (tab.take (i + 1)) = true := by rw [Hsi.out]; simp
              have He := hid e
              clear e
              go_wp2_with fail
              go_quiet (fail)
              go_wp2_with fail
              go_roundg (M - (i + 1))
              case measure => have := Hk.out; have := HM.out; have := Hlt.out; omega
              case rel => exact ⟨i + 1, v2, by rw [He.out], by go_num, Hlt.out, by rw [HM.out], Hst3.out.upon ((Kp.refl _ _).drewN _) (fun _ e => e.elim) (fun e => e) (fun _ _ e => e), Hkp3.out.drewN _, Hvg3.out⟩
            · have hne : (sn == st) = false := by simpa using hs
              have e : startIn st (tab.take (i + 1)) = false := by rw [Hsi.out, hne]; rfl
              have He := hid e
              clear e
              go_wp2_with fail
              go_quiet (fail)
              go_wp2_with fail
              go_roundg (M - (i + 1))
              case measure => have := Hk.out; have := HM.out; have := Hlt.out; omega
              case rel => exact ⟨i + 1, v2, by rw [He.out], by go_num, Hlt.out, by rw [HM.out], Hst3.out.upon ((Kp.refl _ _).drewN _) (fun _ e => e.elim) (fun e => e) (fun _ _ e => e), Hkp3.out.drewN _, Hvg3.out⟩
      · have hgeM : ¬ (i : Int) < (M : Int) := by have := HM.out; omega
        have e : tab.take i = tab := List.take_of_length_le hge
        rw [e] at hst
        rw [e]
        obtain ⟨b0, hb0⟩ : ∃ b0, b0 = startIn st tab := ⟨_, rfl⟩
        rw [← hb0]
        have hll : (rs ++ lackS tab).length ≤ 140300 := by
          rw [List.length_append]
          unfold lackS
          rw [List.length_map]
          have h5 := List.length_filter_le (fun s : Sym => decide (s.rule < 0)) tab
          have := HM.out
          have := HL.out
          have := Hkp.out.1
          omega
        have hadd : addedS st rs = (rs ++ lackS tab) ++ (if b0 = true then [] else [seqR st]) := by unfold addedS; rw [← Htab.out, ← hb0, List.append_assoc]
        have Hst2 := hid hst
        have Hadd := hid hadd
        have Hll := hid hll
        clear hst hkp hvg hi hk hge e hb0 hadd hll hbq hgl Hg Hrd Hvg Hst1 Hri
        go_upto_if 68 with fail
        go_cut [] from 32 to 77 (fun wx => ∃ v2, HSt wb C B bh st v2 (addedS st rs) wx)
        case first =>
          cases hb0 : b0 with
          | true =>
            subst hb0
            have e : addedS st rs = rs ++ lackS tab := by rw [Hadd.out]; simp
            have He := hid e
            clear e
            go_wp2_with fail
            go_meet
            exact ⟨v, by rw [He.out]; exact Hst2.out⟩
          | false =>
            subst hb0
            have e : addedS st rs = (rs ++ lackS tab) ++ [seqR st] := by rw [Hadd.out]; simp
            have hap := Hst2.out.app st (by have := Hll.out; omega) 23 0 (N := wr.heap.size) rfl
            rw [← e] at hap
            obtain ⟨nl, hnl⟩ : ∃ nl, nl = (rs ++ lackS tab).length := ⟨_, rfl⟩
            rw [← hnl] at hap
            clear hnl e
            obtain ⟨g2, cap2, w5, hrun, ⟨m1, mf, ml⟩, hst5, -, -⟩ := hap
            have Hst5 := hid hst5
            clear hst5
            go_wp2_with (at_builtin; refine wpList_app rfl _ _ _ rfl v (.slice (some ⟨wr.heap.size, 0, none⟩) 1 1) _ w5 (by go_simp) (by go_simp) (by exact hrun) ?_)
            go_meet
            exact ⟨_, Hst5.out⟩
        case rest =>
          obtain ⟨v2, hst⟩ := hcut
          obtain ⟨gh, ch, rfl, hri⟩ := own_rulesP hst.own
          obtain ⟨Z, hZ⟩ : ∃ Z, Z = (addedS st rs).length := ⟨_, rfl⟩
          obtain ⟨ak1, ak2, ak3, ak4, ak5, ak6⟩ := added_keeps Hp.out Hlen.out
          have hck := check_calls wc st (addedS st rs) gh ch hri ak1 ak2 ak3 ak4 ak5 ak6
          rw [check_added, ← hZ] at hck
          have h0 := hst.out.cell 0
          have h1 := hst.out.cell 1
          have hbl := hst.out.lt
          have hbq := Hbq.out.kp hst.old (fun e => e)
          simp only [List.getElem?_cons_zero, List.getElem?_cons_succ, ← hZ] at h0 h1
          obtain ⟨n, hn⟩ : ∃ n, n = (dupsFrom rs 0 rs).length := ⟨_, rfl⟩
          have hn64 : n ≤ 64 := by rw [hn]; have := dups_len rs rs 0; have := Hkp.out.1; have := HL.out; omega
          have hck2 : Calls Try.prog 27 #[.agg #[.string ⟨st.toArray⟩, .slice gh Z ch]] wc fun e w7 => ∃ gl cl, e = .returned (.slice gl n cl) ∧ (∀ i : Nat, i < n → ∃ g, gl = some ⟨g, 0, none⟩ ∧ g < w7.heap.size ∧ w7.cell? ⟨g, i * 3, none⟩ = some (.int .i64 9)) ∧
              Bk w7 C 25 [.string ⟨st.toArray⟩, .slice ga L ca] ∧ RulesIn w7 ga rs ∧ Below w.heap.size w w7 := by
            refine hck.mono ?_
            rintro e w7 ⟨v7, rfl, hown7, hb7⟩
            obtain ⟨gl, cl, hv7, hl7⟩ := hown7.lies ProbR.fit
            have hold := hst.old.trans (below_kp hb7)
            refine ⟨gl, cl, by rw [hv7, hn], fun i hi => ?_, Hbq.out.kp hold (fun e => e), (RulesM.kp Hr4.out hold (fun _ _ e => e)).mono fun k hk => by have := hold.size; have := hst.sz; omega, Hb.out.trans (hold.to_below ?_ fun k e => e.elim)⟩
            · rw [hn] at hi
              obtain ⟨g, x, h1, h2, h3, h4, h5⟩ := hl7 i _ (List.getElem?_eq_getElem hi)
              have h6 := dups_code rs rs 0 _ (List.getElem_mem hi)
              have h4 : x = [.int .i64 (((dupsFrom rs 0 rs)[i]).code : Nat), .int .i64 ((dupsFrom rs 0 rs)[i]).rule, .string ⟨((dupsFrom rs 0 rs)[i]).name.toArray⟩] := h4
              rw [h6] at h4
              subst h4
              exact ⟨g, h1, h3, h5 0 _ rfl⟩
            · have := hst.sz; have := HB.out; have := HC.out; omega
          have Hn := hid hn
          clear hck hst hri ak1 ak2 ak3 ak4 ak5 ak6 hZ hbq hn
          go_upto_region 18 with (go_at_call 27; refine hck2.mono ?_; rintro e w7 ⟨gl, cl, rfl, hl7, hbq7, hri7, hb7⟩)
          have x0 := hbq7.cell 0
          have x1 := hbq7.cell 1
          have hlq := hbq7.lt
          simp only [List.getElem?_cons_zero, List.getElem?_cons_succ] at x0 x1
          have Hn64 := hid hn64
          have Hl7 := hid hl7
          have Hbq7 := hid hbq7
          have Hri7 := hid hri7
          have Hb7 := hid hb7
          have hL64 : L ≤ 64 := Hkp.out.1
          have HL64 := hid hL64
          obtain ⟨g1, o1, hga, hg1⟩ : ∃ g1 o1, ga = some ⟨g1, o1, none⟩ ∧ g1 < w7.heap.size := by
            cases hr : rs with
            | nil => exact absurd hr Hne.out
            | cons x r =>
              obtain ⟨g', o', _, _, e, h2, _⟩ := hri7 0 x (by rw [hr]; rfl)
              exact ⟨g', o', e, h2⟩
          have hrd : ∀ i x, rs[i]? = some x → w7.cell? ⟨g1, o1 + i * 4, none⟩ = some (.string ⟨x.1.toArray⟩) := fun i x hx => by
            obtain ⟨g', o', _, _, e, _, a0, _⟩ := hri7 i x hx
            rw [hga] at e
            injection e with e
            injection e with e1 e2
            subst e1 e2
            exact a0
          have Hrd := hid hrd
          have Hg1 := hid hg1
          subst hga
          clear hn64 hl7 hbq7 hri7 hb7 h0 h1 hbl hck2 hrd hg1
          go_wp2_with fail
          go_loopg [10, 11] L (fun k v10 v11 wx => TwRel w7 rs k v10 v11 wx)
          case atStart => exact ⟨0, 0, rfl, rfl, Nat.zero_le _, by rw [HL.out]; omega, rfl, Kp.refl _ _⟩
          case round =>
            obtain ⟨i, tw, rfl, rfl, hi, hk, htw, hkp⟩ := hrel
            have hbq := Hbq7.out.kp hkp (fun e => e)
            have y1 := hbq.cell 1
            have hlq := hbq.lt
            simp only [List.getElem?_cons_zero, List.getElem?_cons_succ] at y1
            have htw64 : tw ≤ 64 := by have h5 := dups_len rs (rs.take i) 0; rw [List.length_take] at h5; have := HL.out; have := HL64.out; omega
            rcases Nat.lt_or_ge i rs.length with hlt | hge
            · have hltL : (i : Int) < (L : Int) := by have := HL.out; omega
              have hi0 : (0 : Int) ≤ (i : Int) := by omega
              have hi64 : (i : Int) ≤ 64 := by have := HL.out; have := HL64.out; omega
              obtain ⟨x, hx⟩ : ∃ x, x = rs[i] := ⟨_, rfl⟩
              have hgx : rs[i]? = some x := by rw [hx]; exact List.getElem?_eq_getElem hlt
              have htk := dups_take rs i hgx
              rw [← htw] at htk
              obtain ⟨nm, hnm⟩ : ∃ nm, nm = x.1 := ⟨_, rfl⟩
              rw [← hnm] at htk
              have hself : firstAt (rs.drop i) i nm = some i := by rw [List.drop_eq_getElem_cons hlt, ← hx, hnm, firstAt, if_pos rfl]
              have hc0 := Hrd.out i x hgx
              rw [← hnm] at hc0
              obtain ⟨wo, hwo⟩ : ∃ wo : World, wo = wr := ⟨_, rfl⟩
              have Hk := hid hk
              have Hlt := hid hlt
              have Htk := hid htk
              have Hself := hid hself
              have Hc0 := hid hc0
              have Hkp := hid hkp
              clear hi hk hlt htk hself hc0 hkp hx hgx hnm htw hbq
              go_wp2_with fail
              go_loopg [10, 12] i (fun k v10 v12 wx => TkRel w7 rs i tw nm k v10 v12 wx)
              case atStart => exact ⟨0, rfl, rfl, Nat.zero_le _, by omega, by rw [List.drop_zero], Hkp.out⟩
              case round =>
                obtain ⟨j, rfl, rfl, hj, hk2, hfj, hkp2⟩ := hrel
                have hbq := Hbq7.out.kp hkp2 (fun e => e)
                have z1 := hbq.cell 1
                have hlq2 := hbq.lt
                simp only [List.getElem?_cons_zero, List.getElem?_cons_succ] at z1
                rcases Nat.lt_or_ge j i with hji | hji
                · have hjI : (j : Int) < (i : Int) := by omega
                  have hj0 : (0 : Int) ≤ (j : Int) := by omega
                  have hjL : (j : Int) < (L : Int) := by omega
                  have hjr : j < rs.length := by have := Hlt.out; omega
                  obtain ⟨y, hy⟩ : ∃ y, y = rs[j] := ⟨_, rfl⟩
                  have hgy : rs[j]? = some y := by rw [hy]; exact List.getElem?_eq_getElem hjr
                  have d0 := hkp2.cell (Hrd.out j y hgy) (fun e => e)
                  have c0 := hkp2.cell Hc0.out (fun e => e)
                  have hgl : g1 < wr.heap.size := Nat.lt_of_lt_of_le Hg1.out hkp2.size
                  rw [List.drop_eq_getElem_cons hjr, ← hy, firstAt] at hfj
                  obtain ⟨ny, hny⟩ : ∃ ny, ny = y.1 := ⟨_, rfl⟩
                  rw [← hny] at d0 hfj
                  have Hkp2 := hid hkp2
                  have Hk2 := hid hk2
                  have Hji := hid hji
                  clear hkp2 hk2 hj hji hjr hy hgy hny hbq
                  by_cases hn : ny = nm
                  · subst hn
                    rw [if_pos rfl] at hfj
                    have e : tw + 1 = (dupsFrom rs 0 (rs.take (i + 1))).length := by
                      rw [Htk.out, ← hfj, if_neg (fun e => by injection e with e; have := Hji.out; omega)]
                    have He := hid e
                    clear e hfj
                    go_wp2_with fail
                    go_quiet (fail)
                    go_wp2_with fail
                    go_roundg (L - (i + 1))
                    case measure => have := Hk.out; have := HL.out; have := Hlt.out; omega
                    case rel => exact ⟨i + 1, tw + 1, by go_num, by go_num, Hlt.out, by rw [HL.out], He.out, Hkp2.out.drewN _⟩
                  · have hne : (ny == nm) = false := by simpa using hn
                    have hn2 : ¬ nm = ny := fun e => hn e.symm
                    rw [if_neg hn2] at hfj
                    have Hfj := hid hfj
                    clear hfj hn2
                    go_wp2_with fail
                    go_quiet (fail)
                    go_wp2_with fail
                    go_roundg (i - (j + 1))
                    case measure => have := Hk2.out; have := Hji.out; omega
                    case rel => exact ⟨j + 1, rfl, by go_num, Hji.out, rfl, Hfj.out, Hkp2.out.drewN _⟩
                · have hjI : ¬ (j : Int) < (i : Int) := by omega
                  have hij : j = i := by omega
                  subst hij
                  have e : tw = (dupsFrom rs 0 (rs.take (j + 1))).length := by
                    rw [Htk.out, ← hfj, Hself.out, if_pos rfl]; rfl
                  have He := hid e
                  have Hkp2 := hid hkp2
                  clear e hfj hkp2 hk2 hbq hj hji
                  go_wp2_with fail
                  go_roundg (L - (j + 1))
                  case measure => have := Hk.out; have := HL.out; have := Hlt.out; omega
                  case rel => exact ⟨j + 1, tw, rfl, by go_num, Hlt.out, by rw [HL.out], He.out, Hkp2.out⟩
            · have hgeL : ¬ (i : Int) < (L : Int) := by have := HL.out; omega
              rw [List.take_of_length_le hge, ← Hn.out] at htw
              subst htw
              obtain ⟨wo, hwo⟩ : ∃ wo : World, wo = wr := ⟨_, rfl⟩
              have Hkp := hid hkp
              clear hi hk hge hkp hbq
              go_wp2_with fail
              go_loopg [13] tw (fun k v13 wx => CdRel w7 tw k v13 wx)
              case atStart => exact ⟨0, rfl, Nat.zero_le _, rfl, Hkp.out⟩
              case round =>
                obtain ⟨j, rfl, hj, hk2, hkp2⟩ := hrel
                rcases Nat.lt_or_ge j tw with hji | hji
                · have hjI : (j : Int) < (tw : Int) := by omega
                  have hj0 : (0 : Int) ≤ (j : Int) := by omega
                  obtain ⟨gq, rfl, hg2, hc⟩ := Hl7.out j hji
                  have c0 := hkp2.cell hc (fun e => e)
                  have hgl : gq < wr.heap.size := Nat.lt_of_lt_of_le hg2 hkp2.size
                  have Hkp2 := hid hkp2
                  have Hk2 := hid hk2
                  have Hji := hid hji
                  clear hkp2 hk2 hj hji hc hg2
                  go_wp2_with fail
                  go_roundg (tw - (j + 1))
                  case measure => have := Hk2.out; have := Hji.out; omega
                  case rel => exact ⟨j + 1, by go_num, Hji.out, rfl, Hkp2.out⟩
                · have hjI : ¬ (j : Int) < (tw : Int) := by omega
                  have Hkp2 := hid hkp2
                  clear hkp2 hk2 hj hji
                  go_wp2_with fail
                  go_ret
                  refine ⟨rfl, Hb7.out.trans (Hkp2.out.to_below ?_ fun k e => e.elim)⟩
                  exact Hb7.out.size
end
/-- SymbolsAdds, of any text. -/
theorem adds_calls (s : ByteArray) (w : World) (hs : s.size ≤ 9223372036854775807) : Calls Try.prog 8 #[.string s] w fun e w' => e = .returned (.bool true) ∧ Below w.heap.size w w' := by
  by_cases h : 1000 < s.size
  · exact adds_no s w hs (.inl h)
  · cases hp : Syn.parseS s.data.toList with
    | bad f => exact adds_no s w hs (.inr ⟨f, hp⟩)
    | ok st rs => exact adds_ok s w hs h hp
end Go.Proofs.Ytjaampgpihicmaa
