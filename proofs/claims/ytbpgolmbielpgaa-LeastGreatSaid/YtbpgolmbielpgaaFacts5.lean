/- Chapter 9 (facts): slices.Clone of ints; spread. -/
import Derived.Test.YtbpgolmbielpgaaFacts4
namespace Go.Proofs.Ytbpgolmbielpgaa
open Go.RowKit
attribute [local go_sem ↓] Go.wp_at_zero Go.wp_at_succ
attribute [local go_sem] frozen_alloc_lt

/-- An owned row of ints in new blocks comes back. -/
def IntsPost (w : World) (zs : List Int) (e : Ending) (w' : World) : Prop :=
  ∃ (gv : Option Addr) (cap : Nat), e = .returned (.slice gv zs.length cap) ∧ w'.ownsRow w.heap.size 3 1 (.slice gv zs.length cap) zs.length (zs.map (Value.int .i64)) ∧ Below w.heap.size w w'

theorem own_empty (w : World) (e : TypeId) (g : Nat) (h : w.heap[g]? = some (.cells #[] e (0, 0))) (base : Nat) (hb : base ≤ g) : w.ownsRow base e 1 (.slice (some ⟨g, 0, none⟩) 0 0) 0 [] :=
  ⟨rfl, .inr ⟨g, 0, #[], rfl, hb, h, Nat.le_refl _, by unfold maxLen; omega, rfl, rfl⟩⟩

theorem ints_cells {w : World} {D : Nat → Prop} {ga : Option Addr} {zs : List Int} (h : RowID w D ga zs) : CellsD w D ga (zs.map (Value.int .i64)).length fun i u => (zs.map (Value.int .i64))[i]? = some u := by
  intro i hi
  obtain ⟨g, off, h1, h2, h3⟩ := h.at (by simpa using hi)
  exact ⟨g, off, _, h1, h2, h3, by simp [List.getElem?_eq_getElem (show i < zs.length by simpa using hi)]⟩

set_option maxHeartbeats 1000000 in
set_option maxRecDepth 8000 in
theorem clone_calls (w : World) (D : Nat → Prop) (ga : Option Addr) (c : Nat) (zs : List Int) (hr : RowID w D ga zs) (hn : zs.length ≤ 1000000) (hnil : ga = none → c = 0) :
    Calls Try.prog 85 #[.slice ga zs.length c] w (IntsPost w zs) := by
  obtain ⟨i3, hi3, z0, z1, z2⟩ := info_parts intInfo
  have hne := Lib.run_eql_slice_nil (P := Try.prog)
  cases ga with
  | none =>
    have hz : zs = [] := by
      cases zs with
      | nil => rfl
      | cons u r => obtain ⟨g, off, h, _⟩ := hr.at (i := 0) (by simp); cases h
    subst hz
    obtain rfl := hnil rfl
    simp only [List.length_nil]
    go_enter Try.func85, Try.ntmps85
    go_wp2_with fail
    go_ret
    exact ⟨none, 0, rfl, World.ownsRow_nil _ _ _ _, Below.refl _ _⟩
  | some ad =>
    have hcs := ints_cells hr
    have hlm : zs.length = (zs.map (Value.int .i64)).length := by simp
    have h1 : ∀ u ∈ zs.map (Value.int .i64), u.oneCell' = true := by
      intro u hu
      obtain ⟨z, _, rfl⟩ := List.mem_map.1 hu
      rfl
    have hcs1 := hcs.kp (S := fun _ => False) ((Kp.refl _ w).alloc (.cells #[] 3)) (fun _ _ h => h) (fun _ _ _ h => h)
    have Hcs1 := hid hcs1
    have Hlm := hid hlm
    have H1 := hid h1
    clear hcs hlm h1 hcs1
    go_enter Try.func85, Try.ntmps85
    go_wp2_with (at_builtin; refine wpList_append_cells _ rfl _ _ _ rfl w.heap.size 3 i3 _ Try.underlying23 hi3 z0 z1 (by rw [z2]; omega) rfl (.slice (some ⟨w.heap.size, 0, none⟩) 0 0) 0 [] (by rfl) (own_empty _ _ _ (heap_alloc_new w _) _ (Nat.le_refl _)) D _ zs.length c (zs.map (Value.int .i64)) rfl Hlm.out Hcs1.out H1.out (by simp; omega) (by simp) ?_; intro gv cap w1 hown hgr hat)
    go_ret
    simp only [List.length_map, Nat.zero_add, List.nil_append] at hown
    exact ⟨gv, cap, rfl, hown, ((Below.refl _ w).alloc (Nat.le_refl _) _).grown hgr (by simp) (fun k hk => by simp [Value.ownBlock] at hk; omega)⟩

namespace Facts
/-- What is come to from some, by steps. -/
inductive Come (lss : List (List Int)) (zs : List Int) : Int → Prop
  | base (a : Int) : a ∈ zs → Come lss zs a
  | step (s a : Int) : Come lss zs s → a ∈ lss.getD s.toNat [] → Come lss zs a

/-- The steps from those that have not been come to. -/
def restS : List Bool → List (List Int) → Nat
  | b :: bs, l :: ls => (if b then 0 else l.length) + restS bs ls
  | _, _ => 0

theorem restS_set : ∀ (bs : List Bool) (lss : List (List Int)) (a : Nat) (l : List Int), bs[a]? = some false → lss[a]? = some l → restS (bs.set a true) lss + l.length = restS bs lss
  | b :: bs, m :: ls, 0, l, hb, hl => by
    simp at hb hl
    subst hb hl
    simp [restS]; omega
  | b :: bs, m :: ls, a + 1, l, hb, hl => by
    have := restS_set bs ls a l (by simpa using hb) (by simpa using hl)
    simp only [List.set_cons_succ, restS]
    omega
  | [], _, a, l, hb, _ => by simp at hb
  | _ :: _, [], a, l, _, hl => by simp at hl

theorem restS_le : ∀ (bs : List Bool) (lss : List (List Int)), restS bs lss ≤ (lss.map List.length).sum
  | [], _ => by simp [restS]
  | _ :: _, [] => by simp [restS]
  | b :: bs, l :: ls => by
    have := restS_le bs ls
    simp only [restS, List.map_cons, List.sum_cons]
    split <;> omega

structure Spr (lss : List (List Int)) (zs : List Int) (n : Nat) (bs : List Bool) (work : List Int) : Prop where
  lb : bs.length = n
  sound : ∀ a : Int, 0 ≤ a → inB bs a = true → Come lss zs a
  zin : ∀ a ∈ zs, 0 ≤ a
  win : ∀ a ∈ work, 0 ≤ a ∧ a < n ∧ Come lss zs a
  base : ∀ a ∈ zs, inB bs a = true ∨ a ∈ work
  step : ∀ s : Int, 0 ≤ s → inB bs s = true → ∀ a ∈ lss.getD s.toNat [], inB bs a = true ∨ a ∈ work

section
variable {lss : List (List Int)} {zs : List Int} {n : Nat} {bs : List Bool} {work : List Int} {s : Int}
theorem inB_false (n : Nat) (a : Int) : inB (List.replicate n false) a = false := by
  unfold inB
  simp [List.getD, List.getElem?_replicate]
  split <;> simp
theorem Spr.start (hz : ∀ a ∈ zs, 0 ≤ a ∧ a < n) : Spr lss zs n (List.replicate n false) zs :=
  ⟨by simp, (fun a _ h => by rw [inB_false] at h; cases h), fun a ha => (hz a ha).1, fun a ha => ⟨(hz a ha).1, (hz a ha).2, .base a ha⟩, fun a ha => .inr ha, (fun s _ h => by rw [inB_false] at h; cases h)⟩
theorem Spr.old (h : Spr lss zs n bs (work ++ [s])) (hs : inB bs s = true) : Spr lss zs n bs work := by
  refine ⟨h.lb, h.sound, h.zin, fun a ha => h.win a (by simp [ha]), fun a ha => ?_, fun t ht0 ht a ha => ?_⟩
  · rcases h.base a ha with h1 | h1
    · exact .inl h1
    · rcases List.mem_append.1 h1 with h1 | h1
      · exact .inr h1
      · simp at h1; subst h1; exact .inl hs
  · rcases h.step t ht0 ht a ha with h1 | h1
    · exact .inl h1
    · rcases List.mem_append.1 h1 with h1 | h1
      · exact .inr h1
      · simp at h1; subst h1; exact .inl hs
theorem Spr.new (h : Spr lss zs n bs (work ++ [s])) (hin : ∀ (i : Nat) l, lss[i]? = some l → ∀ a ∈ l, 0 ≤ a ∧ a < (n : Int)) {l : List Int} (hl : lss[s.toNat]? = some l) : Spr lss zs n (bs.set s.toNat true) (work ++ l) := by
  obtain ⟨h0, h1, hc⟩ := h.win s (by simp)
  have hn : s.toNat < bs.length := by rw [h.lb]; omega
  have hg : lss.getD s.toNat [] = l := by simp [List.getD, hl]
  have hset : ∀ a : Int, 0 ≤ a → inB (bs.set s.toNat true) a = (a == s || inB bs a) := fun a ha => inB_set bs s a h0 hn ha
  have keep : ∀ a : Int, 0 ≤ a → (inB bs a = true ∨ a ∈ work ++ [s]) → (inB (bs.set s.toNat true) a = true ∨ a ∈ work ++ l) := by
    intro a ha hh
    rw [hset a ha]
    rcases hh with hh | hh
    · left; simp [hh]
    · rcases List.mem_append.1 hh with hh | hh
      · right; simp [hh]
      · simp at hh; left; simp [hh]
  refine ⟨by rw [List.length_set]; exact h.lb, fun a ha hb => ?_, h.zin, fun a ha => ?_, fun a ha => keep a (h.zin a ha) (h.base a ha), fun t ht0 ht a ha => ?_⟩
  · rw [hset a ha] at hb
    by_cases e : a = s
    · rw [e]; exact hc
    · simp [e] at hb; exact h.sound a ha hb
  · rcases List.mem_append.1 ha with ha | ha
    · exact h.win a (by simp [ha])
    · exact ⟨(hin _ l hl a ha).1, (hin _ l hl a ha).2, .step s a hc (by rw [hg]; exact ha)⟩
  · have ha0 : 0 ≤ a := by
      cases hlt : lss[t.toNat]? with
      | none => simp [List.getD, hlt] at ha
      | some l' => rw [List.getD, hlt] at ha; exact (hin _ l' hlt a ha).1
    rw [hset t ht0] at ht
    by_cases e : t = s
    · subst e
      rw [hg] at ha
      exact .inr (by simp [ha])
    · simp [e] at ht
      exact keep a ha0 (h.step t ht0 ht a ha)
theorem Spr.end (h : Spr lss zs n bs []) (hin : ∀ (i : Nat) l, lss[i]? = some l → ∀ a ∈ l, 0 ≤ a ∧ a < (n : Int)) : ∀ a : Int, 0 ≤ a → (inB bs a = true ↔ Come lss zs a) := by
  intro a ha
  refine ⟨h.sound a ha, fun hc => ?_⟩
  have : 0 ≤ a ∧ inB bs a = true := by
    clear ha
    induction hc with
    | base a ha => exact ⟨h.zin a ha, by simpa using h.base a ha⟩
    | step s a _ hm ih =>
      refine ⟨?_, by simpa using h.step s ih.1 ih.2 a hm⟩
      cases hlt : lss[s.toNat]? with
      | none => simp [List.getD, hlt] at hm
      | some l' => rw [List.getD, hlt] at hm; exact (hin _ l' hlt a hm).1
  exact this.2
end
end Facts

def SprAt (w0 : World) (D : Nat → Prop) (gs : Option Addr) (ba n : Nat) (lss : List (List Int)) (zs : List Int) (M k : Nat) (v6 : Value) (w : World) : Prop :=
  ∃ (bs : List Bool) (work : List Int) (gv : Option Addr) (cap : Nat), v6 = .slice gv work.length cap ∧ Bk w ba 4 (bs.map Value.bool) ∧ w.ownsRow (ba + 1) 3 1 (.slice gv work.length cap) work.length (work.map (Value.int .i64)) ∧
    Facts.Spr lss zs n bs work ∧ work.length + Facts.restS bs lss ≤ M ∧ RowIID w D gs lss ∧ k = work.length + Facts.restS bs lss ∧ Below w0.heap.size w0 w

/-- A row of bools in a new block: what is come to. -/
def SprPost (w : World) (n : Nat) (lss : List (List Int)) (zs : List Int) (e : Ending) (w' : World) : Prop :=
  ∃ (ba : Nat) (bs : List Bool), e = .returned (.slice (some ⟨ba, 0, none⟩) n n) ∧ w.heap.size ≤ ba ∧ bs.length = n ∧ Bk w' ba 4 (bs.map Value.bool) ∧ (∀ a : Int, 0 ≤ a → (Facts.inB bs a = true ↔ Facts.Come lss zs a)) ∧ Below w.heap.size w w'

set_option maxHeartbeats 2000000 in
set_option maxRecDepth 8000 in
theorem spread_calls (w : World) (D D' : Nat → Prop) (gs gf : Option Addr) (cs cf n : Nat) (lss : List (List Int)) (zs : List Int) (hs : RowIID w D gs lss) (hl : lss.length = n) (hn : n ≤ 100000) (hf : RowID w D' gf zs)
    (hnil : gf = none → cf = 0) (hD : ∀ k, D k → k < w.heap.size) (hin : ∀ (i : Nat) l, lss[i]? = some l → ∀ a ∈ l, 0 ≤ a ∧ a < (n : Int)) (hz : ∀ a ∈ zs, 0 ≤ a ∧ a < (n : Int)) (hb : zs.length + (lss.map List.length).sum ≤ 1000000) :
    Calls Try.prog 62 #[.slice gs n cs, .slice gf zs.length cf] w (SprPost w n lss zs) := by
  obtain ⟨i3, hi3, z0, z1, z2⟩ := info_parts intInfo
  obtain ⟨i4, hi4, y0, y1, y2⟩ := info_parts boolInfo
  have Hin := hid hin
  have Hz := hid hz
  have HD := hid hD
  have Hl := hid hl
  have Hnil := hid hnil
  clear hin hz hD hl hnil
  have hzl : zs.length ≤ 1000000 := by omega
  go_enter Try.func62, Try.ntmps62
  go_upto_region 2 with (at_make; refine wpList_make_bk _ rfl _ _ _ rfl 4 i4 _ Try.underlying61 hi4 y0 y1 rfl _ _ n rfl rfl rfl rfl (by rw [y2]; omega) (by omega) ?_; intro w1 hba hk1)
  have hb1 : Below w.heap.size w w1 := hk1.to_below (Nat.le_refl _) (fun k hk => hk.elim)
  have hs1 := hs.kp hk1 (fun _ _ h => h)
  have hf1 := hf.kp hk1 (fun _ _ h => h)
  have hlt1 := hba.lt
  obtain ⟨ba, hbae⟩ : ∃ ba, ba = w.heap.size := ⟨_, rfl⟩
  rw [← hbae] at hba hlt1 ⊢
  have Hbae := hid hbae
  clear hbae hk1 hs hf
  go_wp2_with (go_at_call 85; refine (clone_calls w1 D' gf cf zs hf1 hzl Hnil.out).mono ?_; rintro e w2 ⟨gv, cap, rfl, hown, hb2⟩)
  have hba2 : Bk w2 ba 4 ((List.replicate n false).map Value.bool) := (hba.below hb2 hlt1).of (by simp)
  have hk2 : Kp (fun _ => False) w1 w2 := (Kp.refl _ w1).below hb2 (fun k hk _ => hk)
  have hs2 := hs1.kp hk2 (fun _ _ h => h)
  have hbw : Below w.heap.size w w2 := hb1.trans (hb2.mono hb1.size)
  have hown2 : w2.ownsRow (ba + 1) 3 1 (.slice gv zs.length cap) zs.length (zs.map (Value.int .i64)) := own_mono hown (by omega)
  have Hhz := hid (show ba + 1 ≤ w1.heap.size by omega)
  clear hba hb1 hb2 hk2 hs1 hown hf1
  go_loopg [6] (zs.length + Facts.restS (List.replicate n false) lss) (fun k v6 wr => SprAt w D gs ba n lss zs (zs.length + (lss.map List.length).sum) k v6 wr)
  case atStart => exact ⟨_, zs, gv, cap, rfl, hba2, hown2, Facts.Spr.start Hz.out, by have := Facts.restS_le (List.replicate n false) lss; omega, hs2, rfl, hbw⟩
  case round =>
    clear hba2 hown2 hs2 hbw
    obtain ⟨bs, work, gv, cap, rfl, hba, hown, hspr, hM, hs, hk, hbw⟩ := hrel
    have Hk := hid hk
    have Hspr := hid hspr
    clear hk hspr
    rcases nil_or_snoc work with rfl | ⟨wk, s, rfl⟩
    · simp only [List.length_nil] at *
      go_wp2_with fail
      go_ret
      exact ⟨ba, bs, rfl, by rw [Hbae.out]; omega, Hspr.out.lb, hba, Hspr.out.end Hin.out, hbw⟩
    · have hl : (wk ++ [s]).length = wk.length + 1 := by simp
      rw [hl] at hown hM
      have hk := Hk.out
      rw [hl] at hk
      clear Hk
      have Hk := hid hk
      clear hk
      obtain ⟨hs0, hs1, hsc⟩ := Hspr.out.win s (by simp)
      obtain ⟨a, rfl⟩ := Int.eq_ofNat_of_zero_le hs0
      have ha : a < bs.length := by rw [Hspr.out.lb]; omega
      have hal : a < lss.length := by rw [Hl.out]; omega
      obtain ⟨gv', cap', hve, hcells⟩ := own_slice hown
      simp only [Value.slice.injEq] at hve
      obtain ⟨rfl, -, rfl⟩ := hve
      obtain ⟨g, rfl, hg1, hg2, hcs⟩ := hcells wk.length (.int .i64 a) (by simp)
      have hcap : wk.length + 1 ≤ cap := by
        rcases hown.2 with ⟨h0, _⟩ | ⟨g', cap', cur, hv, _, _, h6, _⟩
        · cases h0
        · simp only [Value.slice.injEq] at hv
          obtain ⟨_, _, rfl⟩ := hv
          simpa using h6
      have hcap' : (wk.length : Int) ≤ (cap : Int) := by omega
      have hwl : (wk.length : Int) + 1 ≤ 1000000 := by omega
      have hownd : wr.ownsRow (ba + 1) 3 1 (.slice (some ⟨g, 0, none⟩) wk.length cap) wk.length (wk.map (Value.int .i64)) := by
        have := hown
        rw [List.map_append] at this
        exact own_drop this
      have cb := hba.cell a
      have fb := hba.free a
      simp only [List.getElem?_map, List.getElem?_eq_getElem ha, Option.map_some] at cb
      have hlb := hba.lt
      cases hb : bs[a] with
      | true =>
        rw [hb] at cb
        have hib : Facts.inB bs a = true := by simp [Facts.inB, List.getD, List.getElem?_eq_getElem ha, hb]
        have Hspr2 := hid (Hspr.out.old hib)
        clear hb hib hcells hown ha hal hl
        go_wp2_with fail
        go_roundg (wk.length + Facts.restS bs lss)
        case measure => have := Hk.out; omega
        case rel => exact ⟨bs, wk, _, cap, rfl, hba, hownd, Hspr2.out, by omega, hs, rfl, hbw⟩
      | false =>
        rw [hb] at cb
        obtain ⟨gs', off, gl, cl, rfl, hgs, hcl, hrl⟩ := hs.at hal
        obtain ⟨l, hle⟩ : ∃ l, l = lss[a] := ⟨_, rfl⟩
        rw [← hle] at hcl hrl
        have hla : lss[a]? = some l := by rw [hle]; exact List.getElem?_eq_getElem hal
        have Hspr2 := hid (Hspr.out.new Hin.out (l := l) (by simpa using hla))
        have Hrest := hid (Facts.restS_set bs lss a l (by rw [List.getElem?_eq_getElem ha, hb]) hla)
        have hka : Kp (fun k => k = ba) wr (wr.setCell ⟨ba, a, none⟩ (.bool true)) := Kp.set (S := fun k => k = ba) (Kp.refl _ wr) (.inl rfl) _
        have hDa : ∀ k, D k → ¬ k = ba := fun k hk e => by have := HD.out k hk; have := Hbae.out; omega
        have hs' := hs.kp hka hDa
        have hrl' := hrl.kp hka hDa
        have hba' := hba.set a (.bool true)
        have hown' := own_set hownd (p := ⟨ba, a, none⟩) (fun e => by simp only [Value.ownBlock, Option.some.injEq] at e; omega) (.bool true)
        have hbw' := hbw.setCell (p := ⟨ba, a, none⟩) (by rw [Hbae.out]; exact Nat.le_refl _) (.bool true)
        have hcl' := hka.cell hcl (hDa _ hgs)
        have hsz : ba + 1 ≤ (wr.setCell ⟨ba, a, none⟩ (.bool true)).heap.size := by simp [World.setCell]; omega
        have Hhb := hid hb
        clear hb hcells hown hal hl hle hla hka hs hrl hcl hownd hba hbw
        obtain ⟨wz, hwz⟩ : ∃ wz, wz = wr.setCell ⟨ba, a, none⟩ (.bool true) := ⟨_, rfl⟩
        rw [← hwz] at hs' hrl' hba' hown' hbw' hcl' hsz
        have Hbk := hid (hba'.of (cs' := (bs.set a true).map Value.bool) (by simp))
        have hlc := ints_cells hrl'
        have hlm : l.length = (l.map (Value.int .i64)).length := by simp
        have h1 : ∀ u ∈ l.map (Value.int .i64), u.oneCell' = true := by
          intro u hu
          obtain ⟨z, _, rfl⟩ := List.mem_map.1 hu
          rfl
        have hll : wk.length + l.length ≤ 1000000 := by have := Hrest.out; omega
        have Hlc := hid hlc
        have Hlm := hid hlm
        have H1 := hid h1
        clear hlc hlm h1 hba'
        go_upto_region 8 with fail
        rw [← hwz]
        clear hwz cb fb hcs
        go_wp2_with (at_builtin; go_loud (refine wpList_append_cells _ rfl _ _ _ rfl (ba + 1) 3 i3 _ Try.underlying23 hi3 z0 z1 (by rw [z2]; omega) rfl _ wk.length _ (by rfl) hown' D _ l.length cl (l.map (Value.int .i64)) (by rfl) Hlm.out Hlc.out H1.out (by simp; omega) hsz ?_); intro gv2 cap2 w3 hown3 hgr3 hat3)
        simp only [List.length_map] at hown3
        have hg3 : ∀ k, (Value.slice (some ⟨g, 0, none⟩) wk.length cap).ownBlock = some k → k = g := fun k hk => by simp only [Value.ownBlock, Option.some.injEq] at hk; omega
        have hk3 : Kp (fun k => k = g) wz w3 := (Kp.refl _ wz).grown hgr3 (fun k hk _ => hg3 k hk)
        have hDg : ∀ k, D k → ¬ k = g := fun k hk e => by have := HD.out k hk; have := Hbae.out; omega
        go_roundg ((wk ++ l).length + Facts.restS (bs.set a true) lss)
        case measure => have h1 := Hk.out; have h2 := Hrest.out; simp; omega
        case rel =>
          exact ⟨bs.set a true, wk ++ l, gv2, cap2, by rw [List.length_append], Hbk.out.kp hk3 (by omega), by rw [List.length_append, List.map_append]; exact hown3, Hspr2.out, by have h2 := Hrest.out; simp; omega, hs'.kp hk3 hDg, rfl,
            hbw'.grown hgr3 (by have := Hbae.out; omega) (fun k hk => by have := hg3 k hk; have := Hbae.out; omega)⟩
end Go.Proofs.Ytbpgolmbielpgaa
