/- Chapter 14 (tree): Replay. -/
import Derived.Test.YtaehooafdbaomaaConcat
import Derived.Test.YtaehooafdbaomaaTreeCk
namespace Go.Proofs.Ytaehooafdbaomaa
open Go.RowKit
attribute [local go_sem ↓] Go.wp_at_zero Go.wp_at_succ
attribute [local go_sem] frozen_alloc_lt

set_option maxHeartbeats 1000000 in
theorem indexFunc0_calls (w : World) (ga : Option Addr) (cap : Nat) (zs : List Int) (F : Nat) (f : Int → Bool) (hr : RowI w w.heap.size ga zs) (hl : zs.length ≤ 9223372036854775807)
    (eg : ∀ args w, (callFunc F args).run Try.prog w = .ok (.enter F args) w) (hp : ∀ z ∈ zs, Calls Try.prog F #[.int .i64 z] w fun e w' => e = .returned (.bool (f z)) ∧ w = w') :
    Calls Try.prog 62 #[.slice ga zs.length cap, .func (.func F) #[] #[]] w fun e w' => e = .returned (.int .i64 (idxS f zs 0)) ∧ w = w' := by
  generalize hres : idxS f zs 0 = res
  have Hres := hid hres
  have Hp := hid hp
  clear hres hp
  go_enter Try.func62, Try.ntmps62
  go_wp2_with fail
  go_loopg [8] zs.length (fun k v8 wr => IdxAt f zs res w k v8 wr)
  case atStart => exact ⟨0, rfl, Nat.zero_le _, by rw [List.drop_zero]; exact Hres.out, rfl, rfl⟩
  case round =>
    obtain ⟨i, rfl, hi, hx, hk, rfl⟩ := hrel
    have Hk := hid hk
    have Hx := hid hx
    clear hk hx
    by_cases hlt : i < zs.length
    · have hlt' : (i : Int) < (zs.length : Int) := by omega
      obtain ⟨g, off, rfl, hg, hc⟩ := hr.at hlt
      have hpz := Hid.out Hp zs[i] (List.getElem_mem hlt)
      have hx := Hx.out
      rw [List.drop_eq_getElem_cons hlt, idxS] at hx
      obtain ⟨z, hz⟩ : ∃ z, z = zs[i] := ⟨_, rfl⟩
      rw [← hz] at hc hpz hx
      have Hpz := hid hpz
      clear hz Hx hpz
      by_cases hf : f z = true
      · rw [if_pos hf] at hx
        have Hx := hid hx
        rw [hf] at Hpz
        clear hx
        go_wp2_with ((with_reducible refine (Hid.out Hpz).mono ?_); rintro e w1 ⟨rfl, rfl⟩)
        go_ret
        rw [← Hx.out]
        exact ⟨rfl, rfl⟩
      · rw [if_neg hf] at hx
        have Hx := hid hx
        rw [show f z = false by simpa using hf] at Hpz
        clear hx
        go_wp2_with ((with_reducible refine (Hid.out Hpz).mono ?_); rintro e w1 ⟨rfl, rfl⟩)
        go_roundg (zs.length - (i + 1))
        case measure => have hk := Hk.out; omega
        case rel => exact ⟨i + 1, by go_num, by omega, by rw [Int.natCast_add]; exact Hx.out, rfl, rfl⟩
    · have hge : ¬ (i : Int) < (zs.length : Int) := by omega
      have hx := Hx.out
      rw [List.drop_eq_nil_of_le (by omega), idxS] at hx
      have Hx := hid hx
      clear hx
      go_wp2_with fail
      go_ret
      rw [← Hx.out]
      exact ⟨rfl, rfl⟩

def ntB (s : Int) : Bool := decide (0 ≤ s)
/-- The productions l, replayed from the symbols now on. -/
def Tr.repF (G : Gr) : List Int → List Int → Nat × List Int
  | [], now => (0, now)
  | x :: l, now =>
    if x < 0 ∨ (G.prods.length : Int) ≤ x then (10, [])
    else if idxS ntB now 0 < 0 then (16, [])
    else if now.getD (idxS ntB now 0).toNat 0 ≠ (G.prods.getD x.toNat (0, [])).1 then (7, [])
    else if 65536 < (now.length : Int) - 1 + ((G.prods.getD x.toNat (0, [])).2.length : Nat) then (6, [])
    else Tr.repF G l (now.take (idxS ntB now 0).toNat ++ ((G.prods.getD x.toNat (0, [])).2 ++ now.drop ((idxS ntB now 0).toNat + 1)))
def Tr.repS (G : Gr) (frm : Int) (l : List Int) : Nat × List Int :=
  if Pl.soundB G = false ∨ (G.names.length : Int) ≤ frm ∨ frm < -(G.terms.length : Int) then (1, []) else Tr.repF G l [frm]
theorem idxS_spec (f : Int → Bool) : ∀ (zs : List Int) (i : Int), (idxS f zs i = -1 ∧ ∀ z ∈ zs, f z = false) ∨ ∃ k : Nat, k < zs.length ∧ idxS f zs i = i + k ∧ f (zs.getD k 0) = true ∧ ∀ z ∈ zs.take k, f z = false
  | [], i => .inl ⟨rfl, by simp⟩
  | z :: r, i => by
    unfold idxS
    cases hz : f z with
    | true => exact .inr ⟨0, by simp, by simp, by simpa using hz, by simp⟩
    | false =>
      rw [if_neg (by simp)]
      rcases idxS_spec f r (i + 1) with ⟨h1, h2⟩ | ⟨k, h1, h2, h3, h4⟩
      · exact .inl ⟨h1, by simpa [hz] using h2⟩
      · exact .inr ⟨k + 1, by simp; omega, by rw [h2]; omega, by simpa using h3, by simpa [hz] using h4⟩
theorem own_cap {w : World} {B n : Nat} {e : TypeId} {ga : Option Addr} {m cap : Nat} {xs : List Value} (h : w.ownsRow B e 1 (.slice ga m cap) n xs) : m ≤ cap ∧ cap ≤ 9223372036854775807 := by
  rcases h.2 with ⟨h0, h1⟩ | ⟨g, c, cur, h0, _, _, h1, h2, _⟩
  · cases h0; omega
  · cases h0; unfold maxLen at h2; omega
/-- What Replay leaves. -/
def RepSaid (w : World) (r : Nat × List Int) (e : Ending) (w' : World) : Prop := ∃ ga ca, e = .returned (.tuple #[.slice ga r.2.length ca, .int .i64 r.1]) ∧ RowI w' w'.heap.size ga r.2 ∧ Below w.heap.size w w'
theorem RepSaid.bad {w w' : World} {r : Nat × List Int} {c : Nat} (hr : r = (c, [])) (hb : Below w.heap.size w w') : RepSaid w r (.returned (.tuple #[.slice none 0 0, .int .i64 c])) w' := by
  subst hr
  exact ⟨none, 0, rfl, fun i hi => by simp at hi, hb⟩
def RpAt (w0 : World) (G : Gr) (l : List Int) (res : Nat × List Int) (k : Nat) (v8 v35 : Value) (w : World) : Prop :=
  ∃ (i : Nat) (ns : List Int) (ga : Option Addr) (ca : Nat), v35 = .int .i64 i ∧ v8 = .slice ga ns.length ca ∧ i ≤ l.length ∧ k = l.length - i ∧ ns.length ≤ ca ∧ ca ≤ 9223372036854775807 ∧ ns.length ≤ 65537 ∧ RowI w w.heap.size ga ns ∧ Tr.repF G (l.drop i) ns = res ∧ Below w0.heap.size w0 w
theorem rowI_take {w : World} {B : Nat} {ga : Option Addr} {zs : List Int} (h : RowI w B ga zs) (k : Nat) : RowI w B ga (zs.take k) := RowI.intro fun i x hx => by
  rw [List.getElem?_take] at hx
  split at hx
  · have hi := (List.getElem?_eq_some_iff.1 hx).1
    obtain ⟨g, o, h1, h2, h3⟩ := h.at hi
    exact ⟨g, o, h1, h2, by rw [h3, (List.getElem?_eq_some_iff.1 hx).2]⟩
  · cases hx
theorem rowI_drop {w : World} {B g o k : Nat} {zs : List Int} (h : RowI w B (some ⟨g, o, none⟩) zs) : RowI w B (some ⟨g, o + k, none⟩) (zs.drop k) := RowI.intro fun i x hx => by
  rw [List.getElem?_drop] at hx
  have hi := (List.getElem?_eq_some_iff.1 hx).1
  obtain ⟨g', o', h1, h2, h3⟩ := h.at hi
  cases h1
  exact ⟨g, o + k, rfl, h2, by rw [Nat.add_assoc, h3, (List.getElem?_eq_some_iff.1 hx).2]⟩
theorem rows3 {w : World} {a b c : List Int} {ga gb gc : Option Addr} {ca cb cc : Nat} {g : Nat} (hk : Bk w g 22 [.slice ga a.length ca, .slice gb b.length cb, .slice gc c.length cc]) (ha : RowI w w.heap.size ga a) (hb : RowI w w.heap.size gb b) (hc : RowI w w.heap.size gc c) : RowII w w.heap.size (some ⟨g, 0, none⟩) [a, b, c] := RowII.intro fun i x hx => by
  match i, hx with
  | 0, hx => cases hx; exact ⟨g, 0, _, _, rfl, hk.lt, hk.cell 0, ha⟩
  | 1, hx => cases hx; exact ⟨g, 0, _, _, rfl, hk.lt, hk.cell 1, hb⟩
  | 2, hx => cases hx; exact ⟨g, 0, _, _, rfl, hk.lt, hk.cell 2, hc⟩
  | i + 3, hx => simp at hx
theorem elem_ints : Try.prog.elem 22 = 3 := by kernel_rfl
theorem und_ints : Try.prog.underlying 22 = some (.slice (Try.prog.elem 22)) := by rw [elem_ints]; exact Try.underlying22
theorem slice_from {wr : World} {B k ca : Nat} {ga : Option Addr} {ns : List Int} (h : RowI wr B ga ns) (hk : k < ns.length) (hc : ns.length ≤ ca) (_hm : ca ≤ 9223372036854775807) :
    ∃ ga3 c3, RowI wr B ga3 (ns.drop (k + 1)) ∧ ∀ W : World, (Instr.slice 22 (.slice ga ns.length ca) (some (.int .i64 ((k : Int) + 1))) none none).run Try.prog W = .ok (.slice ga3 (ns.length - (k + 1)) c3) W := by
  have e : ((k : Int) + 1).toNat = k + 1 := by omega
  obtain ⟨g, o, rfl, -, -⟩ := h.at hk
  by_cases hcap : ca = k + 1
  · refine ⟨some ⟨g, o, none⟩, ca - (k + 1), ?_, fun W => ?_⟩
    · rw [List.drop_of_length_le (by omega)]
      exact fun i hi => by simp at hi
    · rw [run_slice_l W _ _ _ _ und_ints .i64 _ (by omega) (by omega), elem_ints, Try.sizeOf3 W]
      simp [sliced, Result.andThen, e, hcap]
  · refine ⟨some ⟨g, o + (k + 1), none⟩, ca - (k + 1), rowI_drop h, fun W => ?_⟩
    rw [run_slice_l W _ _ _ _ und_ints .i64 _ (by omega) (by omega), elem_ints, Try.sizeOf3 W]
    simp [sliced, Result.andThen, e, hcap, add_off0]
theorem slice_to {ga : Option Addr} {M k ca : Nat} (hk : k ≤ ca) (hga : ∀ a, ga = some a → a.spot = none) : ∀ W : World, (Instr.slice 22 (.slice ga M ca) none (some (.int .i64 (k : Int))) none).run Try.prog W = .ok (.slice ga k ca) W := by
  intro W
  rw [run_slice_h W _ _ _ _ und_ints .i64 _ (by omega) (by omega), elem_ints, Try.sizeOf3 W]
  cases ga with
  | none => simp [sliced, Result.andThen]
  | some a =>
    have := hga a rfl
    obtain ⟨b, o, s⟩ := a
    simp only at this
    subst this
    simp [sliced, Result.andThen, add_off0]
set_option maxHeartbeats 1000000 in
theorem rep1_calls (z : Int) (w : World) : Calls Try.prog 63 #[.int .i64 z] w fun e w' => e = .returned (.bool (ntB z)) ∧ w = w' := by
  go_enter Try.func63, Try.ntmps63
  go_wp2
  go_ret
  exact ⟨rfl, rfl⟩
theorem firstNt_calls (w : World) (ga : Option Addr) (cap : Nat) (zs : List Int) (hr : RowI w w.heap.size ga zs) (hl : zs.length ≤ 9223372036854775807) :
    Calls Try.prog 62 #[.slice ga zs.length cap, .func (.func 63) #[] #[]] w fun e w' => e = .returned (.int .i64 (idxS ntB zs 0)) ∧ w = w' :=
  indexFunc0_calls w ga cap zs 63 ntB hr hl (fun args w => by kernel_rfl) (fun z _ => rep1_calls z w)
section
variable (w : World) (G : Gr) (gn gt gp : Option Addr) (cn ct cp : Nat) (h : GIn w G gn gt gp) (frm : Int) (l : List Int) (gl : Option Addr) (cl : Nat) (hll : l.length ≤ 1000000000) (hrl : RowI w w.heap.size gl l)
include h hll hrl
set_option maxRecDepth 8000 in
set_option maxHeartbeats 8000000 in
theorem replay_calls : Calls Try.prog 17 #[.agg #[.int .i64 G.start, .int .i64 G.rules, .slice gn G.names.length cn, .slice gt G.terms.length ct, .slice gp G.prods.length cp], .int .i64 frm, .slice gl l.length cl] w (RepSaid w (Tr.repS G frm l)) := by
  have hbk := Bk.new w 30 [.int .i64 G.start, .int .i64 G.rules, .slice gn G.names.length cn, .slice gt G.terms.length ct, .slice gp G.prods.length cp]
  have hb0 : Below w.heap.size w (w.alloc (.cells #[.int .i64 G.start, .int .i64 G.rules, .slice gn G.names.length cn, .slice gt G.terms.length ct, .slice gp G.prods.length cp] 30)) := bel_al (bel_id w) _
  have hsc := sound_calls _ G gn gt gp cn ct cp (h.later hb0).n (h.later hb0).t (h.later hb0).p h.h1 h.h2 h.h3 h.h4
  have hin := h.later hb0
  have hrl0 := (hrl.below hb0).mono hb0.size
  obtain ⟨wa, hwa⟩ : ∃ wa, wa = (w.alloc (.cells #[.int .i64 G.start, .int .i64 G.rules, .slice gn G.names.length cn, .slice gt G.terms.length ct, .slice gp G.prods.length cp] 30)) := ⟨_, rfl⟩
  obtain ⟨b, hb⟩ : ∃ b, b = w.heap.size := ⟨_, rfl⟩
  rw [← hwa] at hbk hb0 hsc hin hrl0
  rw [← hb] at hbk
  have g0 := hbk.cell 0
  have g1 := hbk.cell 1
  have g2 := hbk.cell 2
  have g3 := hbk.cell 3
  have g4 := hbk.cell 4
  have hbl := hbk.lt
  simp only [List.getElem?_cons_zero, List.getElem?_cons_succ] at g0 g1 g2 g3 g4
  obtain ⟨res, hres⟩ : ∃ res, res = Tr.repS G frm l := ⟨_, rfl⟩
  rw [← hres]
  have Hwa := hid (And.intro hwa hb)
  have Hb0 := hid hb0
  have Hbk := hid hbk
  have Hin := hid hin
  have Hrl := hid hrl0
  have hl2 := hll
  obtain ⟨LL, hLL⟩ : ∃ LL, LL = l.length := ⟨_, rfl⟩
  rw [← hLL] at hl2 ⊢
  have HLL := hid hLL
  have q1 := h.h1
  have q2 := h.h2
  have q3 := h.h3
  unfold Tr.repS at hres
  clear hwa hb hb0 hbk hin hrl0 hrl h hll hLL
  cases hs : Pl.soundB G with
  | false =>
    rw [hs] at hsc hres
    rw [if_pos (.inl rfl)] at hres
    have Hres := hid hres
    clear hres hs
    go_enter Try.func17, Try.ntmps17
    go_upto_region 1 with fail
    rw [← Hwa.out.1, ← Hwa.out.2]
    go_wp2_with (go_at_call 61; refine hsc.mono ?_; rintro e w1 ⟨rfl, hb1⟩)
    go_ret2
    exact RepSaid.bad Hres.out (belw Hb0.out hb1)
  | true =>
    rw [hs] at hsc hres
    have hsn := sndG hs
    have t1 : (G.terms.length : Int) ≤ 256 := by have := hsn.t1; omega
    have p1 : (G.prods.length : Int) ≤ 256 := by have := hsn.p1; omega
    have Hsn := hid hsn
    clear hsn hs
    by_cases c1 : (G.names.length : Int) ≤ frm
    · rw [if_pos (.inr (.inl c1))] at hres
      have Hres := hid hres
      clear hres
      go_enter Try.func17, Try.ntmps17
      go_upto_region 1 with fail
      rw [← Hwa.out.1, ← Hwa.out.2]
      go_wp2_with (go_at_call 61; refine hsc.mono ?_; rintro e w1 ⟨rfl, hb1⟩; have hk1 := Hbk.out.below hb1 hbl; have g0 := hk1.cell 0; have g1 := hk1.cell 1; have g2 := hk1.cell 2; have g3 := hk1.cell 3; have g4 := hk1.cell 4; simp only [List.getElem?_cons_zero, List.getElem?_cons_succ] at g0 g1 g2 g3 g4; clear hk1)
      go_ret2
      exact RepSaid.bad Hres.out (belw Hb0.out hb1)
    by_cases c2 : frm < -(G.terms.length : Int)
    · rw [if_pos (.inr (.inr c2))] at hres
      have Hres := hid hres
      clear hres
      go_enter Try.func17, Try.ntmps17
      go_upto_region 1 with fail
      rw [← Hwa.out.1, ← Hwa.out.2]
      go_wp2_with (go_at_call 61; refine hsc.mono ?_; rintro e w1 ⟨rfl, hb1⟩; have hk1 := Hbk.out.below hb1 hbl; have g0 := hk1.cell 0; have g1 := hk1.cell 1; have g2 := hk1.cell 2; have g3 := hk1.cell 3; have g4 := hk1.cell 4; simp only [List.getElem?_cons_zero, List.getElem?_cons_succ] at g0 g1 g2 g3 g4; clear hk1)
      go_ret2
      exact RepSaid.bad Hres.out (belw Hb0.out hb1)
    rw [if_neg (by simp only [not_or]; exact ⟨by simp, c1, c2⟩)] at hres
    have Hres := hid hres
    clear hres
    go_enter Try.func17, Try.ntmps17
    go_upto_region 1 with fail
    rw [← Hwa.out.1, ← Hwa.out.2]
    go_upto_region 3 with (go_at_call 61; refine hsc.mono ?_; rintro e w1 ⟨rfl, hb1⟩; have hk1 := Hbk.out.below hb1 hbl; have g0 := hk1.cell 0; have g1 := hk1.cell 1; have g2 := hk1.cell 2; have g3 := hk1.cell 3; have g4 := hk1.cell 4; simp only [List.getElem?_cons_zero, List.getElem?_cons_succ] at g0 g1 g2 g3 g4)
    have hbn : Below w1.heap.size w1 (w1.alloc (.cells #[.int .i64 frm] 3)) := bel_al (bel_id _) _
    have hnk := Bk.new w1 3 [.int .i64 frm]
    have Hb1 := hid hb1
    have Hk1 := hid hk1
    clear hb1 hk1 g0 g1 g2 g3 g4
    go_wp2_with fail
    obtain ⟨w2, hw2⟩ : ∃ w2, w2 = (w1.alloc (.cells #[.int .i64 frm] 3)) := ⟨_, rfl⟩
    obtain ⟨N1, hN1⟩ : ∃ N1, N1 = w1.heap.size := ⟨_, rfl⟩
    rw [← hw2] at hbn hnk ⊢
    rw [← hN1] at hnk ⊢
    have hk2 := Hk1.out.below hbn Hk1.out.lt
    have hbl2 := hk2.lt
    have Hk2 := hid hk2
    have Hin2 := hid ((Hin.out.later Hb1.out).later hbn)
    have Hrow := hid (bk_rowI (zs := [frm]) hnk)
    have hb12 := belw Hb1.out hbn
    have Hrl2 := hid ((Hrl.out.below hb12).mono hb12.size)
    have Hb2 := hid (belw Hb0.out hb12)
    clear hw2 hN1 hbn hnk hk2 hb12 Hk1 Hb1 hbl
    go_loopg [8, 35] LL (fun k v8 v35 wr => RpAt w2 G l res k v8 v35 wr)
    case atStart => exact ⟨0, [frm], _, 1, rfl, rfl, Nat.zero_le _, HLL.out, by simp, by omega, by simp, Hrow.out, by rw [List.drop_zero]; exact Hres.out.symm, Below.refl _ _⟩
    case round =>
      obtain ⟨i, ns, ga, ca, rfl, rfl, hi, hk, hn1, hn2, hn3, hrow, hrf, hbr⟩ := hrel
      have hkr := Hk2.out.below hbr hbl2
      have g4 := hkr.cell 4
      simp only [List.getElem?_cons_zero, List.getElem?_cons_succ] at g4
      have hinr := Hin2.out.later hbr
      have hfi := firstNt_calls wr ga ca ns hrow (by omega)
      obtain ⟨M, hM⟩ : ∃ M, M = ns.length := ⟨_, rfl⟩
      rw [← hM] at hfi hn1 hn3 ⊢
      have HM := hid hM
      have Hk := hid hk
      have Hrowr := hid hrow
      have Hbr := hid hbr
      have Hinr := hid hinr
      clear hM hk hrow hkr hinr
      by_cases hlt : i < l.length
      · have hltL : (i : Int) < (LL : Int) := by have := HLL.out; omega
        have hi0 : (0 : Int) ≤ (i : Int) := by omega
        obtain ⟨x, hx⟩ : ∃ x, x = l[i] := ⟨_, rfl⟩
        obtain ⟨g, off, rfl, hg, hc⟩ := Hrl2.out.at hlt
        rw [← hx] at hc
        have hcx := (hbr.cell (p := ⟨g, _, none⟩) hg).trans hc
        rw [List.drop_eq_getElem_cons hlt, ← hx, Tr.repF] at hrf
        have Hlt := hid hlt
        clear hc hbr hx hlt hi
        by_cases d1 : x < 0
        · rw [if_pos (.inl d1)] at hrf
          have Hrf := hid hrf
          clear hrf hfi
          go_wp2_with fail
          go_ret2
          exact RepSaid.bad Hrf.out.symm (belw Hb2.out Hbr.out)
        by_cases d2 : (G.prods.length : Int) ≤ x
        · rw [if_pos (.inr d2)] at hrf
          have Hrf := hid hrf
          clear hrf hfi
          go_wp2_with fail
          go_ret2
          exact RepSaid.bad Hrf.out.symm (belw Hb2.out Hbr.out)
        rw [if_neg (by simp only [not_or]; exact ⟨d1, d2⟩)] at hrf
        obtain ⟨q, rfl⟩ : ∃ q : Nat, x = (q : Int) := ⟨x.toNat, by omega⟩
        have hq : q < G.prods.length := by omega
        obtain ⟨pr, hpr⟩ : ∃ pr, G.prods[q]? = some pr := ⟨_, List.getElem?_eq_getElem hq⟩
        obtain ⟨g1, o1, gr, cr, rfl, hg1, p0, p1', hrr⟩ := Hinr.out.p q pr hpr
        have hr16 := Hsn.out.r16 pr (List.mem_of_getElem? hpr)
        rw [Int.toNat_natCast, show G.prods.getD q (0, []) = pr by rw [List.getD, hpr]; rfl] at hrf
        obtain ⟨pl, prr⟩ := pr
        simp only at hrf p0 p1' hrr hr16
        have Hrr := hid hrr
        clear hpr hrr d1
        rcases idxS_spec ntB ns 0 with ⟨f1, f2⟩ | ⟨k, f1, f2, f3, f4⟩
        · rw [f1] at hfi hrf
          rw [if_pos (by decide)] at hrf
          have Hrf := hid hrf
          have Hfi := hid hfi
          clear hrf hfi f1 f2
          go_wp2_with (go_at_call 62; refine (Hid.out Hfi).mono ?_; rintro e w' ⟨rfl, rfl⟩)
          go_ret2
          exact RepSaid.bad Hrf.out.symm (belw Hb2.out Hbr.out)
        · rw [Int.zero_add] at f2
          rw [f2] at hfi hrf
          rw [if_neg (by omega), Int.toNat_natCast] at hrf
          obtain ⟨nk, hnk⟩ : ∃ nk, nk = ns[k] := ⟨_, rfl⟩
          obtain ⟨g2, o2, rfl, hg2, n0⟩ := Hrowr.out.at f1
          rw [← hnk] at n0
          rw [show ns.getD k 0 = nk by rw [hnk]; simp [List.getD, List.getElem?_eq_getElem f1], ← HM.out] at hrf
          have hkM : (k : Int) < (M : Int) := by have := HM.out; omega
          have hk0 : (0 : Int) ≤ (k : Int) := by omega
          have hM1 : (M : Int) ≤ 65537 := by omega
          have hcaM : (M : Int) ≤ (ca : Int) := by omega
          have hca1 : (ca : Int) ≤ 9223372036854775807 := by omega
          obtain ⟨R, hR⟩ : ∃ R, R = prr.length := ⟨_, rfl⟩
          rw [← hR] at hrf p1' hr16
          have hR1 : (R : Int) ≤ 16 := by omega
          have hR0 : (0 : Int) ≤ (R : Int) := by omega
          have HR := hid hR
          have Hfi := hid hfi
          have Hkl := hid f1
          clear hfi hnk hR f1 f2 f3 f4
          by_cases e1 : nk = pl
          · rw [if_neg (by simp [e1])] at hrf
            subst e1
            have e2 : (nk != nk) = false := by simp
            by_cases e3 : 65536 < (M : Int) - 1 + (R : Int)
            · rw [if_pos e3] at hrf
              have Hrf := hid hrf
              clear hrf
              go_upto_region 13 with (go_at_call 62; refine (Hid.out Hfi).mono ?_; rintro e w' ⟨rfl, rfl⟩)
              go_quiet (fail)
              go_wp2_with fail
              go_ret2
              exact RepSaid.bad Hrf.out.symm (below_drewN (belw Hb2.out Hbr.out) _)
            · rw [if_neg e3] at hrf
              have hlen : (ns.take k ++ (prr ++ ns.drop (k + 1))).length ≤ 65537 := by
                simp only [List.length_append, List.length_take, List.length_drop]
                have := HM.out; have := HR.out; omega
              have hcat : ∀ (ga3 : Option Addr) (c1 c3 : Nat), RowI wr wr.heap.size ga3 (ns.drop (k + 1)) → ∀ W : World, Below wr.heap.size wr W → Calls Try.prog 64 #[.slice (some ⟨W.heap.size, 0, none⟩) 3 3] (W.alloc (.cells #[.slice (some ⟨g2, o2, none⟩) k c1, .slice gr R cr, .slice ga3 (M - (k + 1)) c3] 22)) (CatSaid (W.alloc (.cells #[.slice (some ⟨g2, o2, none⟩) k c1, .slice gr R cr, .slice ga3 (M - (k + 1)) c3] 22)) (ns.take k ++ (prr ++ ns.drop (k + 1)))) := by
                intro ga3 c1 c3 h3 W hW
                have hWA := belw hW (bel_al (bel_id W) (.cells #[.slice (some ⟨g2, o2, none⟩) k c1, .slice gr R cr, .slice ga3 (M - (k + 1)) c3] 22))
                have e4 : (ns.take k).length = k := by have := Hkl.out; rw [List.length_take]; omega
                have e5 : (ns.drop (k + 1)).length = M - (k + 1) := by rw [List.length_drop, HM.out]
                have hk := Bk.new W 22 [.slice (some ⟨g2, o2, none⟩) (ns.take k).length c1, .slice gr prr.length cr, .slice ga3 (ns.drop (k + 1)).length c3]
                rw [e4, ← HR.out, e5] at hk
                have hrr := rows3 (a := ns.take k) (b := prr) (c := ns.drop (k + 1)) (by rw [e4, ← HR.out, e5]; exact hk) (((rowI_take Hrowr.out k).below hWA).mono hWA.size) ((Hrr.out.below hWA).mono hWA.size) ((h3.below hWA).mono hWA.size)
                have := concat_calls _ (some ⟨W.heap.size, 0, none⟩) 3 _ hrr (by simp) (by simp only [List.flatten_cons, List.flatten_nil, List.append_nil]; omega)
                simp only [List.flatten_cons, List.flatten_nil, List.append_nil] at this
                exact this
              obtain ⟨ga3, c3, h3, s2⟩ := slice_from Hrowr.out Hkl.out (by have := HM.out; omega) hn2
              rw [← HM.out] at s2
              have s1 := slice_to (ga := some ⟨g2, o2, none⟩) (M := M) (k := k) (ca := ca) (by omega) (fun a h => by cases h; rfl)
              have H3 := hid h3
              have hw1 : IntKind.i64.wrap ((k : Int) + 1) = (k : Int) + 1 := IntWalk.i64_in _ (by omega)
              clear h3
              have Hrf := hid hrf
              have Hlen := hid hlen
              have Hcat := hid hcat
              clear hrf hlen hcat
              go_upto_region 13 with (go_at_call 62; refine (Hid.out Hfi).mono ?_; rintro e w' ⟨rfl, rfl⟩)
              go_cut [59] from 60 to 70 (fun v59 wy => v59 = .bool false ∧ ∃ nq, wy = wr.drewN nq)
              case first =>
                go_quiet (fail)
                go_wp2_with fail
                go_meet
                exact ⟨rfl, _, rfl⟩
              case rest =>
                obtain ⟨rfl, nq, rfl⟩ := hcut
                clear hcx p0 p1' n0
                go_upto_region 17 with fail
                have HW := hid (below_drewN (Below.refl wr.heap.size wr) nq).drew
                go_region_held3 (fun _ : World => True) (trivial) ((go_at_call 64; refine (Hcat.out _ _ _ H3.out _ HW.out).mono ?_; rintro e wz ⟨v, rfl, hown, hbz⟩))
                obtain ⟨gv, cv, rfl, hrv⟩ := own_rowI hown
                have hcv := own_cap hown
                have Hrv := hid hrv
                have Hcv := hid hcv
                have Hbz := hid (belw (belw Hbr.out (belw HW.out (bel_al (bel_id _) _))) hbz)
                clear hrv hcv hbz hown HW
                go_wp2_with fail
                go_roundg (LL - (i + 1))
                case measure => have := Hk.out; have := HLL.out; have := Hlt.out; omega
                case rel => exact ⟨i + 1, _, gv, cv, by go_num, rfl, Hlt.out, by rw [HLL.out], Hcv.out.1, Hcv.out.2, Hlen.out, Hrv.out, Hrf.out, Hbz.out⟩
          · rw [if_pos (by simpa using e1)] at hrf
            have Hrf := hid hrf
            have e2 : (nk != pl) = true := by simpa using e1
            clear hrf
            go_upto_region 13 with (go_at_call 62; refine (Hid.out Hfi).mono ?_; rintro e w' ⟨rfl, rfl⟩)
            go_quiet (fail)
            go_wp2_with fail
            go_ret2
            exact RepSaid.bad Hrf.out.symm (below_drewN (belw Hb2.out Hbr.out) _)
      · have hge : ¬ (i : Int) < (LL : Int) := by have := HLL.out; omega
        rw [List.drop_of_length_le (by omega), Tr.repF] at hrf
        have Hrf := hid hrf
        clear hrf hfi hlt hi
        go_wp2_with fail
        go_ret2
        rw [← Hrf.out]
        exact ⟨ga, ca, by rw [HM.out]; rfl, Hrowr.out, belw Hb2.out Hbr.out⟩
end
end Go.Proofs.Ytaehooafdbaomaa
