/- Chapter 8 (plain), the document's side: place, apart, Sound of any grammar. -/
import Derived.Test.YtaehooafdbaomaaGin
namespace Go.Proofs.Ytaehooafdbaomaa
open Go.RowKit
attribute [local go_sem ↓] Go.wp_at_zero Go.wp_at_succ
attribute [local go_sem] frozen_alloc_lt

namespace Pl
def placeF : List ByteArray → ByteArray → Nat → Int
  | [], _, _ => -1
  | x :: r, s, i => if x = s then (i : Int) else placeF r s (i + 1)
theorem placeF_lt : ∀ (l : List ByteArray) (s : ByteArray) (i j : Nat), i ≤ j → (placeF l s i < (j : Int) ↔ (s ∈ l.take (j - i) ∨ s ∉ l))
  | [], s, i, j, h => by simp [placeF]; omega
  | x :: r, s, i, j, h => by
    unfold placeF
    by_cases e : x = s
    · rw [if_pos e]
      subst e
      cases hj : j - i with
      | zero => simp; omega
      | succ n => simp; omega
    · rw [if_neg e]
      have e' : ¬ s = x := fun h => e h.symm
      cases hj : j - i with
      | zero =>
        have := placeF_lt r s (i + 1) (j + 1) (by omega)
        rw [show j + 1 - (i + 1) = 0 by omega] at this
        simp only [List.take_zero, List.not_mem_nil, false_or, List.mem_cons, e'] at this ⊢
        constructor
        · intro h2
          exact this.1 (by omega)
        · intro h2
          have h3 := this.2 h2
          have h4 : placeF r s (i + 1) = -1 := by
            clear this h3
            generalize i + 1 = k
            induction r generalizing k with
            | nil => rfl
            | cons y t ih =>
              rw [placeF, if_neg (fun h => h2 (by simp [h]))]
              exact ih (fun h => h2 (by simp [h])) _
          omega
      | succ n =>
        have := placeF_lt r s (i + 1) j (by omega)
        rw [show j - (i + 1) = n by omega] at this
        rw [this]
        simp [e']
/-- apartS by places. -/
theorem apartS_eq (_most : Int) : ∀ (n : Nat) (ss : List ByteArray) (i : Nat), n = ss.length - i → i ≤ ss.length → ∀ known : List (List UInt8), (∀ t, t ∈ known ↔ ∃ s ∈ ss.take i, s.data.toList = t) → ∀ x, ss[i]? = some x → (x.data.toList ∈ known ↔ placeF ss x 0 < (i : Int)) := by
  intro n ss i _ hi known hk x hx
  rw [hk, placeF_lt ss x 0 i (Nat.zero_le _), Nat.sub_zero]
  constructor
  · rintro ⟨s, hs, e⟩
    have : s = x := by
      apply ByteArray.ext
      apply Array.ext'
      exact e
    exact .inl (this ▸ hs)
  · rintro (h | h)
    · exact ⟨x, h, rfl⟩
    · exact absurd (List.mem_of_getElem? hx) h
theorem known_next {ss : List ByteArray} {i : Nat} {x : ByteArray} {known : List (List UInt8)} (hx : ss[i]? = some x) (hk : ∀ t, t ∈ known ↔ ∃ s ∈ ss.take i, s.data.toList = t) : ∀ t, t ∈ x.data.toList :: known ↔ ∃ s ∈ ss.take (i + 1), s.data.toList = t := by
  intro t
  rw [List.take_add_one, hx, List.mem_cons, hk t]
  constructor
  · rintro (rfl | ⟨s, h1, h2⟩)
    · exact ⟨x, List.mem_append.2 (.inr (by simp)), rfl⟩
    · exact ⟨s, List.mem_append.2 (.inl h1), h2⟩
  · rintro ⟨s, h1, h2⟩
    rcases List.mem_append.1 h1 with h1 | h1
    · exact .inr ⟨s, h1, h2⟩
    · simp at h1; subst h1; exact .inl h2.symm
end Pl
theorem bytes_ext {x s : ByteArray} (e : x.toList = s.toList) : x = s := by
  apply ByteArray.ext
  apply Array.ext'
  rw [← ByteArray.toList_eq, ← ByteArray.toList_eq]
  exact e
def PlcAt (w0 : World) (ss : List ByteArray) (s : ByteArray) (res : Int) (k : Nat) (v5 : Value) (w : World) : Prop :=
  ∃ i : Nat, v5 = .int .i64 i ∧ i ≤ ss.length ∧ k = ss.length - i ∧ Pl.placeF (ss.drop i) s i = res ∧ w0 = w
set_option maxHeartbeats 2000000 in
theorem place_calls (w : World) (B : Nat) (ga : Option Addr) (ca : Nat) (ss : List ByteArray) (s : ByteArray) (hr : RowS w B ga ss) (hl : ss.length ≤ 9223372036854775807) :
    Calls Try.prog 132 #[.slice ga ss.length ca, .string s] w fun e w' => e = .returned (.int .i64 (Pl.placeF ss s 0)) ∧ w = w' := by
  obtain ⟨L, hL⟩ : ∃ L, L = ss.length := ⟨_, rfl⟩
  obtain ⟨res, hres⟩ : ∃ res, res = Pl.placeF ss s 0 := ⟨_, rfl⟩
  rw [← hL] at hl ⊢
  rw [← hres]
  have H := hid hr
  have HL := hid hL
  have Hres := hid hres
  clear hr hL hres
  go_enter Try.func132, Try.ntmps132
  go_wp2_with fail
  go_loopg [5] L (fun k v5 wr => PlcAt w ss s res k v5 wr)
  case atStart => exact ⟨0, rfl, Nat.zero_le _, HL.out, by rw [List.drop_zero]; exact Hres.out.symm, rfl⟩
  case round =>
    obtain ⟨i, rfl, hi, hk, hd, rfl⟩ := hrel
    rcases Nat.lt_or_ge i ss.length with hlt | hge
    · have hltL : (i : Int) < (L : Int) := by have := HL.out; omega
      have hi0 : (0 : Int) ≤ (i : Int) := by omega
      obtain ⟨x, hx⟩ : ∃ x, x = ss[i] := ⟨_, rfl⟩
      obtain ⟨g, off, rfl, hg, hc⟩ := H.out.at hlt
      rw [← hx] at hc
      rw [List.drop_eq_getElem_cons hlt, ← hx, Pl.placeF] at hd
      have Hk := hid hk
      have Hlt := hid hlt
      clear hk hi hlt hx
      by_cases hxt : x = s
      · rw [if_pos hxt] at hd
        subst hxt
        have He := hid hd
        clear hd
        go_wp2_with fail
        go_ret
        exact ⟨by rw [He.out]; rfl, rfl⟩
      · rw [if_neg hxt] at hd
        have hne : (x.toList == s.toList) = false := by
          rw [beq_eq_false_iff_ne]
          intro e
          exact hxt (bytes_ext e)
        have He := hid hd
        clear hd
        go_wp2_with fail
        go_roundg (L - (i + 1))
        case measure => have := Hk.out; have := Hlt.out; have := HL.out; omega
        case rel => exact ⟨i + 1, by go_num, Hlt.out, by rw [HL.out], He.out, rfl⟩
    · have hgeL : ¬ (i : Int) < (L : Int) := by have := HL.out; omega
      rw [List.drop_of_length_le hge] at hd
      have Hd := hid hd
      clear hd hk hi hge
      go_wp2_with fail
      go_ret
      exact ⟨by rw [← Hd.out]; rfl, rfl⟩
def ApAt (w0 : World) (ss : List ByteArray) (most : Int) (res : Bool) (k : Nat) (v5 : Value) (w : World) : Prop :=
  ∃ (i : Nat) (known : List (List UInt8)), v5 = .int .i64 i ∧ i ≤ ss.length ∧ k = ss.length - i ∧ Pl.apartS most known (ss.drop i) = res ∧ (∀ t, t ∈ known ↔ ∃ s ∈ ss.take i, s.data.toList = t) ∧ w0 = w
set_option maxHeartbeats 4000000 in
theorem apart_calls (w : World) (B : Nat) (ga : Option Addr) (ca : Nat) (ss : List ByteArray) (most : Int) (hr : RowS w B ga ss) (hl : ss.length ≤ 9223372036854775807) (_hm0 : 0 ≤ most) (_hm : most ≤ 70000) :
    Calls Try.prog 106 #[.slice ga ss.length ca, .int .i64 most] w fun e w' => e = .returned (.bool (Pl.apartS most [] ss)) ∧ w = w' := by
  obtain ⟨L, hL⟩ : ∃ L, L = ss.length := ⟨_, rfl⟩
  obtain ⟨res, hres⟩ : ∃ res, res = Pl.apartS most [] ss := ⟨_, rfl⟩
  rw [← hL]
  rw [← hres]
  have H := hid hr
  have HL := hid hL
  have Hres := hid hres
  have Hl := hid hl
  have hlL : (L : Int) ≤ 9223372036854775807 := by omega
  clear hr hL hres hl
  go_enter Try.func106, Try.ntmps106
  go_wp2_with fail
  go_loopg [5] L (fun k v5 wr => ApAt w ss most res k v5 wr)
  case atStart => exact ⟨0, [], rfl, Nat.zero_le _, HL.out, by rw [List.drop_zero]; exact Hres.out.symm, by simp, rfl⟩
  case round =>
    obtain ⟨i, known, rfl, hi, hk, hd, hkn, rfl⟩ := hrel
    rcases Nat.lt_or_ge i ss.length with hlt | hge
    · have hltL : (i : Int) < (L : Int) := by have := HL.out; omega
      have hi0 : (0 : Int) ≤ (i : Int) := by omega
      obtain ⟨x, hx⟩ : ∃ x, x = ss[i] := ⟨_, rfl⟩
      have hxi : ss[i]? = some x := by rw [hx]; exact List.getElem?_eq_getElem hlt
      have hpl := place_calls w B ga ca ss x H.out Hl.out
      have hpk := Pl.apartS_eq most _ ss i rfl (Nat.le_of_lt hlt) known hkn x hxi
      rw [← HL.out] at hpl
      obtain ⟨g, off, rfl, hg, hc⟩ := H.out.at hlt
      rw [← hx] at hc
      rw [List.drop_eq_getElem_cons hlt, ← hx, Pl.apartS] at hd
      obtain ⟨pl, hplv⟩ : ∃ pl, pl = Pl.placeF ss x 0 := ⟨_, rfl⟩
      rw [← hplv] at hpl hpk
      have hkn2 := Pl.known_next hxi hkn
      have Hpl := hid hpl
      have Hk := hid hk
      have Hlt := hid hlt
      have Hkn2 := hid hkn2
      clear hk hi hlt hx hxi hpl hplv hkn2 hkn
      by_cases c1 : x.size = 0
      · rw [if_pos (.inl c1)] at hd
        have Hd := hid hd
        have e1 : x.toList = [] := str_nil c1
        clear hd c1 hpk
        go_wp2_with fail
        go_ret
        rw [← Hd.out]
        exact ⟨rfl, rfl⟩
      · have e1 : x.toList.isEmpty = false := str_cons c1
        have e2 : x.toList ≠ [] := str_cons' c1
        by_cases c2 : most < x.size
        · rw [if_pos (.inr (.inl c2))] at hd
          have Hd := hid hd
          clear hd c1 hpk
          go_wp2_with fail
          go_ret
          rw [← Hd.out]
          exact ⟨rfl, rfl⟩
        · by_cases c3 : pl < (i : Int)
          · rw [if_pos (.inr (.inr (hpk.2 c3)))] at hd
            have Hd := hid hd
            clear hd c1 hpk
            go_wp2_with (go_at_call 132; refine (Hid.out Hpl).mono ?_; rintro e w' ⟨rfl, rfl⟩)
            go_ret
            rw [← Hd.out]
            exact ⟨rfl, rfl⟩
          · rw [if_neg (by simp only [not_or]; exact ⟨c1, c2, fun h => c3 (hpk.1 h)⟩)] at hd
            have Hd := hid hd
            clear hd c1 hpk
            go_wp2_with (go_at_call 132; refine (Hid.out Hpl).mono ?_; rintro e w' ⟨rfl, rfl⟩)
            go_roundg (L - (i + 1))
            case measure => have := Hk.out; have := Hlt.out; have := HL.out; omega
            case rel => exact ⟨i + 1, _, by go_num, Hlt.out, by rw [HL.out], Hd.out, Hkn2.out, rfl⟩
    · have hgeL : ¬ (i : Int) < (L : Int) := by have := HL.out; omega
      rw [List.drop_of_length_le hge] at hd
      have Hd := hid hd
      clear hd hk hi hge
      go_wp2_with fail
      go_ret
      exact ⟨by rw [← Hd.out]; rfl, rfl⟩
theorem Pl.sound_bad {G : Gr} (h : G.names.length < 1 ∨ 256 < G.names.length ∨ G.rules < 0 ∨ (G.names.length : Int) < G.rules ∨ 256 < G.terms.length ∨ 256 < G.prods.length ∨ G.start < 0 ∨ (G.names.length : Int) ≤ G.start ∨ Pl.apartS 65536 [] G.names = false ∨ Pl.apartS 16 [] G.terms = false) : Pl.soundB G = false := by
  unfold Pl.soundB
  split
  · rfl
  · rename_i h1
    split
    · rfl
    · rename_i h2
      simp only [not_or] at h1 h2
      exfalso
      rcases h with h | h | h | h | h | h | h | h | h | h
      · omega
      · omega
      · omega
      · omega
      · omega
      · omega
      · omega
      · omega
      · exact h1.2.2.2.2 h
      · exact h2.2.1 h
theorem Pl.sound_good {G : Gr} (c1 : ¬ G.names.length < 1) (c2 : ¬ 256 < G.names.length) (c3 : ¬ G.rules < 0) (c4 : ¬ (G.names.length : Int) < G.rules) (c5 : ¬ 256 < G.terms.length) (c6 : ¬ 256 < G.prods.length) (c7 : ¬ G.start < 0) (c8 : ¬ (G.names.length : Int) ≤ G.start) (c9 : Pl.apartS 65536 [] G.names = true) (c10 : Pl.apartS 16 [] G.terms = true) :
    Pl.soundB G = Pl.prodsS G.names.length G.terms.length 0 G.prods := by
  unfold Pl.soundB
  rw [if_neg (by simp only [not_or]; exact ⟨c1, c2, c3, c4, by rw [c9]; simp⟩), if_neg (by simp only [not_or]; exact ⟨c5, by rw [c10]; simp, c6, c7, c8⟩)]
def RsAt (w0 : World) (n t : Int) (ps : List (Int × List Int)) (res : Bool) (k : Nat) (v4 : Value) (w : World) : Prop :=
  ∃ (i : Nat) (prev : Int), v4 = .int .i64 i ∧ i ≤ ps.length ∧ (∀ x, 0 < i → ps[i-1]? = some x → x.1 = prev) ∧ (i = 0 → prev = 0) ∧ Pl.prodsS n t prev (ps.drop i) = res ∧ k = ps.length - i ∧ Below w0.heap.size w0 w
def RsIn (w0 : World) (n t : Int) (r : List Int) (k : Nat) (v6 : Value) (w : World) : Prop :=
  ∃ j : Nat, v6 = .int .i64 j ∧ j ≤ r.length ∧ (r.take j).any (Pl.strange n t) = false ∧ k = r.length - j ∧ Below w0.heap.size w0 w
set_option maxRecDepth 8000 in
set_option maxHeartbeats 8000000 in
/-- The document's Sound, of any grammar. -/
theorem rsound_calls (w : World) (G : Gr) (gn gt gp : Option Addr) (cn ct cp : Nat) (h : GIn w G gn gt gp) :
    Calls Try.prog 65 #[.agg #[.int .i64 G.start, .int .i64 G.rules, .slice gn G.names.length cn, .slice gt G.terms.length ct, .slice gp G.prods.length cp]] w fun e w' => e = .returned (.bool (Pl.soundB G)) ∧ Below w.heap.size w w' := by
  have hbad := @Pl.sound_bad G
  have hgood := @Pl.sound_good G
  generalize Pl.soundB G = res at *
  obtain ⟨st, ru, ns, ts, ps⟩ := G
  simp only at hbad hgood
  obtain ⟨hn0, ht0, hp0, h1, h2, h3, h4⟩ := h
  simp only at hn0 ht0 hp0 h1 h2 h3 h4
  obtain ⟨N, hN⟩ : ∃ N, N = ns.length := ⟨_, rfl⟩
  obtain ⟨T, hT⟩ : ∃ T, T = ts.length := ⟨_, rfl⟩
  obtain ⟨M, hM⟩ : ∃ M, M = ps.length := ⟨_, rfl⟩
  rw [← hN, ← hT, ← hM] at hbad hgood
  have hbk := Bk.new w 33 [.int .i64 st, .int .i64 ru, .slice gn N cn, .slice gt T ct, .slice gp M cp]
  have hb0 : Below w.heap.size w (w.alloc (.cells #[.int .i64 st, .int .i64 ru, .slice gn N cn, .slice gt T ct, .slice gp M cp] 33)) := bel_al (bel_id w) _
  obtain ⟨wa, hwa⟩ : ∃ wa, wa = (w.alloc (.cells #[.int .i64 st, .int .i64 ru, .slice gn N cn, .slice gt T ct, .slice gp M cp] 33)) := ⟨_, rfl⟩
  obtain ⟨b, hb⟩ : ∃ b, b = w.heap.size := ⟨_, rfl⟩
  rw [← hwa] at hbk hb0
  rw [← hb] at hbk
  have hap := apart_calls wa w.heap.size gn cn ns 65536 (hn0.below hb0) h1 (by omega) (by omega)
  have hap2 := apart_calls wa w.heap.size gt ct ts 16 (ht0.below hb0) h2 (by omega) (by omega)
  rw [← hN] at hap
  rw [← hT] at hap2
  have hp1 := hp0.below hb0
  have Hap := hid hap
  have Hap2 := hid hap2
  have Hp1 := hid hp1
  have Hwa := hid (And.intro hwa hb)
  have HN := hid (And.intro hN (And.intro hT hM))
  have Hh4 := hid h4
  have Hb0 := hid hb0
  have Hh := hid (And.intro h1 (And.intro h2 h3))
  have hN1 : (N : Int) ≤ 9223372036854775807 := by omega
  have hT1 : (T : Int) ≤ 9223372036854775807 := by omega
  have hM1 : (M : Int) ≤ 9223372036854775807 := by omega
  have g0 := hbk.cell 0
  have g1 := hbk.cell 1
  have g2 := hbk.cell 2
  have g3 := hbk.cell 3
  have g4 := hbk.cell 4
  simp only [List.getElem?_cons_zero, List.getElem?_cons_succ] at g0 g1 g2 g3 g4
  have Hbk := hid hbk
  clear hn0 ht0 hp0 h1 h2 h3 h4 hap hap2 hp1 hwa hb hb0 hN hT hM hbk
  go_enter Try.func65, Try.ntmps65
  go_upto_region 1 with fail
  rw [← HN.out.1, ← HN.out.2.1, ← HN.out.2.2, ← Hwa.out.1, ← Hwa.out.2]
  by_cases a1 : N < 1
  · have Hres := hid (hbad (.inl a1))
    clear hbad hgood
    have a1' : (N : Int) < 1 := by omega
    go_wp2_with fail
    go_ret
    rw [Hres.out]
    exact ⟨rfl, Hb0.out⟩
  have a1' : ¬ (N : Int) < 1 := by omega
  by_cases a2 : 256 < N
  · have Hres := hid (hbad (.inr (.inl a2)))
    clear hbad hgood
    have a2' : (256 : Int) < (N : Int) := by omega
    go_wp2_with fail
    go_ret
    rw [Hres.out]
    exact ⟨rfl, Hb0.out⟩
  have a2' : ¬ (256 : Int) < (N : Int) := by omega
  by_cases a3 : ru < 0
  · have Hres := hid (hbad (.inr (.inr (.inl a3))))
    clear hbad hgood
    go_wp2_with fail
    go_ret
    rw [Hres.out]
    exact ⟨rfl, Hb0.out⟩
  by_cases a4 : (N : Int) < ru
  · have Hres := hid (hbad (.inr (.inr (.inr (.inl a4)))))
    clear hbad hgood
    go_wp2_with fail
    go_ret
    rw [Hres.out]
    exact ⟨rfl, Hb0.out⟩
  by_cases a5 : 256 < T
  · have Hres := hid (hbad (.inr (.inr (.inr (.inr (.inl a5))))))
    clear hbad hgood
    have a5' : (256 : Int) < (T : Int) := by omega
    go_wp2_with fail
    go_ret
    rw [Hres.out]
    exact ⟨rfl, Hb0.out⟩
  have a5' : ¬ (256 : Int) < (T : Int) := by omega
  by_cases a6 : 256 < M
  · have Hres := hid (hbad (.inr (.inr (.inr (.inr (.inr (.inl a6)))))))
    clear hbad hgood
    have a6' : (256 : Int) < (M : Int) := by omega
    go_wp2_with fail
    go_ret
    rw [Hres.out]
    exact ⟨rfl, Hb0.out⟩
  have a6' : ¬ (256 : Int) < (M : Int) := by omega
  by_cases a7 : st < 0
  · have Hres := hid (hbad (.inr (.inr (.inr (.inr (.inr (.inr (.inl a7))))))))
    clear hbad hgood
    go_wp2_with fail
    go_ret
    rw [Hres.out]
    exact ⟨rfl, Hb0.out⟩
  by_cases a8 : (N : Int) ≤ st
  · have Hres := hid (hbad (.inr (.inr (.inr (.inr (.inr (.inr (.inr (.inl a8)))))))))
    clear hbad hgood
    go_wp2_with fail
    go_ret
    rw [Hres.out]
    exact ⟨rfl, Hb0.out⟩
  cases a9 : Pl.apartS 65536 [] ns with
  | false =>
    have Hres := hid (hbad (.inr (.inr (.inr (.inr (.inr (.inr (.inr (.inr (.inl a9))))))))))
    have A9 := hid a9
    clear hbad hgood a9
    go_wp2_with (go_at_call 106; refine Hap.out.mono ?_; rintro e w1 ⟨rfl, rfl⟩; rw [A9.out])
    go_ret
    rw [Hres.out]
    exact ⟨rfl, Hb0.out⟩
  | true =>
  cases a10 : Pl.apartS 16 [] ts with
  | false =>
    have Hres := hid (hbad (.inr (.inr (.inr (.inr (.inr (.inr (.inr (.inr (.inr (a10)))))))))))
    have A9 := hid a9
    have A10 := hid a10
    clear hbad hgood a9 a10
    go_wp2_with (first
      | (go_at_call 106; refine (Hid.out Hap3).mono ?_; rintro e w1 ⟨rfl, rfl⟩; rw [A10.out])
      | (go_at_call 106; refine Hap.out.mono ?_; rintro e w1 ⟨rfl, rfl⟩; rw [A9.out]; have Hap3 := hid Hap2.out))
    go_ret
    rw [Hres.out]
    exact ⟨rfl, Hb0.out⟩
  | true =>
  have Hgood := hid (hgood a1 a2 a3 a4 a5 a6 a7 a8 a9 a10)
  have A9 := hid a9
  have A10 := hid a10
  have hT2 : (T : Int) ≤ 256 := by omega
  clear hbad hgood a9 a10
  go_wp2_with (first
    | (go_at_call 106; refine (Hid.out Hap3).mono ?_; rintro e w1 ⟨rfl, rfl⟩; rw [A10.out])
    | (go_at_call 106; refine Hap.out.mono ?_; rintro e w1 ⟨rfl, rfl⟩; rw [A9.out]; have Hap3 := hid Hap2.out))
  clear Hap Hap2 Hap3 g0 g1 g2 g3 g4
  go_loopg [4] M (fun k v4 wr => RsAt wa N T ps res k v4 wr)
  case atStart => exact ⟨0, 0, rfl, Nat.zero_le _, fun x h => by omega, fun _ => rfl, by rw [List.drop_zero]; exact Hgood.out.symm, HN.out.2.2, Below.refl _ _⟩
  case round =>
    obtain ⟨i, prev, rfl, hi, hpv, hpv0, hps, hk, hbr⟩ := hrel
    have Hk := hid hk
    have Hpv := hid hpv
    have Hpv0 := hid hpv0
    have hbkr := Hbk.out.below hbr Hbk.out.lt
    have hpr := Hp1.out.below (hbr.mono Hb0.out.size)
    have g2 := hbkr.cell 2
    have g3 := hbkr.cell 3
    have g4 := hbkr.cell 4
    simp only [List.getElem?_cons_zero, List.getElem?_cons_succ] at g2 g3 g4
    clear hk hpv hpv0
    by_cases hlt : i < ps.length
    · have hlt' : (i : Int) < (M : Int) := by have := HN.out.2.2; omega
      have hi0 : (0 : Int) ≤ (i : Int) := by omega
      obtain ⟨x, hx⟩ : ∃ x, x = ps[i] := ⟨_, rfl⟩
      have hxi : ps[i]? = some x := by rw [hx]; exact List.getElem?_eq_getElem hlt
      have hr16 := Hh4.out x (by rw [hx]; exact List.getElem_mem hlt)
      rw [List.drop_eq_getElem_cons hlt, ← hx, Pl.prodsS] at hps
      obtain ⟨l, r⟩ := x
      simp only at hps hr16
      obtain ⟨g, off, gr, cr, rfl, hg, hc0, hc1, hri⟩ := hpr i _ hxi
      simp only at hc0 hc1 hri
      have Hxi := hid hxi
      have Hlt := hid hlt
      obtain ⟨R, hR⟩ : ∃ R, R = r.length := ⟨_, rfl⟩
      rw [← hR] at hps hr16 hc1
      have HR := hid hR
      clear hx hxi hR
      have hbx : Below wr.heap.size wr (wr.alloc (.cells #[.int .i64 l, .slice gr R cr] 103)) := (Below.refl _ _).alloc (Nat.le_refl _) _
      have hxk : Bk (wr.alloc (.cells #[.int .i64 l, .slice gr R cr] 103)) wr.heap.size 103 [.int .i64 l, .slice gr R cr] := Bk.new wr _ _
      obtain ⟨wx, hwx⟩ : ∃ wx, wx = (wr.alloc (.cells #[.int .i64 l, .slice gr R cr] 103)) := ⟨_, rfl⟩
      obtain ⟨c, hcc⟩ : ∃ c, c = wr.heap.size := ⟨_, rfl⟩
      rw [← hwx] at hbx hxk
      rw [← hcc] at hxk
      have Hwx := hid (And.intro hwx hcc)
      have hbx2 : Below wa.heap.size wa wx := belw hbr hbx
      have Hbx2 := hid hbx2
      have Hri := hid (hri.below (hbx.mono (Nat.le_trans Hb0.out.size hbr.size)))
      have hpx := hpr.below (hbx.mono (Nat.le_trans Hb0.out.size hbr.size))
      have Hpx := hid hpx
      have hbkx := hbkr.below hbx hbkr.lt
      have q2 := hbkx.cell 2
      have q3 := hbkx.cell 3
      have q4 := hbkx.cell 4
      have x0 := hxk.cell 0
      have x1 := hxk.cell 1
      simp only [List.getElem?_cons_zero, List.getElem?_cons_succ] at q2 q3 q4 x0 x1
      have hRm : (R : Int) ≤ 9223372036854775807 := by omega
      have hbl := hbkx.lt
      have hcl := hxk.lt
      have Hwz := hid (Nat.le_trans Hb0.out.size hbx2.size)
      clear hwx hcc hbx2 hri hpr hpx hbx hbkr hxk
      clear hbr hbkx hr16 hlt
      by_cases hd : l < 0 ∨ (N : Int) ≤ l ∨ 16 < R ∨ l < prev
      · rw [if_pos hd] at hps
        have Hps := hid hps
        clear hps hi
        go_upto_region 8 with fail
        rw [← Hwx.out.1, ← Hwx.out.2]
        clear g2 g3 g4 hc0 hc1
        go_cut [104] from 74 to 104 (fun v104 wy => v104 = .bool true ∧ Below wa.heap.size wa wy)
        case first =>
          by_cases d1 : l < 0
          · clear hd
            go_quiet (fail)
            go_wp2_with fail
            go_meet
            exact ⟨rfl, below_drewN Hbx2.out _⟩
          by_cases d2 : (N : Int) ≤ l
          · clear hd
            go_quiet (fail)
            go_wp2_with fail
            go_meet
            exact ⟨rfl, below_drewN Hbx2.out _⟩
          by_cases d3 : 16 < R
          · have d3' : (16 : Int) < (R : Int) := by omega
            clear hd
            go_quiet (fail)
            go_wp2_with fail
            go_meet
            exact ⟨rfl, below_drewN Hbx2.out _⟩
          have d3' : ¬ (16 : Int) < (R : Int) := by omega
          have d5 : l < prev := by omega
          clear hd
          cases i with
          | zero => have := Hpv0.out rfl; omega
          | succ j =>
            have hj1 : j < ps.length := by have := Hlt.out; omega
            have hji : (j : Int) < (M : Int) := by have := HN.out.2.2; omega
            have hji0 : (0 : Int) ≤ (j : Int) := by omega
            obtain ⟨y, hy⟩ : ∃ y, y = ps[j] := ⟨_, rfl⟩
            have hyj : ps[j]? = some y := by rw [hy]; exact List.getElem?_eq_getElem hj1
            have hy1 : y.1 = prev := Hpv.out y (by omega) (by simpa using hyj)
            obtain ⟨g', off', gr', cr', e1, -, hy0, -, -⟩ := Hpx.out j _ hyj
            simp only [Option.some.injEq, Addr.mk.injEq] at e1
            obtain ⟨rfl, rfl, -⟩ := e1
            rw [hy1] at hy0
            clear hy hyj hy1 hj1
            go_quiet (fail)
            go_wp2_with fail
            go_meet
            exact ⟨rfl, below_drewN Hbx2.out _⟩
        case rest =>
          obtain ⟨rfl, hby⟩ := hcut
          clear hd
          go_wp2_with fail
          go_ret
          rw [← Hps.out]
          exact ⟨rfl, belw Hb0.out hby⟩
      · rw [if_neg hd] at hps
        simp only [not_or] at hd
        obtain ⟨d1, d2, d3, d5⟩ := hd
        have d3' : ¬ (16 : Int) < (R : Int) := by omega
        have hRs : (R : Int) ≤ 16 := by omega
        have Hps := hid hps
        clear hps hi
        go_upto_region 8 with fail
        rw [← Hwx.out.1, ← Hwx.out.2]
        clear g2 g3 g4 hc0 hc1
        go_cut [104] from 74 to 104 (fun v104 wy => v104 = .bool false ∧ ∃ nq, wy = wx.drewN nq)
        case first =>
          cases i with
          | zero =>
            go_quiet (fail)
            go_wp2_with fail
            go_meet
            exact ⟨rfl, _, rfl⟩
          | succ j =>
            have hj1 : j < ps.length := by have := Hlt.out; omega
            have hji : (j : Int) < (M : Int) := by have := HN.out.2.2; omega
            have hji0 : (0 : Int) ≤ (j : Int) := by omega
            obtain ⟨y, hy⟩ : ∃ y, y = ps[j] := ⟨_, rfl⟩
            have hyj : ps[j]? = some y := by rw [hy]; exact List.getElem?_eq_getElem hj1
            have hy1 : y.1 = prev := Hpv.out y (by omega) (by simpa using hyj)
            obtain ⟨g', off', gr', cr', e1, -, hy0, -, -⟩ := Hpx.out j _ hyj
            simp only [Option.some.injEq, Addr.mk.injEq] at e1
            obtain ⟨rfl, rfl, -⟩ := e1
            rw [hy1] at hy0
            clear hy hyj hy1 hj1
            go_quiet (fail)
            go_wp2_with fail
            go_meet
            exact ⟨rfl, _, rfl⟩
        case rest =>
          obtain ⟨rfl, nq, hwy⟩ := hcut
          have hb1 : Below wa.heap.size wa wc := by rw [hwy]; exact below_drewN Hbx2.out _
          have hri1 : RowI wc w.heap.size gr r := by rw [hwy]; exact Hri.out
          have w2' : wc.cell? ⟨b, 2, none⟩ = some (.slice gn N cn) := by rw [hwy]; exact q2
          have w3' : wc.cell? ⟨b, 3, none⟩ = some (.slice gt T ct) := by rw [hwy]; exact q3
          have w4' : wc.cell? ⟨b, 4, none⟩ = some (.slice (some ⟨g, off, none⟩) M cp) := by rw [hwy]; exact q4
          have v0 : wc.cell? ⟨c, 0, none⟩ = some (.int .i64 l) := by rw [hwy]; exact x0
          have v1 : wc.cell? ⟨c, 1, none⟩ = some (.slice gr R cr) := by rw [hwy]; exact x1
          have hbc : b < wc.heap.size := by rw [hwy]; exact hbl
          have hcc : c < wc.heap.size := by rw [hwy]; exact hcl
          have hwz : w.heap.size ≤ wc.heap.size := by rw [hwy]; exact Hwz.out
          have Hb1 := hid hb1
          have Hri1 := hid hri1
          have Hwzc := hid hwz
          clear hwy hb1 hri1 q2 q3 q4 x0 x1 hbl hcl hwz
          go_wp2_with fail
          go_loopg [6] R (fun k v6 wr => RsIn wc N T r k v6 wr)
          case atStart => exact ⟨0, rfl, Nat.zero_le _, rfl, HR.out, Below.refl _ _⟩
          case round =>
            obtain ⟨j, rfl, hj, hjn, hk, hbq⟩ := hrel
            have Hk2 := hid hk
            have Hjn := hid hjn
            have Hbq := hid hbq
            have z2 := (hbq.cell (p := ⟨b, 2, none⟩) hbc).trans w2'
            have z3 := (hbq.cell (p := ⟨b, 3, none⟩) hbc).trans w3'
            have y1 := (hbq.cell (p := ⟨c, 1, none⟩) hcc).trans v1
            clear hk hjn
            by_cases hjl : j < r.length
            · have hjl' : (j : Int) < (R : Int) := by have := HR.out; omega
              have hj0 : (0 : Int) ≤ (j : Int) := by omega
              obtain ⟨s, hs⟩ : ∃ s, s = r[j] := ⟨_, rfl⟩
              obtain ⟨g1, o1, rfl, hg1, hs0⟩ := Hri1.out.at hjl
              rw [← hs] at hs0
              have sc := (hbq.cell (p := ⟨g1, _, none⟩) (Nat.lt_of_lt_of_le hg1 Hwzc.out)).trans hs0
              have Hjl := hid hjl
              have hs2 : r[j]? = some s := by rw [hs]; exact List.getElem?_eq_getElem hjl
              have Hs := hid hs2
              clear hbq hs0 hjl hs hj hs2
              by_cases s1 : (N : Int) ≤ s
              · go_upto_region 13 with fail
                go_quiet (fail)
                go_wp2_with fail
                go_ret
                have hany : r.any (Pl.strange N T) = true := List.any_eq_true.2 ⟨s, List.mem_of_getElem? Hs.out, by simp [Pl.strange, s1]⟩
                rw [← Hps.out, if_pos hany]
                exact ⟨rfl, below_drewN (belw Hb0.out (belw Hb1.out Hbq.out)) _⟩
              · by_cases s2 : s < -(T : Int)
                · go_upto_region 13 with fail
                  go_quiet (fail)
                  go_wp2_with fail
                  go_ret
                  have hany : r.any (Pl.strange N T) = true := List.any_eq_true.2 ⟨s, List.mem_of_getElem? Hs.out, by simp [Pl.strange, s2]⟩
                  rw [← Hps.out, if_pos hany]
                  exact ⟨rfl, below_drewN (belw Hb0.out (belw Hb1.out Hbq.out)) _⟩
                · go_upto_region 13 with fail
                  go_quiet (fail)
                  go_wp2_with fail
                  go_roundg (R - (j + 1))
                  case measure => have := Hk2.out; have := HR.out; have := Hjl.out; omega
                  case rel => exact ⟨j + 1, by go_num, Hjl.out, by rw [List.take_add_one, List.any_append, Hjn.out, Hs.out]; simp [Pl.strange]; omega, by rw [HR.out], below_drewN Hbq.out _⟩
            · have hjl' : ¬ (j : Int) < (R : Int) := by have := HR.out; omega
              have hany : r.any (Pl.strange N T) = false := by have := Hjn.out; rwa [List.take_of_length_le (by omega)] at this
              have Hany := hid hany
              clear hany hjl hbq hj
              go_wp2_with fail
              go_roundg (M - (i + 1))
              case measure => have := Hk.out; have := Hlt.out; have := HN.out.2.2; omega
              case rel => exact ⟨i + 1, l, by go_num, Hlt.out, (fun y _ hy => by have := Hxi.out; rw [Nat.add_sub_cancel, this] at hy; injection hy with hy; rw [← hy]), (fun h => by omega), (by have h := Hps.out; rw [if_neg (by rw [Hany.out]; simp)] at h; exact h), by rw [HN.out.2.2], belw Hb1.out Hbq.out⟩
    · have hge : ¬ (i : Int) < (M : Int) := by have := HN.out.2.2; omega
      rw [List.drop_of_length_le (by omega)] at hps
      have Hps := hid hps
      clear hps hlt hi
      go_wp2_with fail
      go_ret
      rw [← Hps.out]
      exact ⟨rfl, belw Hb0.out hbr⟩
end Go.Proofs.Ytaehooafdbaomaa
