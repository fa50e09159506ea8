/- Chapter 6 (format): how deep a text's brackets lie: walk. -/
import Derived.Test.YtjaampgpihicmaaFmtText
import Derived.Test.YtjaampgpihicmaaSyn16
namespace Go.Proofs.Ytjaampgpihicmaa
open Go.RowKit
attribute [local go_sem ↓] Go.wp_at_zero Go.wp_at_succ
attribute [local go_sem] frozen_alloc_lt
open Fmt (deepT foldD stepD foldD_cons)

set_option maxHeartbeats 4000000 in
set_option maxRecDepth 8000 in
theorem deep_calls (s : ByteArray) (w : World) (hs : s.size ≤ 9223372036854775807) {T : List Lex.Tok} (h : Lex.scan s.data.toList = .good T) (hT : T.length ≤ 70000) :
    Calls Try.prog 39 #[.string s] w fun e w' => e = .returned (.int .i64 (deepT T)) ∧ Below w.heap.size w w' := by
  have hscan := scan_calls s w hs
  rw [h] at hscan
  have hpos : 0 < T.length := by
    obtain ⟨ts, x, hT, _, _, _⟩ := Lex.scan_ok h
    rw [hT]; simp
  obtain ⟨L, hL⟩ : ∃ L, L = T.length := ⟨_, rfl⟩
  obtain ⟨D, hD⟩ : ∃ D, D = deepT T := ⟨_, rfl⟩
  rw [← hD]
  have Hscan := hid hscan
  have H := hid (And.intro hL (And.intro hD (And.intro hpos hT)))
  clear hscan hL hD hpos hT h hs
  go_enter Try.func39, Try.ntmps39
  go_upto_region 2 with (go_at_call 20; refine Hscan.out.mono ?_; rintro e w1 ⟨v, rfl, hown, hb1⟩; obtain ⟨g, cap, rfl, -, hg⟩ := hown.form H.out.2.2.1; have htr := toks_read hown hg; rw [← H.out.1]; have H1 := hid (And.intro htr hb1); clear htr hown hg hb1)
  have hb2 := bel_new w1 (.cells #[.int .i64 0, .int .i64 0, .int .i64 0] 28)
  obtain ⟨w2, hw2⟩ : ∃ w2, w2 = w1.alloc (.cells #[.int .i64 0, .int .i64 0, .int .i64 0] 28) := ⟨_, rfl⟩
  obtain ⟨f, hf⟩ : ∃ f, f = w1.heap.size := ⟨_, rfl⟩
  have H2 := hid (And.intro (H1.out.1.below (by rw [← hw2] at hb2; exact hb2)) (bel_trans H1.out.2 (by rw [← hw2] at hb2; exact hb2)))
  rw [← hw2]
  rw [← hf]
  have Hlt := hid (show w1.heap.size ≤ w2.heap.size by rw [hw2]; simp)
  rw [← hf] at H2 Hlt
  clear hw2 hf hb2
  have hL6 : (L : Int) ≤ 70000 := by have := H.out.1; have := H.out.2.2.2; omega
  go_upto_region 4 with fail
  go_loopg [5, 6, 7] L (fun k v5 v6 v7 wr => ∃ (i : Nat) (n m : Int), v5 = .int .i64 n ∧ v6 = .int .i64 m ∧ v7 = .int .i64 i ∧ i ≤ L ∧ k = L - i ∧ (foldD ((T.drop i).map Lex.key) (n, m)).2 = D ∧ -(i : Int) ≤ n ∧ n ≤ i ∧ wr = w2)
  case atStart => exact ⟨0, 0, 0, rfl, rfl, rfl, Nat.zero_le _, rfl, by rw [H.out.2.1]; rfl, by decide, by decide, rfl⟩
  case round =>
    obtain ⟨i, n, m, rfl, rfl, rfl, hi, hk, hd, hn1, hn2, rfl⟩ := hrel
    have Hk := hid hk
    have Hi := hid hi
    have Hd := hid hd
    clear hk hi hd
    rcases Nat.lt_or_ge i L with hlt | hge
    · have hltL : (i : Int) < (L : Int) := by omega
      have hi0 : (0 : Int) ≤ (i : Int) := by omega
      obtain ⟨t, ht⟩ : ∃ t, T[i]? = some t := ⟨_, List.getElem?_eq_getElem (by rw [← H.out.1]; exact hlt)⟩
      obtain ⟨g1, o1, e1, hg1, a0, a1, -, -⟩ := H2.out.1 i t ht
      injection e1 with e1
      injection e1 with e2 e3
      subst e2 e3
      rw [Nat.zero_add] at a0 a1
      have hdd : (foldD ((T.drop (i + 1)).map Lex.key) (stepD (n, m) (t.kind, t.text))).2 = D := by
        rw [← Hd.out, show T.drop i = t :: T.drop (i + 1) from by rw [List.drop_eq_getElem_cons (by rw [← H.out.1]; exact hlt)]; congr 1; exact (List.getElem?_eq_some_iff.1 ht).2, List.map_cons, foldD_cons]
        rfl
      have Hdd := hid hdd
      obtain ⟨kv, hkv⟩ : ∃ kv : Int, kv = t.kind := ⟨_, rfl⟩
      obtain ⟨tv, htv⟩ : ∃ tv : ByteArray, tv = ⟨t.text.toArray⟩ := ⟨_, rfl⟩
      rw [← hkv] at a0
      rw [← htv] at a1
      have HV := hid (And.intro hkv htv)
      have Hlt2 := hid hlt
      clear hdd ht hkv htv hg1 hlt
      by_cases h3 : t.kind = 3
      · have k3 : (kv != 3) = false := by rw [HV.out.1, h3]; rfl
        have hst : stepD (n, m) (t.kind, t.text) = (if t.text = [40] ∨ t.text = [91] ∨ t.text = [123] then n + 1 else if t.text = [41] ∨ t.text = [93] ∨ t.text = [125] then n - 1 else n, max m (if t.text = [40] ∨ t.text = [91] ∨ t.text = [123] then n + 1 else if t.text = [41] ∨ t.text = [93] ∨ t.text = [125] then n - 1 else n)) := by
          unfold stepD
          rw [if_neg (by simpa using h3)]
        have Hst := hid hst
        clear hst h3
        go_upto_region 8 with fail
        have he : ∀ l : List UInt8, t.text = l ↔ (tv.toList == l) = true := fun l => by rw [HV.out.2, Lib.toList_data]; simp
        have He := hid he
        clear he
        go_wp2_with fail
        all_goals (
          go_roundg (L - (i + 1))
          case measure => have hk := Hk.out; have := Hlt2.out; omega
          case rel =>
            first
              | exact absurd ‹(tv.toList == [40]) = true› (by rw [‹(tv.toList == [40]) = false›]; decide)
              | exact absurd ‹(tv.toList == [91]) = true› (by rw [‹(tv.toList == [91]) = false›]; decide)
              | exact absurd ‹(tv.toList == [123]) = true› (by rw [‹(tv.toList == [123]) = false›]; decide)
              | exact absurd ‹(tv.toList == [41]) = true› (by rw [‹(tv.toList == [41]) = false›]; decide)
              | exact absurd ‹(tv.toList == [93]) = true› (by rw [‹(tv.toList == [93]) = false›]; decide)
              | exact absurd ‹(tv.toList == [125]) = true› (by rw [‹(tv.toList == [125]) = false›]; decide)
              | (have hs := Hst.out
                 have hd := Hdd.out
                 simp only [He.out, *] at hs
                 simp at hs
                 rw [hs] at hd
                 refine ⟨i + 1, _, _, rfl, rfl, by go_num, Hlt2.out, rfl, ?_, by omega, by omega, rfl⟩
                 first
                   | exact hd
                   | (rw [Int.max_eq_left (by omega)] at hd; exact hd)
                   | (rw [Int.max_eq_right (by omega)] at hd; exact hd)))
      · have k3 : (kv != 3) = true := by rw [HV.out.1]; simp; omega
        have hst : stepD (n, m) (t.kind, t.text) = (n, m) := by unfold stepD; rw [if_pos (by simpa using h3)]
        have Hst := hid hst
        clear hst h3
        go_wp2_with fail
        go_roundg (L - (i + 1))
        case measure => have hk := Hk.out; have := Hlt2.out; omega
        case rel => exact ⟨i + 1, n, m, rfl, rfl, by go_num, Hlt2.out, rfl, by rw [← Hst.out]; exact Hdd.out, by omega, by omega, rfl⟩
    · have hgeL : ¬ (i : Int) < (L : Int) := by omega
      have he : m = D := by
        have := Hd.out
        rw [List.drop_eq_nil_of_le (by rw [← H.out.1]; exact hge)] at this
        exact this
      have He := hid he
      clear he hge
      go_wp2_with fail
      go_ret
      rw [He.out]
      exact ⟨rfl, H2.out.2⟩
end Go.Proofs.Ytjaampgpihicmaa
