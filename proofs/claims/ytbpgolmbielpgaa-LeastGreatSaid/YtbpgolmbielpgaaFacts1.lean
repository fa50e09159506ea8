/- Chapter 9 (facts): what a sound grammar is; length; add (the closure in close); uses. -/
import Derived.Test.YtbpgolmbielpgaaPlain2
import Derived.Test.YtbpgolmbielpgaaOwnII
import Derived.Test.YtbpgolmbielpgaaMake
import Derived.Deep.RegionLaw
namespace Go.Proofs.Ytbpgolmbielpgaa
open Go.RowKit
attribute [local go_sem ↓] Go.wp_at_zero Go.wp_at_succ
attribute [local go_sem] frozen_alloc_lt

/-- What Sound says of a grammar, as inequalities. -/
structure SndG (G : Gr) : Prop where
  n0 : 1 ≤ G.names.length
  n1 : G.names.length ≤ 256
  t1 : G.terms.length ≤ 256
  p1 : G.prods.length ≤ 256
  s0 : 0 ≤ G.start
  s1 : G.start < G.names.length
  l0 : ∀ x ∈ G.prods, 0 ≤ x.1
  l1 : ∀ x ∈ G.prods, x.1 < G.names.length
  r16 : ∀ x ∈ G.prods, x.2.length ≤ 16
  r0 : ∀ x ∈ G.prods, ∀ s ∈ x.2, -(G.terms.length : Int) ≤ s
  r1 : ∀ x ∈ G.prods, ∀ s ∈ x.2, s < G.names.length

theorem Pl.prodsS_true {n t : Int} : ∀ (ps : List (Int × List Int)) (prev : Int), Pl.prodsS n t prev ps = true → ∀ x ∈ ps, 0 ≤ x.1 ∧ x.1 < n ∧ x.2.length ≤ 16 ∧ ∀ s ∈ x.2, -t ≤ s ∧ s < n
  | [], _, _, _, hx => by simp at hx
  | y :: r, prev, h, x, hx => by
    unfold Pl.prodsS at h
    split at h
    · cases h
    · rename_i h1
      split at h
      · cases h
      · rename_i h2
        simp only [not_or] at h1
        rcases List.mem_cons.1 hx with rfl | hx
        · refine ⟨by omega, by omega, by omega, fun s hs => ?_⟩
          have h3 : Pl.strange n t s = false := by
            cases h3 : Pl.strange n t s
            · rfl
            · exact absurd (List.any_eq_true.2 ⟨s, hs, h3⟩) h2
          simp [Pl.strange] at h3
          omega
        · exact prodsS_true r _ h x hx

theorem sndG {G : Gr} (h : Pl.soundB G = true) : SndG G := by
  unfold Pl.soundB at h
  split at h
  · cases h
  · rename_i h1
    split at h
    · cases h
    · rename_i h2
      simp only [not_or] at h1 h2
      have hp := Pl.prodsS_true _ _ h
      exact ⟨by omega, by omega, by omega, by omega, by omega, by omega, fun x hx => (hp x hx).1, fun x hx => (hp x hx).2.1, fun x hx => (hp x hx).2.2.1,
        fun x hx s hs => ((hp x hx).2.2.2 s hs).1, fun x hx s hs => ((hp x hx).2.2.2 s hs).2⟩

theorem intInfo : (Try.prog.info? 3).map (fun i => (i.zero, i.size, i.bytes)) = some (some (.int .i64 0), 1, 8) := by kernel_rfl
theorem boolInfo : (Try.prog.info? 4).map (fun i => (i.zero, i.size, i.bytes)) = some (some (.bool false), 1, 1) := by kernel_rfl
theorem intsInfo : (Try.prog.info? 23).map (fun i => (i.zero, i.size, i.bytes)) = some (some (.slice none 0 0), 1, 24) := by kernel_rfl

namespace Facts
def bound : Int := 1099511627776
/-- The length of a right side over what is known, from n on; none where a symbol is known to derive nothing. -/
def lengthS (ks : List Int) : List Int → Int → Option Int
  | [], n => some n
  | s :: r, n =>
    let k := if 0 ≤ s then ks.getD s.toNat 0 else 1
    if k < 0 then none else lengthS ks r (min (n + k) bound)

def stepU (ls : List (List Int)) (i s : Int) : List (List Int) := if 0 ≤ s then ls.set s.toNat (ls.getD s.toNat [] ++ [i]) else ls
def rowU (ls : List (List Int)) (i : Int) : List Int → List (List Int)
  | [] => ls
  | s :: r => rowU (stepU ls i s) i r
def usesS (ls : List (List Int)) (i : Nat) : List (Int × List Int) → List (List Int)
  | [] => ls
  | x :: r => usesS (rowU ls i x.2) (i + 1) r
end Facts

def LenAt (ks zs : List Int) (res : Option Int) (w0 : World) (k : Nat) (v6 v13 : Value) (w : World) : Prop :=
  ∃ (i : Nat) (n : Int), v13 = .int .i64 i ∧ v6 = .int .i64 n ∧ i ≤ zs.length ∧ 0 ≤ n ∧ n ≤ 1099511627776 ∧ Facts.lengthS ks (zs.drop i) n = res ∧ k = zs.length - i ∧ w = w0

def lenV : Option Int → Value
  | none => .tuple #[.int .i64 0, .bool false]
  | some n => .tuple #[.int .i64 n, .bool true]

set_option maxHeartbeats 2000000 in
theorem length_calls (w : World) (left : Int) (ga gk : Option Addr) (cap capk : Nat) (zs ks : List Int) (hz : RowI w w.heap.size ga zs) (hk : RowI w w.heap.size gk ks)
    (hzl : zs.length ≤ 70000) (_hkl : ks.length ≤ 70000) (hin : ∀ s ∈ zs, s < ks.length) (hlo : ∀ s ∈ zs, -70000 ≤ s) (hkb : ∀ k ∈ ks, -1 ≤ k ∧ k ≤ 1099511627776) :
    Calls Try.prog 57 #[.agg #[.int .i64 left, .slice ga zs.length cap], .slice gk ks.length capk] w fun e w' =>
      e = .returned (lenV (Facts.lengthS ks zs 0)) ∧ w' = w.alloc (.cells #[.int .i64 left, .slice ga zs.length cap] 35) := by
  generalize hres : Facts.lengthS ks zs 0 = res
  have Hres := hid hres
  clear hres
  have hb1 : Below w.heap.size w (w.alloc (.cells #[.int .i64 left, .slice ga zs.length cap] 35)) := (Below.refl _ _).alloc (Nat.le_refl _) _
  have hz1 := hz.below hb1
  have hk1 := hk.below hb1
  go_enter Try.func57, Try.ntmps57
  go_wp2_with fail
  obtain ⟨wd, hwd⟩ : ∃ wd, wd = w.alloc (.cells #[.int .i64 left, .slice ga zs.length cap] 35) := ⟨_, rfl⟩
  rw [← hwd] at hz1 hk1 hb1 ⊢
  obtain ⟨bb, hbb⟩ : ∃ bb, bb = w.heap.size := ⟨_, rfl⟩
  rw [← hbb] at hz1 hk1 ⊢
  have Hwd := hid hwd
  clear hwd hbb
  go_loopg [6, 13] zs.length (fun k v6 v13 wr => LenAt ks zs res wd k v6 v13 wr)
  case atStart => exact ⟨0, 0, rfl, rfl, by omega, by omega, by omega, by rw [List.drop_zero]; exact Hres.out, rfl, rfl⟩
  case round =>
    obtain ⟨i, n, rfl, rfl, hi, hn0, hn1, hl, hkk, rfl⟩ := hrel
    have Hk := hid hkk
    clear hkk
    by_cases hlt : i < zs.length
    · have hlt' : (i : Int) < (zs.length : Int) := by omega
      obtain ⟨s, hs⟩ : ∃ s, s = zs[i] := ⟨_, rfl⟩
      have hmem : s ∈ zs := by rw [hs]; exact List.getElem_mem hlt
      have h1 := hin s hmem
      have h2 := hlo s hmem
      obtain ⟨g, off, rfl, hg, hc⟩ := hz1.at hlt
      rw [← hs] at hc
      rw [List.drop_eq_getElem_cons hlt, ← hs] at hl
      simp only [Facts.lengthS] at hl
      clear hs hmem
      by_cases h0 : 0 ≤ s
      · obtain ⟨m, rfl⟩ := Int.eq_ofNat_of_zero_le h0
        have hm : m < ks.length := by omega
        have hm' : (m : Int) < (ks.length : Int) := by omega
        obtain ⟨kv, hkv⟩ : ∃ kv, kv = ks[m] := ⟨_, rfl⟩
        have hkv2 := hkb kv (by rw [hkv]; exact List.getElem_mem hm)
        obtain ⟨g2, off2, rfl, hg2, hc2⟩ := hk1.at hm
        rw [← hkv] at hc2
        have hget : ks.getD m 0 = kv := by simp [List.getD, hkv, List.getElem?_eq_getElem hm]
        rw [if_pos h0, show ((m : Int)).toNat = m by simp, hget] at hl
        clear hkv hget
        by_cases hneg : kv < 0
        · rw [if_pos hneg] at hl
          have Hl := hid hl
          clear hl
          go_wp2_with fail
          go_ret2
          rw [← Hl.out, ← Hwd.out]
          exact ⟨rfl, rfl⟩
        · rw [if_neg hneg] at hl
          have Hl := hid hl
          have hnn : (0 : Int) ≤ kv := by omega
          clear hl
          go_wp2_with fail
          all_goals
            go_roundg (zs.length - (i + 1))
            case measure => have hk := Hk.out; omega
            case rel =>
              first
                | exact ⟨i + 1, n + kv, by go_num, rfl, by omega, by omega, by omega, by rw [show n + kv = min (n + kv) Facts.bound by unfold Facts.bound; omega]; exact Hl.out, rfl, rfl⟩
                | exact ⟨i + 1, 1099511627776, by go_num, rfl, by omega, by omega, by omega, by rw [show (1099511627776 : Int) = min (n + kv) Facts.bound by unfold Facts.bound; omega]; exact Hl.out, rfl, rfl⟩
      · rw [if_neg h0, if_neg (by omega)] at hl
        have Hl := hid hl
        clear hl
        go_wp2_with fail
        all_goals
          go_roundg (zs.length - (i + 1))
          case measure => have hk := Hk.out; omega
          case rel =>
            first
              | exact ⟨i + 1, n + 1, by go_num, rfl, by omega, by omega, by omega, by rw [show n + 1 = min (n + 1) Facts.bound by unfold Facts.bound; omega]; exact Hl.out, rfl, rfl⟩
              | exact ⟨i + 1, 1099511627776, by go_num, rfl, by omega, by omega, by omega, by rw [show (1099511627776 : Int) = min (n + 1) Facts.bound by unfold Facts.bound; omega]; exact Hl.out, rfl, rfl⟩
    · have hge : ¬ (i : Int) < (zs.length : Int) := by omega
      rw [List.drop_eq_nil_of_le (by omega)] at hl
      have Hl := hid hl
      clear hl
      go_wp2_with fail
      go_ret2
      rw [← Hl.out, ← Hwd.out]
      exact ⟨rfl, rfl⟩
end Go.Proofs.Ytbpgolmbielpgaa
