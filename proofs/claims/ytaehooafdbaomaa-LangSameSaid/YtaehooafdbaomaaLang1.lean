/- Chapter 10 (lang): least, alive: walks. -/
import Derived.Test.YtaehooafdbaomaaLangLaw
namespace Go.Proofs.Ytaehooafdbaomaa
open Go.RowKit
attribute [local go_sem ↓] Go.wp_at_zero Go.wp_at_succ
attribute [local go_sem] frozen_alloc_lt

def LsAt (w0 : World) (ks xs : List Int) (res : Int) (k : Nat) (v5 v10 : Value) (w : World) : Prop :=
  ∃ (i : Nat) (n : Int), v10 = .int .i64 i ∧ v5 = .int .i64 n ∧ 0 ≤ n ∧ n ≤ 65 ∧ i ≤ xs.length ∧ Lg.leastS ks (xs.drop i) n = res ∧ k = xs.length - i ∧ w0 = w
set_option maxHeartbeats 2000000 in
theorem least_calls (w : World) (bf : Nat) (gs : Option Addr) (cs : Nat) (ks : List Int) (ga : Option Addr) (ca : Nat) (xs : List Int) (hc : w.cell? ⟨bf, 6, none⟩ = some (.slice gs ks.length cs))
    (hk : RowI w w.heap.size gs ks) (hx : RowI w w.heap.size ga xs) (hl : xs.length ≤ 70000) (hin : ∀ s ∈ xs, s < ks.length) (hb : ∀ k ∈ ks, -1 ≤ k ∧ k ≤ 1099511627776) (hp : ∀ s ∈ xs, 0 ≤ Lg.kOf ks s) :
    Calls Try.prog 141 #[.pointer (some ⟨bf, 0, none⟩), .slice ga xs.length ca] w fun e w' => e = .returned (.int .i64 (Lg.leastS ks xs 0)) ∧ w = w' := by
  generalize hres : Lg.leastS ks xs 0 = res
  have Hres := hid hres
  clear hres
  go_enter Try.func141, Try.ntmps141
  go_wp2_with fail
  go_loopg [5, 10] xs.length (fun k v5 v10 wr => LsAt w ks xs res k v5 v10 wr)
  case atStart => exact ⟨0, 0, rfl, rfl, by omega, by omega, by omega, by rw [List.drop_zero]; exact Hres.out, rfl, rfl⟩
  case round =>
    obtain ⟨i, n, rfl, rfl, hn0, hn1, hi, hle, hkk, rfl⟩ := hrel
    have Hk := hid hkk
    clear hkk
    by_cases hlt : i < xs.length
    · have hlt' : (i : Int) < (xs.length : Int) := by omega
      obtain ⟨s, hs⟩ : ∃ s, s = xs[i] := ⟨_, rfl⟩
      have hmem : s ∈ xs := by rw [hs]; exact List.getElem_mem hlt
      have h1 := hin s hmem
      have h2 := hp s hmem
      obtain ⟨g, off, rfl, hg, hcx⟩ := hx.at hlt
      rw [← hs] at hcx
      rw [List.drop_eq_getElem_cons hlt, ← hs] at hle
      simp only [Lg.leastS, Lg.kOf] at hle
      simp only [Lg.kOf] at h2
      clear hs hmem
      by_cases h0 : 0 ≤ s
      · obtain ⟨m, rfl⟩ := Int.eq_ofNat_of_zero_le h0
        have hm : m < ks.length := by omega
        have hm' : (m : Int) < (ks.length : Int) := by omega
        obtain ⟨kv, hkv⟩ : ∃ kv, kv = ks[m] := ⟨_, rfl⟩
        have hkv2 := hb kv (by rw [hkv]; exact List.getElem_mem hm)
        obtain ⟨g2, off2, rfl, hg2, hc2⟩ := hk.at hm
        rw [← hkv] at hc2
        have hget : Facts.atK ks (m : Int) = kv := by simp [Facts.atK, List.getD, hkv, List.getElem?_eq_getElem hm]
        rw [if_pos h0, hget] at hle h2
        have hnl : ¬ (m : Int) < 0 := by omega
        clear hkv hget
        have Hl := hid hle
        clear hle
        go_wp2_with fail
        all_goals
          go_roundg (xs.length - (i + 1))
          case measure => have hk := Hk.out; omega
          case rel =>
            first
              | exact ⟨i + 1, n + kv, by go_num, rfl, by omega, by omega, by omega, by rw [show n + kv = min (n + kv) 65 by omega]; exact Hl.out, rfl, rfl⟩
              | exact ⟨i + 1, 65, by go_num, rfl, by omega, by omega, by omega, by rw [show (65 : Int) = min (n + kv) 65 by omega]; exact Hl.out, rfl, rfl⟩
      · rw [if_neg h0] at hle
        have hl0 : s < 0 := by omega
        have Hl := hid hle
        clear hle
        go_wp2_with fail
        all_goals
          go_roundg (xs.length - (i + 1))
          case measure => have hk := Hk.out; omega
          case rel =>
            first
              | exact ⟨i + 1, n + 1, by go_num, rfl, by omega, by omega, by omega, by rw [show n + 1 = min (n + 1) 65 by omega]; exact Hl.out, rfl, rfl⟩
              | exact ⟨i + 1, 65, by go_num, rfl, by omega, by omega, by omega, by rw [show (65 : Int) = min (n + 1) 65 by omega]; exact Hl.out, rfl, rfl⟩
    · have hge : ¬ (i : Int) < (xs.length : Int) := by omega
      rw [List.drop_eq_nil_of_le (by omega)] at hle
      have Hl := hid hle
      clear hle
      go_wp2_with fail
      go_ret
      rw [← Hl.out]
      exact ⟨rfl, rfl⟩

/-- A nonterminal that derives nothing. -/
def Lg.badS (ks : List Int) (s : Int) : Bool := decide (0 ≤ s) && decide (Facts.atK ks s < 0)
theorem Lg.alive_any (ks : List Int) : ∀ R : List Int, Lg.aliveS ks R = !R.any (Lg.badS ks)
  | [] => rfl
  | s :: r => by
    have h := Lg.alive_any ks r
    unfold Lg.aliveS at h ⊢
    rw [List.all_cons, List.any_cons, h, Bool.not_or]
    congr 1
    unfold Lg.badS Lg.kOf
    by_cases h0 : 0 ≤ s
    · by_cases h1 : Facts.atK ks s < 0
      · simp [h0, h1]
      · simp [h0, h1]; omega
    · simp [h0]
set_option maxHeartbeats 1000000 in
theorem bad_calls (w : World) (b bf : Nat) (gs : Option Addr) (cs : Nat) (ks : List Int) (z : Int) (hb : w.cell? ⟨b, 0, none⟩ = some (.pointer (some ⟨bf, 0, none⟩))) (hc : w.cell? ⟨bf, 6, none⟩ = some (.slice gs ks.length cs))
    (hk : RowI w w.heap.size gs ks) (hz : z < ks.length) :
    Calls Try.prog 167 #[.int .i64 z, .pointer (some ⟨b, 0, none⟩)] w fun e w' => e = .returned (.bool (Lg.badS ks z)) ∧ w = w' := by
  by_cases h0 : 0 ≤ z
  · obtain ⟨m, rfl⟩ := Int.eq_ofNat_of_zero_le h0
    have hm : m < ks.length := by omega
    obtain ⟨kv, hkv⟩ : ∃ kv, kv = ks[m] := ⟨_, rfl⟩
    obtain ⟨g2, off2, rfl, hg2, hc2⟩ := hk.at hm
    rw [← hkv] at hc2
    have hget : Facts.atK ks (m : Int) = kv := by simp [Facts.atK, List.getD, hkv, List.getElem?_eq_getElem hm]
    have e1 : Lg.badS ks (m : Int) = decide (kv < 0) := by unfold Lg.badS; rw [hget]; simp
    have E1 := hid e1
    clear e1 hkv hget
    have hm0 : (0 : Int) ≤ (m : Int) := by omega
    have hm1 : (m : Int) < (ks.length : Int) := by omega
    go_enter Try.func167, Try.ntmps167
    go_wp2_with fail
    all_goals go_ret
    all_goals (rw [E1.out]; exact ⟨rfl, rfl⟩)
  · have e1 : Lg.badS ks z = false := by simp [Lg.badS, h0]
    have hz0 : ¬ 0 ≤ z := h0
    have E1 := hid e1
    clear e1
    go_enter Try.func167, Try.ntmps167
    go_wp2_with fail
    all_goals go_ret
    all_goals (rw [E1.out]; exact ⟨rfl, rfl⟩)
/-- Of a production, whether all of its symbols derive a word. -/
theorem alive_calls (w : World) (bf : Nat) (gs : Option Addr) (cs : Nat) (ks : List Int) (left : Int) (ga : Option Addr) (ca : Nat) (xs : List Int) (hc : w.cell? ⟨bf, 6, none⟩ = some (.slice gs ks.length cs))
    (hk : RowI w w.heap.size gs ks) (hx : RowI w w.heap.size ga xs) (hl : xs.length ≤ 70000) (hin : ∀ s ∈ xs, s < ks.length) :
    Calls Try.prog 140 #[.pointer (some ⟨bf, 0, none⟩), .agg #[.int .i64 left, .slice ga xs.length ca]] w fun e w' => e = .returned (.bool (Lg.aliveS ks xs)) ∧
      w' = (w.alloc (.cells #[.pointer (some ⟨bf, 0, none⟩)] 192)).alloc (.cells #[.int .i64 left, .slice ga xs.length ca] 97) := by
  have hb0 : Below w.heap.size w ((w.alloc (.cells #[.pointer (some ⟨bf, 0, none⟩)] 192)).alloc (.cells #[.int .i64 left, .slice ga xs.length ca] 97)) := bel_al (bel_al (bel_id w) _) _
  have hbf : bf < w.heap.size := World.block_lt_of_cell? w _ hc
  have hcb := ((Bk.new w 192 [.pointer (some ⟨bf, 0, none⟩)]).alloc (.cells #[.int .i64 left, .slice ga xs.length ca] 97)).cell 0
  simp only [List.getElem?_cons_zero] at hcb
  have hall := containsFunc_calls _ ga ca xs 167 (.pointer (some ⟨w.heap.size, 0, none⟩)) (Lg.badS ks) ((hx.below hb0).mono hb0.size) (by omega)
    (enters_of Try.func167 (by kernel_rfl) rfl)
    (fun z hz => bad_calls _ w.heap.size bf gs cs ks z hcb ((hb0.cell (p := ⟨bf, 6, none⟩) hbf).trans hc) ((hk.below hb0).mono hb0.size) (hin z hz))
  have Hall := hid hall
  clear hall hcb hb0 hk hx hl hin hbf hc
  go_enter Try.func140, Try.ntmps140
  go_wp2_with (go_at_call 78; refine Hall.out.mono ?_; rintro e w1 ⟨rfl, rfl⟩)
  go_ret
  rw [Lg.alive_any]
  exact ⟨rfl, rfl⟩
end Go.Proofs.Ytaehooafdbaomaa
