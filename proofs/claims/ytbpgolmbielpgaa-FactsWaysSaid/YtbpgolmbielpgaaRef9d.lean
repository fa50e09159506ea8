/- Chapter 9, the document's answer: Step: law and walk. -/
import Derived.Test.YtbpgolmbielpgaaRef9
namespace Go.Proofs.Ytbpgolmbielpgaa
open Go.RowKit
attribute [local go_sem ↓] Go.wp_at_zero Go.wp_at_succ
attribute [local go_sem] frozen_alloc_lt

namespace Facts
def anyF (p : Nat → Bool) (n k : Nat) : Bool := (List.range' k (n - k)).any p
def allF (p : Nat → Bool) (n k : Nat) : Bool := (List.range' k (n - k)).all p
theorem anyF_lt {p : Nat → Bool} {n k : Nat} (h : k < n) : anyF p n k = (p k || anyF p n (k + 1)) := by
  unfold anyF
  rw [show n - k = (n - (k + 1)) + 1 by omega, List.range'_succ, List.any_cons]
theorem anyF_ge {p : Nat → Bool} {n k : Nat} (h : n ≤ k) : anyF p n k = false := by
  unfold anyF
  rw [show n - k = 0 by omega]
  rfl
theorem allF_lt {p : Nat → Bool} {n k : Nat} (h : k < n) : allF p n k = (p k && allF p n (k + 1)) := by
  unfold allF
  rw [show n - k = (n - (k + 1)) + 1 by omega, List.range'_succ, List.all_cons]
theorem allF_ge {p : Nat → Bool} {n k : Nat} (h : n ≤ k) : allF p n k = true := by
  unfold allF
  rw [show n - k = 0 by omega]
  rfl
theorem anyF_iff {p : Nat → Bool} {n : Nat} : anyF p n 0 = true ↔ ∃ k, k < n ∧ p k = true := by
  unfold anyF
  rw [List.any_eq_true]
  simp
theorem allF_iff {p : Nat → Bool} {n : Nat} : allF p n 0 = true ↔ ∀ k, k < n → p k = true := by
  unfold allF
  rw [List.all_eq_true]
  simp

def okJ (bs : List Bool) (r : List Int) (k j : Nat) : Bool := j == k || (decide (0 ≤ r.getD j 0) && inB bs (r.getD j 0))
def okK (bs : List Bool) (r : List Int) (b : Int) (k : Nat) : Bool := (r.getD k 0 == b) && allF (okJ bs r k) r.length 0
/-- Is there a step from a to b? -/
def stepB (bs : List Bool) (ps : List (Int × List Int)) (a b : Int) : Bool := ps.any fun x => (x.1 == a) && anyF (okK bs x.2 b) x.2.length 0
end Facts

def Stp1 (wd : World) (bs : List Bool) (ps : List (Int × List Int)) (a b : Int) (res : Bool) (k : Nat) (v9 : Value) (w : World) : Prop :=
  ∃ i : Nat, v9 = .int .i64 i ∧ i ≤ ps.length ∧ Facts.stepB bs (ps.drop i) a b = res ∧ k = ps.length - i ∧ w = wd
def Stp2 (wd : World) (bs : List Bool) (r : List Int) (la : Bool) (b : Int) (rest res : Bool) (k : Nat) (v11 : Value) (w : World) : Prop :=
  ∃ i : Nat, v11 = .int .i64 i ∧ i ≤ r.length ∧ (la && Facts.anyF (Facts.okK bs r b) r.length i || rest) = res ∧ k = r.length - i ∧ w = wd
def Stp3 (wd : World) (bs : List Bool) (r : List Int) (kk : Nat) (res : Bool) (k : Nat) (v12 v13 : Value) (w : World) : Prop :=
  ∃ (j : Nat) (ok : Bool), v13 = .int .i64 j ∧ v12 = .bool ok ∧ j ≤ r.length ∧ (ok && Facts.allF (Facts.okJ bs r kk) r.length j) = res ∧ k = r.length - j ∧ w = wd

set_option maxHeartbeats 4000000 in
set_option maxRecDepth 8000 in
theorem rstep_calls (w : World) (G : Gr) (gn gt gp gb : Option Addr) (cn ct cp cb : Nat) (h : GIn w G gn gt gp) (hs : Pl.soundB G = true) (bs : List Bool) (hbs : RowB w w.heap.size gb bs) (hbl : bs.length = G.names.length) (a b : Int) :
    Calls Try.prog 66 #[.agg #[.int .i64 G.start, .int .i64 G.rules, .slice gn G.names.length cn, .slice gt G.terms.length ct, .slice gp G.prods.length cp], .slice gb G.names.length cb, .int .i64 a, .int .i64 b] w
      fun e w' => e = .returned (.bool (Facts.stepB bs G.prods a b)) ∧ w' = w.alloc (.cells #[.int .i64 G.start, .int .i64 G.rules, .slice gn G.names.length cn, .slice gt G.terms.length ct, .slice gp G.prods.length cp] 57) := by
  have Hsg := hid (sndG hs)
  have hp1 := Hsg.out.p1
  have hn1 := Hsg.out.n1
  obtain ⟨hn, ht, hp, h1, h2, h3, h4⟩ := h
  have hb0 : Below w.heap.size w (w.alloc (.cells #[.int .i64 G.start, .int .i64 G.rules, .slice gn G.names.length cn, .slice gt G.terms.length ct, .slice gp G.prods.length cp] 57)) := (Below.refl _ _).alloc (Nat.le_refl _) _
  have hp0 := hp.below hb0
  have hbs0 := hbs.below hb0
  have hbk : Bk (w.alloc (.cells #[.int .i64 G.start, .int .i64 G.rules, .slice gn G.names.length cn, .slice gt G.terms.length ct, .slice gp G.prods.length cp] 57)) w.heap.size 57 [.int .i64 G.start, .int .i64 G.rules, .slice gn G.names.length cn, .slice gt G.terms.length ct, .slice gp G.prods.length cp] := Bk.new w _ _
  obtain ⟨res, hres⟩ : ∃ res, res = Facts.stepB bs G.prods a b := ⟨_, rfl⟩
  rw [← hres]
  have Hres := hid hres
  have Hbl := hid hbl
  clear hres hn ht h1 h2 h3 h4 hs hbl
  go_enter Try.func66, Try.ntmps66
  go_upto_region 1 with (fail)
  obtain ⟨wd, hwd⟩ : ∃ wd, wd = (w.alloc (.cells #[.int .i64 G.start, .int .i64 G.rules, .slice gn G.names.length cn, .slice gt G.terms.length ct, .slice gp G.prods.length cp] 57)) := ⟨_, rfl⟩
  rw [← hwd] at hp0 hbs0 hbk ⊢
  have Hwd := hid hwd
  clear hwd hb0 hp hbs
  have g4 := hbk.cell 4
  simp only [List.getElem?_cons_zero, List.getElem?_cons_succ] at g4
  obtain ⟨bb, hbb⟩ : ∃ bb, bb = w.heap.size := ⟨_, rfl⟩
  rw [← hbb] at g4 ⊢
  clear hbb hbk
  go_wp2_with fail
  go_loopg [9] G.prods.length (fun k v9 wr => Stp1 wd bs G.prods a b res k v9 wr)
  case atStart => exact ⟨0, rfl, by omega, by rw [List.drop_zero]; exact Hres.out.symm, rfl, rfl⟩
  case round =>
    obtain ⟨i, rfl, hi, hst, hk, rfl⟩ := hrel
    have Hk := hid hk
    clear hk
    by_cases hlt : i < G.prods.length
    · have hlt' : (i : Int) < (G.prods.length : Int) := by omega
      have hi0 : (0 : Int) ≤ (i : Int) := by omega
      obtain ⟨x, hx⟩ : ∃ x, x = G.prods[i] := ⟨_, rfl⟩
      have hxm : x ∈ G.prods := by rw [hx]; exact List.getElem_mem hlt
      have hxi : G.prods[i]? = some x := by rw [hx]; exact List.getElem?_eq_getElem hlt
      have hr16 := Hsg.out.r16 x hxm
      have Hs1 := hid (Hsg.out.r1 x hxm)
      obtain ⟨g', off, gr, cr, rfl, hg', hd0, hd1, hri⟩ := hp0 i _ hxi
      rw [List.drop_eq_getElem_cons hlt, ← hx, Facts.stepB, List.any_cons] at hst
      obtain ⟨l, r⟩ := x
      simp only at hr16 hd0 hd1 hri hst Hs1
      obtain ⟨rest, hrest⟩ : ∃ rest, rest = Facts.stepB bs (G.prods.drop (i + 1)) a b := ⟨_, rfl⟩
      rw [← Facts.stepB, ← hrest] at hst
      have Hst := hid hst
      have Hrest := hid hrest
      clear hx hxi hxm hst hrest
      go_wp2_with fail
      go_loopg [11] r.length (fun k v11 wq => Stp2 wr bs r (l == a) b rest res k v11 wq)
      case atStart => exact ⟨0, rfl, by omega, Hst.out, rfl, rfl⟩
      case round =>
        obtain ⟨q, rfl, hq, hst2, hk, rfl⟩ := hrel
        have Hkq := hid hk
        have Hst2 := hid hst2
        clear hk hst2
        by_cases hla : (l == a) = true
        · by_cases hqt : q < r.length
          · have hqt' : (q : Int) < (r.length : Int) := by omega
            have hq0 : (0 : Int) ≤ (q : Int) := by omega
            obtain ⟨g2, o2, rfl, hg2, hcq⟩ := hri.at hqt
            have hst3 := Hst2.out
            rw [hla, Bool.true_and, Facts.anyF_lt hqt] at hst3
            obtain ⟨s, hs⟩ : ∃ s, s = r[q] := ⟨_, rfl⟩
            have hgd : r.getD q 0 = s := by rw [hs]; simp [List.getD, List.getElem?_eq_getElem hqt]
            rw [← hs] at hcq
            obtain ⟨okq, hok⟩ : ∃ okq, okq = Facts.okK bs r b q := ⟨_, rfl⟩
            rw [← hok] at hst3
            rw [Facts.okK, hgd] at hok
            have Hst3 := hid hst3
            have Hok := hid hok
            clear hst3 hok hs hgd
            go_wp2_with fail
            go_loopg [12, 13] r.length (fun k v12 v13 wq => Stp3 wr bs r q okq k v12 v13 wq)
            case atStart => exact ⟨0, s == b, rfl, rfl, by omega, Hok.out.symm, rfl, rfl⟩
            case round =>
              obtain ⟨j, ok, rfl, rfl, hj, hal, hk, rfl⟩ := hrel
              have Hkj := hid hk
              clear hk
              by_cases hjt : j < r.length
              · have hjt' : (j : Int) < (r.length : Int) := by omega
                have hj0 : (0 : Int) ≤ (j : Int) := by omega
                rw [Facts.allF_lt hjt] at hal
                cases ok with
                | false =>
                  have Hal := hid hal
                  clear hal
                  go_wp2_with fail
                  go_roundg (r.length - (j + 1))
                  case measure => have hk := Hkj.out; omega
                  case rel => exact ⟨j + 1, false, by go_num, rfl, by omega, by rw [← Hal.out]; rfl, rfl, rfl⟩
                | true =>
                  obtain ⟨_, _, he3, _, hcj⟩ := hri.at hjt
                  injection he3 with he3
                  injection he3 with he3 ho3 _
                  subst he3 ho3
                  obtain ⟨t, ht⟩ : ∃ t, t = r[j] := ⟨_, rfl⟩
                  have hgd : r.getD j 0 = t := by rw [ht]; simp [List.getD, List.getElem?_eq_getElem hjt]
                  have htm : t ∈ r := by rw [ht]; exact List.getElem_mem hjt
                  rw [← ht] at hcj
                  have ht1 := Hs1.out t htm
                  rw [Facts.okJ, hgd, Bool.true_and] at hal
                  clear ht hgd htm
                  by_cases hjq : j = q
                  · subst hjq
                    have he : ((j : Int) == (j : Int)) = true := by simp
                    rw [beq_self_eq_true, Bool.true_or, Bool.true_and] at hal
                    have Hal := hid hal
                    clear hal
                    go_wp2_with fail
                    go_roundg (r.length - (j + 1))
                    case measure => have hk := Hkj.out; omega
                    case rel => exact ⟨j + 1, true, by go_num, rfl, by omega, by rw [← Hal.out]; rfl, rfl, rfl⟩
                  · have he : ((j : Int) == (q : Int)) = false := by rw [beq_eq_false_iff_ne]; omega
                    rw [show (j == q) = false by rw [beq_eq_false_iff_ne]; exact hjq, Bool.false_or] at hal
                    by_cases hpos : 0 ≤ t
                    · obtain ⟨d, rfl⟩ := Int.eq_ofNat_of_zero_le hpos
                      have hdb : d < bs.length := by rw [Hbl.out]; omega
                      obtain ⟨g5, o5, rfl, h5, c5⟩ := hbs0.at hdb
                      have hv : Facts.inB bs d = bs[d] := by simp [Facts.inB, List.getD, List.getElem?_eq_getElem hdb]
                      rw [hv, show decide (0 ≤ (d : Int)) = true by simp, Bool.true_and] at hal
                      obtain ⟨vd, hvd⟩ : ∃ vd, vd = bs[d] := ⟨_, rfl⟩
                      rw [← hvd] at hal c5
                      have Hal := hid hal
                      clear hal hvd hv
                      go_wp2_with fail
                      go_roundg (r.length - (j + 1))
                      case measure => have hk := Hkj.out; omega
                      case rel => exact ⟨j + 1, vd, by go_num, rfl, by omega, Hal.out, rfl, rfl⟩
                    · have hneg : t < 0 := by omega
                      rw [show decide (0 ≤ t) = false by simp; omega, Bool.false_and, Bool.false_and] at hal
                      have Hal := hid hal
                      clear hal
                      go_wp2_with fail
                      go_roundg (r.length - (j + 1))
                      case measure => have hk := Hkj.out; omega
                      case rel => exact ⟨j + 1, false, by go_num, rfl, by omega, by rw [← Hal.out]; rfl, rfl, rfl⟩
              · have hge : ¬ (j : Int) < (r.length : Int) := by omega
                rw [Facts.allF_ge (by omega), Bool.and_true] at hal
                subst hal
                cases ok with
                | true =>
                  go_wp2_with fail
                  go_ret
                  exact ⟨by rw [← Hst3.out]; rfl, Hwd.out⟩
                | false =>
                  go_wp2_with fail
                  go_roundg (r.length - (q + 1))
                  case measure => have hk := Hkq.out; omega
                  case rel => exact ⟨q + 1, by go_num, by omega, by rw [hla, Bool.true_and]; exact Hst3.out, rfl, rfl⟩
          · have hge : ¬ (q : Int) < (r.length : Int) := by omega
            have hr : rest = res := by
              have h := Hst2.out
              rwa [Facts.anyF_ge (by omega), Bool.and_false, Bool.false_or] at h
            have Hr := hid hr
            clear hr
            go_wp2_with fail
            go_roundg (G.prods.length - (i + 1))
            case measure => have hk := Hk.out; omega
            case rel => exact ⟨i + 1, by go_num, by omega, by rw [← Hrest.out]; exact Hr.out, rfl, rfl⟩
        · have hlf : (l == a) = false := by
            cases h : (l == a)
            · rfl
            · exact absurd h hla
          have hr : rest = res := by
            have h := Hst2.out
            rwa [hlf, Bool.false_and, Bool.false_or] at h
          have Hr := hid hr
          clear hr hla
          go_wp2_with fail
          go_roundg (G.prods.length - (i + 1))
          case measure => have hk := Hk.out; omega
          case rel => exact ⟨i + 1, by go_num, by omega, by rw [← Hrest.out]; exact Hr.out, rfl, rfl⟩
    · have hge : ¬ (i : Int) < (G.prods.length : Int) := by omega
      have hr : res = false := by rw [← hst, List.drop_eq_nil_of_le (by omega)]; rfl
      subst hr
      go_wp2_with fail
      go_ret
      exact ⟨rfl, Hwd.out⟩
end Go.Proofs.Ytbpgolmbielpgaa
