/- Chapter 10 (lang): told: walk; slices.Sort, slices.Equal of texts. -/
import Derived.Test.YtaehooafdbaomaaLangTr
import Derived.Test.YtaehooafdbaomaaLang8
import Derived.Test.YtaehooafdbaomaaBld
import Derived.Sort.OwnSorted
import Derived.Shelf.SortM.Plain
import Derived.Shelf.SortM.SortNone
import Derived.Test.YtaehooafdbaomaaLawWords
namespace Go.Proofs.Ytaehooafdbaomaa
open Go.RowKit Go.Shelf Go.Sort
attribute [local go_sem ↓] Go.wp_at_zero Go.wp_at_succ
attribute [local go_sem] frozen_alloc_lt

def sortTl_ren : Go.Shelf.Ren := ⟨fun | 6 => 131 | 8 => 134 | 9 => 151 | 19 => 153 | 20 => 154 | 21 => 174 | 22 => 175 | 23 => 176 | 24 => 177 | 25 => 178 | 26 => 179 | 27 => 180 | 28 => 181 | 29 => 182 | 36 => 198 | 31 => 185 | 32 => 186 | 37 => 199 | 38 => 200 | 39 => 201 | 41 => 210 | n => n, fun | 27 => 27 | 29 => 9 | 3 => 3 | 32 => 203 | 26 => 27 | 0 => 0 | 44 => 220 | 46 => 223 | 4 => 4 | 36 => 235 | 35 => 234 | 41 => 153 | 5 => 5 | 9 => 9 | 53 => 250 | 57 => 73 | 63 => 263 | 64 => 60 | n => n, fun n => n⟩
theorem sortTl : SlLaysM.n6 Try.prog sortTl_ren := {
  mixed := by kernel_rfl
  f6 := ⟨Try.f131.name, by decide, Try.func131.trans (by kernel_rfl)⟩
  f8 := Try.func134.trans (by kernel_rfl)
  f9 := ⟨Try.f151.name, by decide, Try.func151.trans (by kernel_rfl)⟩
  f19 := Try.func153.trans (by kernel_rfl)
  f20 := Try.func154.trans (by kernel_rfl)
  f21 := ⟨Try.f174.name, by decide, Try.func174.trans (by kernel_rfl)⟩
  f22 := ⟨Try.f175.name, by decide, Try.func175.trans (by kernel_rfl)⟩
  f23 := ⟨Try.f176.name, by decide, Try.func176.trans (by kernel_rfl)⟩
  f24 := ⟨Try.f177.name, by decide, Try.func177.trans (by kernel_rfl)⟩
  f25 := ⟨Try.f178.name, by decide, Try.func178.trans (by kernel_rfl)⟩
  f26 := ⟨Try.f179.name, by decide, Try.func179.trans (by kernel_rfl)⟩
  f27 := ⟨Try.f180.name, by decide, Try.func180.trans (by kernel_rfl)⟩
  f28 := ⟨Try.f181.name, by decide, Try.func181.trans (by kernel_rfl)⟩
  f29 := ⟨Try.f182.name, by decide, Try.func182.trans (by kernel_rfl)⟩
  f31 := Try.func185.trans (by kernel_rfl)
  f32 := Try.func186.trans (by kernel_rfl)
  f36 := ⟨Try.f198.name, by decide, Try.func198.trans (by kernel_rfl)⟩
  f37 := ⟨Try.f199.name, by decide, Try.func199.trans (by kernel_rfl)⟩
  f38 := ⟨Try.f200.name, by decide, Try.func200.trans (by kernel_rfl)⟩
  f39 := ⟨Try.f201.name, by decide, Try.func201.trans (by kernel_rfl)⟩
  f41 := ⟨Try.f210.name, by decide, Try.func210.trans (by kernel_rfl)⟩
  t0 := Try.underlying0
  a0 := Try.isAgg0
  z0 := Try.sizeOf0
  v0 := Try.zeroValue0
  t3 := Try.underlying3
  a3 := Try.isAgg3
  z3 := Try.sizeOf3
  v3 := Try.zeroValue3
  t4 := Try.underlying4
  a4 := Try.isAgg4
  z4 := Try.sizeOf4
  v4 := Try.zeroValue4
  t5 := Try.underlying5
  a5 := Try.isAgg5
  z5 := Try.sizeOf5
  v5 := Try.zeroValue5
  t9 := Try.underlying9
  a9 := Try.isAgg9
  z9 := Try.sizeOf9
  v9 := Try.zeroValue9
  t26 := Try.underlying27
  a26 := Try.isAgg27
  z26 := Try.sizeOf27
  v26 := Try.zeroValue27
  t27 := Try.underlying27
  a27 := Try.isAgg27
  z27 := Try.sizeOf27
  v27 := Try.zeroValue27
  t29 := Try.underlying9
  a29 := Try.isAgg9
  z29 := Try.sizeOf9
  v29 := Try.zeroValue9
  t32 := Try.underlying203
  a32 := Try.isAgg203
  z32 := Try.sizeOf203
  v32 := Try.zeroValue203
  t35 := Try.underlying234
  a35 := Try.isAgg234
  z35 := Try.sizeOf234
  v35 := Try.zeroValue234
  t36 := Try.underlying235
  a36 := Try.isAgg235
  z36 := Try.sizeOf235
  v36 := Try.zeroValue235
  t41 := Try.underlying153
  a41 := Try.isAgg153
  z41 := Try.sizeOf153
  v41 := Try.zeroValue153
  t44 := Try.underlying220
  a44 := Try.isAgg220
  z44 := Try.sizeOf220
  v44 := Try.zeroValue220
  t46 := Try.underlying223
  a46 := Try.isAgg223
  z46 := Try.sizeOf223
  v46 := Try.zeroValue223
  t53 := Try.underlying250
  a53 := Try.isAgg250
  z53 := Try.sizeOf250
  v53 := Try.zeroValue250
  t57 := Try.underlying73
  a57 := Try.isAgg73
  z57 := Try.sizeOf73
  v57 := Try.zeroValue73
  t63 := Try.underlying263
  a63 := Try.isAgg263
  z63 := Try.sizeOf263
  v63 := Try.zeroValue263
  t64 := Try.underlying60
  a64 := Try.isAgg60
  z64 := Try.sizeOf60
  v64 := Try.zeroValue60 }

/-- slices.Sort of texts that the call owns. -/
theorem sortTl_calls (w : World) (B : Nat) (v : Value) (ss : List (List UInt8)) (h : w.ownsRow B 9 1 v ss.length (ss.map encStr)) (hl : ss.length ≤ 1000000) :
    Calls Try.prog 131 #[v] w fun e w' => e = .returned (.tuple #[]) ∧ w'.ownsRow B 9 1 v ss.length ((ss.mergeSort leT).map encStr) ∧ Below B w w' := by
  rcases h.2 with ⟨rfl, hz⟩ | ⟨g, cap, cur, rfl, hbase, hb, h1, h2, h3, h4⟩
  · have hz' : ss = [] := List.eq_nil_of_length_eq_zero hz
    subst hz'
    refine (AnyM.slices_Sort_string_none sortTl none 0 w).mono ?_
    rintro e w' ⟨rfl, rfl⟩
    exact ⟨rfl, by simpa using h, Below.refl _ _⟩
  · refine (AnyM.slices_Sort_string sortTl g 0 cap ss w (holds_of_block hb (by simpa using h4)) (Array.getElem?_eq_some_iff.1 hb).1 (by omega)).mono ?_
    rintro e w' ⟨rfl, n, os, rfl⟩
    refine ⟨rfl, ownsRow_sorted (by simp) hbase hb h1 h2 h3, (Below.refl _ _).grown (grownBy_sorted _) (by have := (Array.getElem?_eq_some_iff.1 hb).1; omega) (fun k hk => by cases hk; exact hbase)⟩
/-- A row of texts, read. -/
def RowT (w : World) (ga : Option Addr) (l : List (List UInt8)) : Prop := ∀ i z, l[i]? = some z → ∃ g, ga = some ⟨g, 0, none⟩ ∧ g < w.heap.size ∧ w.cell? ⟨g, i, none⟩ = some (.string ⟨z.toArray⟩)
theorem RowT.later {w w' : World} {ga : Option Addr} {l : List (List UInt8)} (h : RowT w ga l) (hb : Below w.heap.size w w') : RowT w' ga l := fun i z hz => by
  obtain ⟨g, h1, h2, h3⟩ := h i z hz
  exact ⟨g, h1, Nat.lt_of_lt_of_le h2 hb.size, (hb.cell (p := ⟨g, i, none⟩) h2).trans h3⟩
theorem own_rowT {w : World} {B : Nat} {v : Value} {ss : List (List UInt8)} (h : w.ownsRow B 9 1 v ss.length (ss.map encStr)) : ∃ ga cap, v = .slice ga ss.length cap ∧ RowT w ga ss := by
  obtain ⟨ga, cap, hv, hc⟩ := own_str h
  exact ⟨ga, cap, hv, hc⟩
def EqAt (w0 : World) (M : Nat) (xs ys : List (List UInt8)) (res : Bool) (k : Nat) (v : Value) (w : World) : Prop := ∃ i : Nat, v = .int .i64 i ∧ i ≤ M ∧ decide (xs.drop i = ys.drop i) = res ∧ k = M - i ∧ Below w0.heap.size w0 w
set_option maxHeartbeats 4000000 in
theorem equalT_calls (w : World) (ga gb : Option Addr) (ca cb : Nat) (xs ys : List (List UInt8)) (hx : RowT w ga xs) (hy : RowT w gb ys) (hl : xs.length ≤ 1000000000) (_hl2 : ys.length ≤ 1000000000) :
    Calls Try.prog 101 #[.slice ga xs.length ca, .slice gb ys.length cb] w fun e w' => e = .returned (.bool (decide (xs = ys))) ∧ Below w.heap.size w w' := by
  by_cases hlen : xs.length = ys.length
  · obtain ⟨M, hM⟩ : ∃ M, M = xs.length := ⟨_, rfl⟩
    have hMy : ys.length = M := by omega
    obtain ⟨res, hres⟩ : ∃ res, res = decide (xs = ys) := ⟨_, rfl⟩
    rw [← hres, hMy, ← hM]
    have hne : ((M : Int) != (M : Int)) = false := by simp
    have hMI : (M : Int) ≤ 1000000000 := by omega
    have HM := hid (And.intro hM (And.intro hMy hres))
    have Hx := hid hx
    have Hy := hid hy
    clear hM hMy hres hx hy hl _hl2 hlen
    go_enter Try.func101, Try.ntmps101
    go_wp2_with fail
    go_loopg [13] M (fun k v13 wr => EqAt w M xs ys res k v13 wr)
    case atStart => exact ⟨0, rfl, Nat.zero_le _, by rw [List.drop_zero, List.drop_zero]; exact HM.out.2.2.symm, rfl, Below.refl _ _⟩
    case round =>
      obtain ⟨i, rfl, hi, hr, hk, hb⟩ := hrel
      have Hk := hid hk
      have Hb := hid hb
      by_cases hlt : i < M
      · have hlt' : (i : Int) < (M : Int) := by omega
        have hi0 : (0 : Int) ≤ (i : Int) := by omega
        have hix : i < xs.length := by rw [← HM.out.1]; exact hlt
        have hiy : i < ys.length := by rw [HM.out.2.1]; exact hlt
        obtain ⟨x, hxe⟩ : ∃ x, x = xs[i] := ⟨_, rfl⟩
        obtain ⟨y, hye⟩ : ∃ y, y = ys[i] := ⟨_, rfl⟩
        obtain ⟨g1, rfl, hg1, hc1⟩ := (Hx.out.later hb) i x (by rw [hxe]; exact List.getElem?_eq_getElem hix)
        obtain ⟨g2, rfl, hg2, hc2⟩ := (Hy.out.later hb) i y (by rw [hye]; exact List.getElem?_eq_getElem hiy)
        rw [List.drop_eq_getElem_cons hix, List.drop_eq_getElem_cons hiy, ← hxe, ← hye] at hr
        obtain ⟨X, hX⟩ : ∃ X : ByteArray, X = ⟨x.toArray⟩ := ⟨_, rfl⟩
        obtain ⟨Y, hY⟩ : ∃ Y : ByteArray, Y = ⟨y.toArray⟩ := ⟨_, rfl⟩
        rw [← hX] at hc1
        rw [← hY] at hc2
        have hXl : X.toList = x := by rw [hX, Lib.toList_data]
        have hYl : Y.toList = y := by rw [hY, Lib.toList_data]
        have Hlt := hid hlt
        by_cases e : x = y
        · have hXY : X = Y := by rw [hX, hY, e]
          have hr2 : decide (xs.drop (i + 1) = ys.drop (i + 1)) = res := by rw [← hr, e]; simp
          have Hr := hid hr2
          subst hXY
          have hne2 : (X.toList == X.toList) = true := by simp
          clear hk hb hi hr hr2 hxe hye hix hiy hg1 hg2 hX hY hXl hYl e hlt
          go_upto_region 6 with fail
          go_region
          go_wp2_with fail
          go_roundg (M - (i + 1))
          case measure => have := Hk.out; have := Hlt.out; omega
          case rel => exact ⟨i + 1, by go_num, Hlt.out, Hr.out, rfl, Hb.out.drew⟩
        · have hne2 : (X.toList == Y.toList) = false := by rw [hXl, hYl]; simpa using e
          have hr2 : res = false := by rw [← hr]; simp [e]
          have Hr := hid hr2
          clear hk hb hi hr hr2 hxe hye hix hiy hg1 hg2 hX hY hXl hYl e hlt
          go_upto_region 6 with fail
          go_region
          go_wp2_with fail
          go_ret
          exact ⟨by rw [Hr.out]; rfl, Hb.out.drew⟩
      · have hge : ¬ (i : Int) < (M : Int) := by omega
        have hr2 : res = true := by
          rw [← hr, List.drop_eq_nil_of_le (by rw [← HM.out.1]; omega), List.drop_eq_nil_of_le (by rw [HM.out.2.1]; omega)]
          rfl
        have Hr := hid hr2
        clear hk hb hi hr hr2 hlt
        go_wp2_with fail
        go_ret
        exact ⟨by rw [Hr.out]; rfl, Hb.out⟩
  · have hne : ((xs.length : Int) != (ys.length : Int)) = true := by simp; omega
    have hr : decide (xs = ys) = false := decide_eq_false fun e => hlen (by rw [e])
    have Hr := hid hr
    clear hr hlen hl _hl2 hx hy
    go_enter Try.func101, Try.ntmps101
    go_wp2_with fail
    go_ret
    exact ⟨by rw [Hr.out]; rfl, Below.refl _ _⟩
end Go.Proofs.Ytaehooafdbaomaa
/- Chapter 10 (lang): told, Same: walks. -/
namespace Go.Proofs.Ytaehooafdbaomaa
open Go.RowKit Go.Shelf Go.Sort
attribute [local go_sem ↓] Go.wp_at_zero Go.wp_at_succ
attribute [local go_sem] frozen_alloc_lt

def StrR (_ : World) (_ : Nat → Prop) (a : List UInt8) (x : List Value) : Prop := x = [encStr a]
theorem StrR.fit : FitA StrR 1 :=
  ⟨fun h => by rw [h]; rfl, fun _ h => h, fun _ _ h => h, fun h u hu => by rw [h] at hu; simp at hu; subst hu; rfl⟩
theorem strR_all {w : World} {D : Nat → Prop} : ∀ {ls : List (List UInt8)} {xs : List (List Value)}, AllA StrR w D ls xs → xs.flatten = ls.map encStr
  | [], xs, h => by unfold AllA at h; subst h; rfl
  | a :: ls, xs, h => by
    obtain ⟨x, ys, rfl, h1, h2⟩ := h
    rw [List.flatten_cons, strR_all h2, h1]
    rfl
theorem strR_own {w : World} {B : Nat} {v : Value} {ls : List (List UInt8)} (h : OwnA StrR 1 w B 9 v ls) : w.ownsRow B 9 1 v ls.length (ls.map encStr) := by
  obtain ⟨xs, h1, h2⟩ := h
  rwa [strR_all h2] at h1
theorem strInfoT : (Try.prog.info? 9).map (fun i => (i.zero, i.size, i.bytes)) = some (some (.string ⟨#[]⟩), 1, 16) := by kernel_rfl
def To1 (w0 : World) (ts : List ByteArray) (l : List (List UInt8)) (k : Nat) (v5 v13 : Value) (w : World) : Prop :=
  ∃ (i : Nat) (vo : Value), vo = v5 ∧ v13 = .int .i64 i ∧ i ≤ l.length ∧ k = l.length - i ∧ OwnA StrR 1 w w0.heap.size 9 vo ((l.take i).map (tl ts)) ∧ Below w0.heap.size w0 w
def To2 (w1 : World) (ts : List ByteArray) (z : List UInt8) (k : Nat) (v19 : Value) (w : World) : Prop :=
  ∃ j : Nat, v19 = .int .i64 j ∧ j ≤ z.length ∧ k = z.length - j ∧ BldIs w1.heap.size w1.heap.size (tl ts (z.take j)) w ∧ Below w1.heap.size w1 w
theorem tl_bound {ts : List ByteArray} (h : ∀ t ∈ ts, t.size ≤ 1000) : ∀ z : List UInt8, (tl ts z).length ≤ 1001 * z.length
  | [] => by simp [tl]
  | b :: z => by
    have h1 : tl ts (b :: z) = tl1 ts b ++ tl ts z := rfl
    have h2 := tl_bound h z
    have h3 : (tl1 ts b).length ≤ 1001 := by
      unfold tl1
      rw [List.length_cons]
      have : (ts.getD b.toNat ⟨#[]⟩).size ≤ 1000 := by
        rw [List.getD_eq_getElem?_getD]
        cases e : ts[b.toNat]? with
        | none => decide
        | some t => exact h t (List.mem_of_getElem? e)
      rw [Lib.size_eq] at this
      omega
    rw [h1, List.length_append, List.length_cons]
    omega
set_option maxHeartbeats 8000000 in
set_option maxRecDepth 8000 in
theorem told10_calls (w : World) (G : Gr) (gn gt gp : Option Addr) (cn ct cp : Nat) (hg : GIn w G gn gt gp) (ht : ∀ t ∈ G.terms, t.size ≤ 1000) (ga : Option Addr) (ca : Nat) (l : List (List UInt8)) (hl : RowT w ga l) (hln : l.length ≤ 100000) (hlz : ∀ z ∈ l, z.length ≤ 64 ∧ ∀ b ∈ z, b.toNat < G.terms.length) :
    Calls Try.prog 102 #[.agg #[.int .i64 G.start, .int .i64 G.rules, .slice gn G.names.length cn, .slice gt G.terms.length ct, .slice gp G.prods.length cp], .slice ga l.length ca] w fun e w' =>
      ∃ v, e = .returned v ∧ w'.ownsRow w.heap.size 9 1 v l.length ((toldS G.terms l).map encStr) ∧ Below w.heap.size w w' := by
  obtain ⟨i9, hi9, y0, y1, y2⟩ := info_parts strInfoT
  obtain ⟨T, hT⟩ : ∃ T, T = G.terms.length := ⟨_, rfl⟩
  obtain ⟨M, hM⟩ : ∃ M, M = l.length := ⟨_, rfl⟩
  have hk0 := Bk.new w 30 [.int .i64 G.start, .int .i64 G.rules, .slice gn G.names.length cn, .slice gt T ct, .slice gp G.prods.length cp]
  have hb0 : Below w.heap.size w (w.alloc (.cells #[.int .i64 G.start, .int .i64 G.rules, .slice gn G.names.length cn, .slice gt T ct, .slice gp G.prods.length cp] 30)) := (Below.refl _ w).alloc (Nat.le_refl _) _
  have Hg := hid (And.intro hg (And.intro ht (And.intro hl (And.intro hln (And.intro hlz (And.intro hT hM))))))
  have hMI : (M : Int) ≤ 100000 := by omega
  rw [← hT, ← hM]
  clear hg ht hl hln hlz hT hM
  go_enter Try.func102, Try.ntmps102
  go_upto_region 2 with fail
  obtain ⟨w0, hw0⟩ : ∃ w0, w0 = (w.alloc (.cells #[.int .i64 G.start, .int .i64 G.rules, .slice gn G.names.length cn, .slice gt T ct, .slice gp G.prods.length cp] 30)) := ⟨_, rfl⟩
  obtain ⟨bq, hbq⟩ : ∃ bq, bq = w.heap.size := ⟨_, rfl⟩
  rw [← hw0] at hk0 hb0 ⊢
  rw [← hbq] at hk0 ⊢
  have Hk0 := hid (And.intro hk0 hb0)
  clear hk0 hb0 hw0 hbq
  go_wp2_with fail
  go_loopg [5, 13] M (fun k v5 v13 wr => To1 w0 G.terms l k v5 v13 wr)
  case atStart => exact ⟨0, _, rfl, rfl, Nat.zero_le _, Hg.out.2.2.2.2.2.2, OwnA.nil _ _ _ _ _, Below.refl _ _⟩
  case round =>
    obtain ⟨i, vo, rfl, rfl, hi, hk, hout, hb⟩ := hrel
    have Hk := hid hk
    have Hb := hid hb
    have Hout := hid hout
    have hMl := Hg.out.2.2.2.2.2.2
    by_cases hlt : i < M
    · have hlt' : (i : Int) < (M : Int) := by omega
      have hi0 : (0 : Int) ≤ (i : Int) := by omega
      have hil : i < l.length := by rw [← hMl]; exact hlt
      obtain ⟨z, hze⟩ : ∃ z, z = l[i] := ⟨_, rfl⟩
      have hz : l[i]? = some z := by rw [hze]; exact List.getElem?_eq_getElem hil
      obtain ⟨g, rfl, hgl, hcz⟩ := (Hg.out.2.2.1.later (belw Hk0.out.2 hb)) i z hz
      have hzb := Hg.out.2.2.2.2.1 z (List.mem_of_getElem? hz)
      obtain ⟨A, hA⟩ : ∃ A : ByteArray, A = ⟨z.toArray⟩ := ⟨_, rfl⟩
      have hsA : A.size = z.length := by rw [hA]; rfl
      rw [← hA] at hcz
      obtain ⟨n, hn⟩ : ∃ n, n = z.length := ⟨_, rfl⟩
      rw [← hn] at hsA
      have hn64 : (n : Int) ≤ 64 := by omega
      have HA := hid (And.intro hA (And.intro hn (And.intro hz hzb)))
      have Hlt := hid hlt
      have hbi0 := BldIs.new wr
      have hba : Below wr.heap.size wr (wr.alloc (.cells #[.pointer none, .slice none 0 0] 121)) := bel_al (bel_id wr) _
      have Hi0 := hid (And.intro hbi0 hba)
      obtain ⟨w1, rfl⟩ : ∃ w1 : World, w1 = wr := ⟨_, rfl⟩
      clear hk hb hout hlt hil hze hz hgl hzb hA hn hbi0 hba hi hMl
      go_wp2_with fail
      go_loopg [19] n (fun k v19 wr => To2 w1 G.terms z k v19 wr)
      case atStart => exact ⟨0, rfl, Nat.zero_le _, HA.out.2.1, Hi0.out.1, Hi0.out.2⟩
      case round =>
        obtain ⟨j, rfl, hj, hk2, hbi, hb2⟩ := hrel
        have Hk2 := hid hk2
        have Hbi := hid hbi
        have Hb2 := hid hb2
        by_cases hlj : j < n
        · have hlj' : (j : Int) < (n : Int) := by omega
          have hj0 : (0 : Int) ≤ (j : Int) := by omega
          have hjA : j < A.size := by omega
          have hjz : j < z.length := by rw [← HA.out.2.1]; exact hlj
          obtain ⟨by', hby⟩ : ∃ b : UInt8, b = z[j] := ⟨_, rfl⟩
          obtain ⟨c, hc⟩ : ∃ c : Nat, c = by'.toNat := ⟨_, rfl⟩
          have hAc : (A[j]'hjA).toNat = c := by
            have hA := HA.out.1
            subst hA
            rw [hc, hby]; rfl
          have hbw : Below w.heap.size w wr := belw Hk0.out.2 (belw Hb.out hb2)
          have hcT : c < G.terms.length := by rw [hc, hby]; exact HA.out.2.2.2.2 _ (List.getElem_mem hjz)
          obtain ⟨tb, htb⟩ : ∃ tb, tb = G.terms[c] := ⟨_, rfl⟩
          obtain ⟨gT, oT, rfl, hgT, hcT2⟩ := (Hg.out.1.later hbw).t.at hcT
          rw [← htb] at hcT2
          have htm : tb ∈ G.terms := by rw [htb]; exact List.getElem_mem hcT
          have hts : tb.size ≤ 1000 := Hg.out.2.1 tb htm
          have q3 := (Hk0.out.1.below (Hb.out.trans (hb2.mono Hb.out.size)) Hk0.out.1.lt).cell 3
          simp only [List.getElem?_cons_zero, List.getElem?_cons_succ] at q3
          have hcTI : (c : Int) < (T : Int) := by have := Hg.out.2.2.2.2.2.1; omega
          have hc0 : (0 : Int) ≤ (c : Int) := by omega
          have ht1 : tl1 G.terms by' = UInt8.ofNat tb.size :: tb.data.toList := by
            unfold tl1
            rw [← hc, List.getD_eq_getElem?_getD, List.getElem?_eq_getElem hcT, ← htb]
            rfl
          have hnext : tl G.terms (z.take (j + 1)) = tl G.terms (z.take j) ++ [UInt8.ofNat tb.size] ++ tb.data.toList := by
            rw [List.take_succ_eq_append_getElem hjz, ← hby]
            unfold tl
            rw [List.flatMap_append, List.flatMap_singleton, ht1, List.append_assoc]
            rfl
          have hlen : (tl G.terms (z.take j)).length ≤ 1001 * 64 := by
            have h1 := tl_bound Hg.out.2.1 (z.take j)
            rw [List.length_take] at h1
            have := HA.out.2.1
            omega
          have hbl := bldWriteByte w1.heap.size w1.heap.size (tl G.terms (z.take j)) (UInt8.ofNat tb.size) wr.drew hbi.drew (by omega) hb2.size
          obtain ⟨kb, hkb⟩ : ∃ kb, kb = (UInt8.ofNat tb.size).toNat := ⟨_, rfl⟩
          have hconv : IntKind.u8.wrap (tb.size : Int) = (kb : Int) := by
            rw [hkb, UInt8.toNat_ofNat']
            simp [IntKind.wrap, IntKind.bits, IntKind.signed]
          rw [← hkb] at hbl
          have hstr := fun W hW => bldWriteString w1.heap.size w1.heap.size (tl G.terms (z.take j) ++ [UInt8.ofNat tb.size]) tb.data.toList W hW (by rw [List.length_append, List.length_singleton]; have h1 := hts; rw [Lib.size_eq] at h1; omega)
          have etb : (⟨tb.data.toList.toArray⟩ : ByteArray) = tb := by cases tb; simp
          rw [etb] at hstr
          have Hstr := hid hstr
          have Hbl := hid hbl
          have Hnext := hid hnext
          have hts2 : (tb.size : Int) ≤ 1000 := by omega
          have Hlj := hid hlj
          have hbd : Below w1.heap.size w1 wr.drew := hb2.drew
          have Hbd := hid hbd
          clear hk2 hbi hb2 hlj hjz hby hc hbw hcT htb hgT htm hts ht1 hnext hlen hbl hkb hstr etb hbd hj
          go_upto_region 9 with fail
          go_region
          go_upto_region 11 with (go_at_call 117; refine Hbl.out.mono ?_; rintro e w2 ⟨rfl, hi2, hb2, -⟩)
          have hb2' := Hbd.out.trans hb2
          have Hst := hid (Hstr.out w2 hi2 hb2'.size)
          have Hb2' := hid hb2'
          clear hi2 hb2 hb2'
          go_wp2_with (go_at_call 114; refine Hst.out.mono ?_; rintro e w3 ⟨rfl, hi3, hb3, -⟩; have Hi3 := hid (And.intro hi3 hb3); clear hi3 hb3)
          go_roundg (n - (j + 1))
          case measure => have := Hk2.out; have := Hlj.out; have := HA.out.2.1; omega
          case rel => exact ⟨j + 1, by go_num, by have := Hlj.out; have := HA.out.2.1; omega, by have := HA.out.2.1; omega, by rw [Hnext.out]; exact Hi3.out.1, Hb2'.out.trans Hi3.out.2⟩
        · have hge : ¬ (j : Int) < (n : Int) := by omega
          have hjz : z.take j = z := List.take_of_length_le (by have := HA.out.2.1; omega)
          rw [hjz] at hbi
          have hstr := bldString w1.heap.size w1.heap.size (tl G.terms z) wr hbi hb2.size
          obtain ⟨S, hS⟩ : ∃ S : ByteArray, S = ⟨(tl G.terms z).toArray⟩ := ⟨_, rfl⟩
          rw [← hS] at hstr
          have HS := hid hS
          have Hstr := hid hstr
          have Hb2 := hid hb2
          clear hk2 hbi hb2 hlj hjz hstr hS hj hcz
          go_upto_region 13 with fail
          go_upto_region 14 with (first
            | (at_builtin; refine wpList_append_run rfl _ _ _ rfl vo (.slice (some ⟨w4.heap.size, 0, none⟩) 1 1) (.slice (some ⟨g5, 0, none⟩) (nn + 1) c5) w5 (by rfl) (by rfl) (by exact hrun5) ?_)
            | (go_at_call 71; refine Hstr.out.mono ?_; rintro e w4 ⟨rfl, -, hb4, -⟩; have hbw4 := Hb2.out.trans hb4; have hout4 := Hout.out.later StrR.fit hbw4; obtain ⟨g5, c5, w5, hrun5, ho5, hk5, -, -⟩ := hout4.app (P := Try.prog) StrR.fit 27 27 i9 (.string ⟨#[]⟩) 16 Try.underlying27 hi9 y0 y1 y2 rfl (by omega) (by omega) (by have := hbw4.size; have := Hb.out.size; omega) (by rw [List.length_map, List.length_take]; have := Hg.out.2.2.2.1; omega) (tl G.terms z) [encStr (tl G.terms z)] rfl 0; obtain ⟨nn, hnn⟩ : ∃ nn, nn = ((l.take i).map (tl G.terms)).length := ⟨_, rfl⟩; rw [← hnn] at hrun5 ho5; have Hfin := hid (And.intro ho5 (And.intro hk5 hbw4)); rw [show encStr (tl G.terms z) = Value.string S from by rw [HS.out]] at hrun5; clear ho5 hk5 hbw4 hout4 hb4 hnn))
          obtain ⟨ho5, hk5, hbw4⟩ := Hfin.out
          have hb5 : Below w0.heap.size w0 w5 := (Hb.out.trans (hbw4.mono Hb.out.size)).trans (hk5.to_below (by have := hbw4.size; have := Hb.out.size; omega) (fun k e => (Hout.out.lt k e).1))
          have e5 : (l.take i).map (tl G.terms) ++ [tl G.terms z] = (l.take (i + 1)).map (tl G.terms) := by
            rw [List.take_add_one, HA.out.2.2.1, List.map_append]; rfl
          rw [e5] at ho5
          have H5 := hid (And.intro ho5 hb5)
          clear ho5 hb5 hk5 hbw4 e5 hrun5 Hfin
          go_wp2_with fail
          go_roundg (M - (i + 1))
          case measure => have := Hk.out; have := Hlt.out; have := Hg.out.2.2.2.2.2.2; omega
          case rel => exact ⟨i + 1, _, rfl, by go_num, by have := Hlt.out; have := Hg.out.2.2.2.2.2.2; omega, by have := Hg.out.2.2.2.2.2.2; omega, H5.out.1, H5.out.2⟩
    · have hge : ¬ (i : Int) < (M : Int) := by omega
      have hil : l.take i = l := List.take_of_length_le (by omega)
      rw [hil] at hout
      have ho := strR_own hout
      have hsort := sortTl_calls wr w0.heap.size vo (l.map (tl G.terms)) ho (by rw [List.length_map]; have := Hg.out.2.2.2.1; omega)
      rw [List.length_map, ← hMl] at hsort
      have Hsort := hid hsort
      clear hk hb hout hlt hil ho hsort hi hMl
      go_wp2_with (go_at_call 131; refine Hsort.out.mono ?_; rintro e w2 ⟨rfl, ho2, hb2⟩)
      go_ret
      exact ⟨_, rfl, own_mono ho2 Hk0.out.2.size, Hk0.out.2.trans ((Hb.out.trans hb2).mono Hk0.out.2.size)⟩

/-- all, of a small grammar. -/
theorem all_small (w : World) (G : Gr) (gn gt gp : Option Addr) (cn ct cp : Nat) (most : Nat) (hm : most ≤ 4) (ht : G.terms.length ≤ 3) (hs : Pl.soundB G = true) (hg : GIn w G gn gt gp) (hc : CapP w gp G.prods) :
    Calls Try.prog 95 #[.agg #[.int .i64 G.start, .int .i64 G.rules, .slice gn G.names.length cn, .slice gt G.terms.length ct, .slice gp G.prods.length cp], .int .i64 (most : Int)] w fun e w' =>
      ∃ (ga : Option Addr) (ca : Nat), e = .returned (.tuple #[.slice ga (wordsB G.terms.length (derB G) (most + 1)).length ca, .int .i64 0]) ∧ RowT w' ga (wordsB G.terms.length (derB G) (most + 1)) ∧ Below w.heap.size w w' := by
  have hsn := sndG hs
  refine (all_calls w G gn gt gp cn ct cp most (by omega) hs hg hc).mono ?_
  rintro e w' ⟨h1 | ⟨-, ks, live, -, -, h2⟩, hb⟩
  · obtain ⟨v, ss, rfl, hp, hz, -, ho⟩ := h1
    have e1 := words_same (t := G.terms.length) hsn.s0 hsn.t1 hsn.r0 hp hz (d := derB G) (fun z _ => derB_iff G z)
    rw [e1] at ho
    obtain ⟨ga, ca, rfl, hr⟩ := own_rowT ho
    exact ⟨ga, ca, rfl, hr, hb⟩
  · exact (Lg.few_fit ht hsn.r0 hm h2).elim
/-- What Same answers of small grammars. -/
noncomputable def sameS (G1 G2 : Gr) (most : Nat) : Bool := decide (toldS G1.terms (wordsB G1.terms.length (derB G1) (most + 1)) = toldS G2.terms (wordsB G2.terms.length (derB G2) (most + 1)))
set_option maxHeartbeats 8000000 in
set_option maxRecDepth 8000 in
theorem lsame_calls (w : World) (G1 G2 : Gr) (gn1 gt1 gp1 gn2 gt2 gp2 : Option Addr) (cn1 ct1 cp1 cn2 ct2 cp2 : Nat) (most : Nat) (hm : most ≤ 4) (ht1 : G1.terms.length ≤ 3) (ht2 : G2.terms.length ≤ 3) (hs1 : Pl.soundB G1 = true) (hs2 : Pl.soundB G2 = true)
    (hz1 : ∀ t ∈ G1.terms, t.size ≤ 1000) (hz2 : ∀ t ∈ G2.terms, t.size ≤ 1000) (hg1 : GIn w G1 gn1 gt1 gp1) (hg2 : GIn w G2 gn2 gt2 gp2) (hc1 : CapP w gp1 G1.prods) (hc2 : CapP w gp2 G2.prods) :
    Calls Try.prog 59 #[.agg #[.int .i64 G1.start, .int .i64 G1.rules, .slice gn1 G1.names.length cn1, .slice gt1 G1.terms.length ct1, .slice gp1 G1.prods.length cp1], .agg #[.int .i64 G2.start, .int .i64 G2.rules, .slice gn2 G2.names.length cn2, .slice gt2 G2.terms.length ct2, .slice gp2 G2.prods.length cp2], .int .i64 (most : Int)] w fun e w' => e = .returned (.tuple #[.bool (sameS G1 G2 most), .int .i64 0]) ∧ Below w.heap.size w w' := by
  have k1 := (Bk.new w 30 [.int .i64 G1.start, .int .i64 G1.rules, .slice gn1 G1.names.length cn1, .slice gt1 G1.terms.length ct1, .slice gp1 G1.prods.length cp1]).alloc (.cells #[.int .i64 G2.start, .int .i64 G2.rules, .slice gn2 G2.names.length cn2, .slice gt2 G2.terms.length ct2, .slice gp2 G2.prods.length cp2] 30)
  have k2 := bk_at (Bk.new (w.alloc (.cells #[.int .i64 G1.start, .int .i64 G1.rules, .slice gn1 G1.names.length cn1, .slice gt1 G1.terms.length ct1, .slice gp1 G1.prods.length cp1] 30)) 30 [.int .i64 G2.start, .int .i64 G2.rules, .slice gn2 G2.names.length cn2, .slice gt2 G2.terms.length ct2, .slice gp2 G2.prods.length cp2]) (show _ = w.heap.size + 1 by simp)
  have hb0 : Below w.heap.size w ((w.alloc (.cells #[.int .i64 G1.start, .int .i64 G1.rules, .slice gn1 G1.names.length cn1, .slice gt1 G1.terms.length ct1, .slice gp1 G1.prods.length cp1] 30)).alloc (.cells #[.int .i64 G2.start, .int .i64 G2.rules, .slice gn2 G2.names.length cn2, .slice gt2 G2.terms.length ct2, .slice gp2 G2.prods.length cp2] 30)) := bel_al (bel_al (bel_id w) _) _
  have hsn1 := sndG hs1
  have hsn2 := sndG hs2
  obtain ⟨L1, hL1⟩ : ∃ L1, L1 = wordsB G1.terms.length (derB G1) (most + 1) := ⟨_, rfl⟩
  obtain ⟨L2, hL2⟩ : ∃ L2, L2 = wordsB G2.terms.length (derB G2) (most + 1) := ⟨_, rfl⟩
  have hn1 : L1.length ≤ 121 := by rw [hL1]; exact wordsB_few ht1 (by omega) _
  have hn2 : L2.length ≤ 121 := by rw [hL2]; exact wordsB_few ht2 (by omega) _
  have hw1 : ∀ z ∈ L1, z.length ≤ 64 ∧ ∀ b ∈ z, b.toNat < G1.terms.length := fun z hz => by
    rw [hL1, wordsB_mem hsn1.t1] at hz
    exact ⟨by omega, hz.2.2⟩
  have hw2 : ∀ z ∈ L2, z.length ≤ 64 ∧ ∀ b ∈ z, b.toNat < G2.terms.length := fun z hz => by
    rw [hL2, wordsB_mem hsn2.t1] at hz
    exact ⟨by omega, hz.2.2⟩
  unfold sameS
  rw [← hL1, ← hL2]
  have ha1 := fun W (hW : Below w.heap.size w W) => all_small W G1 gn1 gt1 gp1 cn1 ct1 cp1 most hm ht1 hs1 (hg1.later hW) (hc1.later hW)
  have ha2 := fun W (hW : Below w.heap.size w W) => all_small W G2 gn2 gt2 gp2 cn2 ct2 cp2 most hm ht2 hs2 (hg2.later hW) (hc2.later hW)
  simp only [← hL1] at ha1
  simp only [← hL2] at ha2
  obtain ⟨M1, hM1⟩ : ∃ M1, M1 = L1.length := ⟨_, rfl⟩
  obtain ⟨M2, hM2⟩ : ∃ M2, M2 = L2.length := ⟨_, rfl⟩
  simp only [← hM1] at ha1
  simp only [← hM2] at ha2
  have ht1 : ∀ W ga ca, Below w.heap.size w W → RowT W ga L1 → Calls Try.prog 102 #[.agg #[.int .i64 G1.start, .int .i64 G1.rules, .slice gn1 G1.names.length cn1, .slice gt1 G1.terms.length ct1, .slice gp1 G1.prods.length cp1], .slice ga M1 ca] W fun e w' => ∃ g c, e = .returned (.slice g M1 c) ∧ RowT w' g (toldS G1.terms L1) ∧ Below W.heap.size W w' := fun W ga ca hW hr => by
    have h := told10_calls W G1 gn1 gt1 gp1 cn1 ct1 cp1 (hg1.later hW) hz1 ga ca L1 hr (by omega) hw1
    rw [← hM1] at h
    refine h.mono ?_
    rintro e w' ⟨v, rfl, ho, hb⟩
    rw [hM1, ← toldS_len G1.terms L1] at ho
    obtain ⟨g, c, rfl, hr⟩ := own_rowT ho
    rw [toldS_len, ← hM1]
    exact ⟨g, c, rfl, hr, hb⟩
  have ht2 : ∀ W ga ca, Below w.heap.size w W → RowT W ga L2 → Calls Try.prog 102 #[.agg #[.int .i64 G2.start, .int .i64 G2.rules, .slice gn2 G2.names.length cn2, .slice gt2 G2.terms.length ct2, .slice gp2 G2.prods.length cp2], .slice ga M2 ca] W fun e w' => ∃ g c, e = .returned (.slice g M2 c) ∧ RowT w' g (toldS G2.terms L2) ∧ Below W.heap.size W w' := fun W ga ca hW hr => by
    have h := told10_calls W G2 gn2 gt2 gp2 cn2 ct2 cp2 (hg2.later hW) hz2 ga ca L2 hr (by omega) hw2
    rw [← hM2] at h
    refine h.mono ?_
    rintro e w' ⟨v, rfl, ho, hb⟩
    rw [hM2, ← toldS_len G2.terms L2] at ho
    obtain ⟨g, c, rfl, hr⟩ := own_rowT ho
    rw [toldS_len, ← hM2]
    exact ⟨g, c, rfl, hr, hb⟩
  obtain ⟨R1, hR1⟩ : ∃ R1, R1 = toldS G1.terms L1 := ⟨_, rfl⟩
  obtain ⟨R2, hR2⟩ : ∃ R2, R2 = toldS G2.terms L2 := ⟨_, rfl⟩
  have hr1 : R1.length = M1 := by rw [hR1, toldS_len, hM1]
  have hr2 : R2.length = M2 := by rw [hR2, toldS_len, hM2]
  have heq : ∀ W g1 c1 g2 c2, RowT W g1 R1 → RowT W g2 R2 → Calls Try.prog 101 #[.slice g1 M1 c1, .slice g2 M2 c2] W fun e w' => e = .returned (.bool (decide (R1 = R2))) ∧ Below W.heap.size W w' := fun W g1 c1 g2 c2 h1 h2 => by
    have h := equalT_calls W g1 g2 c1 c2 R1 R2 h1 h2 (by omega) (by omega)
    rw [hr1, hr2] at h
    exact h
  rw [← hR1] at ht1 ⊢
  rw [← hR2] at ht2 ⊢
  obtain ⟨res, hres⟩ : ∃ res, res = decide (R1 = R2) := ⟨_, rfl⟩
  rw [← hres] at heq ⊢
  have Ha1 := hid ha1
  have Ha2 := hid ha2
  have Ht1 := hid ht1
  have Ht2 := hid ht2
  have Heq := hid heq
  clear ha1 ha2 ht1 ht2 heq hL1 hL2 hn1 hn2 hw1 hw2 hM1 hM2 hr1 hr2 hR1 hR2 hres hsn1 hsn2 hs1 hs2 hz1 hz2 hg1 hg2 hc1 hc2 hm
  go_enter Try.func59, Try.ntmps59
  go_upto_region 1 with fail
  obtain ⟨w0, hw0⟩ : ∃ w0, w0 = ((w.alloc (.cells #[.int .i64 G1.start, .int .i64 G1.rules, .slice gn1 G1.names.length cn1, .slice gt1 G1.terms.length ct1, .slice gp1 G1.prods.length cp1] 30)).alloc (.cells #[.int .i64 G2.start, .int .i64 G2.rules, .slice gn2 G2.names.length cn2, .slice gt2 G2.terms.length ct2, .slice gp2 G2.prods.length cp2] 30)) := ⟨_, rfl⟩
  obtain ⟨b1, hb1⟩ : ∃ b1, b1 = w.heap.size := ⟨_, rfl⟩
  obtain ⟨b2, hb2⟩ : ∃ b2, b2 = b1 + 1 := ⟨_, rfl⟩
  rw [← hw0] at k1 k2 hb0 ⊢
  rw [← hb1] at k1 k2 ⊢
  rw [← hb2] at k2 ⊢
  have hS : ∀ W, Below w0.heap.size w0 W → (W.cell? ⟨b1, 0, none⟩ = some (.int .i64 G1.start) ∧ W.cell? ⟨b1, 1, none⟩ = some (.int .i64 G1.rules) ∧ W.cell? ⟨b1, 2, none⟩ = some (.slice gn1 G1.names.length cn1) ∧ W.cell? ⟨b1, 3, none⟩ = some (.slice gt1 G1.terms.length ct1) ∧ W.cell? ⟨b1, 4, none⟩ = some (.slice gp1 G1.prods.length cp1) ∧ W.cell? ⟨b2, 0, none⟩ = some (.int .i64 G2.start) ∧ W.cell? ⟨b2, 1, none⟩ = some (.int .i64 G2.rules) ∧ W.cell? ⟨b2, 2, none⟩ = some (.slice gn2 G2.names.length cn2) ∧ W.cell? ⟨b2, 3, none⟩ = some (.slice gt2 G2.terms.length ct2) ∧ W.cell? ⟨b2, 4, none⟩ = some (.slice gp2 G2.prods.length cp2)) := fun W hW => by
    have h1 := k1.below hW k1.lt
    have h2 := k2.below hW k2.lt
    exact ⟨h1.cell 0, h1.cell 1, h1.cell 2, h1.cell 3, h1.cell 4, h2.cell 0, h2.cell 1, h2.cell 2, h2.cell 3, h2.cell 4⟩
  have HS := hid hS
  have Hb0 := hid hb0
  obtain ⟨p0, p1, p2, p3, p4, -, -, -, -, -⟩ := hS w0 (Below.refl _ _)
  have A1 := hid (Ha1.out w0 hb0)
  clear k1 k2 hb0 hw0 hb1 hb2 hS
  go_upto_region 2 with (go_at_call 95; refine A1.out.mono ?_; rintro e w1 ⟨ga, ca, rfl, hra, hbw1⟩)
  obtain ⟨-, -, -, -, -, q0, q1, q2, q3, q4⟩ := HS.out w1 hbw1
  have A2 := hid (Ha2.out w1 (belw Hb0.out hbw1))
  have Hra := hid hra
  have Hw1 := hid hbw1
  clear hra hbw1 p0 p1 p2 p3 p4
  go_upto_region 5 with (go_at_call 95; refine A2.out.mono ?_; rintro e w2 ⟨gb, cb, rfl, hrb, hbw2⟩)
  have Hw2 := hid (belw Hw1.out hbw2)
  have HrA := hid (Hra.out.later hbw2)
  have HrB := hid hrb
  have hd : Below w2.heap.size w2 w2.drew := (Below.refl _ _).drew
  have He := hid hd
  clear hrb hbw2 q0 q1 q2 q3 q4 hd
  go_upto_region 7 with fail
  refine wp_region_held_drew (S := fun W : World => W.cell? ⟨b1, 0, none⟩ = some (.int .i64 G1.start) ∧ W.cell? ⟨b1, 1, none⟩ = some (.int .i64 G1.rules) ∧ W.cell? ⟨b1, 2, none⟩ = some (.slice gn1 G1.names.length cn1) ∧ W.cell? ⟨b1, 3, none⟩ = some (.slice gt1 G1.terms.length ct1) ∧ W.cell? ⟨b1, 4, none⟩ = some (.slice gp1 G1.prods.length cp1) ∧ W.cell? ⟨b2, 0, none⟩ = some (.int .i64 G2.start) ∧ W.cell? ⟨b2, 1, none⟩ = some (.int .i64 G2.rules) ∧ W.cell? ⟨b2, 2, none⟩ = some (.slice gn2 G2.names.length cn2) ∧ W.cell? ⟨b2, 3, none⟩ = some (.slice gt2 G2.terms.length ct2) ∧ W.cell? ⟨b2, 4, none⟩ = some (.slice gp2 G2.prods.length cp2)) (by kernel_rfl) (HS.out _ (belw Hw2.out He.out)) (fun hHeld => ?_)
  refine wpAnyH_take (i := 0) (oi := ({ dst := some 29, op := Op.load 30 (Operand.tmp 3), type := 30, pos := "lang.go:229", after := #[], guard := none } : Oper)) (v := ?_) rfl (by kernel_rfl) (by kernel_rfl) (by kernel_rfl) (fun _ _ _ h => h) (Or.inl ⟨by kernel_rfl, ?_⟩) (by assumption) ?_
  rotate_left
  · intro w hSw
    try dsimp only at hSw
    go_simp
    try with_reducible rfl
  try simp only [Act.put, List.setIfInBounds_toArray, List.set_cons_zero, List.set_cons_succ]
  refine wpAnyH_take (i := 1) (oi := ({ dst := some 30, op := Op.move (Operand.tmp 8), type := 27, pos := "lang.go:229", after := #[], guard := none } : Oper)) (v := ?_) rfl (by kernel_rfl) (by kernel_rfl) (by kernel_rfl) (fun _ _ _ h => h) (Or.inl ⟨by kernel_rfl, ?_⟩) (by assumption) ?_
  rotate_left
  · intro w hSw
    try dsimp only at hSw
    go_simp
    try with_reducible rfl
  try simp only [Act.put, List.setIfInBounds_toArray, List.set_cons_zero, List.set_cons_succ]
  refine wpAnyH_take (i := 3) (oi := ({ dst := some 32, op := Op.load 30 (Operand.tmp 4), type := 30, pos := "lang.go:229", after := #[], guard := none } : Oper)) (v := ?_) rfl (by kernel_rfl) (by kernel_rfl) (by kernel_rfl) (fun _ _ _ h => h) (Or.inl ⟨by kernel_rfl, ?_⟩) (by assumption) ?_
  rotate_left
  · intro w hSw
    try dsimp only at hSw
    go_simp
    try with_reducible rfl
  try simp only [Act.put, List.setIfInBounds_toArray, List.set_cons_zero, List.set_cons_succ]
  refine wpAnyH_take (i := 4) (oi := ({ dst := some 33, op := Op.move (Operand.tmp 10), type := 27, pos := "lang.go:229", after := #[], guard := none } : Oper)) (v := ?_) rfl (by kernel_rfl) (by kernel_rfl) (by kernel_rfl) (fun _ _ _ h => h) (Or.inl ⟨by kernel_rfl, ?_⟩) (by assumption) ?_
  rotate_left
  · intro w hSw
    try dsimp only at hSw
    go_simp
    try with_reducible rfl
  try simp only [Act.put, List.setIfInBounds_toArray, List.set_cons_zero, List.set_cons_succ]
  refine wpAnyH_ready (rs := [2]) (by kernel_rfl) (by simp) ?_
  refine AllReadyH.cons (o := ({ dst := some 31, op := Op.call { callee := Callee.value (Operand.func 102), args := #[Operand.tmp 29, Operand.tmp 30], argTypes := #[30, 27] }, type := 27, pos := "lang.go:229", after := #[{ on := 0, ground := Ground.data }, { on := 1, ground := Ground.data }], guard := none } : Oper)) rfl (fun K hK => ?_) AllReadyH.nil
  go_simp
  go_at_call 102
  refine (Ht1.out _ ga ca (belw Hb0.out (belw Hw2.out He.out)) (HrA.out.later He.out)).mono ?_
  rintro e w3 ⟨g3, c3, rfl, hr3, hb3⟩
  have Hr3 := hid hr3
  have Hb3 := hid (belw He.out hb3)
  clear hr3 hb3
  try go_simp
  refine hK.out _ _ (HS.out _ (belw Hw2.out Hb3.out)) (fun hH2 => ?_)
  clear hK K hHeld
  have hHeld := hH2
  clear hH2
  try simp only [Act.put, List.setIfInBounds_toArray, List.set_cons_zero, List.set_cons_succ]
  refine wpAnyH_ready (rs := [5]) (by kernel_rfl) (by simp) ?_
  refine AllReadyH.cons (o := ({ dst := some 34, op := Op.call { callee := Callee.value (Operand.func 102), args := #[Operand.tmp 32, Operand.tmp 33], argTypes := #[30, 27] }, type := 27, pos := "lang.go:229", after := #[{ on := 3, ground := Ground.data }, { on := 4, ground := Ground.data }, { on := 2, ground := Ground.chain }], guard := none } : Oper)) rfl (fun K hK => ?_) AllReadyH.nil
  go_simp
  go_at_call 102
  refine (Ht2.out _ gb cb (belw Hb0.out (belw Hw2.out Hb3.out)) (HrB.out.later Hb3.out)).mono ?_
  rintro e w4 ⟨g4, c4, rfl, hr4, hb4⟩
  have Hr4 := hid (And.intro (Hr3.out.later hb4) hr4)
  have Hb4 := hid (belw Hb3.out hb4)
  clear hr4 hb4
  try go_simp
  refine hK.out _ _ (HS.out _ (belw Hw2.out Hb4.out)) (fun hH2 => ?_)
  clear hK K hHeld
  have hHeld := hH2
  clear hH2
  try simp only [Act.put, List.setIfInBounds_toArray, List.set_cons_zero, List.set_cons_succ]
  refine wpAnyH_ready (rs := [6]) (by kernel_rfl) (by simp) ?_
  refine AllReadyH.cons (o := ({ dst := some 35, op := Op.call { callee := Callee.value (Operand.func 101), args := #[Operand.tmp 31, Operand.tmp 34], argTypes := #[27, 27] }, type := 4, pos := "lang.go:229", after := #[{ on := 2, ground := Ground.data }, { on := 5, ground := Ground.data }, { on := 5, ground := Ground.chain }], guard := none } : Oper)) rfl (fun K hK => ?_) AllReadyH.nil
  go_simp
  go_at_call 101
  refine (Heq.out _ _ _ _ _ Hr4.out.1 Hr4.out.2).mono ?_
  rintro e w5 ⟨rfl, hb5⟩
  have Hb5 := hid (belw Hb4.out hb5)
  clear hb5
  try go_simp
  refine hK.out _ _ (HS.out _ (belw Hw2.out Hb5.out)) (fun hH2 => ?_)
  clear hK K hHeld
  have hHeld := hH2
  clear hH2
  try simp only [Act.put, List.setIfInBounds_toArray, List.set_cons_zero, List.set_cons_succ]
  refine wpAnyH_take (i := 7) (oi := ({ dst := some 6, op := Op.assign (Operand.tmp 35), type := 4, pos := "lang.go:229", after := #[{ on := 6, ground := Ground.data }, { on := 6, ground := Ground.chain }, { on := 0, ground := Ground.phase }, { on := 1, ground := Ground.phase }, { on := 2, ground := Ground.phase }, { on := 3, ground := Ground.phase }, { on := 4, ground := Ground.phase }, { on := 5, ground := Ground.phase }, { on := 6, ground := Ground.phase }], guard := none } : Oper)) (v := ?_) rfl (by kernel_rfl) (by kernel_rfl) (by kernel_rfl) (fun _ _ _ h => h) (Or.inl ⟨by kernel_rfl, ?_⟩) (by assumption) ?_
  rotate_left
  · intro w hSw
    try dsimp only at hSw
    go_simp
    try with_reducible rfl
  try simp only [Act.put, List.setIfInBounds_toArray, List.set_cons_zero, List.set_cons_succ]
  refine wpAnyH_take (i := 8) (oi := ({ dst := some 7, op := Op.assign (Operand.const (Value.int IntKind.i64 0)), type := 36, pos := "lang.go:229", after := #[{ on := 7, ground := Ground.chain }, { on := 0, ground := Ground.phase }, { on := 1, ground := Ground.phase }, { on := 2, ground := Ground.phase }, { on := 3, ground := Ground.phase }, { on := 4, ground := Ground.phase }, { on := 5, ground := Ground.phase }, { on := 6, ground := Ground.phase }, { on := 7, ground := Ground.phase }], guard := none } : Oper)) (v := ?_) rfl (by kernel_rfl) (by kernel_rfl) (by kernel_rfl) (fun _ _ _ h => h) (Or.inl ⟨by kernel_rfl, ?_⟩) (by assumption) ?_
  rotate_left
  · intro w hSw
    try dsimp only at hSw
    go_simp
    try with_reducible rfl
  try simp only [Act.put, List.setIfInBounds_toArray, List.set_cons_zero, List.set_cons_succ]
  refine wpAnyH_done (by kernel_rfl) ?_ _
  go_wp2_with fail
  go_ret2
  exact ⟨rfl, belw Hb0.out (belw Hw2.out Hb5.out)⟩
end Go.Proofs.Ytaehooafdbaomaa
