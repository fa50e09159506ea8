/- Chapter 13 (cyk): fill. -/
import Derived.Test.YtbpgolmbielpgaaCykLaw
namespace Go.Proofs.Ytbpgolmbielpgaa
open Go.RowKit
attribute [local go_sem ↓] Go.wp_at_zero Go.wp_at_succ
attribute [local go_sem] frozen_alloc_lt

/-- The pairs that are kept for a first nonterminal. -/
def PairsAt (w : World) (o : Option Value) (ps : List (Int × Int)) : Prop := ∃ ga cap, o.getD (.slice none 0 0) = .slice ga ps.length cap ∧ ∀ (k : Nat) p, ps[k]? = some p → ∃ g off, ga = some ⟨g, off, none⟩ ∧ g < w.heap.size ∧ w.cell? ⟨g, off + k * 2, none⟩ = some (.int .i64 p.1) ∧ w.cell? ⟨g, off + k * 2 + 1, none⟩ = some (.int .i64 p.2)
theorem CellT.look {w : World} {v : Value} {t : Int → Int} (h : CellT w v t) (a : Int) (h0 : -9223372036854775808 ≤ a) (h1 : a ≤ 9223372036854775807) : (Instr.lookup 91 v (.int .i64 a) true).run Try.prog w = .ok (.tuple #[.int .i64 (t a), .bool (!(t a == 0))]) w := by
  have hz : (zeroValue 3).run Try.prog w = .ok (.int .i64 0) w := by kernel_rfl
  rcases h with ⟨rfl, h⟩ | ⟨m, k, rfl, h⟩
  · have := Maps.look_nil (w := w) true (Maps.int_keyed Try.underlying3) Try.underlying91 hz (Maps.keyOf_int_mk Try.underlying3 (lit_wf h0 h1))
    rw [this, h a]; rfl
  · rw [h.look a h0 h1 _ _ Try.underlying91 hz]
    unfold Ck.cellF
    split
    · simp [*]
    · simp [*]
theorem CellT.kp {S : Nat → Prop} {w w' : World} {v : Value} {t : Int → Int} (h : CellT w v t) (hk : Kp S w w') (hS : ∀ k, k < w.heap.size → S k → v ≠ .map (some k)) : CellT w' v t := by
  rcases h with h | ⟨m, k, rfl, h⟩
  · exact .inl h
  · exact .inr ⟨m, k, rfl, h.kp hk fun hm => hS m h.lt hm rfl⟩

def Fil1 (w1 : World) (m i j : Nat) (P : Int) (f : Nat → Int → Int) (k : Nat) (v9 : Value) (w : World) : Prop :=
  ∃ (q cnt : Nat) (t : Int → Int), v9 = .int .i64 q ∧ i < q ∧ q ≤ j ∧ MapV w m cnt (Ck.cellF t) ∧ (cnt : Int) ≤ (q : Int) * P ∧ (∀ a, t a = min Ck.cap (Ck.sumK (fun k => f k a) (i + 1) (q - (i + 1)))) ∧ k = j - q ∧ Kp (fun x => x = m) w1 w
def Fil2 (w1 : World) (m m1 n1 r q : Nat) (P : Int) (L : List Int) (pr : Int → List (Int × Int)) (one two base : Int → Int) (k : Nat) (w : World) : Prop :=
  ∃ (cnt : Nat) (t : Int → Int) (left : Int → Bool), RangeV w m1 r n1 (Ck.cellF one) left k ∧ MapV w m cnt (Ck.cellF t) ∧ (cnt : Int) ≤ (q : Int) * P + Ck.sumL L (fun b => (pr b).length) (fun b => (Ck.cellF one b).isSome && !left b) ∧
    (∀ a, t a = min Ck.cap (base a + Ck.sumL L (fun b => Ck.contr (pr b) (one b) two a) (fun b => (Ck.cellF one b).isSome && !left b))) ∧ (∀ b, left b = true → (Ck.cellF one b).isSome = true) ∧ Kp (fun x => x = m) w1 w
def Fil3 (w1 : World) (m m1 n1 r : Nat) (left : Int → Bool) (kr : Nat) (B : Int) (base2 : Int → Int) (ps : List (Int × Int)) (x : Int) (one two : Int → Int) (k : Nat) (v71 : Value) (w : World) : Prop :=
  ∃ (d cnt : Nat) (t : Int → Int), v71 = .int .i64 d ∧ d ≤ ps.length ∧ RangeV w m1 r n1 (Ck.cellF one) left kr ∧ MapV w m cnt (Ck.cellF t) ∧ (cnt : Int) ≤ B + d ∧
    (∀ a, t a = min Ck.cap (base2 a + Ck.contr (ps.take d) x two a)) ∧ k = ps.length - d ∧ Kp (fun x => x = m) w1 w

theorem Chart.put {w wr : World} {b bc n : Nat} {st cnt te : Int} {em : Bool} {gp : Option Addr} {lp cp : Nat} {ms : List Value} {T : Nat → Int → Int} (h : Chart w b bc n st cnt te em gp lp cp ms T) {m c x : Nat} {t : Int → Int} (hk : Kp (fun x => x = m) w wr) (hm : w.heap.size ≤ m) (hx : x < n * n) (hv : MapV wr m c (Ck.cellF t)) :
    Chart (wr.setCell ⟨bc, x, none⟩ (.map (some m))) b bc n st cnt te em gp lp cp (ms.set x (.map (some m))) (fun y => if y = x then t else T y) := by
  have hbm : b ≠ m := fun e => by have := h.k.lt; omega
  have hcm : bc ≠ m := fun e => by have := h.c.lt; omega
  have hk1 := h.k.kp hk hbm
  have hc1 := h.c.kp hk hcm
  have hs : Kp (fun x => x = bc) wr (wr.setCell ⟨bc, x, none⟩ (.map (some m))) := Kp.set (S := fun x => x = bc) (p := ⟨bc, x, none⟩) (Kp.refl _ _) (.inl rfl) _
  refine ⟨hk1.kp hs h.ne, hc1.set x _, by rw [List.length_set]; exact h.l, fun y v hv2 => ?_, h.ne⟩
  by_cases hy : y = x
  · subst hy
    rw [List.getElem?_set_self (by rw [h.l]; exact hx)] at hv2
    injection hv2 with hv2
    rw [if_pos rfl]
    exact .inr ⟨m, c, hv2.symm, hv.kp hs fun e => hcm e.symm⟩
  · rw [List.getElem?_set_ne (fun e => hy e.symm)] at hv2
    rw [if_neg hy]
    refine (((h.t y v hv2).kp hk fun k hk1 hk2 => ?_).kp hs fun k hk1 hk2 => ?_)
    · omega
    · rintro rfl
      subst hk2
      rcases h.t y _ hv2 with ⟨e, _⟩ | ⟨m', k', e, hm'⟩
      · cases e
      · injection e with e
        injection e with e
        subst e
        obtain ⟨es, c', he⟩ := hm'.block
        have := h.c
        unfold Bk at this
        rw [he] at this
        cases this
set_option maxHeartbeats 4000000 in
set_option maxRecDepth 8000 in
theorem fill_calls (w : World) {b bc n : Nat} {st cnt te : Int} {em : Bool} {gp : Option Addr} {lp cp : Nat} {ms : List Value} {T : Nat → Int → Int} (h : Chart w b bc n st cnt te em gp lp cp ms T) (hn : n ≤ 64)
    (mp kp : Nat) (fp : Int → Option Value) (hmp : MapV w mp kp fp) (pr : Int → List (Int × Int)) (hpr : ∀ z, PairsAt w (fp z) (pr z)) (L : List Int) (hL : L.Nodup) (hok : Ck.Okay T L)
    (P : Int) (hP : Ck.sumL L (fun b => (pr b).length) (fun _ => true) ≤ P) (hP2 : P ≤ 1099511627776) (hp1 : ∀ z, (pr z).length ≤ 1099511627776) (hpv : ∀ z p, p ∈ pr z → -9223372036854775808 ≤ p.1 ∧ p.1 ≤ 9223372036854775807 ∧ -9223372036854775808 ≤ p.2 ∧ p.2 ≤ 9223372036854775807)
    (i j : Nat) (hij : i + 1 < j) (hj : j ≤ n) (hfull : ∀ k, i < k → k < j → (∃ m, ms[Ck.ix n i k]? = some (.map (some m))) ∧ ∃ m, ms[Ck.ix n k j]? = some (.map (some m))) :
    Calls Try.prog 50 #[.pointer (some ⟨b, 0, none⟩), .int .i64 i, .int .i64 j, .map (some mp)] w fun e w' => e = .returned (.tuple #[]) ∧ Kp (fun x => x = bc) w w' ∧
      ∃ m, w.heap.size ≤ m ∧ Chart w' b bc n st cnt te em gp lp cp (ms.set (Ck.ix n i j) (.map (some m))) (fun x => if x = Ck.ix n i j then Ck.fillV T n L pr i j else T x) := by
  have hmm := @run_makeMap Try.prog
  have hmk := MapV.made w
  have hk1 : Kp (fun x => x = w.heap.size) w (w.alloc (.map #[] 0)) := (Kp.refl _ _).alloc _
  obtain ⟨m, hm⟩ : ∃ m, m = w.heap.size := ⟨_, rfl⟩
  have H := hid h
  have Hmp := hid hmp
  have Hpr := hid hpr
  have Hok := hid hok
  have HP := hid hP
  have Hfull := hid hfull
  have Hp1 := hid hp1
  have Hpv := hid hpv
  have hj64 : j ≤ 64 := by omega
  have HP0 : Hid (0 ≤ P) := hid (Int.le_trans (Ck.sumL_nonneg fun b => by omega) hP)
  clear h hmp hpr hok hP hfull hp1 hpv
  go_enter Try.func50, Try.ntmps50
  go_wp2_with fail
  obtain ⟨w1, hw1⟩ : ∃ w1, w1 = w.alloc (.map #[] 0) := ⟨_, rfl⟩
  rw [← hw1] at hk1 hmk
  rw [← hw1]
  rw [← hm] at hk1 hmk
  rw [← hm]
  have hm1 : m < w1.heap.size := hmk.lt
  have hmw : w.heap.size ≤ m := by omega
  clear hw1 hmm hm
  have Hk1 := hid hk1
  go_loopg [9] (j - (i + 1)) (fun k v9 wq => Fil1 w1 m i j P (fun k => Ck.partK L pr (T (Ck.ix n i k)) (T (Ck.ix n k j))) k v9 wq)
  case atStart => exact ⟨i + 1, 0, fun _ => 0, by go_num, by omega, by omega, hmk.same (g := Ck.cellF fun _ => 0) (fun z => (if_pos rfl).symm), Int.mul_nonneg (by omega) HP0.out, fun a => by rw [Nat.sub_self]; rfl, rfl, Kp.refl _ _⟩
  case round =>
    obtain ⟨q, cn, t, rfl, hq, hqj, hmt, hcn, hta, hk, hkp⟩ := hrel
    have Hk := hid hk
    have Hta := hid hta
    have Hcn := hid hcn
    clear hk hta hcn hk1 hmk
    have hkw : Kp (fun x => x = m) w wr := Hk1.out.trans hkp
    by_cases hlt : q < j
    · have hlt' : (q : Int) < (j : Int) := by omega
      have bk := H.out.k.kp hkw (fun e => by have := H.out.k.lt; omega)
      have bkc := H.out.c.kp hkw (fun e => by have := H.out.c.lt; omega)
      have hx1 := H.out.lt hq (by omega : q ≤ n)
      have hx2 := H.out.lt hlt hj
      obtain ⟨⟨m1, e1⟩, ⟨m2, e2⟩⟩ := Hfull.out q hq hlt
      have hcell1 := H.out.t _ _ e1
      have hcell2 := H.out.t _ _ e2
      have d1 := bkc.cell (Ck.ix n i q)
      have d2 := bkc.cell (Ck.ix n q j)
      rw [e1] at d1
      rw [e2] at d2
      have c5 := bk.cell 5
      have c6 := bk.cell 6
      unfold chartL at c5 c6
      simp only [List.getElem?_cons_zero, List.getElem?_cons_succ, Int.toNat_natCast] at c5 c6
      obtain ⟨one, hone⟩ : ∃ one, one = T (Ck.ix n i q) := ⟨_, rfl⟩
      obtain ⟨two, htwo⟩ : ∃ two, two = T (Ck.ix n q j) := ⟨_, rfl⟩
      obtain ⟨x1, hxe1⟩ : ∃ x1, x1 = Ck.ix n i q := ⟨_, rfl⟩
      obtain ⟨x2, hxe2⟩ : ∃ x2, x2 = Ck.ix n q j := ⟨_, rfl⟩
      obtain ⟨nn, hnn⟩ : ∃ nn, nn = n * n := ⟨_, rfl⟩
      rw [← hone] at hcell1
      rw [← htwo] at hcell2
      rw [← hxe1] at d1 hx1
      rw [← hxe2] at d2 hx2
      rw [← hnn] at c6 hx1 hx2
      have hx1' : (x1 : Int) < (nn : Int) := by omega
      have hx2' : (x2 : Int) < (nn : Int) := by omega
      have hx10 : (0 : Int) ≤ (x1 : Int) := by omega
      have hx20 : (0 : Int) ≤ (x2 : Int) := by omega
      have hm1v : ∃ n1, MapV w m1 n1 (Ck.cellF one) := by
        rcases hcell1 with ⟨e, _⟩ | ⟨m', k', e, hm'⟩
        · cases e
        · injection e with e
          injection e with e
          rw [e]
          exact ⟨_, hm'⟩
      obtain ⟨n1, hm1v⟩ := hm1v
      have hne1 : m1 ≠ m := fun e => by have := hm1v.lt; omega
      have Hone := hid hone
      have Htwo := hid htwo
      have Hx1 := hid hxe1
      have Hx2 := hid hxe2
      have Hcell2 := hid hcell2
      have Hm1v := hid hm1v
      clear hone htwo hxe1 hxe2 hcell1 hcell2 hm1v hnn e1 e2 bk bkc hx1 hx2
      go_upto_region 6 with (go_at_call 49; refine (at_yes _ b n _ _ c5 (by omega) (by omega) hn).mono ?_; rintro e wr ⟨rfl, rfl⟩; first | rw [← Hx1.out] | rw [← Hx2.out])
      go_quiet (fail)
      obtain ⟨wq, hwq⟩ : ∃ wq, wq = wr.drewN nq := ⟨_, rfl⟩
      have hkq : Kp (fun x => x = m) wr wq := by rw [hwq]; exact (Kp.refl _ _).drewN _
      have hmq : MapV wq m cn (Ck.cellF t) := by rw [hwq]; exact hmt
      rw [← hwq]
      clear hwq c5 c6 d1 d2 hx1' hx2' hx10 hx20
      have hkpq := hkp.trans hkq
      obtain ⟨w2, cr, hrun, hrg, hg2, hs2⟩ := MapV.range ((hid (Hm1v.out.kp (Hk1.out.trans hkpq) hne1)).out) _ _ Try.underlying91
      obtain ⟨r, hr⟩ : ∃ r, r = wq.heap.size := ⟨_, rfl⟩
      rw [← hr] at hrun hrg
      have hm2 := hmq.kept hg2 (by simp)
      have hkp2 := hkpq.grown hg2 (fun k e => by cases e)
      have Hrw : Hid (w1.heap.size ≤ r) := hid (by rw [hr]; exact hkpq.size)
      have hrm : r ≠ m := fun e => by have := hmq.lt; omega
      have Hbase := hid (show ∀ a, 0 ≤ Ck.sumK (fun k => Ck.partK L pr (T (Ck.ix n i k)) (T (Ck.ix n k j)) a) (i + 1) (q - (i + 1)) from fun a => Ck.sumK_nonneg (fun k => Ck.part_nonneg (Hok.out.lo _) (Hok.out.lo _) a) _ _)
      obtain ⟨base, hbase⟩ : ∃ base : Int → Int, base = fun a => Ck.sumK (fun k => Ck.partK L pr (T (Ck.ix n i k)) (T (Ck.ix n k j)) a) (i + 1) (q - (i + 1)) := ⟨_, rfl⟩
      have hta2 : ∀ a, t a = min Ck.cap (base a) := fun a => by rw [hbase]; exact Hta.out a
      have hb0 : ∀ a, 0 ≤ base a := fun a => by rw [hbase]; exact Hbase.out a
      have Hb0 := hid hb0
      have Hbase2 := hid hbase
      have Hta2 := hid hta2
      have hd0 : ∀ b : Int, ((Ck.cellF one b).isSome && !(Ck.cellF one b).isSome) = false := fun b => by cases (Ck.cellF one b).isSome <;> rfl
      have hinit : Fil2 w1 m m1 n1 r q P L pr one two base cr w2 := ⟨cn, t, fun z => (Ck.cellF one z).isSome, hrg, hm2, by
          rw [Ck.sumL_none hd0]
          have := Hcn.out
          omega, fun a => by rw [Ck.sumL_none hd0, Int.add_zero]; exact Hta2.out a, fun b h => h, hkp2⟩
      have Hinit := hid hinit
      have hr0 : w.heap.size ≤ r := by rw [hr]; exact (Hk1.out.trans hkpq).size
      have Hr0 := hid hr0
      clear hr hr0 hta2 hb0 hbase Hbase Hta hd0 hinit hrg hm2 hkp2 hg2 hs2 hmq hkq hkpq hmt hkp hkw
      go_wp2_with fail
      clear hrun
      go_loopg [16] cr (fun k v16 wq => Fil2 w1 m m1 n1 r q P L pr one two base k wq)
      case atStart => exact Hinit.out
      case round =>
        clear Hinit
        obtain ⟨cn2, t2, left, hrg, hmt, hcn, hta, hls, hkp⟩ := hrel
        rcases hrg.next 0 with ⟨h0, hl, hrun⟩ | ⟨z, v, w3, k3, hz0, hz1, hlz, hfz, hrun, hrg3, hlt3, hg3, hs3, hen⟩
        · have hdn : ∀ b, ((Ck.cellF one b).isSome && !left b) = (Ck.cellF one b).isSome := fun b => by rw [hl b]; simp
          have hcn3 : (cn2 : Int) ≤ ((q + 1 : Nat) : Int) * P := by
            have e1 := Ck.sumL_le (L := L) (g := fun b => ((pr b).length : Int)) (dn := fun b => (Ck.cellF one b).isSome && !left b) (fun b => by omega)
            have e2 := HP.out
            have e : ((q + 1 : Nat) : Int) * P = (q : Int) * P + P := by push_cast; rw [Int.add_mul, Int.one_mul]
            rw [e]; omega
          have hta3 : ∀ a, t2 a = min Ck.cap (Ck.sumK (fun k => Ck.partK L pr (T (Ck.ix n i k)) (T (Ck.ix n k j)) a) (i + 1) (q + 1 - (i + 1))) := fun a => by
            rw [hta a, show q + 1 - (i + 1) = (q - (i + 1)) + 1 by omega, Ck.sumK_succ, show i + 1 + (q - (i + 1)) = q by omega, Hbase2.out]
            congr 2
            unfold Ck.partK
            rw [← Hone.out, ← Htwo.out]
            refine Ck.sumL_congr fun b _ => ?_
            rw [hdn b]
            unfold Ck.cellF
            by_cases hz : one b = 0
            · rw [if_pos hz, hz, Ck.contr_zero]; simp
            · rw [if_neg hz]; simp
          have Hcn3 := hid hcn3
          have Hta3 := hid hta3
          clear hdn hcn3 hta3 hcn hta hls
          go_wp2_with fail
          go_roundg (j - (q + 1))
          case measure => have hk := Hk.out; omega
          case rel => exact ⟨q + 1, cn2, t2, by go_num, by omega, by omega, hmt, Hcn3.out, Hta3.out, rfl, hkp⟩
        · have hv : v = .int .i64 (one z) ∧ one z ≠ 0 := by
            unfold Ck.cellF at hfz
            split at hfz
            · cases hfz
            · injection hfz with hfz
              exact ⟨hfz.symm, by assumption⟩
          obtain ⟨rfl, hnz⟩ := hv
          have hsz : (Ck.cellF one z).isSome = true := by rw [hfz]; rfl
          have hzL : z ∈ L := Hok.out.dom (Ck.ix n i q) z (by rw [← Hone.out]; exact hnz)
          have hx0 : 0 < one z := by have := Hok.out.lo (Ck.ix n i q) z; rw [← Hone.out] at this; omega
          have hxc : one z ≤ Ck.cap := by have := Hok.out.hi (Ck.ix n i q) z; rw [← Hone.out] at this; exact this
          obtain ⟨x, hx⟩ : ∃ x, x = one z := ⟨_, rfl⟩
          rw [← hx] at hx0 hxc hrun hen
          obtain ⟨ga, cap', hsl, hpc⟩ := Hpr.out z
          have hkw3 : Kp (fun x => x = m) w1 w3 := hkp.grown hg3 (fun k e hk => by injection e with e; have := Hrw.out; omega)
          have hkww3 : Kp (fun x => x = m) w w3 := Hk1.out.trans hkw3
          have hlk := (Hmp.out.kp hkww3 (fun e => by have := Hmp.out.lt; omega)).get z hz0 hz1 _ _ Try.underlying87 (show (zeroValue 88).run Try.prog w3 = .ok (.slice none 0 0) w3 by kernel_rfl)
          rw [hsl] at hlk
          have hlen := Hp1.out z
          have hpv := Hpv.out z
          obtain ⟨ps, hps⟩ : ∃ ps, ps = pr z := ⟨_, rfl⟩
          rw [← hps] at hlk hpc hlen hpv
          have hmt3 := hmt.kept hg3 (fun e => by injection e with e; exact hrm e.symm)
          have hdz : ((Ck.cellF one z).isSome && !left z) = false := by rw [hlz]; simp
          have hflip : ∀ y, ((Ck.cellF one y).isSome && !(left y && !(y == z))) = (((Ck.cellF one y).isSome && !left y) || y == z) := fun y => by
            by_cases hy : y = z
            · subst hy; rw [hsz, hlz]; simp
            · have : (y == z) = false := by simp [hy]
              rw [this]; simp
          have hlen2 : Ck.sumL L (fun b => ((pr b).length : Int)) (fun b => (Ck.cellF one b).isSome && !(left b && !(b == z))) = Ck.sumL L (fun b => ((pr b).length : Int)) (fun b => (Ck.cellF one b).isSome && !left b) + ps.length := by
            rw [hps]; exact Ck.sumL_flip (g := fun b => ((pr b).length : Int)) hdz hflip hL hzL
          have hcon2 : ∀ a, Ck.sumL L (fun b => Ck.contr (pr b) (one b) two a) (fun b => (Ck.cellF one b).isSome && !(left b && !(b == z))) = Ck.sumL L (fun b => Ck.contr (pr b) (one b) two a) (fun b => (Ck.cellF one b).isSome && !left b) + Ck.contr ps x two a := fun a => by
            rw [hps, hx]; exact Ck.sumL_flip (g := fun b => Ck.contr (pr b) (one b) two a) hdz hflip hL hzL
          obtain ⟨BB, hBB⟩ : ∃ BB, BB = (q : Int) * P + Ck.sumL L (fun b => ((pr b).length : Int)) (fun b => (Ck.cellF one b).isSome && !left b) := ⟨_, rfl⟩
          obtain ⟨base2, hbase2⟩ : ∃ base2 : Int → Int, base2 = fun a => base a + Ck.sumL L (fun b => Ck.contr (pr b) (one b) two a) (fun b => (Ck.cellF one b).isSome && !left b) := ⟨_, rfl⟩
          have hbn : ∀ a, 0 ≤ base2 a := fun a => by
            have e1 := Hb0.out a
            have e2 : 0 ≤ Ck.sumL L (fun b => Ck.contr (pr b) (one b) two a) (fun b => (Ck.cellF one b).isSome && !left b) := Ck.sumL_nonneg fun b => Ck.contr_nonneg (by rw [Hone.out]; exact Hok.out.lo _ _) (fun z => by rw [Htwo.out]; exact Hok.out.lo _ _) a _
            rw [hbase2]; simp only; omega
          have hBm : BB ≤ 64 * P + P := by
            have e1 := Ck.sumL_le (L := L) (g := fun b => ((pr b).length : Int)) (dn := fun b => (Ck.cellF one b).isSome && !left b) (fun b => by omega)
            have e2 := HP.out
            have e3 : (q : Int) * P ≤ 64 * P := Int.mul_le_mul_of_nonneg_right (by omega) HP0.out
            rw [hBB]; omega
          have hini : Fil3 w1 m m1 n1 r (fun y => left y && !(y == z)) k3 BB base2 ps x one two ps.length (.int .i64 0) w3 :=
            ⟨0, cn2, t2, rfl, by omega, hrg3, hmt3, by rw [hBB]; omega, fun a => by rw [hta a, hbase2]; simp [Ck.contr], rfl, hkw3⟩
          have Hini := hid hini
          have Hlen2 := hid hlen2
          have Hcon2 := hid hcon2
          have HBB := hid hBB
          have HBm := hid hBm
          have Hbase3 := hid hbase2
          have Hbn := hid hbn
          have Hpc := hid hpc
          have Hpv2 := hid hpv
          have Hnz := hid hnz
          have Hlt3 := hid hlt3
          have Hls := hid hls
          have Hx := hid hx
          clear hsl hflip hdz hlen2 hcon2 hBB hBm hbase2 hbn hpc hpv hnz hlt3 hls hx hini hmt3 hkww3 hkw3 hcn hta hmt hkp hrg hrg3 hg3 hs3 hsz hzL hfz hps hlz
          have hlen' : (ps.length : Int) ≤ 9223372036854775807 := by omega
          go_wp2_with fail
          clear hrun hen hlk
          go_loopg [71] ps.length (fun k v71 wq => Fil3 w1 m m1 n1 r (fun y => left y && !(y == z)) k3 BB base2 ps x one two k v71 wq)
          case atStart => exact Hini.out
          case round =>
            clear Hini
            obtain ⟨d, c3, t3, rfl, hd, hrg, hmt, hc3, hta, hkd, hkp⟩ := hrel
            have Hkd := hid hkd
            clear hkd
            by_cases hld : d < ps.length
            · have hld' : (d : Int) < (ps.length : Int) := by omega
              have hd0 : (0 : Int) ≤ (d : Int) := by omega
              obtain ⟨p1, p2, hp⟩ : ∃ p1 p2, ps[d] = (p1, p2) := ⟨_, _, rfl⟩
              obtain ⟨v1, v2, v3, v4⟩ := Hpv2.out ps[d] (List.getElem_mem hld)
              obtain ⟨g, off, rfl, hg, e1, e2⟩ := Hpc.out d _ (List.getElem?_eq_getElem hld)
              rw [hp] at v1 v2 v3 v4 e1 e2
              simp only at v1 v2 v3 v4 e1 e2
              have hgm : g ≠ m := by omega
              have hkww := Hk1.out.trans hkp
              have e1 := hkww.cell e1 hgm
              have e2 := hkww.cell e2 hgm
              have htk := fun a => Ck.contr_take (n := x) (two := two) a hld
              rw [hp] at htk
              simp only at htk
              have hnn := Hbn.out
              have hcn0 : ∀ a, 0 ≤ Ck.contr (ps.take d) x two a := fun a => Ck.contr_nonneg (by omega) (fun z => by rw [Htwo.out]; exact Hok.out.lo _ _) a _
              have ht0 : 0 ≤ t3 p1 := by rw [hta]; have := hnn p1; have := hcn0 p1; unfold Ck.cap; omega
              have ht1 : t3 p1 ≤ Ck.cap := by rw [hta]; omega
              have hxk : Bk (wr.alloc (.cells #[.int .i64 p1, .int .i64 p2] 90)) wr.heap.size 90 [.int .i64 p1, .int .i64 p2] := Bk.new wr _ _
              have hrgx := hrg.kept (World.grownBy_alloc wr (.cells #[.int .i64 p1, .int .i64 p2] 90) none) (by simp) (by simp)
              have hmtx := hmt.kept (World.grownBy_alloc wr (.cells #[.int .i64 p1, .int .i64 p2] 90) none) (by simp)
              have hmlt : m < wr.heap.size := hmt.lt
              have hkpx := hkp.alloc (.cells #[.int .i64 p1, .int .i64 p2] 90)
              have hlk2 := (Hcell2.out.kp (Hk1.out.trans hkpx) (fun k h1 h2 => by omega)).look p2 v3 v4
              obtain ⟨y, hy⟩ : ∃ y, y = two p2 := ⟨_, rfl⟩
              have hy0 : 0 ≤ y := by rw [hy, Htwo.out]; exact Hok.out.lo _ _
              have hyc : y ≤ Ck.cap := by rw [hy, Htwo.out]; exact Hok.out.hi _ _
              rw [← hy] at htk hlk2
              have Htk := hid htk
              have Hta := hid hta
              have Hcn0 := hid hcn0
              have Hc3 := hid hc3
              clear htk hta hcn0 hnn hp hy hkww hmt hrg hkp hc3
              by_cases hyz : y = 0
              · have hyb : (y == 0) = true := by simp [hyz]
                rw [hyb] at hlk2
                have hta4 : ∀ a, t3 a = min Ck.cap (base2 a + Ck.contr (ps.take (d + 1)) x two a) := fun a => by
                  rw [Htk.out a, hyz, Int.mul_zero, Hta.out a]
                  unfold Ck.cap
                  split <;> omega
                have Hta4 := hid hta4
                clear hta4 hyb
                go_wp2_with fail
                go_roundg (ps.length - (d + 1))
                case measure => have hk := Hkd.out; omega
                case rel => exact ⟨d + 1, c3, t3, by go_num, by omega, hrgx, hmtx, by have := Hc3.out; omega, Hta4.out, rfl, hkpx⟩
              · have hyb : (y == 0) = false := by simp [hyz]
                rw [hyb] at hlk2
                have hz4 : (zeroValue 3).run Try.prog (wr.alloc (.cells #[.int .i64 p1, .int .i64 p2] 90)).drew = .ok (.int .i64 0) (wr.alloc (.cells #[.int .i64 p1, .int .i64 p2] 90)).drew := by kernel_rfl
                have hmtd : MapV (wr.alloc (.cells #[.int .i64 p1, .int .i64 p2] 90)).drew m c3 (Ck.cellF t3) := hmtx
                have hlk3 := hmtd.get p1 v1 v2 _ _ Try.underlying91 hz4
                have hgd : (Ck.cellF t3 p1).getD (.int .i64 0) = .int .i64 (t3 p1) := by
                  unfold Ck.cellF
                  split
                  · simp [*]
                  · rfl
                rw [hgd] at hlk3
                obtain ⟨tp, htp⟩ : ∃ tp, tp = t3 p1 := ⟨_, rfl⟩
                rw [← htp] at hlk3 ht0 ht1
                obtain ⟨tm, htm⟩ : ∃ tm, tm = min (x * y) Ck.cap := ⟨_, rfl⟩
                have hxy : 0 < x * y := Int.mul_pos hx0 (by omega)
                have htm0 : 0 < tm := by rw [htm]; unfold Ck.cap; omega
                have htm1 : tm ≤ Ck.cap := by rw [htm]; omega
                obtain ⟨nv, hnv⟩ : ∃ nv, nv = min (tp + tm) Ck.cap := ⟨_, rfl⟩
                have hnv0 : 0 < nv := by rw [hnv]; unfold Ck.cap; omega
                have hcmax : c3 < maxLen := by
                  have e1 := Hc3.out
                  have e2 := HBm.out
                  unfold maxLen
                  omega
                obtain ⟨w5, hup, hmt5, hg5⟩ := hmtd.put p1 (.int .i64 nv) v1 v2 hcmax _ _ Try.underlying91
                have hta4 : ∀ a, (if a = p1 then nv else t3 a) = min Ck.cap (base2 a + Ck.contr (ps.take (d + 1)) x two a) := fun a => by
                  rw [Htk.out a]
                  by_cases ha : a = p1
                  · subst ha
                    rw [if_pos rfl, if_pos rfl, hnv, htp, Hta.out a, ← htm]
                    have := Hbn.out a
                    have := Hcn0.out a
                    unfold Ck.cap
                    omega
                  · rw [if_neg ha, if_neg (fun e => ha e.symm), Int.add_zero, Hta.out a]
                have hmt6 : MapV w5 m (c3 + 1) (Ck.cellF fun a => if a = p1 then nv else t3 a) := hmt5.same fun z => by
                  by_cases hz : z = p1
                  · subst hz
                    have hnz : ¬ nv = 0 := by omega
                    simp [Ck.cellF, hnz]
                  · simp [Ck.cellF, hz]
                have hg6 : (wr.alloc (.cells #[.int .i64 p1, .int .i64 p2] 90)).grownBy w5 (some m) := gb_trans (gb_drew (World.grownBy.refl _ _)) hg5
                have hrg6 := hrgx.kept hg6 (fun e => by injection e with e; exact hne1 e) (fun e => by injection e with e; exact hrm e)
                have hkp6 := hkpx.grown hg6 (fun k e _ => by injection e with e; exact e.symm)
                have k5 := hxk.grown hg6 (fun e => by injection e with e; omega)
                have f0 := k5.cell 0
                have f1 := k5.cell 1
                have c0 := hxk.cell 0
                have c1 := hxk.cell 1
                simp only [List.getElem?_cons_zero, List.getElem?_cons_succ] at c0 c1 f0 f1
                have Hta4 := hid hta4
                have Htm := hid htm
                have Hnv := hid hnv
                have Hxy := hid hxy
                have Hcx := hid hcmax
                have Hlk2 := hid hlk2
                clear k5 hta4 htp htm hnv hyb hgd hmtd hmt5 hg5 hg6 hrgx hkpx hmtx hxk hz4 hxy hcmax hlk2
                obtain ⟨wx, hwx⟩ : ∃ wx, wx = wr.alloc (.cells #[.int .i64 p1, .int .i64 p2] 90) := ⟨_, rfl⟩
                obtain ⟨cx, hcx⟩ : ∃ cx, cx = wr.heap.size := ⟨_, rfl⟩
                have hlk2 := Hlk2.out
                go_upto_region 15 with fail
                rw [← hwx] at hlk3 hup c0 c1 ⊢
                rw [← hcx] at c0 c1 f0 f1 ⊢
                clear hwx hcx hlk2 Hlk2
                have c0d : wx.drew.cell? ⟨cx, 0, none⟩ = some (.int .i64 p1) := c0
                have c1d : wx.drew.cell? ⟨cx, 1, none⟩ = some (.int .i64 p2) := c1
                go_region_held3 (fun w' => w'.cell? ⟨cx, 0, none⟩ = some (.int .i64 p1) ∧ w'.cell? ⟨cx, 1, none⟩ = some (.int .i64 p2))
                  (first | exact ⟨‹_›, ‹_›⟩)
                  (first | (go_at_call 69; refine (ctimes_calls _ x y hx0 hy0 hxc hyc).mono ?_; rintro e w9 ⟨rfl, rfl⟩; rw [← Htm.out]) | (go_at_call 68; refine (cadd_calls _ tp tm ht0 (by omega) ht1 htm1).mono ?_; rintro e w9 ⟨rfl, rfl⟩; rw [← Hnv.out]))
                all_goals
                  go_wp2_with fail
                  all_goals
                    go_roundg (ps.length - (d + 1))
                    case measure => have hk := Hkd.out; omega
                    case rel => exact ⟨d + 1, c3 + 1, _, by go_num, by omega, hrg6, hmt6, by have := Hc3.out; omega, Hta4.out, rfl, hkp6⟩
            · have hge : ¬ (d : Int) < (ps.length : Int) := by omega
              have hde : d = ps.length := by omega
              have hc4 : (c3 : Int) ≤ (q : Int) * P + Ck.sumL L (fun b => ((pr b).length : Int)) (fun b => (Ck.cellF one b).isSome && !(left b && !(b == z))) := by
                have e1 := Hlen2.out
                have e2 := HBB.out
                rw [e1]; omega
              have hta4 : ∀ a, t3 a = min Ck.cap (base a + Ck.sumL L (fun b => Ck.contr (pr b) (one b) two a) (fun b => (Ck.cellF one b).isSome && !(left b && !(b == z)))) := fun a => by
                have e1 := Hcon2.out a
                have e2 := hta a
                rw [hde, List.take_length] at e2
                rw [e1, e2, Hbase3.out, Int.add_assoc]
              have hls2 : ∀ b, (left b && !(b == z)) = true → (Ck.cellF one b).isSome = true := fun b hb => Hls.out b (by rw [Bool.and_eq_true] at hb; exact hb.1)
              have Hc4 := hid hc4
              have Hta4 := hid hta4
              have Hls2 := hid hls2
              clear hc4 hta4 hls2 hde hta hc3
              go_wp2_with fail
              go_roundg k3
              case measure => exact Hlt3.out
              case rel => exact ⟨c3, t3, fun y => left y && !(y == z), hrg, hmt, Hc4.out, Hta4.out, Hls2.out, hkp⟩
    · have hge : ¬ (q : Int) < (j : Int) := by omega
      have hqe : q = j := by omega
      have hixj := H.out.lt (by omega : i < j) hj
      have hchart := H.out.put hkw hmw hixj hmt
      have hkf : Kp (fun x => x = bc) w (wr.setCell ⟨bc, Ck.ix n i j, none⟩ (.map (some m))) := (hkw.mono (S' := fun x => x = bc) (fun k hk e => by omega)).set (p := ⟨bc, Ck.ix n i j, none⟩) (.inl rfl) _
      have htf : t = Ck.fillV T n L pr i j := by
        funext a
        rw [Hta.out a, hqe]; rfl
      rw [htf] at hchart
      have bk := H.out.k.kp hkw (fun e => by have := H.out.k.lt; omega)
      have bkc := H.out.c.kp hkw (fun e => by have := H.out.c.lt; omega)
      have hil : Ck.ix n i j < ms.length := by rw [H.out.l]; exact hixj
      have d1 := bkc.cell (Ck.ix n i j)
      rw [List.getElem?_eq_getElem hil] at d1
      have d2 := bkc.free (Ck.ix n i j)
      have c5 := bk.cell 5
      have c6 := bk.cell 6
      unfold chartL at c5 c6
      simp only [List.getElem?_cons_zero, List.getElem?_cons_succ, Int.toNat_natCast] at c5 c6
      obtain ⟨x1, hxe1⟩ : ∃ x1, x1 = Ck.ix n i j := ⟨_, rfl⟩
      obtain ⟨nn, hnn⟩ : ∃ nn, nn = n * n := ⟨_, rfl⟩
      rw [← hnn] at c6 hixj
      rw [← hxe1] at hixj d2 hkf
      have hx1' : (x1 : Int) < (nn : Int) := by omega
      have hx10 : (0 : Int) ≤ (x1 : Int) := by omega
      obtain ⟨v1, hv1⟩ : ∃ v1, v1 = ms[Ck.ix n i j] := ⟨_, rfl⟩
      rw [← hv1, ← hxe1] at d1
      have Hx1 := hid hxe1
      have Hch := hid hchart
      have Hkf := hid hkf
      clear hxe1 hnn hchart hkf htf hqe hil hixj bk bkc hmt hkp hv1
      go_wp2_with (go_at_call 49; refine (at_yes _ b n _ _ c5 (by omega) (by omega) hn).mono ?_; rintro e wr ⟨rfl, rfl⟩; rw [← Hx1.out])
      go_end0
      exact ⟨rfl, Hkf.out, m, hmw, by rw [Hx1.out]; exact Hch.out⟩
end Go.Proofs.Ytbpgolmbielpgaa
