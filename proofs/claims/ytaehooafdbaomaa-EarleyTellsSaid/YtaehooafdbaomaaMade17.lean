/- Chapter 17: made: walk. -/
import Derived.Test.YtaehooafdbaomaaMadeC
namespace Go.Proofs.Ytaehooafdbaomaa
open Go.RowKit
attribute [local go_sem ↓] Go.wp_at_zero Go.wp_at_succ
attribute [local go_sem] frozen_alloc_lt
theorem made_end17 {w0 we wr0 wc wr W5 : World} {b b1 b2 b' N T : Nat} {st : Int} {x : RawD} {ps : List (Int × List Int)} {gn gt gp g1 g2 gq : Option Addr} {cn ct cp c1 c2 cq : Nat}
    (hst : st = Mk.md x.start N) (hps : ps = Mk.prodsL N T 12 4 x N) (h1 : 1 ≤ N) (hN8 : N ≤ 4) (hT3 : T ≤ 3) (hpl : ps.length ≤ 192) (hbo : b = we.heap.size) (hb1o : b1 = w0.heap.size + 1) (hb2o : b2 = w0.heap.size + 1 + 1) (hsd : we.heap.size = w0.heap.size + 1 + 1 + 1)
    (hb'o : wr0.heap.size ≤ b') (hlb : b < wr0.heap.size) (hlb' : b' < wc.heap.size) (hbd : Below w0.heap.size w0 we) (hbr : Below we.heap.size we wr0) (hkw : Kp (fun _ => False) wr0 wc) (hkp : Kp (fun k => k = b') wc wr) (hkW : Kp (fun k => k = b1 ∨ k = b2) wr W5)
    (t1 : ∀ (k : Nat) (cs : Array Value), k = b' → wc.heap[k]? ≠ some (.cells cs 9)) (t2 : ∀ (k : Nat) (cs : Array Value), (k = b1 ∨ k = b2) → wr.heap[k]? ≠ some (.cells cs 9))
    (r1 : CpRow wc 9 g1 (Mk.letters 65 N)) (r2 : CpRow wc 9 g2 (Mk.letters 97 T)) (hop : PrOwn wr wc.heap.size 97 3 (.slice gq ps.length cq) ps)
    (hg : Gg wr0 b 33 9 103 3 ⟨st, N, Mk.letters 65 N, Mk.letters 97 T, ps⟩ (.slice gn N cn) (.slice gt T ct) (.slice gp ps.length cp)) :
    MadePost w0 (Mk.gram N T 12 4 x) (.returned (.tuple #[.agg #[.int .i64 st, .int .i64 N, .slice g1 N c1, .slice g2 T c2, .slice gq ps.length cq], .agg #[.int .i64 st, .int .i64 N, .slice gn N cn, .slice gt T ct, .slice gp ps.length cp]])) W5 := by
  have hGe : Mk.gram N T 12 4 x = ⟨st, N, Mk.letters 65 N, Mk.letters 97 T, ps⟩ := by
    unfold Mk.gram
    rw [← hst, ← hps]
  rw [hGe]
  have hwr0 := hkp.size
  have hz1 := hbd.size
  have hz2 := hbr.size
  have hz3 := hkw.size
  have R1 := ((r1.kp hkp t1).kp hkW t2).rows
  have R2 := ((r2.kp hkp t1).kp hkW t2).rows
  have Q1 := hop.kp hkW (fun g hg e => by
    obtain ⟨xs, hx⟩ := hop.own
    have := (World.ownsRow.lt hx g hg).1
    omega) (fun u n' xs hu g hg e => by
    have := (World.ownsRow.lt hu g hg).1
    omega)
  obtain ⟨ga, ca, hva, R3⟩ := Q1.rows
  simp only [Value.slice.injEq] at hva
  obtain ⟨rfl, -, rfl⟩ := hva
  have K3 := ((hkw.mono (S' := fun k => k = b' ∨ k = b1 ∨ k = b2) fun _ _ h => h.elim).trans (hkp.mono fun _ _ h => .inl h)).trans (hkW.mono fun _ _ h => .inr h)
  have hap : ∀ {e : TypeId} {z n : Nat} {u : Value} {xs : List Value}, wr0.ownsRow (b + 1) e z u n xs → ∀ g, u.ownBlock = some g → ¬ (g = b' ∨ g = b1 ∨ g = b2) := fun hx g hg e => by
    have := World.ownsRow.lt hx g hg
    omega
  obtain ⟨gA, cA, hvA, R4⟩ := own_rowS (own_kp hg.n K3 (hap hg.n))
  simp only [Value.slice.injEq] at hvA
  obtain ⟨rfl, -, rfl⟩ := hvA
  obtain ⟨gB, cB, hvB, R5⟩ := own_rowS (own_kp hg.t K3 (hap hg.t))
  simp only [Value.slice.injEq] at hvB
  obtain ⟨rfl, -, rfl⟩ := hvB
  have Q2 := hg.p.kp K3 (fun g hg' => by
    obtain ⟨xs, hx⟩ := hg.p.own
    exact hap hx g hg') (fun u n' xs hu g hg' => hap hu g hg')
  obtain ⟨gC, cC, hvC, R6⟩ := Q2.rows
  simp only [Value.slice.injEq] at hvC
  obtain ⟨rfl, -, rfl⟩ := hvC
  have hrow6 : ∀ y ∈ ps, y.2.length ≤ 9223372036854775807 := fun y hy => by
    rw [hps] at hy
    have := Mk.prodsL_row hy
    omega
  have gi : ∀ {gn gt gp : Option Addr}, RowS W5 W5.heap.size gn (Mk.letters 65 N) → RowS W5 W5.heap.size gt (Mk.letters 97 T) → RowP W5 W5.heap.size gp ps → GIn W5 ⟨st, N, Mk.letters 65 N, Mk.letters 97 T, ps⟩ gn gt gp :=
    fun h1 h2 h3 => ⟨h1, h2, h3, by simp only [Mk.letters_length]; omega, by simp only [Mk.letters_length]; omega, by show ps.length ≤ _; omega, hrow6⟩
  refine ⟨g1, g2, gq, gn, gt, gp, c1, c2, cq, cn, ct, cp, ?_, gi R1 R2 R3, gi R4 R5 R6, hbd.trans ((hbr.mono hz1).trans ((hkw.to_below (by omega) (fun _ h => h.elim)).trans ((hkp.to_below (by omega) (fun k e => by omega)).trans (hkW.to_below (by omega) (fun k e => by omega)))))⟩
  unfold gramV
  simp only [Mk.letters_length]

set_option maxHeartbeats 8000000 in
set_option maxRecDepth 8000 in
theorem made17_calls (x : RawD) (gl gr : Option Addr) (cl cr : Nat) (w : World) (hl : RowI w w.heap.size gl x.left) (hr : RowII w w.heap.size gr x.right) (hl1 : x.left.length ≤ 9223372036854775807) (hr1 : x.right.length ≤ 9223372036854775807)
    (hr2 : ∀ zs ∈ x.right, zs.length ≤ 9223372036854775807) :
    Calls Try.prog 41 #[.agg #[.int .i64 x.n, .int .i64 x.t, .int .i64 x.start, .slice gl x.left.length cl, .slice gr x.right.length cr]] w fun e w' => ∃ N T : Nat, 1 ≤ N ∧ N ≤ 4 ∧ T ≤ 3 ∧ MadePost w (Mk.gram N T 12 4 x) e w' := by
  obtain ⟨w0, hw0⟩ : ∃ w0, w0 = w := ⟨_, rfl⟩
  have Hw0 := hid hw0
  clear hw0
  obtain ⟨m, hm, hand⟩ := and3 x.n
  obtain ⟨ii, hii, i0, i1, i2⟩ := info_parts intInfo
  obtain ⟨T, hT, hand3⟩ := and3 x.t
  go_enter Try.func41, Try.ntmps41
  go_upto_region 1 with fail
  have k0 := ((Bk.new w 75 [.int .i64 x.n, .int .i64 x.t, .int .i64 x.start, .slice gl x.left.length cl, .slice gr x.right.length cr]).alloc (.cells #[.int .i64 0, .int .i64 0, .slice none 0 0, .slice none 0 0, .slice none 0 0] 30)).alloc (.cells #[.int .i64 0, .int .i64 0, .slice none 0 0, .slice none 0 0, .slice none 0 0] 33)
  have k1 := bk_at ((Bk.new (w.alloc (.cells #[.int .i64 x.n, .int .i64 x.t, .int .i64 x.start, .slice gl x.left.length cl, .slice gr x.right.length cr] 75)) 30 [.int .i64 0, .int .i64 0, .slice none 0 0, .slice none 0 0, .slice none 0 0]).alloc (.cells #[.int .i64 0, .int .i64 0, .slice none 0 0, .slice none 0 0, .slice none 0 0] 33)) (b' := w.heap.size + 1) (by simp)
  have k2 := bk_at (Bk.new ((w.alloc (.cells #[.int .i64 x.n, .int .i64 x.t, .int .i64 x.start, .slice gl x.left.length cl, .slice gr x.right.length cr] 75)).alloc (.cells #[.int .i64 0, .int .i64 0, .slice none 0 0, .slice none 0 0, .slice none 0 0] 30)) 33 [.int .i64 0, .int .i64 0, .slice none 0 0, .slice none 0 0, .slice none 0 0]) (b' := w.heap.size + 1 + 1) (by simp)
  have hbd : Below w.heap.size w (((w.alloc (.cells #[.int .i64 x.n, .int .i64 x.t, .int .i64 x.start, .slice gl x.left.length cl, .slice gr x.right.length cr] 75)).alloc (.cells #[.int .i64 0, .int .i64 0, .slice none 0 0, .slice none 0 0, .slice none 0 0] 30)).alloc (.cells #[.int .i64 0, .int .i64 0, .slice none 0 0, .slice none 0 0, .slice none 0 0] 33)) := (((Below.refl _ w).alloc (Nat.le_refl _) _).alloc (by simp) _).alloc (by simp; omega) _
  have hsd : (((w.alloc (.cells #[.int .i64 x.n, .int .i64 x.t, .int .i64 x.start, .slice gl x.left.length cl, .slice gr x.right.length cr] 75)).alloc (.cells #[.int .i64 0, .int .i64 0, .slice none 0 0, .slice none 0 0, .slice none 0 0] 30)).alloc (.cells #[.int .i64 0, .int .i64 0, .slice none 0 0, .slice none 0 0, .slice none 0 0] 33)).heap.size = w.heap.size + 1 + 1 + 1 := by simp
  obtain ⟨wd, hwd⟩ : ∃ wd, wd = (((w.alloc (.cells #[.int .i64 x.n, .int .i64 x.t, .int .i64 x.start, .slice gl x.left.length cl, .slice gr x.right.length cr] 75)).alloc (.cells #[.int .i64 0, .int .i64 0, .slice none 0 0, .slice none 0 0, .slice none 0 0] 30)).alloc (.cells #[.int .i64 0, .int .i64 0, .slice none 0 0, .slice none 0 0, .slice none 0 0] 33)) := ⟨_, rfl⟩
  rw [← hwd] at k0 k1 k2 hbd hsd ⊢
  obtain ⟨bx, hbx⟩ : ∃ bx, bx = w.heap.size := ⟨_, rfl⟩
  obtain ⟨b1, hb1⟩ : ∃ b1, b1 = w.heap.size + 1 := ⟨_, rfl⟩
  obtain ⟨b2, hb2⟩ : ∃ b2, b2 = w.heap.size + 1 + 1 := ⟨_, rfl⟩
  rw [← hbx] at k0
  rw [← hb1] at k1
  rw [← hb2] at k2
  rw [← hb2, ← hb1, ← hbx]
  have c0 := k0.cell 0
  have c1 := k0.cell 1
  have c2 := k0.cell 2
  simp only [List.getElem?_cons_zero, List.getElem?_cons_succ] at c0 c1 c2
  have hT3 : (T : Int) ≤ 3 := by omega
  have hm7 : (m : Int) ≤ 7 := by omega
  have hm0 : (0 : Int) ≤ (m : Int) := by omega
  have hT0 : (0 : Int) ≤ (T : Int) := by omega
  have Hbx := hid hbx
  have Hb1 := hid hb1
  have Hb2 := hid hb2
  have Hsd := hid hsd
  clear hwd hbx hb1 hb2 hsd
  go_quiet (fail)
  rename_i nq
  have k0 := k0.drewN nq
  have k1 := k1.drewN nq
  have k2 := k2.drewN nq
  have hbd := below_drewN hbd nq
  have Hsd : Hid ((wd.drewN nq).heap.size = w.heap.size + 1 + 1 + 1) := hid Hsd.out
  generalize wd.drewN nq = we at k0 k1 k2 hbd Hsd ⊢
  clear c0 c1 c2
  have c2 := k0.cell 2
  simp only [List.getElem?_cons_zero, List.getElem?_cons_succ] at c2
  obtain ⟨N, hN⟩ : ∃ N : Nat, N = 1 + m := ⟨_, rfl⟩
  have hNm : (1 : Int) + (m : Int) = (N : Int) := by omega
  rw [hNm]
  have hN8 : (N : Int) ≤ 8 := by omega
  have hN1 : (1 : Int) ≤ (N : Int) := by omega
  have hNz : ¬ (N : Int) = 0 := by omega
  have HN := hid hN
  clear hN hNm hand hand3
  have hq0 : -8 < x.start.tmod (N : Int) := by have := Int.lt_tmod_of_pos x.start (show (0 : Int) < N by omega); omega
  have hq1 : x.start.tmod (N : Int) < 8 := by have := Int.tmod_lt_of_pos x.start (show (0 : Int) < N by omega); omega
  go_upto_region 4 with fail
  obtain ⟨st, hst⟩ : ∃ st, st = (x.start.tmod (N : Int) + (N : Int)).tmod (N : Int) := ⟨_, rfl⟩
  rw [← hst]
  have hst' : st = Mk.md x.start N := hst
  have Hst := hid hst'
  have hg0 : Gg (we.alloc (.cells #[.int .i64 st, .int .i64 (N : Int), .slice none 0 0, .slice none 0 0, .slice none 0 0] 33)) we.heap.size 33 9 103 3 ⟨st, N, Mk.letters 65 0, [], []⟩ (.slice none 0 0) (.slice none 0 0) (.slice none 0 0) :=
    ⟨Bk.new we _ [.int .i64 st, .int .i64 (N : Int), .slice none 0 0, .slice none 0 0, .slice none 0 0], World.ownsRow_nil _ _ _ _, World.ownsRow_nil _ _ _ _, PrOwn.nil _ _ _ _, fun g hg => by simp [Value.ownBlock] at hg⟩
  have hbe : Below we.heap.size we (we.alloc (.cells #[.int .i64 st, .int .i64 (N : Int), .slice none 0 0, .slice none 0 0, .slice none 0 0] 33)) := (Below.refl _ we).alloc (Nat.le_refl _) _
  obtain ⟨b, hb⟩ : ∃ b, b = we.heap.size := ⟨_, rfl⟩
  have Hb := hid hb
  rw [← hb] at hg0 ⊢
  obtain ⟨wf, hwf⟩ : ∃ wf, wf = (we.alloc (.cells #[.int .i64 st, .int .i64 (N : Int), .slice none 0 0, .slice none 0 0, .slice none 0 0] 33)) := ⟨_, rfl⟩
  rw [← hwf] at hg0 hbe ⊢
  clear hwf hb hst hst' c2
  go_loopg [7] N (fun k v7 wr => MadeN we b N st k v7 wr)
  case atStart => exact ⟨0, _, rfl, by omega, hg0, rfl, hbe⟩
  case round =>
    clear hg0 hbe
    obtain ⟨i, vn, rfl, hi, hg, hk, hbr⟩ := hrel
    have Hk := hid hk
    clear hk
    have hlb := hg.k.lt
    by_cases hlt : i < N
    ·--(
      have hlt' : (i : Int) < (N : Int) := by omega
      have hi8 : (i : Int) ≤ 8 := by omega
      have hi0 : (0 : Int) ≤ (i : Int) := by omega
      have c2 := hg.k.cell 2
      simp only [List.getElem?_cons_zero, List.getElem?_cons_succ] at c2
      obtain ⟨s, hs⟩ : ∃ s : ByteArray, s = ⟨#[UInt8.ofNat (65 + i)]⟩ := ⟨_, rfl⟩
      have hx1 : ((UInt8.ofNat (65 + i)).toNat : Int) = 65 + (i : Int) := by
        rw [UInt8.toNat_ofNat_of_lt' (by show 65 + i < 256; omega)]
        omega
      have hcv : (convert 102 9 (.slice (some ⟨wr.heap.size, 0, none⟩) 1 1)).run Try.prog (wr.alloc (.cells #[.int .u8 (65 + (i : Int))] 5)) = .ok (.string s) (wr.alloc (.cells #[.int .u8 (65 + (i : Int))] 5)) := by
        have h := run_convert_bytes_back (P := Try.prog) (wr.alloc (.cells #[.int .u8 (65 + (i : Int))] 5)) 102 9 _ ⟨wr.heap.size, 0, none⟩ 1 [UInt8.ofNat (65 + i)] Try.underlying102 Try.underlying5 Try.underlying9 (fun j hj => by
          have hbk := Bk.new wr 5 [.int .u8 (65 + (i : Int))]
          rw [add_off0 _ rfl]
          simp only [Nat.zero_add]
          match j, hj with
          | 0, _ => rw [hbk.cell 0]; simp only [List.getElem?_cons_zero, List.getElem_cons_zero, hx1])
        rw [hs]
        exact h
      have hba : Below wr.heap.size wr (wr.alloc (.cells #[.int .u8 (65 + (i : Int))] 5)) := (Below.refl _ wr).alloc (Nat.le_refl _) _
      have hsz : (wr.alloc (.cells #[.int .u8 (65 + (i : Int))] 5)).heap.size = wr.heap.size + 1 := by simp
      obtain ⟨g2, cap2, w2, hrun, d2, f2, hg2, hb2, hl2⟩ := hg.name ggTyR hba (by simp [Mk.letters_length]; omega) s
      rw [show (Mk.letters 65 i).length = i from Mk.letters_length 65 i] at hrun hg2 hb2 hl2
      obtain ⟨wa, hwa⟩ : ∃ wa, wa = wr.alloc (.cells #[.int .u8 (65 + (i : Int))] 5) := ⟨_, rfl⟩
      rw [← hwa] at hrun hsz
      rw [hsz] at hrun
      have Hwa := hid hwa
      have Hrun := hid hrun
      have Hs := hid hs
      have Hg2 := hid hg2
      clear hs hx1 hg hba hsz hwa hrun hg2
      go_wp2_with (at_builtin; rw [← Hwa.out]; refine wpList_append_run rfl _ _ _ rfl vn (.slice (some ⟨wr.heap.size + 1, 0, none⟩) 1 1) (.slice (some ⟨g2, 0, none⟩) (i + 1) cap2) w2 (by rfl) (by rfl) (by exact Hrun.out) ?_)
      go_roundg (N - (i + 1))
      case measure => have hk := Hk.out; omega
      case rel =>
        refine ⟨i + 1, .slice (some ⟨g2, 0, none⟩) (i + 1) cap2, by go_num, by omega, ?_, rfl, ?_⟩
        · have h := Hg2.out
          rw [Hs.out] at h
          rw [Mk.letters_succ]
          exact h
        · exact hbr.trans (hb2.mono (by have := Hb.out; omega))
      --)
    · have hge : ¬ (i : Int) < (N : Int) := by omega
      have hiN : i = N := by omega
      clear hlt
      rw [hiN] at hg hi hge ⊢
      clear hiN
      go_wp2_with fail
      clear hlb
      go_loopg [8] T (fun k v8 wr => MadeT we b N T st vn k v8 wr)
      case atStart => exact ⟨0, _, rfl, by omega, hg, rfl, hbr⟩
      case round =>
        clear hg hbr Hk hi hge
        obtain ⟨i, vt, rfl, hi, hg, hk, hbr⟩ := hrel
        have Hk := hid hk
        clear hk
        have hlb := hg.k.lt
        by_cases hlt : i < T
        ·--(
          have hlt' : (i : Int) < (T : Int) := by omega
          have hi8 : (i : Int) ≤ 8 := by omega
          have hi0 : (0 : Int) ≤ (i : Int) := by omega
          have c3 := hg.k.cell 3
          simp only [List.getElem?_cons_zero, List.getElem?_cons_succ] at c3
          obtain ⟨s, hs⟩ : ∃ s : ByteArray, s = ⟨#[UInt8.ofNat (97 + i)]⟩ := ⟨_, rfl⟩
          have hx1 : ((UInt8.ofNat (97 + i)).toNat : Int) = 97 + (i : Int) := by
            rw [UInt8.toNat_ofNat_of_lt' (by show 97 + i < 256; omega)]
            omega
          have hcv : (convert 102 9 (.slice (some ⟨wr.heap.size, 0, none⟩) 1 1)).run Try.prog (wr.alloc (.cells #[.int .u8 (97 + (i : Int))] 5)) = .ok (.string s) (wr.alloc (.cells #[.int .u8 (97 + (i : Int))] 5)) := by
            have h := run_convert_bytes_back (P := Try.prog) (wr.alloc (.cells #[.int .u8 (97 + (i : Int))] 5)) 102 9 _ ⟨wr.heap.size, 0, none⟩ 1 [UInt8.ofNat (97 + i)] Try.underlying102 Try.underlying5 Try.underlying9 (fun j hj => by
              have hbk := Bk.new wr 5 [.int .u8 (97 + (i : Int))]
              rw [add_off0 _ rfl]
              simp only [Nat.zero_add]
              match j, hj with
              | 0, _ => rw [hbk.cell 0]; simp only [List.getElem?_cons_zero, List.getElem_cons_zero, hx1])
            rw [hs]
            exact h
          have hba : Below wr.heap.size wr (wr.alloc (.cells #[.int .u8 (97 + (i : Int))] 5)) := (Below.refl _ wr).alloc (Nat.le_refl _) _
          have hsz : (wr.alloc (.cells #[.int .u8 (97 + (i : Int))] 5)).heap.size = wr.heap.size + 1 := by simp
          obtain ⟨g2, cap2, w2, hrun, d2, f2, hg2, hb2, hl2⟩ := hg.term ggTyR hba (by simp [Mk.letters_length]; omega) s
          rw [show (Mk.letters 97 i).length = i from Mk.letters_length 97 i] at hrun hg2 hb2 hl2
          obtain ⟨wa, hwa⟩ : ∃ wa, wa = wr.alloc (.cells #[.int .u8 (97 + (i : Int))] 5) := ⟨_, rfl⟩
          rw [← hwa] at hrun hsz
          rw [hsz] at hrun
          have Hwa := hid hwa
          have Hrun := hid hrun
          have Hs := hid hs
          have Hg2 := hid hg2
          clear hs hx1 hg hba hsz hwa hrun hg2
          go_wp2_with (at_builtin; rw [← Hwa.out]; refine wpList_append_run rfl _ _ _ rfl vt (.slice (some ⟨wr.heap.size + 1, 0, none⟩) 1 1) (.slice (some ⟨g2, 0, none⟩) (i + 1) cap2) w2 (by rfl) (by rfl) (by exact Hrun.out) ?_)
          go_roundg (T - (i + 1))
          case measure => have hk := Hk.out; omega
          case rel =>
            refine ⟨i + 1, .slice (some ⟨g2, 0, none⟩) (i + 1) cap2, by go_num, by omega, ?_, rfl, ?_⟩
            · have h := Hg2.out
              rw [Hs.out] at h
              rw [Mk.letters_succ]
              exact h
            · exact hbr.trans (hb2.mono (by have := Hb.out; omega))
          --)
        · have hge : ¬ (i : Int) < (T : Int) := by omega
          have hiT : i = T := by omega
          clear hlt
          rw [hiT] at hg hi hge ⊢
          clear hiT
          go_wp2_with fail
          clear hlb
          go_loopg [9] N (fun k v9 wr => MadeL we b N T 12 4 st vn vt x k v9 wr)
          case atStart => exact ⟨0, _, rfl, by omega, hg, rfl, hbr⟩
          case round =>
            clear hg hbr Hk hi hge
            obtain ⟨l, vp, rfl, hl8, hg, hk, hbr⟩ := hrel
            have Hk := hid hk
            clear hk
            by_cases hlt : l < N
            ·--(
              have hlt' : (l : Int) < (N : Int) := by omega
              go_wp2_with fail
              go_loopg [10] (Mk.cnt 12 x) (fun k v10 wr => MadeI we b N T 12 4 st vn vt x l k v10 wr)
              case atStart => exact ⟨0, _, rfl, by omega, by simpa [Mk.prodsI] using hg, rfl, hbr⟩
              case round =>
                clear hg hbr
                obtain ⟨i, vp, rfl, hi, hg, hk, hbr⟩ := hrel
                have Hki := hid hk
                clear hk
                have hkx := k0.below hbr k0.lt
                have c3 := hkx.cell 3
                have c4 := hkx.cell 4
                simp only [List.getElem?_cons_zero, List.getElem?_cons_succ] at c3 c4
                by_cases hic : i < Mk.cnt 12 x
                · have hcd : i < x.left.length ∧ i < x.right.length ∧ i < 12 := by unfold Mk.cnt at hic; omega
                  have hi1 : (i : Int) < (x.left.length : Int) := by omega
                  have hi2 : (i : Int) < (x.right.length : Int) := by omega
                  have hi3 : (i : Int) < 12 := by omega
                  have hi0 : (0 : Int) ≤ (i : Int) := by omega
                  have hbw : Below w.heap.size w wr := hbd.trans (hbr.mono hbd.size)
                  obtain ⟨g1, o1, rfl, hg1, hcl⟩ := hl.at hcd.1
                  obtain ⟨z, hz⟩ : ∃ z, z = x.left[i]'hcd.1 := ⟨_, rfl⟩
                  have hzd : x.left.getD i 0 = z := by rw [hz]; simp [List.getD, List.getElem?_eq_getElem hcd.1]
                  rw [← hz] at hcl
                  have hcw : wr.cell? ⟨g1, o1 + i, none⟩ = some (.int .i64 z) := (hbw.cell (p := ⟨g1, o1 + i, none⟩) hg1).trans hcl
                  have hz0 : -8 < z.tmod (N : Int) := by have := Int.lt_tmod_of_pos z (show (0 : Int) < N by omega); omega
                  have hz1 : z.tmod (N : Int) < 8 := by have := Int.tmod_lt_of_pos z (show (0 : Int) < N by omega); omega
                  have Hzd := hid hzd
                  clear hz hzd hcl
                  rcases Bool.eq_false_or_eq_true ((z.tmod (N : Int) + (N : Int)).tmod (N : Int) == (l : Int)) with hq | hq
                  · have hpa : Mk.prodAt N T 4 x l i = [((l : Int), Mk.rowS N T 4 (x.right.getD i []))] := by
                      unfold Mk.prodAt
                      rw [Hzd.out, if_pos (by simpa [Mk.md] using hq)]
                    have Hpa := hid hpa
                    obtain ⟨g2, o2, ga2, cap2, rfl, hg2, hc2, hrr⟩ := hr.at hcd.2.1
                    obtain ⟨zs, hzs⟩ : ∃ zs, zs = x.right[i]'hcd.2.1 := ⟨_, rfl⟩
                    have hzl : zs.length ≤ 9223372036854775807 := by rw [hzs]; exact hr2 _ (List.getElem_mem hcd.2.1)
                    rw [← hzs] at hc2 hrr
                    have hzsd : x.right.getD i [] = zs := by rw [hzs]; simp [List.getD, List.getElem?_eq_getElem hcd.2.1]
                    have Hzs := hid hzsd
                    clear hpa hzs hzsd
                    have hcw2 : wr.cell? ⟨g2, o2 + i, none⟩ = some (.slice ga2 zs.length cap2) := (hbw.cell (p := ⟨g2, o2 + i, none⟩) hg2).trans hc2
                    go_wp2_with fail
                    obtain ⟨qb, hqb⟩ : ∃ qb : Bool, qb = ((z.tmod (N : Int) + (N : Int)).tmod (N : Int) != (l : Int)) := ⟨_, rfl⟩
                    rw [← hqb]
                    clear hq hqb
                    go_loopg [11, 12] (min zs.length 4) (fun k v11 v12 wq => MadeR wr N T 4 zs k v11 v12 wq)
                    case atStart => exact ⟨0, _, rfl, rfl, by omega, by simpa [Mk.rowS] using World.ownsRow_nil _ _ _ _, rfl, Below.refl _ _⟩
                    case round =>
                      clear hcw hcw2 c3 c4
                      obtain ⟨j, vr, rfl, rfl, hj, hown, hk, hbq⟩ := hrel
                      have Hkj := hid hk
                      clear hk
                      have hkq := hkx.below hbq hkx.lt
                      have c4 := hkq.cell 4
                      simp only [List.getElem?_cons_zero, List.getElem?_cons_succ] at c4
                      have hbw2 : Below w.heap.size w wr := hbw.trans (hbq.mono hbw.size)
                      have hcr : wr.cell? ⟨g2, o2 + i, none⟩ = some (.slice ga2 zs.length cap2) := (hbw2.cell (p := ⟨g2, o2 + i, none⟩) hg2).trans hc2
                      by_cases hj2 : j < min zs.length 4
                      · have hj3 : (j : Int) < (zs.length : Int) := by omega
                        have hj4 : (j : Int) < 4 := by omega
                        have hj0 : (0 : Int) ≤ (j : Int) := by omega
                        have hjz : j < zs.length := by omega
                        obtain ⟨g3, o3, rfl, hg3, hc3⟩ := hrr.at hjz
                        obtain ⟨y, hy⟩ : ∃ y, y = zs[j] := ⟨_, rfl⟩
                        rw [← hy] at hc3
                        have hyd : zs.getD j 0 = y := by rw [hy]; simp [List.getD, List.getElem?_eq_getElem hjz]
                        have hcy : wr.cell? ⟨g3, o3 + j, none⟩ = some (.int .i64 y) := (hbw2.cell (p := ⟨g3, o3 + j, none⟩) hg3).trans hc3
                        have hNT : (0 : Int) < (N : Int) + (T : Int) := by omega
                        have hNTz : ¬ ((N : Int) + (T : Int)) = 0 := by omega
                        have hNT1 : (N : Int) + (T : Int) ≤ 11 := by omega
                        have hy0 : -11 < y.tmod ((N : Int) + (T : Int)) := by have := Int.lt_tmod_of_pos y hNT; omega
                        have hy1 : y.tmod ((N : Int) + (T : Int)) < 11 := by have := Int.tmod_lt_of_pos y hNT; omega
                        have hs0 : 0 ≤ (y.tmod ((N : Int) + (T : Int)) + (N : Int) + (T : Int)).tmod ((N : Int) + (T : Int)) := Int.tmod_nonneg _ (by have := Int.lt_tmod_of_pos y hNT; omega)
                        have hs1 : (y.tmod ((N : Int) + (T : Int)) + (N : Int) + (T : Int)).tmod ((N : Int) + (T : Int)) < 11 := by have := Int.tmod_lt_of_pos (y.tmod ((N : Int) + (T : Int)) + (N : Int) + (T : Int)) hNT; omega
                        have hrl : (Mk.rowS (N : Int) (T : Int) j zs).length = j := by simp [Mk.rowS]; omega
                        obtain ⟨g4, cap4, w4, hrun, hown4, hk4, hg4, hl4⟩ := int_app (P := Try.prog) hown 22 22 ii Try.underlying22 hii i0 i1 i2 hbq.size (by omega) (Mk.sym N T y) 0
                        rw [hrl] at hrun hown4
                        have hrun2 : (Builtin.append_ #[22, 22] 22 #[vr, .slice (some ⟨wr.heap.size, 0, none⟩) 1 1]).run Try.prog (wr.alloc (.cells #[.int .i64 ((y.tmod ((N : Int) + (T : Int)) + (N : Int) + (T : Int)).tmod ((N : Int) + (T : Int)) - (T : Int))] 3)) = .ok (.slice (some ⟨g4, 0, none⟩) (j + 1) cap4) w4 := hrun
                        have hbq4 : Below _ _ w4 := hbq.trans (hk4.to_below (B := _) hbq.size (fun k e => (hown.lt k e).1))
                        have Hown4 := hid hown4
                        have Hyd := hid hyd
                        have Hrun2 := hid hrun2
                        clear hy hyd hc3 hrun hrun2 hown4 hown
                        go_wp2_with (at_builtin; refine wpList_append_run rfl _ _ _ rfl vr (.slice (some ⟨wr.heap.size, 0, none⟩) 1 1) (.slice (some ⟨g4, 0, none⟩) (j + 1) cap4) w4 (by rfl) (by rfl) (by exact Hrun2.out) ?_)
                        go_roundg (min zs.length 4 - (j + 1))
                        case measure => have hk := Hkj.out; omega
                        case rel =>
                          refine ⟨j + 1, .slice (some ⟨g4, 0, none⟩) (j + 1) cap4, rfl, by go_num, by omega, ?_, rfl, hbq4⟩
                          have h := Hown4.out
                          rw [Mk.rowS_succ _ _ _ _ (by omega), Hyd.out, List.length_append, hrl]
                          rw [List.length_append, hrl] at h
                          exact h
                      · have hjm : j = min zs.length 4 := by omega
                        have hre : Mk.rowS (N : Int) (T : Int) j zs = Mk.rowS (N : Int) (T : Int) 4 zs := by
                          unfold Mk.rowS
                          rw [hjm]
                          congr 1
                          rcases Nat.le_total zs.length 4 with h | h
                          · rw [Nat.min_eq_left h, List.take_of_length_le h, List.take_of_length_le (Nat.le_refl _)]
                          · rw [Nat.min_eq_right h]
                        rw [hre] at hown
                        have hgq := hg.later hbq
                        have hrb : b + 1 ≤ wr.heap.size := by have := hgq.k.lt; omega
                        have hlb : b + 1 ≤ _ := hg.k.lt
                        obtain ⟨g5, cap5, w5, hrun, d4, f4, hg5, hb5, hl5⟩ := hgq.prod ggTyR (Below.refl _ _) (by
                          rw [List.length_append]
                          have h1 := Mk.prodsL_length N T 12 4 x l
                          have h2 := Mk.prodsI_length N T 4 x l i
                          have h3 : l * 12 ≤ 8 * 12 := Nat.mul_le_mul_right _ (by omega)
                          omega) ((l : Int), Mk.rowS N T 4 zs) vr (own_mono hown hlb)
                        obtain ⟨gv, cv, rfl, -⟩ := own_slice hown
                        obtain ⟨nv, hnv⟩ : ∃ nv, nv = (Mk.rowS (N : Int) (T : Int) 4 zs).length := ⟨_, rfl⟩
                        rw [← hnv] at hrun ⊢
                        clear hnv
                        obtain ⟨q, hq0⟩ : ∃ q, q = (Mk.prodsL (N : Int) (T : Int) 12 4 x l ++ Mk.prodsI (N : Int) (T : Int) 4 x l i).length := ⟨_, rfl⟩
                        simp only at hrun hg5 hb5 hl5
                        rw [← hq0] at hrun hg5 hb5 hl5
                        have d4a := hgq.k.cell 4
                        simp only [List.getElem?_cons_zero, List.getElem?_cons_succ] at d4a
                        have Hrun := hid hrun
                        have Hg5 := hid hg5
                        have Hb5 := hid hb5
                        have Hre := hid hre
                        have Hjm := hid hjm
                        have Hbq := hid hbq
                        clear hown hgq hg hrun hg5 hb5 hre hjm hq0 hbq hj
                        rcases Nat.lt_or_ge j zs.length with hjz | hjz
                        · have hj3 : (j : Int) < (zs.length : Int) := by omega
                          have hj4 : ¬ (j : Int) < 4 := by have := Hjm.out; omega
                          go_wp2_with (at_builtin; refine wpList_append_run rfl _ _ _ rfl vp (.slice (some ⟨wr.heap.size, 0, none⟩) 1 1) (.slice (some ⟨g5, 0, none⟩) (q + 1) cap5) w5 (by rfl) (by rfl) (by exact Hrun.out) ?_)
                          go_roundg (Mk.cnt 12 x - (i + 1))
                          case measure => have hk := Hki.out; omega
                          case rel =>
                            refine ⟨i + 1, .slice (some ⟨g5, 0, none⟩) (q + 1) cap5, by go_num, by omega, ?_, rfl, ?_⟩
                            · rw [Mk.prodsI_succ, Hpa.out, Hzs.out, ← List.append_assoc]
                              exact Hg5.out
                            · exact hbr.trans ((Hbq.out.mono hbr.size).trans (Hb5.out.mono (by have := Hb.out; omega)))
                        · have hj3 : ¬ (j : Int) < (zs.length : Int) := by omega
                          go_wp2_with (at_builtin; refine wpList_append_run rfl _ _ _ rfl vp (.slice (some ⟨wr.heap.size, 0, none⟩) 1 1) (.slice (some ⟨g5, 0, none⟩) (q + 1) cap5) w5 (by rfl) (by rfl) (by exact Hrun.out) ?_)
                          go_roundg (Mk.cnt 12 x - (i + 1))
                          case measure => have hk := Hki.out; omega
                          case rel =>
                            refine ⟨i + 1, .slice (some ⟨g5, 0, none⟩) (q + 1) cap5, by go_num, by omega, ?_, rfl, ?_⟩
                            · rw [Mk.prodsI_succ, Hpa.out, Hzs.out, ← List.append_assoc]
                              exact Hg5.out
                            · exact hbr.trans ((Hbq.out.mono hbr.size).trans (Hb5.out.mono (by have := Hb.out; omega)))
                  · have hpa : Mk.prodAt N T 4 x l i = [] := by
                      unfold Mk.prodAt
                      rw [Hzd.out, if_neg (by simpa [Mk.md] using hq)]
                    have Hpa := hid hpa
                    have Hg := hid hg
                    clear hpa hg
                    go_wp2_with fail
                    go_roundg (Mk.cnt 12 x - (i + 1))
                    case measure => have hk := Hki.out; omega
                    case rel => exact ⟨i + 1, vp, by go_num, by omega, by rw [Mk.prodsI_succ, Hpa.out, List.append_nil]; exact Hg.out, rfl, hbr⟩
                · have hie : i = Mk.cnt 12 x := by omega
                  have hg9 := hg
                  rw [hie, ← Mk.prodsL_succ] at hg9
                  have Hg := hid hg9
                  have hcn : ¬ (i < x.left.length ∧ i < x.right.length ∧ i < 12) := by rw [hie]; unfold Mk.cnt; omega
                  clear hg hg9 hie hic hi
                  by_cases h1 : i < x.left.length
                  · have hi1 : (i : Int) < (x.left.length : Int) := by omega
                    by_cases h2 : i < x.right.length
                    · have hi2 : (i : Int) < (x.right.length : Int) := by omega
                      have hi3 : ¬ (i : Int) < 12 := by omega
                      clear hcn h1 h2
                      go_wp2_with fail
                      go_roundg (N - (l + 1))
                      case measure => have hk := Hk.out; omega
                      case rel => exact ⟨l + 1, vp, by go_num, by omega, Hg.out, rfl, hbr⟩
                    · have hi2 : ¬ (i : Int) < (x.right.length : Int) := by omega
                      clear hcn h1 h2
                      go_wp2_with fail
                      go_roundg (N - (l + 1))
                      case measure => have hk := Hk.out; omega
                      case rel => exact ⟨l + 1, vp, by go_num, by omega, Hg.out, rfl, hbr⟩
                  · have hi1 : ¬ (i : Int) < (x.left.length : Int) := by omega
                    clear hcn h1
                    go_wp2_with fail
                    go_roundg (N - (l + 1))
                    case measure => have hk := Hk.out; omega
                    case rel => exact ⟨l + 1, vp, by go_num, by omega, Hg.out, rfl, hbr⟩
              --)
            · have hge : ¬ (l : Int) < (N : Int) := by omega
              have hlN : l = N := by omega
              clear hlt
              rw [hlN] at hg hl8 hge ⊢
              clear hlN
              obtain ⟨gn, gt, gp, cn, ct, cp, rfl, rfl, rfl, hrn, hrt, hrp⟩ := hg.slices
              have c0 := hg.k.cell 0
              have c2 := hg.k.cell 2
              have c3 := hg.k.cell 3
              simp only [List.getElem?_cons_zero, List.getElem?_cons_succ, Mk.letters_length] at c0 c2 c3
              have hrn' : CellsD wr (fun k => k < wr.heap.size) gn ((Mk.letters 65 N).map Value.string).length fun i u => ((Mk.letters 65 N).map Value.string)[i]? = some u := by
                intro j hj
                obtain ⟨g, off, h1, h2, h3⟩ := hrn.at (i := j) (by simpa using hj)
                exact ⟨g, off, _, h1, h2, h3, by simp at hj; simp [List.getElem?_eq_getElem hj]⟩
              have hrt' : CellsD wr (fun k => k < wr.heap.size) gt ((Mk.letters 97 T).map Value.string).length fun i u => ((Mk.letters 97 T).map Value.string)[i]? = some u := by
                intro j hj
                obtain ⟨g, off, h1, h2, h3⟩ := hrt.at (i := j) (by simpa using hj)
                exact ⟨g, off, _, h1, h2, h3, by simp at hj; simp [List.getElem?_eq_getElem hj]⟩
              have hln : ((Mk.letters 65 N).map Value.string).length ≤ 1000000 := by simp [Mk.letters_length]; omega
              have hlt : ((Mk.letters 97 T).map Value.string).length ≤ 1000000 := by simp [Mk.letters_length]; omega
              obtain ⟨is, his, s0, s1, s2⟩ := info_parts strInfo
              have s2' : is.bytes ≤ 64 := by omega
              have HA := hid (And.intro hg (And.intro hrp (And.intro k1 (And.intro k2 (And.intro hbd hbr)))))
              have Hm := hid hm
              have HT := hid hT
              have Hrn := hid hrn'
              have Hrt := hid hrt'
              have Hln := hid hln
              have Hlt := hid hlt
              have C0 := hid c0
              have C2 := hid c2
              have C3 := hid c3
              clear hrn' hrt' hrn hrt hrp hln hlt hg k0 k1 k2 hbd hbr hm hT hl hr hl1 hr1 hr2 hm7 hm0 hT3 hT0 hN8 hN1 hNz hq0 hq1 hl8
              go_upto_region 24 with fail
              clear hge Hk hii i0 i1 i2 c0 c2 c3
              refine region_gen fun A hA => ?_
              have e6 : A.eval (.tmp 6) = .pointer (some ⟨b, 0, none⟩) := by rw [hA]; rfl
              have e4 : A.eval (.tmp 4) = .int .i64 N := by rw [hA]; rfl
              have hsz : A.tmps.size = 186 := by rw [hA]; rfl
              have HA2 := hid hA
              clear hA
              obtain ⟨ds, hds⟩ : ∃ ds, ds = [145, 146, 147, 148, 149, 150, 151, 152, 153, 154, 155, 156, 13] := ⟨_, rfl⟩
              refine region_orders (by kernel_rfl) cpD ds (by rw [hds]; decide) (by
                have h : ∀ i < 14, ∀ j < 14, cpD i = cpD j → i = j := by decide
                exact fun i j hi hj => h i hi j hj) (by kernel_rfl) (CpG b N T st gn gt cn ct 9 30 wr.heap.size (Mk.letters 65 N) (Mk.letters 97 T)) (CpW wr N T st 9 30 (Mk.letters 65 N) (Mk.letters 97 T))
                (fun f => ⟨Kp.drew (Kp.refl _ _), fun h => by cases h⟩) ?_ ?_
              · intro L i o f w ho hL hW hdep
                have hev : ∀ k, k ∈ ds → (puts A f ds).eval (.tmp k) = f k := fun k hk => by
                  rw [puts_eval A f k (by rw [hsz]; rw [hds] at hk; revert hk; revert k; decide) ds, if_pos hk]
                have ev6 : (puts A f ds).eval (.tmp 6) = .pointer (some ⟨b, 0, none⟩) := by rw [puts_eval A f 6 (by omega) ds, if_neg (by rw [hds]; decide), e6]
                have ev4 : (puts A f ds).eval (.tmp 4) = .int .i64 N := by rw [puts_eval A f 4 (by omega) ds, if_neg (by rw [hds]; decide), e4]
                have d0 := hW.1.cell C0.out (fun h => h)
                have d2 := hW.1.cell C2.out (fun h => h)
                have d3 := hW.1.cell C3.out (fun h => h)
                have hmem : ∀ i < 13, cpD i ∈ ds := by rw [hds]; decide
                generalize hA3 : puts A f ds = a at hev ev6 ev4 ⊢
                have kr := Kp.refl (fun _ => False) w
                have hev' : ∀ k, k ∈ ds → a.tmps[k]?.getD undef = f k := fun k hk => by
                  have := hev k hk
                  simpa [Act.eval] using this
                have ev6' : a.tmps[6]?.getD undef = .pointer (some ⟨b, 0, none⟩) := by simpa [Act.eval] using ev6
                have ev4' : a.tmps[4]?.getD undef = .int .i64 N := by simpa [Act.eval] using ev4
                match i, ho with
                | 0, ho =>
                  cases ho
                  clear hev hev'
                  refine wpOp_of rfl rfl (wp_letter fun K hK => ?_)
                  go_simp
                  exact hK _ _ ⟨fun j u _ => CpG.stay kr j u, .inl ⟨_, rfl, hmem 0 (by decide), rfl, hW.next kr (by decide) (.inl (by decide))⟩⟩
                | 1, ho =>
                  cases ho
                  have q145 := (hdep ⟨0, .data⟩ (by simp) rfl).2
                  have a145 : a.tmps[145]?.getD undef = .pointer (some ⟨b, 0, none⟩) := (hev' 145 (hmem 0 (by decide))).trans q145
                  clear hev hev'
                  refine wpOp_of rfl rfl (wp_letter fun K hK => ?_)
                  go_simp
                  exact hK _ _ ⟨fun j u _ => CpG.stay kr j u, .inl ⟨_, rfl, hmem 1 (by decide), rfl, hW.next kr (by decide) (.inl (by decide))⟩⟩
                | 2, ho =>
                  cases ho
                  clear hev hev'
                  refine wpOp_of rfl rfl (wp_letter fun K hK => ?_)
                  go_simp
                  exact hK _ _ ⟨fun j u _ => CpG.stay kr j u, .inl ⟨_, rfl, hmem 2 (by decide), rfl, hW.next kr (by decide) (.inl (by decide))⟩⟩
                | 3, ho =>
                  cases ho
                  clear hev hev'
                  refine wpOp_of rfl rfl (wp_letter fun K hK => ?_)
                  go_simp
                  exact hK _ _ ⟨fun j u _ => CpG.stay (kr.alloc _) j u, .inl ⟨_, rfl, hmem 3 (by decide), ⟨_, rfl⟩, hW.next (kr.alloc _) (by decide) (.inl (by decide))⟩⟩
                | 4, ho =>
                  cases ho
                  clear hev hev'
                  refine wpOp_of rfl rfl (wp_letter fun K hK => ?_)
                  go_simp
                  exact hK _ _ ⟨fun j u _ => CpG.stay kr j u, .inl ⟨_, rfl, hmem 4 (by decide), rfl, hW.next kr (by decide) (.inl (by decide))⟩⟩
                | 5, ho =>
                  cases ho
                  have q149 := (hdep ⟨4, .data⟩ (by simp) rfl).2
                  have a149 : a.tmps[149]?.getD undef = .pointer (some ⟨b, 2, none⟩) := (hev' 149 (hmem 4 (by decide))).trans q149
                  clear hev hev'
                  refine wpOp_of rfl rfl (wp_letter fun K hK => ?_)
                  go_simp
                  exact hK _ _ ⟨fun j u _ => CpG.stay kr j u, .inl ⟨_, rfl, hmem 5 (by decide), rfl, hW.next kr (by decide) (.inl (by decide))⟩⟩
                | 6, ho =>
                  cases ho
                  obtain ⟨ad, qs⟩ := (hdep ⟨3, .data⟩ (by simp) rfl).2
                  have a1 : a.eval (.tmp 148) = .slice (some ad) 0 0 := (hev 148 (hmem 3 (by decide))).trans qs
                  have qx := (hdep ⟨5, .data⟩ (by simp) rfl).2
                  have a2 : a.eval (.tmp 150) = .slice gn N cn := (hev 150 (hmem 5 (by decide))).trans qx
                  obtain ⟨gv, cap, w', hrun, hk2, hc⟩ := run_append_fresh (P := Try.prog) w 27 27 9 is _ Try.underlying27 his s0 s1 s2' rfl ad _ gn cn _ ((Hrn.out).kp hW.1 (fun _ _ h => h) (fun _ _ _ h => h)) (fun u hu => by
                    obtain ⟨z, _, rfl⟩ := List.mem_map.1 hu
                    rfl) Hln.out
                  rw [show ((Mk.letters _ N).map Value.string).length = N by simp [Mk.letters_length]] at hrun
                  exact wpOp_of rfl rfl (wp_append_run _ _ _ rfl _ _ _ w' a1 a2 hrun ⟨fun j u _ => CpG.stay hk2 j u, .inl ⟨_, rfl, hmem 6 (by decide), ⟨gv, cap, rfl, hc⟩, hW.next hk2 (by decide) (.inl (by decide))⟩⟩)
                | 7, ho =>
                  cases ho
                  clear hev hev'
                  refine wpOp_of rfl rfl (wp_letter fun K hK => ?_)
                  go_simp
                  exact hK _ _ ⟨fun j u _ => CpG.stay (kr.alloc _) j u, .inl ⟨_, rfl, hmem 7 (by decide), ⟨_, rfl⟩, hW.next (kr.alloc _) (by decide) (.inl (by decide))⟩⟩
                | 8, ho =>
                  cases ho
                  clear hev hev'
                  refine wpOp_of rfl rfl (wp_letter fun K hK => ?_)
                  go_simp
                  exact hK _ _ ⟨fun j u _ => CpG.stay kr j u, .inl ⟨_, rfl, hmem 8 (by decide), rfl, hW.next kr (by decide) (.inl (by decide))⟩⟩
                | 9, ho =>
                  cases ho
                  have q153 := (hdep ⟨8, .data⟩ (by simp) rfl).2
                  have a153 : a.tmps[153]?.getD undef = .pointer (some ⟨b, 3, none⟩) := (hev' 153 (hmem 8 (by decide))).trans q153
                  clear hev hev'
                  refine wpOp_of rfl rfl (wp_letter fun K hK => ?_)
                  go_simp
                  exact hK _ _ ⟨fun j u _ => CpG.stay kr j u, .inl ⟨_, rfl, hmem 9 (by decide), rfl, hW.next kr (by decide) (.inl (by decide))⟩⟩
                | 10, ho =>
                  cases ho
                  obtain ⟨ad, qs⟩ := (hdep ⟨7, .data⟩ (by simp) rfl).2
                  have a1 : a.eval (.tmp 152) = .slice (some ad) 0 0 := (hev 152 (hmem 7 (by decide))).trans qs
                  have qx := (hdep ⟨9, .data⟩ (by simp) rfl).2
                  have a2 : a.eval (.tmp 154) = .slice gt T ct := (hev 154 (hmem 9 (by decide))).trans qx
                  obtain ⟨gv, cap, w', hrun, hk2, hc⟩ := run_append_fresh (P := Try.prog) w 27 27 9 is _ Try.underlying27 his s0 s1 s2' rfl ad _ gt ct _ ((Hrt.out).kp hW.1 (fun _ _ h => h) (fun _ _ _ h => h)) (fun u hu => by
                    obtain ⟨z, _, rfl⟩ := List.mem_map.1 hu
                    rfl) Hlt.out
                  rw [show ((Mk.letters _ T).map Value.string).length = T by simp [Mk.letters_length]] at hrun
                  exact wpOp_of rfl rfl (wp_append_run _ _ _ rfl _ _ _ w' a1 a2 hrun ⟨fun j u _ => CpG.stay hk2 j u, .inl ⟨_, rfl, hmem 10 (by decide), ⟨gv, cap, rfl, hc⟩, hW.next hk2 (by decide) (.inl (by decide))⟩⟩)
                | 11, ho =>
                  cases ho
                  have q146 := (hdep ⟨1, .data⟩ (by simp) rfl).2
                  have a146 : a.tmps[146]?.getD undef = .int .i64 st := (hev' 146 (hmem 1 (by decide))).trans q146
                  have q147 := (hdep ⟨2, .data⟩ (by simp) rfl).2
                  have a147 : a.tmps[147]?.getD undef = .int .i64 N := (hev' 147 (hmem 2 (by decide))).trans q147
                  obtain ⟨g1, c1, q151, r1⟩ := (hdep ⟨6, .data⟩ (by simp) rfl).2
                  have a151 : a.tmps[151]?.getD undef = .slice g1 N c1 := (hev' 151 (hmem 6 (by decide))).trans q151
                  obtain ⟨g2, c2, q155, r2⟩ := (hdep ⟨10, .data⟩ (by simp) rfl).2
                  have a155 : a.tmps[155]?.getD undef = .slice g2 T c2 := (hev' 155 (hmem 10 (by decide))).trans q155
                  clear hev hev'
                  refine wpOp_of rfl rfl (wp_letter fun K hK => ?_)
                  go_simp
                  exact hK _ _ ⟨fun j u _ => CpG.stay kr j u, .inl ⟨_, rfl, hmem 11 (by decide), ⟨g1, c1, g2, c2, rfl, r1, r2⟩, hW.next kr (by decide) (.inl (by decide))⟩⟩
                | 12, ho =>
                  cases ho
                  clear hev hev'
                  refine wpOp_of rfl rfl (wp_letter fun K hK => ?_)
                  go_simp
                  exact hK _ _ ⟨fun j u _ => CpG.stay (kr.alloc _) j u, .inl ⟨_, rfl, hmem 12 (by decide), ⟨w.heap.size, rfl, hW.1.size, _, _, _, _, _, Bk.new w _ _⟩, hW.next (kr.alloc _) (by decide) (.inr ⟨rfl, hL⟩)⟩⟩
                | 13, ho =>
                  cases ho
                  have hL12 := (hdep ⟨12, .data⟩ (by simp) rfl).1
                  obtain ⟨b', q13, hb', x0, x1, x2, x3, x4, kb⟩ := (hdep ⟨12, .data⟩ (by simp) rfl).2
                  have a13 : a.tmps[13]?.getD undef = .pointer (some ⟨b', 0, none⟩) := (hev' 13 (hmem 12 (by decide))).trans q13
                  obtain ⟨g1, c1, g2, c2, q156, r1, r2⟩ := (hdep ⟨11, .data⟩ (by simp) rfl).2
                  have a156 : a.tmps[156]?.getD undef = .agg #[.int .i64 st, .int .i64 N, .slice g1 N c1, .slice g2 T c2, .slice none 0 0] := (hev' 156 (hmem 11 (by decide))).trans q156
                  have f0 := kb.free 0
                  have f1 := kb.free 1
                  have f2 := kb.free 2
                  have f3 := kb.free 3
                  have f4 := kb.free 4
                  have k0 := kb.cell 0
                  have k1 := kb.cell 1
                  have k2 := kb.cell 2
                  have k3 := kb.cell 3
                  have k4 := kb.cell 4
                  simp only [List.getElem?_cons_zero, List.getElem?_cons_succ] at k0 k1 k2 k3 k4
                  clear hev hev'
                  refine wpOp_of rfl rfl (wp_letter fun K hK => ?_)
                  go_simp
                  have kb5 := ((((kb.set 0 (.int .i64 st)).set 1 (.int .i64 N)).set 2 (.slice g1 N c1)).set 3 (.slice g2 T c2)).set 4 (.slice none 0 0)
                  simp only [List.set_cons_zero, List.set_cons_succ] at kb5
                  have hk5 := Kp.set (S := fun k => k = b') (p := ⟨b', 4, none⟩) (Kp.set (S := fun k => k = b') (p := ⟨b', 3, none⟩) (Kp.set (S := fun k => k = b') (p := ⟨b', 2, none⟩) (Kp.set (S := fun k => k = b') (p := ⟨b', 1, none⟩) (Kp.set (S := fun k => k = b') (p := ⟨b', 0, none⟩) (Kp.refl _ w) (.inl rfl) (.int .i64 st)) (.inl rfl) (.int .i64 N)) (.inl rfl) (.slice g1 N c1)) (.inl rfl) (.slice g2 T c2)) (.inl rfl) (.slice none 0 0)
                  have hw5 := Kp.set (S := fun _ => False) (p := ⟨b', 4, none⟩) (Kp.set (S := fun _ => False) (p := ⟨b', 3, none⟩) (Kp.set (S := fun _ => False) (p := ⟨b', 2, none⟩) (Kp.set (S := fun _ => False) (p := ⟨b', 1, none⟩) (Kp.set (S := fun _ => False) (p := ⟨b', 0, none⟩) hW.1 (.inr hb') (.int .i64 st)) (.inr hb') (.int .i64 N)) (.inr hb') (.slice g1 N c1)) (.inr hb') (.slice g2 T c2)) (.inr hb') (.slice none 0 0)
                  have hst := CpG.store (b := b) (N := N) (T := T) (st := st) (gn := gn) (gt := gt) (cn := cn) (ct := ct) (B := wr.heap.size) (ns := Mk.letters 65 N) (ts := Mk.letters 97 T) hk5 kb kb5 (show 9 ≠ 30 by decide)
                  have hr12 := hst 11 (f 156) ⟨g1, c1, g2, c2, q156, r1, r2⟩
                  obtain ⟨g3, c3', g4, c4', q156', r3, r4⟩ := hr12
                  have q156b : f 156 = _ := q156
                  rw [q156b] at q156'
                  simp only [Value.agg.injEq, Array.mk.injEq, List.cons.injEq, Value.slice.injEq, true_and, and_true] at q156'
                  obtain ⟨⟨rfl, rfl⟩, rfl, rfl⟩ := q156'
                  exact hK _ _ ⟨fun j u _ => hst j u, .inr ⟨rfl, trivial, hw5, fun _ => ⟨by unfold updL; rw [if_neg (by decide)]; exact hL12, b', g1, c1, g2, c2, q13, hb', kb5, r3, r4⟩⟩⟩
                | _ + 14, ho => cases ho
              · intro L f w hW hL hG
                obtain ⟨hkw, hfin⟩ := hW
                obtain ⟨_, b', g1, c1, g2, c2, q13, hb', kb', r1, r2⟩ := hfin (hL 13 (by decide))
                have hA := HA2.out
                subst hA
                rw [hds]
                simp only [puts, Act.put, List.setIfInBounds_toArray, List.set_cons_zero, List.set_cons_succ, q13]
                go_wp2_with fail
                obtain ⟨hg, hrp, k1, k2, hbd, hbr⟩ := HA.out
                obtain ⟨ps, hps⟩ : ∃ ps, ps = Mk.prodsL (N : Int) (T : Int) 12 4 x N := ⟨_, rfl⟩
                have hpl : ps.length ≤ 192 := by
                  rw [hps]
                  have h1 := Mk.prodsL_length N T 12 4 x N
                  have h2 : N * 12 ≤ 8 * 12 := Nat.mul_le_mul_right _ (by have := HN.out; have := Hm.out; omega)
                  omega
                have hlb : b < wr.heap.size := hg.k.lt
                simp only [← hps, Mk.letters_length] at hg hrp
                have Hps := hid hps
                clear hps
                obtain ⟨wc, hwc⟩ : ∃ wc, wc = w := ⟨_, rfl⟩
                have hlb' : b' < wc.heap.size := by rw [hwc]; exact kb'.lt
                have hb4 : wc.cell? ⟨b, 4, none⟩ = some (.slice gp ps.length cp) := by rw [hwc]; exact hkw.cell (by rw [hg.k.cell]; rfl) (fun h => h)
                have hrpc : RowP wc wr.heap.size gp ps := by rw [hwc]; exact hrp.below (hkw.to_below (Nat.le_refl _) (fun _ h => h.elim))
                have hrs := hkw.size
                rw [← hwc] at hkw kb' r1 r2 hrs ⊢
                clear hwc hfin hL
                have hty : ∀ (k : Nat) (cs : Array Value), k = b' → wc.heap[k]? ≠ some (.cells cs 9) := by
                  rintro k cs rfl e
                  rw [kb'] at e
                  injection e with e
                  injection e with _ e
                  exact absurd e (by decide)
                have HTy := hid hty
                clear hty
                have Hb' := hid hb'
                have Hr1 := hid r1
                have Hr2 := hid r2
                have Hkw := hid hkw
                have HG := hid hg
                have HA6 := hid (And.intro k1 (And.intro k2 (And.intro hbd hbr)))
                clear r1 r2 hkw hg hrp k1 k2 hbd hbr HA HA2 Hrn Hrt Hln Hlt
                obtain ⟨i3, hi3, j0, j1, j2⟩ := info_parts intInfo
                obtain ⟨ip, hip, p0, p1, p2⟩ := info_parts prodInfo
                go_loopg [14] ps.length (fun k v14 wr => MadeC wc b' (.int .i64 st) (.int .i64 N) (.slice g1 N c1) (.slice g2 T c2) ps k v14 wr)
                case atStart => exact ⟨0, _, rfl, by omega, kb', PrOwn.nil _ _ _ _, rfl, Kp.refl _ _⟩
                case round =>
                  clear kb'
                  obtain ⟨i, vp, rfl, hi, kb, hop, hk, hkp⟩ := hrel
                  have Hk := hid hk
                  clear hk
                  have hcb4 : wr.cell? ⟨b, 4, none⟩ = some (.slice gp ps.length cp) := hkp.cell hb4 (by omega)
                  have hszr := hkp.size
                  by_cases hlt : i < ps.length
                  · have hlt' : (i : Int) < (ps.length : Int) := by omega
                    have hi0 : (0 : Int) ≤ (i : Int) := by omega
                    obtain ⟨y, hy⟩ : ∃ y, y = ps[i] := ⟨_, rfl⟩
                    have hyi : ps[i]? = some y := by rw [hy]; exact List.getElem?_eq_getElem hlt
                    obtain ⟨l, r⟩ := y
                    have hrl : r.length ≤ 4 := by
                      have hm : (l, r) ∈ ps := List.mem_of_getElem? hyi
                      rw [Hps.out] at hm
                      exact Mk.prodsL_row hm
                    obtain ⟨g, off, gr, cr, rfl, hgb, hd0, hd1, hri⟩ := hrpc i _ hyi
                    have hgn : ¬ g = b' := by omega
                    have hc0 : wr.cell? ⟨g, off + i * 2, none⟩ = some (.int .i64 l) := hkp.cell hd0 hgn
                    have hc1 : wr.cell? ⟨g, off + i * 2 + 1, none⟩ = some (.slice gr r.length cr) := hkp.cell hd1 hgn
                    clear hd0 hd1
                    have hrow : CellsD wr (fun k => k < wr.heap.size ∧ ¬ k = b') gr (r.map (Value.int .i64)).length fun i u => (r.map (Value.int .i64))[i]? = some u := by
                      intro j hj
                      have hj' : j < r.length := by simpa using hj
                      obtain ⟨g9, o9, e1, e2, e3⟩ := hri.at hj'
                      exact ⟨g9, o9, _, e1, ⟨by omega, by omega⟩, hkp.cell e3 (by omega), by simp [List.getElem?_eq_getElem hj']⟩
                    obtain ⟨hh, hhe⟩ : ∃ hh, hh = wr.heap.size := ⟨_, rfl⟩
                    have hk1 : Kp (fun _ => False) wr (wr.drew.alloc (.cells #[] 3)) := ((Kp.refl _ wr).drew).alloc _
                    have hown1 : (wr.drew.alloc (.cells #[] 3)).ownsRow wc.heap.size 3 1 (.slice (some ⟨hh, 0, none⟩) 0 0) 0 [] := by
                      rw [hhe]
                      exact bk_own (Bk.new wr.drew 3 []) hszr rfl (by decide)
                    have hsz1 : wc.heap.size ≤ (wr.drew.alloc (.cells #[] 3)).heap.size := Nat.le_trans hszr hk1.size
                    obtain ⟨gv, cap, w2, hrun1, hown2, hgr2, hat2⟩ := run_append_cells (P := Try.prog) (wr.drew.alloc (.cells #[] 3)) wc.heap.size 22 22 3 i3 (.int .i64 0) Try.underlying22 hi3 j0 j1 (by omega) rfl (.slice (some ⟨hh, 0, none⟩) 0 0) 0 [] hown1 _ gr cr (r.map (Value.int .i64)) (hrow.kp hk1 (fun _ _ h => h) (fun _ _ _ h => h)) (fun u hu => by
                      obtain ⟨z, _, rfl⟩ := List.mem_map.1 hu
                      rfl) (by simp; omega) hsz1
                    have hk2 : Kp (fun _ => False) wr w2 := hk1.grown hgr2 (fun k e hlt => by
                      simp only [Value.ownBlock, Option.some.injEq] at e
                      omega)
                    rw [List.nil_append, Nat.zero_add, List.length_map] at hown2
                    rw [Nat.zero_add, List.length_map] at hrun1
                    have hop2 : PrOwn w2 wc.heap.size 97 3 vp (ps.take i) := hop.kp hk2 (fun _ _ h => h) (fun _ _ _ _ _ _ h => h)
                    have htl : (ps.take i).length = i := by rw [List.length_take]; omega
                    obtain ⟨g5, cap5, w4, hrun2, hop4, hk4, hg5, hl5⟩ := hop2.app (P := Try.prog) 28 28 ip Try.underlying28 hip p0 p1 p2 (by decide) (Nat.le_trans hszr hk2.size) (by omega) (l, r) (.slice gv r.length cap) hown2 0
                    rw [htl] at hrun2 hop4
                    obtain ⟨gq, cq, rfl⟩ := hop.slice
                    rw [htl] at kb hop hop2 hrun2 hk4 hg5
                    have hvb : ∀ k, (Value.slice gq i cq).ownBlock = some k → wc.heap.size ≤ k ∧ k < wr.heap.size := fun k e => by
                      obtain ⟨xs, hx⟩ := hop.own
                      exact World.ownsRow.lt hx k e
                    have hop5 : PrOwn (w4.setCell ⟨b', 4, none⟩ (.slice (some ⟨g5, 0, none⟩) (i + 1) cap5)) wc.heap.size 97 3 (.slice (some ⟨g5, 0, none⟩) (i + 1) cap5) (ps.take i ++ [(l, r)]) :=
                      hop4.kp (S := fun k => k = b') (Kp.set (S := fun k => k = b') (Kp.refl _ w4) (.inl rfl) _) (fun g hg => by
                        obtain ⟨xs, hx⟩ := hop4.own
                        have := (World.ownsRow.lt hx g hg).1
                        omega) (fun u n' xs hu g hg => by have := (World.ownsRow.lt hu g hg).1; omega)
                    have hk4' : Kp (fun k => k = b' ∨ (Value.slice gq i cq).ownBlock = some k) wr w4 := (hk2.mono fun _ _ h => h.elim).trans ((hk4.mono fun k _ h => .inr h).mono fun _ _ h => h)
                    have kb2 := kb.kp hk2 (fun h => h)
                    have kb3 := kb2.alloc (.cells #[.int .i64 l, .slice gv r.length cap] 97)
                    have kb4 := kb2.kp hk4 (fun e => by have := hvb b' e; omega)
                    have hk3 : Kp (fun _ => False) wr (w2.alloc (.cells #[.int .i64 l, .slice gv r.length cap] 97)) := hk2.alloc _
                    have hk5 : Kp (fun k => k = b' ∨ (Value.slice gq i cq).ownBlock = some k) wr (w4.setCell ⟨b', 4, none⟩ (.slice (some ⟨g5, 0, none⟩) (i + 1) cap5)) := hk4'.set (.inl (.inl rfl)) _
                    obtain ⟨ws, w0e, w1e, w2e, w3e, w4e, w5e, w6e⟩ : ∃ ws : Nat → World, ws 0 = wr.drew ∧ ws 1 = wr.drew.alloc (.cells #[] 3) ∧ ws 2 = w2 ∧ ws 3 = w2 ∧ ws 4 = w2.alloc (.cells #[.int .i64 l, .slice gv r.length cap] 97) ∧ ws 5 = w4 ∧ ws 6 = w4.setCell ⟨b', 4, none⟩ (.slice (some ⟨g5, 0, none⟩) (i + 1) cap5) :=
                      ⟨fun p => match p with | 0 => wr.drew | 1 => wr.drew.alloc (.cells #[] 3) | 2 => w2 | 3 => w2 | 4 => w2.alloc (.cells #[.int .i64 l, .slice gv r.length cap] 97) | 5 => w4 | _ => w4.setCell ⟨b', 4, none⟩ (.slice (some ⟨g5, 0, none⟩) (i + 1) cap5), rfl, rfl, rfl, rfl, rfl, rfl, rfl⟩
                    have hkws : ∀ p, p ≤ 6 → Kp (fun k => k = b' ∨ (Value.slice gq i cq).ownBlock = some k) wr (ws p) := by
                      intro p hp
                      have : p = 0 ∨ p = 1 ∨ p = 2 ∨ p = 3 ∨ p = 4 ∨ p = 5 ∨ p = 6 := by omega
                      rcases this with rfl | rfl | rfl | rfl | rfl | rfl | rfl
                      · rw [w0e]; exact (Kp.refl _ wr).drew
                      · rw [w1e]; exact hk1.mono fun _ _ h => h.elim
                      · rw [w2e]; exact hk2.mono fun _ _ h => h.elim
                      · rw [w3e]; exact hk2.mono fun _ _ h => h.elim
                      · rw [w4e]; exact hk3.mono fun _ _ h => h.elim
                      · rw [w5e]; exact hk4'
                      · rw [w6e]; exact hk5
                    have hkb4 : ∀ p, p ≤ 4 → (ws p).cell? ⟨b', 4, none⟩ = some (.slice gq i cq) := by
                      intro p hp
                      have : p = 0 ∨ p = 1 ∨ p = 2 ∨ p = 3 ∨ p = 4 := by omega
                      rcases this with rfl | rfl | rfl | rfl | rfl
                      · rw [w0e]; exact kb.cell 4
                      · rw [w1e]; exact (kb.kp hk1 (fun h => h)).cell 4
                      · rw [w2e]; exact kb2.cell 4
                      · rw [w3e]; exact kb2.cell 4
                      · rw [w4e]; exact kb3.cell 4
                    have hnb : ∀ {k : Nat}, k < wc.heap.size → ¬ k = b' → ¬ (k = b' ∨ (Value.slice gq i cq).ownBlock = some k) := fun h1 h2 e => e.elim h2 fun e => by have := hvb _ e; omega
                    have f4 := kb4.free 4
                    have k4 := kb4.cell 4
                    simp only [List.getElem?_cons_zero, List.getElem?_cons_succ] at k4
                    have kb6 := kb4.set 4 (.slice (some ⟨g5, 0, none⟩) (i + 1) cap5)
                    simp only [List.set_cons_zero, List.set_cons_succ] at kb6
                    go_wp2_with fail
                    refine region_gen fun A hA => ?_
                    have e6 : A.eval (.tmp 6) = .pointer (some ⟨b, 0, none⟩) := by rw [hA]; rfl
                    have e13 : A.eval (.tmp 13) = .pointer (some ⟨b', 0, none⟩) := by rw [hA]; rfl
                    have e14 : A.eval (.tmp 14) = .int .i64 i := by rw [hA]; rfl
                    have hsz : A.tmps.size = 186 := by rw [hA]; rfl
                    have HA2 := hid hA
                    clear hA
                    obtain ⟨ds, hds⟩ : ∃ ds, ds = [164, 165, 166, 167, 168, 169, 170, 171, 172, 173, 174, 175, 176, 177, 178, 179, 180, 181, 182, 183] := ⟨_, rfl⟩
                    refine region_chain (by kernel_rfl) ccD ds (by rw [hds]; decide) (by
                      have h : ∀ i < 21, ∀ j < 21, ccD i = ccD j → i = j := by decide
                      exact fun i j hi hj => h i hi j hj) (by kernel_rfl) [8, 15, 16, 17, 18, 20] ?hcn ?hch
                      (fun j u => ∀ v, [.pointer (some ⟨b', 4, none⟩), .slice gq i cq, .pointer (some ⟨b, 4, none⟩), .slice (some ⟨g, off, none⟩) ps.length cp, .int .i64 (i : Int), .pointer (some ⟨g, off + i * 2, none⟩), .pointer (some ⟨g, off + i * 2, none⟩), .int .i64 l, .slice (some ⟨hh, 0, none⟩) 0 0, .pointer (some ⟨b, 4, none⟩), .slice (some ⟨g, off, none⟩) ps.length cp, .int .i64 (i : Int), .pointer (some ⟨g, off + i * 2, none⟩), .pointer (some ⟨g, off + i * 2 + 1, none⟩), .slice gr r.length cr, .slice gv r.length cap, .agg #[.int .i64 l, .slice gv r.length cap], .slice (some ⟨w2.heap.size, 0, none⟩) 1 1, .slice (some ⟨g5, 0, none⟩) (i + 1) cap5, .pointer (some ⟨b', 4, none⟩)][j]? = some v → u = v) ws w0e ?_ ?_ (by decide) ?_
                    case hcn =>
                      intro q r x hq hr
                      have hq' := (List.getElem?_eq_some_iff.1 hq).1
                      have hr' := (List.getElem?_eq_some_iff.1 hr).1
                      have h : ∀ q < 6, ∀ r < 6, ([8, 15, 16, 17, 18, 20] : List Nat)[q]? = ([8, 15, 16, 17, 18, 20] : List Nat)[r]? → q = r := by decide
                      exact h q hq' r hr' (hq.trans hr.symm)
                    case hch =>
                      intro q x y hq hr
                      match q, hq, hr with
                      | 0, hq, hr => cases hq; cases hr; exact ⟨_, rfl, ⟨8, .data⟩, by simp, rfl, rfl⟩
                      | 1, hq, hr => cases hq; cases hr; exact ⟨_, rfl, ⟨15, .data⟩, by simp, rfl, rfl⟩
                      | 2, hq, hr => cases hq; cases hr; exact ⟨_, rfl, ⟨16, .data⟩, by simp, rfl, rfl⟩
                      | 3, hq, hr => cases hq; cases hr; exact ⟨_, rfl, ⟨17, .data⟩, by simp, rfl, rfl⟩
                      | 4, hq, hr => cases hq; cases hr; exact ⟨_, rfl, ⟨18, .data⟩, by simp, rfl, rfl⟩
                      | q + 5, hq, hr => cases hr
                    · intro j o f p ho hi hp hbef hdep
                      have hp6 : p ≤ 6 := hp
                      have hev0 : ∀ k, k ∈ ds → (puts A f ds).eval (.tmp k) = f k := fun k hk => by
                        rw [puts_eval A f k (by rw [hsz]; rw [hds] at hk; revert hk; revert k; decide) ds, if_pos hk]
                      have ev6 : (puts A f ds).eval (.tmp 6) = .pointer (some ⟨b, 0, none⟩) := by rw [puts_eval A f 6 (by omega) ds, if_neg (by rw [hds]; decide), e6]
                      have ev13 : (puts A f ds).eval (.tmp 13) = .pointer (some ⟨b', 0, none⟩) := by rw [puts_eval A f 13 (by omega) ds, if_neg (by rw [hds]; decide), e13]
                      have ev14 : (puts A f ds).eval (.tmp 14) = .int .i64 i := by rw [puts_eval A f 14 (by omega) ds, if_neg (by rw [hds]; decide), e14]
                      have hmm : ∀ i < 20, ccD i ∈ ds := by rw [hds]; decide
                      have D4 := (hkws p hp6).cell hcb4 (hnb (by omega) (by omega))
                      have D0 := (hkws p hp6).cell hc0 (hnb (by omega) hgn)
                      have D1 := (hkws p hp6).cell hc1 (hnb (by omega) hgn)
                      generalize hA3 : puts A f ds = a at hev0 ev6 ev13 ev14 ⊢
                      have hev : ∀ k, k ∈ ds → a.tmps[k]?.getD undef = f k := fun k hk => by
                        have := hev0 k hk
                        simpa [Act.eval] using this
                      have ev6' : a.tmps[6]?.getD undef = .pointer (some ⟨b, 0, none⟩) := by simpa [Act.eval] using ev6
                      have ev13' : a.tmps[13]?.getD undef = .pointer (some ⟨b', 0, none⟩) := by simpa [Act.eval] using ev13
                      have ev14' : a.tmps[14]?.getD undef = .int .i64 i := by simpa [Act.eval] using ev14
                      clear ev6 ev13 ev14 hA3 hev0 hcb4 hc0 hc1 f4 k4
                      match j, ho with
                        | 0, ho =>
                          cases ho
                          clear hev
                          refine wpOp_of rfl rfl (wp_letter fun K hK => ?_)
                          go_simp
                          exact hK _ _ ⟨rfl, _, rfl, hmm 0 (by decide), fun v hv => by cases hv; rfl⟩
                        | 1, ho =>
                          cases ho
                          have a164 : a.tmps[164]?.getD undef = .pointer (some ⟨b', 4, none⟩) := (hev 164 (hmm 0 (by decide))).trans (hdep ⟨0, .data⟩ (by simp) rfl _ rfl)
                          have hp4 : p ≤ 4 := Nat.le_of_not_lt fun h => hbef 4 18 _ h rfl rfl ⟨1, .data⟩ (by simp) rfl rfl
                          have D5 := hkb4 p hp4
                          clear hev
                          refine wpOp_of rfl rfl (wp_letter fun K hK => ?_)
                          go_simp
                          exact hK _ _ ⟨rfl, _, rfl, hmm 1 (by decide), fun v hv => by cases hv; rfl⟩
                        | 2, ho =>
                          cases ho
                          clear hev
                          refine wpOp_of rfl rfl (wp_letter fun K hK => ?_)
                          go_simp
                          exact hK _ _ ⟨rfl, _, rfl, hmm 2 (by decide), fun v hv => by cases hv; rfl⟩
                        | 3, ho =>
                          cases ho
                          have a166 : a.tmps[166]?.getD undef = .pointer (some ⟨b, 4, none⟩) := (hev 166 (hmm 2 (by decide))).trans (hdep ⟨2, .data⟩ (by simp) rfl _ rfl)
                          clear hev
                          refine wpOp_of rfl rfl (wp_letter fun K hK => ?_)
                          go_simp
                          exact hK _ _ ⟨rfl, _, rfl, hmm 3 (by decide), fun v hv => by cases hv; rfl⟩
                        | 4, ho =>
                          cases ho
                          clear hev
                          refine wpOp_of rfl rfl (wp_letter fun K hK => ?_)
                          go_simp
                          exact hK _ _ ⟨rfl, _, rfl, hmm 4 (by decide), fun v hv => by cases hv; rfl⟩
                        | 5, ho =>
                          cases ho
                          have a167 : a.tmps[167]?.getD undef = .slice (some ⟨g, off, none⟩) ps.length cp := (hev 167 (hmm 3 (by decide))).trans (hdep ⟨3, .data⟩ (by simp) rfl _ rfl)
                          have a168 : a.tmps[168]?.getD undef = .int .i64 (i : Int) := (hev 168 (hmm 4 (by decide))).trans (hdep ⟨4, .data⟩ (by simp) rfl _ rfl)
                          clear hev
                          refine wpOp_of rfl rfl (wp_letter fun K hK => ?_)
                          go_simp
                          exact hK _ _ ⟨rfl, _, rfl, hmm 5 (by decide), fun v hv => by cases hv; rfl⟩
                        | 6, ho =>
                          cases ho
                          have a169 : a.tmps[169]?.getD undef = .pointer (some ⟨g, off + i * 2, none⟩) := (hev 169 (hmm 5 (by decide))).trans (hdep ⟨5, .data⟩ (by simp) rfl _ rfl)
                          clear hev
                          refine wpOp_of rfl rfl (wp_letter fun K hK => ?_)
                          go_simp
                          exact hK _ _ ⟨rfl, _, rfl, hmm 6 (by decide), fun v hv => by cases hv; rfl⟩
                        | 7, ho =>
                          cases ho
                          have a170 : a.tmps[170]?.getD undef = .pointer (some ⟨g, off + i * 2, none⟩) := (hev 170 (hmm 6 (by decide))).trans (hdep ⟨6, .data⟩ (by simp) rfl _ rfl)
                          clear hev
                          refine wpOp_of rfl rfl (wp_letter fun K hK => ?_)
                          go_simp
                          exact hK _ _ ⟨rfl, _, rfl, hmm 7 (by decide), fun v hv => by cases hv; rfl⟩
                        | 8, ho => exact absurd (by decide) hi
                        | 9, ho =>
                          cases ho
                          clear hev
                          refine wpOp_of rfl rfl (wp_letter fun K hK => ?_)
                          go_simp
                          exact hK _ _ ⟨rfl, _, rfl, hmm 9 (by decide), fun v hv => by cases hv; rfl⟩
                        | 10, ho =>
                          cases ho
                          have a173 : a.tmps[173]?.getD undef = .pointer (some ⟨b, 4, none⟩) := (hev 173 (hmm 9 (by decide))).trans (hdep ⟨9, .data⟩ (by simp) rfl _ rfl)
                          clear hev
                          refine wpOp_of rfl rfl (wp_letter fun K hK => ?_)
                          go_simp
                          exact hK _ _ ⟨rfl, _, rfl, hmm 10 (by decide), fun v hv => by cases hv; rfl⟩
                        | 11, ho =>
                          cases ho
                          clear hev
                          refine wpOp_of rfl rfl (wp_letter fun K hK => ?_)
                          go_simp
                          exact hK _ _ ⟨rfl, _, rfl, hmm 11 (by decide), fun v hv => by cases hv; rfl⟩
                        | 12, ho =>
                          cases ho
                          have a174 : a.tmps[174]?.getD undef = .slice (some ⟨g, off, none⟩) ps.length cp := (hev 174 (hmm 10 (by decide))).trans (hdep ⟨10, .data⟩ (by simp) rfl _ rfl)
                          have a175 : a.tmps[175]?.getD undef = .int .i64 (i : Int) := (hev 175 (hmm 11 (by decide))).trans (hdep ⟨11, .data⟩ (by simp) rfl _ rfl)
                          clear hev
                          refine wpOp_of rfl rfl (wp_letter fun K hK => ?_)
                          go_simp
                          exact hK _ _ ⟨rfl, _, rfl, hmm 12 (by decide), fun v hv => by cases hv; rfl⟩
                        | 13, ho =>
                          cases ho
                          have a176 : a.tmps[176]?.getD undef = .pointer (some ⟨g, off + i * 2, none⟩) := (hev 176 (hmm 12 (by decide))).trans (hdep ⟨12, .data⟩ (by simp) rfl _ rfl)
                          clear hev
                          refine wpOp_of rfl rfl (wp_letter fun K hK => ?_)
                          go_simp
                          exact hK _ _ ⟨rfl, _, rfl, hmm 13 (by decide), fun v hv => by cases hv; rfl⟩
                        | 14, ho =>
                          cases ho
                          have a177 : a.tmps[177]?.getD undef = .pointer (some ⟨g, off + i * 2 + 1, none⟩) := (hev 177 (hmm 13 (by decide))).trans (hdep ⟨13, .data⟩ (by simp) rfl _ rfl)
                          clear hev
                          refine wpOp_of rfl rfl (wp_letter fun K hK => ?_)
                          go_simp
                          exact hK _ _ ⟨rfl, _, rfl, hmm 14 (by decide), fun v hv => by cases hv; rfl⟩
                        | 15, ho => exact absurd (by decide) hi
                        | 16, ho => exact absurd (by decide) hi
                        | 17, ho => exact absurd (by decide) hi
                        | 18, ho => exact absurd (by decide) hi
                        | 19, ho =>
                          cases ho
                          clear hev
                          refine wpOp_of rfl rfl (wp_letter fun K hK => ?_)
                          go_simp
                          exact hK _ _ ⟨rfl, _, rfl, hmm 19 (by decide), fun v hv => by cases hv; rfl⟩
                        | 20, ho => exact absurd (by decide) hi
                        | _ + 21, ho => cases ho
                    · intro q j o f hq ho hdep
                      have hev0 : ∀ k, k ∈ ds → (puts A f ds).eval (.tmp k) = f k := fun k hk => by
                        rw [puts_eval A f k (by rw [hsz]; rw [hds] at hk; revert hk; revert k; decide) ds, if_pos hk]
                      have hmm : ∀ i < 20, ccD i ∈ ds := by rw [hds]; decide
                      generalize hA3 : puts A f ds = a at hev0 ⊢
                      have hev : ∀ k, k ∈ ds → a.tmps[k]?.getD undef = f k := fun k hk => by
                        have := hev0 k hk
                        simpa [Act.eval] using this
                      clear hA3
                      match q, hq with
                      | 0, hq =>
                          cases hq
                          cases ho
                          rw [w0e]
                          clear hev hev0
                          refine wpOp_of rfl rfl (wp_letter fun K hK => ?_)
                          go_simp
                          exact hK _ _ ⟨w1e.symm, .inl ⟨_, rfl, hmm 8 (by decide), fun v hv => by cases hv; rw [hhe]⟩⟩
                      | 1, hq =>
                          cases hq
                          cases ho
                          rw [w1e]
                          have b1 : a.eval (.tmp 172) = .slice (some ⟨hh, 0, none⟩) 0 0 := (hev0 172 (hmm 8 (by decide))).trans (hdep ⟨8, .data⟩ (by simp) rfl _ rfl)
                          have b2 : a.eval (.tmp 178) = .slice gr r.length cr := (hev0 178 (hmm 14 (by decide))).trans (hdep ⟨14, .data⟩ (by simp) rfl _ rfl)
                          exact wpOp_of rfl rfl (wp_append_run _ _ _ rfl _ _ _ w2 b1 b2 hrun1 ⟨w2e.symm, .inl ⟨_, rfl, hmm 15 (by decide), fun v hv => by cases hv; rfl⟩⟩)
                      | 2, hq =>
                          cases hq
                          cases ho
                          rw [w2e]
                          have a171 : a.tmps[171]?.getD undef = .int .i64 l := (hev 171 (hmm 7 (by decide))).trans (hdep ⟨7, .data⟩ (by simp) rfl _ rfl)
                          have a179 : a.tmps[179]?.getD undef = .slice gv r.length cap := (hev 179 (hmm 15 (by decide))).trans (hdep ⟨15, .data⟩ (by simp) rfl _ rfl)
                          clear hev hev0
                          refine wpOp_of rfl rfl (wp_letter fun K hK => ?_)
                          go_simp
                          exact hK _ _ ⟨w3e.symm, .inl ⟨_, rfl, hmm 16 (by decide), fun v hv => by cases hv; rfl⟩⟩
                      | 3, hq =>
                          cases hq
                          cases ho
                          rw [w3e]
                          have a180 : a.tmps[180]?.getD undef = .agg #[.int .i64 l, .slice gv r.length cap] := (hev 180 (hmm 16 (by decide))).trans (hdep ⟨16, .data⟩ (by simp) rfl _ rfl)
                          clear hev hev0
                          refine wpOp_of rfl rfl (wp_letter fun K hK => ?_)
                          go_simp
                          exact hK _ _ ⟨w4e.symm, .inl ⟨_, rfl, hmm 17 (by decide), fun v hv => by cases hv; rfl⟩⟩
                      | 4, hq =>
                          cases hq
                          cases ho
                          rw [w4e]
                          have b1 : a.eval (.tmp 165) = .slice gq i cq := (hev0 165 (hmm 1 (by decide))).trans (hdep ⟨1, .data⟩ (by simp) rfl _ rfl)
                          have b2 : a.eval (.tmp 181) = .slice (some ⟨w2.heap.size, 0, none⟩) 1 1 := (hev0 181 (hmm 17 (by decide))).trans (hdep ⟨17, .data⟩ (by simp) rfl _ rfl)
                          exact wpOp_of rfl rfl (wp_append_run _ _ _ rfl _ _ _ w4 b1 b2 hrun2 ⟨w5e.symm, .inl ⟨_, rfl, hmm 18 (by decide), fun v hv => by cases hv; rfl⟩⟩)
                      | 5, hq =>
                          cases hq
                          cases ho
                          rw [w5e]
                          have a183 : a.tmps[183]?.getD undef = .pointer (some ⟨b', 4, none⟩) := (hev 183 (hmm 19 (by decide))).trans (hdep ⟨19, .data⟩ (by simp) rfl _ rfl)
                          have a182 : a.tmps[182]?.getD undef = .slice (some ⟨g5, 0, none⟩) (i + 1) cap5 := (hev 182 (hmm 18 (by decide))).trans (hdep ⟨18, .data⟩ (by simp) rfl _ rfl)
                          clear hev hev0
                          refine wpOp_of rfl rfl (wp_letter fun K hK => ?_)
                          go_simp
                          exact hK _ _ ⟨w6e.symm, .inr ⟨rfl, fun v hv => by cases hv⟩⟩
                      | q + 6, hq => cases hq
                    · intro f _
                      have hA := HA2.out
                      subst hA
                      rw [hds]
                      simp only [puts, Act.put, List.setIfInBounds_toArray, List.set_cons_zero, List.set_cons_succ, List.length_cons, List.length_nil, Nat.reduceAdd, w6e]
                      have hfin : MadeC wc b' (.int .i64 st) (.int .i64 N) (.slice g1 N c1) (.slice g2 T c2) ps (ps.length - (i + 1)) (.int .i64 ((i + 1 : Nat) : Int)) (w4.setCell ⟨b', 4, none⟩ (.slice (some ⟨g5, 0, none⟩) (i + 1) cap5)) := by
                        refine ⟨i + 1, .slice (some ⟨g5, 0, none⟩) (i + 1) cap5, rfl, hlt, kb6, ?_, rfl, ?_⟩
                        · rw [List.take_add_one, hyi]
                          exact hop5
                        · exact ((hkp.mono (S' := fun k => k = b' ∨ (Value.slice gq i cq).ownBlock = some k) fun k _ h => .inl h).trans hk5).mono fun k hk h => h.elim id fun e => by
                            have := (hvb k e).1
                            omega
                      have Hfin := hid hfin
                      clear hfin kb6 hop5 hk5 hkws hkb4 kb4 kb3 kb2 hop4 hop2 hop hrun1 hrun2 hown1 hown2
                      go_wp2_with fail
                      go_roundg (ps.length - (i + 1))
                      case measure => have hk := Hk.out; omega
                      case rel => exact Hfin.out
                  · have hge : ¬ (i : Int) < (ps.length : Int) := by omega
                    have hie : i = ps.length := by omega
                    rw [hie, List.take_length] at hop
                    clear hlt
                    rw [hie] at hge ⊢
                    clear hie hi
                    obtain ⟨gq, cq, rfl, hrpq⟩ := hop.rows
                    obtain ⟨k1, k2, hbd, hbr⟩ := HA6.out
                    have hwe := Hsd.out
                    have k1r := ((k1.below hbr k1.lt).kp Hkw.out (fun h => h)).kp hkp (by have := k1.lt; have := Hb.out; omega)
                    have k2r := ((k2.below hbr k2.lt).kp Hkw.out (fun h => h)).kp hkp (by have := k2.lt; have := Hb.out; omega)
                    have kbr := (HG.out.k.kp Hkw.out (fun h => h)).kp hkp (by omega)
                    have ee0 := kbr.cell 0
                    have ee1 := kbr.cell 1
                    have ee2 := kbr.cell 2
                    have ee3 := kbr.cell 3
                    have ee4 := kbr.cell 4
                    have cc0 := kb.cell 0
                    have cc1 := kb.cell 1
                    have cc2 := kb.cell 2
                    have cc3 := kb.cell 3
                    have cc4 := kb.cell 4
                    simp only [List.getElem?_cons_zero, List.getElem?_cons_succ] at ee0 ee1 ee2 ee3 ee4 cc0 cc1 cc2 cc3 cc4
                    have z0 := k1r.free 0
                    have z1 := k1r.free 1
                    have z2 := k1r.free 2
                    have z3 := k1r.free 3
                    have z4 := k1r.free 4
                    have y0 := k2r.free 0
                    have y1 := k2r.free 1
                    have y2 := k2r.free 2
                    have y3 := k2r.free 3
                    have y4 := k2r.free 4
                    have dd0 := k1r.cell 0
                    have dd1 := k1r.cell 1
                    have dd2 := k1r.cell 2
                    have dd3 := k1r.cell 3
                    have dd4 := k1r.cell 4
                    have hh0 := k2r.cell 0
                    have hh1 := k2r.cell 1
                    have hh2 := k2r.cell 2
                    have hh3 := k2r.cell 3
                    have hh4 := k2r.cell 4
                    simp only [List.getElem?_cons_zero, List.getElem?_cons_succ] at dd0 dd1 dd2 dd3 dd4 hh0 hh1 hh2 hh3 hh4
                    have hb12 : b1 ≠ b2 := by have := Hb1.out; have := Hb2.out; omega
                    have hb1b : b1 ≠ b := by have := Hb1.out; have := Hb.out; omega
                    have hb2b : b2 ≠ b := by have := Hb2.out; have := Hb.out; omega
                    have hb1c : b1 ≠ b' := by have := Hb1.out; have := Hb.out; omega
                    have hb2c : b2 ≠ b' := by have := Hb2.out; have := Hb.out; omega
                    have fin : ∀ (e : Exit) (B : Act) (W5 : World), e = .normal ∨ e = .ret → B.defers = [] → B.eval (.tmp 2) = .pointer (some ⟨b1, 0, none⟩) → B.eval (.tmp 3) = .pointer (some ⟨b2, 0, none⟩) → W5 = (set5 (set5 wr b1 (.int .i64 st) (.int .i64 N) (.slice g1 N c1) (.slice g2 T c2) (.slice gq ps.length cq)) b2 (.int .i64 st) (.int .i64 N) (.slice gn N cn) (.slice gt T ct) (.slice gp ps.length cp)).drew →
                        bodyPost Try.prog Try.f41 (fun e w' => ∃ N T : Nat, 1 ≤ N ∧ N ≤ 4 ∧ T ≤ 3 ∧ MadePost w0 (Mk.gram N T 12 4 x) e w') e B W5 := by
                      intro e B W5 he hd he2 he3 hW
                      have hk : Bk W5 b1 30 [.int .i64 st, .int .i64 N, .slice g1 N c1, .slice g2 T c2, .slice gq ps.length cq] ∧ Bk W5 b2 33 [.int .i64 st, .int .i64 N, .slice gn N cn, .slice gt T ct, .slice gp ps.length cp] ∧ Kp (fun k => k = b1 ∨ k = b2) wr W5 := by
                        subst hW
                        exact ⟨(set5_bk k1r).kp (set5_kp _ _ _ _ _).drew hb12, bk_drew (set5_bk (k2r.kp (set5_kp _ _ _ _ _) (Ne.symm hb12))), ((set5_kp _ _ _ _ _).mono fun _ _ h => .inl h).trans ((set5_kp _ _ _ _ _).drew.mono fun _ _ h => .inr h)⟩
                      obtain ⟨q1, q2, hkW⟩ := hk
                      have m0 := q1.cell 0
                      have m1 := q1.cell 1
                      have m2 := q1.cell 2
                      have m3 := q1.cell 3
                      have m4 := q1.cell 4
                      have n0 := q2.cell 0
                      have n1 := q2.cell 1
                      have n2 := q2.cell 2
                      have n3 := q2.cell 3
                      have n4 := q2.cell 4
                      simp only [List.getElem?_cons_zero, List.getElem?_cons_succ] at m0 m1 m2 m3 m4 n0 n1 n2 n3 n4
                      have hres : (results Try.f41 B.tmps).run Try.prog W5 = .ok (.tuple #[.agg #[.int .i64 st, .int .i64 N, .slice g1 N c1, .slice g2 T c2, .slice gq ps.length cq], .agg #[.int .i64 st, .int .i64 N, .slice gn N cn, .slice gt T ct, .slice gp ps.length cp]]) W5 := by
                        have x2 : B.tmps[2]?.getD undef = .pointer (some ⟨b1, 0, none⟩) := by simpa [Act.eval] using he2
                        have x3 : B.tmps[3]?.getD undef = .pointer (some ⟨b2, 0, none⟩) := by simpa [Act.eval] using he3
                        simp [results, Try.results41, go_sem, x2, x3, m0, m1, m2, m3, m4, n0, n1, n2, n3, n4]
                      have hpost := made_end17 (w0 := w0) Hst.out Hps.out (by have := HN.out; omega) (by have := HN.out; have := Hm.out; omega) HT.out hpl Hb.out (by rw [Hw0.out]; exact Hb1.out) (by rw [Hw0.out]; exact Hb2.out) (by rw [Hw0.out]; exact Hsd.out) Hb'.out hlb hlb' (by rw [Hw0.out]; exact hbd) hbr Hkw.out hkp hkW HTy.out (fun k cs hk => by
                        rcases hk with rfl | rfl
                        · exact bk_ty k1r (by decide)
                        · exact bk_ty k2r (by decide)) Hr1.out Hr2.out hop HG.out (c1 := c1) (c2 := c2)
                      rcases he with rfl | rfl
                      · exact ⟨hd, _, hres, N, T, by have := HN.out; omega, by have := HN.out; have := Hm.out; omega, HT.out, hpost⟩
                      · exact ⟨hd, _, hres, N, T, by have := HN.out; omega, by have := HN.out; have := Hm.out; omega, HT.out, hpost⟩
                    have Fin := hid fin
                    clear fin
                    have Hkb := hid kb
                    have Hkbr := hid kbr
                    have Hk1 := hid k1r
                    have Hk2 := hid k2r
                    have Hrpq := hid hrpq
                    have Hop := hid hop
                    clear kb kbr k1r k2r hrpq hop k1 k2 hbd hbr hrpc hwe k0
                    go_wp2_with fail
                    go_region_law (fail)
                    all_goals
                      go_wp2_with fail
                      rw [← Hw0.out]
                      refine Fin.out _ _ _ (.inr rfl) rfl rfl rfl ?_
                      unfold set5
                      with_reducible rfl
end Go.Proofs.Ytaehooafdbaomaa
