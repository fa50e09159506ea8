/- Chapter 13 (cyk): CykNone: walk. -/
import Derived.Test.YtbpgolmbielpgaaLaw13b
import Derived.Test.YtbpgolmbielpgaaLawArr
import Derived.Deep.CutRange
import Derived.BigQuiet
namespace Go.Proofs.Ytbpgolmbielpgaa
open Go.RowKit
attribute [local go_sem ↓] Go.wp_at_zero Go.wp_at_succ
attribute [local go_sem] frozen_alloc_lt

theorem and7' (n : Int) : ∃ m : Nat, m ≤ 7 ∧ bits .and .i64 n 7 = (m : Int) := by
  have h : (BitVec.ofInt 64 n &&& BitVec.ofInt 64 7).toNat ≤ 7 := by
    rw [BitVec.toNat_and]
    exact Nat.and_le_right
  refine ⟨(BitVec.ofInt 64 n &&& BitVec.ofInt 64 7).toNat, h, ?_⟩
  show IntKind.i64.wrap ((BitVec.ofInt 64 n &&& BitVec.ofInt 64 7).toNat : Int) = _
  rw [IntKind.wrap_i64]
  omega
theorem RowI.take {w : World} {B : Nat} {ga : Option Addr} {zs : List Int} (h : RowI w B ga zs) (k : Nat) : RowI w B ga (zs.take k) := RowI.intro fun i x hx => by
  have hx' : zs[i]? = some x := by
    rw [List.getElem?_take] at hx
    split at hx
    · exact hx
    · cases hx
  obtain ⟨hi, e⟩ := List.getElem?_eq_some_iff.1 hx'
  obtain ⟨g, o, h1, h2, h3⟩ := h.at hi
  exact ⟨g, o, h1, h2, by rw [h3, e]⟩
def zeroB (z : Int) : Bool := z == 0
def NonAt (wd : World) (rs : List Int) (res : Bool) (k : Nat) (v7 v8 : Value) (w : World) : Prop := ∃ (i : Nat) (ok : Bool), v8 = .int .i64 i ∧ v7 = .bool ok ∧ i ≤ rs.length ∧ (ok && (rs.drop i).all zeroB) = res ∧ k = rs.length - i ∧ w = wd
theorem right_dbl (rs : List Int) (h : rs.length ≤ 64) : Ck.rightB 0 1 1 dblP rs = rs.all zeroB := by
  unfold Ck.rightB
  rw [show Nf.normB 0 1 1 dblP = true from rfl, show decide (rs.length ≤ 64) = true by simp [h]]
  simp only [Bool.true_and]
  congr 1
  funext t
  unfold Ck.okW zeroB
  rw [Bool.eq_iff_iff]; simp; omega
theorem all_zero : ∀ {rs : List Int}, rs.all zeroB = true → rs = List.replicate rs.length 0
  | [], _ => rfl
  | z :: rs, h => by
    rw [List.all_cons, Bool.and_eq_true] at h
    have h1 : z = 0 := by simpa [zeroB] using h.1
    rw [List.length_cons, List.replicate_succ, ← all_zero h.2, h1]
def dblP3 : List (Int × List Int) := [(0, [-1]), (0, [0, 0]), (0, [0, 0, 0])]
theorem right_dbl3 (rs : List Int) : Ck.rightB 0 1 1 dblP3 rs = false := by
  unfold Ck.rightB
  rw [show Nf.normB 0 1 1 dblP3 = false from rfl]; rfl
theorem right_long (rs : List Int) (h : 64 < rs.length) : Ck.rightB 0 1 1 dblP rs = false := by
  unfold Ck.rightB
  rw [show decide (rs.length ≤ 64) = false by simp; omega]; simp

theorem prodInfo' : (Try.prog.info? 35).map (fun i => (i.zero, i.size, i.bytes)) = some (some (.agg #[.int .i64 0, .slice none 0 0]), 2, 32) := by kernel_rfl
theorem own_empty2 (w : World) (e : TypeId) (g : Nat) (h : w.heap[g]? = some (.cells #[] e (0, 0))) (base : Nat) (hb : base ≤ g) : w.ownsRow base e 2 (.slice (some ⟨g, 0, none⟩) 0 0) 0 [] :=
  ⟨rfl, .inr ⟨g, 0, #[], rfl, hb, h, Nat.le_refl _, by unfold maxLen; omega, rfl, rfl⟩⟩
theorem quiet_exact {P : Program} {f : Nat} {args : Array Value} {w : World} {v : Value} (h : Calls P f args w fun e w' => e = .returned v ∧ w' = w) : Calls P f args w fun e w' => e = .returned v ∧ ∃ n, w' = w.drewN n := h.mono fun _ _ ⟨a, b⟩ => ⟨a, 0, b⟩
theorem Ck.way_pos : ∀ s, s ≤ 20 → 1 ≤ s → decide (0 < Ck.wayN s) = true := by decide +kernel
set_option maxHeartbeats 8000000 in
set_option maxRecDepth 8000 in
theorem cykNone_calls (zs : List Int) (v : Value) (n a0 a1 a2 : Int) (w : World) (hv : IntsV w zs v) (ha0 : -9223372036854775808 ≤ a0) (ha1 : a0 ≤ 9223372036854775807) :
    Calls Try.prog 4 #[v, .int .i64 n, .agg #[.int .i64 a0, .int .i64 a1, .int .i64 a2]] w fun e w' => e = .returned (.bool true) ∧ Below w.heap.size w w' := by
  obtain ⟨i3, hi3, z0, z1, z2⟩ := info_parts intInfo'
  obtain ⟨i35, hi35, p0, p1, p2⟩ := info_parts prodInfo'
  obtain ⟨ga, cap, rfl, hrow, hcap, hcapm, hnil⟩ := hv
  obtain ⟨m, hm, hbits⟩ := and7' n
  obtain ⟨N, hN⟩ : ∃ N, N = m + 60 := ⟨_, rfl⟩
  have hadd : IntKind.i64.wrap (60 + (m : Int)) = (N : Int) := by rw [IntKind.wrap_i64] <;> omega
  have hN60 : 60 ≤ N := by omega
  have hN67 : N ≤ 67 := by omega
  have hk0 := Bk.new w 33 [.int .i64 a0, .int .i64 a1, .int .i64 a2]
  have hb0 : Below w.heap.size w (w.alloc (.cells #[.int .i64 a0, .int .i64 a1, .int .i64 a2] 33)) := (Below.refl _ _).alloc (Nat.le_refl _) _
  clear hN hm
  have Ha0 := hid ha0
  have Ha1 := hid ha1
  clear ha0 ha1
  go_enter Try.func4, Try.ntmps4
  go_upto_region 1 with fail
  obtain ⟨wa, hwa⟩ : ∃ wa, wa = w.alloc (.cells #[.int .i64 a0, .int .i64 a1, .int .i64 a2] 33) := ⟨_, rfl⟩
  obtain ⟨ba, hba⟩ : ∃ ba, ba = w.heap.size := ⟨_, rfl⟩
  have hrow2 := (hrow.below hb0).mono hb0.size
  rw [← hwa] at hk0 hb0 hrow2
  rw [← hwa]
  rw [← hba] at hk0
  rw [← hba]
  clear hwa hba hrow
  go_upto_region 3 with (go_at_call 14; refine (speaks13_calls _).mono ?_; rintro e w1 ⟨rfl, hb1⟩)
  have hk1 := hk0.below hb1 hk0.lt
  have hrow3 := (hrow2.below hb1).mono hb1.size
  have hbw := below0 hb0 hb1
  clear hk0 hb0 hb1 hrow2
  obtain ⟨rs, hrs⟩ : ∃ rs, rs = zs.take 20 := ⟨_, rfl⟩
  have hrow4 : RowI w1 w1.heap.size ga rs := by rw [hrs]; exact hrow3.take 20
  have hrl : rs.length = min zs.length 20 := by rw [hrs, List.length_take, Nat.min_comm]
  have hr20 : rs.length ≤ 20 := by omega
  have hrz : rs.length ≤ zs.length := by omega
  have hmin : min (zs.length : Int) 20 = (rs.length : Int) := by omega
  have hmin2 : (if (20 : Int) < (zs.length : Int) then (20 : Int) else (zs.length : Int)) = (rs.length : Int) := by split <;> omega
  have hmin3 : (if 20 < zs.length then (20 : Int) else (zs.length : Int)) = (rs.length : Int) := by split <;> omega
  have Hrow := hid hrow4
  have Hk1 := hid hk1
  have Hbw := hid hbw
  clear hrl hmin hrs hrow3 hrow4 hk1 hbw
  obtain ⟨okB, hokB⟩ : ∃ okB, okB = rs.all zeroB := ⟨_, rfl⟩
  have HokB := hid hokB
  clear hokB
  cases ga with
  | none =>
    obtain rfl : cap = 0 := hnil rfl
    obtain rfl : zs = [] := List.eq_nil_of_length_eq_zero (by omega)
    obtain rfl : rs = [] := List.eq_nil_of_length_eq_zero (by have h0 : ([] : List Int).length = 0 := rfl; omega)
    clear hmin2 hmin3 hcap hcapm hnil hrz
    go_upto_region 4 with fail
    go_wp2_with fail
    go_loopg [7, 8] 0 (fun k v7 v8 wq => NonAt w1 [] okB k v7 v8 wq)
    case atStart => exact ⟨0, true, rfl, rfl, by simp, by rw [List.drop_zero, Bool.true_and]; exact HokB.out.symm, rfl, rfl⟩
    case round =>
      obtain ⟨i, ok, rfl, rfl, hi, hres, hk, rfl⟩ := hrel
      have hi0 : i = 0 := by simpa using hi
      have hge : ¬ (i : Int) < 0 := by omega
      rw [List.drop_eq_nil_of_le (by simp), List.all_nil, Bool.and_true] at hres
      subst hres
      clear hi hk hi0
      have hk3 : ∀ W, Below wr.heap.size wr W → W.cell? ⟨ba, 0, none⟩ = some (.int .i64 a0) ∧ W.cell? ⟨ba, 1, none⟩ = some (.int .i64 a1) ∧ W.cell? ⟨ba, 2, none⟩ = some (.int .i64 a2) := fun W h => by
        have k := Hk1.out.below h Hk1.out.lt
        exact ⟨k.cell 0, k.cell 1, k.cell 2⟩
      have HK3 := hid hk3
      have hlm : ([] : List Int).length = (([] : List Int).map (Value.int .i64)).length := by simp
      have h1c : ∀ u ∈ ([] : List Int).map (Value.int .i64), u.oneCell' = true := by
        intro u hu
        obtain ⟨z, _, rfl⟩ := List.mem_map.1 hu
        rfl
      have Hlm := hid hlm
      have H1c := hid h1c
      clear hk3 hlm h1c Hk1
      cases ok with
      | true =>
        go_upto_region 10 with (first
          | (go_at_call 16; refine (doubles_calls _).mono ?_; rintro e w3 ⟨gp, rfl, hp, hb3⟩; have hcs := ints_cells ((Hrow.out.below hb3).mono hb3.size); have hcs1 := hcs.kp (S := fun _ => False) ((Kp.refl _ w3).alloc (.cells #[] 3)) (fun _ _ h => h) (fun _ _ _ h => h); have Hcs1 := hid hcs1; clear hcs hcs1)
          | (at_builtin; go_loud (refine wpList_append_cells _ rfl _ _ _ rfl w3.heap.size 3 i3 _ Try.underlying23 hi3 z0 z1 (by rw [z2]; omega) rfl (.slice (some ⟨w3.heap.size, 0, none⟩) 0 0) 0 [] (by rfl) (own_empty _ _ _ (heap_alloc_new w3 _) _ (Nat.le_refl _)) _ none ([] : List Int).length 0 (([] : List Int).map (Value.int .i64)) rfl Hlm.out Hcs1.out H1c.out (by (first | (simp; done) | (simp; omega))) (by simp) ?_); intro gv cv w4 hown hgr hat; simp only [List.length_map, Nat.zero_add, List.nil_append] at hown; obtain ⟨gv', cv', ev, hrow5⟩ := own_rowI hown; injection ev with ev1 ev2 ev3; subst ev1 ev3; have hb4 : Below w3.heap.size w3 w4 := ((Below.refl _ w3).alloc (Nat.le_refl _) _).grown hgr (by simp) (fun k hk => by simp [Value.ownBlock] at hk; omega); have Hmk : Hid (Calls Try.prog 15 #[.agg #[.int .i64 0, .int .i64 1, .int .i64 1, .bool false, .slice gp dblP.length 2], .slice gv ([] : List Int).length cv] w4 (MadeC w4 ([] : List Int).length)) := hid (make_dbl w4 gp 2 ((hp.below hb4).mono hb4.size) gv cv ([] : List Int).length (by rw [← all_zero HokB.out.symm]; exact hrow5) (by omega)); clear hown hgr hat hrow5 ev2 hp)
          | (go_at_call 15; refine (Hmk.out).mono ?_; rintro e w5 ⟨b, bc, gp', cp, ms, T, rfl, hch, hval, hok, hb5⟩))
        have hb15 := below0 (below0 hb3 hb4) hb5
        have Hch := hid hch
        have Hval := hid hval
        have Hok := hid hok
        have Hb15 := hid hb15
        clear hch hval hok hb15 hb3 hb4 hb5 Hmk Hcs1
        go_upto_region 13 with (go_at_call 16; refine (doubles_calls _).mono ?_; rintro e w6 ⟨gp6, rfl, hp6, hb6⟩)
        obtain ⟨g6, off6, gr1, cr1, rfl, hg6, hc0, hc1, hr1⟩ := hp6 0 _ rfl
        obtain ⟨g6', off6', gr2, cr2, e5, -, hc2, hc3, hr2⟩ := hp6 1 _ rfl
        simp only [Option.some.injEq, Addr.mk.injEq] at e5
        obtain ⟨rfl, rfl, -⟩ := e5
        have hbk6 := Bk.new w6 28 [.int .i64 0, .int .i64 1, .int .i64 1, .bool false, .slice (some ⟨g6, off6, none⟩) 2 2]
        have hb7 : Below w6.heap.size w6 (w6.alloc (.cells #[.int .i64 0, .int .i64 1, .int .i64 1, .bool false, .slice (some ⟨g6, off6, none⟩) 2 2] 28)) := (Below.refl _ _).alloc (Nat.le_refl _) _
        obtain ⟨w7, hw7⟩ : ∃ w7, w7 = w6.alloc (.cells #[.int .i64 0, .int .i64 1, .int .i64 1, .bool false, .slice (some ⟨g6, off6, none⟩) 2 2] 28) := ⟨_, rfl⟩
        obtain ⟨bg, hbg⟩ : ∃ bg, bg = w6.heap.size := ⟨_, rfl⟩
        rw [show dblP.length = 2 from rfl]
        rw [← hw7] at hbk6 hb7 ⊢
        rw [← hbg] at hbk6 ⊢
        have hb7' : Below w6.heap.size w6 (w7.alloc (.cells #[] 35)) := hb7.alloc hb7.size _
        have hr1' := (hr1.below hb7).mono hb7.size
        have hnews : ∀ j u, ([.int .i64 0, .slice gr1 1 cr1, .int .i64 0, .slice gr2 2 cr2] : List Value)[j]? = some u → (w7.alloc (.cells #[] 35)).cell? ((⟨g6, off6, none⟩ : Addr).add j) = some u := fun j u hj => by
          rw [add_off0 _ rfl]
          match j, hj with
          | 0, hj => injection hj with hj; subst hj; exact (hb7'.cell (p := ⟨g6, off6, none⟩) hg6).trans hc0
          | 1, hj => injection hj with hj; subst hj; exact (hb7'.cell (p := ⟨g6, off6 + 1, none⟩) hg6).trans hc1
          | 2, hj => injection hj with hj; subst hj; exact (hb7'.cell (p := ⟨g6, off6 + 2, none⟩) hg6).trans hc2
          | 3, hj => injection hj with hj; subst hj; exact (hb7'.cell (p := ⟨g6, off6 + 2 + 1, none⟩) hg6).trans hc3
          | j + 4, hj => simp at hj
        have h1n : ∀ u ∈ ([.int .i64 0, .slice gr1 1 cr1, .int .i64 0, .slice gr2 2 cr2] : List Value), u.oneCell' = true := by
          intro u hu
          simp only [List.mem_cons, List.not_mem_nil, or_false] at hu
          rcases hu with rfl | rfl | rfl | rfl <;> rfl
        have Hnews := hid hnews
        have H1n := hid h1n
        have hbga := hbk6.alloc (.cells #[] 35)
        have f4 := hbga.cell 4
        simp only [List.getElem?_cons_zero, List.getElem?_cons_succ] at f4
        have Hr1 := hid hr1
        have Hr2 := hid hr2
        have hbgl := hbk6.lt
        have hgw : w6.heap.size ≤ bg := by omega
        have Hb7' := hid hb7'
        clear hc0 hc1 hc2 hc3 hr1 hr2 hr1' hnews h1n hp6 hw7 hbg hb7'
        go_upto_region 14 with (at_builtin; go_loud (refine wpList_append_lies _ rfl _ _ _ rfl w7.heap.size 35 i35 _ 2 32 Try.underlying26 hi35 p0 p1 p2 rfl (by omega) (.slice (some ⟨w7.heap.size, 0, none⟩) 0 0) 0 [] (by rfl) (own_empty2 _ _ _ (heap_alloc_new w7 _) _ (Nat.le_refl _)) ⟨g6, off6, none⟩ 2 2 ([.int .i64 0, .slice gr1 1 cr1, .int .i64 0, .slice gr2 2 cr2] : List Value) (by rfl) rfl Hnews.out H1n.out (by omega) (by unfold maxLen; omega) (by omega) (by simp) (w7.heap.size + 1) (by simp) ?_); intro g7 c7 w8 hown8 hgr8 hat8 hlt8; have hbk8 := hbga.grown hgr8 (fun e => by simp [Value.ownBlock] at e; omega); have f48 := hbk8.cell 4; have f4f := hbk8.free 4; simp only [List.getElem?_cons_zero, List.getElem?_cons_succ] at f48)
        rw [Nat.zero_add] at hown8
        rw [List.nil_append] at hown8
        have hb8 : Below w6.heap.size w6 w8 := Hb7'.out.grown hgr8 Hb7'.out.size (fun k e => by simp [Value.ownBlock] at e; have := hb7.size; omega)
        have hg7b : w7.heap.size ≤ g7 := by
          rcases hat8 with e | e
          · simp [Value.ownBlock] at e; omega
          · omega
        have hb9 : Below w6.heap.size w6 (w8.setCell ⟨bg, 4, none⟩ (.slice (some ⟨g7, 0, none⟩) 2 c7)) := hb8.setCell (p := ⟨bg, 4, none⟩) (by exact hgw) _
        have hk89 : Kp (fun x => x = bg) w8 (w8.setCell ⟨bg, 4, none⟩ (.slice (some ⟨g7, 0, none⟩) 2 c7)) := Kp.set (S := fun x => x = bg) (p := ⟨bg, 4, none⟩) (Kp.refl _ _) (.inl rfl) _
        have hbk9 := hbk8.set 4 (.slice (some ⟨g7, 0, none⟩) 2 c7)
        have hown9 := own_kp hown8 hk89 (fun g e => by simp [Value.ownBlock] at e; omega)
        obtain ⟨w9, hw9⟩ : ∃ w9, w9 = w8.setCell ⟨bg, 4, none⟩ (.slice (some ⟨g7, 0, none⟩) 2 c7) := ⟨_, rfl⟩
        rw [← hw9] at hb9 hbk9 hown9 ⊢
        have hg79 : g7 < w9.heap.size := Nat.lt_of_lt_of_le hlt8 (by rw [hw9]; exact hk89.size)
        simp only [List.set_cons_succ, List.set_cons_zero] at hbk9
        have hb10 : Below w6.heap.size w6 ((w9.alloc (.cells #[.int .i64 0, .int .i64 0, .int .i64 0] 3)).alloc (.cells #[.int .i64 0, .slice (some ⟨w9.heap.size, 0, none⟩) 3 3] 35)) := (hb9.alloc hb9.size _).alloc (by have := hb9.size; simp; omega) _
        have hbkA := (Bk.new w9 3 ([0, 0, 0].map (Value.int .i64))).alloc (.cells #[.int .i64 0, .slice (some ⟨w9.heap.size, 0, none⟩) 3 3] 35)
        have hbkB := Bk.new (w9.alloc (.cells #[.int .i64 0, .int .i64 0, .int .i64 0] 3)) 35 [.int .i64 0, .slice (some ⟨w9.heap.size, 0, none⟩) 3 3]
        have hbgb := (hbk9.alloc (.cells #[.int .i64 0, .int .i64 0, .int .i64 0] 3)).alloc (.cells #[.int .i64 0, .slice (some ⟨w9.heap.size, 0, none⟩) 3 3] 35)
        have hownB := (hown9.alloc (.cells #[.int .i64 0, .int .i64 0, .int .i64 0] 3)).alloc (.cells #[.int .i64 0, .slice (some ⟨w9.heap.size, 0, none⟩) 3 3] 35)
        have hszA : (w9.alloc (.cells #[.int .i64 0, .int .i64 0, .int .i64 0] 3)).heap.size = w9.heap.size + 1 := by simp
        have hszB : ((w9.alloc (.cells #[.int .i64 0, .int .i64 0, .int .i64 0] 3)).alloc (.cells #[.int .i64 0, .slice (some ⟨w9.heap.size, 0, none⟩) 3 3] 35)).heap.size = w9.heap.size + 1 + 1 := by simp
        have hnews2 : ∀ j u, ([.int .i64 0, .slice (some ⟨w9.heap.size, 0, none⟩) 3 3] : List Value)[j]? = some u → ((w9.alloc (.cells #[.int .i64 0, .int .i64 0, .int .i64 0] 3)).alloc (.cells #[.int .i64 0, .slice (some ⟨w9.heap.size, 0, none⟩) 3 3] 35)).cell? ((⟨w9.heap.size + 1, 0, none⟩ : Addr).add j) = some u := fun j u hj => by
          rw [add_off0 _ rfl]
          simp only [Nat.zero_add]
          rw [hszA] at hbkB
          exact (hbkB.cell j).trans hj
        have h1n2 : ∀ u ∈ ([.int .i64 0, .slice (some ⟨w9.heap.size, 0, none⟩) 3 3] : List Value), u.oneCell' = true := by
          intro u hu
          simp only [List.mem_cons, List.not_mem_nil, or_false] at hu
          rcases hu with rfl | rfl <;> rfl
        have f9 := hbk9.cell 4
        have f9b := hbgb.cell 4
        simp only [List.getElem?_cons_zero, List.getElem?_cons_succ] at f9 f9b
        have Hnews2 := hid hnews2
        have H1n2 := hid h1n2
        have Hb10 := hid hb10
        have hbgl9 : bg < w9.heap.size := hbk9.lt
        clear hnews2 h1n2 hb10 hb8 hb9 hk89 hown8 hgr8 hat8 hlt8 hbk8 f48 f4f hown9 hw9 hbga f4 hbk6 hb7 Hnews H1n Hb7' hbkB hbk9
        go_upto_region 15 with (at_builtin; go_loud (refine wpList_append_lies _ rfl _ _ _ rfl w7.heap.size 35 i35 _ 2 32 Try.underlying26 hi35 p0 p1 p2 rfl (by omega) (.slice (some ⟨g7, 0, none⟩) 2 c7) 2 _ (by rfl) hownB ⟨w9.heap.size + 1, 0, none⟩ 1 1 [.int .i64 0, .slice (some ⟨w9.heap.size, 0, none⟩) 3 3] (by rfl) rfl Hnews2.out H1n2.out (by omega) (by unfold maxLen; omega) (by omega) (by rw [hszB]; omega) _ rfl ?_); intro g8 c8 w10 hown10 hgr10 hat10 hlt10; have hbk10 := hbgb.grown hgr10 (fun e => by simp [Value.ownBlock] at e; omega); have f10 := hbk10.cell 4; have f10f := hbk10.free 4; simp only [List.getElem?_cons_zero, List.getElem?_cons_succ] at f10)
        have hg8b : w7.heap.size ≤ g8 := by
          rcases hat10 with e | e
          · simp [Value.ownBlock] at e; omega
          · rw [hszB] at e; omega
        have hb11 : Below w6.heap.size w6 (w10.setCell ⟨bg, 4, none⟩ (.slice (some ⟨g8, 0, none⟩) 3 c8)) := (Hb10.out.grown hgr10 Hb10.out.size (fun k e => by simp [Value.ownBlock] at e; omega)).setCell (p := ⟨bg, 4, none⟩) (by exact hgw) _
        have hk11 : Kp (fun x => x = bg) w10 (w10.setCell ⟨bg, 4, none⟩ (.slice (some ⟨g8, 0, none⟩) 3 c8)) := Kp.set (S := fun x => x = bg) (p := ⟨bg, 4, none⟩) (Kp.refl _ _) (.inl rfl) _
        have hbk11 := hbk10.set 4 (.slice (some ⟨g8, 0, none⟩) 3 c8)
        have hown11 := own_kp hown10 hk11 (fun g e => by simp [Value.ownBlock] at e; omega)
        have hbkA11 := (hbkA.grown hgr10 (fun e => by simp [Value.ownBlock] at e; omega)).kp hk11 (by omega)
        obtain ⟨w11, hw11⟩ : ∃ w11, w11 = w10.setCell ⟨bg, 4, none⟩ (.slice (some ⟨g8, 0, none⟩) 3 c8) := ⟨_, rfl⟩
        rw [← hw11] at hb11 hbk11 hown11 hbkA11 ⊢
        simp only [List.set_cons_succ, List.set_cons_zero] at hbk11
        have hrowA := bk_rowI hbkA11
        have hp3 : RowP w11 w11.heap.size (some ⟨g8, 0, none⟩) dblP3 := by
          obtain ⟨ga8, cap8, e8, hcl⟩ := own_slice hown11
          injection e8 with e8a e8b e8c
          subst e8a
          have hc : ∀ (j : Nat) u, (([.int .i64 0, .slice gr1 1 cr1, .int .i64 0, .slice gr2 2 cr2] : List Value) ++ [.int .i64 0, .slice (some ⟨w9.heap.size, 0, none⟩) 3 3])[j]? = some u → g8 < w11.heap.size ∧ w11.cell? ⟨g8, j, none⟩ = some u := fun j u hj => by
            obtain ⟨g, e, -, hlt, h⟩ := hcl j u hj
            injection e with e
            injection e with e
            rw [e]; exact ⟨hlt, h⟩
          intro i x hx
          match i, hx with
          | 0, hx => injection hx with hx; subst hx; exact ⟨g8, 0, gr1, cr1, rfl, (hc 0 _ rfl).1, (hc 0 _ rfl).2, (hc 1 _ rfl).2, (Hr1.out.below hb11).mono hb11.size⟩
          | 1, hx => injection hx with hx; subst hx; exact ⟨g8, 0, gr2, cr2, rfl, (hc 0 _ rfl).1, (hc 2 _ rfl).2, (hc 3 _ rfl).2, (Hr2.out.below hb11).mono hb11.size⟩
          | 2, hx => injection hx with hx; subst hx; exact ⟨g8, 0, some ⟨w9.heap.size, 0, none⟩, 3, rfl, (hc 0 _ rfl).1, (hc 4 _ rfl).2, (hc 5 _ rfl).2, hrowA⟩
          | i + 3, hx => simp [dblP3] at hx
        have Hp3 := hid hp3
        have Hbk11 := hid hbk11
        have Hb11 := hid (below0 hb6 hb11)
        clear hp3 hbk11 hb11 hrowA hbkA11 hown11 hk11 hbk10 hown10 hgr10 hat10 hlt10 f10 f10f hw11 hbkA hbgb hownB hszA hszB f9 f9b Hnews2 H1n2 Hb10 Hr1 Hr2 hb6
        have hS : ∀ W, Below w11.heap.size w11 W → W.cell? ⟨bg, 0, none⟩ = some (.int .i64 0) ∧ W.cell? ⟨bg, 1, none⟩ = some (.int .i64 1) ∧ W.cell? ⟨bg, 2, none⟩ = some (.int .i64 1) ∧ W.cell? ⟨bg, 3, none⟩ = some (.bool false) ∧ W.cell? ⟨bg, 4, none⟩ = some (.slice (some ⟨g8, 0, none⟩) 3 c8) := fun W h => by
          have k := Hbk11.out.below h Hbk11.out.lt
          exact ⟨k.cell 0, k.cell 1, k.cell 2, k.cell 3, k.cell 4⟩
        have HS := hid hS
        have hmk1 : ∀ W, Below w11.heap.size w11 W → Calls Try.prog 15 #[.agg #[.int .i64 0, .int .i64 1, .int .i64 1, .bool false, .slice (some ⟨g8, 0, none⟩) 3 c8], .slice none 0 0] W fun e w' => e = .returned (.pointer none) ∧ Below W.heap.size W w' := fun W h => make_no W 0 1 1 false (some ⟨g8, 0, none⟩) c8 dblP3 ((Hp3.out.below h).mono h.size) (by decide) (fun x hx => by simp [dblP3] at hx; rcases hx with rfl | rfl | rfl <;> decide) (by decide) none 0 [] (fun i hi => by simp at hi) (by simp) (right_dbl3 [])
        have Hmk1 := hid hmk1
        have hdr : Below w11.heap.size w11 w11.drew := below_drewN (Below.refl _ _) 1
        obtain ⟨q0, q1, q2, q3, q4⟩ := hS _ hdr
        have Hdr := hid hdr
        have e1c : (madeCells (Value.int .i64 0).cells (N * 1)).toList = List.replicate N (.int .i64 0) := by
          simp [madeCells, Value.cells, Nat.mod_one, List.map_const']
        have He1c := hid e1c
        clear hS hmk1 hdr e1c
        go_upto_region 16 with fail
        go_cut [71] from 59 to 71 (fun v71 wx => v71 = .bool false ∧ Below w11.heap.size w11 wx)
        case first =>
          by_cases hNle : N ≤ 64
          · have hNb : decide ((N : Int) ≤ 64) = true := by simp; omega
            have hNb2 : decide (N ≤ 64) = true := by simp; omega
            have hNb3 : (N : Int) ≤ 64 := by omega
            go_region_held3 (fun w' => w'.cell? ⟨bg, 0, none⟩ = some (.int .i64 0) ∧ w'.cell? ⟨bg, 1, none⟩ = some (.int .i64 1) ∧ w'.cell? ⟨bg, 2, none⟩ = some (.int .i64 1) ∧ w'.cell? ⟨bg, 3, none⟩ = some (.bool false) ∧ w'.cell? ⟨bg, 4, none⟩ = some (.slice (some ⟨g8, 0, none⟩) 3 c8))
              (first | exact ⟨‹_›, ‹_›, ‹_›, ‹_›, ‹_›⟩)
              (first
                | (go_at_call 15; refine (HmkB.out).mono ?_; rintro e w15 ⟨b2, bc2, gp2, cp2, ms2, T2, rfl, -, -, -, hb15'⟩; obtain ⟨q50, q51, q52, q53, q54⟩ := HS.out w15 (below0 H13.out hb15'); have H15 := hid (below0 H13.out hb15'))
                | (go_at_call 15; refine (HmkA.out).mono ?_; rintro e w15 ⟨b2, bc2, gp2, cp2, ms2, T2, rfl, -, -, -, hb15'⟩; obtain ⟨q50, q51, q52, q53, q54⟩ := HS.out w15 (below0 H16.out hb15'); have H15 := hid (below0 H16.out hb15'))
                | (go_at_call 15; refine (Hmk1.out _ Hdr.out).mono ?_; rintro e w12 ⟨rfl, hb12⟩; have H12 := hid (below0 Hdr.out hb12); obtain ⟨q20, q21, q22, q23, q24⟩ := HS.out w12 H12.out; obtain ⟨w14, hrun14, hown14, hg14⟩ := run_make_full (P := Try.prog) (w := w12) w12.heap.size 23 3 i3 (.int .i64 0) 1 Try.underlying23 hi3 z0 z1 .i64 .i64 N (by rw [z2]; omega) (by unfold maxLen; omega) (Nat.le_refl _); have hbm14 : Below w12.heap.size w12 w14 := (Below.refl _ _).grown hg14 (Nat.le_refl _) (fun k e => by cases e); have Hrow14 : Hid (RowI w14 w14.heap.size (some ⟨w12.heap.size, 0, none⟩) (List.replicate N 0)) := hid (bk_rowI (by rw [List.map_replicate, ← He1c.out]; exact bk_full hown14)); clear hown14; have H14 := hid (below0 H12.out hbm14); obtain ⟨q40, q41, q42, q43, q44⟩ := HS.out w14 H14.out)
                | (go_at_call 16; refine (doubles_calls _).mono ?_; rintro e w13 ⟨gp13, rfl, hp13, hb13⟩; have Hp13 := hid hp13; clear hp13; (first | (have H13 := hid (below0 H14.out hb13)) | (have H13 := hid (below0 H12.out hb13))); obtain ⟨q30, q31, q32, q33, q34⟩ := HS.out w13 H13.out; obtain ⟨w16, hrun16, hown16, hg16⟩ := run_make_full (P := Try.prog) (w := w13) w13.heap.size 23 3 i3 (.int .i64 0) 1 Try.underlying23 hi3 z0 z1 .i64 .i64 N (by rw [z2]; omega) (by unfold maxLen; omega) (Nat.le_refl _); have hbm16 : Below w13.heap.size w13 w16 := (Below.refl _ _).grown hg16 (Nat.le_refl _) (fun k e => by cases e); have Hrow16 : Hid (RowI w16 w16.heap.size (some ⟨w13.heap.size, 0, none⟩) (List.replicate N 0)) := hid (bk_rowI (by rw [List.map_replicate, ← He1c.out]; exact bk_full hown16)); clear hown16; have H16 := hid (below0 H13.out hbm16); obtain ⟨q60, q61, q62, q63, q64⟩ := HS.out w16 H16.out; have HmkA : Hid (Calls Try.prog 15 #[.agg #[.int .i64 0, .int .i64 1, .int .i64 1, .bool false, .slice gp13 dblP.length 2], .slice (some ⟨w13.heap.size, 0, none⟩) N N] w16 (MadeC w16 N)) := hid (make_dbl w16 gp13 2 ((Hp13.out.below hbm16).mono hbm16.size) _ N N Hrow16.out hNle); (try (have HmkB : Hid (Calls Try.prog 15 #[.agg #[.int .i64 0, .int .i64 1, .int .i64 1, .bool false, .slice gp13 dblP.length 2], .slice (some ⟨w12.heap.size, 0, none⟩) N N] w13 (MadeC w13 N)) := hid (make_dbl w13 gp13 2 Hp13.out _ N N ((Hrow14.out.below hb13).mono hb13.size) hNle)))))
            all_goals
              go_wp2_with fail
              go_meet
              case rel => exact ⟨rfl, H15.out⟩
          · have hNb : decide ((N : Int) ≤ 64) = false := by simp; omega
            have hNb2 : decide (N ≤ 64) = false := by simp; omega
            have hNb3 : ¬ (N : Int) ≤ 64 := by omega
            go_region_held3 (fun w' => w'.cell? ⟨bg, 0, none⟩ = some (.int .i64 0) ∧ w'.cell? ⟨bg, 1, none⟩ = some (.int .i64 1) ∧ w'.cell? ⟨bg, 2, none⟩ = some (.int .i64 1) ∧ w'.cell? ⟨bg, 3, none⟩ = some (.bool false) ∧ w'.cell? ⟨bg, 4, none⟩ = some (.slice (some ⟨g8, 0, none⟩) 3 c8))
              (first | exact ⟨‹_›, ‹_›, ‹_›, ‹_›, ‹_›⟩)
              (first
                | (go_at_call 15; refine (HmkB.out).mono ?_; rintro e w15 ⟨rfl, hb15'⟩; obtain ⟨q50, q51, q52, q53, q54⟩ := HS.out w15 (below0 H13.out hb15'); have H15 := hid (below0 H13.out hb15'))
                | (go_at_call 15; refine (HmkA.out).mono ?_; rintro e w15 ⟨rfl, hb15'⟩; obtain ⟨q50, q51, q52, q53, q54⟩ := HS.out w15 (below0 H16.out hb15'); have H15 := hid (below0 H16.out hb15'))
                | (go_at_call 15; refine (Hmk1.out _ Hdr.out).mono ?_; rintro e w12 ⟨rfl, hb12⟩; have H12 := hid (below0 Hdr.out hb12); obtain ⟨q20, q21, q22, q23, q24⟩ := HS.out w12 H12.out; obtain ⟨w14, hrun14, hown14, hg14⟩ := run_make_full (P := Try.prog) (w := w12) w12.heap.size 23 3 i3 (.int .i64 0) 1 Try.underlying23 hi3 z0 z1 .i64 .i64 N (by rw [z2]; omega) (by unfold maxLen; omega) (Nat.le_refl _); have hbm14 : Below w12.heap.size w12 w14 := (Below.refl _ _).grown hg14 (Nat.le_refl _) (fun k e => by cases e); have Hrow14 : Hid (RowI w14 w14.heap.size (some ⟨w12.heap.size, 0, none⟩) (List.replicate N 0)) := hid (bk_rowI (by rw [List.map_replicate, ← He1c.out]; exact bk_full hown14)); clear hown14; have H14 := hid (below0 H12.out hbm14); obtain ⟨q40, q41, q42, q43, q44⟩ := HS.out w14 H14.out)
                | (go_at_call 16; refine (doubles_calls _).mono ?_; rintro e w13 ⟨gp13, rfl, hp13, hb13⟩; have Hp13 := hid hp13; clear hp13; (first | (have H13 := hid (below0 H14.out hb13)) | (have H13 := hid (below0 H12.out hb13))); obtain ⟨q30, q31, q32, q33, q34⟩ := HS.out w13 H13.out; obtain ⟨w16, hrun16, hown16, hg16⟩ := run_make_full (P := Try.prog) (w := w13) w13.heap.size 23 3 i3 (.int .i64 0) 1 Try.underlying23 hi3 z0 z1 .i64 .i64 N (by rw [z2]; omega) (by unfold maxLen; omega) (Nat.le_refl _); have hbm16 : Below w13.heap.size w13 w16 := (Below.refl _ _).grown hg16 (Nat.le_refl _) (fun k e => by cases e); have Hrow16 : Hid (RowI w16 w16.heap.size (some ⟨w13.heap.size, 0, none⟩) (List.replicate N 0)) := hid (bk_rowI (by rw [List.map_replicate, ← He1c.out]; exact bk_full hown16)); clear hown16; have H16 := hid (below0 H13.out hbm16); obtain ⟨q60, q61, q62, q63, q64⟩ := HS.out w16 H16.out; have HmkA : Hid (Calls Try.prog 15 #[.agg #[.int .i64 0, .int .i64 1, .int .i64 1, .bool false, .slice gp13 dblP.length 2], .slice (some ⟨w13.heap.size, 0, none⟩) N N] w16 fun e w' => e = .returned (.pointer none) ∧ Below w16.heap.size w16 w') := hid (by have h := make_no w16 0 1 1 false gp13 2 dblP ((Hp13.out.below hbm16).mono hbm16.size) (by decide) (fun x hx => by simp [dblP] at hx; rcases hx with rfl | rfl <;> decide) (by decide) (some ⟨w13.heap.size, 0, none⟩) N (List.replicate N 0) Hrow16.out (by simp; omega) (right_long _ (by simp; omega)); rw [List.length_replicate] at h; exact h); (try (have HmkB : Hid (Calls Try.prog 15 #[.agg #[.int .i64 0, .int .i64 1, .int .i64 1, .bool false, .slice gp13 dblP.length 2], .slice (some ⟨w12.heap.size, 0, none⟩) N N] w13 fun e w' => e = .returned (.pointer none) ∧ Below w13.heap.size w13 w') := hid (by have h := make_no w13 0 1 1 false gp13 2 dblP Hp13.out (by decide) (fun x hx => by simp [dblP] at hx; rcases hx with rfl | rfl <;> decide) (by decide) (some ⟨w12.heap.size, 0, none⟩) N (List.replicate N 0) ((Hrow14.out.below hb13).mono hb13.size) (by simp; omega) (right_long _ (by simp; omega)); rw [List.length_replicate] at h; exact h)))))
            all_goals
              go_wp2_with fail
              go_meet
              case rel => exact ⟨rfl, H15.out⟩
        case rest =>
          obtain ⟨rfl, hb15⟩ := hcut
          clear q0 q1 q2 q3 q4 HS Hmk1 Hdr Hbk11 Hp3
          go_upto_region 18 with fail
          have hbc := below0 Hb15.out (below0 Hb11.out hb15)
          obtain ⟨x0, x1, x2⟩ := HK3.out _ hbc
          go_cut [11] from 72 to 91 (fun v11 wx => v11 = .bool (decide (0 ≤ a1 ∧ a1 < a2 ∧ a2 ≤ ([] : List Int).length)) ∧ wx = wc)
          case first =>
            by_cases d1 : 0 ≤ a1
            · have d1b : decide (0 ≤ a1) = true := by simp [d1]
              by_cases d2 : a1 < a2
              · have d2b : decide (a1 < a2) = true := by simp [d2]
                by_cases d3 : a2 ≤ (([] : List Int).length : Int)
                · have d3b : decide (a2 ≤ 0) = true := by have h : a2 ≤ 0 := d3; simp [h]
                  go_wp2_with fail
                  go_meet
                  case rel => exact ⟨by rw [decide_eq_true (show 0 ≤ a1 ∧ a1 < a2 ∧ a2 ≤ (([] : List Int).length : Int) from ⟨d1, d2, d3⟩)], rfl⟩
                · have d3b : decide (a2 ≤ 0) = false := by have h : ¬ a2 ≤ 0 := d3; simp; omega
                  go_wp2_with fail
                  go_meet
                  case rel => exact ⟨by rw [decide_eq_false (show ¬ (0 ≤ a1 ∧ a1 < a2 ∧ a2 ≤ (([] : List Int).length : Int)) by omega)], rfl⟩
              · have d2b : decide (a1 < a2) = false := by simp; omega
                go_wp2_with fail
                go_meet
                case rel => exact ⟨by rw [decide_eq_false (show ¬ (0 ≤ a1 ∧ a1 < a2 ∧ a2 ≤ (([] : List Int).length : Int)) by omega)], rfl⟩
            · have d1b : decide (0 ≤ a1) = false := by simp; omega
              go_wp2_with fail
              go_meet
              case rel => exact ⟨by rw [decide_eq_false (show ¬ (0 ≤ a1 ∧ a1 < a2 ∧ a2 ≤ (([] : List Int).length : Int)) by omega)], rfl⟩
          case rest =>
            obtain ⟨rfl, hwx⟩ := hcut
            subst hwx
            have H20 := hid (Hch.out.later (below0 (below0 Hb11.out hb15) (below_drewN (Below.refl _ _) 1)))
            have Hbd := hid (below0 hbc (below_drewN (Below.refl _ _) 1))
            obtain ⟨c0, c1, c2⟩ := HK3.out _ Hbd.out
            have H20n : Hid (∀ k, Chart (wc.drewN k) b bc ([] : List Int).length 0 1 1 false gp' 2 cp ms T) := hid (fun k => Hch.out.later (below0 (below0 Hb11.out hb15) (below_drewN (Below.refl _ _) k)))
            have Hbn : Hid (∀ k, Below wr.heap.size wr (wc.drewN k)) := hid (fun k => below0 hbc (below_drewN (Below.refl _ _) k))
            clear hb15 hbc
            by_cases hth : 0 ≤ a1 ∧ a1 < a2 ∧ a2 ≤ (([] : List Int).length : Int)
            · have hl0 : ([] : List Int).length = 0 := rfl
              exact absurd hth (by omega)
            · rw [decide_eq_false hth]
              have Hth := hid hth
              clear hth
              go_upto_region 20 with fail
              go_quiet (first
                | (go_at_call 20; refine Calls.quiet_of (quiet_exact (has_no (H20n.out _) a1 a2 _ Hth.out)))
                | (go_at_call_of 21 (Value.pointer (some ⟨b, 0, none⟩)); refine Calls.quiet_of (quiet_exact (cell_no (H20n.out _) a1 a2 Hth.out)))
                | (go_at_call 22; refine Calls.quiet_of (quiet_exact (yes_nil _)))
                | (go_at_call 18; refine Calls.quiet_of (quiet_exact (trees_nil _)))
                | (go_at_call 19; refine Calls.quiet_of (quiet_exact (amb_nil _)))
                | (go_at_call_of 21 (Value.pointer none); refine Calls.quiet_of (quiet_exact (cell_nil _ _ _))))
              go_wp2_with fail
              go_ret
              exact ⟨rfl, below0 Hbw.out (Hbn.out _)⟩
      | false => exact absurd HokB.out (by simp)
  | some ad =>
    go_upto_region 4 with fail
    go_wp2_with fail
    go_loopg [7, 8] rs.length (fun k v7 v8 wq => NonAt w1 rs okB k v7 v8 wq)
    case atStart => exact ⟨0, true, rfl, rfl, by omega, by rw [List.drop_zero, Bool.true_and]; exact HokB.out.symm, rfl, rfl⟩
    case round =>
      obtain ⟨i, ok, rfl, rfl, hi, hres, hk, rfl⟩ := hrel
      have Hk := hid hk
      clear hk
      by_cases hlt : i < rs.length
      · have hlt' : (i : Int) < (rs.length : Int) := by omega
        have hi0 : (0 : Int) ≤ (i : Int) := by omega
        obtain ⟨g, o, e, hg, hc⟩ := Hrow.out.at hlt
        injection e with e
        subst e
        obtain ⟨x, hx⟩ : ∃ x, x = rs[i] := ⟨_, rfl⟩
        rw [← hx] at hc
        rw [List.drop_eq_getElem_cons hlt, ← hx, List.all_cons] at hres
        rw [show zeroB x = (x == 0) from rfl] at hres
        have Hres := hid hres
        clear hres hx hg
        cases ok with
        | false =>
          go_wp2_with fail
          go_roundg (rs.length - (i + 1))
          case measure => have hk := Hk.out; omega
          case rel => exact ⟨i + 1, false, by go_num, rfl, by omega, by rw [← Hres.out]; simp, rfl, rfl⟩
        | true =>
          by_cases hx0 : x = 0
          · have hxb : (x == 0) = true := by simp [hx0]
            go_wp2_with fail
            go_roundg (rs.length - (i + 1))
            case measure => have hk := Hk.out; omega
            case rel => exact ⟨i + 1, true, by go_num, rfl, by omega, by rw [← Hres.out, hxb]; simp, rfl, rfl⟩
          · have hxb : (x == 0) = false := by simp [hx0]
            go_wp2_with fail
            go_roundg (rs.length - (i + 1))
            case measure => have hk := Hk.out; omega
            case rel => exact ⟨i + 1, false, by go_num, rfl, by omega, by rw [← Hres.out, hxb]; simp, rfl, rfl⟩
      · have hge : ¬ (i : Int) < (rs.length : Int) := by omega
        rw [List.drop_eq_nil_of_le (by omega), List.all_nil, Bool.and_true] at hres
        subst hres
        clear hi Hk
        have hk3 : ∀ W, Below wr.heap.size wr W → W.cell? ⟨ba, 0, none⟩ = some (.int .i64 a0) ∧ W.cell? ⟨ba, 1, none⟩ = some (.int .i64 a1) ∧ W.cell? ⟨ba, 2, none⟩ = some (.int .i64 a2) := fun W h => by
          have k := Hk1.out.below h Hk1.out.lt
          exact ⟨k.cell 0, k.cell 1, k.cell 2⟩
        have HK3 := hid hk3
        have hlm : rs.length = (rs.map (Value.int .i64)).length := by simp
        have h1c : ∀ u ∈ rs.map (Value.int .i64), u.oneCell' = true := by
          intro u hu
          obtain ⟨z, _, rfl⟩ := List.mem_map.1 hu
          rfl
        have Hlm := hid hlm
        have H1c := hid h1c
        clear hk3 hlm h1c Hk1
        cases ok with
        | true =>
          go_upto_region 10 with (first
            | (go_at_call 16; refine (doubles_calls _).mono ?_; rintro e w3 ⟨gp, rfl, hp, hb3⟩; have hcs := ints_cells ((Hrow.out.below hb3).mono hb3.size); have hcs1 := hcs.kp (S := fun _ => False) ((Kp.refl _ w3).alloc (.cells #[] 3)) (fun _ _ h => h) (fun _ _ _ h => h); have Hcs1 := hid hcs1; clear hcs hcs1)
            | (at_builtin; go_loud (refine wpList_append_cells _ rfl _ _ _ rfl w3.heap.size 3 i3 _ Try.underlying23 hi3 z0 z1 (by rw [z2]; omega) rfl (.slice (some ⟨w3.heap.size, 0, none⟩) 0 0) 0 [] (by rfl) (own_empty _ _ _ (heap_alloc_new w3 _) _ (Nat.le_refl _)) _ (some _) rs.length cap (rs.map (Value.int .i64)) rfl Hlm.out Hcs1.out H1c.out (by (first | (simp; done) | (simp; omega))) (by simp) ?_); intro gv cv w4 hown hgr hat; simp only [List.length_map, Nat.zero_add, List.nil_append] at hown; obtain ⟨gv', cv', ev, hrow5⟩ := own_rowI hown; injection ev with ev1 ev2 ev3; subst ev1 ev3; have hb4 : Below w3.heap.size w3 w4 := ((Below.refl _ w3).alloc (Nat.le_refl _) _).grown hgr (by simp) (fun k hk => by simp [Value.ownBlock] at hk; omega); have Hmk : Hid (Calls Try.prog 15 #[.agg #[.int .i64 0, .int .i64 1, .int .i64 1, .bool false, .slice gp dblP.length 2], .slice gv rs.length cv] w4 (MadeC w4 rs.length)) := hid (make_dbl w4 gp 2 ((hp.below hb4).mono hb4.size) gv cv rs.length (by rw [← all_zero HokB.out.symm]; exact hrow5) (by omega)); clear hown hgr hat hrow5 ev2 hp)
            | (go_at_call 15; refine (Hmk.out).mono ?_; rintro e w5 ⟨b, bc, gp', cp, ms, T, rfl, hch, hval, hok, hb5⟩))
          have hb15 := below0 (below0 hb3 hb4) hb5
          have Hch := hid hch
          have Hval := hid hval
          have Hok := hid hok
          have Hb15 := hid hb15
          clear hch hval hok hb15 hb3 hb4 hb5 Hmk Hcs1
          go_upto_region 13 with (go_at_call 16; refine (doubles_calls _).mono ?_; rintro e w6 ⟨gp6, rfl, hp6, hb6⟩)
          obtain ⟨g6, off6, gr1, cr1, rfl, hg6, hc0, hc1, hr1⟩ := hp6 0 _ rfl
          obtain ⟨g6', off6', gr2, cr2, e5, -, hc2, hc3, hr2⟩ := hp6 1 _ rfl
          simp only [Option.some.injEq, Addr.mk.injEq] at e5
          obtain ⟨rfl, rfl, -⟩ := e5
          have hbk6 := Bk.new w6 28 [.int .i64 0, .int .i64 1, .int .i64 1, .bool false, .slice (some ⟨g6, off6, none⟩) 2 2]
          have hb7 : Below w6.heap.size w6 (w6.alloc (.cells #[.int .i64 0, .int .i64 1, .int .i64 1, .bool false, .slice (some ⟨g6, off6, none⟩) 2 2] 28)) := (Below.refl _ _).alloc (Nat.le_refl _) _
          obtain ⟨w7, hw7⟩ : ∃ w7, w7 = w6.alloc (.cells #[.int .i64 0, .int .i64 1, .int .i64 1, .bool false, .slice (some ⟨g6, off6, none⟩) 2 2] 28) := ⟨_, rfl⟩
          obtain ⟨bg, hbg⟩ : ∃ bg, bg = w6.heap.size := ⟨_, rfl⟩
          rw [show dblP.length = 2 from rfl]
          rw [← hw7] at hbk6 hb7 ⊢
          rw [← hbg] at hbk6 ⊢
          have hb7' : Below w6.heap.size w6 (w7.alloc (.cells #[] 35)) := hb7.alloc hb7.size _
          have hr1' := (hr1.below hb7).mono hb7.size
          have hnews : ∀ j u, ([.int .i64 0, .slice gr1 1 cr1, .int .i64 0, .slice gr2 2 cr2] : List Value)[j]? = some u → (w7.alloc (.cells #[] 35)).cell? ((⟨g6, off6, none⟩ : Addr).add j) = some u := fun j u hj => by
            rw [add_off0 _ rfl]
            match j, hj with
            | 0, hj => injection hj with hj; subst hj; exact (hb7'.cell (p := ⟨g6, off6, none⟩) hg6).trans hc0
            | 1, hj => injection hj with hj; subst hj; exact (hb7'.cell (p := ⟨g6, off6 + 1, none⟩) hg6).trans hc1
            | 2, hj => injection hj with hj; subst hj; exact (hb7'.cell (p := ⟨g6, off6 + 2, none⟩) hg6).trans hc2
            | 3, hj => injection hj with hj; subst hj; exact (hb7'.cell (p := ⟨g6, off6 + 2 + 1, none⟩) hg6).trans hc3
            | j + 4, hj => simp at hj
          have h1n : ∀ u ∈ ([.int .i64 0, .slice gr1 1 cr1, .int .i64 0, .slice gr2 2 cr2] : List Value), u.oneCell' = true := by
            intro u hu
            simp only [List.mem_cons, List.not_mem_nil, or_false] at hu
            rcases hu with rfl | rfl | rfl | rfl <;> rfl
          have Hnews := hid hnews
          have H1n := hid h1n
          have hbga := hbk6.alloc (.cells #[] 35)
          have f4 := hbga.cell 4
          simp only [List.getElem?_cons_zero, List.getElem?_cons_succ] at f4
          have Hr1 := hid hr1
          have Hr2 := hid hr2
          have hbgl := hbk6.lt
          have hgw : w6.heap.size ≤ bg := by omega
          have Hb7' := hid hb7'
          clear hc0 hc1 hc2 hc3 hr1 hr2 hr1' hnews h1n hp6 hw7 hbg hb7'
          go_upto_region 14 with (at_builtin; go_loud (refine wpList_append_lies _ rfl _ _ _ rfl w7.heap.size 35 i35 _ 2 32 Try.underlying26 hi35 p0 p1 p2 rfl (by omega) (.slice (some ⟨w7.heap.size, 0, none⟩) 0 0) 0 [] (by rfl) (own_empty2 _ _ _ (heap_alloc_new w7 _) _ (Nat.le_refl _)) ⟨g6, off6, none⟩ 2 2 ([.int .i64 0, .slice gr1 1 cr1, .int .i64 0, .slice gr2 2 cr2] : List Value) (by rfl) rfl Hnews.out H1n.out (by omega) (by unfold maxLen; omega) (by omega) (by simp) (w7.heap.size + 1) (by simp) ?_); intro g7 c7 w8 hown8 hgr8 hat8 hlt8; have hbk8 := hbga.grown hgr8 (fun e => by simp [Value.ownBlock] at e; omega); have f48 := hbk8.cell 4; have f4f := hbk8.free 4; simp only [List.getElem?_cons_zero, List.getElem?_cons_succ] at f48)
          rw [Nat.zero_add] at hown8
          rw [List.nil_append] at hown8
          have hb8 : Below w6.heap.size w6 w8 := Hb7'.out.grown hgr8 Hb7'.out.size (fun k e => by simp [Value.ownBlock] at e; have := hb7.size; omega)
          have hg7b : w7.heap.size ≤ g7 := by
            rcases hat8 with e | e
            · simp [Value.ownBlock] at e; omega
            · omega
          have hb9 : Below w6.heap.size w6 (w8.setCell ⟨bg, 4, none⟩ (.slice (some ⟨g7, 0, none⟩) 2 c7)) := hb8.setCell (p := ⟨bg, 4, none⟩) (by exact hgw) _
          have hk89 : Kp (fun x => x = bg) w8 (w8.setCell ⟨bg, 4, none⟩ (.slice (some ⟨g7, 0, none⟩) 2 c7)) := Kp.set (S := fun x => x = bg) (p := ⟨bg, 4, none⟩) (Kp.refl _ _) (.inl rfl) _
          have hbk9 := hbk8.set 4 (.slice (some ⟨g7, 0, none⟩) 2 c7)
          have hown9 := own_kp hown8 hk89 (fun g e => by simp [Value.ownBlock] at e; omega)
          obtain ⟨w9, hw9⟩ : ∃ w9, w9 = w8.setCell ⟨bg, 4, none⟩ (.slice (some ⟨g7, 0, none⟩) 2 c7) := ⟨_, rfl⟩
          rw [← hw9] at hb9 hbk9 hown9 ⊢
          have hg79 : g7 < w9.heap.size := Nat.lt_of_lt_of_le hlt8 (by rw [hw9]; exact hk89.size)
          simp only [List.set_cons_succ, List.set_cons_zero] at hbk9
          have hb10 : Below w6.heap.size w6 ((w9.alloc (.cells #[.int .i64 0, .int .i64 0, .int .i64 0] 3)).alloc (.cells #[.int .i64 0, .slice (some ⟨w9.heap.size, 0, none⟩) 3 3] 35)) := (hb9.alloc hb9.size _).alloc (by have := hb9.size; simp; omega) _
          have hbkA := (Bk.new w9 3 ([0, 0, 0].map (Value.int .i64))).alloc (.cells #[.int .i64 0, .slice (some ⟨w9.heap.size, 0, none⟩) 3 3] 35)
          have hbkB := Bk.new (w9.alloc (.cells #[.int .i64 0, .int .i64 0, .int .i64 0] 3)) 35 [.int .i64 0, .slice (some ⟨w9.heap.size, 0, none⟩) 3 3]
          have hbgb := (hbk9.alloc (.cells #[.int .i64 0, .int .i64 0, .int .i64 0] 3)).alloc (.cells #[.int .i64 0, .slice (some ⟨w9.heap.size, 0, none⟩) 3 3] 35)
          have hownB := (hown9.alloc (.cells #[.int .i64 0, .int .i64 0, .int .i64 0] 3)).alloc (.cells #[.int .i64 0, .slice (some ⟨w9.heap.size, 0, none⟩) 3 3] 35)
          have hszA : (w9.alloc (.cells #[.int .i64 0, .int .i64 0, .int .i64 0] 3)).heap.size = w9.heap.size + 1 := by simp
          have hszB : ((w9.alloc (.cells #[.int .i64 0, .int .i64 0, .int .i64 0] 3)).alloc (.cells #[.int .i64 0, .slice (some ⟨w9.heap.size, 0, none⟩) 3 3] 35)).heap.size = w9.heap.size + 1 + 1 := by simp
          have hnews2 : ∀ j u, ([.int .i64 0, .slice (some ⟨w9.heap.size, 0, none⟩) 3 3] : List Value)[j]? = some u → ((w9.alloc (.cells #[.int .i64 0, .int .i64 0, .int .i64 0] 3)).alloc (.cells #[.int .i64 0, .slice (some ⟨w9.heap.size, 0, none⟩) 3 3] 35)).cell? ((⟨w9.heap.size + 1, 0, none⟩ : Addr).add j) = some u := fun j u hj => by
            rw [add_off0 _ rfl]
            simp only [Nat.zero_add]
            rw [hszA] at hbkB
            exact (hbkB.cell j).trans hj
          have h1n2 : ∀ u ∈ ([.int .i64 0, .slice (some ⟨w9.heap.size, 0, none⟩) 3 3] : List Value), u.oneCell' = true := by
            intro u hu
            simp only [List.mem_cons, List.not_mem_nil, or_false] at hu
            rcases hu with rfl | rfl <;> rfl
          have f9 := hbk9.cell 4
          have f9b := hbgb.cell 4
          simp only [List.getElem?_cons_zero, List.getElem?_cons_succ] at f9 f9b
          have Hnews2 := hid hnews2
          have H1n2 := hid h1n2
          have Hb10 := hid hb10
          have hbgl9 : bg < w9.heap.size := hbk9.lt
          clear hnews2 h1n2 hb10 hb8 hb9 hk89 hown8 hgr8 hat8 hlt8 hbk8 f48 f4f hown9 hw9 hbga f4 hbk6 hb7 Hnews H1n Hb7' hbkB hbk9
          go_upto_region 15 with (at_builtin; go_loud (refine wpList_append_lies _ rfl _ _ _ rfl w7.heap.size 35 i35 _ 2 32 Try.underlying26 hi35 p0 p1 p2 rfl (by omega) (.slice (some ⟨g7, 0, none⟩) 2 c7) 2 _ (by rfl) hownB ⟨w9.heap.size + 1, 0, none⟩ 1 1 [.int .i64 0, .slice (some ⟨w9.heap.size, 0, none⟩) 3 3] (by rfl) rfl Hnews2.out H1n2.out (by omega) (by unfold maxLen; omega) (by omega) (by rw [hszB]; omega) _ rfl ?_); intro g8 c8 w10 hown10 hgr10 hat10 hlt10; have hbk10 := hbgb.grown hgr10 (fun e => by simp [Value.ownBlock] at e; omega); have f10 := hbk10.cell 4; have f10f := hbk10.free 4; simp only [List.getElem?_cons_zero, List.getElem?_cons_succ] at f10)
          have hg8b : w7.heap.size ≤ g8 := by
            rcases hat10 with e | e
            · simp [Value.ownBlock] at e; omega
            · rw [hszB] at e; omega
          have hb11 : Below w6.heap.size w6 (w10.setCell ⟨bg, 4, none⟩ (.slice (some ⟨g8, 0, none⟩) 3 c8)) := (Hb10.out.grown hgr10 Hb10.out.size (fun k e => by simp [Value.ownBlock] at e; omega)).setCell (p := ⟨bg, 4, none⟩) (by exact hgw) _
          have hk11 : Kp (fun x => x = bg) w10 (w10.setCell ⟨bg, 4, none⟩ (.slice (some ⟨g8, 0, none⟩) 3 c8)) := Kp.set (S := fun x => x = bg) (p := ⟨bg, 4, none⟩) (Kp.refl _ _) (.inl rfl) _
          have hbk11 := hbk10.set 4 (.slice (some ⟨g8, 0, none⟩) 3 c8)
          have hown11 := own_kp hown10 hk11 (fun g e => by simp [Value.ownBlock] at e; omega)
          have hbkA11 := (hbkA.grown hgr10 (fun e => by simp [Value.ownBlock] at e; omega)).kp hk11 (by omega)
          obtain ⟨w11, hw11⟩ : ∃ w11, w11 = w10.setCell ⟨bg, 4, none⟩ (.slice (some ⟨g8, 0, none⟩) 3 c8) := ⟨_, rfl⟩
          rw [← hw11] at hb11 hbk11 hown11 hbkA11 ⊢
          simp only [List.set_cons_succ, List.set_cons_zero] at hbk11
          have hrowA := bk_rowI hbkA11
          have hp3 : RowP w11 w11.heap.size (some ⟨g8, 0, none⟩) dblP3 := by
            obtain ⟨ga8, cap8, e8, hcl⟩ := own_slice hown11
            injection e8 with e8a e8b e8c
            subst e8a
            have hc : ∀ (j : Nat) u, (([.int .i64 0, .slice gr1 1 cr1, .int .i64 0, .slice gr2 2 cr2] : List Value) ++ [.int .i64 0, .slice (some ⟨w9.heap.size, 0, none⟩) 3 3])[j]? = some u → g8 < w11.heap.size ∧ w11.cell? ⟨g8, j, none⟩ = some u := fun j u hj => by
              obtain ⟨g, e, -, hlt, h⟩ := hcl j u hj
              injection e with e
              injection e with e
              rw [e]; exact ⟨hlt, h⟩
            intro i x hx
            match i, hx with
            | 0, hx => injection hx with hx; subst hx; exact ⟨g8, 0, gr1, cr1, rfl, (hc 0 _ rfl).1, (hc 0 _ rfl).2, (hc 1 _ rfl).2, (Hr1.out.below hb11).mono hb11.size⟩
            | 1, hx => injection hx with hx; subst hx; exact ⟨g8, 0, gr2, cr2, rfl, (hc 0 _ rfl).1, (hc 2 _ rfl).2, (hc 3 _ rfl).2, (Hr2.out.below hb11).mono hb11.size⟩
            | 2, hx => injection hx with hx; subst hx; exact ⟨g8, 0, some ⟨w9.heap.size, 0, none⟩, 3, rfl, (hc 0 _ rfl).1, (hc 4 _ rfl).2, (hc 5 _ rfl).2, hrowA⟩
            | i + 3, hx => simp [dblP3] at hx
          have Hp3 := hid hp3
          have Hbk11 := hid hbk11
          have Hb11 := hid (below0 hb6 hb11)
          clear hp3 hbk11 hb11 hrowA hbkA11 hown11 hk11 hbk10 hown10 hgr10 hat10 hlt10 f10 f10f hw11 hbkA hbgb hownB hszA hszB f9 f9b Hnews2 H1n2 Hb10 Hr1 Hr2 hb6
          have hS : ∀ W, Below w11.heap.size w11 W → W.cell? ⟨bg, 0, none⟩ = some (.int .i64 0) ∧ W.cell? ⟨bg, 1, none⟩ = some (.int .i64 1) ∧ W.cell? ⟨bg, 2, none⟩ = some (.int .i64 1) ∧ W.cell? ⟨bg, 3, none⟩ = some (.bool false) ∧ W.cell? ⟨bg, 4, none⟩ = some (.slice (some ⟨g8, 0, none⟩) 3 c8) := fun W h => by
            have k := Hbk11.out.below h Hbk11.out.lt
            exact ⟨k.cell 0, k.cell 1, k.cell 2, k.cell 3, k.cell 4⟩
          have HS := hid hS
          have hmk1 : ∀ W, Below w11.heap.size w11 W → Calls Try.prog 15 #[.agg #[.int .i64 0, .int .i64 1, .int .i64 1, .bool false, .slice (some ⟨g8, 0, none⟩) 3 c8], .slice none 0 0] W fun e w' => e = .returned (.pointer none) ∧ Below W.heap.size W w' := fun W h => make_no W 0 1 1 false (some ⟨g8, 0, none⟩) c8 dblP3 ((Hp3.out.below h).mono h.size) (by decide) (fun x hx => by simp [dblP3] at hx; rcases hx with rfl | rfl | rfl <;> decide) (by decide) none 0 [] (fun i hi => by simp at hi) (by simp) (right_dbl3 [])
          have Hmk1 := hid hmk1
          have hdr : Below w11.heap.size w11 w11.drew := below_drewN (Below.refl _ _) 1
          obtain ⟨q0, q1, q2, q3, q4⟩ := hS _ hdr
          have Hdr := hid hdr
          have e1c : (madeCells (Value.int .i64 0).cells (N * 1)).toList = List.replicate N (.int .i64 0) := by
            simp [madeCells, Value.cells, Nat.mod_one, List.map_const']
          have He1c := hid e1c
          clear hS hmk1 hdr e1c
          go_upto_region 16 with fail
          go_cut [71] from 59 to 71 (fun v71 wx => v71 = .bool false ∧ Below w11.heap.size w11 wx)
          case first =>
            by_cases hNle : N ≤ 64
            · have hNb : decide ((N : Int) ≤ 64) = true := by simp; omega
              have hNb2 : decide (N ≤ 64) = true := by simp; omega
              have hNb3 : (N : Int) ≤ 64 := by omega
              go_region_held3 (fun w' => w'.cell? ⟨bg, 0, none⟩ = some (.int .i64 0) ∧ w'.cell? ⟨bg, 1, none⟩ = some (.int .i64 1) ∧ w'.cell? ⟨bg, 2, none⟩ = some (.int .i64 1) ∧ w'.cell? ⟨bg, 3, none⟩ = some (.bool false) ∧ w'.cell? ⟨bg, 4, none⟩ = some (.slice (some ⟨g8, 0, none⟩) 3 c8))
                (first | exact ⟨‹_›, ‹_›, ‹_›, ‹_›, ‹_›⟩)
                (first
                  | (go_at_call 15; refine (HmkB.out).mono ?_; rintro e w15 ⟨b2, bc2, gp2, cp2, ms2, T2, rfl, -, -, -, hb15'⟩; obtain ⟨q50, q51, q52, q53, q54⟩ := HS.out w15 (below0 H13.out hb15'); have H15 := hid (below0 H13.out hb15'))
                  | (go_at_call 15; refine (HmkA.out).mono ?_; rintro e w15 ⟨b2, bc2, gp2, cp2, ms2, T2, rfl, -, -, -, hb15'⟩; obtain ⟨q50, q51, q52, q53, q54⟩ := HS.out w15 (below0 H16.out hb15'); have H15 := hid (below0 H16.out hb15'))
                  | (go_at_call 15; refine (Hmk1.out _ Hdr.out).mono ?_; rintro e w12 ⟨rfl, hb12⟩; have H12 := hid (below0 Hdr.out hb12); obtain ⟨q20, q21, q22, q23, q24⟩ := HS.out w12 H12.out; obtain ⟨w14, hrun14, hown14, hg14⟩ := run_make_full (P := Try.prog) (w := w12) w12.heap.size 23 3 i3 (.int .i64 0) 1 Try.underlying23 hi3 z0 z1 .i64 .i64 N (by rw [z2]; omega) (by unfold maxLen; omega) (Nat.le_refl _); have hbm14 : Below w12.heap.size w12 w14 := (Below.refl _ _).grown hg14 (Nat.le_refl _) (fun k e => by cases e); have Hrow14 : Hid (RowI w14 w14.heap.size (some ⟨w12.heap.size, 0, none⟩) (List.replicate N 0)) := hid (bk_rowI (by rw [List.map_replicate, ← He1c.out]; exact bk_full hown14)); clear hown14; have H14 := hid (below0 H12.out hbm14); obtain ⟨q40, q41, q42, q43, q44⟩ := HS.out w14 H14.out)
                  | (go_at_call 16; refine (doubles_calls _).mono ?_; rintro e w13 ⟨gp13, rfl, hp13, hb13⟩; have Hp13 := hid hp13; clear hp13; (first | (have H13 := hid (below0 H14.out hb13)) | (have H13 := hid (below0 H12.out hb13))); obtain ⟨q30, q31, q32, q33, q34⟩ := HS.out w13 H13.out; obtain ⟨w16, hrun16, hown16, hg16⟩ := run_make_full (P := Try.prog) (w := w13) w13.heap.size 23 3 i3 (.int .i64 0) 1 Try.underlying23 hi3 z0 z1 .i64 .i64 N (by rw [z2]; omega) (by unfold maxLen; omega) (Nat.le_refl _); have hbm16 : Below w13.heap.size w13 w16 := (Below.refl _ _).grown hg16 (Nat.le_refl _) (fun k e => by cases e); have Hrow16 : Hid (RowI w16 w16.heap.size (some ⟨w13.heap.size, 0, none⟩) (List.replicate N 0)) := hid (bk_rowI (by rw [List.map_replicate, ← He1c.out]; exact bk_full hown16)); clear hown16; have H16 := hid (below0 H13.out hbm16); obtain ⟨q60, q61, q62, q63, q64⟩ := HS.out w16 H16.out; have HmkA : Hid (Calls Try.prog 15 #[.agg #[.int .i64 0, .int .i64 1, .int .i64 1, .bool false, .slice gp13 dblP.length 2], .slice (some ⟨w13.heap.size, 0, none⟩) N N] w16 (MadeC w16 N)) := hid (make_dbl w16 gp13 2 ((Hp13.out.below hbm16).mono hbm16.size) _ N N Hrow16.out hNle); (try (have HmkB : Hid (Calls Try.prog 15 #[.agg #[.int .i64 0, .int .i64 1, .int .i64 1, .bool false, .slice gp13 dblP.length 2], .slice (some ⟨w12.heap.size, 0, none⟩) N N] w13 (MadeC w13 N)) := hid (make_dbl w13 gp13 2 Hp13.out _ N N ((Hrow14.out.below hb13).mono hb13.size) hNle)))))
              all_goals
                go_wp2_with fail
                go_meet
                case rel => exact ⟨rfl, H15.out⟩
            · have hNb : decide ((N : Int) ≤ 64) = false := by simp; omega
              have hNb2 : decide (N ≤ 64) = false := by simp; omega
              have hNb3 : ¬ (N : Int) ≤ 64 := by omega
              go_region_held3 (fun w' => w'.cell? ⟨bg, 0, none⟩ = some (.int .i64 0) ∧ w'.cell? ⟨bg, 1, none⟩ = some (.int .i64 1) ∧ w'.cell? ⟨bg, 2, none⟩ = some (.int .i64 1) ∧ w'.cell? ⟨bg, 3, none⟩ = some (.bool false) ∧ w'.cell? ⟨bg, 4, none⟩ = some (.slice (some ⟨g8, 0, none⟩) 3 c8))
                (first | exact ⟨‹_›, ‹_›, ‹_›, ‹_›, ‹_›⟩)
                (first
                  | (go_at_call 15; refine (HmkB.out).mono ?_; rintro e w15 ⟨rfl, hb15'⟩; obtain ⟨q50, q51, q52, q53, q54⟩ := HS.out w15 (below0 H13.out hb15'); have H15 := hid (below0 H13.out hb15'))
                  | (go_at_call 15; refine (HmkA.out).mono ?_; rintro e w15 ⟨rfl, hb15'⟩; obtain ⟨q50, q51, q52, q53, q54⟩ := HS.out w15 (below0 H16.out hb15'); have H15 := hid (below0 H16.out hb15'))
                  | (go_at_call 15; refine (Hmk1.out _ Hdr.out).mono ?_; rintro e w12 ⟨rfl, hb12⟩; have H12 := hid (below0 Hdr.out hb12); obtain ⟨q20, q21, q22, q23, q24⟩ := HS.out w12 H12.out; obtain ⟨w14, hrun14, hown14, hg14⟩ := run_make_full (P := Try.prog) (w := w12) w12.heap.size 23 3 i3 (.int .i64 0) 1 Try.underlying23 hi3 z0 z1 .i64 .i64 N (by rw [z2]; omega) (by unfold maxLen; omega) (Nat.le_refl _); have hbm14 : Below w12.heap.size w12 w14 := (Below.refl _ _).grown hg14 (Nat.le_refl _) (fun k e => by cases e); have Hrow14 : Hid (RowI w14 w14.heap.size (some ⟨w12.heap.size, 0, none⟩) (List.replicate N 0)) := hid (bk_rowI (by rw [List.map_replicate, ← He1c.out]; exact bk_full hown14)); clear hown14; have H14 := hid (below0 H12.out hbm14); obtain ⟨q40, q41, q42, q43, q44⟩ := HS.out w14 H14.out)
                  | (go_at_call 16; refine (doubles_calls _).mono ?_; rintro e w13 ⟨gp13, rfl, hp13, hb13⟩; have Hp13 := hid hp13; clear hp13; (first | (have H13 := hid (below0 H14.out hb13)) | (have H13 := hid (below0 H12.out hb13))); obtain ⟨q30, q31, q32, q33, q34⟩ := HS.out w13 H13.out; obtain ⟨w16, hrun16, hown16, hg16⟩ := run_make_full (P := Try.prog) (w := w13) w13.heap.size 23 3 i3 (.int .i64 0) 1 Try.underlying23 hi3 z0 z1 .i64 .i64 N (by rw [z2]; omega) (by unfold maxLen; omega) (Nat.le_refl _); have hbm16 : Below w13.heap.size w13 w16 := (Below.refl _ _).grown hg16 (Nat.le_refl _) (fun k e => by cases e); have Hrow16 : Hid (RowI w16 w16.heap.size (some ⟨w13.heap.size, 0, none⟩) (List.replicate N 0)) := hid (bk_rowI (by rw [List.map_replicate, ← He1c.out]; exact bk_full hown16)); clear hown16; have H16 := hid (below0 H13.out hbm16); obtain ⟨q60, q61, q62, q63, q64⟩ := HS.out w16 H16.out; have HmkA : Hid (Calls Try.prog 15 #[.agg #[.int .i64 0, .int .i64 1, .int .i64 1, .bool false, .slice gp13 dblP.length 2], .slice (some ⟨w13.heap.size, 0, none⟩) N N] w16 fun e w' => e = .returned (.pointer none) ∧ Below w16.heap.size w16 w') := hid (by have h := make_no w16 0 1 1 false gp13 2 dblP ((Hp13.out.below hbm16).mono hbm16.size) (by decide) (fun x hx => by simp [dblP] at hx; rcases hx with rfl | rfl <;> decide) (by decide) (some ⟨w13.heap.size, 0, none⟩) N (List.replicate N 0) Hrow16.out (by simp; omega) (right_long _ (by simp; omega)); rw [List.length_replicate] at h; exact h); (try (have HmkB : Hid (Calls Try.prog 15 #[.agg #[.int .i64 0, .int .i64 1, .int .i64 1, .bool false, .slice gp13 dblP.length 2], .slice (some ⟨w12.heap.size, 0, none⟩) N N] w13 fun e w' => e = .returned (.pointer none) ∧ Below w13.heap.size w13 w') := hid (by have h := make_no w13 0 1 1 false gp13 2 dblP Hp13.out (by decide) (fun x hx => by simp [dblP] at hx; rcases hx with rfl | rfl <;> decide) (by decide) (some ⟨w12.heap.size, 0, none⟩) N (List.replicate N 0) ((Hrow14.out.below hb13).mono hb13.size) (by simp; omega) (right_long _ (by simp; omega)); rw [List.length_replicate] at h; exact h)))))
              all_goals
                go_wp2_with fail
                go_meet
                case rel => exact ⟨rfl, H15.out⟩
          case rest =>
            obtain ⟨rfl, hb15⟩ := hcut
            clear q0 q1 q2 q3 q4 HS Hmk1 Hdr Hbk11 Hp3
            go_upto_region 18 with fail
            have hbc := below0 Hb15.out (below0 Hb11.out hb15)
            obtain ⟨x0, x1, x2⟩ := HK3.out _ hbc
            go_cut [11] from 72 to 91 (fun v11 wx => v11 = .bool (decide (0 ≤ a1 ∧ a1 < a2 ∧ a2 ≤ rs.length)) ∧ wx = wc)
            case first =>
              by_cases d1 : 0 ≤ a1
              · have d1b : decide (0 ≤ a1) = true := by simp [d1]
                by_cases d2 : a1 < a2
                · have d2b : decide (a1 < a2) = true := by simp [d2]
                  by_cases d3 : a2 ≤ (rs.length : Int)
                  · have d3b : decide (a2 ≤ (rs.length : Int)) = true := by simp [d3]
                    go_wp2_with fail
                    go_meet
                    case rel => exact ⟨by rw [decide_eq_true (show 0 ≤ a1 ∧ a1 < a2 ∧ a2 ≤ (rs.length : Int) from ⟨d1, d2, d3⟩)], rfl⟩
                  · have d3b : decide (a2 ≤ (rs.length : Int)) = false := by simp; omega
                    go_wp2_with fail
                    go_meet
                    case rel => exact ⟨by rw [decide_eq_false (show ¬ (0 ≤ a1 ∧ a1 < a2 ∧ a2 ≤ (rs.length : Int)) by omega)], rfl⟩
                · have d2b : decide (a1 < a2) = false := by simp; omega
                  go_wp2_with fail
                  go_meet
                  case rel => exact ⟨by rw [decide_eq_false (show ¬ (0 ≤ a1 ∧ a1 < a2 ∧ a2 ≤ (rs.length : Int)) by omega)], rfl⟩
              · have d1b : decide (0 ≤ a1) = false := by simp; omega
                go_wp2_with fail
                go_meet
                case rel => exact ⟨by rw [decide_eq_false (show ¬ (0 ≤ a1 ∧ a1 < a2 ∧ a2 ≤ (rs.length : Int)) by omega)], rfl⟩
            case rest =>
              obtain ⟨rfl, hwx⟩ := hcut
              subst hwx
              have H20 := hid (Hch.out.later (below0 (below0 Hb11.out hb15) (below_drewN (Below.refl _ _) 1)))
              have Hbd := hid (below0 hbc (below_drewN (Below.refl _ _) 1))
              obtain ⟨c0, c1, c2⟩ := HK3.out _ Hbd.out
              have H20n : Hid (∀ k, Chart (wc.drewN k) b bc rs.length 0 1 1 false gp' 2 cp ms T) := hid (fun k => Hch.out.later (below0 (below0 Hb11.out hb15) (below_drewN (Below.refl _ _) k)))
              have Hbn : Hid (∀ k, Below wr.heap.size wr (wc.drewN k)) := hid (fun k => below0 hbc (below_drewN (Below.refl _ _) k))
              clear hb15 hbc
              by_cases hth : 0 ≤ a1 ∧ a1 < a2 ∧ a2 ≤ (rs.length : Int)
              · rw [decide_eq_true hth]
                obtain ⟨t1, t2, t3⟩ := hth
                obtain ⟨i, rfl⟩ := Int.eq_ofNat_of_zero_le t1
                obtain ⟨j, rfl⟩ := Int.eq_ofNat_of_zero_le (show 0 ≤ a2 by omega)
                have hij : i < j := by omega
                have hj : j ≤ rs.length := by omega
                have hwp := Ck.way_pos (j - i) (by omega) (by omega)
                have hv := Hval.out i j hij hj
                have hv0 : decide (0 < T (Ck.ix rs.length i j) 0) = true := by rw [hv]; exact hwp
                have hhold : Ck.holds (T (Ck.ix rs.length i j)) 1 = [0] := by
                  rw [Ck.holds_succ, if_pos (by simpa using hv0)]
                  simp [Ck.holds]
                have Hv0 := hid hv0
                have Hhold := hid hhold
                clear hwp hv hv0 hhold t1 t2 t3
                by_cases ha : a0 = 0
                · subst ha
                  go_upto_region 20 with fail
                  go_region_held3 (fun w' => w'.cell? ⟨ba, 0, none⟩ = some (.int .i64 0) ∧ w'.cell? ⟨ba, 1, none⟩ = some (.int .i64 i) ∧ w'.cell? ⟨ba, 2, none⟩ = some (.int .i64 j))
                    (first | exact ⟨‹_›, ‹_›, ‹_›⟩)
                    (first
                      | (have hA2 := hAmb; go_at_call 21; refine (cell_nil _ _ _).mono ?_; rintro e w20 ⟨rfl, rfl⟩)
                      | (go_at_call 20; refine (has_yes H20.out (by omega) i j _ (by (first | omega | exact Ha0.out)) (by (first | omega | exact Ha1.out)) hij hj).mono ?_; rintro e w20 ⟨rfl, rfl⟩; (first | rw [Hv0.out] | rw [Hva.out]))
                      | (go_at_call 21; refine (cell_yes 1 (by omega) H20.out (by omega) i j hij hj).mono ?_; rintro e w21 ⟨gc, cc, rfl, -, hb21⟩; rw [Hhold.out]; obtain ⟨d0, d1, d2⟩ := HK3.out w21 (below0 Hbd.out hb21); have Hb21 := hid (below0 Hbd.out hb21))
                      | (go_at_call 22; refine (yes_nil _).mono ?_; rintro e w22 ⟨rfl, rfl⟩)
                      | (go_at_call 18; refine (trees_nil _).mono ?_; rintro e w22 ⟨rfl, rfl⟩)
                      | (go_at_call 19; refine (amb_nil _).mono ?_; rintro e w22 ⟨rfl, rfl⟩; have hAmb : True := trivial))
                  go_wp2_with fail
                  go_ret
                  exact ⟨rfl, below0 Hbw.out Hb21.out⟩
                · have hab : (a0 == 0) = false := by simp [ha]
                  have hva : decide (0 < T (Ck.ix rs.length i j) a0) = false := by
                    have : T (Ck.ix rs.length i j) a0 = 0 := Classical.byContradiction fun hne => by
                      have := Hok.out.dom _ _ hne
                      simp at this
                      exact ha this
                    rw [this]; rfl
                  have Hva := hid hva
                  clear hva
                  go_upto_region 20 with fail
                  go_region_held3 (fun w' => w'.cell? ⟨ba, 0, none⟩ = some (.int .i64 a0) ∧ w'.cell? ⟨ba, 1, none⟩ = some (.int .i64 i) ∧ w'.cell? ⟨ba, 2, none⟩ = some (.int .i64 j))
                    (first | exact ⟨‹_›, ‹_›, ‹_›⟩)
                    (first
                      | (have hA2 := hAmb; go_at_call 21; refine (cell_nil _ _ _).mono ?_; rintro e w20 ⟨rfl, rfl⟩)
                      | (go_at_call 20; refine (has_yes H20.out (by omega) i j _ (by (first | omega | exact Ha0.out)) (by (first | omega | exact Ha1.out)) hij hj).mono ?_; rintro e w20 ⟨rfl, rfl⟩; (first | rw [Hv0.out] | rw [Hva.out]))
                      | (go_at_call 21; refine (cell_yes 1 (by omega) H20.out (by omega) i j hij hj).mono ?_; rintro e w21 ⟨gc, cc, rfl, -, hb21⟩; rw [Hhold.out]; obtain ⟨d0, d1, d2⟩ := HK3.out w21 (below0 Hbd.out hb21); have Hb21 := hid (below0 Hbd.out hb21))
                      | (go_at_call 22; refine (yes_nil _).mono ?_; rintro e w22 ⟨rfl, rfl⟩)
                      | (go_at_call 18; refine (trees_nil _).mono ?_; rintro e w22 ⟨rfl, rfl⟩)
                      | (go_at_call 19; refine (amb_nil _).mono ?_; rintro e w22 ⟨rfl, rfl⟩; have hAmb : True := trivial))
                  go_wp2_with fail
                  go_ret
                  exact ⟨rfl, below0 Hbw.out Hb21.out⟩
              · rw [decide_eq_false hth]
                have Hth := hid hth
                clear hth
                go_upto_region 20 with fail
                go_quiet (first
                  | (go_at_call 20; refine Calls.quiet_of (quiet_exact (has_no (H20n.out _) a1 a2 _ Hth.out)))
                  | (go_at_call_of 21 (Value.pointer (some ⟨b, 0, none⟩)); refine Calls.quiet_of (quiet_exact (cell_no (H20n.out _) a1 a2 Hth.out)))
                  | (go_at_call 22; refine Calls.quiet_of (quiet_exact (yes_nil _)))
                  | (go_at_call 18; refine Calls.quiet_of (quiet_exact (trees_nil _)))
                  | (go_at_call 19; refine Calls.quiet_of (quiet_exact (amb_nil _)))
                  | (go_at_call_of 21 (Value.pointer none); refine Calls.quiet_of (quiet_exact (cell_nil _ _ _))))
                go_wp2_with fail
                go_ret
                exact ⟨rfl, below0 Hbw.out (Hbn.out _)⟩
        | false =>
          go_upto_region 10 with (first
            | (go_at_call 16; refine (doubles_calls _).mono ?_; rintro e w3 ⟨gp, rfl, hp, hb3⟩; have hcs := ints_cells ((Hrow.out.below hb3).mono hb3.size); have hcs1 := hcs.kp (S := fun _ => False) ((Kp.refl _ w3).alloc (.cells #[] 3)) (fun _ _ h => h) (fun _ _ _ h => h); have Hcs1 := hid hcs1; clear hcs hcs1)
            | (at_builtin; go_loud (refine wpList_append_cells _ rfl _ _ _ rfl w3.heap.size 3 i3 _ Try.underlying23 hi3 z0 z1 (by rw [z2]; omega) rfl (.slice (some ⟨w3.heap.size, 0, none⟩) 0 0) 0 [] (by rfl) (own_empty _ _ _ (heap_alloc_new w3 _) _ (Nat.le_refl _)) _ (some _) rs.length cap (rs.map (Value.int .i64)) rfl Hlm.out Hcs1.out H1c.out (by (first | (simp; done) | (simp; omega))) (by simp) ?_); intro gv cv w4 hown hgr hat; simp only [List.length_map, Nat.zero_add, List.nil_append] at hown; obtain ⟨gv', cv', ev, hrow5⟩ := own_rowI hown; injection ev with ev1 ev2 ev3; subst ev1 ev3; have hb4 : Below w3.heap.size w3 w4 := ((Below.refl _ w3).alloc (Nat.le_refl _) _).grown hgr (by simp) (fun k hk => by simp [Value.ownBlock] at hk; omega); have Hmk : Hid (Calls Try.prog 15 #[.agg #[.int .i64 0, .int .i64 1, .int .i64 1, .bool false, .slice gp dblP.length 2], .slice gv rs.length cv] w4 fun e w' => e = .returned (.pointer none) ∧ Below w4.heap.size w4 w') := hid (make_no w4 0 1 1 false gp 2 dblP ((hp.below hb4).mono hb4.size) (by decide) (fun x hx => by simp [dblP] at hx; rcases hx with rfl | rfl <;> decide) (by decide) gv cv rs hrow5 (by omega) (by rw [right_dbl rs (by omega)]; exact HokB.out.symm)); clear hown hgr hat hrow5 ev2 hp)
            | (go_at_call 15; refine (Hmk.out).mono ?_; rintro e w5 ⟨rfl, hb5⟩))
          have hb15 := below0 (below0 hb3 hb4) hb5
          have Hb15 := hid hb15
          clear hb15 hb3 hb4 hb5 Hmk Hcs1
          go_upto_region 13 with (go_at_call 16; refine (doubles_calls _).mono ?_; rintro e w6 ⟨gp6, rfl, hp6, hb6⟩)
          obtain ⟨g6, off6, gr1, cr1, rfl, hg6, hc0, hc1, hr1⟩ := hp6 0 _ rfl
          obtain ⟨g6', off6', gr2, cr2, e5, -, hc2, hc3, hr2⟩ := hp6 1 _ rfl
          simp only [Option.some.injEq, Addr.mk.injEq] at e5
          obtain ⟨rfl, rfl, -⟩ := e5
          have hbk6 := Bk.new w6 28 [.int .i64 0, .int .i64 1, .int .i64 1, .bool false, .slice (some ⟨g6, off6, none⟩) 2 2]
          have hb7 : Below w6.heap.size w6 (w6.alloc (.cells #[.int .i64 0, .int .i64 1, .int .i64 1, .bool false, .slice (some ⟨g6, off6, none⟩) 2 2] 28)) := (Below.refl _ _).alloc (Nat.le_refl _) _
          obtain ⟨w7, hw7⟩ : ∃ w7, w7 = w6.alloc (.cells #[.int .i64 0, .int .i64 1, .int .i64 1, .bool false, .slice (some ⟨g6, off6, none⟩) 2 2] 28) := ⟨_, rfl⟩
          obtain ⟨bg, hbg⟩ : ∃ bg, bg = w6.heap.size := ⟨_, rfl⟩
          rw [show dblP.length = 2 from rfl]
          rw [← hw7] at hbk6 hb7 ⊢
          rw [← hbg] at hbk6 ⊢
          have hb7' : Below w6.heap.size w6 (w7.alloc (.cells #[] 35)) := hb7.alloc hb7.size _
          have hr1' := (hr1.below hb7).mono hb7.size
          have hnews : ∀ j u, ([.int .i64 0, .slice gr1 1 cr1, .int .i64 0, .slice gr2 2 cr2] : List Value)[j]? = some u → (w7.alloc (.cells #[] 35)).cell? ((⟨g6, off6, none⟩ : Addr).add j) = some u := fun j u hj => by
            rw [add_off0 _ rfl]
            match j, hj with
            | 0, hj => injection hj with hj; subst hj; exact (hb7'.cell (p := ⟨g6, off6, none⟩) hg6).trans hc0
            | 1, hj => injection hj with hj; subst hj; exact (hb7'.cell (p := ⟨g6, off6 + 1, none⟩) hg6).trans hc1
            | 2, hj => injection hj with hj; subst hj; exact (hb7'.cell (p := ⟨g6, off6 + 2, none⟩) hg6).trans hc2
            | 3, hj => injection hj with hj; subst hj; exact (hb7'.cell (p := ⟨g6, off6 + 2 + 1, none⟩) hg6).trans hc3
            | j + 4, hj => simp at hj
          have h1n : ∀ u ∈ ([.int .i64 0, .slice gr1 1 cr1, .int .i64 0, .slice gr2 2 cr2] : List Value), u.oneCell' = true := by
            intro u hu
            simp only [List.mem_cons, List.not_mem_nil, or_false] at hu
            rcases hu with rfl | rfl | rfl | rfl <;> rfl
          have Hnews := hid hnews
          have H1n := hid h1n
          have hbga := hbk6.alloc (.cells #[] 35)
          have f4 := hbga.cell 4
          simp only [List.getElem?_cons_zero, List.getElem?_cons_succ] at f4
          have Hr1 := hid hr1
          have Hr2 := hid hr2
          have hbgl := hbk6.lt
          have hgw : w6.heap.size ≤ bg := by omega
          have Hb7' := hid hb7'
          clear hc0 hc1 hc2 hc3 hr1 hr2 hr1' hnews h1n hp6 hw7 hbg hb7'
          go_upto_region 14 with (at_builtin; go_loud (refine wpList_append_lies _ rfl _ _ _ rfl w7.heap.size 35 i35 _ 2 32 Try.underlying26 hi35 p0 p1 p2 rfl (by omega) (.slice (some ⟨w7.heap.size, 0, none⟩) 0 0) 0 [] (by rfl) (own_empty2 _ _ _ (heap_alloc_new w7 _) _ (Nat.le_refl _)) ⟨g6, off6, none⟩ 2 2 ([.int .i64 0, .slice gr1 1 cr1, .int .i64 0, .slice gr2 2 cr2] : List Value) (by rfl) rfl Hnews.out H1n.out (by omega) (by unfold maxLen; omega) (by omega) (by simp) (w7.heap.size + 1) (by simp) ?_); intro g7 c7 w8 hown8 hgr8 hat8 hlt8; have hbk8 := hbga.grown hgr8 (fun e => by simp [Value.ownBlock] at e; omega); have f48 := hbk8.cell 4; have f4f := hbk8.free 4; simp only [List.getElem?_cons_zero, List.getElem?_cons_succ] at f48)
          rw [Nat.zero_add] at hown8
          rw [List.nil_append] at hown8
          have hb8 : Below w6.heap.size w6 w8 := Hb7'.out.grown hgr8 Hb7'.out.size (fun k e => by simp [Value.ownBlock] at e; have := hb7.size; omega)
          have hg7b : w7.heap.size ≤ g7 := by
            rcases hat8 with e | e
            · simp [Value.ownBlock] at e; omega
            · omega
          have hb9 : Below w6.heap.size w6 (w8.setCell ⟨bg, 4, none⟩ (.slice (some ⟨g7, 0, none⟩) 2 c7)) := hb8.setCell (p := ⟨bg, 4, none⟩) (by exact hgw) _
          have hk89 : Kp (fun x => x = bg) w8 (w8.setCell ⟨bg, 4, none⟩ (.slice (some ⟨g7, 0, none⟩) 2 c7)) := Kp.set (S := fun x => x = bg) (p := ⟨bg, 4, none⟩) (Kp.refl _ _) (.inl rfl) _
          have hbk9 := hbk8.set 4 (.slice (some ⟨g7, 0, none⟩) 2 c7)
          have hown9 := own_kp hown8 hk89 (fun g e => by simp [Value.ownBlock] at e; omega)
          obtain ⟨w9, hw9⟩ : ∃ w9, w9 = w8.setCell ⟨bg, 4, none⟩ (.slice (some ⟨g7, 0, none⟩) 2 c7) := ⟨_, rfl⟩
          rw [← hw9] at hb9 hbk9 hown9 ⊢
          have hg79 : g7 < w9.heap.size := Nat.lt_of_lt_of_le hlt8 (by rw [hw9]; exact hk89.size)
          simp only [List.set_cons_succ, List.set_cons_zero] at hbk9
          have hb10 : Below w6.heap.size w6 ((w9.alloc (.cells #[.int .i64 0, .int .i64 0, .int .i64 0] 3)).alloc (.cells #[.int .i64 0, .slice (some ⟨w9.heap.size, 0, none⟩) 3 3] 35)) := (hb9.alloc hb9.size _).alloc (by have := hb9.size; simp; omega) _
          have hbkA := (Bk.new w9 3 ([0, 0, 0].map (Value.int .i64))).alloc (.cells #[.int .i64 0, .slice (some ⟨w9.heap.size, 0, none⟩) 3 3] 35)
          have hbkB := Bk.new (w9.alloc (.cells #[.int .i64 0, .int .i64 0, .int .i64 0] 3)) 35 [.int .i64 0, .slice (some ⟨w9.heap.size, 0, none⟩) 3 3]
          have hbgb := (hbk9.alloc (.cells #[.int .i64 0, .int .i64 0, .int .i64 0] 3)).alloc (.cells #[.int .i64 0, .slice (some ⟨w9.heap.size, 0, none⟩) 3 3] 35)
          have hownB := (hown9.alloc (.cells #[.int .i64 0, .int .i64 0, .int .i64 0] 3)).alloc (.cells #[.int .i64 0, .slice (some ⟨w9.heap.size, 0, none⟩) 3 3] 35)
          have hszA : (w9.alloc (.cells #[.int .i64 0, .int .i64 0, .int .i64 0] 3)).heap.size = w9.heap.size + 1 := by simp
          have hszB : ((w9.alloc (.cells #[.int .i64 0, .int .i64 0, .int .i64 0] 3)).alloc (.cells #[.int .i64 0, .slice (some ⟨w9.heap.size, 0, none⟩) 3 3] 35)).heap.size = w9.heap.size + 1 + 1 := by simp
          have hnews2 : ∀ j u, ([.int .i64 0, .slice (some ⟨w9.heap.size, 0, none⟩) 3 3] : List Value)[j]? = some u → ((w9.alloc (.cells #[.int .i64 0, .int .i64 0, .int .i64 0] 3)).alloc (.cells #[.int .i64 0, .slice (some ⟨w9.heap.size, 0, none⟩) 3 3] 35)).cell? ((⟨w9.heap.size + 1, 0, none⟩ : Addr).add j) = some u := fun j u hj => by
            rw [add_off0 _ rfl]
            simp only [Nat.zero_add]
            rw [hszA] at hbkB
            exact (hbkB.cell j).trans hj
          have h1n2 : ∀ u ∈ ([.int .i64 0, .slice (some ⟨w9.heap.size, 0, none⟩) 3 3] : List Value), u.oneCell' = true := by
            intro u hu
            simp only [List.mem_cons, List.not_mem_nil, or_false] at hu
            rcases hu with rfl | rfl <;> rfl
          have f9 := hbk9.cell 4
          have f9b := hbgb.cell 4
          simp only [List.getElem?_cons_zero, List.getElem?_cons_succ] at f9 f9b
          have Hnews2 := hid hnews2
          have H1n2 := hid h1n2
          have Hb10 := hid hb10
          have hbgl9 : bg < w9.heap.size := hbk9.lt
          clear hnews2 h1n2 hb10 hb8 hb9 hk89 hown8 hgr8 hat8 hlt8 hbk8 f48 f4f hown9 hw9 hbga f4 hbk6 hb7 Hnews H1n Hb7' hbkB hbk9
          go_upto_region 15 with (at_builtin; go_loud (refine wpList_append_lies _ rfl _ _ _ rfl w7.heap.size 35 i35 _ 2 32 Try.underlying26 hi35 p0 p1 p2 rfl (by omega) (.slice (some ⟨g7, 0, none⟩) 2 c7) 2 _ (by rfl) hownB ⟨w9.heap.size + 1, 0, none⟩ 1 1 [.int .i64 0, .slice (some ⟨w9.heap.size, 0, none⟩) 3 3] (by rfl) rfl Hnews2.out H1n2.out (by omega) (by unfold maxLen; omega) (by omega) (by rw [hszB]; omega) _ rfl ?_); intro g8 c8 w10 hown10 hgr10 hat10 hlt10; have hbk10 := hbgb.grown hgr10 (fun e => by simp [Value.ownBlock] at e; omega); have f10 := hbk10.cell 4; have f10f := hbk10.free 4; simp only [List.getElem?_cons_zero, List.getElem?_cons_succ] at f10)
          have hg8b : w7.heap.size ≤ g8 := by
            rcases hat10 with e | e
            · simp [Value.ownBlock] at e; omega
            · rw [hszB] at e; omega
          have hb11 : Below w6.heap.size w6 (w10.setCell ⟨bg, 4, none⟩ (.slice (some ⟨g8, 0, none⟩) 3 c8)) := (Hb10.out.grown hgr10 Hb10.out.size (fun k e => by simp [Value.ownBlock] at e; omega)).setCell (p := ⟨bg, 4, none⟩) (by exact hgw) _
          have hk11 : Kp (fun x => x = bg) w10 (w10.setCell ⟨bg, 4, none⟩ (.slice (some ⟨g8, 0, none⟩) 3 c8)) := Kp.set (S := fun x => x = bg) (p := ⟨bg, 4, none⟩) (Kp.refl _ _) (.inl rfl) _
          have hbk11 := hbk10.set 4 (.slice (some ⟨g8, 0, none⟩) 3 c8)
          have hown11 := own_kp hown10 hk11 (fun g e => by simp [Value.ownBlock] at e; omega)
          have hbkA11 := (hbkA.grown hgr10 (fun e => by simp [Value.ownBlock] at e; omega)).kp hk11 (by omega)
          obtain ⟨w11, hw11⟩ : ∃ w11, w11 = w10.setCell ⟨bg, 4, none⟩ (.slice (some ⟨g8, 0, none⟩) 3 c8) := ⟨_, rfl⟩
          rw [← hw11] at hb11 hbk11 hown11 hbkA11 ⊢
          simp only [List.set_cons_succ, List.set_cons_zero] at hbk11
          have hrowA := bk_rowI hbkA11
          have hp3 : RowP w11 w11.heap.size (some ⟨g8, 0, none⟩) dblP3 := by
            obtain ⟨ga8, cap8, e8, hcl⟩ := own_slice hown11
            injection e8 with e8a e8b e8c
            subst e8a
            have hc : ∀ (j : Nat) u, (([.int .i64 0, .slice gr1 1 cr1, .int .i64 0, .slice gr2 2 cr2] : List Value) ++ [.int .i64 0, .slice (some ⟨w9.heap.size, 0, none⟩) 3 3])[j]? = some u → g8 < w11.heap.size ∧ w11.cell? ⟨g8, j, none⟩ = some u := fun j u hj => by
              obtain ⟨g, e, -, hlt, h⟩ := hcl j u hj
              injection e with e
              injection e with e
              rw [e]; exact ⟨hlt, h⟩
            intro i x hx
            match i, hx with
            | 0, hx => injection hx with hx; subst hx; exact ⟨g8, 0, gr1, cr1, rfl, (hc 0 _ rfl).1, (hc 0 _ rfl).2, (hc 1 _ rfl).2, (Hr1.out.below hb11).mono hb11.size⟩
            | 1, hx => injection hx with hx; subst hx; exact ⟨g8, 0, gr2, cr2, rfl, (hc 0 _ rfl).1, (hc 2 _ rfl).2, (hc 3 _ rfl).2, (Hr2.out.below hb11).mono hb11.size⟩
            | 2, hx => injection hx with hx; subst hx; exact ⟨g8, 0, some ⟨w9.heap.size, 0, none⟩, 3, rfl, (hc 0 _ rfl).1, (hc 4 _ rfl).2, (hc 5 _ rfl).2, hrowA⟩
            | i + 3, hx => simp [dblP3] at hx
          have Hp3 := hid hp3
          have Hbk11 := hid hbk11
          have Hb11 := hid (below0 hb6 hb11)
          clear hp3 hbk11 hb11 hrowA hbkA11 hown11 hk11 hbk10 hown10 hgr10 hat10 hlt10 f10 f10f hw11 hbkA hbgb hownB hszA hszB f9 f9b Hnews2 H1n2 Hb10 Hr1 Hr2 hb6
          have hS : ∀ W, Below w11.heap.size w11 W → W.cell? ⟨bg, 0, none⟩ = some (.int .i64 0) ∧ W.cell? ⟨bg, 1, none⟩ = some (.int .i64 1) ∧ W.cell? ⟨bg, 2, none⟩ = some (.int .i64 1) ∧ W.cell? ⟨bg, 3, none⟩ = some (.bool false) ∧ W.cell? ⟨bg, 4, none⟩ = some (.slice (some ⟨g8, 0, none⟩) 3 c8) := fun W h => by
            have k := Hbk11.out.below h Hbk11.out.lt
            exact ⟨k.cell 0, k.cell 1, k.cell 2, k.cell 3, k.cell 4⟩
          have HS := hid hS
          have hmk1 : ∀ W, Below w11.heap.size w11 W → Calls Try.prog 15 #[.agg #[.int .i64 0, .int .i64 1, .int .i64 1, .bool false, .slice (some ⟨g8, 0, none⟩) 3 c8], .slice none 0 0] W fun e w' => e = .returned (.pointer none) ∧ Below W.heap.size W w' := fun W h => make_no W 0 1 1 false (some ⟨g8, 0, none⟩) c8 dblP3 ((Hp3.out.below h).mono h.size) (by decide) (fun x hx => by simp [dblP3] at hx; rcases hx with rfl | rfl | rfl <;> decide) (by decide) none 0 [] (fun i hi => by simp at hi) (by simp) (right_dbl3 [])
          have Hmk1 := hid hmk1
          have hdr : Below w11.heap.size w11 w11.drew := below_drewN (Below.refl _ _) 1
          obtain ⟨q0, q1, q2, q3, q4⟩ := hS _ hdr
          have Hdr := hid hdr
          have e1c : (madeCells (Value.int .i64 0).cells (N * 1)).toList = List.replicate N (.int .i64 0) := by
            simp [madeCells, Value.cells, Nat.mod_one, List.map_const']
          have He1c := hid e1c
          clear hS hmk1 hdr e1c
          go_upto_region 16 with fail
          go_cut [71] from 59 to 71 (fun v71 wx => v71 = .bool false ∧ Below w11.heap.size w11 wx)
          case first =>
            by_cases hNle : N ≤ 64
            · have hNb : decide ((N : Int) ≤ 64) = true := by simp; omega
              have hNb2 : decide (N ≤ 64) = true := by simp; omega
              have hNb3 : (N : Int) ≤ 64 := by omega
              go_region_held3 (fun w' => w'.cell? ⟨bg, 0, none⟩ = some (.int .i64 0) ∧ w'.cell? ⟨bg, 1, none⟩ = some (.int .i64 1) ∧ w'.cell? ⟨bg, 2, none⟩ = some (.int .i64 1) ∧ w'.cell? ⟨bg, 3, none⟩ = some (.bool false) ∧ w'.cell? ⟨bg, 4, none⟩ = some (.slice (some ⟨g8, 0, none⟩) 3 c8))
                (first | exact ⟨‹_›, ‹_›, ‹_›, ‹_›, ‹_›⟩)
                (first
                  | (go_at_call 15; refine (HmkB.out).mono ?_; rintro e w15 ⟨b2, bc2, gp2, cp2, ms2, T2, rfl, -, -, -, hb15'⟩; obtain ⟨q50, q51, q52, q53, q54⟩ := HS.out w15 (below0 H13.out hb15'); have H15 := hid (below0 H13.out hb15'))
                  | (go_at_call 15; refine (HmkA.out).mono ?_; rintro e w15 ⟨b2, bc2, gp2, cp2, ms2, T2, rfl, -, -, -, hb15'⟩; obtain ⟨q50, q51, q52, q53, q54⟩ := HS.out w15 (below0 H16.out hb15'); have H15 := hid (below0 H16.out hb15'))
                  | (go_at_call 15; refine (Hmk1.out _ Hdr.out).mono ?_; rintro e w12 ⟨rfl, hb12⟩; have H12 := hid (below0 Hdr.out hb12); obtain ⟨q20, q21, q22, q23, q24⟩ := HS.out w12 H12.out; obtain ⟨w14, hrun14, hown14, hg14⟩ := run_make_full (P := Try.prog) (w := w12) w12.heap.size 23 3 i3 (.int .i64 0) 1 Try.underlying23 hi3 z0 z1 .i64 .i64 N (by rw [z2]; omega) (by unfold maxLen; omega) (Nat.le_refl _); have hbm14 : Below w12.heap.size w12 w14 := (Below.refl _ _).grown hg14 (Nat.le_refl _) (fun k e => by cases e); have Hrow14 : Hid (RowI w14 w14.heap.size (some ⟨w12.heap.size, 0, none⟩) (List.replicate N 0)) := hid (bk_rowI (by rw [List.map_replicate, ← He1c.out]; exact bk_full hown14)); clear hown14; have H14 := hid (below0 H12.out hbm14); obtain ⟨q40, q41, q42, q43, q44⟩ := HS.out w14 H14.out)
                  | (go_at_call 16; refine (doubles_calls _).mono ?_; rintro e w13 ⟨gp13, rfl, hp13, hb13⟩; have Hp13 := hid hp13; clear hp13; (first | (have H13 := hid (below0 H14.out hb13)) | (have H13 := hid (below0 H12.out hb13))); obtain ⟨q30, q31, q32, q33, q34⟩ := HS.out w13 H13.out; obtain ⟨w16, hrun16, hown16, hg16⟩ := run_make_full (P := Try.prog) (w := w13) w13.heap.size 23 3 i3 (.int .i64 0) 1 Try.underlying23 hi3 z0 z1 .i64 .i64 N (by rw [z2]; omega) (by unfold maxLen; omega) (Nat.le_refl _); have hbm16 : Below w13.heap.size w13 w16 := (Below.refl _ _).grown hg16 (Nat.le_refl _) (fun k e => by cases e); have Hrow16 : Hid (RowI w16 w16.heap.size (some ⟨w13.heap.size, 0, none⟩) (List.replicate N 0)) := hid (bk_rowI (by rw [List.map_replicate, ← He1c.out]; exact bk_full hown16)); clear hown16; have H16 := hid (below0 H13.out hbm16); obtain ⟨q60, q61, q62, q63, q64⟩ := HS.out w16 H16.out; have HmkA : Hid (Calls Try.prog 15 #[.agg #[.int .i64 0, .int .i64 1, .int .i64 1, .bool false, .slice gp13 dblP.length 2], .slice (some ⟨w13.heap.size, 0, none⟩) N N] w16 (MadeC w16 N)) := hid (make_dbl w16 gp13 2 ((Hp13.out.below hbm16).mono hbm16.size) _ N N Hrow16.out hNle); (try (have HmkB : Hid (Calls Try.prog 15 #[.agg #[.int .i64 0, .int .i64 1, .int .i64 1, .bool false, .slice gp13 dblP.length 2], .slice (some ⟨w12.heap.size, 0, none⟩) N N] w13 (MadeC w13 N)) := hid (make_dbl w13 gp13 2 Hp13.out _ N N ((Hrow14.out.below hb13).mono hb13.size) hNle)))))
              all_goals
                go_wp2_with fail
                go_meet
                case rel => exact ⟨rfl, H15.out⟩
            · have hNb : decide ((N : Int) ≤ 64) = false := by simp; omega
              have hNb2 : decide (N ≤ 64) = false := by simp; omega
              have hNb3 : ¬ (N : Int) ≤ 64 := by omega
              go_region_held3 (fun w' => w'.cell? ⟨bg, 0, none⟩ = some (.int .i64 0) ∧ w'.cell? ⟨bg, 1, none⟩ = some (.int .i64 1) ∧ w'.cell? ⟨bg, 2, none⟩ = some (.int .i64 1) ∧ w'.cell? ⟨bg, 3, none⟩ = some (.bool false) ∧ w'.cell? ⟨bg, 4, none⟩ = some (.slice (some ⟨g8, 0, none⟩) 3 c8))
                (first | exact ⟨‹_›, ‹_›, ‹_›, ‹_›, ‹_›⟩)
                (first
                  | (go_at_call 15; refine (HmkB.out).mono ?_; rintro e w15 ⟨rfl, hb15'⟩; obtain ⟨q50, q51, q52, q53, q54⟩ := HS.out w15 (below0 H13.out hb15'); have H15 := hid (below0 H13.out hb15'))
                  | (go_at_call 15; refine (HmkA.out).mono ?_; rintro e w15 ⟨rfl, hb15'⟩; obtain ⟨q50, q51, q52, q53, q54⟩ := HS.out w15 (below0 H16.out hb15'); have H15 := hid (below0 H16.out hb15'))
                  | (go_at_call 15; refine (Hmk1.out _ Hdr.out).mono ?_; rintro e w12 ⟨rfl, hb12⟩; have H12 := hid (below0 Hdr.out hb12); obtain ⟨q20, q21, q22, q23, q24⟩ := HS.out w12 H12.out; obtain ⟨w14, hrun14, hown14, hg14⟩ := run_make_full (P := Try.prog) (w := w12) w12.heap.size 23 3 i3 (.int .i64 0) 1 Try.underlying23 hi3 z0 z1 .i64 .i64 N (by rw [z2]; omega) (by unfold maxLen; omega) (Nat.le_refl _); have hbm14 : Below w12.heap.size w12 w14 := (Below.refl _ _).grown hg14 (Nat.le_refl _) (fun k e => by cases e); have Hrow14 : Hid (RowI w14 w14.heap.size (some ⟨w12.heap.size, 0, none⟩) (List.replicate N 0)) := hid (bk_rowI (by rw [List.map_replicate, ← He1c.out]; exact bk_full hown14)); clear hown14; have H14 := hid (below0 H12.out hbm14); obtain ⟨q40, q41, q42, q43, q44⟩ := HS.out w14 H14.out)
                  | (go_at_call 16; refine (doubles_calls _).mono ?_; rintro e w13 ⟨gp13, rfl, hp13, hb13⟩; have Hp13 := hid hp13; clear hp13; (first | (have H13 := hid (below0 H14.out hb13)) | (have H13 := hid (below0 H12.out hb13))); obtain ⟨q30, q31, q32, q33, q34⟩ := HS.out w13 H13.out; obtain ⟨w16, hrun16, hown16, hg16⟩ := run_make_full (P := Try.prog) (w := w13) w13.heap.size 23 3 i3 (.int .i64 0) 1 Try.underlying23 hi3 z0 z1 .i64 .i64 N (by rw [z2]; omega) (by unfold maxLen; omega) (Nat.le_refl _); have hbm16 : Below w13.heap.size w13 w16 := (Below.refl _ _).grown hg16 (Nat.le_refl _) (fun k e => by cases e); have Hrow16 : Hid (RowI w16 w16.heap.size (some ⟨w13.heap.size, 0, none⟩) (List.replicate N 0)) := hid (bk_rowI (by rw [List.map_replicate, ← He1c.out]; exact bk_full hown16)); clear hown16; have H16 := hid (below0 H13.out hbm16); obtain ⟨q60, q61, q62, q63, q64⟩ := HS.out w16 H16.out; have HmkA : Hid (Calls Try.prog 15 #[.agg #[.int .i64 0, .int .i64 1, .int .i64 1, .bool false, .slice gp13 dblP.length 2], .slice (some ⟨w13.heap.size, 0, none⟩) N N] w16 fun e w' => e = .returned (.pointer none) ∧ Below w16.heap.size w16 w') := hid (by have h := make_no w16 0 1 1 false gp13 2 dblP ((Hp13.out.below hbm16).mono hbm16.size) (by decide) (fun x hx => by simp [dblP] at hx; rcases hx with rfl | rfl <;> decide) (by decide) (some ⟨w13.heap.size, 0, none⟩) N (List.replicate N 0) Hrow16.out (by simp; omega) (right_long _ (by simp; omega)); rw [List.length_replicate] at h; exact h); (try (have HmkB : Hid (Calls Try.prog 15 #[.agg #[.int .i64 0, .int .i64 1, .int .i64 1, .bool false, .slice gp13 dblP.length 2], .slice (some ⟨w12.heap.size, 0, none⟩) N N] w13 fun e w' => e = .returned (.pointer none) ∧ Below w13.heap.size w13 w') := hid (by have h := make_no w13 0 1 1 false gp13 2 dblP Hp13.out (by decide) (fun x hx => by simp [dblP] at hx; rcases hx with rfl | rfl <;> decide) (by decide) (some ⟨w12.heap.size, 0, none⟩) N (List.replicate N 0) ((Hrow14.out.below hb13).mono hb13.size) (by simp; omega) (right_long _ (by simp; omega)); rw [List.length_replicate] at h; exact h)))))
              all_goals
                go_wp2_with fail
                go_meet
                case rel => exact ⟨rfl, H15.out⟩
          case rest =>
            obtain ⟨rfl, hb15⟩ := hcut
            clear q0 q1 q2 q3 q4 HS Hmk1 Hdr Hbk11 Hp3
            have hbc := below0 Hb15.out (below0 Hb11.out hb15)
            obtain ⟨x0, x1, x2⟩ := HK3.out _ hbc
            have Hbn : Hid (∀ k, Below wr.heap.size wr (wc.drewN k)) := hid (fun k => below0 hbc (below_drewN (Below.refl _ _) k))
            clear hb15 hbc
            go_upto_region 20 with fail
            go_quiet (first
                  | (go_at_call 20; refine Calls.quiet_of (quiet_exact (has_nil _ _ _ _)))
                  | (go_at_call 22; refine Calls.quiet_of (quiet_exact (yes_nil _)))
                  | (go_at_call 18; refine Calls.quiet_of (quiet_exact (trees_nil _)))
                  | (go_at_call 19; refine Calls.quiet_of (quiet_exact (amb_nil _)))
                  | (go_at_call_of 21 (Value.pointer none); refine Calls.quiet_of (quiet_exact (cell_nil _ _ _))))
            go_wp2_with fail
            go_ret
            exact ⟨rfl, below0 Hbw.out (Hbn.out _)⟩
end Go.Proofs.Ytbpgolmbielpgaa
