/- Chapter 17 (earley): EarleyNone: walk. -/
import Derived.Test.YtaehooafdbaomaaSpk17
import Derived.Test.YtaehooafdbaomaaEdW
import Derived.Test.YtaehooafdbaomaaLawArr
import Derived.Test.YtaehooafdbaomaaFresh
import Derived.Test.YtaehooafdbaomaaProds
import Derived.Test.YtaehooafdbaomaaClone5
namespace Go.Proofs.Ytaehooafdbaomaa
open Go.RowKit
attribute [local go_sem ↓] Go.wp_at_zero Go.wp_at_succ
attribute [local go_sem] frozen_alloc_lt
namespace Ed

/-- The nested grammar at another start. -/
def nestAt (st : Int) : Gr := ⟨st, 1, [⟨#[83]⟩], [⟨#[120]⟩, ⟨#[121]⟩, ⟨#[122]⟩], [(0, [-1, 0, -2]), (0, [-3])]⟩
theorem nestAt_in {w : World} {st : Int} {gn gt gp : Option Addr} (h : GIn w nest17 gn gt gp) : GIn w (nestAt st) gn gt gp := ⟨h.n, h.t, h.p, h.h1, h.h2, h.h3, h.h4⟩
theorem nestAt_un {st : Int} (h : st ≠ 0) : Pl.soundB (nestAt st) = false := by
  unfold Pl.soundB
  split
  · rfl
  · rename_i h1
    split
    · rfl
    · rename_i h2
      simp [nestAt] at h1 h2
      omega
theorem row_take17 {w : World} {B : Nat} {ga : Option Addr} {zs : List Int} (h : RowI w B ga zs) (k : Nat) : RowI w B ga (zs.take k) := fun i hi => by
  have hi2 : i < zs.length := by rw [List.length_take] at hi; omega
  obtain ⟨g, o, h1, h2, h3⟩ := h.at hi2
  refine ⟨g, o, .int .i64 zs[i], h1, h2, h3, ?_⟩
  simp [List.getD, List.getElem?_eq_getElem hi, List.getElem_take]
theorem ints_row17 {w : World} {D : Nat → Prop} {ga : Option Addr} {zs : List Int} {B : Nat} (h : CellsD w D ga (zs.map (Value.int .i64)).length fun i u => (zs.map (Value.int .i64))[i]? = some u) (hD : ∀ k, D k → k < B) : RowI w B ga zs := fun i hi => by
  obtain ⟨g, off, u, h1, h2, h3, h4⟩ := h i (by simpa using hi)
  refine ⟨g, off, u, h1, hD g h2, h3, ?_⟩
  rw [List.getElem?_map, List.getElem?_eq_getElem hi] at h4
  injection h4 with h4
  rw [← h4]
  simp [List.getD, List.getElem?_eq_getElem hi]
theorem run_append_freshN {P : Program} (w : World) (t ty e : TypeId) (i : TypeInfo) (z : Value) (ht : P.underlying t = some (.slice e)) (hi : P.info? e = some i) (hz : i.zero = some z)
    (hsize : i.size = 1) (hby : i.bytes ≤ 64) (hzs : z.cells.size = 1) (ad : Addr) (D : Nat → Prop) (ga : Option Addr) (c : Nat) (news : List Value) (hr : CellsD w D ga news.length fun i u => news[i]? = some u) (h1 : ∀ u ∈ news, u.oneCell' = true) (hn : news.length ≤ 1000000) :
    ∃ gv cap w', (Builtin.append_ #[t, t] ty #[.slice (some ad) 0 0, .slice ga news.length c]).run P w = .ok (.slice gv news.length cap) w' ∧ Kp (fun _ => False) w w' ∧
      CellsD w' (fun k => k < w'.heap.size ∧ ∃ cs, w'.heap[k]? = some (.cells cs e)) gv news.length (fun i u => news[i]? = some u) ∧ (gv = none → cap = 0) := by
  cases hne : news with
  | nil =>
    have hl0 : ∀ (a : Addr) (w : World), (loadCells a 0).run P w = .ok #[] w := fun a w => rfl
    have hs0 : ∀ (a : Addr) (w : World), (storeCells a []).run P w = .ok () w := fun a w => rfl
    subst hne
    refine ⟨some ad, 0, w, ?_, Kp.refl _ _, (fun j hj => by simp at hj), fun e => by cases e⟩
    cases ga <;> simp [Builtin.append_, run_underlying ht, sizeOf, typeInfo, hi, Builtin.lenOf, Builtin.firstCells, hl0, hs0]
  | cons u r =>
    rw [← hne]
    obtain ⟨gv, cap, w', k1, k2, k3⟩ := run_append_fresh (P := P) w t ty e i z ht hi hz hsize hby hzs ad D ga c news hr h1 hn
    refine ⟨gv, cap, w', k1, k2, k3, fun e => ?_⟩
    obtain ⟨g, off, _, h, _⟩ := k3 0 (by rw [hne]; simp)
    rw [e] at h
    cases h
theorem step_make_g {P : Program} (w : World) {ops : Array Oper} {o : Oper} {a : Act} {K : Act → World → Prop} {Q : Exit → Act → World → Prop} {E : Prop}
    (hw : Region.wanted o (yielded ops a.tmps) = true) (l c : Operand) (t : TypeId) (hop : o.op = Op.makeSlice t l c)
    (e : TypeId) (i : TypeInfo) (z : Value) (h1 : P.underlying t = some (.slice e)) (h2 : P.info? e = some i) (h3 : i.zero = some z) (h4 : i.size = 1) (hz : z.cells = #[z])
    (n : Nat) (hl : a.eval l = .int .i64 (n : Int)) (hc : a.eval c = .int .i64 (n : Int)) (b2 : i.bytes * n ≤ 281474976710656) (b3 : n ≤ 9223372036854775807)
    (hK : ∀ w', Bk w' w.heap.size e (List.replicate n z) → Kp (fun _ => False) w w' → K (a.put o.dst (.slice (some ⟨w.heap.size, 0, none⟩) n n)) w') :
    if Region.wanted o (yielded ops a.tmps) = true then Oper.wp P o a w K Q else E := by
  rw [if_pos hw]
  obtain ⟨w', hrun, r1, r2⟩ := run_make_full (P := P) w w.heap.size t e i z 1 h1 h2 h3 h4 .i64 .i64 n b2 (by unfold maxLen; omega) (Nat.le_refl _)
  unfold Oper.wp
  simp [execOp, hop, hl, hc, hrun, Result.andThen]
  refine hK w' ?_ ((Kp.refl _ w).grown r2 fun k hk => by cases hk)
  have h := bk_full r1
  have e1 : (madeCells z.cells (n * 1)).toList = List.replicate n z := by
    simp [madeCells, hz, Nat.mod_one, List.map_const']
  rwa [e1] at h
theorem zeros_row {w : World} {g k : Nat} (h : Bk w g 3 (List.replicate k (.int .i64 0))) : RowI w w.heap.size (some ⟨g, 0, none⟩) (List.replicate k 0) := bk_rowI (h.of (by simp))
theorem zero_yes (w : World) (gn gt gp : Option Addr) (hG : GIn w nest17 gn gt gp) (g k : Nat) (hk : Bk w g 3 (List.replicate k (.int .i64 0))) (_h67 : k ≤ 67) (h64 : k ≤ 64) :
    Calls Try.prog 43 #[.agg #[.int .i64 0, .int .i64 1, .slice gn 1 1, .slice gt 3 3, .slice gp 2 2], .slice (some ⟨g, 0, none⟩) k k] w fun e w' => ∃ c : Nat, e = .returned (.pointer (some ⟨c, 0, none⟩)) ∧ Below w.heap.size w w' := by
  have h := make_yes w nest17 gn gt gp 1 3 2 hG nest_sound (some ⟨g, 0, none⟩) k (List.replicate k 0) (zeros_row hk) (by simpa using h64) (by rw [List.any_eq_false]; intro x hx; rw [(List.mem_replicate.1 hx).2]; decide) (fun e => by cases e)
  rw [List.length_replicate] at h
  exact h.mono fun e w' ⟨c, Xs, h1, _, _, h2⟩ => ⟨c, h1, h2⟩
theorem zero_no (w : World) (gn gt gp : Option Addr) (hG : GIn w nest17 gn gt gp) (g k : Nat) (_hk : Bk w g 3 (List.replicate k (.int .i64 0))) (_h67 : k ≤ 67) (h64 : ¬ k ≤ 64) :
    Calls Try.prog 43 #[.agg #[.int .i64 0, .int .i64 1, .slice gn 1 1, .slice gt 3 3, .slice gp 2 2], .slice (some ⟨g, 0, none⟩) k k] w fun e w' => e = .returned (.pointer none) ∧ Below w.heap.size w w' :=
  make_long w nest17 gn gt gp 1 3 2 hG nest_sound (some ⟨g, 0, none⟩) k k (by omega)
/-- Whether the words of the law are good so far. -/
def okB (st : Int) (zs : List Int) : Bool := decide (st = 0) && !zs.any (badT 3)
def NnAt (w0 : World) (st : Int) (rs : List Int) (k : Nat) (v8 v9 : Value) (w : World) : Prop := ∃ i : Nat, v9 = .int .i64 i ∧ v8 = .bool (okB st (rs.take i)) ∧ i ≤ rs.length ∧ k = rs.length - i ∧ w0 = w
set_option maxHeartbeats 8000000 in
set_option maxRecDepth 8000 in
theorem none17_calls (st n : Int) (zs : List Int) (v2 : Value) (w : World) (hz : IntsV w zs v2) : Calls Try.prog 9 #[.int .i64 st, .int .i64 n, v2] w fun e w' => e = .returned (.bool true) ∧ Below w.heap.size w w' := by
  obtain ⟨gc, cc, rfl, hc, hc1, hc2, hc3n⟩ := hz
  obtain ⟨i3, hi3, z0, z1, z2⟩ := info_parts intInfo
  go_enter Try.func9, Try.ntmps9
  go_upto_region 3 with (go_at_call 40; refine (speaks17_calls _).mono ?_; rintro e w1 ⟨rfl, hb1⟩)
  go_upto_region 5 with (go_at_call 50; refine (nested17_calls _).mono ?_; rintro e w2 ⟨gn, gt, gp, rfl, hG, hb2⟩)
  have hb02 : Below w.heap.size w w2 := belw hb1 hb2
  have hba := bel_al (bel_id w2) (.cells #[.int .i64 st, .int .i64 1, .slice gn 1 1, .slice gt 3 3, .slice gp 2 2] 30)
  have hkp := Bk.new w2 30 [.int .i64 st, .int .i64 1, .slice gn 1 1, .slice gt 3 3, .slice gp 2 2]
  obtain ⟨w3, hw3⟩ : ∃ w3, w3 = w2.alloc (.cells #[.int .i64 st, .int .i64 1, .slice gn 1 1, .slice gt 3 3, .slice gp 2 2] 30) := ⟨_, rfl⟩
  obtain ⟨bp, hbp⟩ : ∃ bp, bp = w2.heap.size := ⟨_, rfl⟩
  rw [← hw3] at hba hkp ⊢
  rw [← hbp] at hkp ⊢
  have hbw3 := belw hb02 hba
  have hG3 := hG.later hba
  have hc4 : RowI w3 w3.heap.size gc zs := (hc.below hbw3).mono hbw3.size
  clear hw3 hbp hG hb1 hb2 hb02 hba hc
  obtain ⟨rs, hrs⟩ : ∃ rs, rs = zs.take 10 := ⟨_, rfl⟩
  have hrow4 : RowI w3 w3.heap.size gc rs := by rw [hrs]; exact row_take17 hc4 10
  have hrl : rs.length = min zs.length 10 := by rw [hrs, List.length_take, Nat.min_comm]
  have hr7 : rs.length ≤ 10 := by omega
  have hrz : rs.length ≤ zs.length := by omega
  have hmin : min (zs.length : Int) 10 = (rs.length : Int) := by omega
  have hmin2 : (if (10 : Int) < (zs.length : Int) then (10 : Int) else (zs.length : Int)) = (rs.length : Int) := by split <;> omega
  have hmin3 : (if 10 < zs.length then (10 : Int) else (zs.length : Int)) = (rs.length : Int) := by split <;> omega
  have hcs1 := (ints_cells hrow4).kp (S := fun _ => False) ((Kp.refl _ w3).alloc (.cells #[] 3)) (fun _ _ h => h) (fun _ _ _ h => h)
  obtain ⟨gv, capv, w5, hrun, hk5, hcd, hcap⟩ := run_append_freshN (P := Try.prog) (w3.alloc (.cells #[] 3)) 22 22 3 i3 _ Try.underlying22 hi3 z0 z1 (by rw [z2]; omega) rfl ⟨w3.heap.size, 0, none⟩ _ gc cc (rs.map (Value.int .i64)) hcs1 (fun u hu => by
    obtain ⟨z, _, rfl⟩ := List.mem_map.1 hu
    rfl) (by rw [List.length_map]; omega)
  rw [List.length_map] at hrun
  have hal5 : Kp (fun _ => False) w3 (w3.alloc (.cells #[] 3)) := (Kp.refl _ w3).alloc _
  have hb5 : Below w3.heap.size w3 w5 := (hal5.trans hk5).to_below (Nat.le_refl _) (fun k e => e.elim)
  have hrow5 : RowI w5 w5.heap.size gv rs := ints_row17 hcd (fun k hk => hk.1)
  have H5 := hid (And.intro hrow5 (And.intro (hkp.below hb5 hkp.lt) (And.intro (hG3.later hb5) (And.intro (belw hbw3 hb5) hr7))))
  have Hcap := hid hcap
  clear hcap hrow5 hb5 hal5 hcd hk5 hcs1 hrl hrow4 hG3 hkp hbw3 hc4 hrs hr7 z0 z1 z2 hi3
  have hcc : rs.length ≤ cc := by omega
  go_cut [2] from 16 to 22 (fun v2 wx => wx = w5 ∧ v2 = .slice gv rs.length capv)
  case first =>
    cases gc with
    | none =>
      obtain rfl : cc = 0 := hc3n rfl
      obtain rfl : zs = [] := List.eq_nil_of_length_eq_zero (by omega)
      obtain rfl : rs = [] := List.eq_nil_of_length_eq_zero (by omega)
      go_upto_region 6 with (at_builtin; refine wpList_append_run rfl _ _ _ rfl (.slice (some ⟨w3.heap.size, 0, none⟩) 0 0) (.slice none 0 0) (.slice gv 0 capv) w5 (by rfl) (by rfl) (by exact hrun) ?_)
      go_meet
      case rel => exact ⟨rfl, rfl⟩
    | some ad =>
      go_upto_region 6 with (at_builtin; refine wpList_append_run rfl _ _ _ rfl (.slice (some ⟨w3.heap.size, 0, none⟩) 0 0) (.slice (some ad) rs.length cc) (.slice gv rs.length capv) w5 (by rfl) (by rfl) (by exact hrun) ?_)
      go_meet
      case rel => exact ⟨rfl, rfl⟩
  case rest =>
    obtain ⟨hwc, rfl⟩ := hcut
    rw [hwc]
    clear hwc hrun hcc hmin hmin2 hmin3 hrz hc1 hc2 hc3n
    go_wp2_with fail
    go_loopg [8, 9] rs.length (fun k v8 v9 wr => NnAt w5 st rs k v8 v9 wr)
    case atStart => exact ⟨0, rfl, by simp [okB]; rfl, Nat.zero_le _, rfl, rfl⟩
    case round =>
      obtain ⟨i, rfl, rfl, hi, hk, rfl⟩ := hrel
      have Hk := hid hk
      have hr10 := H5.out.2.2.2.2
      clear hk
      obtain ⟨b, hb⟩ : ∃ b, b = okB st (rs.take i) := ⟨_, rfl⟩
      rw [← hb]
      by_cases hlt : i < rs.length
      · have hltI : (i : Int) < (rs.length : Int) := by omega
        have hi0 : (0 : Int) ≤ (i : Int) := by omega
        obtain ⟨g, off, rfl, hg, hcell⟩ := H5.out.1.at hlt
        obtain ⟨z, hz⟩ : ∃ z, z = rs[i] := ⟨_, rfl⟩
        rw [← hz] at hcell
        have hnext : okB st (rs.take (i + 1)) = (b && !badT 3 z) := by
          rw [hb, List.take_succ_eq_append_getElem hlt, ← hz]
          simp [okB, Bool.and_assoc]
        have Hnext := hid hnext
        clear hb hz hnext
        cases b with
        | false =>
          go_wp2_with fail
          go_roundg (rs.length - (i + 1))
          case measure => have := Hk.out; omega
          case rel => exact ⟨i + 1, by go_num, by rw [Hnext.out]; rfl, by omega, rfl, rfl⟩
        | true =>
          by_cases h0 : 0 ≤ z
          · by_cases h3 : z < 3
            · have hb : badT 3 z = false := by simp [badT]; omega
              have Hb := hid hb
              clear hb
              go_wp2_with fail
              go_roundg (rs.length - (i + 1))
              case measure => have := Hk.out; omega
              case rel => exact ⟨i + 1, by go_num, by rw [Hnext.out, Hb.out]; rfl, by omega, rfl, rfl⟩
            · have hb : badT 3 z = true := by simp [badT]; omega
              have Hb := hid hb
              clear hb
              go_wp2_with fail
              go_roundg (rs.length - (i + 1))
              case measure => have := Hk.out; omega
              case rel => exact ⟨i + 1, by go_num, by rw [Hnext.out, Hb.out]; rfl, by omega, rfl, rfl⟩
          · have hb : badT 3 z = true := by simp [badT]; omega
            have hneg : z < 0 := by omega
            have Hb := hid hb
            clear hb
            go_wp2_with fail
            go_roundg (rs.length - (i + 1))
            case measure => have := Hk.out; omega
            case rel => exact ⟨i + 1, by go_num, by rw [Hnext.out, Hb.out]; rfl, by omega, rfl, rfl⟩
      · have hge : ¬ (i : Int) < (rs.length : Int) := by omega
        rw [List.take_of_length_le (by omega)] at hb
        have Hb := hid hb
        clear hb
        obtain ⟨m, hm7, he7⟩ := and7 n
        have p0 := H5.out.2.1.cell 0
        have p1 := H5.out.2.1.cell 1
        have p2 := H5.out.2.1.cell 2
        have p3 := H5.out.2.1.cell 3
        have p4 := H5.out.2.1.cell 4
        simp only [List.getElem?_cons_zero, List.getElem?_cons_succ] at p0 p1 p2 p3 p4
        go_upto_region 12 with fail
        cases b with
        | false =>
          have hno : Calls Try.prog 43 #[.agg #[.int .i64 st, .int .i64 1, .slice gn 1 1, .slice gt 3 3, .slice gp 2 2], .slice gv rs.length capv] w5 (MkNo w5) := by
            by_cases h0 : st = 0
            · have hany : rs.any (badT 3) = true := by
                have h := Hb.out
                cases hc : rs.any (badT 3) with
                | true => rfl
                | false => simp [okB, h0, hc] at h
              subst h0
              exact make_bad w5 (nestAt 0) gn gt gp 1 3 2 (nestAt_in H5.out.2.2.1) (by decide) gv capv rs H5.out.1 (by omega) hany
            · exact make_unsound w5 (nestAt st) gn gt gp 1 3 2 (nestAt_in H5.out.2.2.1) (nestAt_un h0) gv capv rs.length
          have Hno := hid hno
          clear hno
          go_upto_region 13 with (go_at_call 43; refine Hno.out.mono ?_; rintro e w6 ⟨rfl, hb6⟩)
          have hb7 : Below w5.heap.size w5 w6.drew := hb6.trans ((show Below w6.heap.size w6 w6.drew from below_drewN (Below.refl _ _) 1).mono hb6.size)
          obtain ⟨k, hk⟩ : ∃ k, k = 60 + m := ⟨_, rfl⟩
          have hkI : (60 : Int) + (m : Int) = (k : Int) := by omega
          have hk67 : k ≤ 67 := by omega
          obtain ⟨i3, hi3, x0, x1, x2⟩ := info_parts intInfo
          have Hb7 := hid hb7
          rw [hkI]
          clear hkI hk hb7 hb6 p0 p1 p2 p3 p4 Hno Hk hm7 he7 hge
          by_cases h64 : k ≤ 64
          · have h64I : (k : Int) ≤ 64 := by omega
            -- R13 no1
            refine wp_region_held_drew (S := fun _ : World => True) (by kernel_rfl) trivial (fun hHeld => ?_)
            refine wpAnyH_take (i := 0) (oi := ({ dst := some 52, op := Op.move (Operand.tmp 10), type := 78, pos := "law.go:168", after := #[], guard := none } : Oper)) (v := ?_) rfl (by kernel_rfl) (by kernel_rfl) (by kernel_rfl) (fun _ _ _ h => h) (Or.inl ⟨by kernel_rfl, ?_⟩) (by assumption) ?_
            rotate_left
            · intro w hSw
              try dsimp only at hSw
              go_simp
              try with_reducible rfl
            try simp only [Act.put, List.setIfInBounds_toArray, List.set_cons_zero, List.set_cons_succ]
            refine wpAnyH_take (i := 1) (oi := ({ dst := some 53, op := Op.binOp BinOp.neq 78 (Operand.tmp 52) (Operand.const (Value.pointer none)) 78, type := 4, pos := "law.go:168", after := #[{ on := 0, ground := Ground.data }], guard := none } : Oper)) (v := ?_) rfl (by kernel_rfl) (by kernel_rfl) (by kernel_rfl) (fun _ _ _ h => h) (Or.inl ⟨by kernel_rfl, ?_⟩) (by assumption) ?_
            rotate_left
            · intro w hSw
              try dsimp only at hSw
              go_simp
              try with_reducible rfl
            try simp only [Act.put, List.setIfInBounds_toArray, List.set_cons_zero, List.set_cons_succ]
            refine wpAnyH_take (i := 2) (oi := ({ dst := some 54, op := Op.move (Operand.tmp 8), type := 4, pos := "law.go:168", after := #[], guard := none } : Oper)) (v := ?_) rfl (by kernel_rfl) (by kernel_rfl) (by kernel_rfl) (fun _ _ _ h => h) (Or.inl ⟨by kernel_rfl, ?_⟩) (by assumption) ?_
            rotate_left
            · intro w hSw
              try dsimp only at hSw
              go_simp
              try with_reducible rfl
            try simp only [Act.put, List.setIfInBounds_toArray, List.set_cons_zero, List.set_cons_succ]
            refine wpAnyH_take (i := 3) (oi := ({ dst := some 55, op := Op.binOp BinOp.eql 4 (Operand.tmp 53) (Operand.tmp 54) 4, type := 4, pos := "law.go:168", after := #[{ on := 1, ground := Ground.data }, { on := 2, ground := Ground.data }], guard := none } : Oper)) (v := ?_) rfl (by kernel_rfl) (by kernel_rfl) (by kernel_rfl) (fun _ _ _ h => h) (Or.inl ⟨by kernel_rfl, ?_⟩) (by assumption) ?_
            rotate_left
            · intro w hSw
              try dsimp only at hSw
              go_simp
              try with_reducible rfl
            try simp only [Act.put, List.setIfInBounds_toArray, List.set_cons_zero, List.set_cons_succ]
            refine wpAnyH_take (i := 4) (oi := ({ dst := some 56, op := Op.move (Operand.tmp 55), type := 4, pos := "law.go:168", after := #[{ on := 3, ground := Ground.data }], guard := none } : Oper)) (v := ?_) rfl (by kernel_rfl) (by kernel_rfl) (by kernel_rfl) (fun _ _ _ h => h) (Or.inl ⟨by kernel_rfl, ?_⟩) (by assumption) ?_
            rotate_left
            · intro w hSw
              try dsimp only at hSw
              go_simp
              try with_reducible rfl
            try simp only [Act.put, List.setIfInBounds_toArray, List.set_cons_zero, List.set_cons_succ]
            refine wpAnyH_take (i := 5) (oi := ({ dst := some 57, op := Op.move (Operand.tmp 10), type := 78, pos := "law.go:168", after := #[{ on := 4, ground := Ground.guard }], guard := some (4, true) } : Oper)) (v := ?_) rfl (by kernel_rfl) (by kernel_rfl) (by kernel_rfl) (fun _ _ _ h => h) (Or.inl ⟨by kernel_rfl, ?_⟩) (by assumption) ?_
            rotate_left
            · intro w hSw
              try dsimp only at hSw
              go_simp
              try with_reducible rfl
            try simp only [Act.put, List.setIfInBounds_toArray, List.set_cons_zero, List.set_cons_succ]
            refine wpAnyH_take (i := 8) (oi := ({ dst := some 60, op := Op.move (Operand.tmp 8), type := 4, pos := "law.go:168", after := #[{ on := 4, ground := Ground.guard }], guard := some (4, true) } : Oper)) (v := ?_) rfl (by kernel_rfl) (by kernel_rfl) (by kernel_rfl) (fun _ _ _ h => h) (Or.inl ⟨by kernel_rfl, ?_⟩) (by assumption) ?_
            rotate_left
            · intro w hSw
              try dsimp only at hSw
              go_simp
              try with_reducible rfl
            try simp only [Act.put, List.setIfInBounds_toArray, List.set_cons_zero, List.set_cons_succ]
            refine wpAnyH_ready (rs := [6]) (by kernel_rfl) (by simp) ?_
            refine AllReadyH.cons (o := ({ dst := some 58, op := Op.call { callee := Callee.value (Operand.func 47), args := #[Operand.tmp 57], argTypes := #[78] }, type := 3, pos := "law.go:168", after := #[{ on := 5, ground := Ground.data }, { on := 4, ground := Ground.chain }, { on := 4, ground := Ground.guard }], guard := some (4, true) } : Oper)) rfl (fun K hK => ?_) AllReadyH.nil
            go_simp
            go_at_call 47
            refine (good_none _).mono ?_
            rintro e wg ⟨rfl, rfl⟩
            refine hK.out _ _ trivial (fun hH2 => ?_)
            clear hK K hHeld
            have hHeld := hH2
            clear hH2
            try simp only [Act.put, List.setIfInBounds_toArray, List.set_cons_zero, List.set_cons_succ]
            refine wpAnyH_take (i := 7) (oi := ({ dst := some 59, op := Op.binOp BinOp.geq 3 (Operand.tmp 58) (Operand.const (Value.int IntKind.i64 0)) 3, type := 4, pos := "law.go:168", after := #[{ on := 6, ground := Ground.data }, { on := 4, ground := Ground.guard }], guard := some (4, true) } : Oper)) (v := ?_) rfl (by kernel_rfl) (by kernel_rfl) (by kernel_rfl) (fun _ _ _ h => h) (Or.inl ⟨by kernel_rfl, ?_⟩) (by assumption) ?_
            rotate_left
            · intro w hSw
              try dsimp only at hSw
              go_simp
              try with_reducible rfl
            try simp only [Act.put, List.setIfInBounds_toArray, List.set_cons_zero, List.set_cons_succ]
            refine wpAnyH_take (i := 9) (oi := ({ dst := some 61, op := Op.binOp BinOp.eql 4 (Operand.tmp 59) (Operand.tmp 60) 4, type := 4, pos := "law.go:168", after := #[{ on := 7, ground := Ground.data }, { on := 8, ground := Ground.data }, { on := 4, ground := Ground.guard }], guard := some (4, true) } : Oper)) (v := ?_) rfl (by kernel_rfl) (by kernel_rfl) (by kernel_rfl) (fun _ _ _ h => h) (Or.inl ⟨by kernel_rfl, ?_⟩) (by assumption) ?_
            rotate_left
            · intro w hSw
              try dsimp only at hSw
              go_simp
              try with_reducible rfl
            try simp only [Act.put, List.setIfInBounds_toArray, List.set_cons_zero, List.set_cons_succ]
            refine wpAnyH_take (i := 10) (oi := ({ dst := some 62, op := Op.pick (Operand.tmp 56) (Operand.tmp 61) (Operand.const (Value.bool false)), type := 4, pos := "law.go:168", after := #[{ on := 4, ground := Ground.data }, { on := 9, ground := Ground.data }], guard := none } : Oper)) (v := ?_) rfl (by kernel_rfl) (by kernel_rfl) (by kernel_rfl) (fun _ _ _ h => h) (Or.inl ⟨by kernel_rfl, ?_⟩) (by assumption) ?_
            rotate_left
            · intro w hSw
              try dsimp only at hSw
              go_simp
              try with_reducible rfl
            try simp only [Act.put, List.setIfInBounds_toArray, List.set_cons_zero, List.set_cons_succ]
            refine wpAnyH_take (i := 11) (oi := ({ dst := some 63, op := Op.move (Operand.tmp 62), type := 4, pos := "law.go:168", after := #[{ on := 10, ground := Ground.data }, { on := 6, ground := Ground.chain }], guard := none } : Oper)) (v := ?_) rfl (by kernel_rfl) (by kernel_rfl) (by kernel_rfl) (fun _ _ _ h => h) (Or.inl ⟨by kernel_rfl, ?_⟩) (by assumption) ?_
            rotate_left
            · intro w hSw
              try dsimp only at hSw
              go_simp
              try with_reducible rfl
            try simp only [Act.put, List.setIfInBounds_toArray, List.set_cons_zero, List.set_cons_succ]
            refine wpAnyH_take (i := 13) (oi := ({ dst := some 65, op := Op.move (Operand.tmp 1), type := 3, pos := "law.go:168", after := #[{ on := 11, ground := Ground.guard }], guard := some (11, true) } : Oper)) (v := ?_) rfl (by kernel_rfl) (by kernel_rfl) (by kernel_rfl) (fun _ _ _ h => h) (Or.inl ⟨by kernel_rfl, ?_⟩) (by assumption) ?_
            rotate_left
            · intro w hSw
              try dsimp only at hSw
              go_simp
              try with_reducible rfl
            try simp only [Act.put, List.setIfInBounds_toArray, List.set_cons_zero, List.set_cons_succ]
            refine wpAnyH_take (i := 17) (oi := ({ dst := some 69, op := Op.move (Operand.tmp 1), type := 3, pos := "law.go:168", after := #[{ on := 11, ground := Ground.guard }], guard := some (11, true) } : Oper)) (v := ?_) rfl (by kernel_rfl) (by kernel_rfl) (by kernel_rfl) (fun _ _ _ h => h) (Or.inl ⟨by kernel_rfl, ?_⟩) (by assumption) ?_
            rotate_left
            · intro w hSw
              try dsimp only at hSw
              go_simp
              try with_reducible rfl
            try simp only [Act.put, List.setIfInBounds_toArray, List.set_cons_zero, List.set_cons_succ]
            refine wpAnyH_take (i := 18) (oi := ({ dst := some 70, op := Op.binOp BinOp.leq 3 (Operand.tmp 69) (Operand.const (Value.int IntKind.i64 64)) 3, type := 4, pos := "law.go:168", after := #[{ on := 17, ground := Ground.data }, { on := 11, ground := Ground.guard }], guard := some (11, true) } : Oper)) (v := ?_) rfl (by kernel_rfl) (by kernel_rfl) (by kernel_rfl) (fun _ _ _ h => h) (Or.inl ⟨by kernel_rfl, ?_⟩) (by assumption) ?_
            rotate_left
            · intro w hSw
              try dsimp only at hSw
              go_simp
              try with_reducible rfl
            try simp only [Act.put, List.setIfInBounds_toArray, List.set_cons_zero, List.set_cons_succ]
            refine wpAnyH_ready (rs := [12, 14]) (by kernel_rfl) (by simp) ?_
            refine AllReadyH.cons (o := ({ dst := some 64, op := Op.call { callee := Callee.value (Operand.func 50), args := #[], argTypes := #[] }, type := 30, pos := "law.go:168", after := #[{ on := 11, ground := Ground.chain }, { on := 11, ground := Ground.guard }], guard := some (11, true) } : Oper)) rfl (fun K hK => ?_) ?_
            · go_simp
              go_at_call 50
              refine (nested17_calls _).mono ?_
              rintro e wN ⟨gN, tN, pN, rfl, hGN, hbN⟩
              have HN := hid (And.intro hGN (And.intro hbN (belw Hb7.out hbN)))
              clear hGN hbN
              refine hK.out _ _ trivial (fun hH2 => ?_)
              clear hK K hHeld
              have hHeld := hH2
              clear hH2
              try simp only [Act.put, List.setIfInBounds_toArray, List.set_cons_zero, List.set_cons_succ]
              have HNl := hid HN.out.2.2
              refine wpAnyH_ready (rs := [14]) (by kernel_rfl) (by simp) ?_
              refine AllReadyH.cons (o := ({ dst := some 66, op := Op.makeSlice 22 (Operand.tmp 65) (Operand.tmp 65), type := 22, pos := "law.go:168", after := #[{ on := 13, ground := Ground.data }, { on := 13, ground := Ground.data }, { on := 11, ground := Ground.guard }], guard := some (11, true) } : Oper)) rfl (fun K hK => ?_) AllReadyH.nil
              refine step_make_g _ (by kernel_rfl) _ _ _ rfl 3 i3 _ Try.underlying22 hi3 x0 x1 rfl k (by go_simp) (by go_simp) (by rw [x2]; omega) (by omega) ?_
              intro wM hbk hkM
              have HM := hid (And.intro hbk (And.intro (hkM.to_below (Nat.le_refl _) (fun k hk => hk.elim)) (belw HNl.out (hkM.to_below (Nat.le_refl _) (fun k hk => hk.elim)))))
              clear hbk hkM
              refine hK.out _ _ trivial (fun hH2 => ?_)
              clear hK K hHeld
              have hHeld := hH2
              clear hH2
              try simp only [Act.put, List.setIfInBounds_toArray, List.set_cons_zero, List.set_cons_succ]
              refine wpAnyH_ready (rs := [15]) (by kernel_rfl) (by simp) ?_
              refine AllReadyH.cons (o := ({ dst := some 67, op := Op.call { callee := Callee.value (Operand.func 43), args := #[Operand.tmp 64, Operand.tmp 66], argTypes := #[30, 22] }, type := 78, pos := "law.go:168", after := #[{ on := 12, ground := Ground.data }, { on := 14, ground := Ground.data }, { on := 12, ground := Ground.chain }, { on := 11, ground := Ground.guard }], guard := some (11, true) } : Oper)) rfl (fun K hK => ?_) AllReadyH.nil
              go_simp
              go_at_call 43
              refine (zero_yes _ gN tN pN (HN.out.1.later HM.out.2.1) wN.heap.size k HM.out.1 hk67 h64).mono ?_
              rintro e wZ ⟨cZ, rfl, hbZ⟩
              have HZ := hid (belw HM.out.2.2 hbZ)
              clear hbZ
              refine hK.out _ _ trivial (fun hH2 => ?_)
              clear hK K hHeld
              have hHeld := hH2
              clear hH2
              try simp only [Act.put, List.setIfInBounds_toArray, List.set_cons_zero, List.set_cons_succ]
              refine wpAnyH_take (i := 16) (oi := ({ dst := some 68, op := Op.binOp BinOp.neq 78 (Operand.tmp 67) (Operand.const (Value.pointer none)) 78, type := 4, pos := "law.go:168", after := #[{ on := 15, ground := Ground.data }, { on := 11, ground := Ground.guard }], guard := some (11, true) } : Oper)) (v := ?_) rfl (by kernel_rfl) (by kernel_rfl) (by kernel_rfl) (fun _ _ _ h => h) (Or.inl ⟨by kernel_rfl, ?_⟩) (by assumption) ?_
              rotate_left
              · intro w hSw
                try dsimp only at hSw
                go_simp
                try with_reducible rfl
              try simp only [Act.put, List.setIfInBounds_toArray, List.set_cons_zero, List.set_cons_succ]
              refine wpAnyH_take (i := 19) (oi := ({ dst := some 71, op := Op.binOp BinOp.eql 4 (Operand.tmp 68) (Operand.tmp 70) 4, type := 4, pos := "law.go:168", after := #[{ on := 16, ground := Ground.data }, { on := 18, ground := Ground.data }, { on := 11, ground := Ground.guard }], guard := some (11, true) } : Oper)) (v := ?_) rfl (by kernel_rfl) (by kernel_rfl) (by kernel_rfl) (fun _ _ _ h => h) (Or.inl ⟨by kernel_rfl, ?_⟩) (by assumption) ?_
              rotate_left
              · intro w hSw
                try dsimp only at hSw
                go_simp
                try with_reducible rfl
              try simp only [Act.put, List.setIfInBounds_toArray, List.set_cons_zero, List.set_cons_succ]
              refine wpAnyH_take (i := 20) (oi := ({ dst := some 72, op := Op.pick (Operand.tmp 63) (Operand.tmp 71) (Operand.const (Value.bool false)), type := 4, pos := "law.go:168", after := #[{ on := 11, ground := Ground.data }, { on := 19, ground := Ground.data }], guard := none } : Oper)) (v := ?_) rfl (by kernel_rfl) (by kernel_rfl) (by kernel_rfl) (fun _ _ _ h => h) (Or.inl ⟨by kernel_rfl, ?_⟩) (by assumption) ?_
              rotate_left
              · intro w hSw
                try dsimp only at hSw
                go_simp
                try with_reducible rfl
              try simp only [Act.put, List.setIfInBounds_toArray, List.set_cons_zero, List.set_cons_succ]
              refine wpAnyH_take (i := 21) (oi := ({ dst := some 73, op := Op.move (Operand.tmp 72), type := 4, pos := "law.go:168", after := #[{ on := 20, ground := Ground.data }, { on := 15, ground := Ground.chain }], guard := none } : Oper)) (v := ?_) rfl (by kernel_rfl) (by kernel_rfl) (by kernel_rfl) (fun _ _ _ h => h) (Or.inl ⟨by kernel_rfl, ?_⟩) (by assumption) ?_
              rotate_left
              · intro w hSw
                try dsimp only at hSw
                go_simp
                try with_reducible rfl
              try simp only [Act.put, List.setIfInBounds_toArray, List.set_cons_zero, List.set_cons_succ]
              refine wpAnyH_take (i := 22) (oi := ({ dst := some 74, op := Op.move (Operand.tmp 8), type := 4, pos := "law.go:168", after := #[{ on := 21, ground := Ground.guard }], guard := some (21, true) } : Oper)) (v := ?_) rfl (by kernel_rfl) (by kernel_rfl) (by kernel_rfl) (fun _ _ _ h => h) (Or.inl ⟨by kernel_rfl, ?_⟩) (by assumption) ?_
              rotate_left
              · intro w hSw
                try dsimp only at hSw
                go_simp
                try with_reducible rfl
              try simp only [Act.put, List.setIfInBounds_toArray, List.set_cons_zero, List.set_cons_succ]
              refine wpAnyH_take (i := 23) (oi := ({ dst := some 75, op := Op.move (Operand.tmp 74), type := 4, pos := "law.go:168", after := #[{ on := 22, ground := Ground.data }, { on := 21, ground := Ground.chain }, { on := 21, ground := Ground.guard }], guard := some (21, true) } : Oper)) (v := ?_) rfl (by kernel_rfl) (by kernel_rfl) (by kernel_rfl) (fun _ _ _ h => h) (Or.inl ⟨by kernel_rfl, ?_⟩) (by assumption) ?_
              rotate_left
              · intro w hSw
                try dsimp only at hSw
                go_simp
                try with_reducible rfl
              try simp only [Act.put, List.setIfInBounds_toArray, List.set_cons_zero, List.set_cons_succ]
              refine wpAnyH_take (i := 24) (oi := ({ dst := some 76, op := Op.move (Operand.tmp 10), type := 78, pos := "law.go:168", after := #[{ on := 23, ground := Ground.guard }], guard := some (23, false) } : Oper)) (v := ?_) rfl (by kernel_rfl) (by kernel_rfl) (by kernel_rfl) (fun _ _ _ h => h) (Or.inl ⟨by kernel_rfl, ?_⟩) (by assumption) ?_
              rotate_left
              · intro w hSw
                try dsimp only at hSw
                go_simp
                try with_reducible rfl
              try simp only [Act.put, List.setIfInBounds_toArray, List.set_cons_zero, List.set_cons_succ]
              refine wpAnyH_ready (rs := [25]) (by kernel_rfl) (by simp) ?_
              refine AllReadyH.cons (o := ({ dst := some 77, op := Op.call { callee := Callee.value (Operand.func 48), args := #[Operand.tmp 76], argTypes := #[78] }, type := 4, pos := "law.go:168", after := #[{ on := 24, ground := Ground.data }, { on := 23, ground := Ground.chain }, { on := 23, ground := Ground.guard }], guard := some (23, false) } : Oper)) rfl (fun K hK => ?_) AllReadyH.nil
              go_simp
              go_at_call 48
              refine (yes_none _).mono ?_
              rintro e wY ⟨rfl, rfl⟩
              refine hK.out _ _ trivial (fun hH2 => ?_)
              clear hK K hHeld
              have hHeld := hH2
              clear hH2
              try simp only [Act.put, List.setIfInBounds_toArray, List.set_cons_zero, List.set_cons_succ]
              refine wpAnyH_take (i := 26) (oi := ({ dst := some 78, op := Op.unOp UnOp.not 4 (Operand.tmp 77), type := 4, pos := "law.go:168", after := #[{ on := 25, ground := Ground.data }, { on := 23, ground := Ground.guard }], guard := some (23, false) } : Oper)) (v := ?_) rfl (by kernel_rfl) (by kernel_rfl) (by kernel_rfl) (fun _ _ _ h => h) (Or.inl ⟨by kernel_rfl, ?_⟩) (by assumption) ?_
              rotate_left
              · intro w hSw
                try dsimp only at hSw
                go_simp
                try with_reducible rfl
              try simp only [Act.put, List.setIfInBounds_toArray, List.set_cons_zero, List.set_cons_succ]
              refine wpAnyH_take (i := 27) (oi := ({ dst := some 79, op := Op.move (Operand.tmp 78), type := 4, pos := "law.go:168", after := #[{ on := 26, ground := Ground.data }, { on := 25, ground := Ground.chain }, { on := 23, ground := Ground.guard }], guard := some (23, false) } : Oper)) (v := ?_) rfl (by kernel_rfl) (by kernel_rfl) (by kernel_rfl) (fun _ _ _ h => h) (Or.inl ⟨by kernel_rfl, ?_⟩) (by assumption) ?_
              rotate_left
              · intro w hSw
                try dsimp only at hSw
                go_simp
                try with_reducible rfl
              try simp only [Act.put, List.setIfInBounds_toArray, List.set_cons_zero, List.set_cons_succ]
              refine wpAnyH_take (i := 28) (oi := ({ dst := some 80, op := Op.move (Operand.tmp 10), type := 78, pos := "law.go:168", after := #[{ on := 27, ground := Ground.guard }], guard := some (27, true) } : Oper)) (v := ?_) rfl (by kernel_rfl) (by kernel_rfl) (by kernel_rfl) (fun _ _ _ h => h) (Or.inl ⟨by kernel_rfl, ?_⟩) (by assumption) ?_
              rotate_left
              · intro w hSw
                try dsimp only at hSw
                go_simp
                try with_reducible rfl
              try simp only [Act.put, List.setIfInBounds_toArray, List.set_cons_zero, List.set_cons_succ]
              refine wpAnyH_ready (rs := [29]) (by kernel_rfl) (by simp) ?_
              refine AllReadyH.cons (o := ({ dst := some 81, op := Op.call { callee := Callee.value (Operand.func 49), args := #[Operand.tmp 80, Operand.const (Value.int IntKind.i64 0)], argTypes := #[78, 3] }, type := 22, pos := "law.go:168", after := #[{ on := 28, ground := Ground.data }, { on := 27, ground := Ground.chain }, { on := 27, ground := Ground.guard }], guard := some (27, true) } : Oper)) rfl (fun K hK => ?_) AllReadyH.nil
              go_simp
              go_at_call 49
              refine (nexts_none _ _).mono ?_
              rintro e wX ⟨rfl, rfl⟩
              refine hK.out _ _ trivial (fun hH2 => ?_)
              clear hK K hHeld
              have hHeld := hH2
              clear hH2
              try simp only [Act.put, List.setIfInBounds_toArray, List.set_cons_zero, List.set_cons_succ]
              refine wpAnyH_take (i := 30) (oi := ({ dst := some 82, op := Op.call { callee := Callee.builtin Builtin.len, args := #[Operand.tmp 81], argTypes := #[22] }, type := 3, pos := "law.go:168", after := #[{ on := 29, ground := Ground.data }, { on := 27, ground := Ground.guard }], guard := some (27, true) } : Oper)) (v := ?_) rfl (by kernel_rfl) (by kernel_rfl) (by kernel_rfl) (fun _ _ _ h => h) (Or.inl ⟨by kernel_rfl, ?_⟩) (by assumption) ?_
              rotate_left
              · intro w hSw
                try dsimp only at hSw
                go_simp
                try with_reducible rfl
              try simp only [Act.put, List.setIfInBounds_toArray, List.set_cons_zero, List.set_cons_succ]
              refine wpAnyH_take (i := 31) (oi := ({ dst := some 83, op := Op.binOp BinOp.eql 3 (Operand.tmp 82) (Operand.const (Value.int IntKind.i64 0)) 3, type := 4, pos := "law.go:168", after := #[{ on := 30, ground := Ground.data }, { on := 27, ground := Ground.guard }], guard := some (27, true) } : Oper)) (v := ?_) rfl (by kernel_rfl) (by kernel_rfl) (by kernel_rfl) (fun _ _ _ h => h) (Or.inl ⟨by kernel_rfl, ?_⟩) (by assumption) ?_
              rotate_left
              · intro w hSw
                try dsimp only at hSw
                go_simp
                try with_reducible rfl
              try simp only [Act.put, List.setIfInBounds_toArray, List.set_cons_zero, List.set_cons_succ]
              refine wpAnyH_take (i := 32) (oi := ({ dst := some 84, op := Op.pick (Operand.tmp 79) (Operand.tmp 83) (Operand.const (Value.bool false)), type := 4, pos := "law.go:168", after := #[{ on := 27, ground := Ground.data }, { on := 31, ground := Ground.data }, { on := 23, ground := Ground.guard }], guard := some (23, false) } : Oper)) (v := ?_) rfl (by kernel_rfl) (by kernel_rfl) (by kernel_rfl) (fun _ _ _ h => h) (Or.inl ⟨by kernel_rfl, ?_⟩) (by assumption) ?_
              rotate_left
              · intro w hSw
                try dsimp only at hSw
                go_simp
                try with_reducible rfl
              try simp only [Act.put, List.setIfInBounds_toArray, List.set_cons_zero, List.set_cons_succ]
              refine wpAnyH_take (i := 33) (oi := ({ dst := some 85, op := Op.move (Operand.tmp 84), type := 4, pos := "law.go:168", after := #[{ on := 32, ground := Ground.data }, { on := 29, ground := Ground.chain }, { on := 23, ground := Ground.guard }], guard := some (23, false) } : Oper)) (v := ?_) rfl (by kernel_rfl) (by kernel_rfl) (by kernel_rfl) (fun _ _ _ h => h) (Or.inl ⟨by kernel_rfl, ?_⟩) (by assumption) ?_
              rotate_left
              · intro w hSw
                try dsimp only at hSw
                go_simp
                try with_reducible rfl
              try simp only [Act.put, List.setIfInBounds_toArray, List.set_cons_zero, List.set_cons_succ]
              refine wpAnyH_take (i := 34) (oi := ({ dst := some 86, op := Op.move (Operand.tmp 10), type := 78, pos := "law.go:168", after := #[{ on := 33, ground := Ground.guard }], guard := some (33, true) } : Oper)) (v := ?_) rfl (by kernel_rfl) (by kernel_rfl) (by kernel_rfl) (fun _ _ _ h => h) (Or.inl ⟨by kernel_rfl, ?_⟩) (by assumption) ?_
              rotate_left
              · intro w hSw
                try dsimp only at hSw
                go_simp
                try with_reducible rfl
              try simp only [Act.put, List.setIfInBounds_toArray, List.set_cons_zero, List.set_cons_succ]
              refine wpAnyH_ready (rs := [35]) (by kernel_rfl) (by simp) ?_
              refine AllReadyH.cons (o := ({ dst := some 87, op := Op.call { callee := Callee.value (Operand.func 45), args := #[Operand.tmp 86, Operand.const (Value.int IntKind.i64 0)], argTypes := #[78, 3] }, type := 4, pos := "law.go:168", after := #[{ on := 34, ground := Ground.data }, { on := 33, ground := Ground.chain }, { on := 33, ground := Ground.guard }], guard := some (33, true) } : Oper)) rfl (fun K hK => ?_) AllReadyH.nil
              go_simp
              go_at_call 45
              refine (ends_none _ _).mono ?_
              rintro e wE ⟨rfl, hbE⟩
              have HE := hid (belw HZ.out hbE)
              clear hbE
              refine hK.out _ _ trivial (fun hH2 => ?_)
              clear hK K hHeld
              have hHeld := hH2
              clear hH2
              try simp only [Act.put, List.setIfInBounds_toArray, List.set_cons_zero, List.set_cons_succ]
              refine wpAnyH_take (i := 36) (oi := ({ dst := some 88, op := Op.unOp UnOp.not 4 (Operand.tmp 87), type := 4, pos := "law.go:168", after := #[{ on := 35, ground := Ground.data }, { on := 33, ground := Ground.guard }], guard := some (33, true) } : Oper)) (v := ?_) rfl (by kernel_rfl) (by kernel_rfl) (by kernel_rfl) (fun _ _ _ h => h) (Or.inl ⟨by kernel_rfl, ?_⟩) (by assumption) ?_
              rotate_left
              · intro w hSw
                try dsimp only at hSw
                go_simp
                try with_reducible rfl
              try simp only [Act.put, List.setIfInBounds_toArray, List.set_cons_zero, List.set_cons_succ]
              refine wpAnyH_take (i := 37) (oi := ({ dst := some 89, op := Op.pick (Operand.tmp 85) (Operand.tmp 88) (Operand.const (Value.bool false)), type := 4, pos := "law.go:168", after := #[{ on := 33, ground := Ground.data }, { on := 36, ground := Ground.data }, { on := 23, ground := Ground.guard }], guard := some (23, false) } : Oper)) (v := ?_) rfl (by kernel_rfl) (by kernel_rfl) (by kernel_rfl) (fun _ _ _ h => h) (Or.inl ⟨by kernel_rfl, ?_⟩) (by assumption) ?_
              rotate_left
              · intro w hSw
                try dsimp only at hSw
                go_simp
                try with_reducible rfl
              try simp only [Act.put, List.setIfInBounds_toArray, List.set_cons_zero, List.set_cons_succ]
              refine wpAnyH_take (i := 38) (oi := ({ dst := some 90, op := Op.pick (Operand.tmp 75) (Operand.const (Value.bool true)) (Operand.tmp 89), type := 4, pos := "law.go:168", after := #[{ on := 23, ground := Ground.data }, { on := 37, ground := Ground.data }, { on := 21, ground := Ground.guard }], guard := some (21, true) } : Oper)) (v := ?_) rfl (by kernel_rfl) (by kernel_rfl) (by kernel_rfl) (fun _ _ _ h => h) (Or.inl ⟨by kernel_rfl, ?_⟩) (by assumption) ?_
              rotate_left
              · intro w hSw
                try dsimp only at hSw
                go_simp
                try with_reducible rfl
              try simp only [Act.put, List.setIfInBounds_toArray, List.set_cons_zero, List.set_cons_succ]
              refine wpAnyH_take (i := 39) (oi := ({ dst := some 91, op := Op.pick (Operand.tmp 73) (Operand.tmp 90) (Operand.const (Value.bool false)), type := 4, pos := "law.go:168", after := #[{ on := 21, ground := Ground.data }, { on := 38, ground := Ground.data }], guard := none } : Oper)) (v := ?_) rfl (by kernel_rfl) (by kernel_rfl) (by kernel_rfl) (fun _ _ _ h => h) (Or.inl ⟨by kernel_rfl, ?_⟩) (by assumption) ?_
              rotate_left
              · intro w hSw
                try dsimp only at hSw
                go_simp
                try with_reducible rfl
              try simp only [Act.put, List.setIfInBounds_toArray, List.set_cons_zero, List.set_cons_succ]
              refine wpAnyH_take (i := 40) (oi := ({ dst := some 6, op := Op.assign (Operand.tmp 91), type := 4, pos := "law.go:168", after := #[{ on := 39, ground := Ground.data }, { on := 35, ground := Ground.chain }, { on := 0, ground := Ground.phase }, { on := 1, ground := Ground.phase }, { on := 2, ground := Ground.phase }, { on := 3, ground := Ground.phase }, { on := 4, ground := Ground.phase }, { on := 5, ground := Ground.phase }, { on := 6, ground := Ground.phase }, { on := 7, ground := Ground.phase }, { on := 8, ground := Ground.phase }, { on := 9, ground := Ground.phase }, { on := 10, ground := Ground.phase }, { on := 11, ground := Ground.phase }, { on := 12, ground := Ground.phase }, { on := 13, ground := Ground.phase }, { on := 14, ground := Ground.phase }, { on := 15, ground := Ground.phase }, { on := 16, ground := Ground.phase }, { on := 17, ground := Ground.phase }, { on := 18, ground := Ground.phase }, { on := 19, ground := Ground.phase }, { on := 20, ground := Ground.phase }, { on := 21, ground := Ground.phase }, { on := 22, ground := Ground.phase }, { on := 23, ground := Ground.phase }, { on := 24, ground := Ground.phase }, { on := 25, ground := Ground.phase }, { on := 26, ground := Ground.phase }, { on := 27, ground := Ground.phase }, { on := 28, ground := Ground.phase }, { on := 29, ground := Ground.phase }, { on := 30, ground := Ground.phase }, { on := 31, ground := Ground.phase }, { on := 32, ground := Ground.phase }, { on := 33, ground := Ground.phase }, { on := 34, ground := Ground.phase }, { on := 35, ground := Ground.phase }, { on := 36, ground := Ground.phase }, { on := 37, ground := Ground.phase }, { on := 38, ground := Ground.phase }, { on := 39, ground := Ground.phase }], guard := none } : Oper)) (v := ?_) rfl (by kernel_rfl) (by kernel_rfl) (by kernel_rfl) (fun _ _ _ h => h) (Or.inl ⟨by kernel_rfl, ?_⟩) (by assumption) ?_
              rotate_left
              · intro w hSw
                try dsimp only at hSw
                go_simp
                try with_reducible rfl
              try simp only [Act.put, List.setIfInBounds_toArray, List.set_cons_zero, List.set_cons_succ]
              refine wpAnyH_done (by kernel_rfl) ?_ _
              go_wp2_with fail
              go_ret
              exact ⟨rfl, belw H5.out.2.2.2.1 HE.out⟩
            · refine AllReadyH.cons (o := ({ dst := some 66, op := Op.makeSlice 22 (Operand.tmp 65) (Operand.tmp 65), type := 22, pos := "law.go:168", after := #[{ on := 13, ground := Ground.data }, { on := 13, ground := Ground.data }, { on := 11, ground := Ground.guard }], guard := some (11, true) } : Oper)) rfl (fun K hK => ?_) AllReadyH.nil
              refine step_make_g _ (by kernel_rfl) _ _ _ rfl 3 i3 _ Try.underlying22 hi3 x0 x1 rfl k (by go_simp) (by go_simp) (by rw [x2]; omega) (by omega) ?_
              intro wM hbk hkM
              have HM := hid (And.intro hbk (And.intro (hkM.to_below (Nat.le_refl _) (fun k hk => hk.elim)) (belw Hb7.out (hkM.to_below (Nat.le_refl _) (fun k hk => hk.elim)))))
              clear hbk hkM
              refine hK.out _ _ trivial (fun hH2 => ?_)
              clear hK K hHeld
              have hHeld := hH2
              clear hH2
              try simp only [Act.put, List.setIfInBounds_toArray, List.set_cons_zero, List.set_cons_succ]
              have HMl := hid HM.out.2.2
              refine wpAnyH_ready (rs := [12]) (by kernel_rfl) (by simp) ?_
              refine AllReadyH.cons (o := ({ dst := some 64, op := Op.call { callee := Callee.value (Operand.func 50), args := #[], argTypes := #[] }, type := 30, pos := "law.go:168", after := #[{ on := 11, ground := Ground.chain }, { on := 11, ground := Ground.guard }], guard := some (11, true) } : Oper)) rfl (fun K hK => ?_) AllReadyH.nil
              go_simp
              go_at_call 50
              refine (nested17_calls _).mono ?_
              rintro e wN ⟨gN, tN, pN, rfl, hGN, hbN⟩
              have HN := hid (And.intro hGN (And.intro hbN (belw HMl.out hbN)))
              clear hGN hbN
              refine hK.out _ _ trivial (fun hH2 => ?_)
              clear hK K hHeld
              have hHeld := hH2
              clear hH2
              try simp only [Act.put, List.setIfInBounds_toArray, List.set_cons_zero, List.set_cons_succ]
              refine wpAnyH_ready (rs := [15]) (by kernel_rfl) (by simp) ?_
              refine AllReadyH.cons (o := ({ dst := some 67, op := Op.call { callee := Callee.value (Operand.func 43), args := #[Operand.tmp 64, Operand.tmp 66], argTypes := #[30, 22] }, type := 78, pos := "law.go:168", after := #[{ on := 12, ground := Ground.data }, { on := 14, ground := Ground.data }, { on := 12, ground := Ground.chain }, { on := 11, ground := Ground.guard }], guard := some (11, true) } : Oper)) rfl (fun K hK => ?_) AllReadyH.nil
              go_simp
              go_at_call 43
              refine (zero_yes _ gN tN pN HN.out.1 _ k (HM.out.1.below HN.out.2.1 HM.out.1.lt) hk67 h64).mono ?_
              rintro e wZ ⟨cZ, rfl, hbZ⟩
              have HZ := hid (belw HN.out.2.2 hbZ)
              clear hbZ
              refine hK.out _ _ trivial (fun hH2 => ?_)
              clear hK K hHeld
              have hHeld := hH2
              clear hH2
              try simp only [Act.put, List.setIfInBounds_toArray, List.set_cons_zero, List.set_cons_succ]
              refine wpAnyH_take (i := 16) (oi := ({ dst := some 68, op := Op.binOp BinOp.neq 78 (Operand.tmp 67) (Operand.const (Value.pointer none)) 78, type := 4, pos := "law.go:168", after := #[{ on := 15, ground := Ground.data }, { on := 11, ground := Ground.guard }], guard := some (11, true) } : Oper)) (v := ?_) rfl (by kernel_rfl) (by kernel_rfl) (by kernel_rfl) (fun _ _ _ h => h) (Or.inl ⟨by kernel_rfl, ?_⟩) (by assumption) ?_
              rotate_left
              · intro w hSw
                try dsimp only at hSw
                go_simp
                try with_reducible rfl
              try simp only [Act.put, List.setIfInBounds_toArray, List.set_cons_zero, List.set_cons_succ]
              refine wpAnyH_take (i := 19) (oi := ({ dst := some 71, op := Op.binOp BinOp.eql 4 (Operand.tmp 68) (Operand.tmp 70) 4, type := 4, pos := "law.go:168", after := #[{ on := 16, ground := Ground.data }, { on := 18, ground := Ground.data }, { on := 11, ground := Ground.guard }], guard := some (11, true) } : Oper)) (v := ?_) rfl (by kernel_rfl) (by kernel_rfl) (by kernel_rfl) (fun _ _ _ h => h) (Or.inl ⟨by kernel_rfl, ?_⟩) (by assumption) ?_
              rotate_left
              · intro w hSw
                try dsimp only at hSw
                go_simp
                try with_reducible rfl
              try simp only [Act.put, List.setIfInBounds_toArray, List.set_cons_zero, List.set_cons_succ]
              refine wpAnyH_take (i := 20) (oi := ({ dst := some 72, op := Op.pick (Operand.tmp 63) (Operand.tmp 71) (Operand.const (Value.bool false)), type := 4, pos := "law.go:168", after := #[{ on := 11, ground := Ground.data }, { on := 19, ground := Ground.data }], guard := none } : Oper)) (v := ?_) rfl (by kernel_rfl) (by kernel_rfl) (by kernel_rfl) (fun _ _ _ h => h) (Or.inl ⟨by kernel_rfl, ?_⟩) (by assumption) ?_
              rotate_left
              · intro w hSw
                try dsimp only at hSw
                go_simp
                try with_reducible rfl
              try simp only [Act.put, List.setIfInBounds_toArray, List.set_cons_zero, List.set_cons_succ]
              refine wpAnyH_take (i := 21) (oi := ({ dst := some 73, op := Op.move (Operand.tmp 72), type := 4, pos := "law.go:168", after := #[{ on := 20, ground := Ground.data }, { on := 15, ground := Ground.chain }], guard := none } : Oper)) (v := ?_) rfl (by kernel_rfl) (by kernel_rfl) (by kernel_rfl) (fun _ _ _ h => h) (Or.inl ⟨by kernel_rfl, ?_⟩) (by assumption) ?_
              rotate_left
              · intro w hSw
                try dsimp only at hSw
                go_simp
                try with_reducible rfl
              try simp only [Act.put, List.setIfInBounds_toArray, List.set_cons_zero, List.set_cons_succ]
              refine wpAnyH_take (i := 22) (oi := ({ dst := some 74, op := Op.move (Operand.tmp 8), type := 4, pos := "law.go:168", after := #[{ on := 21, ground := Ground.guard }], guard := some (21, true) } : Oper)) (v := ?_) rfl (by kernel_rfl) (by kernel_rfl) (by kernel_rfl) (fun _ _ _ h => h) (Or.inl ⟨by kernel_rfl, ?_⟩) (by assumption) ?_
              rotate_left
              · intro w hSw
                try dsimp only at hSw
                go_simp
                try with_reducible rfl
              try simp only [Act.put, List.setIfInBounds_toArray, List.set_cons_zero, List.set_cons_succ]
              refine wpAnyH_take (i := 23) (oi := ({ dst := some 75, op := Op.move (Operand.tmp 74), type := 4, pos := "law.go:168", after := #[{ on := 22, ground := Ground.data }, { on := 21, ground := Ground.chain }, { on := 21, ground := Ground.guard }], guard := some (21, true) } : Oper)) (v := ?_) rfl (by kernel_rfl) (by kernel_rfl) (by kernel_rfl) (fun _ _ _ h => h) (Or.inl ⟨by kernel_rfl, ?_⟩) (by assumption) ?_
              rotate_left
              · intro w hSw
                try dsimp only at hSw
                go_simp
                try with_reducible rfl
              try simp only [Act.put, List.setIfInBounds_toArray, List.set_cons_zero, List.set_cons_succ]
              refine wpAnyH_take (i := 24) (oi := ({ dst := some 76, op := Op.move (Operand.tmp 10), type := 78, pos := "law.go:168", after := #[{ on := 23, ground := Ground.guard }], guard := some (23, false) } : Oper)) (v := ?_) rfl (by kernel_rfl) (by kernel_rfl) (by kernel_rfl) (fun _ _ _ h => h) (Or.inl ⟨by kernel_rfl, ?_⟩) (by assumption) ?_
              rotate_left
              · intro w hSw
                try dsimp only at hSw
                go_simp
                try with_reducible rfl
              try simp only [Act.put, List.setIfInBounds_toArray, List.set_cons_zero, List.set_cons_succ]
              refine wpAnyH_ready (rs := [25]) (by kernel_rfl) (by simp) ?_
              refine AllReadyH.cons (o := ({ dst := some 77, op := Op.call { callee := Callee.value (Operand.func 48), args := #[Operand.tmp 76], argTypes := #[78] }, type := 4, pos := "law.go:168", after := #[{ on := 24, ground := Ground.data }, { on := 23, ground := Ground.chain }, { on := 23, ground := Ground.guard }], guard := some (23, false) } : Oper)) rfl (fun K hK => ?_) AllReadyH.nil
              go_simp
              go_at_call 48
              refine (yes_none _).mono ?_
              rintro e wY ⟨rfl, rfl⟩
              refine hK.out _ _ trivial (fun hH2 => ?_)
              clear hK K hHeld
              have hHeld := hH2
              clear hH2
              try simp only [Act.put, List.setIfInBounds_toArray, List.set_cons_zero, List.set_cons_succ]
              refine wpAnyH_take (i := 26) (oi := ({ dst := some 78, op := Op.unOp UnOp.not 4 (Operand.tmp 77), type := 4, pos := "law.go:168", after := #[{ on := 25, ground := Ground.data }, { on := 23, ground := Ground.guard }], guard := some (23, false) } : Oper)) (v := ?_) rfl (by kernel_rfl) (by kernel_rfl) (by kernel_rfl) (fun _ _ _ h => h) (Or.inl ⟨by kernel_rfl, ?_⟩) (by assumption) ?_
              rotate_left
              · intro w hSw
                try dsimp only at hSw
                go_simp
                try with_reducible rfl
              try simp only [Act.put, List.setIfInBounds_toArray, List.set_cons_zero, List.set_cons_succ]
              refine wpAnyH_take (i := 27) (oi := ({ dst := some 79, op := Op.move (Operand.tmp 78), type := 4, pos := "law.go:168", after := #[{ on := 26, ground := Ground.data }, { on := 25, ground := Ground.chain }, { on := 23, ground := Ground.guard }], guard := some (23, false) } : Oper)) (v := ?_) rfl (by kernel_rfl) (by kernel_rfl) (by kernel_rfl) (fun _ _ _ h => h) (Or.inl ⟨by kernel_rfl, ?_⟩) (by assumption) ?_
              rotate_left
              · intro w hSw
                try dsimp only at hSw
                go_simp
                try with_reducible rfl
              try simp only [Act.put, List.setIfInBounds_toArray, List.set_cons_zero, List.set_cons_succ]
              refine wpAnyH_take (i := 28) (oi := ({ dst := some 80, op := Op.move (Operand.tmp 10), type := 78, pos := "law.go:168", after := #[{ on := 27, ground := Ground.guard }], guard := some (27, true) } : Oper)) (v := ?_) rfl (by kernel_rfl) (by kernel_rfl) (by kernel_rfl) (fun _ _ _ h => h) (Or.inl ⟨by kernel_rfl, ?_⟩) (by assumption) ?_
              rotate_left
              · intro w hSw
                try dsimp only at hSw
                go_simp
                try with_reducible rfl
              try simp only [Act.put, List.setIfInBounds_toArray, List.set_cons_zero, List.set_cons_succ]
              refine wpAnyH_ready (rs := [29]) (by kernel_rfl) (by simp) ?_
              refine AllReadyH.cons (o := ({ dst := some 81, op := Op.call { callee := Callee.value (Operand.func 49), args := #[Operand.tmp 80, Operand.const (Value.int IntKind.i64 0)], argTypes := #[78, 3] }, type := 22, pos := "law.go:168", after := #[{ on := 28, ground := Ground.data }, { on := 27, ground := Ground.chain }, { on := 27, ground := Ground.guard }], guard := some (27, true) } : Oper)) rfl (fun K hK => ?_) AllReadyH.nil
              go_simp
              go_at_call 49
              refine (nexts_none _ _).mono ?_
              rintro e wX ⟨rfl, rfl⟩
              refine hK.out _ _ trivial (fun hH2 => ?_)
              clear hK K hHeld
              have hHeld := hH2
              clear hH2
              try simp only [Act.put, List.setIfInBounds_toArray, List.set_cons_zero, List.set_cons_succ]
              refine wpAnyH_take (i := 30) (oi := ({ dst := some 82, op := Op.call { callee := Callee.builtin Builtin.len, args := #[Operand.tmp 81], argTypes := #[22] }, type := 3, pos := "law.go:168", after := #[{ on := 29, ground := Ground.data }, { on := 27, ground := Ground.guard }], guard := some (27, true) } : Oper)) (v := ?_) rfl (by kernel_rfl) (by kernel_rfl) (by kernel_rfl) (fun _ _ _ h => h) (Or.inl ⟨by kernel_rfl, ?_⟩) (by assumption) ?_
              rotate_left
              · intro w hSw
                try dsimp only at hSw
                go_simp
                try with_reducible rfl
              try simp only [Act.put, List.setIfInBounds_toArray, List.set_cons_zero, List.set_cons_succ]
              refine wpAnyH_take (i := 31) (oi := ({ dst := some 83, op := Op.binOp BinOp.eql 3 (Operand.tmp 82) (Operand.const (Value.int IntKind.i64 0)) 3, type := 4, pos := "law.go:168", after := #[{ on := 30, ground := Ground.data }, { on := 27, ground := Ground.guard }], guard := some (27, true) } : Oper)) (v := ?_) rfl (by kernel_rfl) (by kernel_rfl) (by kernel_rfl) (fun _ _ _ h => h) (Or.inl ⟨by kernel_rfl, ?_⟩) (by assumption) ?_
              rotate_left
              · intro w hSw
                try dsimp only at hSw
                go_simp
                try with_reducible rfl
              try simp only [Act.put, List.setIfInBounds_toArray, List.set_cons_zero, List.set_cons_succ]
              refine wpAnyH_take (i := 32) (oi := ({ dst := some 84, op := Op.pick (Operand.tmp 79) (Operand.tmp 83) (Operand.const (Value.bool false)), type := 4, pos := "law.go:168", after := #[{ on := 27, ground := Ground.data }, { on := 31, ground := Ground.data }, { on := 23, ground := Ground.guard }], guard := some (23, false) } : Oper)) (v := ?_) rfl (by kernel_rfl) (by kernel_rfl) (by kernel_rfl) (fun _ _ _ h => h) (Or.inl ⟨by kernel_rfl, ?_⟩) (by assumption) ?_
              rotate_left
              · intro w hSw
                try dsimp only at hSw
                go_simp
                try with_reducible rfl
              try simp only [Act.put, List.setIfInBounds_toArray, List.set_cons_zero, List.set_cons_succ]
              refine wpAnyH_take (i := 33) (oi := ({ dst := some 85, op := Op.move (Operand.tmp 84), type := 4, pos := "law.go:168", after := #[{ on := 32, ground := Ground.data }, { on := 29, ground := Ground.chain }, { on := 23, ground := Ground.guard }], guard := some (23, false) } : Oper)) (v := ?_) rfl (by kernel_rfl) (by kernel_rfl) (by kernel_rfl) (fun _ _ _ h => h) (Or.inl ⟨by kernel_rfl, ?_⟩) (by assumption) ?_
              rotate_left
              · intro w hSw
                try dsimp only at hSw
                go_simp
                try with_reducible rfl
              try simp only [Act.put, List.setIfInBounds_toArray, List.set_cons_zero, List.set_cons_succ]
              refine wpAnyH_take (i := 34) (oi := ({ dst := some 86, op := Op.move (Operand.tmp 10), type := 78, pos := "law.go:168", after := #[{ on := 33, ground := Ground.guard }], guard := some (33, true) } : Oper)) (v := ?_) rfl (by kernel_rfl) (by kernel_rfl) (by kernel_rfl) (fun _ _ _ h => h) (Or.inl ⟨by kernel_rfl, ?_⟩) (by assumption) ?_
              rotate_left
              · intro w hSw
                try dsimp only at hSw
                go_simp
                try with_reducible rfl
              try simp only [Act.put, List.setIfInBounds_toArray, List.set_cons_zero, List.set_cons_succ]
              refine wpAnyH_ready (rs := [35]) (by kernel_rfl) (by simp) ?_
              refine AllReadyH.cons (o := ({ dst := some 87, op := Op.call { callee := Callee.value (Operand.func 45), args := #[Operand.tmp 86, Operand.const (Value.int IntKind.i64 0)], argTypes := #[78, 3] }, type := 4, pos := "law.go:168", after := #[{ on := 34, ground := Ground.data }, { on := 33, ground := Ground.chain }, { on := 33, ground := Ground.guard }], guard := some (33, true) } : Oper)) rfl (fun K hK => ?_) AllReadyH.nil
              go_simp
              go_at_call 45
              refine (ends_none _ _).mono ?_
              rintro e wE ⟨rfl, hbE⟩
              have HE := hid (belw HZ.out hbE)
              clear hbE
              refine hK.out _ _ trivial (fun hH2 => ?_)
              clear hK K hHeld
              have hHeld := hH2
              clear hH2
              try simp only [Act.put, List.setIfInBounds_toArray, List.set_cons_zero, List.set_cons_succ]
              refine wpAnyH_take (i := 36) (oi := ({ dst := some 88, op := Op.unOp UnOp.not 4 (Operand.tmp 87), type := 4, pos := "law.go:168", after := #[{ on := 35, ground := Ground.data }, { on := 33, ground := Ground.guard }], guard := some (33, true) } : Oper)) (v := ?_) rfl (by kernel_rfl) (by kernel_rfl) (by kernel_rfl) (fun _ _ _ h => h) (Or.inl ⟨by kernel_rfl, ?_⟩) (by assumption) ?_
              rotate_left
              · intro w hSw
                try dsimp only at hSw
                go_simp
                try with_reducible rfl
              try simp only [Act.put, List.setIfInBounds_toArray, List.set_cons_zero, List.set_cons_succ]
              refine wpAnyH_take (i := 37) (oi := ({ dst := some 89, op := Op.pick (Operand.tmp 85) (Operand.tmp 88) (Operand.const (Value.bool false)), type := 4, pos := "law.go:168", after := #[{ on := 33, ground := Ground.data }, { on := 36, ground := Ground.data }, { on := 23, ground := Ground.guard }], guard := some (23, false) } : Oper)) (v := ?_) rfl (by kernel_rfl) (by kernel_rfl) (by kernel_rfl) (fun _ _ _ h => h) (Or.inl ⟨by kernel_rfl, ?_⟩) (by assumption) ?_
              rotate_left
              · intro w hSw
                try dsimp only at hSw
                go_simp
                try with_reducible rfl
              try simp only [Act.put, List.setIfInBounds_toArray, List.set_cons_zero, List.set_cons_succ]
              refine wpAnyH_take (i := 38) (oi := ({ dst := some 90, op := Op.pick (Operand.tmp 75) (Operand.const (Value.bool true)) (Operand.tmp 89), type := 4, pos := "law.go:168", after := #[{ on := 23, ground := Ground.data }, { on := 37, ground := Ground.data }, { on := 21, ground := Ground.guard }], guard := some (21, true) } : Oper)) (v := ?_) rfl (by kernel_rfl) (by kernel_rfl) (by kernel_rfl) (fun _ _ _ h => h) (Or.inl ⟨by kernel_rfl, ?_⟩) (by assumption) ?_
              rotate_left
              · intro w hSw
                try dsimp only at hSw
                go_simp
                try with_reducible rfl
              try simp only [Act.put, List.setIfInBounds_toArray, List.set_cons_zero, List.set_cons_succ]
              refine wpAnyH_take (i := 39) (oi := ({ dst := some 91, op := Op.pick (Operand.tmp 73) (Operand.tmp 90) (Operand.const (Value.bool false)), type := 4, pos := "law.go:168", after := #[{ on := 21, ground := Ground.data }, { on := 38, ground := Ground.data }], guard := none } : Oper)) (v := ?_) rfl (by kernel_rfl) (by kernel_rfl) (by kernel_rfl) (fun _ _ _ h => h) (Or.inl ⟨by kernel_rfl, ?_⟩) (by assumption) ?_
              rotate_left
              · intro w hSw
                try dsimp only at hSw
                go_simp
                try with_reducible rfl
              try simp only [Act.put, List.setIfInBounds_toArray, List.set_cons_zero, List.set_cons_succ]
              refine wpAnyH_take (i := 40) (oi := ({ dst := some 6, op := Op.assign (Operand.tmp 91), type := 4, pos := "law.go:168", after := #[{ on := 39, ground := Ground.data }, { on := 35, ground := Ground.chain }, { on := 0, ground := Ground.phase }, { on := 1, ground := Ground.phase }, { on := 2, ground := Ground.phase }, { on := 3, ground := Ground.phase }, { on := 4, ground := Ground.phase }, { on := 5, ground := Ground.phase }, { on := 6, ground := Ground.phase }, { on := 7, ground := Ground.phase }, { on := 8, ground := Ground.phase }, { on := 9, ground := Ground.phase }, { on := 10, ground := Ground.phase }, { on := 11, ground := Ground.phase }, { on := 12, ground := Ground.phase }, { on := 13, ground := Ground.phase }, { on := 14, ground := Ground.phase }, { on := 15, ground := Ground.phase }, { on := 16, ground := Ground.phase }, { on := 17, ground := Ground.phase }, { on := 18, ground := Ground.phase }, { on := 19, ground := Ground.phase }, { on := 20, ground := Ground.phase }, { on := 21, ground := Ground.phase }, { on := 22, ground := Ground.phase }, { on := 23, ground := Ground.phase }, { on := 24, ground := Ground.phase }, { on := 25, ground := Ground.phase }, { on := 26, ground := Ground.phase }, { on := 27, ground := Ground.phase }, { on := 28, ground := Ground.phase }, { on := 29, ground := Ground.phase }, { on := 30, ground := Ground.phase }, { on := 31, ground := Ground.phase }, { on := 32, ground := Ground.phase }, { on := 33, ground := Ground.phase }, { on := 34, ground := Ground.phase }, { on := 35, ground := Ground.phase }, { on := 36, ground := Ground.phase }, { on := 37, ground := Ground.phase }, { on := 38, ground := Ground.phase }, { on := 39, ground := Ground.phase }], guard := none } : Oper)) (v := ?_) rfl (by kernel_rfl) (by kernel_rfl) (by kernel_rfl) (fun _ _ _ h => h) (Or.inl ⟨by kernel_rfl, ?_⟩) (by assumption) ?_
              rotate_left
              · intro w hSw
                try dsimp only at hSw
                go_simp
                try with_reducible rfl
              try simp only [Act.put, List.setIfInBounds_toArray, List.set_cons_zero, List.set_cons_succ]
              refine wpAnyH_done (by kernel_rfl) ?_ _
              go_wp2_with fail
              go_ret
              exact ⟨rfl, belw H5.out.2.2.2.1 HE.out⟩
            -- E13 no1
          · have h64I : ¬ (k : Int) ≤ 64 := by omega
            -- R13 no0
            refine wp_region_held_drew (S := fun _ : World => True) (by kernel_rfl) trivial (fun hHeld => ?_)
            refine wpAnyH_take (i := 0) (oi := ({ dst := some 52, op := Op.move (Operand.tmp 10), type := 78, pos := "law.go:168", after := #[], guard := none } : Oper)) (v := ?_) rfl (by kernel_rfl) (by kernel_rfl) (by kernel_rfl) (fun _ _ _ h => h) (Or.inl ⟨by kernel_rfl, ?_⟩) (by assumption) ?_
            rotate_left
            · intro w hSw
              try dsimp only at hSw
              go_simp
              try with_reducible rfl
            try simp only [Act.put, List.setIfInBounds_toArray, List.set_cons_zero, List.set_cons_succ]
            refine wpAnyH_take (i := 1) (oi := ({ dst := some 53, op := Op.binOp BinOp.neq 78 (Operand.tmp 52) (Operand.const (Value.pointer none)) 78, type := 4, pos := "law.go:168", after := #[{ on := 0, ground := Ground.data }], guard := none } : Oper)) (v := ?_) rfl (by kernel_rfl) (by kernel_rfl) (by kernel_rfl) (fun _ _ _ h => h) (Or.inl ⟨by kernel_rfl, ?_⟩) (by assumption) ?_
            rotate_left
            · intro w hSw
              try dsimp only at hSw
              go_simp
              try with_reducible rfl
            try simp only [Act.put, List.setIfInBounds_toArray, List.set_cons_zero, List.set_cons_succ]
            refine wpAnyH_take (i := 2) (oi := ({ dst := some 54, op := Op.move (Operand.tmp 8), type := 4, pos := "law.go:168", after := #[], guard := none } : Oper)) (v := ?_) rfl (by kernel_rfl) (by kernel_rfl) (by kernel_rfl) (fun _ _ _ h => h) (Or.inl ⟨by kernel_rfl, ?_⟩) (by assumption) ?_
            rotate_left
            · intro w hSw
              try dsimp only at hSw
              go_simp
              try with_reducible rfl
            try simp only [Act.put, List.setIfInBounds_toArray, List.set_cons_zero, List.set_cons_succ]
            refine wpAnyH_take (i := 3) (oi := ({ dst := some 55, op := Op.binOp BinOp.eql 4 (Operand.tmp 53) (Operand.tmp 54) 4, type := 4, pos := "law.go:168", after := #[{ on := 1, ground := Ground.data }, { on := 2, ground := Ground.data }], guard := none } : Oper)) (v := ?_) rfl (by kernel_rfl) (by kernel_rfl) (by kernel_rfl) (fun _ _ _ h => h) (Or.inl ⟨by kernel_rfl, ?_⟩) (by assumption) ?_
            rotate_left
            · intro w hSw
              try dsimp only at hSw
              go_simp
              try with_reducible rfl
            try simp only [Act.put, List.setIfInBounds_toArray, List.set_cons_zero, List.set_cons_succ]
            refine wpAnyH_take (i := 4) (oi := ({ dst := some 56, op := Op.move (Operand.tmp 55), type := 4, pos := "law.go:168", after := #[{ on := 3, ground := Ground.data }], guard := none } : Oper)) (v := ?_) rfl (by kernel_rfl) (by kernel_rfl) (by kernel_rfl) (fun _ _ _ h => h) (Or.inl ⟨by kernel_rfl, ?_⟩) (by assumption) ?_
            rotate_left
            · intro w hSw
              try dsimp only at hSw
              go_simp
              try with_reducible rfl
            try simp only [Act.put, List.setIfInBounds_toArray, List.set_cons_zero, List.set_cons_succ]
            refine wpAnyH_take (i := 5) (oi := ({ dst := some 57, op := Op.move (Operand.tmp 10), type := 78, pos := "law.go:168", after := #[{ on := 4, ground := Ground.guard }], guard := some (4, true) } : Oper)) (v := ?_) rfl (by kernel_rfl) (by kernel_rfl) (by kernel_rfl) (fun _ _ _ h => h) (Or.inl ⟨by kernel_rfl, ?_⟩) (by assumption) ?_
            rotate_left
            · intro w hSw
              try dsimp only at hSw
              go_simp
              try with_reducible rfl
            try simp only [Act.put, List.setIfInBounds_toArray, List.set_cons_zero, List.set_cons_succ]
            refine wpAnyH_take (i := 8) (oi := ({ dst := some 60, op := Op.move (Operand.tmp 8), type := 4, pos := "law.go:168", after := #[{ on := 4, ground := Ground.guard }], guard := some (4, true) } : Oper)) (v := ?_) rfl (by kernel_rfl) (by kernel_rfl) (by kernel_rfl) (fun _ _ _ h => h) (Or.inl ⟨by kernel_rfl, ?_⟩) (by assumption) ?_
            rotate_left
            · intro w hSw
              try dsimp only at hSw
              go_simp
              try with_reducible rfl
            try simp only [Act.put, List.setIfInBounds_toArray, List.set_cons_zero, List.set_cons_succ]
            refine wpAnyH_ready (rs := [6]) (by kernel_rfl) (by simp) ?_
            refine AllReadyH.cons (o := ({ dst := some 58, op := Op.call { callee := Callee.value (Operand.func 47), args := #[Operand.tmp 57], argTypes := #[78] }, type := 3, pos := "law.go:168", after := #[{ on := 5, ground := Ground.data }, { on := 4, ground := Ground.chain }, { on := 4, ground := Ground.guard }], guard := some (4, true) } : Oper)) rfl (fun K hK => ?_) AllReadyH.nil
            go_simp
            go_at_call 47
            refine (good_none _).mono ?_
            rintro e wg ⟨rfl, rfl⟩
            refine hK.out _ _ trivial (fun hH2 => ?_)
            clear hK K hHeld
            have hHeld := hH2
            clear hH2
            try simp only [Act.put, List.setIfInBounds_toArray, List.set_cons_zero, List.set_cons_succ]
            refine wpAnyH_take (i := 7) (oi := ({ dst := some 59, op := Op.binOp BinOp.geq 3 (Operand.tmp 58) (Operand.const (Value.int IntKind.i64 0)) 3, type := 4, pos := "law.go:168", after := #[{ on := 6, ground := Ground.data }, { on := 4, ground := Ground.guard }], guard := some (4, true) } : Oper)) (v := ?_) rfl (by kernel_rfl) (by kernel_rfl) (by kernel_rfl) (fun _ _ _ h => h) (Or.inl ⟨by kernel_rfl, ?_⟩) (by assumption) ?_
            rotate_left
            · intro w hSw
              try dsimp only at hSw
              go_simp
              try with_reducible rfl
            try simp only [Act.put, List.setIfInBounds_toArray, List.set_cons_zero, List.set_cons_succ]
            refine wpAnyH_take (i := 9) (oi := ({ dst := some 61, op := Op.binOp BinOp.eql 4 (Operand.tmp 59) (Operand.tmp 60) 4, type := 4, pos := "law.go:168", after := #[{ on := 7, ground := Ground.data }, { on := 8, ground := Ground.data }, { on := 4, ground := Ground.guard }], guard := some (4, true) } : Oper)) (v := ?_) rfl (by kernel_rfl) (by kernel_rfl) (by kernel_rfl) (fun _ _ _ h => h) (Or.inl ⟨by kernel_rfl, ?_⟩) (by assumption) ?_
            rotate_left
            · intro w hSw
              try dsimp only at hSw
              go_simp
              try with_reducible rfl
            try simp only [Act.put, List.setIfInBounds_toArray, List.set_cons_zero, List.set_cons_succ]
            refine wpAnyH_take (i := 10) (oi := ({ dst := some 62, op := Op.pick (Operand.tmp 56) (Operand.tmp 61) (Operand.const (Value.bool false)), type := 4, pos := "law.go:168", after := #[{ on := 4, ground := Ground.data }, { on := 9, ground := Ground.data }], guard := none } : Oper)) (v := ?_) rfl (by kernel_rfl) (by kernel_rfl) (by kernel_rfl) (fun _ _ _ h => h) (Or.inl ⟨by kernel_rfl, ?_⟩) (by assumption) ?_
            rotate_left
            · intro w hSw
              try dsimp only at hSw
              go_simp
              try with_reducible rfl
            try simp only [Act.put, List.setIfInBounds_toArray, List.set_cons_zero, List.set_cons_succ]
            refine wpAnyH_take (i := 11) (oi := ({ dst := some 63, op := Op.move (Operand.tmp 62), type := 4, pos := "law.go:168", after := #[{ on := 10, ground := Ground.data }, { on := 6, ground := Ground.chain }], guard := none } : Oper)) (v := ?_) rfl (by kernel_rfl) (by kernel_rfl) (by kernel_rfl) (fun _ _ _ h => h) (Or.inl ⟨by kernel_rfl, ?_⟩) (by assumption) ?_
            rotate_left
            · intro w hSw
              try dsimp only at hSw
              go_simp
              try with_reducible rfl
            try simp only [Act.put, List.setIfInBounds_toArray, List.set_cons_zero, List.set_cons_succ]
            refine wpAnyH_take (i := 13) (oi := ({ dst := some 65, op := Op.move (Operand.tmp 1), type := 3, pos := "law.go:168", after := #[{ on := 11, ground := Ground.guard }], guard := some (11, true) } : Oper)) (v := ?_) rfl (by kernel_rfl) (by kernel_rfl) (by kernel_rfl) (fun _ _ _ h => h) (Or.inl ⟨by kernel_rfl, ?_⟩) (by assumption) ?_
            rotate_left
            · intro w hSw
              try dsimp only at hSw
              go_simp
              try with_reducible rfl
            try simp only [Act.put, List.setIfInBounds_toArray, List.set_cons_zero, List.set_cons_succ]
            refine wpAnyH_take (i := 17) (oi := ({ dst := some 69, op := Op.move (Operand.tmp 1), type := 3, pos := "law.go:168", after := #[{ on := 11, ground := Ground.guard }], guard := some (11, true) } : Oper)) (v := ?_) rfl (by kernel_rfl) (by kernel_rfl) (by kernel_rfl) (fun _ _ _ h => h) (Or.inl ⟨by kernel_rfl, ?_⟩) (by assumption) ?_
            rotate_left
            · intro w hSw
              try dsimp only at hSw
              go_simp
              try with_reducible rfl
            try simp only [Act.put, List.setIfInBounds_toArray, List.set_cons_zero, List.set_cons_succ]
            refine wpAnyH_take (i := 18) (oi := ({ dst := some 70, op := Op.binOp BinOp.leq 3 (Operand.tmp 69) (Operand.const (Value.int IntKind.i64 64)) 3, type := 4, pos := "law.go:168", after := #[{ on := 17, ground := Ground.data }, { on := 11, ground := Ground.guard }], guard := some (11, true) } : Oper)) (v := ?_) rfl (by kernel_rfl) (by kernel_rfl) (by kernel_rfl) (fun _ _ _ h => h) (Or.inl ⟨by kernel_rfl, ?_⟩) (by assumption) ?_
            rotate_left
            · intro w hSw
              try dsimp only at hSw
              go_simp
              try with_reducible rfl
            try simp only [Act.put, List.setIfInBounds_toArray, List.set_cons_zero, List.set_cons_succ]
            refine wpAnyH_ready (rs := [12, 14]) (by kernel_rfl) (by simp) ?_
            refine AllReadyH.cons (o := ({ dst := some 64, op := Op.call { callee := Callee.value (Operand.func 50), args := #[], argTypes := #[] }, type := 30, pos := "law.go:168", after := #[{ on := 11, ground := Ground.chain }, { on := 11, ground := Ground.guard }], guard := some (11, true) } : Oper)) rfl (fun K hK => ?_) ?_
            · go_simp
              go_at_call 50
              refine (nested17_calls _).mono ?_
              rintro e wN ⟨gN, tN, pN, rfl, hGN, hbN⟩
              have HN := hid (And.intro hGN (And.intro hbN (belw Hb7.out hbN)))
              clear hGN hbN
              refine hK.out _ _ trivial (fun hH2 => ?_)
              clear hK K hHeld
              have hHeld := hH2
              clear hH2
              try simp only [Act.put, List.setIfInBounds_toArray, List.set_cons_zero, List.set_cons_succ]
              have HNl := hid HN.out.2.2
              refine wpAnyH_ready (rs := [14]) (by kernel_rfl) (by simp) ?_
              refine AllReadyH.cons (o := ({ dst := some 66, op := Op.makeSlice 22 (Operand.tmp 65) (Operand.tmp 65), type := 22, pos := "law.go:168", after := #[{ on := 13, ground := Ground.data }, { on := 13, ground := Ground.data }, { on := 11, ground := Ground.guard }], guard := some (11, true) } : Oper)) rfl (fun K hK => ?_) AllReadyH.nil
              refine step_make_g _ (by kernel_rfl) _ _ _ rfl 3 i3 _ Try.underlying22 hi3 x0 x1 rfl k (by go_simp) (by go_simp) (by rw [x2]; omega) (by omega) ?_
              intro wM hbk hkM
              have HM := hid (And.intro hbk (And.intro (hkM.to_below (Nat.le_refl _) (fun k hk => hk.elim)) (belw HNl.out (hkM.to_below (Nat.le_refl _) (fun k hk => hk.elim)))))
              clear hbk hkM
              refine hK.out _ _ trivial (fun hH2 => ?_)
              clear hK K hHeld
              have hHeld := hH2
              clear hH2
              try simp only [Act.put, List.setIfInBounds_toArray, List.set_cons_zero, List.set_cons_succ]
              refine wpAnyH_ready (rs := [15]) (by kernel_rfl) (by simp) ?_
              refine AllReadyH.cons (o := ({ dst := some 67, op := Op.call { callee := Callee.value (Operand.func 43), args := #[Operand.tmp 64, Operand.tmp 66], argTypes := #[30, 22] }, type := 78, pos := "law.go:168", after := #[{ on := 12, ground := Ground.data }, { on := 14, ground := Ground.data }, { on := 12, ground := Ground.chain }, { on := 11, ground := Ground.guard }], guard := some (11, true) } : Oper)) rfl (fun K hK => ?_) AllReadyH.nil
              go_simp
              go_at_call 43
              refine (zero_no _ gN tN pN (HN.out.1.later HM.out.2.1) wN.heap.size k HM.out.1 hk67 h64).mono ?_
              rintro e wZ ⟨rfl, hbZ⟩
              have HZ := hid (belw HM.out.2.2 hbZ)
              clear hbZ
              refine hK.out _ _ trivial (fun hH2 => ?_)
              clear hK K hHeld
              have hHeld := hH2
              clear hH2
              try simp only [Act.put, List.setIfInBounds_toArray, List.set_cons_zero, List.set_cons_succ]
              refine wpAnyH_take (i := 16) (oi := ({ dst := some 68, op := Op.binOp BinOp.neq 78 (Operand.tmp 67) (Operand.const (Value.pointer none)) 78, type := 4, pos := "law.go:168", after := #[{ on := 15, ground := Ground.data }, { on := 11, ground := Ground.guard }], guard := some (11, true) } : Oper)) (v := ?_) rfl (by kernel_rfl) (by kernel_rfl) (by kernel_rfl) (fun _ _ _ h => h) (Or.inl ⟨by kernel_rfl, ?_⟩) (by assumption) ?_
              rotate_left
              · intro w hSw
                try dsimp only at hSw
                go_simp
                try with_reducible rfl
              try simp only [Act.put, List.setIfInBounds_toArray, List.set_cons_zero, List.set_cons_succ]
              refine wpAnyH_take (i := 19) (oi := ({ dst := some 71, op := Op.binOp BinOp.eql 4 (Operand.tmp 68) (Operand.tmp 70) 4, type := 4, pos := "law.go:168", after := #[{ on := 16, ground := Ground.data }, { on := 18, ground := Ground.data }, { on := 11, ground := Ground.guard }], guard := some (11, true) } : Oper)) (v := ?_) rfl (by kernel_rfl) (by kernel_rfl) (by kernel_rfl) (fun _ _ _ h => h) (Or.inl ⟨by kernel_rfl, ?_⟩) (by assumption) ?_
              rotate_left
              · intro w hSw
                try dsimp only at hSw
                go_simp
                try with_reducible rfl
              try simp only [Act.put, List.setIfInBounds_toArray, List.set_cons_zero, List.set_cons_succ]
              refine wpAnyH_take (i := 20) (oi := ({ dst := some 72, op := Op.pick (Operand.tmp 63) (Operand.tmp 71) (Operand.const (Value.bool false)), type := 4, pos := "law.go:168", after := #[{ on := 11, ground := Ground.data }, { on := 19, ground := Ground.data }], guard := none } : Oper)) (v := ?_) rfl (by kernel_rfl) (by kernel_rfl) (by kernel_rfl) (fun _ _ _ h => h) (Or.inl ⟨by kernel_rfl, ?_⟩) (by assumption) ?_
              rotate_left
              · intro w hSw
                try dsimp only at hSw
                go_simp
                try with_reducible rfl
              try simp only [Act.put, List.setIfInBounds_toArray, List.set_cons_zero, List.set_cons_succ]
              refine wpAnyH_take (i := 21) (oi := ({ dst := some 73, op := Op.move (Operand.tmp 72), type := 4, pos := "law.go:168", after := #[{ on := 20, ground := Ground.data }, { on := 15, ground := Ground.chain }], guard := none } : Oper)) (v := ?_) rfl (by kernel_rfl) (by kernel_rfl) (by kernel_rfl) (fun _ _ _ h => h) (Or.inl ⟨by kernel_rfl, ?_⟩) (by assumption) ?_
              rotate_left
              · intro w hSw
                try dsimp only at hSw
                go_simp
                try with_reducible rfl
              try simp only [Act.put, List.setIfInBounds_toArray, List.set_cons_zero, List.set_cons_succ]
              refine wpAnyH_take (i := 22) (oi := ({ dst := some 74, op := Op.move (Operand.tmp 8), type := 4, pos := "law.go:168", after := #[{ on := 21, ground := Ground.guard }], guard := some (21, true) } : Oper)) (v := ?_) rfl (by kernel_rfl) (by kernel_rfl) (by kernel_rfl) (fun _ _ _ h => h) (Or.inl ⟨by kernel_rfl, ?_⟩) (by assumption) ?_
              rotate_left
              · intro w hSw
                try dsimp only at hSw
                go_simp
                try with_reducible rfl
              try simp only [Act.put, List.setIfInBounds_toArray, List.set_cons_zero, List.set_cons_succ]
              refine wpAnyH_take (i := 23) (oi := ({ dst := some 75, op := Op.move (Operand.tmp 74), type := 4, pos := "law.go:168", after := #[{ on := 22, ground := Ground.data }, { on := 21, ground := Ground.chain }, { on := 21, ground := Ground.guard }], guard := some (21, true) } : Oper)) (v := ?_) rfl (by kernel_rfl) (by kernel_rfl) (by kernel_rfl) (fun _ _ _ h => h) (Or.inl ⟨by kernel_rfl, ?_⟩) (by assumption) ?_
              rotate_left
              · intro w hSw
                try dsimp only at hSw
                go_simp
                try with_reducible rfl
              try simp only [Act.put, List.setIfInBounds_toArray, List.set_cons_zero, List.set_cons_succ]
              refine wpAnyH_take (i := 24) (oi := ({ dst := some 76, op := Op.move (Operand.tmp 10), type := 78, pos := "law.go:168", after := #[{ on := 23, ground := Ground.guard }], guard := some (23, false) } : Oper)) (v := ?_) rfl (by kernel_rfl) (by kernel_rfl) (by kernel_rfl) (fun _ _ _ h => h) (Or.inl ⟨by kernel_rfl, ?_⟩) (by assumption) ?_
              rotate_left
              · intro w hSw
                try dsimp only at hSw
                go_simp
                try with_reducible rfl
              try simp only [Act.put, List.setIfInBounds_toArray, List.set_cons_zero, List.set_cons_succ]
              refine wpAnyH_ready (rs := [25]) (by kernel_rfl) (by simp) ?_
              refine AllReadyH.cons (o := ({ dst := some 77, op := Op.call { callee := Callee.value (Operand.func 48), args := #[Operand.tmp 76], argTypes := #[78] }, type := 4, pos := "law.go:168", after := #[{ on := 24, ground := Ground.data }, { on := 23, ground := Ground.chain }, { on := 23, ground := Ground.guard }], guard := some (23, false) } : Oper)) rfl (fun K hK => ?_) AllReadyH.nil
              go_simp
              go_at_call 48
              refine (yes_none _).mono ?_
              rintro e wY ⟨rfl, rfl⟩
              refine hK.out _ _ trivial (fun hH2 => ?_)
              clear hK K hHeld
              have hHeld := hH2
              clear hH2
              try simp only [Act.put, List.setIfInBounds_toArray, List.set_cons_zero, List.set_cons_succ]
              refine wpAnyH_take (i := 26) (oi := ({ dst := some 78, op := Op.unOp UnOp.not 4 (Operand.tmp 77), type := 4, pos := "law.go:168", after := #[{ on := 25, ground := Ground.data }, { on := 23, ground := Ground.guard }], guard := some (23, false) } : Oper)) (v := ?_) rfl (by kernel_rfl) (by kernel_rfl) (by kernel_rfl) (fun _ _ _ h => h) (Or.inl ⟨by kernel_rfl, ?_⟩) (by assumption) ?_
              rotate_left
              · intro w hSw
                try dsimp only at hSw
                go_simp
                try with_reducible rfl
              try simp only [Act.put, List.setIfInBounds_toArray, List.set_cons_zero, List.set_cons_succ]
              refine wpAnyH_take (i := 27) (oi := ({ dst := some 79, op := Op.move (Operand.tmp 78), type := 4, pos := "law.go:168", after := #[{ on := 26, ground := Ground.data }, { on := 25, ground := Ground.chain }, { on := 23, ground := Ground.guard }], guard := some (23, false) } : Oper)) (v := ?_) rfl (by kernel_rfl) (by kernel_rfl) (by kernel_rfl) (fun _ _ _ h => h) (Or.inl ⟨by kernel_rfl, ?_⟩) (by assumption) ?_
              rotate_left
              · intro w hSw
                try dsimp only at hSw
                go_simp
                try with_reducible rfl
              try simp only [Act.put, List.setIfInBounds_toArray, List.set_cons_zero, List.set_cons_succ]
              refine wpAnyH_take (i := 28) (oi := ({ dst := some 80, op := Op.move (Operand.tmp 10), type := 78, pos := "law.go:168", after := #[{ on := 27, ground := Ground.guard }], guard := some (27, true) } : Oper)) (v := ?_) rfl (by kernel_rfl) (by kernel_rfl) (by kernel_rfl) (fun _ _ _ h => h) (Or.inl ⟨by kernel_rfl, ?_⟩) (by assumption) ?_
              rotate_left
              · intro w hSw
                try dsimp only at hSw
                go_simp
                try with_reducible rfl
              try simp only [Act.put, List.setIfInBounds_toArray, List.set_cons_zero, List.set_cons_succ]
              refine wpAnyH_ready (rs := [29]) (by kernel_rfl) (by simp) ?_
              refine AllReadyH.cons (o := ({ dst := some 81, op := Op.call { callee := Callee.value (Operand.func 49), args := #[Operand.tmp 80, Operand.const (Value.int IntKind.i64 0)], argTypes := #[78, 3] }, type := 22, pos := "law.go:168", after := #[{ on := 28, ground := Ground.data }, { on := 27, ground := Ground.chain }, { on := 27, ground := Ground.guard }], guard := some (27, true) } : Oper)) rfl (fun K hK => ?_) AllReadyH.nil
              go_simp
              go_at_call 49
              refine (nexts_none _ _).mono ?_
              rintro e wX ⟨rfl, rfl⟩
              refine hK.out _ _ trivial (fun hH2 => ?_)
              clear hK K hHeld
              have hHeld := hH2
              clear hH2
              try simp only [Act.put, List.setIfInBounds_toArray, List.set_cons_zero, List.set_cons_succ]
              refine wpAnyH_take (i := 30) (oi := ({ dst := some 82, op := Op.call { callee := Callee.builtin Builtin.len, args := #[Operand.tmp 81], argTypes := #[22] }, type := 3, pos := "law.go:168", after := #[{ on := 29, ground := Ground.data }, { on := 27, ground := Ground.guard }], guard := some (27, true) } : Oper)) (v := ?_) rfl (by kernel_rfl) (by kernel_rfl) (by kernel_rfl) (fun _ _ _ h => h) (Or.inl ⟨by kernel_rfl, ?_⟩) (by assumption) ?_
              rotate_left
              · intro w hSw
                try dsimp only at hSw
                go_simp
                try with_reducible rfl
              try simp only [Act.put, List.setIfInBounds_toArray, List.set_cons_zero, List.set_cons_succ]
              refine wpAnyH_take (i := 31) (oi := ({ dst := some 83, op := Op.binOp BinOp.eql 3 (Operand.tmp 82) (Operand.const (Value.int IntKind.i64 0)) 3, type := 4, pos := "law.go:168", after := #[{ on := 30, ground := Ground.data }, { on := 27, ground := Ground.guard }], guard := some (27, true) } : Oper)) (v := ?_) rfl (by kernel_rfl) (by kernel_rfl) (by kernel_rfl) (fun _ _ _ h => h) (Or.inl ⟨by kernel_rfl, ?_⟩) (by assumption) ?_
              rotate_left
              · intro w hSw
                try dsimp only at hSw
                go_simp
                try with_reducible rfl
              try simp only [Act.put, List.setIfInBounds_toArray, List.set_cons_zero, List.set_cons_succ]
              refine wpAnyH_take (i := 32) (oi := ({ dst := some 84, op := Op.pick (Operand.tmp 79) (Operand.tmp 83) (Operand.const (Value.bool false)), type := 4, pos := "law.go:168", after := #[{ on := 27, ground := Ground.data }, { on := 31, ground := Ground.data }, { on := 23, ground := Ground.guard }], guard := some (23, false) } : Oper)) (v := ?_) rfl (by kernel_rfl) (by kernel_rfl) (by kernel_rfl) (fun _ _ _ h => h) (Or.inl ⟨by kernel_rfl, ?_⟩) (by assumption) ?_
              rotate_left
              · intro w hSw
                try dsimp only at hSw
                go_simp
                try with_reducible rfl
              try simp only [Act.put, List.setIfInBounds_toArray, List.set_cons_zero, List.set_cons_succ]
              refine wpAnyH_take (i := 33) (oi := ({ dst := some 85, op := Op.move (Operand.tmp 84), type := 4, pos := "law.go:168", after := #[{ on := 32, ground := Ground.data }, { on := 29, ground := Ground.chain }, { on := 23, ground := Ground.guard }], guard := some (23, false) } : Oper)) (v := ?_) rfl (by kernel_rfl) (by kernel_rfl) (by kernel_rfl) (fun _ _ _ h => h) (Or.inl ⟨by kernel_rfl, ?_⟩) (by assumption) ?_
              rotate_left
              · intro w hSw
                try dsimp only at hSw
                go_simp
                try with_reducible rfl
              try simp only [Act.put, List.setIfInBounds_toArray, List.set_cons_zero, List.set_cons_succ]
              refine wpAnyH_take (i := 34) (oi := ({ dst := some 86, op := Op.move (Operand.tmp 10), type := 78, pos := "law.go:168", after := #[{ on := 33, ground := Ground.guard }], guard := some (33, true) } : Oper)) (v := ?_) rfl (by kernel_rfl) (by kernel_rfl) (by kernel_rfl) (fun _ _ _ h => h) (Or.inl ⟨by kernel_rfl, ?_⟩) (by assumption) ?_
              rotate_left
              · intro w hSw
                try dsimp only at hSw
                go_simp
                try with_reducible rfl
              try simp only [Act.put, List.setIfInBounds_toArray, List.set_cons_zero, List.set_cons_succ]
              refine wpAnyH_ready (rs := [35]) (by kernel_rfl) (by simp) ?_
              refine AllReadyH.cons (o := ({ dst := some 87, op := Op.call { callee := Callee.value (Operand.func 45), args := #[Operand.tmp 86, Operand.const (Value.int IntKind.i64 0)], argTypes := #[78, 3] }, type := 4, pos := "law.go:168", after := #[{ on := 34, ground := Ground.data }, { on := 33, ground := Ground.chain }, { on := 33, ground := Ground.guard }], guard := some (33, true) } : Oper)) rfl (fun K hK => ?_) AllReadyH.nil
              go_simp
              go_at_call 45
              refine (ends_none _ _).mono ?_
              rintro e wE ⟨rfl, hbE⟩
              have HE := hid (belw HZ.out hbE)
              clear hbE
              refine hK.out _ _ trivial (fun hH2 => ?_)
              clear hK K hHeld
              have hHeld := hH2
              clear hH2
              try simp only [Act.put, List.setIfInBounds_toArray, List.set_cons_zero, List.set_cons_succ]
              refine wpAnyH_take (i := 36) (oi := ({ dst := some 88, op := Op.unOp UnOp.not 4 (Operand.tmp 87), type := 4, pos := "law.go:168", after := #[{ on := 35, ground := Ground.data }, { on := 33, ground := Ground.guard }], guard := some (33, true) } : Oper)) (v := ?_) rfl (by kernel_rfl) (by kernel_rfl) (by kernel_rfl) (fun _ _ _ h => h) (Or.inl ⟨by kernel_rfl, ?_⟩) (by assumption) ?_
              rotate_left
              · intro w hSw
                try dsimp only at hSw
                go_simp
                try with_reducible rfl
              try simp only [Act.put, List.setIfInBounds_toArray, List.set_cons_zero, List.set_cons_succ]
              refine wpAnyH_take (i := 37) (oi := ({ dst := some 89, op := Op.pick (Operand.tmp 85) (Operand.tmp 88) (Operand.const (Value.bool false)), type := 4, pos := "law.go:168", after := #[{ on := 33, ground := Ground.data }, { on := 36, ground := Ground.data }, { on := 23, ground := Ground.guard }], guard := some (23, false) } : Oper)) (v := ?_) rfl (by kernel_rfl) (by kernel_rfl) (by kernel_rfl) (fun _ _ _ h => h) (Or.inl ⟨by kernel_rfl, ?_⟩) (by assumption) ?_
              rotate_left
              · intro w hSw
                try dsimp only at hSw
                go_simp
                try with_reducible rfl
              try simp only [Act.put, List.setIfInBounds_toArray, List.set_cons_zero, List.set_cons_succ]
              refine wpAnyH_take (i := 38) (oi := ({ dst := some 90, op := Op.pick (Operand.tmp 75) (Operand.const (Value.bool true)) (Operand.tmp 89), type := 4, pos := "law.go:168", after := #[{ on := 23, ground := Ground.data }, { on := 37, ground := Ground.data }, { on := 21, ground := Ground.guard }], guard := some (21, true) } : Oper)) (v := ?_) rfl (by kernel_rfl) (by kernel_rfl) (by kernel_rfl) (fun _ _ _ h => h) (Or.inl ⟨by kernel_rfl, ?_⟩) (by assumption) ?_
              rotate_left
              · intro w hSw
                try dsimp only at hSw
                go_simp
                try with_reducible rfl
              try simp only [Act.put, List.setIfInBounds_toArray, List.set_cons_zero, List.set_cons_succ]
              refine wpAnyH_take (i := 39) (oi := ({ dst := some 91, op := Op.pick (Operand.tmp 73) (Operand.tmp 90) (Operand.const (Value.bool false)), type := 4, pos := "law.go:168", after := #[{ on := 21, ground := Ground.data }, { on := 38, ground := Ground.data }], guard := none } : Oper)) (v := ?_) rfl (by kernel_rfl) (by kernel_rfl) (by kernel_rfl) (fun _ _ _ h => h) (Or.inl ⟨by kernel_rfl, ?_⟩) (by assumption) ?_
              rotate_left
              · intro w hSw
                try dsimp only at hSw
                go_simp
                try with_reducible rfl
              try simp only [Act.put, List.setIfInBounds_toArray, List.set_cons_zero, List.set_cons_succ]
              refine wpAnyH_take (i := 40) (oi := ({ dst := some 6, op := Op.assign (Operand.tmp 91), type := 4, pos := "law.go:168", after := #[{ on := 39, ground := Ground.data }, { on := 35, ground := Ground.chain }, { on := 0, ground := Ground.phase }, { on := 1, ground := Ground.phase }, { on := 2, ground := Ground.phase }, { on := 3, ground := Ground.phase }, { on := 4, ground := Ground.phase }, { on := 5, ground := Ground.phase }, { on := 6, ground := Ground.phase }, { on := 7, ground := Ground.phase }, { on := 8, ground := Ground.phase }, { on := 9, ground := Ground.phase }, { on := 10, ground := Ground.phase }, { on := 11, ground := Ground.phase }, { on := 12, ground := Ground.phase }, { on := 13, ground := Ground.phase }, { on := 14, ground := Ground.phase }, { on := 15, ground := Ground.phase }, { on := 16, ground := Ground.phase }, { on := 17, ground := Ground.phase }, { on := 18, ground := Ground.phase }, { on := 19, ground := Ground.phase }, { on := 20, ground := Ground.phase }, { on := 21, ground := Ground.phase }, { on := 22, ground := Ground.phase }, { on := 23, ground := Ground.phase }, { on := 24, ground := Ground.phase }, { on := 25, ground := Ground.phase }, { on := 26, ground := Ground.phase }, { on := 27, ground := Ground.phase }, { on := 28, ground := Ground.phase }, { on := 29, ground := Ground.phase }, { on := 30, ground := Ground.phase }, { on := 31, ground := Ground.phase }, { on := 32, ground := Ground.phase }, { on := 33, ground := Ground.phase }, { on := 34, ground := Ground.phase }, { on := 35, ground := Ground.phase }, { on := 36, ground := Ground.phase }, { on := 37, ground := Ground.phase }, { on := 38, ground := Ground.phase }, { on := 39, ground := Ground.phase }], guard := none } : Oper)) (v := ?_) rfl (by kernel_rfl) (by kernel_rfl) (by kernel_rfl) (fun _ _ _ h => h) (Or.inl ⟨by kernel_rfl, ?_⟩) (by assumption) ?_
              rotate_left
              · intro w hSw
                try dsimp only at hSw
                go_simp
                try with_reducible rfl
              try simp only [Act.put, List.setIfInBounds_toArray, List.set_cons_zero, List.set_cons_succ]
              refine wpAnyH_done (by kernel_rfl) ?_ _
              go_wp2_with fail
              go_ret
              exact ⟨rfl, belw H5.out.2.2.2.1 HE.out⟩
            · refine AllReadyH.cons (o := ({ dst := some 66, op := Op.makeSlice 22 (Operand.tmp 65) (Operand.tmp 65), type := 22, pos := "law.go:168", after := #[{ on := 13, ground := Ground.data }, { on := 13, ground := Ground.data }, { on := 11, ground := Ground.guard }], guard := some (11, true) } : Oper)) rfl (fun K hK => ?_) AllReadyH.nil
              refine step_make_g _ (by kernel_rfl) _ _ _ rfl 3 i3 _ Try.underlying22 hi3 x0 x1 rfl k (by go_simp) (by go_simp) (by rw [x2]; omega) (by omega) ?_
              intro wM hbk hkM
              have HM := hid (And.intro hbk (And.intro (hkM.to_below (Nat.le_refl _) (fun k hk => hk.elim)) (belw Hb7.out (hkM.to_below (Nat.le_refl _) (fun k hk => hk.elim)))))
              clear hbk hkM
              refine hK.out _ _ trivial (fun hH2 => ?_)
              clear hK K hHeld
              have hHeld := hH2
              clear hH2
              try simp only [Act.put, List.setIfInBounds_toArray, List.set_cons_zero, List.set_cons_succ]
              have HMl := hid HM.out.2.2
              refine wpAnyH_ready (rs := [12]) (by kernel_rfl) (by simp) ?_
              refine AllReadyH.cons (o := ({ dst := some 64, op := Op.call { callee := Callee.value (Operand.func 50), args := #[], argTypes := #[] }, type := 30, pos := "law.go:168", after := #[{ on := 11, ground := Ground.chain }, { on := 11, ground := Ground.guard }], guard := some (11, true) } : Oper)) rfl (fun K hK => ?_) AllReadyH.nil
              go_simp
              go_at_call 50
              refine (nested17_calls _).mono ?_
              rintro e wN ⟨gN, tN, pN, rfl, hGN, hbN⟩
              have HN := hid (And.intro hGN (And.intro hbN (belw HMl.out hbN)))
              clear hGN hbN
              refine hK.out _ _ trivial (fun hH2 => ?_)
              clear hK K hHeld
              have hHeld := hH2
              clear hH2
              try simp only [Act.put, List.setIfInBounds_toArray, List.set_cons_zero, List.set_cons_succ]
              refine wpAnyH_ready (rs := [15]) (by kernel_rfl) (by simp) ?_
              refine AllReadyH.cons (o := ({ dst := some 67, op := Op.call { callee := Callee.value (Operand.func 43), args := #[Operand.tmp 64, Operand.tmp 66], argTypes := #[30, 22] }, type := 78, pos := "law.go:168", after := #[{ on := 12, ground := Ground.data }, { on := 14, ground := Ground.data }, { on := 12, ground := Ground.chain }, { on := 11, ground := Ground.guard }], guard := some (11, true) } : Oper)) rfl (fun K hK => ?_) AllReadyH.nil
              go_simp
              go_at_call 43
              refine (zero_no _ gN tN pN HN.out.1 _ k (HM.out.1.below HN.out.2.1 HM.out.1.lt) hk67 h64).mono ?_
              rintro e wZ ⟨rfl, hbZ⟩
              have HZ := hid (belw HN.out.2.2 hbZ)
              clear hbZ
              refine hK.out _ _ trivial (fun hH2 => ?_)
              clear hK K hHeld
              have hHeld := hH2
              clear hH2
              try simp only [Act.put, List.setIfInBounds_toArray, List.set_cons_zero, List.set_cons_succ]
              refine wpAnyH_take (i := 16) (oi := ({ dst := some 68, op := Op.binOp BinOp.neq 78 (Operand.tmp 67) (Operand.const (Value.pointer none)) 78, type := 4, pos := "law.go:168", after := #[{ on := 15, ground := Ground.data }, { on := 11, ground := Ground.guard }], guard := some (11, true) } : Oper)) (v := ?_) rfl (by kernel_rfl) (by kernel_rfl) (by kernel_rfl) (fun _ _ _ h => h) (Or.inl ⟨by kernel_rfl, ?_⟩) (by assumption) ?_
              rotate_left
              · intro w hSw
                try dsimp only at hSw
                go_simp
                try with_reducible rfl
              try simp only [Act.put, List.setIfInBounds_toArray, List.set_cons_zero, List.set_cons_succ]
              refine wpAnyH_take (i := 19) (oi := ({ dst := some 71, op := Op.binOp BinOp.eql 4 (Operand.tmp 68) (Operand.tmp 70) 4, type := 4, pos := "law.go:168", after := #[{ on := 16, ground := Ground.data }, { on := 18, ground := Ground.data }, { on := 11, ground := Ground.guard }], guard := some (11, true) } : Oper)) (v := ?_) rfl (by kernel_rfl) (by kernel_rfl) (by kernel_rfl) (fun _ _ _ h => h) (Or.inl ⟨by kernel_rfl, ?_⟩) (by assumption) ?_
              rotate_left
              · intro w hSw
                try dsimp only at hSw
                go_simp
                try with_reducible rfl
              try simp only [Act.put, List.setIfInBounds_toArray, List.set_cons_zero, List.set_cons_succ]
              refine wpAnyH_take (i := 20) (oi := ({ dst := some 72, op := Op.pick (Operand.tmp 63) (Operand.tmp 71) (Operand.const (Value.bool false)), type := 4, pos := "law.go:168", after := #[{ on := 11, ground := Ground.data }, { on := 19, ground := Ground.data }], guard := none } : Oper)) (v := ?_) rfl (by kernel_rfl) (by kernel_rfl) (by kernel_rfl) (fun _ _ _ h => h) (Or.inl ⟨by kernel_rfl, ?_⟩) (by assumption) ?_
              rotate_left
              · intro w hSw
                try dsimp only at hSw
                go_simp
                try with_reducible rfl
              try simp only [Act.put, List.setIfInBounds_toArray, List.set_cons_zero, List.set_cons_succ]
              refine wpAnyH_take (i := 21) (oi := ({ dst := some 73, op := Op.move (Operand.tmp 72), type := 4, pos := "law.go:168", after := #[{ on := 20, ground := Ground.data }, { on := 15, ground := Ground.chain }], guard := none } : Oper)) (v := ?_) rfl (by kernel_rfl) (by kernel_rfl) (by kernel_rfl) (fun _ _ _ h => h) (Or.inl ⟨by kernel_rfl, ?_⟩) (by assumption) ?_
              rotate_left
              · intro w hSw
                try dsimp only at hSw
                go_simp
                try with_reducible rfl
              try simp only [Act.put, List.setIfInBounds_toArray, List.set_cons_zero, List.set_cons_succ]
              refine wpAnyH_take (i := 22) (oi := ({ dst := some 74, op := Op.move (Operand.tmp 8), type := 4, pos := "law.go:168", after := #[{ on := 21, ground := Ground.guard }], guard := some (21, true) } : Oper)) (v := ?_) rfl (by kernel_rfl) (by kernel_rfl) (by kernel_rfl) (fun _ _ _ h => h) (Or.inl ⟨by kernel_rfl, ?_⟩) (by assumption) ?_
              rotate_left
              · intro w hSw
                try dsimp only at hSw
                go_simp
                try with_reducible rfl
              try simp only [Act.put, List.setIfInBounds_toArray, List.set_cons_zero, List.set_cons_succ]
              refine wpAnyH_take (i := 23) (oi := ({ dst := some 75, op := Op.move (Operand.tmp 74), type := 4, pos := "law.go:168", after := #[{ on := 22, ground := Ground.data }, { on := 21, ground := Ground.chain }, { on := 21, ground := Ground.guard }], guard := some (21, true) } : Oper)) (v := ?_) rfl (by kernel_rfl) (by kernel_rfl) (by kernel_rfl) (fun _ _ _ h => h) (Or.inl ⟨by kernel_rfl, ?_⟩) (by assumption) ?_
              rotate_left
              · intro w hSw
                try dsimp only at hSw
                go_simp
                try with_reducible rfl
              try simp only [Act.put, List.setIfInBounds_toArray, List.set_cons_zero, List.set_cons_succ]
              refine wpAnyH_take (i := 24) (oi := ({ dst := some 76, op := Op.move (Operand.tmp 10), type := 78, pos := "law.go:168", after := #[{ on := 23, ground := Ground.guard }], guard := some (23, false) } : Oper)) (v := ?_) rfl (by kernel_rfl) (by kernel_rfl) (by kernel_rfl) (fun _ _ _ h => h) (Or.inl ⟨by kernel_rfl, ?_⟩) (by assumption) ?_
              rotate_left
              · intro w hSw
                try dsimp only at hSw
                go_simp
                try with_reducible rfl
              try simp only [Act.put, List.setIfInBounds_toArray, List.set_cons_zero, List.set_cons_succ]
              refine wpAnyH_ready (rs := [25]) (by kernel_rfl) (by simp) ?_
              refine AllReadyH.cons (o := ({ dst := some 77, op := Op.call { callee := Callee.value (Operand.func 48), args := #[Operand.tmp 76], argTypes := #[78] }, type := 4, pos := "law.go:168", after := #[{ on := 24, ground := Ground.data }, { on := 23, ground := Ground.chain }, { on := 23, ground := Ground.guard }], guard := some (23, false) } : Oper)) rfl (fun K hK => ?_) AllReadyH.nil
              go_simp
              go_at_call 48
              refine (yes_none _).mono ?_
              rintro e wY ⟨rfl, rfl⟩
              refine hK.out _ _ trivial (fun hH2 => ?_)
              clear hK K hHeld
              have hHeld := hH2
              clear hH2
              try simp only [Act.put, List.setIfInBounds_toArray, List.set_cons_zero, List.set_cons_succ]
              refine wpAnyH_take (i := 26) (oi := ({ dst := some 78, op := Op.unOp UnOp.not 4 (Operand.tmp 77), type := 4, pos := "law.go:168", after := #[{ on := 25, ground := Ground.data }, { on := 23, ground := Ground.guard }], guard := some (23, false) } : Oper)) (v := ?_) rfl (by kernel_rfl) (by kernel_rfl) (by kernel_rfl) (fun _ _ _ h => h) (Or.inl ⟨by kernel_rfl, ?_⟩) (by assumption) ?_
              rotate_left
              · intro w hSw
                try dsimp only at hSw
                go_simp
                try with_reducible rfl
              try simp only [Act.put, List.setIfInBounds_toArray, List.set_cons_zero, List.set_cons_succ]
              refine wpAnyH_take (i := 27) (oi := ({ dst := some 79, op := Op.move (Operand.tmp 78), type := 4, pos := "law.go:168", after := #[{ on := 26, ground := Ground.data }, { on := 25, ground := Ground.chain }, { on := 23, ground := Ground.guard }], guard := some (23, false) } : Oper)) (v := ?_) rfl (by kernel_rfl) (by kernel_rfl) (by kernel_rfl) (fun _ _ _ h => h) (Or.inl ⟨by kernel_rfl, ?_⟩) (by assumption) ?_
              rotate_left
              · intro w hSw
                try dsimp only at hSw
                go_simp
                try with_reducible rfl
              try simp only [Act.put, List.setIfInBounds_toArray, List.set_cons_zero, List.set_cons_succ]
              refine wpAnyH_take (i := 28) (oi := ({ dst := some 80, op := Op.move (Operand.tmp 10), type := 78, pos := "law.go:168", after := #[{ on := 27, ground := Ground.guard }], guard := some (27, true) } : Oper)) (v := ?_) rfl (by kernel_rfl) (by kernel_rfl) (by kernel_rfl) (fun _ _ _ h => h) (Or.inl ⟨by kernel_rfl, ?_⟩) (by assumption) ?_
              rotate_left
              · intro w hSw
                try dsimp only at hSw
                go_simp
                try with_reducible rfl
              try simp only [Act.put, List.setIfInBounds_toArray, List.set_cons_zero, List.set_cons_succ]
              refine wpAnyH_ready (rs := [29]) (by kernel_rfl) (by simp) ?_
              refine AllReadyH.cons (o := ({ dst := some 81, op := Op.call { callee := Callee.value (Operand.func 49), args := #[Operand.tmp 80, Operand.const (Value.int IntKind.i64 0)], argTypes := #[78, 3] }, type := 22, pos := "law.go:168", after := #[{ on := 28, ground := Ground.data }, { on := 27, ground := Ground.chain }, { on := 27, ground := Ground.guard }], guard := some (27, true) } : Oper)) rfl (fun K hK => ?_) AllReadyH.nil
              go_simp
              go_at_call 49
              refine (nexts_none _ _).mono ?_
              rintro e wX ⟨rfl, rfl⟩
              refine hK.out _ _ trivial (fun hH2 => ?_)
              clear hK K hHeld
              have hHeld := hH2
              clear hH2
              try simp only [Act.put, List.setIfInBounds_toArray, List.set_cons_zero, List.set_cons_succ]
              refine wpAnyH_take (i := 30) (oi := ({ dst := some 82, op := Op.call { callee := Callee.builtin Builtin.len, args := #[Operand.tmp 81], argTypes := #[22] }, type := 3, pos := "law.go:168", after := #[{ on := 29, ground := Ground.data }, { on := 27, ground := Ground.guard }], guard := some (27, true) } : Oper)) (v := ?_) rfl (by kernel_rfl) (by kernel_rfl) (by kernel_rfl) (fun _ _ _ h => h) (Or.inl ⟨by kernel_rfl, ?_⟩) (by assumption) ?_
              rotate_left
              · intro w hSw
                try dsimp only at hSw
                go_simp
                try with_reducible rfl
              try simp only [Act.put, List.setIfInBounds_toArray, List.set_cons_zero, List.set_cons_succ]
              refine wpAnyH_take (i := 31) (oi := ({ dst := some 83, op := Op.binOp BinOp.eql 3 (Operand.tmp 82) (Operand.const (Value.int IntKind.i64 0)) 3, type := 4, pos := "law.go:168", after := #[{ on := 30, ground := Ground.data }, { on := 27, ground := Ground.guard }], guard := some (27, true) } : Oper)) (v := ?_) rfl (by kernel_rfl) (by kernel_rfl) (by kernel_rfl) (fun _ _ _ h => h) (Or.inl ⟨by kernel_rfl, ?_⟩) (by assumption) ?_
              rotate_left
              · intro w hSw
                try dsimp only at hSw
                go_simp
                try with_reducible rfl
              try simp only [Act.put, List.setIfInBounds_toArray, List.set_cons_zero, List.set_cons_succ]
              refine wpAnyH_take (i := 32) (oi := ({ dst := some 84, op := Op.pick (Operand.tmp 79) (Operand.tmp 83) (Operand.const (Value.bool false)), type := 4, pos := "law.go:168", after := #[{ on := 27, ground := Ground.data }, { on := 31, ground := Ground.data }, { on := 23, ground := Ground.guard }], guard := some (23, false) } : Oper)) (v := ?_) rfl (by kernel_rfl) (by kernel_rfl) (by kernel_rfl) (fun _ _ _ h => h) (Or.inl ⟨by kernel_rfl, ?_⟩) (by assumption) ?_
              rotate_left
              · intro w hSw
                try dsimp only at hSw
                go_simp
                try with_reducible rfl
              try simp only [Act.put, List.setIfInBounds_toArray, List.set_cons_zero, List.set_cons_succ]
              refine wpAnyH_take (i := 33) (oi := ({ dst := some 85, op := Op.move (Operand.tmp 84), type := 4, pos := "law.go:168", after := #[{ on := 32, ground := Ground.data }, { on := 29, ground := Ground.chain }, { on := 23, ground := Ground.guard }], guard := some (23, false) } : Oper)) (v := ?_) rfl (by kernel_rfl) (by kernel_rfl) (by kernel_rfl) (fun _ _ _ h => h) (Or.inl ⟨by kernel_rfl, ?_⟩) (by assumption) ?_
              rotate_left
              · intro w hSw
                try dsimp only at hSw
                go_simp
                try with_reducible rfl
              try simp only [Act.put, List.setIfInBounds_toArray, List.set_cons_zero, List.set_cons_succ]
              refine wpAnyH_take (i := 34) (oi := ({ dst := some 86, op := Op.move (Operand.tmp 10), type := 78, pos := "law.go:168", after := #[{ on := 33, ground := Ground.guard }], guard := some (33, true) } : Oper)) (v := ?_) rfl (by kernel_rfl) (by kernel_rfl) (by kernel_rfl) (fun _ _ _ h => h) (Or.inl ⟨by kernel_rfl, ?_⟩) (by assumption) ?_
              rotate_left
              · intro w hSw
                try dsimp only at hSw
                go_simp
                try with_reducible rfl
              try simp only [Act.put, List.setIfInBounds_toArray, List.set_cons_zero, List.set_cons_succ]
              refine wpAnyH_ready (rs := [35]) (by kernel_rfl) (by simp) ?_
              refine AllReadyH.cons (o := ({ dst := some 87, op := Op.call { callee := Callee.value (Operand.func 45), args := #[Operand.tmp 86, Operand.const (Value.int IntKind.i64 0)], argTypes := #[78, 3] }, type := 4, pos := "law.go:168", after := #[{ on := 34, ground := Ground.data }, { on := 33, ground := Ground.chain }, { on := 33, ground := Ground.guard }], guard := some (33, true) } : Oper)) rfl (fun K hK => ?_) AllReadyH.nil
              go_simp
              go_at_call 45
              refine (ends_none _ _).mono ?_
              rintro e wE ⟨rfl, hbE⟩
              have HE := hid (belw HZ.out hbE)
              clear hbE
              refine hK.out _ _ trivial (fun hH2 => ?_)
              clear hK K hHeld
              have hHeld := hH2
              clear hH2
              try simp only [Act.put, List.setIfInBounds_toArray, List.set_cons_zero, List.set_cons_succ]
              refine wpAnyH_take (i := 36) (oi := ({ dst := some 88, op := Op.unOp UnOp.not 4 (Operand.tmp 87), type := 4, pos := "law.go:168", after := #[{ on := 35, ground := Ground.data }, { on := 33, ground := Ground.guard }], guard := some (33, true) } : Oper)) (v := ?_) rfl (by kernel_rfl) (by kernel_rfl) (by kernel_rfl) (fun _ _ _ h => h) (Or.inl ⟨by kernel_rfl, ?_⟩) (by assumption) ?_
              rotate_left
              · intro w hSw
                try dsimp only at hSw
                go_simp
                try with_reducible rfl
              try simp only [Act.put, List.setIfInBounds_toArray, List.set_cons_zero, List.set_cons_succ]
              refine wpAnyH_take (i := 37) (oi := ({ dst := some 89, op := Op.pick (Operand.tmp 85) (Operand.tmp 88) (Operand.const (Value.bool false)), type := 4, pos := "law.go:168", after := #[{ on := 33, ground := Ground.data }, { on := 36, ground := Ground.data }, { on := 23, ground := Ground.guard }], guard := some (23, false) } : Oper)) (v := ?_) rfl (by kernel_rfl) (by kernel_rfl) (by kernel_rfl) (fun _ _ _ h => h) (Or.inl ⟨by kernel_rfl, ?_⟩) (by assumption) ?_
              rotate_left
              · intro w hSw
                try dsimp only at hSw
                go_simp
                try with_reducible rfl
              try simp only [Act.put, List.setIfInBounds_toArray, List.set_cons_zero, List.set_cons_succ]
              refine wpAnyH_take (i := 38) (oi := ({ dst := some 90, op := Op.pick (Operand.tmp 75) (Operand.const (Value.bool true)) (Operand.tmp 89), type := 4, pos := "law.go:168", after := #[{ on := 23, ground := Ground.data }, { on := 37, ground := Ground.data }, { on := 21, ground := Ground.guard }], guard := some (21, true) } : Oper)) (v := ?_) rfl (by kernel_rfl) (by kernel_rfl) (by kernel_rfl) (fun _ _ _ h => h) (Or.inl ⟨by kernel_rfl, ?_⟩) (by assumption) ?_
              rotate_left
              · intro w hSw
                try dsimp only at hSw
                go_simp
                try with_reducible rfl
              try simp only [Act.put, List.setIfInBounds_toArray, List.set_cons_zero, List.set_cons_succ]
              refine wpAnyH_take (i := 39) (oi := ({ dst := some 91, op := Op.pick (Operand.tmp 73) (Operand.tmp 90) (Operand.const (Value.bool false)), type := 4, pos := "law.go:168", after := #[{ on := 21, ground := Ground.data }, { on := 38, ground := Ground.data }], guard := none } : Oper)) (v := ?_) rfl (by kernel_rfl) (by kernel_rfl) (by kernel_rfl) (fun _ _ _ h => h) (Or.inl ⟨by kernel_rfl, ?_⟩) (by assumption) ?_
              rotate_left
              · intro w hSw
                try dsimp only at hSw
                go_simp
                try with_reducible rfl
              try simp only [Act.put, List.setIfInBounds_toArray, List.set_cons_zero, List.set_cons_succ]
              refine wpAnyH_take (i := 40) (oi := ({ dst := some 6, op := Op.assign (Operand.tmp 91), type := 4, pos := "law.go:168", after := #[{ on := 39, ground := Ground.data }, { on := 35, ground := Ground.chain }, { on := 0, ground := Ground.phase }, { on := 1, ground := Ground.phase }, { on := 2, ground := Ground.phase }, { on := 3, ground := Ground.phase }, { on := 4, ground := Ground.phase }, { on := 5, ground := Ground.phase }, { on := 6, ground := Ground.phase }, { on := 7, ground := Ground.phase }, { on := 8, ground := Ground.phase }, { on := 9, ground := Ground.phase }, { on := 10, ground := Ground.phase }, { on := 11, ground := Ground.phase }, { on := 12, ground := Ground.phase }, { on := 13, ground := Ground.phase }, { on := 14, ground := Ground.phase }, { on := 15, ground := Ground.phase }, { on := 16, ground := Ground.phase }, { on := 17, ground := Ground.phase }, { on := 18, ground := Ground.phase }, { on := 19, ground := Ground.phase }, { on := 20, ground := Ground.phase }, { on := 21, ground := Ground.phase }, { on := 22, ground := Ground.phase }, { on := 23, ground := Ground.phase }, { on := 24, ground := Ground.phase }, { on := 25, ground := Ground.phase }, { on := 26, ground := Ground.phase }, { on := 27, ground := Ground.phase }, { on := 28, ground := Ground.phase }, { on := 29, ground := Ground.phase }, { on := 30, ground := Ground.phase }, { on := 31, ground := Ground.phase }, { on := 32, ground := Ground.phase }, { on := 33, ground := Ground.phase }, { on := 34, ground := Ground.phase }, { on := 35, ground := Ground.phase }, { on := 36, ground := Ground.phase }, { on := 37, ground := Ground.phase }, { on := 38, ground := Ground.phase }, { on := 39, ground := Ground.phase }], guard := none } : Oper)) (v := ?_) rfl (by kernel_rfl) (by kernel_rfl) (by kernel_rfl) (fun _ _ _ h => h) (Or.inl ⟨by kernel_rfl, ?_⟩) (by assumption) ?_
              rotate_left
              · intro w hSw
                try dsimp only at hSw
                go_simp
                try with_reducible rfl
              try simp only [Act.put, List.setIfInBounds_toArray, List.set_cons_zero, List.set_cons_succ]
              refine wpAnyH_done (by kernel_rfl) ?_ _
              go_wp2_with fail
              go_ret
              exact ⟨rfl, belw H5.out.2.2.2.1 HE.out⟩
            -- E13 no0
        | true =>
          have hyes : Calls Try.prog 43 #[.agg #[.int .i64 st, .int .i64 1, .slice gn 1 1, .slice gt 3 3, .slice gp 2 2], .slice gv rs.length capv] w5 (MkYes w5 nest17 rs) := by
            have h := Hb.out
            have hst : st = 0 := by
              by_cases e : st = 0
              · exact e
              · simp [okB, e] at h
            subst hst
            have hany : rs.any (badT 3) = false := by
              cases hc : rs.any (badT 3) with
              | false => rfl
              | true => simp [okB, hc] at h
            exact make_yes w5 nest17 gn gt gp 1 3 2 H5.out.2.2.1 nest_sound gv capv rs H5.out.1 (by omega) hany Hcap.out
          have Hyes := hid hyes
          clear hyes
          go_upto_region 13 with (go_at_call 43; refine Hyes.out.mono ?_; rintro e w6 ⟨c6, Xs6, rfl, hch6, hsets6, hb6⟩)
          have hb7 : Below w5.heap.size w5 w6.drew := hb6.trans ((show Below w6.heap.size w6 w6.drew from below_drewN (Below.refl _ _) 1).mono hb6.size)
          have hX1 : 0 < Xs6.length := (hsets6.zero (by decide) (by decide)).2 ⟨[2], nest_z⟩
          have hX2 : Xs6.length ≤ 11 := by have := hsets6.len; omega
          obtain ⟨q, hq⟩ : ∃ q : Int, q = (Xs6.length : Int) - 1 := ⟨_, rfl⟩
          have hq0 : (0 : Int) ≤ q := by omega
          have hgood : Calls Try.prog 47 #[.pointer (some ⟨c6, 0, none⟩)] w6.drew fun e w' => e = .returned (.int .i64 q) ∧ w6.drew = w' := by
            rw [hq]
            exact good_some w6.drew c6 nest17 rs Xs6 (hch6.later ((show Below w6.heap.size w6 w6.drew from below_drewN (Below.refl _ _) 1))) (by omega)
          have Hgood := hid hgood
          obtain ⟨k, hk⟩ : ∃ k, k = 60 + m := ⟨_, rfl⟩
          have hkI : (60 : Int) + (m : Int) = (k : Int) := by omega
          have hk67 : k ≤ 67 := by omega
          obtain ⟨i3, hi3, x0, x1, x2⟩ := info_parts intInfo
          have Hb7 := hid hb7
          rw [hkI]
          clear hkI hk hb7 hb6 p0 p1 p2 p3 p4 Hyes Hk hm7 he7 hge hgood hq hX1 hX2 hsets6 hch6
          by_cases h64 : k ≤ 64
          · have h64I : (k : Int) ≤ 64 := by omega
            -- R13 ok1
            refine wp_region_held_drew (S := fun _ : World => True) (by kernel_rfl) trivial (fun hHeld => ?_)
            refine wpAnyH_take (i := 0) (oi := ({ dst := some 52, op := Op.move (Operand.tmp 10), type := 78, pos := "law.go:168", after := #[], guard := none } : Oper)) (v := ?_) rfl (by kernel_rfl) (by kernel_rfl) (by kernel_rfl) (fun _ _ _ h => h) (Or.inl ⟨by kernel_rfl, ?_⟩) (by assumption) ?_
            rotate_left
            · intro w hSw
              try dsimp only at hSw
              go_simp
              try with_reducible rfl
            try simp only [Act.put, List.setIfInBounds_toArray, List.set_cons_zero, List.set_cons_succ]
            refine wpAnyH_take (i := 1) (oi := ({ dst := some 53, op := Op.binOp BinOp.neq 78 (Operand.tmp 52) (Operand.const (Value.pointer none)) 78, type := 4, pos := "law.go:168", after := #[{ on := 0, ground := Ground.data }], guard := none } : Oper)) (v := ?_) rfl (by kernel_rfl) (by kernel_rfl) (by kernel_rfl) (fun _ _ _ h => h) (Or.inl ⟨by kernel_rfl, ?_⟩) (by assumption) ?_
            rotate_left
            · intro w hSw
              try dsimp only at hSw
              go_simp
              try with_reducible rfl
            try simp only [Act.put, List.setIfInBounds_toArray, List.set_cons_zero, List.set_cons_succ]
            refine wpAnyH_take (i := 2) (oi := ({ dst := some 54, op := Op.move (Operand.tmp 8), type := 4, pos := "law.go:168", after := #[], guard := none } : Oper)) (v := ?_) rfl (by kernel_rfl) (by kernel_rfl) (by kernel_rfl) (fun _ _ _ h => h) (Or.inl ⟨by kernel_rfl, ?_⟩) (by assumption) ?_
            rotate_left
            · intro w hSw
              try dsimp only at hSw
              go_simp
              try with_reducible rfl
            try simp only [Act.put, List.setIfInBounds_toArray, List.set_cons_zero, List.set_cons_succ]
            refine wpAnyH_take (i := 3) (oi := ({ dst := some 55, op := Op.binOp BinOp.eql 4 (Operand.tmp 53) (Operand.tmp 54) 4, type := 4, pos := "law.go:168", after := #[{ on := 1, ground := Ground.data }, { on := 2, ground := Ground.data }], guard := none } : Oper)) (v := ?_) rfl (by kernel_rfl) (by kernel_rfl) (by kernel_rfl) (fun _ _ _ h => h) (Or.inl ⟨by kernel_rfl, ?_⟩) (by assumption) ?_
            rotate_left
            · intro w hSw
              try dsimp only at hSw
              go_simp
              try with_reducible rfl
            try simp only [Act.put, List.setIfInBounds_toArray, List.set_cons_zero, List.set_cons_succ]
            refine wpAnyH_take (i := 4) (oi := ({ dst := some 56, op := Op.move (Operand.tmp 55), type := 4, pos := "law.go:168", after := #[{ on := 3, ground := Ground.data }], guard := none } : Oper)) (v := ?_) rfl (by kernel_rfl) (by kernel_rfl) (by kernel_rfl) (fun _ _ _ h => h) (Or.inl ⟨by kernel_rfl, ?_⟩) (by assumption) ?_
            rotate_left
            · intro w hSw
              try dsimp only at hSw
              go_simp
              try with_reducible rfl
            try simp only [Act.put, List.setIfInBounds_toArray, List.set_cons_zero, List.set_cons_succ]
            refine wpAnyH_take (i := 5) (oi := ({ dst := some 57, op := Op.move (Operand.tmp 10), type := 78, pos := "law.go:168", after := #[{ on := 4, ground := Ground.guard }], guard := some (4, true) } : Oper)) (v := ?_) rfl (by kernel_rfl) (by kernel_rfl) (by kernel_rfl) (fun _ _ _ h => h) (Or.inl ⟨by kernel_rfl, ?_⟩) (by assumption) ?_
            rotate_left
            · intro w hSw
              try dsimp only at hSw
              go_simp
              try with_reducible rfl
            try simp only [Act.put, List.setIfInBounds_toArray, List.set_cons_zero, List.set_cons_succ]
            refine wpAnyH_take (i := 8) (oi := ({ dst := some 60, op := Op.move (Operand.tmp 8), type := 4, pos := "law.go:168", after := #[{ on := 4, ground := Ground.guard }], guard := some (4, true) } : Oper)) (v := ?_) rfl (by kernel_rfl) (by kernel_rfl) (by kernel_rfl) (fun _ _ _ h => h) (Or.inl ⟨by kernel_rfl, ?_⟩) (by assumption) ?_
            rotate_left
            · intro w hSw
              try dsimp only at hSw
              go_simp
              try with_reducible rfl
            try simp only [Act.put, List.setIfInBounds_toArray, List.set_cons_zero, List.set_cons_succ]
            refine wpAnyH_ready (rs := [6]) (by kernel_rfl) (by simp) ?_
            refine AllReadyH.cons (o := ({ dst := some 58, op := Op.call { callee := Callee.value (Operand.func 47), args := #[Operand.tmp 57], argTypes := #[78] }, type := 3, pos := "law.go:168", after := #[{ on := 5, ground := Ground.data }, { on := 4, ground := Ground.chain }, { on := 4, ground := Ground.guard }], guard := some (4, true) } : Oper)) rfl (fun K hK => ?_) AllReadyH.nil
            go_simp
            go_at_call 47
            refine Hgood.out.mono ?_
            rintro e wg ⟨rfl, rfl⟩
            refine hK.out _ _ trivial (fun hH2 => ?_)
            clear hK K hHeld
            have hHeld := hH2
            clear hH2
            try simp only [Act.put, List.setIfInBounds_toArray, List.set_cons_zero, List.set_cons_succ]
            refine wpAnyH_take (i := 7) (oi := ({ dst := some 59, op := Op.binOp BinOp.geq 3 (Operand.tmp 58) (Operand.const (Value.int IntKind.i64 0)) 3, type := 4, pos := "law.go:168", after := #[{ on := 6, ground := Ground.data }, { on := 4, ground := Ground.guard }], guard := some (4, true) } : Oper)) (v := ?_) rfl (by kernel_rfl) (by kernel_rfl) (by kernel_rfl) (fun _ _ _ h => h) (Or.inl ⟨by kernel_rfl, ?_⟩) (by assumption) ?_
            rotate_left
            · intro w hSw
              try dsimp only at hSw
              go_simp
              try with_reducible rfl
            try simp only [Act.put, List.setIfInBounds_toArray, List.set_cons_zero, List.set_cons_succ]
            refine wpAnyH_take (i := 9) (oi := ({ dst := some 61, op := Op.binOp BinOp.eql 4 (Operand.tmp 59) (Operand.tmp 60) 4, type := 4, pos := "law.go:168", after := #[{ on := 7, ground := Ground.data }, { on := 8, ground := Ground.data }, { on := 4, ground := Ground.guard }], guard := some (4, true) } : Oper)) (v := ?_) rfl (by kernel_rfl) (by kernel_rfl) (by kernel_rfl) (fun _ _ _ h => h) (Or.inl ⟨by kernel_rfl, ?_⟩) (by assumption) ?_
            rotate_left
            · intro w hSw
              try dsimp only at hSw
              go_simp
              try with_reducible rfl
            try simp only [Act.put, List.setIfInBounds_toArray, List.set_cons_zero, List.set_cons_succ]
            refine wpAnyH_take (i := 10) (oi := ({ dst := some 62, op := Op.pick (Operand.tmp 56) (Operand.tmp 61) (Operand.const (Value.bool false)), type := 4, pos := "law.go:168", after := #[{ on := 4, ground := Ground.data }, { on := 9, ground := Ground.data }], guard := none } : Oper)) (v := ?_) rfl (by kernel_rfl) (by kernel_rfl) (by kernel_rfl) (fun _ _ _ h => h) (Or.inl ⟨by kernel_rfl, ?_⟩) (by assumption) ?_
            rotate_left
            · intro w hSw
              try dsimp only at hSw
              go_simp
              try with_reducible rfl
            try simp only [Act.put, List.setIfInBounds_toArray, List.set_cons_zero, List.set_cons_succ]
            refine wpAnyH_take (i := 11) (oi := ({ dst := some 63, op := Op.move (Operand.tmp 62), type := 4, pos := "law.go:168", after := #[{ on := 10, ground := Ground.data }, { on := 6, ground := Ground.chain }], guard := none } : Oper)) (v := ?_) rfl (by kernel_rfl) (by kernel_rfl) (by kernel_rfl) (fun _ _ _ h => h) (Or.inl ⟨by kernel_rfl, ?_⟩) (by assumption) ?_
            rotate_left
            · intro w hSw
              try dsimp only at hSw
              go_simp
              try with_reducible rfl
            try simp only [Act.put, List.setIfInBounds_toArray, List.set_cons_zero, List.set_cons_succ]
            refine wpAnyH_take (i := 13) (oi := ({ dst := some 65, op := Op.move (Operand.tmp 1), type := 3, pos := "law.go:168", after := #[{ on := 11, ground := Ground.guard }], guard := some (11, true) } : Oper)) (v := ?_) rfl (by kernel_rfl) (by kernel_rfl) (by kernel_rfl) (fun _ _ _ h => h) (Or.inl ⟨by kernel_rfl, ?_⟩) (by assumption) ?_
            rotate_left
            · intro w hSw
              try dsimp only at hSw
              go_simp
              try with_reducible rfl
            try simp only [Act.put, List.setIfInBounds_toArray, List.set_cons_zero, List.set_cons_succ]
            refine wpAnyH_take (i := 17) (oi := ({ dst := some 69, op := Op.move (Operand.tmp 1), type := 3, pos := "law.go:168", after := #[{ on := 11, ground := Ground.guard }], guard := some (11, true) } : Oper)) (v := ?_) rfl (by kernel_rfl) (by kernel_rfl) (by kernel_rfl) (fun _ _ _ h => h) (Or.inl ⟨by kernel_rfl, ?_⟩) (by assumption) ?_
            rotate_left
            · intro w hSw
              try dsimp only at hSw
              go_simp
              try with_reducible rfl
            try simp only [Act.put, List.setIfInBounds_toArray, List.set_cons_zero, List.set_cons_succ]
            refine wpAnyH_take (i := 18) (oi := ({ dst := some 70, op := Op.binOp BinOp.leq 3 (Operand.tmp 69) (Operand.const (Value.int IntKind.i64 64)) 3, type := 4, pos := "law.go:168", after := #[{ on := 17, ground := Ground.data }, { on := 11, ground := Ground.guard }], guard := some (11, true) } : Oper)) (v := ?_) rfl (by kernel_rfl) (by kernel_rfl) (by kernel_rfl) (fun _ _ _ h => h) (Or.inl ⟨by kernel_rfl, ?_⟩) (by assumption) ?_
            rotate_left
            · intro w hSw
              try dsimp only at hSw
              go_simp
              try with_reducible rfl
            try simp only [Act.put, List.setIfInBounds_toArray, List.set_cons_zero, List.set_cons_succ]
            refine wpAnyH_ready (rs := [12, 14]) (by kernel_rfl) (by simp) ?_
            refine AllReadyH.cons (o := ({ dst := some 64, op := Op.call { callee := Callee.value (Operand.func 50), args := #[], argTypes := #[] }, type := 30, pos := "law.go:168", after := #[{ on := 11, ground := Ground.chain }, { on := 11, ground := Ground.guard }], guard := some (11, true) } : Oper)) rfl (fun K hK => ?_) ?_
            · go_simp
              go_at_call 50
              refine (nested17_calls _).mono ?_
              rintro e wN ⟨gN, tN, pN, rfl, hGN, hbN⟩
              have HN := hid (And.intro hGN (And.intro hbN (belw Hb7.out hbN)))
              clear hGN hbN
              refine hK.out _ _ trivial (fun hH2 => ?_)
              clear hK K hHeld
              have hHeld := hH2
              clear hH2
              try simp only [Act.put, List.setIfInBounds_toArray, List.set_cons_zero, List.set_cons_succ]
              have HNl := hid HN.out.2.2
              refine wpAnyH_ready (rs := [14]) (by kernel_rfl) (by simp) ?_
              refine AllReadyH.cons (o := ({ dst := some 66, op := Op.makeSlice 22 (Operand.tmp 65) (Operand.tmp 65), type := 22, pos := "law.go:168", after := #[{ on := 13, ground := Ground.data }, { on := 13, ground := Ground.data }, { on := 11, ground := Ground.guard }], guard := some (11, true) } : Oper)) rfl (fun K hK => ?_) AllReadyH.nil
              refine step_make_g _ (by kernel_rfl) _ _ _ rfl 3 i3 _ Try.underlying22 hi3 x0 x1 rfl k (by go_simp) (by go_simp) (by rw [x2]; omega) (by omega) ?_
              intro wM hbk hkM
              have HM := hid (And.intro hbk (And.intro (hkM.to_below (Nat.le_refl _) (fun k hk => hk.elim)) (belw HNl.out (hkM.to_below (Nat.le_refl _) (fun k hk => hk.elim)))))
              clear hbk hkM
              refine hK.out _ _ trivial (fun hH2 => ?_)
              clear hK K hHeld
              have hHeld := hH2
              clear hH2
              try simp only [Act.put, List.setIfInBounds_toArray, List.set_cons_zero, List.set_cons_succ]
              refine wpAnyH_ready (rs := [15]) (by kernel_rfl) (by simp) ?_
              refine AllReadyH.cons (o := ({ dst := some 67, op := Op.call { callee := Callee.value (Operand.func 43), args := #[Operand.tmp 64, Operand.tmp 66], argTypes := #[30, 22] }, type := 78, pos := "law.go:168", after := #[{ on := 12, ground := Ground.data }, { on := 14, ground := Ground.data }, { on := 12, ground := Ground.chain }, { on := 11, ground := Ground.guard }], guard := some (11, true) } : Oper)) rfl (fun K hK => ?_) AllReadyH.nil
              go_simp
              go_at_call 43
              refine (zero_yes _ gN tN pN (HN.out.1.later HM.out.2.1) wN.heap.size k HM.out.1 hk67 h64).mono ?_
              rintro e wZ ⟨cZ, rfl, hbZ⟩
              have HZ := hid (belw HM.out.2.2 hbZ)
              clear hbZ
              refine hK.out _ _ trivial (fun hH2 => ?_)
              clear hK K hHeld
              have hHeld := hH2
              clear hH2
              try simp only [Act.put, List.setIfInBounds_toArray, List.set_cons_zero, List.set_cons_succ]
              refine wpAnyH_take (i := 16) (oi := ({ dst := some 68, op := Op.binOp BinOp.neq 78 (Operand.tmp 67) (Operand.const (Value.pointer none)) 78, type := 4, pos := "law.go:168", after := #[{ on := 15, ground := Ground.data }, { on := 11, ground := Ground.guard }], guard := some (11, true) } : Oper)) (v := ?_) rfl (by kernel_rfl) (by kernel_rfl) (by kernel_rfl) (fun _ _ _ h => h) (Or.inl ⟨by kernel_rfl, ?_⟩) (by assumption) ?_
              rotate_left
              · intro w hSw
                try dsimp only at hSw
                go_simp
                try with_reducible rfl
              try simp only [Act.put, List.setIfInBounds_toArray, List.set_cons_zero, List.set_cons_succ]
              refine wpAnyH_take (i := 19) (oi := ({ dst := some 71, op := Op.binOp BinOp.eql 4 (Operand.tmp 68) (Operand.tmp 70) 4, type := 4, pos := "law.go:168", after := #[{ on := 16, ground := Ground.data }, { on := 18, ground := Ground.data }, { on := 11, ground := Ground.guard }], guard := some (11, true) } : Oper)) (v := ?_) rfl (by kernel_rfl) (by kernel_rfl) (by kernel_rfl) (fun _ _ _ h => h) (Or.inl ⟨by kernel_rfl, ?_⟩) (by assumption) ?_
              rotate_left
              · intro w hSw
                try dsimp only at hSw
                go_simp
                try with_reducible rfl
              try simp only [Act.put, List.setIfInBounds_toArray, List.set_cons_zero, List.set_cons_succ]
              refine wpAnyH_take (i := 20) (oi := ({ dst := some 72, op := Op.pick (Operand.tmp 63) (Operand.tmp 71) (Operand.const (Value.bool false)), type := 4, pos := "law.go:168", after := #[{ on := 11, ground := Ground.data }, { on := 19, ground := Ground.data }], guard := none } : Oper)) (v := ?_) rfl (by kernel_rfl) (by kernel_rfl) (by kernel_rfl) (fun _ _ _ h => h) (Or.inl ⟨by kernel_rfl, ?_⟩) (by assumption) ?_
              rotate_left
              · intro w hSw
                try dsimp only at hSw
                go_simp
                try with_reducible rfl
              try simp only [Act.put, List.setIfInBounds_toArray, List.set_cons_zero, List.set_cons_succ]
              refine wpAnyH_take (i := 21) (oi := ({ dst := some 73, op := Op.move (Operand.tmp 72), type := 4, pos := "law.go:168", after := #[{ on := 20, ground := Ground.data }, { on := 15, ground := Ground.chain }], guard := none } : Oper)) (v := ?_) rfl (by kernel_rfl) (by kernel_rfl) (by kernel_rfl) (fun _ _ _ h => h) (Or.inl ⟨by kernel_rfl, ?_⟩) (by assumption) ?_
              rotate_left
              · intro w hSw
                try dsimp only at hSw
                go_simp
                try with_reducible rfl
              try simp only [Act.put, List.setIfInBounds_toArray, List.set_cons_zero, List.set_cons_succ]
              refine wpAnyH_take (i := 22) (oi := ({ dst := some 74, op := Op.move (Operand.tmp 8), type := 4, pos := "law.go:168", after := #[{ on := 21, ground := Ground.guard }], guard := some (21, true) } : Oper)) (v := ?_) rfl (by kernel_rfl) (by kernel_rfl) (by kernel_rfl) (fun _ _ _ h => h) (Or.inl ⟨by kernel_rfl, ?_⟩) (by assumption) ?_
              rotate_left
              · intro w hSw
                try dsimp only at hSw
                go_simp
                try with_reducible rfl
              try simp only [Act.put, List.setIfInBounds_toArray, List.set_cons_zero, List.set_cons_succ]
              refine wpAnyH_take (i := 23) (oi := ({ dst := some 75, op := Op.move (Operand.tmp 74), type := 4, pos := "law.go:168", after := #[{ on := 22, ground := Ground.data }, { on := 21, ground := Ground.chain }, { on := 21, ground := Ground.guard }], guard := some (21, true) } : Oper)) (v := ?_) rfl (by kernel_rfl) (by kernel_rfl) (by kernel_rfl) (fun _ _ _ h => h) (Or.inl ⟨by kernel_rfl, ?_⟩) (by assumption) ?_
              rotate_left
              · intro w hSw
                try dsimp only at hSw
                go_simp
                try with_reducible rfl
              try simp only [Act.put, List.setIfInBounds_toArray, List.set_cons_zero, List.set_cons_succ]
              refine wpAnyH_take (i := 24) (oi := ({ dst := some 76, op := Op.move (Operand.tmp 10), type := 78, pos := "law.go:168", after := #[{ on := 23, ground := Ground.guard }], guard := some (23, false) } : Oper)) (v := undef) rfl (by kernel_rfl) (by kernel_rfl) (by kernel_rfl) (fun _ _ _ h => h) (Or.inr ⟨by kernel_rfl, rfl⟩) (by assumption) ?_
              try simp only [Act.put, List.setIfInBounds_toArray, List.set_cons_zero, List.set_cons_succ]
              refine wpAnyH_take (i := 25) (oi := ({ dst := some 77, op := Op.call { callee := Callee.value (Operand.func 48), args := #[Operand.tmp 76], argTypes := #[78] }, type := 4, pos := "law.go:168", after := #[{ on := 24, ground := Ground.data }, { on := 23, ground := Ground.chain }, { on := 23, ground := Ground.guard }], guard := some (23, false) } : Oper)) (v := undef) rfl (by kernel_rfl) (by kernel_rfl) (by kernel_rfl) (fun _ _ _ h => h) (Or.inr ⟨by kernel_rfl, rfl⟩) (by assumption) ?_
              try simp only [Act.put, List.setIfInBounds_toArray, List.set_cons_zero, List.set_cons_succ]
              refine wpAnyH_take (i := 26) (oi := ({ dst := some 78, op := Op.unOp UnOp.not 4 (Operand.tmp 77), type := 4, pos := "law.go:168", after := #[{ on := 25, ground := Ground.data }, { on := 23, ground := Ground.guard }], guard := some (23, false) } : Oper)) (v := undef) rfl (by kernel_rfl) (by kernel_rfl) (by kernel_rfl) (fun _ _ _ h => h) (Or.inr ⟨by kernel_rfl, rfl⟩) (by assumption) ?_
              try simp only [Act.put, List.setIfInBounds_toArray, List.set_cons_zero, List.set_cons_succ]
              refine wpAnyH_take (i := 27) (oi := ({ dst := some 79, op := Op.move (Operand.tmp 78), type := 4, pos := "law.go:168", after := #[{ on := 26, ground := Ground.data }, { on := 25, ground := Ground.chain }, { on := 23, ground := Ground.guard }], guard := some (23, false) } : Oper)) (v := undef) rfl (by kernel_rfl) (by kernel_rfl) (by kernel_rfl) (fun _ _ _ h => h) (Or.inr ⟨by kernel_rfl, rfl⟩) (by assumption) ?_
              try simp only [Act.put, List.setIfInBounds_toArray, List.set_cons_zero, List.set_cons_succ]
              refine wpAnyH_take (i := 28) (oi := ({ dst := some 80, op := Op.move (Operand.tmp 10), type := 78, pos := "law.go:168", after := #[{ on := 27, ground := Ground.guard }], guard := some (27, true) } : Oper)) (v := undef) rfl (by kernel_rfl) (by kernel_rfl) (by kernel_rfl) (fun _ _ _ h => h) (Or.inr ⟨by kernel_rfl, rfl⟩) (by assumption) ?_
              try simp only [Act.put, List.setIfInBounds_toArray, List.set_cons_zero, List.set_cons_succ]
              refine wpAnyH_take (i := 29) (oi := ({ dst := some 81, op := Op.call { callee := Callee.value (Operand.func 49), args := #[Operand.tmp 80, Operand.const (Value.int IntKind.i64 0)], argTypes := #[78, 3] }, type := 22, pos := "law.go:168", after := #[{ on := 28, ground := Ground.data }, { on := 27, ground := Ground.chain }, { on := 27, ground := Ground.guard }], guard := some (27, true) } : Oper)) (v := undef) rfl (by kernel_rfl) (by kernel_rfl) (by kernel_rfl) (fun _ _ _ h => h) (Or.inr ⟨by kernel_rfl, rfl⟩) (by assumption) ?_
              try simp only [Act.put, List.setIfInBounds_toArray, List.set_cons_zero, List.set_cons_succ]
              refine wpAnyH_take (i := 30) (oi := ({ dst := some 82, op := Op.call { callee := Callee.builtin Builtin.len, args := #[Operand.tmp 81], argTypes := #[22] }, type := 3, pos := "law.go:168", after := #[{ on := 29, ground := Ground.data }, { on := 27, ground := Ground.guard }], guard := some (27, true) } : Oper)) (v := undef) rfl (by kernel_rfl) (by kernel_rfl) (by kernel_rfl) (fun _ _ _ h => h) (Or.inr ⟨by kernel_rfl, rfl⟩) (by assumption) ?_
              try simp only [Act.put, List.setIfInBounds_toArray, List.set_cons_zero, List.set_cons_succ]
              refine wpAnyH_take (i := 31) (oi := ({ dst := some 83, op := Op.binOp BinOp.eql 3 (Operand.tmp 82) (Operand.const (Value.int IntKind.i64 0)) 3, type := 4, pos := "law.go:168", after := #[{ on := 30, ground := Ground.data }, { on := 27, ground := Ground.guard }], guard := some (27, true) } : Oper)) (v := undef) rfl (by kernel_rfl) (by kernel_rfl) (by kernel_rfl) (fun _ _ _ h => h) (Or.inr ⟨by kernel_rfl, rfl⟩) (by assumption) ?_
              try simp only [Act.put, List.setIfInBounds_toArray, List.set_cons_zero, List.set_cons_succ]
              refine wpAnyH_take (i := 32) (oi := ({ dst := some 84, op := Op.pick (Operand.tmp 79) (Operand.tmp 83) (Operand.const (Value.bool false)), type := 4, pos := "law.go:168", after := #[{ on := 27, ground := Ground.data }, { on := 31, ground := Ground.data }, { on := 23, ground := Ground.guard }], guard := some (23, false) } : Oper)) (v := undef) rfl (by kernel_rfl) (by kernel_rfl) (by kernel_rfl) (fun _ _ _ h => h) (Or.inr ⟨by kernel_rfl, rfl⟩) (by assumption) ?_
              try simp only [Act.put, List.setIfInBounds_toArray, List.set_cons_zero, List.set_cons_succ]
              refine wpAnyH_take (i := 33) (oi := ({ dst := some 85, op := Op.move (Operand.tmp 84), type := 4, pos := "law.go:168", after := #[{ on := 32, ground := Ground.data }, { on := 29, ground := Ground.chain }, { on := 23, ground := Ground.guard }], guard := some (23, false) } : Oper)) (v := undef) rfl (by kernel_rfl) (by kernel_rfl) (by kernel_rfl) (fun _ _ _ h => h) (Or.inr ⟨by kernel_rfl, rfl⟩) (by assumption) ?_
              try simp only [Act.put, List.setIfInBounds_toArray, List.set_cons_zero, List.set_cons_succ]
              refine wpAnyH_take (i := 34) (oi := ({ dst := some 86, op := Op.move (Operand.tmp 10), type := 78, pos := "law.go:168", after := #[{ on := 33, ground := Ground.guard }], guard := some (33, true) } : Oper)) (v := undef) rfl (by kernel_rfl) (by kernel_rfl) (by kernel_rfl) (fun _ _ _ h => h) (Or.inr ⟨by kernel_rfl, rfl⟩) (by assumption) ?_
              try simp only [Act.put, List.setIfInBounds_toArray, List.set_cons_zero, List.set_cons_succ]
              refine wpAnyH_take (i := 35) (oi := ({ dst := some 87, op := Op.call { callee := Callee.value (Operand.func 45), args := #[Operand.tmp 86, Operand.const (Value.int IntKind.i64 0)], argTypes := #[78, 3] }, type := 4, pos := "law.go:168", after := #[{ on := 34, ground := Ground.data }, { on := 33, ground := Ground.chain }, { on := 33, ground := Ground.guard }], guard := some (33, true) } : Oper)) (v := undef) rfl (by kernel_rfl) (by kernel_rfl) (by kernel_rfl) (fun _ _ _ h => h) (Or.inr ⟨by kernel_rfl, rfl⟩) (by assumption) ?_
              try simp only [Act.put, List.setIfInBounds_toArray, List.set_cons_zero, List.set_cons_succ]
              refine wpAnyH_take (i := 36) (oi := ({ dst := some 88, op := Op.unOp UnOp.not 4 (Operand.tmp 87), type := 4, pos := "law.go:168", after := #[{ on := 35, ground := Ground.data }, { on := 33, ground := Ground.guard }], guard := some (33, true) } : Oper)) (v := undef) rfl (by kernel_rfl) (by kernel_rfl) (by kernel_rfl) (fun _ _ _ h => h) (Or.inr ⟨by kernel_rfl, rfl⟩) (by assumption) ?_
              try simp only [Act.put, List.setIfInBounds_toArray, List.set_cons_zero, List.set_cons_succ]
              refine wpAnyH_take (i := 37) (oi := ({ dst := some 89, op := Op.pick (Operand.tmp 85) (Operand.tmp 88) (Operand.const (Value.bool false)), type := 4, pos := "law.go:168", after := #[{ on := 33, ground := Ground.data }, { on := 36, ground := Ground.data }, { on := 23, ground := Ground.guard }], guard := some (23, false) } : Oper)) (v := undef) rfl (by kernel_rfl) (by kernel_rfl) (by kernel_rfl) (fun _ _ _ h => h) (Or.inr ⟨by kernel_rfl, rfl⟩) (by assumption) ?_
              try simp only [Act.put, List.setIfInBounds_toArray, List.set_cons_zero, List.set_cons_succ]
              refine wpAnyH_take (i := 38) (oi := ({ dst := some 90, op := Op.pick (Operand.tmp 75) (Operand.const (Value.bool true)) (Operand.tmp 89), type := 4, pos := "law.go:168", after := #[{ on := 23, ground := Ground.data }, { on := 37, ground := Ground.data }, { on := 21, ground := Ground.guard }], guard := some (21, true) } : Oper)) (v := ?_) rfl (by kernel_rfl) (by kernel_rfl) (by kernel_rfl) (fun _ _ _ h => h) (Or.inl ⟨by kernel_rfl, ?_⟩) (by assumption) ?_
              rotate_left
              · intro w hSw
                try dsimp only at hSw
                go_simp
                try with_reducible rfl
              try simp only [Act.put, List.setIfInBounds_toArray, List.set_cons_zero, List.set_cons_succ]
              refine wpAnyH_take (i := 39) (oi := ({ dst := some 91, op := Op.pick (Operand.tmp 73) (Operand.tmp 90) (Operand.const (Value.bool false)), type := 4, pos := "law.go:168", after := #[{ on := 21, ground := Ground.data }, { on := 38, ground := Ground.data }], guard := none } : Oper)) (v := ?_) rfl (by kernel_rfl) (by kernel_rfl) (by kernel_rfl) (fun _ _ _ h => h) (Or.inl ⟨by kernel_rfl, ?_⟩) (by assumption) ?_
              rotate_left
              · intro w hSw
                try dsimp only at hSw
                go_simp
                try with_reducible rfl
              try simp only [Act.put, List.setIfInBounds_toArray, List.set_cons_zero, List.set_cons_succ]
              refine wpAnyH_take (i := 40) (oi := ({ dst := some 6, op := Op.assign (Operand.tmp 91), type := 4, pos := "law.go:168", after := #[{ on := 39, ground := Ground.data }, { on := 35, ground := Ground.chain }, { on := 0, ground := Ground.phase }, { on := 1, ground := Ground.phase }, { on := 2, ground := Ground.phase }, { on := 3, ground := Ground.phase }, { on := 4, ground := Ground.phase }, { on := 5, ground := Ground.phase }, { on := 6, ground := Ground.phase }, { on := 7, ground := Ground.phase }, { on := 8, ground := Ground.phase }, { on := 9, ground := Ground.phase }, { on := 10, ground := Ground.phase }, { on := 11, ground := Ground.phase }, { on := 12, ground := Ground.phase }, { on := 13, ground := Ground.phase }, { on := 14, ground := Ground.phase }, { on := 15, ground := Ground.phase }, { on := 16, ground := Ground.phase }, { on := 17, ground := Ground.phase }, { on := 18, ground := Ground.phase }, { on := 19, ground := Ground.phase }, { on := 20, ground := Ground.phase }, { on := 21, ground := Ground.phase }, { on := 22, ground := Ground.phase }, { on := 23, ground := Ground.phase }, { on := 24, ground := Ground.phase }, { on := 25, ground := Ground.phase }, { on := 26, ground := Ground.phase }, { on := 27, ground := Ground.phase }, { on := 28, ground := Ground.phase }, { on := 29, ground := Ground.phase }, { on := 30, ground := Ground.phase }, { on := 31, ground := Ground.phase }, { on := 32, ground := Ground.phase }, { on := 33, ground := Ground.phase }, { on := 34, ground := Ground.phase }, { on := 35, ground := Ground.phase }, { on := 36, ground := Ground.phase }, { on := 37, ground := Ground.phase }, { on := 38, ground := Ground.phase }, { on := 39, ground := Ground.phase }], guard := none } : Oper)) (v := ?_) rfl (by kernel_rfl) (by kernel_rfl) (by kernel_rfl) (fun _ _ _ h => h) (Or.inl ⟨by kernel_rfl, ?_⟩) (by assumption) ?_
              rotate_left
              · intro w hSw
                try dsimp only at hSw
                go_simp
                try with_reducible rfl
              try simp only [Act.put, List.setIfInBounds_toArray, List.set_cons_zero, List.set_cons_succ]
              refine wpAnyH_done (by kernel_rfl) ?_ _
              go_wp2_with fail
              go_ret
              exact ⟨rfl, belw H5.out.2.2.2.1 HZ.out⟩
            · refine AllReadyH.cons (o := ({ dst := some 66, op := Op.makeSlice 22 (Operand.tmp 65) (Operand.tmp 65), type := 22, pos := "law.go:168", after := #[{ on := 13, ground := Ground.data }, { on := 13, ground := Ground.data }, { on := 11, ground := Ground.guard }], guard := some (11, true) } : Oper)) rfl (fun K hK => ?_) AllReadyH.nil
              refine step_make_g _ (by kernel_rfl) _ _ _ rfl 3 i3 _ Try.underlying22 hi3 x0 x1 rfl k (by go_simp) (by go_simp) (by rw [x2]; omega) (by omega) ?_
              intro wM hbk hkM
              have HM := hid (And.intro hbk (And.intro (hkM.to_below (Nat.le_refl _) (fun k hk => hk.elim)) (belw Hb7.out (hkM.to_below (Nat.le_refl _) (fun k hk => hk.elim)))))
              clear hbk hkM
              refine hK.out _ _ trivial (fun hH2 => ?_)
              clear hK K hHeld
              have hHeld := hH2
              clear hH2
              try simp only [Act.put, List.setIfInBounds_toArray, List.set_cons_zero, List.set_cons_succ]
              have HMl := hid HM.out.2.2
              refine wpAnyH_ready (rs := [12]) (by kernel_rfl) (by simp) ?_
              refine AllReadyH.cons (o := ({ dst := some 64, op := Op.call { callee := Callee.value (Operand.func 50), args := #[], argTypes := #[] }, type := 30, pos := "law.go:168", after := #[{ on := 11, ground := Ground.chain }, { on := 11, ground := Ground.guard }], guard := some (11, true) } : Oper)) rfl (fun K hK => ?_) AllReadyH.nil
              go_simp
              go_at_call 50
              refine (nested17_calls _).mono ?_
              rintro e wN ⟨gN, tN, pN, rfl, hGN, hbN⟩
              have HN := hid (And.intro hGN (And.intro hbN (belw HMl.out hbN)))
              clear hGN hbN
              refine hK.out _ _ trivial (fun hH2 => ?_)
              clear hK K hHeld
              have hHeld := hH2
              clear hH2
              try simp only [Act.put, List.setIfInBounds_toArray, List.set_cons_zero, List.set_cons_succ]
              refine wpAnyH_ready (rs := [15]) (by kernel_rfl) (by simp) ?_
              refine AllReadyH.cons (o := ({ dst := some 67, op := Op.call { callee := Callee.value (Operand.func 43), args := #[Operand.tmp 64, Operand.tmp 66], argTypes := #[30, 22] }, type := 78, pos := "law.go:168", after := #[{ on := 12, ground := Ground.data }, { on := 14, ground := Ground.data }, { on := 12, ground := Ground.chain }, { on := 11, ground := Ground.guard }], guard := some (11, true) } : Oper)) rfl (fun K hK => ?_) AllReadyH.nil
              go_simp
              go_at_call 43
              refine (zero_yes _ gN tN pN HN.out.1 _ k (HM.out.1.below HN.out.2.1 HM.out.1.lt) hk67 h64).mono ?_
              rintro e wZ ⟨cZ, rfl, hbZ⟩
              have HZ := hid (belw HN.out.2.2 hbZ)
              clear hbZ
              refine hK.out _ _ trivial (fun hH2 => ?_)
              clear hK K hHeld
              have hHeld := hH2
              clear hH2
              try simp only [Act.put, List.setIfInBounds_toArray, List.set_cons_zero, List.set_cons_succ]
              refine wpAnyH_take (i := 16) (oi := ({ dst := some 68, op := Op.binOp BinOp.neq 78 (Operand.tmp 67) (Operand.const (Value.pointer none)) 78, type := 4, pos := "law.go:168", after := #[{ on := 15, ground := Ground.data }, { on := 11, ground := Ground.guard }], guard := some (11, true) } : Oper)) (v := ?_) rfl (by kernel_rfl) (by kernel_rfl) (by kernel_rfl) (fun _ _ _ h => h) (Or.inl ⟨by kernel_rfl, ?_⟩) (by assumption) ?_
              rotate_left
              · intro w hSw
                try dsimp only at hSw
                go_simp
                try with_reducible rfl
              try simp only [Act.put, List.setIfInBounds_toArray, List.set_cons_zero, List.set_cons_succ]
              refine wpAnyH_take (i := 19) (oi := ({ dst := some 71, op := Op.binOp BinOp.eql 4 (Operand.tmp 68) (Operand.tmp 70) 4, type := 4, pos := "law.go:168", after := #[{ on := 16, ground := Ground.data }, { on := 18, ground := Ground.data }, { on := 11, ground := Ground.guard }], guard := some (11, true) } : Oper)) (v := ?_) rfl (by kernel_rfl) (by kernel_rfl) (by kernel_rfl) (fun _ _ _ h => h) (Or.inl ⟨by kernel_rfl, ?_⟩) (by assumption) ?_
              rotate_left
              · intro w hSw
                try dsimp only at hSw
                go_simp
                try with_reducible rfl
              try simp only [Act.put, List.setIfInBounds_toArray, List.set_cons_zero, List.set_cons_succ]
              refine wpAnyH_take (i := 20) (oi := ({ dst := some 72, op := Op.pick (Operand.tmp 63) (Operand.tmp 71) (Operand.const (Value.bool false)), type := 4, pos := "law.go:168", after := #[{ on := 11, ground := Ground.data }, { on := 19, ground := Ground.data }], guard := none } : Oper)) (v := ?_) rfl (by kernel_rfl) (by kernel_rfl) (by kernel_rfl) (fun _ _ _ h => h) (Or.inl ⟨by kernel_rfl, ?_⟩) (by assumption) ?_
              rotate_left
              · intro w hSw
                try dsimp only at hSw
                go_simp
                try with_reducible rfl
              try simp only [Act.put, List.setIfInBounds_toArray, List.set_cons_zero, List.set_cons_succ]
              refine wpAnyH_take (i := 21) (oi := ({ dst := some 73, op := Op.move (Operand.tmp 72), type := 4, pos := "law.go:168", after := #[{ on := 20, ground := Ground.data }, { on := 15, ground := Ground.chain }], guard := none } : Oper)) (v := ?_) rfl (by kernel_rfl) (by kernel_rfl) (by kernel_rfl) (fun _ _ _ h => h) (Or.inl ⟨by kernel_rfl, ?_⟩) (by assumption) ?_
              rotate_left
              · intro w hSw
                try dsimp only at hSw
                go_simp
                try with_reducible rfl
              try simp only [Act.put, List.setIfInBounds_toArray, List.set_cons_zero, List.set_cons_succ]
              refine wpAnyH_take (i := 22) (oi := ({ dst := some 74, op := Op.move (Operand.tmp 8), type := 4, pos := "law.go:168", after := #[{ on := 21, ground := Ground.guard }], guard := some (21, true) } : Oper)) (v := ?_) rfl (by kernel_rfl) (by kernel_rfl) (by kernel_rfl) (fun _ _ _ h => h) (Or.inl ⟨by kernel_rfl, ?_⟩) (by assumption) ?_
              rotate_left
              · intro w hSw
                try dsimp only at hSw
                go_simp
                try with_reducible rfl
              try simp only [Act.put, List.setIfInBounds_toArray, List.set_cons_zero, List.set_cons_succ]
              refine wpAnyH_take (i := 23) (oi := ({ dst := some 75, op := Op.move (Operand.tmp 74), type := 4, pos := "law.go:168", after := #[{ on := 22, ground := Ground.data }, { on := 21, ground := Ground.chain }, { on := 21, ground := Ground.guard }], guard := some (21, true) } : Oper)) (v := ?_) rfl (by kernel_rfl) (by kernel_rfl) (by kernel_rfl) (fun _ _ _ h => h) (Or.inl ⟨by kernel_rfl, ?_⟩) (by assumption) ?_
              rotate_left
              · intro w hSw
                try dsimp only at hSw
                go_simp
                try with_reducible rfl
              try simp only [Act.put, List.setIfInBounds_toArray, List.set_cons_zero, List.set_cons_succ]
              refine wpAnyH_take (i := 24) (oi := ({ dst := some 76, op := Op.move (Operand.tmp 10), type := 78, pos := "law.go:168", after := #[{ on := 23, ground := Ground.guard }], guard := some (23, false) } : Oper)) (v := undef) rfl (by kernel_rfl) (by kernel_rfl) (by kernel_rfl) (fun _ _ _ h => h) (Or.inr ⟨by kernel_rfl, rfl⟩) (by assumption) ?_
              try simp only [Act.put, List.setIfInBounds_toArray, List.set_cons_zero, List.set_cons_succ]
              refine wpAnyH_take (i := 25) (oi := ({ dst := some 77, op := Op.call { callee := Callee.value (Operand.func 48), args := #[Operand.tmp 76], argTypes := #[78] }, type := 4, pos := "law.go:168", after := #[{ on := 24, ground := Ground.data }, { on := 23, ground := Ground.chain }, { on := 23, ground := Ground.guard }], guard := some (23, false) } : Oper)) (v := undef) rfl (by kernel_rfl) (by kernel_rfl) (by kernel_rfl) (fun _ _ _ h => h) (Or.inr ⟨by kernel_rfl, rfl⟩) (by assumption) ?_
              try simp only [Act.put, List.setIfInBounds_toArray, List.set_cons_zero, List.set_cons_succ]
              refine wpAnyH_take (i := 26) (oi := ({ dst := some 78, op := Op.unOp UnOp.not 4 (Operand.tmp 77), type := 4, pos := "law.go:168", after := #[{ on := 25, ground := Ground.data }, { on := 23, ground := Ground.guard }], guard := some (23, false) } : Oper)) (v := undef) rfl (by kernel_rfl) (by kernel_rfl) (by kernel_rfl) (fun _ _ _ h => h) (Or.inr ⟨by kernel_rfl, rfl⟩) (by assumption) ?_
              try simp only [Act.put, List.setIfInBounds_toArray, List.set_cons_zero, List.set_cons_succ]
              refine wpAnyH_take (i := 27) (oi := ({ dst := some 79, op := Op.move (Operand.tmp 78), type := 4, pos := "law.go:168", after := #[{ on := 26, ground := Ground.data }, { on := 25, ground := Ground.chain }, { on := 23, ground := Ground.guard }], guard := some (23, false) } : Oper)) (v := undef) rfl (by kernel_rfl) (by kernel_rfl) (by kernel_rfl) (fun _ _ _ h => h) (Or.inr ⟨by kernel_rfl, rfl⟩) (by assumption) ?_
              try simp only [Act.put, List.setIfInBounds_toArray, List.set_cons_zero, List.set_cons_succ]
              refine wpAnyH_take (i := 28) (oi := ({ dst := some 80, op := Op.move (Operand.tmp 10), type := 78, pos := "law.go:168", after := #[{ on := 27, ground := Ground.guard }], guard := some (27, true) } : Oper)) (v := undef) rfl (by kernel_rfl) (by kernel_rfl) (by kernel_rfl) (fun _ _ _ h => h) (Or.inr ⟨by kernel_rfl, rfl⟩) (by assumption) ?_
              try simp only [Act.put, List.setIfInBounds_toArray, List.set_cons_zero, List.set_cons_succ]
              refine wpAnyH_take (i := 29) (oi := ({ dst := some 81, op := Op.call { callee := Callee.value (Operand.func 49), args := #[Operand.tmp 80, Operand.const (Value.int IntKind.i64 0)], argTypes := #[78, 3] }, type := 22, pos := "law.go:168", after := #[{ on := 28, ground := Ground.data }, { on := 27, ground := Ground.chain }, { on := 27, ground := Ground.guard }], guard := some (27, true) } : Oper)) (v := undef) rfl (by kernel_rfl) (by kernel_rfl) (by kernel_rfl) (fun _ _ _ h => h) (Or.inr ⟨by kernel_rfl, rfl⟩) (by assumption) ?_
              try simp only [Act.put, List.setIfInBounds_toArray, List.set_cons_zero, List.set_cons_succ]
              refine wpAnyH_take (i := 30) (oi := ({ dst := some 82, op := Op.call { callee := Callee.builtin Builtin.len, args := #[Operand.tmp 81], argTypes := #[22] }, type := 3, pos := "law.go:168", after := #[{ on := 29, ground := Ground.data }, { on := 27, ground := Ground.guard }], guard := some (27, true) } : Oper)) (v := undef) rfl (by kernel_rfl) (by kernel_rfl) (by kernel_rfl) (fun _ _ _ h => h) (Or.inr ⟨by kernel_rfl, rfl⟩) (by assumption) ?_
              try simp only [Act.put, List.setIfInBounds_toArray, List.set_cons_zero, List.set_cons_succ]
              refine wpAnyH_take (i := 31) (oi := ({ dst := some 83, op := Op.binOp BinOp.eql 3 (Operand.tmp 82) (Operand.const (Value.int IntKind.i64 0)) 3, type := 4, pos := "law.go:168", after := #[{ on := 30, ground := Ground.data }, { on := 27, ground := Ground.guard }], guard := some (27, true) } : Oper)) (v := undef) rfl (by kernel_rfl) (by kernel_rfl) (by kernel_rfl) (fun _ _ _ h => h) (Or.inr ⟨by kernel_rfl, rfl⟩) (by assumption) ?_
              try simp only [Act.put, List.setIfInBounds_toArray, List.set_cons_zero, List.set_cons_succ]
              refine wpAnyH_take (i := 32) (oi := ({ dst := some 84, op := Op.pick (Operand.tmp 79) (Operand.tmp 83) (Operand.const (Value.bool false)), type := 4, pos := "law.go:168", after := #[{ on := 27, ground := Ground.data }, { on := 31, ground := Ground.data }, { on := 23, ground := Ground.guard }], guard := some (23, false) } : Oper)) (v := undef) rfl (by kernel_rfl) (by kernel_rfl) (by kernel_rfl) (fun _ _ _ h => h) (Or.inr ⟨by kernel_rfl, rfl⟩) (by assumption) ?_
              try simp only [Act.put, List.setIfInBounds_toArray, List.set_cons_zero, List.set_cons_succ]
              refine wpAnyH_take (i := 33) (oi := ({ dst := some 85, op := Op.move (Operand.tmp 84), type := 4, pos := "law.go:168", after := #[{ on := 32, ground := Ground.data }, { on := 29, ground := Ground.chain }, { on := 23, ground := Ground.guard }], guard := some (23, false) } : Oper)) (v := undef) rfl (by kernel_rfl) (by kernel_rfl) (by kernel_rfl) (fun _ _ _ h => h) (Or.inr ⟨by kernel_rfl, rfl⟩) (by assumption) ?_
              try simp only [Act.put, List.setIfInBounds_toArray, List.set_cons_zero, List.set_cons_succ]
              refine wpAnyH_take (i := 34) (oi := ({ dst := some 86, op := Op.move (Operand.tmp 10), type := 78, pos := "law.go:168", after := #[{ on := 33, ground := Ground.guard }], guard := some (33, true) } : Oper)) (v := undef) rfl (by kernel_rfl) (by kernel_rfl) (by kernel_rfl) (fun _ _ _ h => h) (Or.inr ⟨by kernel_rfl, rfl⟩) (by assumption) ?_
              try simp only [Act.put, List.setIfInBounds_toArray, List.set_cons_zero, List.set_cons_succ]
              refine wpAnyH_take (i := 35) (oi := ({ dst := some 87, op := Op.call { callee := Callee.value (Operand.func 45), args := #[Operand.tmp 86, Operand.const (Value.int IntKind.i64 0)], argTypes := #[78, 3] }, type := 4, pos := "law.go:168", after := #[{ on := 34, ground := Ground.data }, { on := 33, ground := Ground.chain }, { on := 33, ground := Ground.guard }], guard := some (33, true) } : Oper)) (v := undef) rfl (by kernel_rfl) (by kernel_rfl) (by kernel_rfl) (fun _ _ _ h => h) (Or.inr ⟨by kernel_rfl, rfl⟩) (by assumption) ?_
              try simp only [Act.put, List.setIfInBounds_toArray, List.set_cons_zero, List.set_cons_succ]
              refine wpAnyH_take (i := 36) (oi := ({ dst := some 88, op := Op.unOp UnOp.not 4 (Operand.tmp 87), type := 4, pos := "law.go:168", after := #[{ on := 35, ground := Ground.data }, { on := 33, ground := Ground.guard }], guard := some (33, true) } : Oper)) (v := undef) rfl (by kernel_rfl) (by kernel_rfl) (by kernel_rfl) (fun _ _ _ h => h) (Or.inr ⟨by kernel_rfl, rfl⟩) (by assumption) ?_
              try simp only [Act.put, List.setIfInBounds_toArray, List.set_cons_zero, List.set_cons_succ]
              refine wpAnyH_take (i := 37) (oi := ({ dst := some 89, op := Op.pick (Operand.tmp 85) (Operand.tmp 88) (Operand.const (Value.bool false)), type := 4, pos := "law.go:168", after := #[{ on := 33, ground := Ground.data }, { on := 36, ground := Ground.data }, { on := 23, ground := Ground.guard }], guard := some (23, false) } : Oper)) (v := undef) rfl (by kernel_rfl) (by kernel_rfl) (by kernel_rfl) (fun _ _ _ h => h) (Or.inr ⟨by kernel_rfl, rfl⟩) (by assumption) ?_
              try simp only [Act.put, List.setIfInBounds_toArray, List.set_cons_zero, List.set_cons_succ]
              refine wpAnyH_take (i := 38) (oi := ({ dst := some 90, op := Op.pick (Operand.tmp 75) (Operand.const (Value.bool true)) (Operand.tmp 89), type := 4, pos := "law.go:168", after := #[{ on := 23, ground := Ground.data }, { on := 37, ground := Ground.data }, { on := 21, ground := Ground.guard }], guard := some (21, true) } : Oper)) (v := ?_) rfl (by kernel_rfl) (by kernel_rfl) (by kernel_rfl) (fun _ _ _ h => h) (Or.inl ⟨by kernel_rfl, ?_⟩) (by assumption) ?_
              rotate_left
              · intro w hSw
                try dsimp only at hSw
                go_simp
                try with_reducible rfl
              try simp only [Act.put, List.setIfInBounds_toArray, List.set_cons_zero, List.set_cons_succ]
              refine wpAnyH_take (i := 39) (oi := ({ dst := some 91, op := Op.pick (Operand.tmp 73) (Operand.tmp 90) (Operand.const (Value.bool false)), type := 4, pos := "law.go:168", after := #[{ on := 21, ground := Ground.data }, { on := 38, ground := Ground.data }], guard := none } : Oper)) (v := ?_) rfl (by kernel_rfl) (by kernel_rfl) (by kernel_rfl) (fun _ _ _ h => h) (Or.inl ⟨by kernel_rfl, ?_⟩) (by assumption) ?_
              rotate_left
              · intro w hSw
                try dsimp only at hSw
                go_simp
                try with_reducible rfl
              try simp only [Act.put, List.setIfInBounds_toArray, List.set_cons_zero, List.set_cons_succ]
              refine wpAnyH_take (i := 40) (oi := ({ dst := some 6, op := Op.assign (Operand.tmp 91), type := 4, pos := "law.go:168", after := #[{ on := 39, ground := Ground.data }, { on := 35, ground := Ground.chain }, { on := 0, ground := Ground.phase }, { on := 1, ground := Ground.phase }, { on := 2, ground := Ground.phase }, { on := 3, ground := Ground.phase }, { on := 4, ground := Ground.phase }, { on := 5, ground := Ground.phase }, { on := 6, ground := Ground.phase }, { on := 7, ground := Ground.phase }, { on := 8, ground := Ground.phase }, { on := 9, ground := Ground.phase }, { on := 10, ground := Ground.phase }, { on := 11, ground := Ground.phase }, { on := 12, ground := Ground.phase }, { on := 13, ground := Ground.phase }, { on := 14, ground := Ground.phase }, { on := 15, ground := Ground.phase }, { on := 16, ground := Ground.phase }, { on := 17, ground := Ground.phase }, { on := 18, ground := Ground.phase }, { on := 19, ground := Ground.phase }, { on := 20, ground := Ground.phase }, { on := 21, ground := Ground.phase }, { on := 22, ground := Ground.phase }, { on := 23, ground := Ground.phase }, { on := 24, ground := Ground.phase }, { on := 25, ground := Ground.phase }, { on := 26, ground := Ground.phase }, { on := 27, ground := Ground.phase }, { on := 28, ground := Ground.phase }, { on := 29, ground := Ground.phase }, { on := 30, ground := Ground.phase }, { on := 31, ground := Ground.phase }, { on := 32, ground := Ground.phase }, { on := 33, ground := Ground.phase }, { on := 34, ground := Ground.phase }, { on := 35, ground := Ground.phase }, { on := 36, ground := Ground.phase }, { on := 37, ground := Ground.phase }, { on := 38, ground := Ground.phase }, { on := 39, ground := Ground.phase }], guard := none } : Oper)) (v := ?_) rfl (by kernel_rfl) (by kernel_rfl) (by kernel_rfl) (fun _ _ _ h => h) (Or.inl ⟨by kernel_rfl, ?_⟩) (by assumption) ?_
              rotate_left
              · intro w hSw
                try dsimp only at hSw
                go_simp
                try with_reducible rfl
              try simp only [Act.put, List.setIfInBounds_toArray, List.set_cons_zero, List.set_cons_succ]
              refine wpAnyH_done (by kernel_rfl) ?_ _
              go_wp2_with fail
              go_ret
              exact ⟨rfl, belw H5.out.2.2.2.1 HZ.out⟩
            -- E13 ok1
          · have h64I : ¬ (k : Int) ≤ 64 := by omega
            -- R13 ok0
            refine wp_region_held_drew (S := fun _ : World => True) (by kernel_rfl) trivial (fun hHeld => ?_)
            refine wpAnyH_take (i := 0) (oi := ({ dst := some 52, op := Op.move (Operand.tmp 10), type := 78, pos := "law.go:168", after := #[], guard := none } : Oper)) (v := ?_) rfl (by kernel_rfl) (by kernel_rfl) (by kernel_rfl) (fun _ _ _ h => h) (Or.inl ⟨by kernel_rfl, ?_⟩) (by assumption) ?_
            rotate_left
            · intro w hSw
              try dsimp only at hSw
              go_simp
              try with_reducible rfl
            try simp only [Act.put, List.setIfInBounds_toArray, List.set_cons_zero, List.set_cons_succ]
            refine wpAnyH_take (i := 1) (oi := ({ dst := some 53, op := Op.binOp BinOp.neq 78 (Operand.tmp 52) (Operand.const (Value.pointer none)) 78, type := 4, pos := "law.go:168", after := #[{ on := 0, ground := Ground.data }], guard := none } : Oper)) (v := ?_) rfl (by kernel_rfl) (by kernel_rfl) (by kernel_rfl) (fun _ _ _ h => h) (Or.inl ⟨by kernel_rfl, ?_⟩) (by assumption) ?_
            rotate_left
            · intro w hSw
              try dsimp only at hSw
              go_simp
              try with_reducible rfl
            try simp only [Act.put, List.setIfInBounds_toArray, List.set_cons_zero, List.set_cons_succ]
            refine wpAnyH_take (i := 2) (oi := ({ dst := some 54, op := Op.move (Operand.tmp 8), type := 4, pos := "law.go:168", after := #[], guard := none } : Oper)) (v := ?_) rfl (by kernel_rfl) (by kernel_rfl) (by kernel_rfl) (fun _ _ _ h => h) (Or.inl ⟨by kernel_rfl, ?_⟩) (by assumption) ?_
            rotate_left
            · intro w hSw
              try dsimp only at hSw
              go_simp
              try with_reducible rfl
            try simp only [Act.put, List.setIfInBounds_toArray, List.set_cons_zero, List.set_cons_succ]
            refine wpAnyH_take (i := 3) (oi := ({ dst := some 55, op := Op.binOp BinOp.eql 4 (Operand.tmp 53) (Operand.tmp 54) 4, type := 4, pos := "law.go:168", after := #[{ on := 1, ground := Ground.data }, { on := 2, ground := Ground.data }], guard := none } : Oper)) (v := ?_) rfl (by kernel_rfl) (by kernel_rfl) (by kernel_rfl) (fun _ _ _ h => h) (Or.inl ⟨by kernel_rfl, ?_⟩) (by assumption) ?_
            rotate_left
            · intro w hSw
              try dsimp only at hSw
              go_simp
              try with_reducible rfl
            try simp only [Act.put, List.setIfInBounds_toArray, List.set_cons_zero, List.set_cons_succ]
            refine wpAnyH_take (i := 4) (oi := ({ dst := some 56, op := Op.move (Operand.tmp 55), type := 4, pos := "law.go:168", after := #[{ on := 3, ground := Ground.data }], guard := none } : Oper)) (v := ?_) rfl (by kernel_rfl) (by kernel_rfl) (by kernel_rfl) (fun _ _ _ h => h) (Or.inl ⟨by kernel_rfl, ?_⟩) (by assumption) ?_
            rotate_left
            · intro w hSw
              try dsimp only at hSw
              go_simp
              try with_reducible rfl
            try simp only [Act.put, List.setIfInBounds_toArray, List.set_cons_zero, List.set_cons_succ]
            refine wpAnyH_take (i := 5) (oi := ({ dst := some 57, op := Op.move (Operand.tmp 10), type := 78, pos := "law.go:168", after := #[{ on := 4, ground := Ground.guard }], guard := some (4, true) } : Oper)) (v := ?_) rfl (by kernel_rfl) (by kernel_rfl) (by kernel_rfl) (fun _ _ _ h => h) (Or.inl ⟨by kernel_rfl, ?_⟩) (by assumption) ?_
            rotate_left
            · intro w hSw
              try dsimp only at hSw
              go_simp
              try with_reducible rfl
            try simp only [Act.put, List.setIfInBounds_toArray, List.set_cons_zero, List.set_cons_succ]
            refine wpAnyH_take (i := 8) (oi := ({ dst := some 60, op := Op.move (Operand.tmp 8), type := 4, pos := "law.go:168", after := #[{ on := 4, ground := Ground.guard }], guard := some (4, true) } : Oper)) (v := ?_) rfl (by kernel_rfl) (by kernel_rfl) (by kernel_rfl) (fun _ _ _ h => h) (Or.inl ⟨by kernel_rfl, ?_⟩) (by assumption) ?_
            rotate_left
            · intro w hSw
              try dsimp only at hSw
              go_simp
              try with_reducible rfl
            try simp only [Act.put, List.setIfInBounds_toArray, List.set_cons_zero, List.set_cons_succ]
            refine wpAnyH_ready (rs := [6]) (by kernel_rfl) (by simp) ?_
            refine AllReadyH.cons (o := ({ dst := some 58, op := Op.call { callee := Callee.value (Operand.func 47), args := #[Operand.tmp 57], argTypes := #[78] }, type := 3, pos := "law.go:168", after := #[{ on := 5, ground := Ground.data }, { on := 4, ground := Ground.chain }, { on := 4, ground := Ground.guard }], guard := some (4, true) } : Oper)) rfl (fun K hK => ?_) AllReadyH.nil
            go_simp
            go_at_call 47
            refine Hgood.out.mono ?_
            rintro e wg ⟨rfl, rfl⟩
            refine hK.out _ _ trivial (fun hH2 => ?_)
            clear hK K hHeld
            have hHeld := hH2
            clear hH2
            try simp only [Act.put, List.setIfInBounds_toArray, List.set_cons_zero, List.set_cons_succ]
            refine wpAnyH_take (i := 7) (oi := ({ dst := some 59, op := Op.binOp BinOp.geq 3 (Operand.tmp 58) (Operand.const (Value.int IntKind.i64 0)) 3, type := 4, pos := "law.go:168", after := #[{ on := 6, ground := Ground.data }, { on := 4, ground := Ground.guard }], guard := some (4, true) } : Oper)) (v := ?_) rfl (by kernel_rfl) (by kernel_rfl) (by kernel_rfl) (fun _ _ _ h => h) (Or.inl ⟨by kernel_rfl, ?_⟩) (by assumption) ?_
            rotate_left
            · intro w hSw
              try dsimp only at hSw
              go_simp
              try with_reducible rfl
            try simp only [Act.put, List.setIfInBounds_toArray, List.set_cons_zero, List.set_cons_succ]
            refine wpAnyH_take (i := 9) (oi := ({ dst := some 61, op := Op.binOp BinOp.eql 4 (Operand.tmp 59) (Operand.tmp 60) 4, type := 4, pos := "law.go:168", after := #[{ on := 7, ground := Ground.data }, { on := 8, ground := Ground.data }, { on := 4, ground := Ground.guard }], guard := some (4, true) } : Oper)) (v := ?_) rfl (by kernel_rfl) (by kernel_rfl) (by kernel_rfl) (fun _ _ _ h => h) (Or.inl ⟨by kernel_rfl, ?_⟩) (by assumption) ?_
            rotate_left
            · intro w hSw
              try dsimp only at hSw
              go_simp
              try with_reducible rfl
            try simp only [Act.put, List.setIfInBounds_toArray, List.set_cons_zero, List.set_cons_succ]
            refine wpAnyH_take (i := 10) (oi := ({ dst := some 62, op := Op.pick (Operand.tmp 56) (Operand.tmp 61) (Operand.const (Value.bool false)), type := 4, pos := "law.go:168", after := #[{ on := 4, ground := Ground.data }, { on := 9, ground := Ground.data }], guard := none } : Oper)) (v := ?_) rfl (by kernel_rfl) (by kernel_rfl) (by kernel_rfl) (fun _ _ _ h => h) (Or.inl ⟨by kernel_rfl, ?_⟩) (by assumption) ?_
            rotate_left
            · intro w hSw
              try dsimp only at hSw
              go_simp
              try with_reducible rfl
            try simp only [Act.put, List.setIfInBounds_toArray, List.set_cons_zero, List.set_cons_succ]
            refine wpAnyH_take (i := 11) (oi := ({ dst := some 63, op := Op.move (Operand.tmp 62), type := 4, pos := "law.go:168", after := #[{ on := 10, ground := Ground.data }, { on := 6, ground := Ground.chain }], guard := none } : Oper)) (v := ?_) rfl (by kernel_rfl) (by kernel_rfl) (by kernel_rfl) (fun _ _ _ h => h) (Or.inl ⟨by kernel_rfl, ?_⟩) (by assumption) ?_
            rotate_left
            · intro w hSw
              try dsimp only at hSw
              go_simp
              try with_reducible rfl
            try simp only [Act.put, List.setIfInBounds_toArray, List.set_cons_zero, List.set_cons_succ]
            refine wpAnyH_take (i := 13) (oi := ({ dst := some 65, op := Op.move (Operand.tmp 1), type := 3, pos := "law.go:168", after := #[{ on := 11, ground := Ground.guard }], guard := some (11, true) } : Oper)) (v := ?_) rfl (by kernel_rfl) (by kernel_rfl) (by kernel_rfl) (fun _ _ _ h => h) (Or.inl ⟨by kernel_rfl, ?_⟩) (by assumption) ?_
            rotate_left
            · intro w hSw
              try dsimp only at hSw
              go_simp
              try with_reducible rfl
            try simp only [Act.put, List.setIfInBounds_toArray, List.set_cons_zero, List.set_cons_succ]
            refine wpAnyH_take (i := 17) (oi := ({ dst := some 69, op := Op.move (Operand.tmp 1), type := 3, pos := "law.go:168", after := #[{ on := 11, ground := Ground.guard }], guard := some (11, true) } : Oper)) (v := ?_) rfl (by kernel_rfl) (by kernel_rfl) (by kernel_rfl) (fun _ _ _ h => h) (Or.inl ⟨by kernel_rfl, ?_⟩) (by assumption) ?_
            rotate_left
            · intro w hSw
              try dsimp only at hSw
              go_simp
              try with_reducible rfl
            try simp only [Act.put, List.setIfInBounds_toArray, List.set_cons_zero, List.set_cons_succ]
            refine wpAnyH_take (i := 18) (oi := ({ dst := some 70, op := Op.binOp BinOp.leq 3 (Operand.tmp 69) (Operand.const (Value.int IntKind.i64 64)) 3, type := 4, pos := "law.go:168", after := #[{ on := 17, ground := Ground.data }, { on := 11, ground := Ground.guard }], guard := some (11, true) } : Oper)) (v := ?_) rfl (by kernel_rfl) (by kernel_rfl) (by kernel_rfl) (fun _ _ _ h => h) (Or.inl ⟨by kernel_rfl, ?_⟩) (by assumption) ?_
            rotate_left
            · intro w hSw
              try dsimp only at hSw
              go_simp
              try with_reducible rfl
            try simp only [Act.put, List.setIfInBounds_toArray, List.set_cons_zero, List.set_cons_succ]
            refine wpAnyH_ready (rs := [12, 14]) (by kernel_rfl) (by simp) ?_
            refine AllReadyH.cons (o := ({ dst := some 64, op := Op.call { callee := Callee.value (Operand.func 50), args := #[], argTypes := #[] }, type := 30, pos := "law.go:168", after := #[{ on := 11, ground := Ground.chain }, { on := 11, ground := Ground.guard }], guard := some (11, true) } : Oper)) rfl (fun K hK => ?_) ?_
            · go_simp
              go_at_call 50
              refine (nested17_calls _).mono ?_
              rintro e wN ⟨gN, tN, pN, rfl, hGN, hbN⟩
              have HN := hid (And.intro hGN (And.intro hbN (belw Hb7.out hbN)))
              clear hGN hbN
              refine hK.out _ _ trivial (fun hH2 => ?_)
              clear hK K hHeld
              have hHeld := hH2
              clear hH2
              try simp only [Act.put, List.setIfInBounds_toArray, List.set_cons_zero, List.set_cons_succ]
              have HNl := hid HN.out.2.2
              refine wpAnyH_ready (rs := [14]) (by kernel_rfl) (by simp) ?_
              refine AllReadyH.cons (o := ({ dst := some 66, op := Op.makeSlice 22 (Operand.tmp 65) (Operand.tmp 65), type := 22, pos := "law.go:168", after := #[{ on := 13, ground := Ground.data }, { on := 13, ground := Ground.data }, { on := 11, ground := Ground.guard }], guard := some (11, true) } : Oper)) rfl (fun K hK => ?_) AllReadyH.nil
              refine step_make_g _ (by kernel_rfl) _ _ _ rfl 3 i3 _ Try.underlying22 hi3 x0 x1 rfl k (by go_simp) (by go_simp) (by rw [x2]; omega) (by omega) ?_
              intro wM hbk hkM
              have HM := hid (And.intro hbk (And.intro (hkM.to_below (Nat.le_refl _) (fun k hk => hk.elim)) (belw HNl.out (hkM.to_below (Nat.le_refl _) (fun k hk => hk.elim)))))
              clear hbk hkM
              refine hK.out _ _ trivial (fun hH2 => ?_)
              clear hK K hHeld
              have hHeld := hH2
              clear hH2
              try simp only [Act.put, List.setIfInBounds_toArray, List.set_cons_zero, List.set_cons_succ]
              refine wpAnyH_ready (rs := [15]) (by kernel_rfl) (by simp) ?_
              refine AllReadyH.cons (o := ({ dst := some 67, op := Op.call { callee := Callee.value (Operand.func 43), args := #[Operand.tmp 64, Operand.tmp 66], argTypes := #[30, 22] }, type := 78, pos := "law.go:168", after := #[{ on := 12, ground := Ground.data }, { on := 14, ground := Ground.data }, { on := 12, ground := Ground.chain }, { on := 11, ground := Ground.guard }], guard := some (11, true) } : Oper)) rfl (fun K hK => ?_) AllReadyH.nil
              go_simp
              go_at_call 43
              refine (zero_no _ gN tN pN (HN.out.1.later HM.out.2.1) wN.heap.size k HM.out.1 hk67 h64).mono ?_
              rintro e wZ ⟨rfl, hbZ⟩
              have HZ := hid (belw HM.out.2.2 hbZ)
              clear hbZ
              refine hK.out _ _ trivial (fun hH2 => ?_)
              clear hK K hHeld
              have hHeld := hH2
              clear hH2
              try simp only [Act.put, List.setIfInBounds_toArray, List.set_cons_zero, List.set_cons_succ]
              refine wpAnyH_take (i := 16) (oi := ({ dst := some 68, op := Op.binOp BinOp.neq 78 (Operand.tmp 67) (Operand.const (Value.pointer none)) 78, type := 4, pos := "law.go:168", after := #[{ on := 15, ground := Ground.data }, { on := 11, ground := Ground.guard }], guard := some (11, true) } : Oper)) (v := ?_) rfl (by kernel_rfl) (by kernel_rfl) (by kernel_rfl) (fun _ _ _ h => h) (Or.inl ⟨by kernel_rfl, ?_⟩) (by assumption) ?_
              rotate_left
              · intro w hSw
                try dsimp only at hSw
                go_simp
                try with_reducible rfl
              try simp only [Act.put, List.setIfInBounds_toArray, List.set_cons_zero, List.set_cons_succ]
              refine wpAnyH_take (i := 19) (oi := ({ dst := some 71, op := Op.binOp BinOp.eql 4 (Operand.tmp 68) (Operand.tmp 70) 4, type := 4, pos := "law.go:168", after := #[{ on := 16, ground := Ground.data }, { on := 18, ground := Ground.data }, { on := 11, ground := Ground.guard }], guard := some (11, true) } : Oper)) (v := ?_) rfl (by kernel_rfl) (by kernel_rfl) (by kernel_rfl) (fun _ _ _ h => h) (Or.inl ⟨by kernel_rfl, ?_⟩) (by assumption) ?_
              rotate_left
              · intro w hSw
                try dsimp only at hSw
                go_simp
                try with_reducible rfl
              try simp only [Act.put, List.setIfInBounds_toArray, List.set_cons_zero, List.set_cons_succ]
              refine wpAnyH_take (i := 20) (oi := ({ dst := some 72, op := Op.pick (Operand.tmp 63) (Operand.tmp 71) (Operand.const (Value.bool false)), type := 4, pos := "law.go:168", after := #[{ on := 11, ground := Ground.data }, { on := 19, ground := Ground.data }], guard := none } : Oper)) (v := ?_) rfl (by kernel_rfl) (by kernel_rfl) (by kernel_rfl) (fun _ _ _ h => h) (Or.inl ⟨by kernel_rfl, ?_⟩) (by assumption) ?_
              rotate_left
              · intro w hSw
                try dsimp only at hSw
                go_simp
                try with_reducible rfl
              try simp only [Act.put, List.setIfInBounds_toArray, List.set_cons_zero, List.set_cons_succ]
              refine wpAnyH_take (i := 21) (oi := ({ dst := some 73, op := Op.move (Operand.tmp 72), type := 4, pos := "law.go:168", after := #[{ on := 20, ground := Ground.data }, { on := 15, ground := Ground.chain }], guard := none } : Oper)) (v := ?_) rfl (by kernel_rfl) (by kernel_rfl) (by kernel_rfl) (fun _ _ _ h => h) (Or.inl ⟨by kernel_rfl, ?_⟩) (by assumption) ?_
              rotate_left
              · intro w hSw
                try dsimp only at hSw
                go_simp
                try with_reducible rfl
              try simp only [Act.put, List.setIfInBounds_toArray, List.set_cons_zero, List.set_cons_succ]
              refine wpAnyH_take (i := 22) (oi := ({ dst := some 74, op := Op.move (Operand.tmp 8), type := 4, pos := "law.go:168", after := #[{ on := 21, ground := Ground.guard }], guard := some (21, true) } : Oper)) (v := ?_) rfl (by kernel_rfl) (by kernel_rfl) (by kernel_rfl) (fun _ _ _ h => h) (Or.inl ⟨by kernel_rfl, ?_⟩) (by assumption) ?_
              rotate_left
              · intro w hSw
                try dsimp only at hSw
                go_simp
                try with_reducible rfl
              try simp only [Act.put, List.setIfInBounds_toArray, List.set_cons_zero, List.set_cons_succ]
              refine wpAnyH_take (i := 23) (oi := ({ dst := some 75, op := Op.move (Operand.tmp 74), type := 4, pos := "law.go:168", after := #[{ on := 22, ground := Ground.data }, { on := 21, ground := Ground.chain }, { on := 21, ground := Ground.guard }], guard := some (21, true) } : Oper)) (v := ?_) rfl (by kernel_rfl) (by kernel_rfl) (by kernel_rfl) (fun _ _ _ h => h) (Or.inl ⟨by kernel_rfl, ?_⟩) (by assumption) ?_
              rotate_left
              · intro w hSw
                try dsimp only at hSw
                go_simp
                try with_reducible rfl
              try simp only [Act.put, List.setIfInBounds_toArray, List.set_cons_zero, List.set_cons_succ]
              refine wpAnyH_take (i := 24) (oi := ({ dst := some 76, op := Op.move (Operand.tmp 10), type := 78, pos := "law.go:168", after := #[{ on := 23, ground := Ground.guard }], guard := some (23, false) } : Oper)) (v := undef) rfl (by kernel_rfl) (by kernel_rfl) (by kernel_rfl) (fun _ _ _ h => h) (Or.inr ⟨by kernel_rfl, rfl⟩) (by assumption) ?_
              try simp only [Act.put, List.setIfInBounds_toArray, List.set_cons_zero, List.set_cons_succ]
              refine wpAnyH_take (i := 25) (oi := ({ dst := some 77, op := Op.call { callee := Callee.value (Operand.func 48), args := #[Operand.tmp 76], argTypes := #[78] }, type := 4, pos := "law.go:168", after := #[{ on := 24, ground := Ground.data }, { on := 23, ground := Ground.chain }, { on := 23, ground := Ground.guard }], guard := some (23, false) } : Oper)) (v := undef) rfl (by kernel_rfl) (by kernel_rfl) (by kernel_rfl) (fun _ _ _ h => h) (Or.inr ⟨by kernel_rfl, rfl⟩) (by assumption) ?_
              try simp only [Act.put, List.setIfInBounds_toArray, List.set_cons_zero, List.set_cons_succ]
              refine wpAnyH_take (i := 26) (oi := ({ dst := some 78, op := Op.unOp UnOp.not 4 (Operand.tmp 77), type := 4, pos := "law.go:168", after := #[{ on := 25, ground := Ground.data }, { on := 23, ground := Ground.guard }], guard := some (23, false) } : Oper)) (v := undef) rfl (by kernel_rfl) (by kernel_rfl) (by kernel_rfl) (fun _ _ _ h => h) (Or.inr ⟨by kernel_rfl, rfl⟩) (by assumption) ?_
              try simp only [Act.put, List.setIfInBounds_toArray, List.set_cons_zero, List.set_cons_succ]
              refine wpAnyH_take (i := 27) (oi := ({ dst := some 79, op := Op.move (Operand.tmp 78), type := 4, pos := "law.go:168", after := #[{ on := 26, ground := Ground.data }, { on := 25, ground := Ground.chain }, { on := 23, ground := Ground.guard }], guard := some (23, false) } : Oper)) (v := undef) rfl (by kernel_rfl) (by kernel_rfl) (by kernel_rfl) (fun _ _ _ h => h) (Or.inr ⟨by kernel_rfl, rfl⟩) (by assumption) ?_
              try simp only [Act.put, List.setIfInBounds_toArray, List.set_cons_zero, List.set_cons_succ]
              refine wpAnyH_take (i := 28) (oi := ({ dst := some 80, op := Op.move (Operand.tmp 10), type := 78, pos := "law.go:168", after := #[{ on := 27, ground := Ground.guard }], guard := some (27, true) } : Oper)) (v := undef) rfl (by kernel_rfl) (by kernel_rfl) (by kernel_rfl) (fun _ _ _ h => h) (Or.inr ⟨by kernel_rfl, rfl⟩) (by assumption) ?_
              try simp only [Act.put, List.setIfInBounds_toArray, List.set_cons_zero, List.set_cons_succ]
              refine wpAnyH_take (i := 29) (oi := ({ dst := some 81, op := Op.call { callee := Callee.value (Operand.func 49), args := #[Operand.tmp 80, Operand.const (Value.int IntKind.i64 0)], argTypes := #[78, 3] }, type := 22, pos := "law.go:168", after := #[{ on := 28, ground := Ground.data }, { on := 27, ground := Ground.chain }, { on := 27, ground := Ground.guard }], guard := some (27, true) } : Oper)) (v := undef) rfl (by kernel_rfl) (by kernel_rfl) (by kernel_rfl) (fun _ _ _ h => h) (Or.inr ⟨by kernel_rfl, rfl⟩) (by assumption) ?_
              try simp only [Act.put, List.setIfInBounds_toArray, List.set_cons_zero, List.set_cons_succ]
              refine wpAnyH_take (i := 30) (oi := ({ dst := some 82, op := Op.call { callee := Callee.builtin Builtin.len, args := #[Operand.tmp 81], argTypes := #[22] }, type := 3, pos := "law.go:168", after := #[{ on := 29, ground := Ground.data }, { on := 27, ground := Ground.guard }], guard := some (27, true) } : Oper)) (v := undef) rfl (by kernel_rfl) (by kernel_rfl) (by kernel_rfl) (fun _ _ _ h => h) (Or.inr ⟨by kernel_rfl, rfl⟩) (by assumption) ?_
              try simp only [Act.put, List.setIfInBounds_toArray, List.set_cons_zero, List.set_cons_succ]
              refine wpAnyH_take (i := 31) (oi := ({ dst := some 83, op := Op.binOp BinOp.eql 3 (Operand.tmp 82) (Operand.const (Value.int IntKind.i64 0)) 3, type := 4, pos := "law.go:168", after := #[{ on := 30, ground := Ground.data }, { on := 27, ground := Ground.guard }], guard := some (27, true) } : Oper)) (v := undef) rfl (by kernel_rfl) (by kernel_rfl) (by kernel_rfl) (fun _ _ _ h => h) (Or.inr ⟨by kernel_rfl, rfl⟩) (by assumption) ?_
              try simp only [Act.put, List.setIfInBounds_toArray, List.set_cons_zero, List.set_cons_succ]
              refine wpAnyH_take (i := 32) (oi := ({ dst := some 84, op := Op.pick (Operand.tmp 79) (Operand.tmp 83) (Operand.const (Value.bool false)), type := 4, pos := "law.go:168", after := #[{ on := 27, ground := Ground.data }, { on := 31, ground := Ground.data }, { on := 23, ground := Ground.guard }], guard := some (23, false) } : Oper)) (v := undef) rfl (by kernel_rfl) (by kernel_rfl) (by kernel_rfl) (fun _ _ _ h => h) (Or.inr ⟨by kernel_rfl, rfl⟩) (by assumption) ?_
              try simp only [Act.put, List.setIfInBounds_toArray, List.set_cons_zero, List.set_cons_succ]
              refine wpAnyH_take (i := 33) (oi := ({ dst := some 85, op := Op.move (Operand.tmp 84), type := 4, pos := "law.go:168", after := #[{ on := 32, ground := Ground.data }, { on := 29, ground := Ground.chain }, { on := 23, ground := Ground.guard }], guard := some (23, false) } : Oper)) (v := undef) rfl (by kernel_rfl) (by kernel_rfl) (by kernel_rfl) (fun _ _ _ h => h) (Or.inr ⟨by kernel_rfl, rfl⟩) (by assumption) ?_
              try simp only [Act.put, List.setIfInBounds_toArray, List.set_cons_zero, List.set_cons_succ]
              refine wpAnyH_take (i := 34) (oi := ({ dst := some 86, op := Op.move (Operand.tmp 10), type := 78, pos := "law.go:168", after := #[{ on := 33, ground := Ground.guard }], guard := some (33, true) } : Oper)) (v := undef) rfl (by kernel_rfl) (by kernel_rfl) (by kernel_rfl) (fun _ _ _ h => h) (Or.inr ⟨by kernel_rfl, rfl⟩) (by assumption) ?_
              try simp only [Act.put, List.setIfInBounds_toArray, List.set_cons_zero, List.set_cons_succ]
              refine wpAnyH_take (i := 35) (oi := ({ dst := some 87, op := Op.call { callee := Callee.value (Operand.func 45), args := #[Operand.tmp 86, Operand.const (Value.int IntKind.i64 0)], argTypes := #[78, 3] }, type := 4, pos := "law.go:168", after := #[{ on := 34, ground := Ground.data }, { on := 33, ground := Ground.chain }, { on := 33, ground := Ground.guard }], guard := some (33, true) } : Oper)) (v := undef) rfl (by kernel_rfl) (by kernel_rfl) (by kernel_rfl) (fun _ _ _ h => h) (Or.inr ⟨by kernel_rfl, rfl⟩) (by assumption) ?_
              try simp only [Act.put, List.setIfInBounds_toArray, List.set_cons_zero, List.set_cons_succ]
              refine wpAnyH_take (i := 36) (oi := ({ dst := some 88, op := Op.unOp UnOp.not 4 (Operand.tmp 87), type := 4, pos := "law.go:168", after := #[{ on := 35, ground := Ground.data }, { on := 33, ground := Ground.guard }], guard := some (33, true) } : Oper)) (v := undef) rfl (by kernel_rfl) (by kernel_rfl) (by kernel_rfl) (fun _ _ _ h => h) (Or.inr ⟨by kernel_rfl, rfl⟩) (by assumption) ?_
              try simp only [Act.put, List.setIfInBounds_toArray, List.set_cons_zero, List.set_cons_succ]
              refine wpAnyH_take (i := 37) (oi := ({ dst := some 89, op := Op.pick (Operand.tmp 85) (Operand.tmp 88) (Operand.const (Value.bool false)), type := 4, pos := "law.go:168", after := #[{ on := 33, ground := Ground.data }, { on := 36, ground := Ground.data }, { on := 23, ground := Ground.guard }], guard := some (23, false) } : Oper)) (v := undef) rfl (by kernel_rfl) (by kernel_rfl) (by kernel_rfl) (fun _ _ _ h => h) (Or.inr ⟨by kernel_rfl, rfl⟩) (by assumption) ?_
              try simp only [Act.put, List.setIfInBounds_toArray, List.set_cons_zero, List.set_cons_succ]
              refine wpAnyH_take (i := 38) (oi := ({ dst := some 90, op := Op.pick (Operand.tmp 75) (Operand.const (Value.bool true)) (Operand.tmp 89), type := 4, pos := "law.go:168", after := #[{ on := 23, ground := Ground.data }, { on := 37, ground := Ground.data }, { on := 21, ground := Ground.guard }], guard := some (21, true) } : Oper)) (v := ?_) rfl (by kernel_rfl) (by kernel_rfl) (by kernel_rfl) (fun _ _ _ h => h) (Or.inl ⟨by kernel_rfl, ?_⟩) (by assumption) ?_
              rotate_left
              · intro w hSw
                try dsimp only at hSw
                go_simp
                try with_reducible rfl
              try simp only [Act.put, List.setIfInBounds_toArray, List.set_cons_zero, List.set_cons_succ]
              refine wpAnyH_take (i := 39) (oi := ({ dst := some 91, op := Op.pick (Operand.tmp 73) (Operand.tmp 90) (Operand.const (Value.bool false)), type := 4, pos := "law.go:168", after := #[{ on := 21, ground := Ground.data }, { on := 38, ground := Ground.data }], guard := none } : Oper)) (v := ?_) rfl (by kernel_rfl) (by kernel_rfl) (by kernel_rfl) (fun _ _ _ h => h) (Or.inl ⟨by kernel_rfl, ?_⟩) (by assumption) ?_
              rotate_left
              · intro w hSw
                try dsimp only at hSw
                go_simp
                try with_reducible rfl
              try simp only [Act.put, List.setIfInBounds_toArray, List.set_cons_zero, List.set_cons_succ]
              refine wpAnyH_take (i := 40) (oi := ({ dst := some 6, op := Op.assign (Operand.tmp 91), type := 4, pos := "law.go:168", after := #[{ on := 39, ground := Ground.data }, { on := 35, ground := Ground.chain }, { on := 0, ground := Ground.phase }, { on := 1, ground := Ground.phase }, { on := 2, ground := Ground.phase }, { on := 3, ground := Ground.phase }, { on := 4, ground := Ground.phase }, { on := 5, ground := Ground.phase }, { on := 6, ground := Ground.phase }, { on := 7, ground := Ground.phase }, { on := 8, ground := Ground.phase }, { on := 9, ground := Ground.phase }, { on := 10, ground := Ground.phase }, { on := 11, ground := Ground.phase }, { on := 12, ground := Ground.phase }, { on := 13, ground := Ground.phase }, { on := 14, ground := Ground.phase }, { on := 15, ground := Ground.phase }, { on := 16, ground := Ground.phase }, { on := 17, ground := Ground.phase }, { on := 18, ground := Ground.phase }, { on := 19, ground := Ground.phase }, { on := 20, ground := Ground.phase }, { on := 21, ground := Ground.phase }, { on := 22, ground := Ground.phase }, { on := 23, ground := Ground.phase }, { on := 24, ground := Ground.phase }, { on := 25, ground := Ground.phase }, { on := 26, ground := Ground.phase }, { on := 27, ground := Ground.phase }, { on := 28, ground := Ground.phase }, { on := 29, ground := Ground.phase }, { on := 30, ground := Ground.phase }, { on := 31, ground := Ground.phase }, { on := 32, ground := Ground.phase }, { on := 33, ground := Ground.phase }, { on := 34, ground := Ground.phase }, { on := 35, ground := Ground.phase }, { on := 36, ground := Ground.phase }, { on := 37, ground := Ground.phase }, { on := 38, ground := Ground.phase }, { on := 39, ground := Ground.phase }], guard := none } : Oper)) (v := ?_) rfl (by kernel_rfl) (by kernel_rfl) (by kernel_rfl) (fun _ _ _ h => h) (Or.inl ⟨by kernel_rfl, ?_⟩) (by assumption) ?_
              rotate_left
              · intro w hSw
                try dsimp only at hSw
                go_simp
                try with_reducible rfl
              try simp only [Act.put, List.setIfInBounds_toArray, List.set_cons_zero, List.set_cons_succ]
              refine wpAnyH_done (by kernel_rfl) ?_ _
              go_wp2_with fail
              go_ret
              exact ⟨rfl, belw H5.out.2.2.2.1 HZ.out⟩
            · refine AllReadyH.cons (o := ({ dst := some 66, op := Op.makeSlice 22 (Operand.tmp 65) (Operand.tmp 65), type := 22, pos := "law.go:168", after := #[{ on := 13, ground := Ground.data }, { on := 13, ground := Ground.data }, { on := 11, ground := Ground.guard }], guard := some (11, true) } : Oper)) rfl (fun K hK => ?_) AllReadyH.nil
              refine step_make_g _ (by kernel_rfl) _ _ _ rfl 3 i3 _ Try.underlying22 hi3 x0 x1 rfl k (by go_simp) (by go_simp) (by rw [x2]; omega) (by omega) ?_
              intro wM hbk hkM
              have HM := hid (And.intro hbk (And.intro (hkM.to_below (Nat.le_refl _) (fun k hk => hk.elim)) (belw Hb7.out (hkM.to_below (Nat.le_refl _) (fun k hk => hk.elim)))))
              clear hbk hkM
              refine hK.out _ _ trivial (fun hH2 => ?_)
              clear hK K hHeld
              have hHeld := hH2
              clear hH2
              try simp only [Act.put, List.setIfInBounds_toArray, List.set_cons_zero, List.set_cons_succ]
              have HMl := hid HM.out.2.2
              refine wpAnyH_ready (rs := [12]) (by kernel_rfl) (by simp) ?_
              refine AllReadyH.cons (o := ({ dst := some 64, op := Op.call { callee := Callee.value (Operand.func 50), args := #[], argTypes := #[] }, type := 30, pos := "law.go:168", after := #[{ on := 11, ground := Ground.chain }, { on := 11, ground := Ground.guard }], guard := some (11, true) } : Oper)) rfl (fun K hK => ?_) AllReadyH.nil
              go_simp
              go_at_call 50
              refine (nested17_calls _).mono ?_
              rintro e wN ⟨gN, tN, pN, rfl, hGN, hbN⟩
              have HN := hid (And.intro hGN (And.intro hbN (belw HMl.out hbN)))
              clear hGN hbN
              refine hK.out _ _ trivial (fun hH2 => ?_)
              clear hK K hHeld
              have hHeld := hH2
              clear hH2
              try simp only [Act.put, List.setIfInBounds_toArray, List.set_cons_zero, List.set_cons_succ]
              refine wpAnyH_ready (rs := [15]) (by kernel_rfl) (by simp) ?_
              refine AllReadyH.cons (o := ({ dst := some 67, op := Op.call { callee := Callee.value (Operand.func 43), args := #[Operand.tmp 64, Operand.tmp 66], argTypes := #[30, 22] }, type := 78, pos := "law.go:168", after := #[{ on := 12, ground := Ground.data }, { on := 14, ground := Ground.data }, { on := 12, ground := Ground.chain }, { on := 11, ground := Ground.guard }], guard := some (11, true) } : Oper)) rfl (fun K hK => ?_) AllReadyH.nil
              go_simp
              go_at_call 43
              refine (zero_no _ gN tN pN HN.out.1 _ k (HM.out.1.below HN.out.2.1 HM.out.1.lt) hk67 h64).mono ?_
              rintro e wZ ⟨rfl, hbZ⟩
              have HZ := hid (belw HN.out.2.2 hbZ)
              clear hbZ
              refine hK.out _ _ trivial (fun hH2 => ?_)
              clear hK K hHeld
              have hHeld := hH2
              clear hH2
              try simp only [Act.put, List.setIfInBounds_toArray, List.set_cons_zero, List.set_cons_succ]
              refine wpAnyH_take (i := 16) (oi := ({ dst := some 68, op := Op.binOp BinOp.neq 78 (Operand.tmp 67) (Operand.const (Value.pointer none)) 78, type := 4, pos := "law.go:168", after := #[{ on := 15, ground := Ground.data }, { on := 11, ground := Ground.guard }], guard := some (11, true) } : Oper)) (v := ?_) rfl (by kernel_rfl) (by kernel_rfl) (by kernel_rfl) (fun _ _ _ h => h) (Or.inl ⟨by kernel_rfl, ?_⟩) (by assumption) ?_
              rotate_left
              · intro w hSw
                try dsimp only at hSw
                go_simp
                try with_reducible rfl
              try simp only [Act.put, List.setIfInBounds_toArray, List.set_cons_zero, List.set_cons_succ]
              refine wpAnyH_take (i := 19) (oi := ({ dst := some 71, op := Op.binOp BinOp.eql 4 (Operand.tmp 68) (Operand.tmp 70) 4, type := 4, pos := "law.go:168", after := #[{ on := 16, ground := Ground.data }, { on := 18, ground := Ground.data }, { on := 11, ground := Ground.guard }], guard := some (11, true) } : Oper)) (v := ?_) rfl (by kernel_rfl) (by kernel_rfl) (by kernel_rfl) (fun _ _ _ h => h) (Or.inl ⟨by kernel_rfl, ?_⟩) (by assumption) ?_
              rotate_left
              · intro w hSw
                try dsimp only at hSw
                go_simp
                try with_reducible rfl
              try simp only [Act.put, List.setIfInBounds_toArray, List.set_cons_zero, List.set_cons_succ]
              refine wpAnyH_take (i := 20) (oi := ({ dst := some 72, op := Op.pick (Operand.tmp 63) (Operand.tmp 71) (Operand.const (Value.bool false)), type := 4, pos := "law.go:168", after := #[{ on := 11, ground := Ground.data }, { on := 19, ground := Ground.data }], guard := none } : Oper)) (v := ?_) rfl (by kernel_rfl) (by kernel_rfl) (by kernel_rfl) (fun _ _ _ h => h) (Or.inl ⟨by kernel_rfl, ?_⟩) (by assumption) ?_
              rotate_left
              · intro w hSw
                try dsimp only at hSw
                go_simp
                try with_reducible rfl
              try simp only [Act.put, List.setIfInBounds_toArray, List.set_cons_zero, List.set_cons_succ]
              refine wpAnyH_take (i := 21) (oi := ({ dst := some 73, op := Op.move (Operand.tmp 72), type := 4, pos := "law.go:168", after := #[{ on := 20, ground := Ground.data }, { on := 15, ground := Ground.chain }], guard := none } : Oper)) (v := ?_) rfl (by kernel_rfl) (by kernel_rfl) (by kernel_rfl) (fun _ _ _ h => h) (Or.inl ⟨by kernel_rfl, ?_⟩) (by assumption) ?_
              rotate_left
              · intro w hSw
                try dsimp only at hSw
                go_simp
                try with_reducible rfl
              try simp only [Act.put, List.setIfInBounds_toArray, List.set_cons_zero, List.set_cons_succ]
              refine wpAnyH_take (i := 22) (oi := ({ dst := some 74, op := Op.move (Operand.tmp 8), type := 4, pos := "law.go:168", after := #[{ on := 21, ground := Ground.guard }], guard := some (21, true) } : Oper)) (v := ?_) rfl (by kernel_rfl) (by kernel_rfl) (by kernel_rfl) (fun _ _ _ h => h) (Or.inl ⟨by kernel_rfl, ?_⟩) (by assumption) ?_
              rotate_left
              · intro w hSw
                try dsimp only at hSw
                go_simp
                try with_reducible rfl
              try simp only [Act.put, List.setIfInBounds_toArray, List.set_cons_zero, List.set_cons_succ]
              refine wpAnyH_take (i := 23) (oi := ({ dst := some 75, op := Op.move (Operand.tmp 74), type := 4, pos := "law.go:168", after := #[{ on := 22, ground := Ground.data }, { on := 21, ground := Ground.chain }, { on := 21, ground := Ground.guard }], guard := some (21, true) } : Oper)) (v := ?_) rfl (by kernel_rfl) (by kernel_rfl) (by kernel_rfl) (fun _ _ _ h => h) (Or.inl ⟨by kernel_rfl, ?_⟩) (by assumption) ?_
              rotate_left
              · intro w hSw
                try dsimp only at hSw
                go_simp
                try with_reducible rfl
              try simp only [Act.put, List.setIfInBounds_toArray, List.set_cons_zero, List.set_cons_succ]
              refine wpAnyH_take (i := 24) (oi := ({ dst := some 76, op := Op.move (Operand.tmp 10), type := 78, pos := "law.go:168", after := #[{ on := 23, ground := Ground.guard }], guard := some (23, false) } : Oper)) (v := undef) rfl (by kernel_rfl) (by kernel_rfl) (by kernel_rfl) (fun _ _ _ h => h) (Or.inr ⟨by kernel_rfl, rfl⟩) (by assumption) ?_
              try simp only [Act.put, List.setIfInBounds_toArray, List.set_cons_zero, List.set_cons_succ]
              refine wpAnyH_take (i := 25) (oi := ({ dst := some 77, op := Op.call { callee := Callee.value (Operand.func 48), args := #[Operand.tmp 76], argTypes := #[78] }, type := 4, pos := "law.go:168", after := #[{ on := 24, ground := Ground.data }, { on := 23, ground := Ground.chain }, { on := 23, ground := Ground.guard }], guard := some (23, false) } : Oper)) (v := undef) rfl (by kernel_rfl) (by kernel_rfl) (by kernel_rfl) (fun _ _ _ h => h) (Or.inr ⟨by kernel_rfl, rfl⟩) (by assumption) ?_
              try simp only [Act.put, List.setIfInBounds_toArray, List.set_cons_zero, List.set_cons_succ]
              refine wpAnyH_take (i := 26) (oi := ({ dst := some 78, op := Op.unOp UnOp.not 4 (Operand.tmp 77), type := 4, pos := "law.go:168", after := #[{ on := 25, ground := Ground.data }, { on := 23, ground := Ground.guard }], guard := some (23, false) } : Oper)) (v := undef) rfl (by kernel_rfl) (by kernel_rfl) (by kernel_rfl) (fun _ _ _ h => h) (Or.inr ⟨by kernel_rfl, rfl⟩) (by assumption) ?_
              try simp only [Act.put, List.setIfInBounds_toArray, List.set_cons_zero, List.set_cons_succ]
              refine wpAnyH_take (i := 27) (oi := ({ dst := some 79, op := Op.move (Operand.tmp 78), type := 4, pos := "law.go:168", after := #[{ on := 26, ground := Ground.data }, { on := 25, ground := Ground.chain }, { on := 23, ground := Ground.guard }], guard := some (23, false) } : Oper)) (v := undef) rfl (by kernel_rfl) (by kernel_rfl) (by kernel_rfl) (fun _ _ _ h => h) (Or.inr ⟨by kernel_rfl, rfl⟩) (by assumption) ?_
              try simp only [Act.put, List.setIfInBounds_toArray, List.set_cons_zero, List.set_cons_succ]
              refine wpAnyH_take (i := 28) (oi := ({ dst := some 80, op := Op.move (Operand.tmp 10), type := 78, pos := "law.go:168", after := #[{ on := 27, ground := Ground.guard }], guard := some (27, true) } : Oper)) (v := undef) rfl (by kernel_rfl) (by kernel_rfl) (by kernel_rfl) (fun _ _ _ h => h) (Or.inr ⟨by kernel_rfl, rfl⟩) (by assumption) ?_
              try simp only [Act.put, List.setIfInBounds_toArray, List.set_cons_zero, List.set_cons_succ]
              refine wpAnyH_take (i := 29) (oi := ({ dst := some 81, op := Op.call { callee := Callee.value (Operand.func 49), args := #[Operand.tmp 80, Operand.const (Value.int IntKind.i64 0)], argTypes := #[78, 3] }, type := 22, pos := "law.go:168", after := #[{ on := 28, ground := Ground.data }, { on := 27, ground := Ground.chain }, { on := 27, ground := Ground.guard }], guard := some (27, true) } : Oper)) (v := undef) rfl (by kernel_rfl) (by kernel_rfl) (by kernel_rfl) (fun _ _ _ h => h) (Or.inr ⟨by kernel_rfl, rfl⟩) (by assumption) ?_
              try simp only [Act.put, List.setIfInBounds_toArray, List.set_cons_zero, List.set_cons_succ]
              refine wpAnyH_take (i := 30) (oi := ({ dst := some 82, op := Op.call { callee := Callee.builtin Builtin.len, args := #[Operand.tmp 81], argTypes := #[22] }, type := 3, pos := "law.go:168", after := #[{ on := 29, ground := Ground.data }, { on := 27, ground := Ground.guard }], guard := some (27, true) } : Oper)) (v := undef) rfl (by kernel_rfl) (by kernel_rfl) (by kernel_rfl) (fun _ _ _ h => h) (Or.inr ⟨by kernel_rfl, rfl⟩) (by assumption) ?_
              try simp only [Act.put, List.setIfInBounds_toArray, List.set_cons_zero, List.set_cons_succ]
              refine wpAnyH_take (i := 31) (oi := ({ dst := some 83, op := Op.binOp BinOp.eql 3 (Operand.tmp 82) (Operand.const (Value.int IntKind.i64 0)) 3, type := 4, pos := "law.go:168", after := #[{ on := 30, ground := Ground.data }, { on := 27, ground := Ground.guard }], guard := some (27, true) } : Oper)) (v := undef) rfl (by kernel_rfl) (by kernel_rfl) (by kernel_rfl) (fun _ _ _ h => h) (Or.inr ⟨by kernel_rfl, rfl⟩) (by assumption) ?_
              try simp only [Act.put, List.setIfInBounds_toArray, List.set_cons_zero, List.set_cons_succ]
              refine wpAnyH_take (i := 32) (oi := ({ dst := some 84, op := Op.pick (Operand.tmp 79) (Operand.tmp 83) (Operand.const (Value.bool false)), type := 4, pos := "law.go:168", after := #[{ on := 27, ground := Ground.data }, { on := 31, ground := Ground.data }, { on := 23, ground := Ground.guard }], guard := some (23, false) } : Oper)) (v := undef) rfl (by kernel_rfl) (by kernel_rfl) (by kernel_rfl) (fun _ _ _ h => h) (Or.inr ⟨by kernel_rfl, rfl⟩) (by assumption) ?_
              try simp only [Act.put, List.setIfInBounds_toArray, List.set_cons_zero, List.set_cons_succ]
              refine wpAnyH_take (i := 33) (oi := ({ dst := some 85, op := Op.move (Operand.tmp 84), type := 4, pos := "law.go:168", after := #[{ on := 32, ground := Ground.data }, { on := 29, ground := Ground.chain }, { on := 23, ground := Ground.guard }], guard := some (23, false) } : Oper)) (v := undef) rfl (by kernel_rfl) (by kernel_rfl) (by kernel_rfl) (fun _ _ _ h => h) (Or.inr ⟨by kernel_rfl, rfl⟩) (by assumption) ?_
              try simp only [Act.put, List.setIfInBounds_toArray, List.set_cons_zero, List.set_cons_succ]
              refine wpAnyH_take (i := 34) (oi := ({ dst := some 86, op := Op.move (Operand.tmp 10), type := 78, pos := "law.go:168", after := #[{ on := 33, ground := Ground.guard }], guard := some (33, true) } : Oper)) (v := undef) rfl (by kernel_rfl) (by kernel_rfl) (by kernel_rfl) (fun _ _ _ h => h) (Or.inr ⟨by kernel_rfl, rfl⟩) (by assumption) ?_
              try simp only [Act.put, List.setIfInBounds_toArray, List.set_cons_zero, List.set_cons_succ]
              refine wpAnyH_take (i := 35) (oi := ({ dst := some 87, op := Op.call { callee := Callee.value (Operand.func 45), args := #[Operand.tmp 86, Operand.const (Value.int IntKind.i64 0)], argTypes := #[78, 3] }, type := 4, pos := "law.go:168", after := #[{ on := 34, ground := Ground.data }, { on := 33, ground := Ground.chain }, { on := 33, ground := Ground.guard }], guard := some (33, true) } : Oper)) (v := undef) rfl (by kernel_rfl) (by kernel_rfl) (by kernel_rfl) (fun _ _ _ h => h) (Or.inr ⟨by kernel_rfl, rfl⟩) (by assumption) ?_
              try simp only [Act.put, List.setIfInBounds_toArray, List.set_cons_zero, List.set_cons_succ]
              refine wpAnyH_take (i := 36) (oi := ({ dst := some 88, op := Op.unOp UnOp.not 4 (Operand.tmp 87), type := 4, pos := "law.go:168", after := #[{ on := 35, ground := Ground.data }, { on := 33, ground := Ground.guard }], guard := some (33, true) } : Oper)) (v := undef) rfl (by kernel_rfl) (by kernel_rfl) (by kernel_rfl) (fun _ _ _ h => h) (Or.inr ⟨by kernel_rfl, rfl⟩) (by assumption) ?_
              try simp only [Act.put, List.setIfInBounds_toArray, List.set_cons_zero, List.set_cons_succ]
              refine wpAnyH_take (i := 37) (oi := ({ dst := some 89, op := Op.pick (Operand.tmp 85) (Operand.tmp 88) (Operand.const (Value.bool false)), type := 4, pos := "law.go:168", after := #[{ on := 33, ground := Ground.data }, { on := 36, ground := Ground.data }, { on := 23, ground := Ground.guard }], guard := some (23, false) } : Oper)) (v := undef) rfl (by kernel_rfl) (by kernel_rfl) (by kernel_rfl) (fun _ _ _ h => h) (Or.inr ⟨by kernel_rfl, rfl⟩) (by assumption) ?_
              try simp only [Act.put, List.setIfInBounds_toArray, List.set_cons_zero, List.set_cons_succ]
              refine wpAnyH_take (i := 38) (oi := ({ dst := some 90, op := Op.pick (Operand.tmp 75) (Operand.const (Value.bool true)) (Operand.tmp 89), type := 4, pos := "law.go:168", after := #[{ on := 23, ground := Ground.data }, { on := 37, ground := Ground.data }, { on := 21, ground := Ground.guard }], guard := some (21, true) } : Oper)) (v := ?_) rfl (by kernel_rfl) (by kernel_rfl) (by kernel_rfl) (fun _ _ _ h => h) (Or.inl ⟨by kernel_rfl, ?_⟩) (by assumption) ?_
              rotate_left
              · intro w hSw
                try dsimp only at hSw
                go_simp
                try with_reducible rfl
              try simp only [Act.put, List.setIfInBounds_toArray, List.set_cons_zero, List.set_cons_succ]
              refine wpAnyH_take (i := 39) (oi := ({ dst := some 91, op := Op.pick (Operand.tmp 73) (Operand.tmp 90) (Operand.const (Value.bool false)), type := 4, pos := "law.go:168", after := #[{ on := 21, ground := Ground.data }, { on := 38, ground := Ground.data }], guard := none } : Oper)) (v := ?_) rfl (by kernel_rfl) (by kernel_rfl) (by kernel_rfl) (fun _ _ _ h => h) (Or.inl ⟨by kernel_rfl, ?_⟩) (by assumption) ?_
              rotate_left
              · intro w hSw
                try dsimp only at hSw
                go_simp
                try with_reducible rfl
              try simp only [Act.put, List.setIfInBounds_toArray, List.set_cons_zero, List.set_cons_succ]
              refine wpAnyH_take (i := 40) (oi := ({ dst := some 6, op := Op.assign (Operand.tmp 91), type := 4, pos := "law.go:168", after := #[{ on := 39, ground := Ground.data }, { on := 35, ground := Ground.chain }, { on := 0, ground := Ground.phase }, { on := 1, ground := Ground.phase }, { on := 2, ground := Ground.phase }, { on := 3, ground := Ground.phase }, { on := 4, ground := Ground.phase }, { on := 5, ground := Ground.phase }, { on := 6, ground := Ground.phase }, { on := 7, ground := Ground.phase }, { on := 8, ground := Ground.phase }, { on := 9, ground := Ground.phase }, { on := 10, ground := Ground.phase }, { on := 11, ground := Ground.phase }, { on := 12, ground := Ground.phase }, { on := 13, ground := Ground.phase }, { on := 14, ground := Ground.phase }, { on := 15, ground := Ground.phase }, { on := 16, ground := Ground.phase }, { on := 17, ground := Ground.phase }, { on := 18, ground := Ground.phase }, { on := 19, ground := Ground.phase }, { on := 20, ground := Ground.phase }, { on := 21, ground := Ground.phase }, { on := 22, ground := Ground.phase }, { on := 23, ground := Ground.phase }, { on := 24, ground := Ground.phase }, { on := 25, ground := Ground.phase }, { on := 26, ground := Ground.phase }, { on := 27, ground := Ground.phase }, { on := 28, ground := Ground.phase }, { on := 29, ground := Ground.phase }, { on := 30, ground := Ground.phase }, { on := 31, ground := Ground.phase }, { on := 32, ground := Ground.phase }, { on := 33, ground := Ground.phase }, { on := 34, ground := Ground.phase }, { on := 35, ground := Ground.phase }, { on := 36, ground := Ground.phase }, { on := 37, ground := Ground.phase }, { on := 38, ground := Ground.phase }, { on := 39, ground := Ground.phase }], guard := none } : Oper)) (v := ?_) rfl (by kernel_rfl) (by kernel_rfl) (by kernel_rfl) (fun _ _ _ h => h) (Or.inl ⟨by kernel_rfl, ?_⟩) (by assumption) ?_
              rotate_left
              · intro w hSw
                try dsimp only at hSw
                go_simp
                try with_reducible rfl
              try simp only [Act.put, List.setIfInBounds_toArray, List.set_cons_zero, List.set_cons_succ]
              refine wpAnyH_done (by kernel_rfl) ?_ _
              go_wp2_with fail
              go_ret
              exact ⟨rfl, belw H5.out.2.2.2.1 HZ.out⟩
            -- E13 ok0
end Ed
end Go.Proofs.Ytaehooafdbaomaa
