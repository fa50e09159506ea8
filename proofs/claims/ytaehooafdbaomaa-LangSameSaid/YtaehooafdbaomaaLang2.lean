/- Chapter 10 (lang): join: walks. -/
import Derived.Test.YtaehooafdbaomaaLang1
import Derived.Test.YtaehooafdbaomaaLexQ0
namespace Go.Proofs.Ytaehooafdbaomaa
open Go.RowKit
attribute [local go_sem ↓] Go.wp_at_zero Go.wp_at_succ
attribute [local go_sem] frozen_alloc_lt

theorem nodup_sub : ∀ {l m : List (List UInt8)}, l.Nodup → (∀ z ∈ l, z ∈ m) → l.length ≤ m.length
  | [], m, _, _ => Nat.zero_le _
  | z :: l, m, hn, h => by
    obtain ⟨h1, h2⟩ := List.nodup_cons.1 hn
    have hz := h z (by simp)
    have h3 := nodup_sub (l := l) (m := m.erase z) h2 (fun y hy => (List.mem_erase_of_ne (fun e => h1 (by rw [← e]; exact hy))).2 (h y (by simp [hy])))
    rw [List.length_erase_of_mem hz] at h3
    have : 0 < m.length := List.length_pos_of_mem hz
    simp only [List.length_cons]
    omega
theorem bytes_cat (a b : List UInt8) : (⟨a.toArray⟩ : ByteArray) ++ ⟨b.toArray⟩ = ⟨(a ++ b).toArray⟩ := by
  apply ByteArray.ext
  rw [ByteArray.data_append]
  simp
theorem size_mk (l : List UInt8) : (⟨l.toArray⟩ : ByteArray).size = l.length := rfl
def JoinSaid (H : List (List UInt8)) (W : Lg.Tab) (s room : Int) (w : World) (e : Ending) (w' : World) : Prop :=
  ∃ (bo : Nat) (J : List (List UInt8)), e = .returned (.map (some bo)) ∧ w.heap.size ≤ bo ∧ SetX w' bo J ∧ (∀ z, z ∈ J ↔ ∃ h t, h ∈ H ∧ Lg.Pt W s t ∧ z = h ++ t ∧ (z.length : Int) ≤ room) ∧ Below w.heap.size w w'
/-- The byte of a terminal, as the program makes it. -/
theorem tb_wrap {s : Int} (h0 : s < 0) (h1 : -256 ≤ s) : IntKind.u8.wrap (-1 - s) = ((Lg.tb s).toNat : Int) := by
  obtain ⟨q, hq⟩ : ∃ q : Nat, -1 - s = (q : Int) := ⟨(-1 - s).toNat, by omega⟩
  have hq2 : q < 256 := by omega
  unfold Lg.tb
  rw [hq]
  simp [IntKind.wrap, IntKind.bits, IntKind.signed]
def Jn1 (w0 : World) (bh bo r : Nat) (H : List (List UInt8)) (s room : Int) (k : Nat) (_v15 : Value) (w : World) : Prop :=
  ∃ (left : List UInt8 → Bool) (J : List (List UInt8)), RangeT w bh r H.length H left k ∧ SetX w bo J ∧ (∀ z, z ∈ J ↔ ∃ h, h ∈ H ∧ left h = false ∧ z = h ++ [Lg.tb s] ∧ (z.length : Int) ≤ room) ∧ Below w0.heap.size w0 w
set_option maxHeartbeats 4000000 in
set_option maxRecDepth 8000 in
theorem join_term (w : World) (bf bh : Nat) (H : List (List UInt8)) (W : Lg.Tab) (s room : Int) (hH : SetX w bh H) (hl : ∀ z ∈ H, z.length ≤ 64) (hn : H.length ≤ 300000) (h0 : s < 0) (h1 : -256 ≤ s) :
    Calls Try.prog 168 #[.pointer (some ⟨bf, 0, none⟩), .map (some bh), .int .i64 s, .int .i64 room] w (JoinSaid H W s room w) := by
  have hb1 : Below w.heap.size w (w.alloc (.map #[] 0)) := bel_al (bel_id w) _
  have hH1 : SetX (w.alloc (.map #[] 0)) bh H := hH.at (hb1.block bh hH.lt)
  have hJ1 := SetX.made w
  have hHl := hH.lt
  obtain ⟨w1, hw1⟩ : ∃ w1, w1 = w.alloc (.map #[] 0) := ⟨_, rfl⟩
  obtain ⟨bo, hbo⟩ : ∃ bo, bo = w.heap.size := ⟨_, rfl⟩
  rw [← hw1] at hH1 hJ1 hb1
  rw [← hbo] at hJ1
  obtain ⟨w2, cnt, hrun, hrg, hg2, hs2⟩ := hH1.2.range 201 Try.underlying201
  obtain ⟨r, hr⟩ : ∃ r, r = w1.heap.size := ⟨_, rfl⟩
  rw [← hr] at hrun hrg
  have hJ2 : SetX w2 bo [] := hJ1.kept hg2 (by simp)
  have hb2 : Below w.heap.size w w2 := hb1.grown hg2 hb1.size (fun k e => by cases e)
  have hro : r ≠ bo := fun e => by have := hJ1.lt; omega
  have hrh : r ≠ bh := fun e => by have := hH1.lt; omega
  have hbh : bo ≠ bh := fun e => by omega
  have hro2 : w.heap.size ≤ r := by have := hb1.size; omega
  have hinit : Jn1 w bh bo r H s room cnt undef w2 := ⟨_, [], hrg, hJ2, fun z => by
    constructor
    · intro h; cases h
    · rintro ⟨h, h2, h3, -⟩
      simp [h2] at h3, hb2⟩
  have Hinit := hid hinit
  have Hw1 := hid (And.intro hw1 (And.intro hbo hr))
  have Hro := hid (And.intro hro (And.intro hrh (And.intro hbh hro2)))
  have HHl := hid hl
  have Hbo2 := hid (show w.heap.size ≤ bo by omega)
  clear hw1 hbo hr hJ1 hJ2 hb1 hb2 hrg hg2 hs2 hinit hH1 hH hHl hl hro hrh hbh hro2
  have hcv := tb_wrap h0 h1
  have hneg : ¬ 0 ≤ s := by omega
  have hmm := @run_makeMap Try.prog
  go_enter Try.func168, Try.ntmps168
  go_upto_region 2 with fail
  rw [← Hw1.out.1, ← Hw1.out.2.1]
  clear hmm
  go_wp2_with fail
  clear hrun
  go_loopg [15] cnt (fun k v15 wr => Jn1 w bh bo r H s room k v15 wr)
  case atStart => exact Hinit.out
  case round =>
    clear Hinit
    obtain ⟨left, J, hrg, hJ, hm, hbw⟩ := hrel
    rcases hrg.next 0 with ⟨hk0, hl, hrun⟩ | ⟨z, v, w3, k3, hz0, hlz, hzH, hrun, hrg3, hlt3, hg3, hs3, hen⟩
    · have Hfin := hid (And.intro hJ (And.intro hm (And.intro hbw hl)))
      clear hJ hm hbw hl hrg
      go_wp2_with fail
      go_ret
      refine ⟨bo, J, rfl, Hbo2.out, Hfin.out.1, fun z => ?_, Hfin.out.2.2.1⟩
      rw [Hfin.out.2.1 z]
      constructor
      · rintro ⟨h, h2, -, h3, h4⟩
        exact ⟨h, _, h2, .inl ⟨h0, rfl⟩, h3, h4⟩
      · rintro ⟨h, t, h2, h3, h4, h5⟩
        rcases h3 with ⟨-, rfl⟩ | ⟨h6, -⟩
        · exact ⟨h, h2, Hfin.out.2.2.2 h, h4, h5⟩
        · omega
    · have hzl := HHl.out z hzH
      have hJ3 := hJ.kept hg3 (fun e => Hro.out.1 (by injection e with e; exact e.symm))
      have hbw3 : Below w.heap.size w w3 := hbw.grown hg3 hbw.size (fun k e => by injection e with e; have := Hro.out.2.2.2; omega)
      have hJn := nodup_sub (m := H.map (fun h => h ++ [Lg.tb s])) hJ.1 (fun x hx => by
        obtain ⟨h, h1, -, rfl, -⟩ := (hm x).1 hx
        exact List.mem_map.2 ⟨h, h1, rfl⟩)
      rw [List.length_map] at hJn
      by_cases hlt : (z.length : Int) < room
      · have hal := bel_al (bel_id w3) (.cells #[.int .u8 (Lg.tb s).toNat] 5)
        have hJ4 : SetX (w3.alloc (.cells #[.int .u8 (Lg.tb s).toNat] 5)) bo J := hJ3.at (hal.block bo hJ3.lt)
        obtain ⟨w5, hput, hJ5, hg5⟩ := hJ4.put (z ++ [Lg.tb s]) (by simp; unfold maxLen; omega) (by unfold maxLen; omega) 201 Try.underlying201
        have hrg4 : RangeT (w3.alloc (.cells #[.int .u8 (Lg.tb s).toNat] 5)) bh r H.length H (fun x => left x && !(x == z)) k3 := hrg3.kept (World.grownBy_alloc _ _ none) (by simp) (by simp)
        have hrg5 := hrg4.kept hg5 (fun e => Hro.out.2.2.1 (by injection e with e; exact e.symm)) (fun e => Hro.out.1 (by injection e with e))
        have hbw5 : Below w.heap.size w w5 := (hbw3.alloc hbw3.size _).grown hg5 (by simp; have := hbw3.size; omega) (fun k e => by injection e with e; have := Hbo2.out; omega)
        have hcv2 := conv_own (w := w3.alloc (.cells #[.int .u8 (Lg.tb s).toNat] 5)) (base := 0) (n := 1) (v := .slice (some ⟨w3.heap.size, 0, none⟩) 1 1) (l := [Lg.tb s]) (World.ownsRow_lit (base := 0) (e := 5) (size := 1) w3 (u8s [Lg.tb s]).toArray 1 (by omega) (by unfold maxLen; omega) (by simp [u8s])) rfl
        rw [← bytes_cat] at hput
        have hfin : Jn1 w bh bo r H s room k3 undef w5 := ⟨_, _, hrg5, hJ5, fun x => by
          rw [mem_insT, hm x]
          constructor
          · rintro (rfl | ⟨h, h1, h2, h3⟩)
            · exact ⟨z, hzH, by simp, rfl, by simp; omega⟩
            · exact ⟨h, h1, by simp [h2], h3⟩
          · rintro ⟨h, h1, h2, h3, h4⟩
            by_cases he : h = z
            · subst he; exact .inl h3
            · exact .inr ⟨h, h1, by simpa [he] using h2, h3, h4⟩, hbw5⟩
        obtain ⟨A, hA⟩ : ∃ A : ByteArray, A = ⟨z.toArray⟩ := ⟨_, rfl⟩
        obtain ⟨B, hB⟩ : ∃ B : ByteArray, B = ⟨[Lg.tb s].toArray⟩ := ⟨_, rfl⟩
        have hsA : A.size = z.length := by rw [hA]; rfl
        have hsB : B.size = 1 := by rw [hB]; rfl
        rw [← hA, ← hB] at hput
        rw [← hA] at hrun hen
        rw [← hB] at hcv2
        have hlim : (z.length : Int) ≤ 64 := by omega
        have hsum : z.length + 1 ≤ 9223372036854775807 := by omega
        have hsum2 : ¬ 9223372036854775807 < z.length + 1 := by omega
        have Hfin := hid hfin
        have Hlt3 := hid hlt3
        clear hfin hA hB hJ hJ3 hJ4 hJ5 hrg hrg3 hrg4 hrg5 hbw hbw3 hbw5 hal hg3 hg5 hs3 hm hJn hzH hlz hz0 hlt3
        go_wp2_with fail
        go_roundg k3
        case measure => exact Hlt3.out
        case rel => exact Hfin.out
      · have hfin : Jn1 w bh bo r H s room k3 undef w3 := ⟨_, _, hrg3, hJ3, fun x => by
          rw [hm x]
          constructor
          · rintro ⟨h, h1, h2, h3⟩
            exact ⟨h, h1, by simp [h2], h3⟩
          · rintro ⟨h, h1, h2, h3, h4⟩
            by_cases he : h = z
            · subst he
              rw [h3] at h4
              simp at h4
              omega
            · exact ⟨h, h1, by simpa [he] using h2, h3, h4⟩, hbw3⟩
        obtain ⟨A, hA⟩ : ∃ A : ByteArray, A = ⟨z.toArray⟩ := ⟨_, rfl⟩
        have hsA : A.size = z.length := by rw [hA]; rfl
        rw [← hA] at hrun hen
        have Hfin := hid hfin
        have Hlt3 := hid hlt3
        clear hfin hA hJ hJ3 hrg hrg3 hbw hbw3 hg3 hs3 hm hJn hzH hlz hz0 hlt3
        go_wp2_with fail
        go_roundg k3
        case measure => exact Hlt3.out
        case rel => exact Hfin.out
/-- What is joined so far: of the heads that are done. -/
def JnIs (H Ws : List (List UInt8)) (dn : List UInt8 → Bool) (room : Int) (J : List (List UInt8)) : Prop := ∀ z, z ∈ J ↔ ∃ h t, h ∈ H ∧ dn h = true ∧ t ∈ Ws ∧ z = h ++ t ∧ (z.length : Int) ≤ room
def Jn2 (w0 : World) (bh bo r : Nat) (H Ws : List (List UInt8)) (room : Int) (k : Nat) (_v15 : Value) (w : World) : Prop :=
  ∃ (left : List UInt8 → Bool) (J : List (List UInt8)), RangeT w bh r H.length H left k ∧ SetX w bo J ∧ JnIs H Ws (fun h => !left h) room J ∧ Below w0.heap.size w0 w
def Jn3 (w0 : World) (bh m bo r r2 : Nat) (H Ws : List (List UInt8)) (left : List UInt8 → Bool) (k3 : Nat) (z : List UInt8) (J0 : List (List UInt8)) (room : Int) (k : Nat) (_v41 : Value) (w : World) : Prop :=
  ∃ (left2 : List UInt8 → Bool) (J : List (List UInt8)), RangeT w bh r H.length H left k3 ∧ RangeT w m r2 Ws.length Ws left2 k ∧ SetX w bo J ∧ J.length ≤ H.length * Ws.length ∧ (∀ x, x ∈ J ↔ x ∈ J0 ∨ ∃ t, t ∈ Ws ∧ left2 t = false ∧ x = z ++ t ∧ (x.length : Int) ≤ room) ∧ (∀ x ∈ J, ∃ h t, h ∈ H ∧ t ∈ Ws ∧ x = h ++ t) ∧ Below w0.heap.size w0 w
theorem prod_len {H Ws J : List (List UInt8)} (hn : J.Nodup) (h : ∀ x ∈ J, ∃ h t, h ∈ H ∧ t ∈ Ws ∧ x = h ++ t) : J.length ≤ H.length * Ws.length := by
  have h1 := nodup_sub (m := H.flatMap fun h => Ws.map fun t => h ++ t) hn (fun x hx => by
    obtain ⟨a, t, h1, h2, rfl⟩ := h x hx
    exact List.mem_flatMap.2 ⟨a, h1, List.mem_map.2 ⟨t, h2, rfl⟩⟩)
  have h2 : ∀ L : List (List UInt8), (L.flatMap fun h => Ws.map fun t => h ++ t).length = L.length * Ws.length := by
    intro L
    induction L with
    | nil => simp
    | cons a L ih => rw [List.flatMap_cons, List.length_append, ih, List.length_map, List.length_cons, Nat.succ_mul, Nat.add_comm]
  rwa [h2] at h1
set_option maxHeartbeats 8000000 in
set_option maxRecDepth 8000 in
theorem join_nt (w : World) (bf bh gw n cw m : Nat) (H : List (List UInt8)) (W : Lg.Tab) (s room : Int) (hH : SetX w bh H) (hl : ∀ z ∈ H, z.length ≤ 64) (hn : H.length ≤ 300000) (h0 : 0 ≤ s) (h1 : s < n) (_hn2 : n ≤ 256)
    (hw : w.cell? ⟨bf, 8, none⟩ = some (.slice (some ⟨gw, 0, none⟩) n cw)) (hg : w.cell? ⟨gw, s.toNat, none⟩ = some (.map (some m))) (hm : SetX w m (W s.toNat)) (hml : ∀ z ∈ W s.toNat, z.length ≤ 64) (hmn : (W s.toNat).length ≤ 4096) :
    Calls Try.prog 168 #[.pointer (some ⟨bf, 0, none⟩), .map (some bh), .int .i64 s, .int .i64 room] w (JoinSaid H W s room w) := by
  obtain ⟨a, rfl⟩ := Int.eq_ofNat_of_zero_le h0
  simp only [Int.toNat_natCast] at hg hm hml hmn
  obtain ⟨Ws, hWs⟩ : ∃ Ws, Ws = W a := ⟨_, rfl⟩
  rw [← hWs] at hm hml hmn
  have hb1 : Below w.heap.size w (w.alloc (.map #[] 0)) := bel_al (bel_id w) _
  have hH1 : SetX (w.alloc (.map #[] 0)) bh H := hH.at (hb1.block bh hH.lt)
  have hm1 : SetX (w.alloc (.map #[] 0)) m Ws := hm.at (hb1.block m hm.lt)
  have hJ1 := SetX.made w
  have hHl := hH.lt
  have hmlt := hm.lt
  have hbfl : bf < w.heap.size := World.block_lt_of_cell? w _ hw
  have hgwl : gw < w.heap.size := World.block_lt_of_cell? w _ hg
  obtain ⟨w1, hw1⟩ : ∃ w1, w1 = w.alloc (.map #[] 0) := ⟨_, rfl⟩
  obtain ⟨bo, hbo⟩ : ∃ bo, bo = w.heap.size := ⟨_, rfl⟩
  rw [← hw1] at hH1 hJ1 hb1 hm1
  rw [← hbo] at hJ1
  obtain ⟨w2, cnt, hrun, hrg, hg2, hs2⟩ := hH1.2.range 201 Try.underlying201
  obtain ⟨r, hr⟩ : ∃ r, r = w1.heap.size := ⟨_, rfl⟩
  rw [← hr] at hrun hrg
  have hJ2 : SetX w2 bo [] := hJ1.kept hg2 (by simp)
  have hb2 : Below w.heap.size w w2 := hb1.grown hg2 hb1.size (fun k e => by cases e)
  have hro : r ≠ bo := fun e => by have := hJ1.lt; omega
  have hrh : r ≠ bh := fun e => by have := hH1.lt; omega
  have hrm : r ≠ m := fun e => by have := hm1.lt; omega
  have hbh : bo ≠ bh := fun e => by omega
  have hbm : bo ≠ m := fun e => by omega
  have hro2 : w.heap.size ≤ r := by have := hb1.size; omega
  have hinit : Jn2 w bh bo r H Ws room cnt undef w2 := ⟨_, [], hrg, hJ2, fun z => by
    constructor
    · intro h; cases h
    · rintro ⟨h, t, h2, h3, -⟩
      simp [h2] at h3, hb2⟩
  have Hinit := hid hinit
  have Hw1 := hid (And.intro hw1 (And.intro hbo hr))
  have Hro := hid (And.intro hro (And.intro hrh (And.intro hbh (And.intro hro2 (And.intro hrm hbm)))))
  have HHl := hid hl
  have HWl := hid hml
  have HWn := hid hmn
  have HWs := hid hWs
  have Hm := hid hm
  have Hcs := hid (And.intro hw (And.intro hg (And.intro hbfl hgwl)))
  have Hbo2 := hid (show w.heap.size ≤ bo by omega)
  have Hm2 := hid hmlt
  clear hw1 hbo hr hJ1 hJ2 hb1 hb2 hrg hg2 hs2 hinit hH1 hH hHl hl hro hrh hbh hro2 hrm hbm hm hm1 hml hmn hWs hw hg hbfl hgwl hmlt
  have hneg : ¬ (a : Int) < 0 := by omega
  have ha0 : (0 : Int) ≤ (a : Int) := by omega
  have hmm := @run_makeMap Try.prog
  go_enter Try.func168, Try.ntmps168
  go_upto_region 2 with fail
  rw [← Hw1.out.1, ← Hw1.out.2.1]
  clear hmm
  go_wp2_with fail
  clear hrun
  go_loopg [15] cnt (fun k v15 wr => Jn2 w bh bo r H Ws room k v15 wr)
  case atStart => exact Hinit.out
  case round =>
    clear Hinit
    obtain ⟨left, J, hrg, hJ, hm, hbw⟩ := hrel
    rcases hrg.next 0 with ⟨hk0, hl, hrun⟩ | ⟨z, v, w3, k3, hz0, hlz, hzH, hrun, hrg3, hlt3, hg3, hs3, hen⟩
    · have Hfin := hid (And.intro hJ (And.intro hm (And.intro hbw hl)))
      clear hJ hm hbw hl hrg
      go_wp2_with fail
      go_ret
      refine ⟨bo, J, rfl, Hbo2.out, Hfin.out.1, fun z => ?_, Hfin.out.2.2.1⟩
      rw [Hfin.out.2.1 z]
      constructor
      · rintro ⟨h, t, h2, -, h3, h4, h5⟩
        refine ⟨h, t, h2, .inr ⟨ha0, ?_⟩, h4, h5⟩
        rw [Int.toNat_natCast, ← HWs.out]; exact h3
      · rintro ⟨h, t, h2, h3, h4, h5⟩
        rcases h3 with ⟨h6, -⟩ | ⟨-, h6⟩
        · omega
        · rw [Int.toNat_natCast, ← HWs.out] at h6
          exact ⟨h, t, h2, by simp [Hfin.out.2.2.2 h], h6, h4, h5⟩
    · have hzl := HHl.out z hzH
      have hJ3 := hJ.kept hg3 (fun e => Hro.out.1 (by injection e with e; exact e.symm))
      have hbw3 : Below w.heap.size w w3 := hbw.grown hg3 hbw.size (fun k e => by injection e with e; have := Hro.out.2.2.2.1; omega)
      have hm3 : SetX w3 m Ws := Hm.out.at (hbw3.block m Hm2.out)
      have c8 := (hbw3.cell (p := ⟨bf, 8, none⟩) Hcs.out.2.2.1).trans Hcs.out.1
      have cg := (hbw3.cell (p := ⟨gw, a, none⟩) Hcs.out.2.2.2).trans Hcs.out.2.1
      obtain ⟨w4, cnt4, hrun4, hrg4, hg4, hs4⟩ := hm3.2.range 201 Try.underlying201
      obtain ⟨r2, hr2⟩ : ∃ r2, r2 = w3.heap.size := ⟨_, rfl⟩
      rw [← hr2] at hrun4 hrg4
      have hJ4 : SetX w4 bo J := hJ3.kept hg4 (by simp)
      have hrg34 := hrg3.kept hg4 (by simp) (by simp)
      have hbw4 : Below w.heap.size w w4 := hbw3.grown hg4 hbw3.size (fun k e => by cases e)
      have hr2o : r2 ≠ bo := fun e => by have := hJ3.lt; omega
      have hr2r : r2 ≠ r := fun e => by have := hrg3.lt; omega
      have hr2h : r2 ≠ bh := fun e => by have := hrg3.owns.lt; omega
      have hr2m : r2 ≠ m := fun e => by have := hm3.lt; omega
      have hr2w : w.heap.size ≤ r2 := by have := hbw3.size; omega
      have hsub : ∀ x ∈ J, ∃ h t, h ∈ H ∧ t ∈ Ws ∧ x = h ++ t := fun x hx => by
        obtain ⟨h, t, h1, -, h2, h3, -⟩ := (hm x).1 hx
        exact ⟨h, t, h1, h2, h3⟩
      have hinit2 : Jn3 w bh m bo r r2 H Ws (fun x => left x && !(x == z)) k3 z J room cnt4 undef w4 := ⟨_, J, hrg34, hrg4, hJ4, prod_len hJ4.1 hsub, fun x => by
        constructor
        · exact .inl
        · rintro (h | ⟨t, h1, h2, -⟩)
          · exact h
          · simp [h1] at h2, hsub, hbw4⟩
      obtain ⟨A, hA⟩ : ∃ A : ByteArray, A = ⟨z.toArray⟩ := ⟨_, rfl⟩
      have hsA : A.size = z.length := by rw [hA]; rfl
      rw [← hA] at hrun hen
      have Hinit2 := hid hinit2
      have Hlt3 := hid hlt3
      have HA := hid hA
      have Hr2 := hid (And.intro hr2o (And.intro hr2r (And.intro hr2h (And.intro hr2m hr2w))))
      have Hm3 := hid hm
      have Hz := hid (And.intro hzH hlz)
      clear hinit2 hA hJ hJ3 hJ4 hrg hrg3 hrg4 hrg34 hbw hbw3 hbw4 hg3 hg4 hs3 hs4 hm hm3 hr2 hr2o hr2r hr2h hr2m hr2w hzH hlz hz0 hlt3 hsub
      go_upto_region 8 with fail
      go_wp2_with fail
      clear hrun hen hrun4 c8 cg
      go_loopg [41] cnt4 (fun k v41 wr => Jn3 w bh m bo r r2 H Ws (fun x => left x && !(x == z)) k3 z J room k v41 wr)
      case atStart => exact Hinit2.out
      case round =>
        clear Hinit2
        obtain ⟨left2, J2, hrga, hrgb, hJ, hJl, hm, hsub, hbw⟩ := hrel
        rcases hrgb.next 0 with ⟨hk0, hl, hrun⟩ | ⟨t, v, w5, k5, hz0, hlt, htW, hrun, hrg5, hlt5, hg5, hs5, hen⟩
        · have hfin : Jn2 w bh bo r H Ws room k3 undef _ := ⟨_, J2, hrga, hJ, fun x => by
            rw [hm x, Hm3.out x]
            constructor
            · rintro (⟨h, t, h1, h2, h3⟩ | ⟨t, h1, h2, h3, h4⟩)
              · exact ⟨h, t, h1, by simp at h2; simp [h2], h3⟩
              · exact ⟨z, t, Hz.out.1, by simp, h1, h3, h4⟩
            · rintro ⟨h, t, h1, h2, h3, h4, h5⟩
              by_cases he : h = z
              · subst he; exact .inr ⟨t, h3, hl t, h4, h5⟩
              · exact .inl ⟨h, t, h1, by simpa [he] using h2, h3, h4, h5⟩, hbw⟩
          have Hfin := hid hfin
          clear hfin hJ hm hbw hl hrga hrgb hJl hsub
          go_wp2_with fail
          go_roundg k3
          case measure => exact Hlt3.out
          case rel => exact Hfin.out
        · have htl := HWl.out t htW
          have hJ5 := hJ.kept hg5 (fun e => Hr2.out.1 (by injection e with e; exact e.symm))
          have hrga5 := hrga.kept hg5 (fun e => Hr2.out.2.2.1 (by injection e with e; exact e.symm)) (fun e => Hr2.out.2.1 (by injection e with e; exact e.symm))
          have hbw5 : Below w.heap.size w w5 := hbw.grown hg5 hbw.size (fun k e => by injection e with e; have := Hr2.out.2.2.2.2; omega)
          obtain ⟨B, hB⟩ : ∃ B : ByteArray, B = ⟨t.toArray⟩ := ⟨_, rfl⟩
          have hsB : B.size = t.length := by rw [hB]; rfl
          rw [← hB] at hrun hen
          by_cases hlr : (z.length : Int) + (t.length : Int) ≤ room
          · have hJb : J2.length < maxLen := by
              have h1 : H.length * Ws.length ≤ 300000 * 4096 := Nat.mul_le_mul hn HWn.out
              unfold maxLen; omega
            obtain ⟨w6, hput, hJ6, hg6⟩ := hJ5.put (z ++ t) (by rw [List.length_append]; unfold maxLen; omega) hJb 201 Try.underlying201
            have hrga6 := hrga5.kept hg6 (fun e => Hro.out.2.2.1 (by injection e with e; exact e.symm)) (fun e => Hro.out.1 (by injection e with e))
            have hrg6 := hrg5.kept hg6 (fun e => Hro.out.2.2.2.2.2 (by injection e with e; exact e.symm)) (fun e => Hr2.out.1 (by injection e with e))
            have hbw6 : Below w.heap.size w w6 := hbw5.grown hg6 hbw5.size (fun k e => by injection e with e; have := Hbo2.out; omega)
            have hsub6 : ∀ x ∈ insT (z ++ t) J2, ∃ h t, h ∈ H ∧ t ∈ Ws ∧ x = h ++ t := fun x hx => by
              rcases mem_insT.1 hx with rfl | h
              · exact ⟨z, t, Hz.out.1, htW, rfl⟩
              · exact hsub x h
            have hfin : Jn3 w bh m bo r r2 H Ws (fun x => left x && !(x == z)) k3 z J room k5 undef w6 := ⟨_, _, hrga6, hrg6, hJ6, prod_len hJ6.1 hsub6, fun x => by
              rw [mem_insT, hm x]
              constructor
              · rintro (rfl | h | ⟨u, h1, h2, h3⟩)
                · exact .inr ⟨t, htW, by simp, rfl, by rw [List.length_append]; omega⟩
                · exact .inl h
                · exact .inr ⟨u, h1, by simp [h2], h3⟩
              · rintro (h | ⟨u, h1, h2, h3, h4⟩)
                · exact .inr (.inl h)
                · by_cases he : u = t
                  · subst he; exact .inl h3
                  · exact .inr (.inr ⟨u, h1, by simpa [he] using h2, h3, h4⟩), hsub6, hbw6⟩
            rw [← bytes_cat, ← HA.out, ← hB] at hput
            have hsum : z.length + t.length ≤ 9223372036854775807 := by omega
            have hsum2 : ¬ 9223372036854775807 < z.length + t.length := by omega
            have Hfin := hid hfin
            have Hlt5 := hid hlt5
            clear hfin hB hJ hJ5 hJ6 hrga hrgb hrg5 hrg6 hrga5 hrga6 hbw hbw5 hbw6 hg5 hg6 hs5 hm hJl hJb htW hlt hz0 hlt5 hsub hsub6
            go_wp2_with fail
            go_roundg k5
            case measure => exact Hlt5.out
            case rel => exact Hfin.out
          · have hfin : Jn3 w bh m bo r r2 H Ws (fun x => left x && !(x == z)) k3 z J room k5 undef w5 := ⟨_, _, hrga5, hrg5, hJ5, hJl, fun x => by
              rw [hm x]
              constructor
              · rintro (h | ⟨u, h1, h2, h3⟩)
                · exact .inl h
                · exact .inr ⟨u, h1, by simp [h2], h3⟩
              · rintro (h | ⟨u, h1, h2, h3, h4⟩)
                · exact .inl h
                · by_cases he : u = t
                  · subst he
                    rw [h3, List.length_append] at h4
                    omega
                  · exact .inr ⟨u, h1, by simpa [he] using h2, h3, h4⟩, hsub, hbw5⟩
            have Hfin := hid hfin
            have Hlt5 := hid hlt5
            clear hfin hB hJ hJ5 hrga hrgb hrg5 hrga5 hbw hbw5 hg5 hs5 hm hJl htW hlt hz0 hlt5 hsub
            go_wp2_with fail
            go_roundg k5
            case measure => exact Hlt5.out
            case rel => exact Hfin.out
end Go.Proofs.Ytaehooafdbaomaa
