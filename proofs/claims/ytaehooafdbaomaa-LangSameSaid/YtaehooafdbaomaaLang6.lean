/- Chapter 10 (lang): find: walk. -/
import Derived.Test.YtaehooafdbaomaaLang5
namespace Go.Proofs.Ytaehooafdbaomaa
open Go.RowKit
attribute [local go_sem ↓] Go.wp_at_zero Go.wp_at_succ
attribute [local go_sem] frozen_alloc_lt

theorem mapInfoT : (Try.prog.info? 201).map (fun i => (i.zero, i.size, i.bytes)) = some (some (.map none), 1, 8) := by kernel_rfl
/-- How many words are known. -/
def sumT (W : Lg.Tab) (n : Nat) : Nat := ((List.range n).map fun a => (W a).length).sum
theorem sumT_succ (W : Lg.Tab) (n : Nat) : sumT W (n + 1) = sumT W n + (W n).length := by
  unfold sumT
  rw [List.range_succ, List.map_append, List.sum_append]
  simp
theorem sumT_upd_ge (W : Lg.Tab) (l : Nat) (Wn : List (List UInt8)) : ∀ n, n ≤ l → sumT (upd W l Wn) n = sumT W n
  | 0, _ => rfl
  | n + 1, h => by
    rw [sumT_succ, sumT_succ, sumT_upd_ge W l Wn n (by omega)]
    unfold upd
    rw [if_neg (by omega)]
theorem sumT_upd (W : Lg.Tab) (l : Nat) (Wn : List (List UInt8)) : ∀ n, l < n → sumT (upd W l Wn) n + (W l).length = sumT W n + Wn.length
  | 0, h => by omega
  | n + 1, h => by
    rw [sumT_succ, sumT_succ]
    by_cases e : l = n
    · subst e
      rw [sumT_upd_ge W l Wn l (Nat.le_refl _)]
      unfold upd
      rw [if_pos rfl]
      omega
    · have := sumT_upd W l Wn n (by omega)
      unfold upd at this ⊢
      rw [if_neg (fun h => e h.symm)]
      omega
theorem sumT_le {W : Lg.Tab} (h : ∀ a, (W a).length ≤ 4096) : ∀ n, sumT W n ≤ n * 4096
  | 0 => by simp [sumT]
  | n + 1 => by
    rw [sumT_succ]
    have := sumT_le h n
    have := h n
    omega
theorem upd_same {W : Lg.Tab} {l : Nat} : upd W l (W l) = W := by
  funext a
  unfold upd
  split
  · rename_i e; rw [e]
  · rfl
theorem upd_sound {ps : List (Int × List Int)} {most : Int} {W : Lg.Tab} (hs : Lg.Sound ps most W) {l : Nat} {R : List Int} {Wn : List (List UInt8)} (hp : ((l : Int), R) ∈ ps) (hw : ∀ z, z ∈ Wn ↔ z ∈ W l ∨ (Lg.Cmb W R z ∧ (z.length : Int) ≤ most)) : Lg.Sound ps most (upd W l Wn) := by
  intro a z hz
  unfold upd at hz
  split at hz
  · rename_i e
    subst e
    rcases (hw z).1 hz with h | ⟨h1, h2⟩
    · exact hs _ z h
    · exact ⟨.one (by omega) hp (h1.der hs), h2⟩
  · exact hs a z hz
theorem HOver.toInt {F : FP} {R : List Int} (h : HOver F R) : ∃ (i : Nat) (H : List (List UInt8)), i ≤ R.length ∧ H.Nodup ∧ 4096 * ((F.most : Int) + 1) < H.length ∧ ∀ z ∈ H, Lg.Der F.G.prods (R.take i) z ∧ (z.length : Int) + Lg.tot F.ks (R.drop i) ≤ F.most := by
  obtain ⟨i, H, h1, h2, h3, h4⟩ := h
  exact ⟨i, H, h1, h2, by omega, h4⟩
def FindSaid (F : FP) (bf gl : Nat) (bs : List Bool) (w : World) (e : Ending) (w' : World) : Prop :=
  ∃ (b many : Bool) (gw : Nat) (ms : List Nat) (W : Lg.Tab), e = .returned (.bool b) ∧ Fnd F bf (.slice (some ⟨gl, 0, none⟩) F.G.names.length F.G.names.length) (.slice (some ⟨gw, 0, none⟩) F.G.names.length F.G.names.length) many w' ∧
    Wds bf gl gw bs ms W F.G.names.length w' ∧ Kp (fun k => k = bf) w w' ∧
    ((b = true ∧ Lg.Sound F.G.prods F.most W ∧ (∀ x ∈ F.G.prods, Lg.use F.ks (liveP bs) F.most x → Lg.ClosedAt W F.most x) ∧ (∀ a, (W a).length ≤ 4096)) ∨ (b = false ∧ Lg.Over F.G.prods (liveP bs) F.ks F.most))
/-- The first i maps are made. -/
def FiAt (F : FP) (bf gl gw : Nat) (bs : List Bool) (w0 : World) (k : Nat) (v22 : Value) (w : World) : Prop :=
  ∃ (i : Nat) (ms : List Nat), v22 = .int .i64 i ∧ i ≤ F.G.names.length ∧ k = F.G.names.length - i ∧ ms.length = i ∧ Bk w gw 201 ((ms.map fun m => Value.map (some m)) ++ List.replicate (F.G.names.length - i) (.map none)) ∧
    (∀ (a m : Nat), ms[a]? = some m → SetX w m [] ∧ gw < m) ∧ ms.Nodup ∧ Fnd F bf (.slice (some ⟨gl, 0, none⟩) F.G.names.length F.G.names.length) (.slice (some ⟨gw, 0, none⟩) F.G.names.length F.G.names.length) false w ∧ Bk w gl 4 (bs.map Value.bool) ∧ Kp (fun k => k = bf) w0 w
/-- What lies in memory while find works. -/
structure FdM (F : FP) (bf gl gw : Nat) (bs : List Bool) (ms : List Nat) (W : Lg.Tab) (w0 w : World) : Prop where
  f : Fnd F bf (.slice (some ⟨gl, 0, none⟩) F.G.names.length F.G.names.length) (.slice (some ⟨gw, 0, none⟩) F.G.names.length F.G.names.length) false w
  d : Wds bf gl gw bs ms W F.G.names.length w
  k : Kp (fun k => k = bf) w0 w
  s : Lg.Sound F.G.prods F.most W
  l : ∀ a, (W a).length ≤ 4096
  z : w0.heap.size ≤ gw
def FdO (F : FP) (bf gl gw : Nat) (bs : List Bool) (ms : List Nat) (w0 : World) (k : Nat) (v4 : Value) (w : World) : Prop :=
  ∃ (more : Bool) (W : Lg.Tab), v4 = .bool more ∧ FdM F bf gl gw bs ms W w0 w ∧ (more = false → ∀ x ∈ F.G.prods, Lg.use F.ks (liveP bs) F.most x → Lg.ClosedAt W F.most x) ∧ k + 2 * sumT W F.G.names.length = 2 * (256 * 4096) + 2 + (if more then 1 else 0)
def FdI (F : FP) (bf gl gw : Nat) (bs : List Bool) (ms : List Nat) (w0 : World) (W0 : Lg.Tab) (k : Nat) (v4 v40 : Value) (w : World) : Prop :=
  ∃ (i : Nat) (more : Bool) (W : Lg.Tab), v40 = .int .i64 i ∧ v4 = .bool more ∧ i ≤ F.G.prods.length ∧ k = F.G.prods.length - i ∧ FdM F bf gl gw bs ms W w0 w ∧
    ((more = false ∧ W = W0 ∧ ∀ (j : Nat) x, j < i → F.G.prods[j]? = some x → Lg.use F.ks (liveP bs) F.most x → Lg.ClosedAt W0 F.most x) ∨ (more = true ∧ sumT W0 F.G.names.length < sumT W F.G.names.length))
set_option maxHeartbeats 8000000 in
set_option maxRecDepth 8000 in
theorem find_calls (F : FP) (hF : F.Ok) (w : World) (bf gl : Nat) (bs : List Bool) (h : Fnd F bf (.slice (some ⟨gl, 0, none⟩) F.G.names.length F.G.names.length) (.slice none 0 0) false w)
    (hl : Bk w gl 4 (bs.map Value.bool)) (hbl : bf < gl) (hlv : LiveOk F bs) : Calls Try.prog 126 #[.pointer (some ⟨bf, 0, none⟩)] w (FindSaid F bf gl bs w) := by
  obtain ⟨i5, hi5, z0, z1, z2⟩ := info_parts mapInfoT
  have hn1 := hF.snd.n1
  have hp1 := hF.snd.p1
  have HF := hid hF
  have H0 := hid h
  have Hl0 := hid hl
  have Hlv := hid (And.intro hbl hlv)
  have c2 := h.f.cell 2
  simp only [FP.cells, List.getElem?_cons_zero, List.getElem?_cons_succ] at c2
  clear h hF hl hbl hlv
  go_enter Try.func126, Try.ntmps126
  go_upto_region 2 with (at_make; refine wpList_make_bk _ rfl _ _ _ rfl 201 i5 _ Try.underlying194 hi5 z0 z1 rfl _ _ F.G.names.length rfl rfl rfl rfl (by rw [z2]; omega) (by omega) ?_; intro w1 hba hk1; have hf1 := H0.out.kp hk1 (fun k e => e.elim); have c8 := hf1.f.cell 8; have f8 := hf1.f.free 8; simp only [FP.cells, List.getElem?_cons_zero, List.getElem?_cons_succ] at c8)
  have hf2 := hf1.setWords (.slice (some ⟨w.heap.size, 0, none⟩) F.G.names.length F.G.names.length)
  have hkb : Kp (fun k => k = bf) w1 (w1.setCell ⟨bf, 8, none⟩ (.slice (some ⟨w.heap.size, 0, none⟩) F.G.names.length F.G.names.length)) := (Kp.refl (fun k => k = bf) w1).set (p := ⟨bf, 8, none⟩) (.inl rfl) _
  have hbfl := H0.out.f.lt
  have hgll := Hl0.out.lt
  have hv2 := hba.kp hkb (fun e => by omega)
  have hl2 := (Hl0.out.kp hk1 (fun e => e.elim)).kp hkb (fun e => by have := Hlv.out.1; omega)
  have hk2 : Kp (fun k => k = bf) w (w1.setCell ⟨bf, 8, none⟩ (.slice (some ⟨w.heap.size, 0, none⟩) F.G.names.length F.G.names.length)) := (hk1.mono fun k _ e => e.elim).trans hkb
  obtain ⟨w2, hw2⟩ : ∃ w2, w2 = (w1.setCell ⟨bf, 8, none⟩ (.slice (some ⟨w.heap.size, 0, none⟩) F.G.names.length F.G.names.length)) := ⟨_, rfl⟩
  obtain ⟨gw, hgw⟩ : ∃ gw, gw = w.heap.size := ⟨_, rfl⟩
  rw [← hw2] at hf2 hv2 hl2 hk2 ⊢
  rw [← hgw] at hf2 hv2 ⊢
  have d8 := hf2.f.cell 8
  simp only [FP.cells, List.getElem?_cons_zero, List.getElem?_cons_succ] at d8
  have hinit : FiAt F bf gl gw bs w F.G.names.length (.int .i64 0) w2 := ⟨0, [], rfl, Nat.zero_le _, rfl, rfl, by simpa using hv2, fun a m h => by simp at h, List.nodup_nil, hf2, hl2, hk2⟩
  have Hinit := hid hinit
  have Hgw := hid (And.intro hgw (And.intro hbfl hgll))
  clear hf1 c8 f8 hf2 hkb hv2 hl2 hk2 hw2 hgw hba hk1 hinit c2 hbfl hgll
  go_wp2_with fail
  clear d8
  go_loopg [22] F.G.names.length (fun k v22 wr => FiAt F bf gl gw bs w k v22 wr)
  case atStart => exact Hinit.out
  case round =>
    clear Hinit
    obtain ⟨i, ms, rfl, hi, hk, hms, hv, hm, hnd, hf, hl, hkp⟩ := hrel
    have Hk := hid hk
    clear hk
    by_cases hlt : i < F.G.names.length
    · have hlt' : (i : Int) < (F.G.names.length : Int) := by omega
      have hi0 : (0 : Int) ≤ (i : Int) := by omega
      have d8 := hf.f.cell 8
      simp only [FP.cells, List.getElem?_cons_zero, List.getElem?_cons_succ] at d8
      have hal : Below wr.heap.size wr (wr.alloc (.map #[] 0)) := bel_al (bel_id wr) _
      have hv3 := hv.alloc (.map #[] 0)
      have cv := hv3.cell i
      have fv := hv3.free i
      rw [List.getElem?_append_right (by simp [hms]), List.length_map, hms, Nat.sub_self, List.getElem?_replicate, if_pos (by omega)] at cv
      have hks : Kp (fun k => k = gw) (wr.alloc (.map #[] 0)) ((wr.alloc (.map #[] 0)).setCell ⟨gw, i, none⟩ (.map (some wr.heap.size))) := (Kp.refl (fun k => k = gw) _).set (p := ⟨gw, i, none⟩) (.inl rfl) _
      have hgwl := hv.lt
      have hset := (SetX.made wr).kp hks (fun e => by omega)
      have hgg := Hgw.out
      have hfin : FiAt F bf gl gw bs w (F.G.names.length - (i + 1)) (.int .i64 ((i + 1 : Nat) : Int)) ((wr.alloc (.map #[] 0)).setCell ⟨gw, i, none⟩ (.map (some wr.heap.size))) := by
        refine ⟨i + 1, ms ++ [wr.heap.size], rfl, hlt, rfl, by simp [hms], ?_, fun a m ha => ?_, ?_, (hf.later hal).kp hks (fun k e => by omega), (hl.below hal hl.lt).kp hks (fun e => by omega), ?_⟩
        · refine (hv3.set i (.map (some wr.heap.size))).of ?_
          rw [List.set_append_right _ _ (by simp [hms]), List.length_map, hms, Nat.sub_self, show F.G.names.length - i = (F.G.names.length - (i + 1)) + 1 by omega, List.replicate_succ, List.set_cons_zero]
          simp
        · by_cases e : a < ms.length
          · rw [List.getElem?_append_left e] at ha
            exact ⟨((hm a m ha).1.at (hal.block m (hm a m ha).1.lt)).kp hks (fun e => by have := (hm a m ha).2; omega), (hm a m ha).2⟩
          · rw [List.getElem?_append_right (by omega)] at ha
            obtain ⟨h1, h2⟩ := List.getElem?_eq_some_iff.1 ha
            have h3 : a - ms.length = 0 := by simp at h1; omega
            simp only [h3, List.getElem_cons_zero] at h2
            subst h2
            exact ⟨hset, hgwl⟩
        · refine List.nodup_append.2 ⟨hnd, by simp, fun x hx y hy e => ?_⟩
          rw [List.mem_singleton] at hy
          obtain ⟨a, ha⟩ := List.mem_iff_getElem?.1 hx
          have := (hm a x ha).1.lt
          omega
        · exact (((hkp.trans ⟨hal.os, hal.tape, hal.output, hal.size, fun k hk _ => hal.block k hk⟩).mono (S' := fun k => k = bf ∨ k = gw) fun k _ e => .inl e).trans (hks.mono fun k _ e => .inr e)).mono fun k hk e => e.resolve_right (by omega)
      have Hfin := hid hfin
      have Hlt := hid hlt
      clear hm hnd hf hl hkp hv hal hv3 hks hset hfin hms hgwl hlt hgg
      have hmm := @run_makeMap Try.prog
      go_wp2_with fail
      go_roundg (F.G.names.length - (i + 1))
      case measure => have := Hk.out; have := Hlt.out; omega
      case rel =>
        have h := Hfin.out
        rwa [show ((i + 1 : Nat) : Int) = (i : Int) + 1 by omega] at h
    · have hge : ¬ (i : Int) < (F.G.names.length : Int) := by omega
      have hil : i = F.G.names.length := by omega
      subst hil
      have hgg := Hgw.out
      have hM : FdM F bf gl gw bs ms (fun _ => []) w wr := ⟨hf, ⟨hl, Hlv.out.1, hv.of (by simp), by omega, fun a m ha => hm a m ha, hnd, hms, Hlv.out.2.n⟩, hkp, fun a z hz => by simp at hz, fun a => Nat.zero_le _, by omega⟩
      have hs0 : sumT (fun _ => []) F.G.names.length = 0 := by
        have : ∀ n, sumT (fun _ => []) n = 0 := fun n => by
          induction n with
          | zero => rfl
          | succ n ih => rw [sumT_succ, ih]; rfl
        exact this _
      have HM := hid hM
      have Hs0 := hid hs0
      clear hm hnd hf hl hkp hv hms hi hlt hM hs0 hgg
      go_wp2_with fail
      go_loopg [4] (2 * (256 * 4096) + 3) (fun k v4 wr => FdO F bf gl gw bs ms w k v4 wr)
      case atStart => exact ⟨true, _, rfl, HM.out, fun h => by (cases h), by rw [Hs0.out]; rfl⟩
      case round =>
        clear HM Hs0
        obtain ⟨more, W0, rfl, hM, hcl, hk⟩ := hrel
        have HM := hid hM
        have Hk := hid hk
        have Hcl := hid hcl
        cases more with
        | false =>
          clear hM hcl hk
          go_wp2_with fail
          go_ret
          exact ⟨true, false, gw, ms, W0, rfl, HM.out.f, HM.out.d, HM.out.k, .inl ⟨rfl, HM.out.s, Hcl.out (by simp), HM.out.l⟩⟩
        | true =>
          have d4 := hM.f.f.cell 4
          simp only [FP.cells, List.getElem?_cons_zero, List.getElem?_cons_succ] at d4
          obtain ⟨gpv, hgpv⟩ : ∃ gpv, gpv = F.gp := ⟨_, rfl⟩
          rw [← hgpv] at d4
          have Hgpv := hid hgpv
          clear hgpv hM hcl hk
          go_wp2_with fail
          clear d4
          go_loopg [4, 40] F.G.prods.length (fun k v4 v40 wr => FdI F bf gl gw bs ms w W0 k v4 v40 wr)
          case atStart => exact ⟨0, false, W0, rfl, rfl, Nat.zero_le _, rfl, HM.out, .inl ⟨rfl, rfl, fun j x hj => by omega⟩⟩
          case round =>
            clear HM
            obtain ⟨i, more, W, rfl, rfl, hi, hki, hM, hst⟩ := hrel
            have HMi := hid hM
            have HkI := hid hki
            have Hst := hid hst
            by_cases hlt : i < F.G.prods.length
            · obtain ⟨x, hxe⟩ : ∃ x, x = F.G.prods[i] := ⟨_, rfl⟩
              have hx : F.G.prods[i]? = some x := by rw [hxe]; exact List.getElem?_eq_getElem hlt
              have hxm : x ∈ F.G.prods := List.mem_of_getElem? hx
              have hpp := HF.out.i.p
              rw [← Hgpv.out] at hpp
              obtain ⟨gp', op, gr, cr, rfl, hgl, c0, c1, hrow0⟩ := hpp i x hx
              obtain ⟨gp2, op2, gr2, cr2, e1, -, c1', hcap⟩ := HF.out.c i x hx
              rw [← Hgpv.out] at e1
              injection e1 with e1
              injection e1 with e1 e2 _
              subst e1 e2
              rw [c1] at c1'
              injection c1' with c1'
              injection c1' with e3 _ e4
              subst e3 e4
              have c0 := (hM.f.bw.cell (p := ⟨gp', _, none⟩) hgl).trans c0
              have c1 := (hM.f.bw.cell (p := ⟨gp', _, none⟩) hgl).trans c1
              have hlt' : (i : Int) < (F.G.prods.length : Int) := by omega
              have hi0 : (0 : Int) ≤ (i : Int) := by omega
              have hR16 := HF.out.snd.r16 x hxm
              have hl0 := HF.out.snd.l0 x hxm
              have hl1 := HF.out.snd.l1 x hxm
              obtain ⟨lf, hlf⟩ : ∃ lf : Nat, x.1 = (lf : Int) := ⟨x.1.toNat, by omega⟩
              rw [hlf] at c0 hl1
              obtain ⟨xl, hxl⟩ : ∃ xl, xl = x.2.length := ⟨_, rfl⟩
              rw [← hxl] at c1 hcap hR16
              have hk9 := Bk.new wr 97 [.int .i64 (lf : Int), .slice gr xl cr]
              have hb9 : Below wr.heap.size wr (wr.alloc (.cells #[.int .i64 (lf : Int), .slice gr xl cr] 97)) := bel_al (bel_id wr) _
              obtain ⟨wv, hwv⟩ : ∃ wv, wv = wr.alloc (.cells #[.int .i64 (lf : Int), .slice gr xl cr] 97) := ⟨_, rfl⟩
              obtain ⟨bx, hbx⟩ : ∃ bx, bx = wr.heap.size := ⟨_, rfl⟩
              rw [← hwv] at hk9 hb9
              rw [← hbx] at hk9
              have hM9 : FdM F bf gl gw bs ms W w wv := ⟨hM.f.later hb9, hM.d.kp (S := fun _ => False) ⟨hb9.os, hb9.tape, hb9.output, hb9.size, fun k hk _ => hb9.block k hk⟩ (fun _ e => e.elim), hM.k.trans ⟨hb9.os, hb9.tape, hb9.output, hb9.size, fun k hk _ => hb9.block k hk⟩, hM.s, hM.l, hM.z⟩
              have hlb : lf < bs.length := by rw [hM.d.n2]; omega
              obtain ⟨lvb, hlvb⟩ : ∃ lvb, lvb = bs[lf] := ⟨_, rfl⟩
              have clv := hM9.d.l.cell lf
              rw [List.getElem?_map, List.getElem?_eq_getElem hlb, ← hlvb, Option.map_some] at clv
              have hliv : liveP bs x.1 ↔ lvb = true := by
                unfold liveP Facts.inB
                rw [hlf, Int.toNat_natCast, List.getD, List.getElem?_eq_getElem hlb, hlvb]
                rfl
              have c7 := hM9.f.f.cell 7
              have c5 := hM9.f.f.cell 5
              have x0 := hk9.cell 0
              have x1 := hk9.cell 1
              simp only [FP.cells, List.getElem?_cons_zero, List.getElem?_cons_succ] at c7 c5 x0 x1
              have hS : ∀ W' : World, Below wv.heap.size wv W' → (W'.cell? ⟨bf, 7, none⟩ = some (.slice (some ⟨gl, 0, none⟩) F.G.names.length F.G.names.length) ∧ W'.cell? ⟨gl, lf, none⟩ = some (.bool lvb) ∧ W'.cell? ⟨bx, 0, none⟩ = some (.int .i64 (lf : Int)) ∧ W'.cell? ⟨bx, 1, none⟩ = some (.slice gr xl cr) ∧ W'.cell? ⟨bf, 5, none⟩ = some (.int .i64 (F.most : Int))) := fun W' hb =>
                ⟨(hb.cell (p := ⟨bf, 7, none⟩) hM9.f.f.lt).trans c7, (hb.cell (p := ⟨gl, lf, none⟩) hM9.d.l.lt).trans clv, (hb.cell (p := ⟨bx, 0, none⟩) hk9.lt).trans x0, (hb.cell (p := ⟨bx, 1, none⟩) hk9.lt).trans x1, (hb.cell (p := ⟨bf, 5, none⟩) hM9.f.f.lt).trans c5⟩
              have halive := alive_calls wv.drew bf (some ⟨F.gk, 0, none⟩) F.ck F.ks (lf : Int) gr cr x.2 (by rw [HF.out.sho.len]; exact hM9.f.f.cell 6) hM9.f.row ((hrow0.below hM9.f.bw).mono hM9.f.bw.size) (by omega) (fun s hs => by rw [HF.out.sho.len]; exact HF.out.snd.r1 x hxm s hs)
              rw [← hxl] at halive
              have hleast : Lg.aliveS F.ks x.2 = true → ∀ W', Below wv.heap.size wv W' → Calls Try.prog 141 #[.pointer (some ⟨bf, 0, none⟩), .slice gr xl cr] W' fun e w' => e = .returned (.int .i64 (Lg.leastS F.ks x.2 0)) ∧ W' = w' := fun hal W' hb => by
                have hf9 := hM9.f.later hb
                rw [hxl]
                exact least_calls W' bf (some ⟨F.gk, 0, none⟩) F.ck F.ks gr cr x.2 (by rw [HF.out.sho.len]; exact hf9.f.cell 6) hf9.row ((hrow0.below hf9.bw).mono hf9.bw.size) (by omega) (fun s hs => by rw [HF.out.sho.len]; exact HF.out.snd.r1 x hxm s hs) HF.out.sho.rng (Lg.aliveS_iff.1 hal)
              have hskip : ∀ W' : World, Below wv.heap.size wv W' → ¬ Lg.use F.ks (liveP bs) F.most x → FdI F bf gl gw bs ms w W0 (F.G.prods.length - (i + 1)) (.bool more) (.int .i64 ((i : Int) + 1)) W' := fun W' hb hn =>
                ⟨i + 1, more, W, by go_num, rfl, hlt, rfl, ⟨hM9.f.later hb, hM9.d.kp (S := fun _ => False) ⟨hb.os, hb.tape, hb.output, hb.size, fun k hk _ => hb.block k hk⟩ (fun _ e => e.elim), hM9.k.trans ⟨hb.os, hb.tape, hb.output, hb.size, fun k hk _ => hb.block k hk⟩, hM9.s, hM9.l, hM9.z⟩,
                  hst.imp (fun ⟨h1, h2, h3⟩ => ⟨h1, h2, fun j y hj hy hu => by
                    by_cases e : j = i
                    · subst e
                      rw [hx] at hy
                      injection hy with hy
                      rw [← hy] at hu
                      exact absurd hu hn
                    · exact h3 j y (by omega) hy hu⟩) id⟩
              have Hskip := hid hskip
              clear hskip
              have Hbxn : Hid (bx ≠ bf ∧ bx ∉ ms ∧ bx < wv.heap.size) := hid ⟨fun e => by have := hM.f.f.lt; omega, fun hm => by
                obtain ⟨a, ha⟩ := List.mem_iff_getElem?.1 hm
                have := (hM.d.m a bx ha).1.lt
                omega, hk9.lt⟩
              have HS := hid hS
              have HD : Hid (Below wv.heap.size wv wv.drew) := hid ((Below.refl _ _).drew)
              have Halive := hid halive
              have Hleast := hid hleast
              have HM9 := hid hM9
              have Hwv := hid (And.intro hwv hbx)
              have Hx := hid (And.intro hx (And.intro hxm (And.intro hlf (And.intro hxl hcap))))
              have Hrow := hid hrow0
              have Hlt := hid hlt
              have Hliv := hid hliv
              have Hk9 := hid hk9
              have hlf0 : (0 : Int) ≤ (lf : Int) := by omega
              have hm64 : (F.most : Int) ≤ 64 := by have := HF.out.m; omega
              clear hM hki hst hx hxm hxe hpp hgl hrow0 hcap hwv hbx hk9 hb9 hM9 hlb hlvb clv hliv c7 c5 x0 x1 hS halive hleast hlt hxl hlf hl0
              go_upto_region 13 with fail
              rw [← Hwv.out.1, ← Hwv.out.2]
              clear c0 c1
              cases lvb with
              | false =>
                refine wp_region_held_drew (S := fun W' : World => W'.cell? ⟨bf, 7, none⟩ = some (.slice (some ⟨gl, 0, none⟩) F.G.names.length F.G.names.length) ∧ W'.cell? ⟨gl, lf, none⟩ = some (.bool false) ∧ W'.cell? ⟨bx, 0, none⟩ = some (.int .i64 (lf : Int)) ∧ W'.cell? ⟨bx, 1, none⟩ = some (.slice gr xl cr) ∧ W'.cell? ⟨bf, 5, none⟩ = some (.int .i64 (F.most : Int))) (by kernel_rfl) (HS.out _ HD.out) (fun hHeld => ?_)
                refine wpAnyH_take (i := 0) (oi := ({ dst := some 44, op := Op.move (Operand.tmp 0), type := 192, pos := "lang.go:118", after := #[], guard := none } : Oper)) (v := ?_) rfl (by kernel_rfl) (by kernel_rfl) (by kernel_rfl) (fun _ _ _ h => h) (Or.inl ⟨by kernel_rfl, ?_⟩) (by assumption) ?_
                rotate_left
                · intro w hSw
                  try dsimp only at hSw
                  go_simp
                  try with_reducible rfl
                try simp only [Act.put, List.setIfInBounds_toArray, List.set_cons_zero, List.set_cons_succ]
                refine wpAnyH_take (i := 1) (oi := ({ dst := some 45, op := Op.nilCheck (Operand.tmp 44), type := 0, pos := "lang.go:118", after := #[{ on := 0, ground := Ground.data }], guard := none } : Oper)) (v := ?_) rfl (by kernel_rfl) (by kernel_rfl) (by kernel_rfl) (fun _ _ _ h => h) (Or.inl ⟨by kernel_rfl, ?_⟩) (by assumption) ?_
                rotate_left
                · intro w hSw
                  try dsimp only at hSw
                  go_simp
                  try with_reducible rfl
                try simp only [Act.put, List.setIfInBounds_toArray, List.set_cons_zero, List.set_cons_succ]
                refine wpAnyH_take (i := 2) (oi := ({ dst := some 46, op := Op.fieldAddr 196 (Operand.tmp 45) 3, type := 0, pos := "lang.go:118", after := #[{ on := 1, ground := Ground.data }], guard := none } : Oper)) (v := ?_) rfl (by kernel_rfl) (by kernel_rfl) (by kernel_rfl) (fun _ _ _ h => h) (Or.inl ⟨by kernel_rfl, ?_⟩) (by assumption) ?_
                rotate_left
                · intro w hSw
                  try dsimp only at hSw
                  go_simp
                  try with_reducible rfl
                try simp only [Act.put, List.setIfInBounds_toArray, List.set_cons_zero, List.set_cons_succ]
                refine wpAnyH_take (i := 3) (oi := ({ dst := some 47, op := Op.load 133 (Operand.tmp 46), type := 133, pos := "lang.go:118", after := #[{ on := 2, ground := Ground.data }], guard := none } : Oper)) (v := ?_) rfl (by kernel_rfl) (by kernel_rfl) (by kernel_rfl) (fun _ _ _ h => h) (Or.inl ⟨by kernel_rfl, ?_⟩) (by assumption) ?_
                rotate_left
                · intro w hSw
                  try dsimp only at hSw
                  go_simp
                  try with_reducible rfl
                try simp only [Act.put, List.setIfInBounds_toArray, List.set_cons_zero, List.set_cons_succ]
                refine wpAnyH_take (i := 4) (oi := ({ dst := some 48, op := Op.fieldAddr 97 (Operand.tmp 6) 0, type := 0, pos := "lang.go:118", after := #[], guard := none } : Oper)) (v := ?_) rfl (by kernel_rfl) (by kernel_rfl) (by kernel_rfl) (fun _ _ _ h => h) (Or.inl ⟨by kernel_rfl, ?_⟩) (by assumption) ?_
                rotate_left
                · intro w hSw
                  try dsimp only at hSw
                  go_simp
                  try with_reducible rfl
                try simp only [Act.put, List.setIfInBounds_toArray, List.set_cons_zero, List.set_cons_succ]
                refine wpAnyH_take (i := 5) (oi := ({ dst := some 49, op := Op.load 3 (Operand.tmp 48), type := 3, pos := "lang.go:118", after := #[{ on := 4, ground := Ground.data }], guard := none } : Oper)) (v := ?_) rfl (by kernel_rfl) (by kernel_rfl) (by kernel_rfl) (fun _ _ _ h => h) (Or.inl ⟨by kernel_rfl, ?_⟩) (by assumption) ?_
                rotate_left
                · intro w hSw
                  try dsimp only at hSw
                  go_simp
                  try with_reducible rfl
                try simp only [Act.put, List.setIfInBounds_toArray, List.set_cons_zero, List.set_cons_succ]
                refine wpAnyH_take (i := 6) (oi := ({ dst := some 50, op := Op.indexAddr 133 (Operand.tmp 47) (Operand.tmp 49), type := 0, pos := "lang.go:118", after := #[{ on := 3, ground := Ground.data }, { on := 5, ground := Ground.data }], guard := none } : Oper)) (v := ?_) rfl (by kernel_rfl) (by kernel_rfl) (by kernel_rfl) (fun _ _ _ h => h) (Or.inl ⟨by kernel_rfl, ?_⟩) (by assumption) ?_
                rotate_left
                · intro w hSw
                  try dsimp only at hSw
                  go_simp
                  try with_reducible rfl
                try simp only [Act.put, List.setIfInBounds_toArray, List.set_cons_zero, List.set_cons_succ]
                refine wpAnyH_take (i := 7) (oi := ({ dst := some 51, op := Op.load 4 (Operand.tmp 50), type := 4, pos := "lang.go:118", after := #[{ on := 6, ground := Ground.data }], guard := none } : Oper)) (v := ?_) rfl (by kernel_rfl) (by kernel_rfl) (by kernel_rfl) (fun _ _ _ h => h) (Or.inl ⟨by kernel_rfl, ?_⟩) (by assumption) ?_
                rotate_left
                · intro w hSw
                  try dsimp only at hSw
                  go_simp
                  try with_reducible rfl
                try simp only [Act.put, List.setIfInBounds_toArray, List.set_cons_zero, List.set_cons_succ]
                refine wpAnyH_take (i := 8) (oi := ({ dst := some 52, op := Op.unOp UnOp.not 4 (Operand.tmp 51), type := 4, pos := "lang.go:118", after := #[{ on := 7, ground := Ground.data }], guard := none } : Oper)) (v := ?_) rfl (by kernel_rfl) (by kernel_rfl) (by kernel_rfl) (fun _ _ _ h => h) (Or.inl ⟨by kernel_rfl, ?_⟩) (by assumption) ?_
                rotate_left
                · intro w hSw
                  try dsimp only at hSw
                  go_simp
                  try with_reducible rfl
                try simp only [Act.put, List.setIfInBounds_toArray, List.set_cons_zero, List.set_cons_succ]
                refine wpAnyH_take (i := 9) (oi := ({ dst := some 53, op := Op.move (Operand.tmp 52), type := 4, pos := "lang.go:118", after := #[{ on := 8, ground := Ground.data }], guard := none } : Oper)) (v := ?_) rfl (by kernel_rfl) (by kernel_rfl) (by kernel_rfl) (fun _ _ _ h => h) (Or.inl ⟨by kernel_rfl, ?_⟩) (by assumption) ?_
                rotate_left
                · intro w hSw
                  try dsimp only at hSw
                  go_simp
                  try with_reducible rfl
                try simp only [Act.put, List.setIfInBounds_toArray, List.set_cons_zero, List.set_cons_succ]
                refine wpAnyH_take (i := 10) (oi := ({ dst := some 54, op := Op.move (Operand.tmp 0), type := 192, pos := "lang.go:118", after := #[{ on := 9, ground := Ground.guard }], guard := some (9, false) } : Oper)) (v := undef) rfl (by kernel_rfl) (by kernel_rfl) (by kernel_rfl) (fun _ _ _ h => h) (Or.inr ⟨by kernel_rfl, rfl⟩) (by assumption) ?_
                try simp only [Act.put, List.setIfInBounds_toArray, List.set_cons_zero, List.set_cons_succ]
                refine wpAnyH_take (i := 11) (oi := ({ dst := some 55, op := Op.load 97 (Operand.tmp 6), type := 97, pos := "lang.go:118", after := #[{ on := 9, ground := Ground.guard }], guard := some (9, false) } : Oper)) (v := undef) rfl (by kernel_rfl) (by kernel_rfl) (by kernel_rfl) (fun _ _ _ h => h) (Or.inr ⟨by kernel_rfl, rfl⟩) (by assumption) ?_
                try simp only [Act.put, List.setIfInBounds_toArray, List.set_cons_zero, List.set_cons_succ]
                refine wpAnyH_take (i := 12) (oi := ({ dst := some 56, op := Op.call { callee := Callee.value (Operand.func 140), args := #[Operand.tmp 54, Operand.tmp 55], argTypes := #[192, 97] }, type := 4, pos := "lang.go:118", after := #[{ on := 10, ground := Ground.data }, { on := 11, ground := Ground.data }, { on := 9, ground := Ground.chain }, { on := 9, ground := Ground.guard }], guard := some (9, false) } : Oper)) (v := undef) rfl (by kernel_rfl) (by kernel_rfl) (by kernel_rfl) (fun _ _ _ h => h) (Or.inr ⟨by kernel_rfl, rfl⟩) (by assumption) ?_
                try simp only [Act.put, List.setIfInBounds_toArray, List.set_cons_zero, List.set_cons_succ]
                refine wpAnyH_take (i := 13) (oi := ({ dst := some 57, op := Op.unOp UnOp.not 4 (Operand.tmp 56), type := 4, pos := "lang.go:118", after := #[{ on := 12, ground := Ground.data }, { on := 9, ground := Ground.guard }], guard := some (9, false) } : Oper)) (v := undef) rfl (by kernel_rfl) (by kernel_rfl) (by kernel_rfl) (fun _ _ _ h => h) (Or.inr ⟨by kernel_rfl, rfl⟩) (by assumption) ?_
                try simp only [Act.put, List.setIfInBounds_toArray, List.set_cons_zero, List.set_cons_succ]
                refine wpAnyH_take (i := 14) (oi := ({ dst := some 58, op := Op.pick (Operand.tmp 53) (Operand.const (Value.bool true)) (Operand.tmp 57), type := 4, pos := "lang.go:118", after := #[{ on := 9, ground := Ground.data }, { on := 13, ground := Ground.data }], guard := none } : Oper)) (v := ?_) rfl (by kernel_rfl) (by kernel_rfl) (by kernel_rfl) (fun _ _ _ h => h) (Or.inl ⟨by kernel_rfl, ?_⟩) (by assumption) ?_
                rotate_left
                · intro w hSw
                  try dsimp only at hSw
                  go_simp
                  try with_reducible rfl
                try simp only [Act.put, List.setIfInBounds_toArray, List.set_cons_zero, List.set_cons_succ]
                refine wpAnyH_take (i := 15) (oi := ({ dst := some 59, op := Op.move (Operand.tmp 58), type := 4, pos := "lang.go:118", after := #[{ on := 14, ground := Ground.data }, { on := 12, ground := Ground.chain }], guard := none } : Oper)) (v := ?_) rfl (by kernel_rfl) (by kernel_rfl) (by kernel_rfl) (fun _ _ _ h => h) (Or.inl ⟨by kernel_rfl, ?_⟩) (by assumption) ?_
                rotate_left
                · intro w hSw
                  try dsimp only at hSw
                  go_simp
                  try with_reducible rfl
                try simp only [Act.put, List.setIfInBounds_toArray, List.set_cons_zero, List.set_cons_succ]
                refine wpAnyH_take (i := 16) (oi := ({ dst := some 60, op := Op.move (Operand.tmp 0), type := 192, pos := "lang.go:118", after := #[{ on := 15, ground := Ground.guard }], guard := some (15, false) } : Oper)) (v := undef) rfl (by kernel_rfl) (by kernel_rfl) (by kernel_rfl) (fun _ _ _ h => h) (Or.inr ⟨by kernel_rfl, rfl⟩) (by assumption) ?_
                try simp only [Act.put, List.setIfInBounds_toArray, List.set_cons_zero, List.set_cons_succ]
                refine wpAnyH_take (i := 17) (oi := ({ dst := some 61, op := Op.fieldAddr 97 (Operand.tmp 6) 1, type := 0, pos := "lang.go:118", after := #[{ on := 15, ground := Ground.guard }], guard := some (15, false) } : Oper)) (v := undef) rfl (by kernel_rfl) (by kernel_rfl) (by kernel_rfl) (fun _ _ _ h => h) (Or.inr ⟨by kernel_rfl, rfl⟩) (by assumption) ?_
                try simp only [Act.put, List.setIfInBounds_toArray, List.set_cons_zero, List.set_cons_succ]
                refine wpAnyH_take (i := 18) (oi := ({ dst := some 62, op := Op.load 22 (Operand.tmp 61), type := 22, pos := "lang.go:118", after := #[{ on := 17, ground := Ground.data }, { on := 15, ground := Ground.guard }], guard := some (15, false) } : Oper)) (v := undef) rfl (by kernel_rfl) (by kernel_rfl) (by kernel_rfl) (fun _ _ _ h => h) (Or.inr ⟨by kernel_rfl, rfl⟩) (by assumption) ?_
                try simp only [Act.put, List.setIfInBounds_toArray, List.set_cons_zero, List.set_cons_succ]
                refine wpAnyH_take (i := 19) (oi := ({ dst := some 63, op := Op.call { callee := Callee.value (Operand.func 141), args := #[Operand.tmp 60, Operand.tmp 62], argTypes := #[192, 22] }, type := 3, pos := "lang.go:118", after := #[{ on := 16, ground := Ground.data }, { on := 18, ground := Ground.data }, { on := 15, ground := Ground.chain }, { on := 15, ground := Ground.guard }], guard := some (15, false) } : Oper)) (v := undef) rfl (by kernel_rfl) (by kernel_rfl) (by kernel_rfl) (fun _ _ _ h => h) (Or.inr ⟨by kernel_rfl, rfl⟩) (by assumption) ?_
                try simp only [Act.put, List.setIfInBounds_toArray, List.set_cons_zero, List.set_cons_succ]
                refine wpAnyH_take (i := 20) (oi := ({ dst := some 64, op := Op.move (Operand.tmp 0), type := 192, pos := "lang.go:118", after := #[{ on := 15, ground := Ground.guard }], guard := some (15, false) } : Oper)) (v := undef) rfl (by kernel_rfl) (by kernel_rfl) (by kernel_rfl) (fun _ _ _ h => h) (Or.inr ⟨by kernel_rfl, rfl⟩) (by assumption) ?_
                try simp only [Act.put, List.setIfInBounds_toArray, List.set_cons_zero, List.set_cons_succ]
                refine wpAnyH_take (i := 21) (oi := ({ dst := some 65, op := Op.nilCheck (Operand.tmp 64), type := 0, pos := "lang.go:118", after := #[{ on := 20, ground := Ground.data }, { on := 15, ground := Ground.guard }], guard := some (15, false) } : Oper)) (v := undef) rfl (by kernel_rfl) (by kernel_rfl) (by kernel_rfl) (fun _ _ _ h => h) (Or.inr ⟨by kernel_rfl, rfl⟩) (by assumption) ?_
                try simp only [Act.put, List.setIfInBounds_toArray, List.set_cons_zero, List.set_cons_succ]
                refine wpAnyH_take (i := 22) (oi := ({ dst := some 66, op := Op.fieldAddr 196 (Operand.tmp 65) 1, type := 0, pos := "lang.go:118", after := #[{ on := 21, ground := Ground.data }, { on := 15, ground := Ground.guard }], guard := some (15, false) } : Oper)) (v := undef) rfl (by kernel_rfl) (by kernel_rfl) (by kernel_rfl) (fun _ _ _ h => h) (Or.inr ⟨by kernel_rfl, rfl⟩) (by assumption) ?_
                try simp only [Act.put, List.setIfInBounds_toArray, List.set_cons_zero, List.set_cons_succ]
                refine wpAnyH_take (i := 23) (oi := ({ dst := some 67, op := Op.load 3 (Operand.tmp 66), type := 3, pos := "lang.go:118", after := #[{ on := 22, ground := Ground.data }, { on := 15, ground := Ground.guard }], guard := some (15, false) } : Oper)) (v := undef) rfl (by kernel_rfl) (by kernel_rfl) (by kernel_rfl) (fun _ _ _ h => h) (Or.inr ⟨by kernel_rfl, rfl⟩) (by assumption) ?_
                try simp only [Act.put, List.setIfInBounds_toArray, List.set_cons_zero, List.set_cons_succ]
                refine wpAnyH_take (i := 24) (oi := ({ dst := some 68, op := Op.binOp BinOp.gtr 3 (Operand.tmp 63) (Operand.tmp 67) 3, type := 4, pos := "lang.go:118", after := #[{ on := 19, ground := Ground.data }, { on := 23, ground := Ground.data }, { on := 15, ground := Ground.guard }], guard := some (15, false) } : Oper)) (v := undef) rfl (by kernel_rfl) (by kernel_rfl) (by kernel_rfl) (fun _ _ _ h => h) (Or.inr ⟨by kernel_rfl, rfl⟩) (by assumption) ?_
                try simp only [Act.put, List.setIfInBounds_toArray, List.set_cons_zero, List.set_cons_succ]
                refine wpAnyH_take (i := 25) (oi := ({ dst := some 69, op := Op.pick (Operand.tmp 59) (Operand.const (Value.bool true)) (Operand.tmp 68), type := 4, pos := "lang.go:118", after := #[{ on := 15, ground := Ground.data }, { on := 24, ground := Ground.data }], guard := none } : Oper)) (v := ?_) rfl (by kernel_rfl) (by kernel_rfl) (by kernel_rfl) (fun _ _ _ h => h) (Or.inl ⟨by kernel_rfl, ?_⟩) (by assumption) ?_
                rotate_left
                · intro w hSw
                  try dsimp only at hSw
                  go_simp
                  try with_reducible rfl
                try simp only [Act.put, List.setIfInBounds_toArray, List.set_cons_zero, List.set_cons_succ]
                refine wpAnyH_done (by kernel_rfl) ?_ _
                go_wp2_with fail
                go_roundg (F.G.prods.length - (i + 1))
                case measure => have := HkI.out; have := Hlt.out; omega
                case rel => exact Hskip.out _ HD.out (fun h => by have := Hliv.out.1 h.1; cases this)
              | true =>
                cases hal : Lg.aliveS F.ks x.2 with
                | false =>
                  rw [hal] at Halive
                  have Hal := hid hal
                  clear hal Hleast
                  refine wp_region_held_drew (S := fun W' : World => W'.cell? ⟨bf, 7, none⟩ = some (.slice (some ⟨gl, 0, none⟩) F.G.names.length F.G.names.length) ∧ W'.cell? ⟨gl, lf, none⟩ = some (.bool true) ∧ W'.cell? ⟨bx, 0, none⟩ = some (.int .i64 (lf : Int)) ∧ W'.cell? ⟨bx, 1, none⟩ = some (.slice gr xl cr) ∧ W'.cell? ⟨bf, 5, none⟩ = some (.int .i64 (F.most : Int))) (by kernel_rfl) (HS.out _ HD.out) (fun hHeld => ?_)
                  refine wpAnyH_take (i := 0) (oi := ({ dst := some 44, op := Op.move (Operand.tmp 0), type := 192, pos := "lang.go:118", after := #[], guard := none } : Oper)) (v := ?_) rfl (by kernel_rfl) (by kernel_rfl) (by kernel_rfl) (fun _ _ _ h => h) (Or.inl ⟨by kernel_rfl, ?_⟩) (by assumption) ?_
                  rotate_left
                  · intro w hSw
                    try dsimp only at hSw
                    go_simp
                    try with_reducible rfl
                  try simp only [Act.put, List.setIfInBounds_toArray, List.set_cons_zero, List.set_cons_succ]
                  refine wpAnyH_take (i := 1) (oi := ({ dst := some 45, op := Op.nilCheck (Operand.tmp 44), type := 0, pos := "lang.go:118", after := #[{ on := 0, ground := Ground.data }], guard := none } : Oper)) (v := ?_) rfl (by kernel_rfl) (by kernel_rfl) (by kernel_rfl) (fun _ _ _ h => h) (Or.inl ⟨by kernel_rfl, ?_⟩) (by assumption) ?_
                  rotate_left
                  · intro w hSw
                    try dsimp only at hSw
                    go_simp
                    try with_reducible rfl
                  try simp only [Act.put, List.setIfInBounds_toArray, List.set_cons_zero, List.set_cons_succ]
                  refine wpAnyH_take (i := 2) (oi := ({ dst := some 46, op := Op.fieldAddr 196 (Operand.tmp 45) 3, type := 0, pos := "lang.go:118", after := #[{ on := 1, ground := Ground.data }], guard := none } : Oper)) (v := ?_) rfl (by kernel_rfl) (by kernel_rfl) (by kernel_rfl) (fun _ _ _ h => h) (Or.inl ⟨by kernel_rfl, ?_⟩) (by assumption) ?_
                  rotate_left
                  · intro w hSw
                    try dsimp only at hSw
                    go_simp
                    try with_reducible rfl
                  try simp only [Act.put, List.setIfInBounds_toArray, List.set_cons_zero, List.set_cons_succ]
                  refine wpAnyH_take (i := 3) (oi := ({ dst := some 47, op := Op.load 133 (Operand.tmp 46), type := 133, pos := "lang.go:118", after := #[{ on := 2, ground := Ground.data }], guard := none } : Oper)) (v := ?_) rfl (by kernel_rfl) (by kernel_rfl) (by kernel_rfl) (fun _ _ _ h => h) (Or.inl ⟨by kernel_rfl, ?_⟩) (by assumption) ?_
                  rotate_left
                  · intro w hSw
                    try dsimp only at hSw
                    go_simp
                    try with_reducible rfl
                  try simp only [Act.put, List.setIfInBounds_toArray, List.set_cons_zero, List.set_cons_succ]
                  refine wpAnyH_take (i := 4) (oi := ({ dst := some 48, op := Op.fieldAddr 97 (Operand.tmp 6) 0, type := 0, pos := "lang.go:118", after := #[], guard := none } : Oper)) (v := ?_) rfl (by kernel_rfl) (by kernel_rfl) (by kernel_rfl) (fun _ _ _ h => h) (Or.inl ⟨by kernel_rfl, ?_⟩) (by assumption) ?_
                  rotate_left
                  · intro w hSw
                    try dsimp only at hSw
                    go_simp
                    try with_reducible rfl
                  try simp only [Act.put, List.setIfInBounds_toArray, List.set_cons_zero, List.set_cons_succ]
                  refine wpAnyH_take (i := 5) (oi := ({ dst := some 49, op := Op.load 3 (Operand.tmp 48), type := 3, pos := "lang.go:118", after := #[{ on := 4, ground := Ground.data }], guard := none } : Oper)) (v := ?_) rfl (by kernel_rfl) (by kernel_rfl) (by kernel_rfl) (fun _ _ _ h => h) (Or.inl ⟨by kernel_rfl, ?_⟩) (by assumption) ?_
                  rotate_left
                  · intro w hSw
                    try dsimp only at hSw
                    go_simp
                    try with_reducible rfl
                  try simp only [Act.put, List.setIfInBounds_toArray, List.set_cons_zero, List.set_cons_succ]
                  refine wpAnyH_take (i := 6) (oi := ({ dst := some 50, op := Op.indexAddr 133 (Operand.tmp 47) (Operand.tmp 49), type := 0, pos := "lang.go:118", after := #[{ on := 3, ground := Ground.data }, { on := 5, ground := Ground.data }], guard := none } : Oper)) (v := ?_) rfl (by kernel_rfl) (by kernel_rfl) (by kernel_rfl) (fun _ _ _ h => h) (Or.inl ⟨by kernel_rfl, ?_⟩) (by assumption) ?_
                  rotate_left
                  · intro w hSw
                    try dsimp only at hSw
                    go_simp
                    try with_reducible rfl
                  try simp only [Act.put, List.setIfInBounds_toArray, List.set_cons_zero, List.set_cons_succ]
                  refine wpAnyH_take (i := 7) (oi := ({ dst := some 51, op := Op.load 4 (Operand.tmp 50), type := 4, pos := "lang.go:118", after := #[{ on := 6, ground := Ground.data }], guard := none } : Oper)) (v := ?_) rfl (by kernel_rfl) (by kernel_rfl) (by kernel_rfl) (fun _ _ _ h => h) (Or.inl ⟨by kernel_rfl, ?_⟩) (by assumption) ?_
                  rotate_left
                  · intro w hSw
                    try dsimp only at hSw
                    go_simp
                    try with_reducible rfl
                  try simp only [Act.put, List.setIfInBounds_toArray, List.set_cons_zero, List.set_cons_succ]
                  refine wpAnyH_take (i := 8) (oi := ({ dst := some 52, op := Op.unOp UnOp.not 4 (Operand.tmp 51), type := 4, pos := "lang.go:118", after := #[{ on := 7, ground := Ground.data }], guard := none } : Oper)) (v := ?_) rfl (by kernel_rfl) (by kernel_rfl) (by kernel_rfl) (fun _ _ _ h => h) (Or.inl ⟨by kernel_rfl, ?_⟩) (by assumption) ?_
                  rotate_left
                  · intro w hSw
                    try dsimp only at hSw
                    go_simp
                    try with_reducible rfl
                  try simp only [Act.put, List.setIfInBounds_toArray, List.set_cons_zero, List.set_cons_succ]
                  refine wpAnyH_take (i := 9) (oi := ({ dst := some 53, op := Op.move (Operand.tmp 52), type := 4, pos := "lang.go:118", after := #[{ on := 8, ground := Ground.data }], guard := none } : Oper)) (v := ?_) rfl (by kernel_rfl) (by kernel_rfl) (by kernel_rfl) (fun _ _ _ h => h) (Or.inl ⟨by kernel_rfl, ?_⟩) (by assumption) ?_
                  rotate_left
                  · intro w hSw
                    try dsimp only at hSw
                    go_simp
                    try with_reducible rfl
                  try simp only [Act.put, List.setIfInBounds_toArray, List.set_cons_zero, List.set_cons_succ]
                  refine wpAnyH_take (i := 10) (oi := ({ dst := some 54, op := Op.move (Operand.tmp 0), type := 192, pos := "lang.go:118", after := #[{ on := 9, ground := Ground.guard }], guard := some (9, false) } : Oper)) (v := ?_) rfl (by kernel_rfl) (by kernel_rfl) (by kernel_rfl) (fun _ _ _ h => h) (Or.inl ⟨by kernel_rfl, ?_⟩) (by assumption) ?_
                  rotate_left
                  · intro w hSw
                    try dsimp only at hSw
                    go_simp
                    try with_reducible rfl
                  try simp only [Act.put, List.setIfInBounds_toArray, List.set_cons_zero, List.set_cons_succ]
                  refine wpAnyH_take (i := 11) (oi := ({ dst := some 55, op := Op.load 97 (Operand.tmp 6), type := 97, pos := "lang.go:118", after := #[{ on := 9, ground := Ground.guard }], guard := some (9, false) } : Oper)) (v := ?_) rfl (by kernel_rfl) (by kernel_rfl) (by kernel_rfl) (fun _ _ _ h => h) (Or.inl ⟨by kernel_rfl, ?_⟩) (by assumption) ?_
                  rotate_left
                  · intro w hSw
                    try dsimp only at hSw
                    go_simp
                    try with_reducible rfl
                  try simp only [Act.put, List.setIfInBounds_toArray, List.set_cons_zero, List.set_cons_succ]
                  refine wpAnyH_ready (rs := [12]) (by kernel_rfl) (by simp) ?_
                  refine AllReadyH.cons (o := ({ dst := some 56, op := Op.call { callee := Callee.value (Operand.func 140), args := #[Operand.tmp 54, Operand.tmp 55], argTypes := #[192, 97] }, type := 4, pos := "lang.go:118", after := #[{ on := 10, ground := Ground.data }, { on := 11, ground := Ground.data }, { on := 9, ground := Ground.chain }, { on := 9, ground := Ground.guard }], guard := some (9, false) } : Oper)) rfl (fun K hK => ?_) AllReadyH.nil
                  go_simp
                  go_at_call 140
                  refine Halive.out.mono ?_
                  rintro e wa ⟨rfl, hwa⟩
                  have hba : Below wv.heap.size wv wa := (by rw [hwa]; exact bel_al (bel_al HD.out _) _)
                  have Hba := hid hba
                  clear hwa hba
                  try go_simp
                  refine hK.out _ _ (HS.out _ Hba.out) (fun hH2 => ?_)
                  clear hK K hHeld
                  have hHeld := hH2
                  clear hH2
                  try simp only [Act.put, List.setIfInBounds_toArray, List.set_cons_zero, List.set_cons_succ]
                  refine wpAnyH_take (i := 13) (oi := ({ dst := some 57, op := Op.unOp UnOp.not 4 (Operand.tmp 56), type := 4, pos := "lang.go:118", after := #[{ on := 12, ground := Ground.data }, { on := 9, ground := Ground.guard }], guard := some (9, false) } : Oper)) (v := ?_) rfl (by kernel_rfl) (by kernel_rfl) (by kernel_rfl) (fun _ _ _ h => h) (Or.inl ⟨by kernel_rfl, ?_⟩) (by assumption) ?_
                  rotate_left
                  · intro w hSw
                    try dsimp only at hSw
                    go_simp
                    try with_reducible rfl
                  try simp only [Act.put, List.setIfInBounds_toArray, List.set_cons_zero, List.set_cons_succ]
                  refine wpAnyH_take (i := 14) (oi := ({ dst := some 58, op := Op.pick (Operand.tmp 53) (Operand.const (Value.bool true)) (Operand.tmp 57), type := 4, pos := "lang.go:118", after := #[{ on := 9, ground := Ground.data }, { on := 13, ground := Ground.data }], guard := none } : Oper)) (v := ?_) rfl (by kernel_rfl) (by kernel_rfl) (by kernel_rfl) (fun _ _ _ h => h) (Or.inl ⟨by kernel_rfl, ?_⟩) (by assumption) ?_
                  rotate_left
                  · intro w hSw
                    try dsimp only at hSw
                    go_simp
                    try with_reducible rfl
                  try simp only [Act.put, List.setIfInBounds_toArray, List.set_cons_zero, List.set_cons_succ]
                  refine wpAnyH_take (i := 15) (oi := ({ dst := some 59, op := Op.move (Operand.tmp 58), type := 4, pos := "lang.go:118", after := #[{ on := 14, ground := Ground.data }, { on := 12, ground := Ground.chain }], guard := none } : Oper)) (v := ?_) rfl (by kernel_rfl) (by kernel_rfl) (by kernel_rfl) (fun _ _ _ h => h) (Or.inl ⟨by kernel_rfl, ?_⟩) (by assumption) ?_
                  rotate_left
                  · intro w hSw
                    try dsimp only at hSw
                    go_simp
                    try with_reducible rfl
                  try simp only [Act.put, List.setIfInBounds_toArray, List.set_cons_zero, List.set_cons_succ]
                  refine wpAnyH_take (i := 16) (oi := ({ dst := some 60, op := Op.move (Operand.tmp 0), type := 192, pos := "lang.go:118", after := #[{ on := 15, ground := Ground.guard }], guard := some (15, false) } : Oper)) (v := undef) rfl (by kernel_rfl) (by kernel_rfl) (by kernel_rfl) (fun _ _ _ h => h) (Or.inr ⟨by kernel_rfl, rfl⟩) (by assumption) ?_
                  try simp only [Act.put, List.setIfInBounds_toArray, List.set_cons_zero, List.set_cons_succ]
                  refine wpAnyH_take (i := 17) (oi := ({ dst := some 61, op := Op.fieldAddr 97 (Operand.tmp 6) 1, type := 0, pos := "lang.go:118", after := #[{ on := 15, ground := Ground.guard }], guard := some (15, false) } : Oper)) (v := undef) rfl (by kernel_rfl) (by kernel_rfl) (by kernel_rfl) (fun _ _ _ h => h) (Or.inr ⟨by kernel_rfl, rfl⟩) (by assumption) ?_
                  try simp only [Act.put, List.setIfInBounds_toArray, List.set_cons_zero, List.set_cons_succ]
                  refine wpAnyH_take (i := 18) (oi := ({ dst := some 62, op := Op.load 22 (Operand.tmp 61), type := 22, pos := "lang.go:118", after := #[{ on := 17, ground := Ground.data }, { on := 15, ground := Ground.guard }], guard := some (15, false) } : Oper)) (v := undef) rfl (by kernel_rfl) (by kernel_rfl) (by kernel_rfl) (fun _ _ _ h => h) (Or.inr ⟨by kernel_rfl, rfl⟩) (by assumption) ?_
                  try simp only [Act.put, List.setIfInBounds_toArray, List.set_cons_zero, List.set_cons_succ]
                  refine wpAnyH_take (i := 19) (oi := ({ dst := some 63, op := Op.call { callee := Callee.value (Operand.func 141), args := #[Operand.tmp 60, Operand.tmp 62], argTypes := #[192, 22] }, type := 3, pos := "lang.go:118", after := #[{ on := 16, ground := Ground.data }, { on := 18, ground := Ground.data }, { on := 15, ground := Ground.chain }, { on := 15, ground := Ground.guard }], guard := some (15, false) } : Oper)) (v := undef) rfl (by kernel_rfl) (by kernel_rfl) (by kernel_rfl) (fun _ _ _ h => h) (Or.inr ⟨by kernel_rfl, rfl⟩) (by assumption) ?_
                  try simp only [Act.put, List.setIfInBounds_toArray, List.set_cons_zero, List.set_cons_succ]
                  refine wpAnyH_take (i := 20) (oi := ({ dst := some 64, op := Op.move (Operand.tmp 0), type := 192, pos := "lang.go:118", after := #[{ on := 15, ground := Ground.guard }], guard := some (15, false) } : Oper)) (v := undef) rfl (by kernel_rfl) (by kernel_rfl) (by kernel_rfl) (fun _ _ _ h => h) (Or.inr ⟨by kernel_rfl, rfl⟩) (by assumption) ?_
                  try simp only [Act.put, List.setIfInBounds_toArray, List.set_cons_zero, List.set_cons_succ]
                  refine wpAnyH_take (i := 21) (oi := ({ dst := some 65, op := Op.nilCheck (Operand.tmp 64), type := 0, pos := "lang.go:118", after := #[{ on := 20, ground := Ground.data }, { on := 15, ground := Ground.guard }], guard := some (15, false) } : Oper)) (v := undef) rfl (by kernel_rfl) (by kernel_rfl) (by kernel_rfl) (fun _ _ _ h => h) (Or.inr ⟨by kernel_rfl, rfl⟩) (by assumption) ?_
                  try simp only [Act.put, List.setIfInBounds_toArray, List.set_cons_zero, List.set_cons_succ]
                  refine wpAnyH_take (i := 22) (oi := ({ dst := some 66, op := Op.fieldAddr 196 (Operand.tmp 65) 1, type := 0, pos := "lang.go:118", after := #[{ on := 21, ground := Ground.data }, { on := 15, ground := Ground.guard }], guard := some (15, false) } : Oper)) (v := undef) rfl (by kernel_rfl) (by kernel_rfl) (by kernel_rfl) (fun _ _ _ h => h) (Or.inr ⟨by kernel_rfl, rfl⟩) (by assumption) ?_
                  try simp only [Act.put, List.setIfInBounds_toArray, List.set_cons_zero, List.set_cons_succ]
                  refine wpAnyH_take (i := 23) (oi := ({ dst := some 67, op := Op.load 3 (Operand.tmp 66), type := 3, pos := "lang.go:118", after := #[{ on := 22, ground := Ground.data }, { on := 15, ground := Ground.guard }], guard := some (15, false) } : Oper)) (v := undef) rfl (by kernel_rfl) (by kernel_rfl) (by kernel_rfl) (fun _ _ _ h => h) (Or.inr ⟨by kernel_rfl, rfl⟩) (by assumption) ?_
                  try simp only [Act.put, List.setIfInBounds_toArray, List.set_cons_zero, List.set_cons_succ]
                  refine wpAnyH_take (i := 24) (oi := ({ dst := some 68, op := Op.binOp BinOp.gtr 3 (Operand.tmp 63) (Operand.tmp 67) 3, type := 4, pos := "lang.go:118", after := #[{ on := 19, ground := Ground.data }, { on := 23, ground := Ground.data }, { on := 15, ground := Ground.guard }], guard := some (15, false) } : Oper)) (v := undef) rfl (by kernel_rfl) (by kernel_rfl) (by kernel_rfl) (fun _ _ _ h => h) (Or.inr ⟨by kernel_rfl, rfl⟩) (by assumption) ?_
                  try simp only [Act.put, List.setIfInBounds_toArray, List.set_cons_zero, List.set_cons_succ]
                  refine wpAnyH_take (i := 25) (oi := ({ dst := some 69, op := Op.pick (Operand.tmp 59) (Operand.const (Value.bool true)) (Operand.tmp 68), type := 4, pos := "lang.go:118", after := #[{ on := 15, ground := Ground.data }, { on := 24, ground := Ground.data }], guard := none } : Oper)) (v := ?_) rfl (by kernel_rfl) (by kernel_rfl) (by kernel_rfl) (fun _ _ _ h => h) (Or.inl ⟨by kernel_rfl, ?_⟩) (by assumption) ?_
                  rotate_left
                  · intro w hSw
                    try dsimp only at hSw
                    go_simp
                    try with_reducible rfl
                  try simp only [Act.put, List.setIfInBounds_toArray, List.set_cons_zero, List.set_cons_succ]
                  refine wpAnyH_done (by kernel_rfl) ?_ _
                  go_wp2_with fail
                  go_roundg (F.G.prods.length - (i + 1))
                  case measure => have := HkI.out; have := Hlt.out; omega
                  case rel => exact Hskip.out _ Hba.out (fun h => by have h1 := h.2.1; rw [Hal.out] at h1; cases h1)
                | true =>
                  rw [hal] at Halive
                  have Hleast := hid (Hleast.out hal)
                  have hlz := Lg.leastS_eq (n := 0) (Lg.aliveS_iff.1 hal) (by omega) (by omega)
                  rw [Int.zero_add] at hlz
                  have htp := Lg.tot_pos (Lg.aliveS_iff.1 hal)
                  obtain ⟨lz, hlze⟩ : ∃ lz, lz = Lg.leastS F.ks x.2 0 := ⟨_, rfl⟩
                  rw [← hlze] at hlz
                  rw [← hlze] at Hleast
                  have Hal := hid hal
                  by_cases htm : Lg.tot F.ks x.2 ≤ F.most
                  · have hgt : ¬ (F.most : Int) < lz := by omega
                    have Huse := hid (show Lg.use F.ks (liveP bs) F.most x from ⟨Hliv.out.2 rfl, hal, htm⟩)
                    have Htm := hid htm
                    clear hal hlz htp hlze htm
                    refine wp_region_held_drew (S := fun W' : World => W'.cell? ⟨bf, 7, none⟩ = some (.slice (some ⟨gl, 0, none⟩) F.G.names.length F.G.names.length) ∧ W'.cell? ⟨gl, lf, none⟩ = some (.bool true) ∧ W'.cell? ⟨bx, 0, none⟩ = some (.int .i64 (lf : Int)) ∧ W'.cell? ⟨bx, 1, none⟩ = some (.slice gr xl cr) ∧ W'.cell? ⟨bf, 5, none⟩ = some (.int .i64 (F.most : Int))) (by kernel_rfl) (HS.out _ HD.out) (fun hHeld => ?_)
                    refine wpAnyH_take (i := 0) (oi := ({ dst := some 44, op := Op.move (Operand.tmp 0), type := 192, pos := "lang.go:118", after := #[], guard := none } : Oper)) (v := ?_) rfl (by kernel_rfl) (by kernel_rfl) (by kernel_rfl) (fun _ _ _ h => h) (Or.inl ⟨by kernel_rfl, ?_⟩) (by assumption) ?_
                    rotate_left
                    · intro w hSw
                      try dsimp only at hSw
                      go_simp
                      try with_reducible rfl
                    try simp only [Act.put, List.setIfInBounds_toArray, List.set_cons_zero, List.set_cons_succ]
                    refine wpAnyH_take (i := 1) (oi := ({ dst := some 45, op := Op.nilCheck (Operand.tmp 44), type := 0, pos := "lang.go:118", after := #[{ on := 0, ground := Ground.data }], guard := none } : Oper)) (v := ?_) rfl (by kernel_rfl) (by kernel_rfl) (by kernel_rfl) (fun _ _ _ h => h) (Or.inl ⟨by kernel_rfl, ?_⟩) (by assumption) ?_
                    rotate_left
                    · intro w hSw
                      try dsimp only at hSw
                      go_simp
                      try with_reducible rfl
                    try simp only [Act.put, List.setIfInBounds_toArray, List.set_cons_zero, List.set_cons_succ]
                    refine wpAnyH_take (i := 2) (oi := ({ dst := some 46, op := Op.fieldAddr 196 (Operand.tmp 45) 3, type := 0, pos := "lang.go:118", after := #[{ on := 1, ground := Ground.data }], guard := none } : Oper)) (v := ?_) rfl (by kernel_rfl) (by kernel_rfl) (by kernel_rfl) (fun _ _ _ h => h) (Or.inl ⟨by kernel_rfl, ?_⟩) (by assumption) ?_
                    rotate_left
                    · intro w hSw
                      try dsimp only at hSw
                      go_simp
                      try with_reducible rfl
                    try simp only [Act.put, List.setIfInBounds_toArray, List.set_cons_zero, List.set_cons_succ]
                    refine wpAnyH_take (i := 3) (oi := ({ dst := some 47, op := Op.load 133 (Operand.tmp 46), type := 133, pos := "lang.go:118", after := #[{ on := 2, ground := Ground.data }], guard := none } : Oper)) (v := ?_) rfl (by kernel_rfl) (by kernel_rfl) (by kernel_rfl) (fun _ _ _ h => h) (Or.inl ⟨by kernel_rfl, ?_⟩) (by assumption) ?_
                    rotate_left
                    · intro w hSw
                      try dsimp only at hSw
                      go_simp
                      try with_reducible rfl
                    try simp only [Act.put, List.setIfInBounds_toArray, List.set_cons_zero, List.set_cons_succ]
                    refine wpAnyH_take (i := 4) (oi := ({ dst := some 48, op := Op.fieldAddr 97 (Operand.tmp 6) 0, type := 0, pos := "lang.go:118", after := #[], guard := none } : Oper)) (v := ?_) rfl (by kernel_rfl) (by kernel_rfl) (by kernel_rfl) (fun _ _ _ h => h) (Or.inl ⟨by kernel_rfl, ?_⟩) (by assumption) ?_
                    rotate_left
                    · intro w hSw
                      try dsimp only at hSw
                      go_simp
                      try with_reducible rfl
                    try simp only [Act.put, List.setIfInBounds_toArray, List.set_cons_zero, List.set_cons_succ]
                    refine wpAnyH_take (i := 5) (oi := ({ dst := some 49, op := Op.load 3 (Operand.tmp 48), type := 3, pos := "lang.go:118", after := #[{ on := 4, ground := Ground.data }], guard := none } : Oper)) (v := ?_) rfl (by kernel_rfl) (by kernel_rfl) (by kernel_rfl) (fun _ _ _ h => h) (Or.inl ⟨by kernel_rfl, ?_⟩) (by assumption) ?_
                    rotate_left
                    · intro w hSw
                      try dsimp only at hSw
                      go_simp
                      try with_reducible rfl
                    try simp only [Act.put, List.setIfInBounds_toArray, List.set_cons_zero, List.set_cons_succ]
                    refine wpAnyH_take (i := 6) (oi := ({ dst := some 50, op := Op.indexAddr 133 (Operand.tmp 47) (Operand.tmp 49), type := 0, pos := "lang.go:118", after := #[{ on := 3, ground := Ground.data }, { on := 5, ground := Ground.data }], guard := none } : Oper)) (v := ?_) rfl (by kernel_rfl) (by kernel_rfl) (by kernel_rfl) (fun _ _ _ h => h) (Or.inl ⟨by kernel_rfl, ?_⟩) (by assumption) ?_
                    rotate_left
                    · intro w hSw
                      try dsimp only at hSw
                      go_simp
                      try with_reducible rfl
                    try simp only [Act.put, List.setIfInBounds_toArray, List.set_cons_zero, List.set_cons_succ]
                    refine wpAnyH_take (i := 7) (oi := ({ dst := some 51, op := Op.load 4 (Operand.tmp 50), type := 4, pos := "lang.go:118", after := #[{ on := 6, ground := Ground.data }], guard := none } : Oper)) (v := ?_) rfl (by kernel_rfl) (by kernel_rfl) (by kernel_rfl) (fun _ _ _ h => h) (Or.inl ⟨by kernel_rfl, ?_⟩) (by assumption) ?_
                    rotate_left
                    · intro w hSw
                      try dsimp only at hSw
                      go_simp
                      try with_reducible rfl
                    try simp only [Act.put, List.setIfInBounds_toArray, List.set_cons_zero, List.set_cons_succ]
                    refine wpAnyH_take (i := 8) (oi := ({ dst := some 52, op := Op.unOp UnOp.not 4 (Operand.tmp 51), type := 4, pos := "lang.go:118", after := #[{ on := 7, ground := Ground.data }], guard := none } : Oper)) (v := ?_) rfl (by kernel_rfl) (by kernel_rfl) (by kernel_rfl) (fun _ _ _ h => h) (Or.inl ⟨by kernel_rfl, ?_⟩) (by assumption) ?_
                    rotate_left
                    · intro w hSw
                      try dsimp only at hSw
                      go_simp
                      try with_reducible rfl
                    try simp only [Act.put, List.setIfInBounds_toArray, List.set_cons_zero, List.set_cons_succ]
                    refine wpAnyH_take (i := 9) (oi := ({ dst := some 53, op := Op.move (Operand.tmp 52), type := 4, pos := "lang.go:118", after := #[{ on := 8, ground := Ground.data }], guard := none } : Oper)) (v := ?_) rfl (by kernel_rfl) (by kernel_rfl) (by kernel_rfl) (fun _ _ _ h => h) (Or.inl ⟨by kernel_rfl, ?_⟩) (by assumption) ?_
                    rotate_left
                    · intro w hSw
                      try dsimp only at hSw
                      go_simp
                      try with_reducible rfl
                    try simp only [Act.put, List.setIfInBounds_toArray, List.set_cons_zero, List.set_cons_succ]
                    refine wpAnyH_take (i := 10) (oi := ({ dst := some 54, op := Op.move (Operand.tmp 0), type := 192, pos := "lang.go:118", after := #[{ on := 9, ground := Ground.guard }], guard := some (9, false) } : Oper)) (v := ?_) rfl (by kernel_rfl) (by kernel_rfl) (by kernel_rfl) (fun _ _ _ h => h) (Or.inl ⟨by kernel_rfl, ?_⟩) (by assumption) ?_
                    rotate_left
                    · intro w hSw
                      try dsimp only at hSw
                      go_simp
                      try with_reducible rfl
                    try simp only [Act.put, List.setIfInBounds_toArray, List.set_cons_zero, List.set_cons_succ]
                    refine wpAnyH_take (i := 11) (oi := ({ dst := some 55, op := Op.load 97 (Operand.tmp 6), type := 97, pos := "lang.go:118", after := #[{ on := 9, ground := Ground.guard }], guard := some (9, false) } : Oper)) (v := ?_) rfl (by kernel_rfl) (by kernel_rfl) (by kernel_rfl) (fun _ _ _ h => h) (Or.inl ⟨by kernel_rfl, ?_⟩) (by assumption) ?_
                    rotate_left
                    · intro w hSw
                      try dsimp only at hSw
                      go_simp
                      try with_reducible rfl
                    try simp only [Act.put, List.setIfInBounds_toArray, List.set_cons_zero, List.set_cons_succ]
                    refine wpAnyH_ready (rs := [12]) (by kernel_rfl) (by simp) ?_
                    refine AllReadyH.cons (o := ({ dst := some 56, op := Op.call { callee := Callee.value (Operand.func 140), args := #[Operand.tmp 54, Operand.tmp 55], argTypes := #[192, 97] }, type := 4, pos := "lang.go:118", after := #[{ on := 10, ground := Ground.data }, { on := 11, ground := Ground.data }, { on := 9, ground := Ground.chain }, { on := 9, ground := Ground.guard }], guard := some (9, false) } : Oper)) rfl (fun K hK => ?_) AllReadyH.nil
                    go_simp
                    go_at_call 140
                    refine Halive.out.mono ?_
                    rintro e wa ⟨rfl, hwa⟩
                    have hba : Below wv.heap.size wv wa := (by rw [hwa]; exact bel_al (bel_al HD.out _) _)
                    have Hba := hid hba
                    clear hwa hba
                    try go_simp
                    refine hK.out _ _ (HS.out _ Hba.out) (fun hH2 => ?_)
                    clear hK K hHeld
                    have hHeld := hH2
                    clear hH2
                    try simp only [Act.put, List.setIfInBounds_toArray, List.set_cons_zero, List.set_cons_succ]
                    refine wpAnyH_take (i := 13) (oi := ({ dst := some 57, op := Op.unOp UnOp.not 4 (Operand.tmp 56), type := 4, pos := "lang.go:118", after := #[{ on := 12, ground := Ground.data }, { on := 9, ground := Ground.guard }], guard := some (9, false) } : Oper)) (v := ?_) rfl (by kernel_rfl) (by kernel_rfl) (by kernel_rfl) (fun _ _ _ h => h) (Or.inl ⟨by kernel_rfl, ?_⟩) (by assumption) ?_
                    rotate_left
                    · intro w hSw
                      try dsimp only at hSw
                      go_simp
                      try with_reducible rfl
                    try simp only [Act.put, List.setIfInBounds_toArray, List.set_cons_zero, List.set_cons_succ]
                    refine wpAnyH_take (i := 14) (oi := ({ dst := some 58, op := Op.pick (Operand.tmp 53) (Operand.const (Value.bool true)) (Operand.tmp 57), type := 4, pos := "lang.go:118", after := #[{ on := 9, ground := Ground.data }, { on := 13, ground := Ground.data }], guard := none } : Oper)) (v := ?_) rfl (by kernel_rfl) (by kernel_rfl) (by kernel_rfl) (fun _ _ _ h => h) (Or.inl ⟨by kernel_rfl, ?_⟩) (by assumption) ?_
                    rotate_left
                    · intro w hSw
                      try dsimp only at hSw
                      go_simp
                      try with_reducible rfl
                    try simp only [Act.put, List.setIfInBounds_toArray, List.set_cons_zero, List.set_cons_succ]
                    refine wpAnyH_take (i := 15) (oi := ({ dst := some 59, op := Op.move (Operand.tmp 58), type := 4, pos := "lang.go:118", after := #[{ on := 14, ground := Ground.data }, { on := 12, ground := Ground.chain }], guard := none } : Oper)) (v := ?_) rfl (by kernel_rfl) (by kernel_rfl) (by kernel_rfl) (fun _ _ _ h => h) (Or.inl ⟨by kernel_rfl, ?_⟩) (by assumption) ?_
                    rotate_left
                    · intro w hSw
                      try dsimp only at hSw
                      go_simp
                      try with_reducible rfl
                    try simp only [Act.put, List.setIfInBounds_toArray, List.set_cons_zero, List.set_cons_succ]
                    refine wpAnyH_take (i := 16) (oi := ({ dst := some 60, op := Op.move (Operand.tmp 0), type := 192, pos := "lang.go:118", after := #[{ on := 15, ground := Ground.guard }], guard := some (15, false) } : Oper)) (v := ?_) rfl (by kernel_rfl) (by kernel_rfl) (by kernel_rfl) (fun _ _ _ h => h) (Or.inl ⟨by kernel_rfl, ?_⟩) (by assumption) ?_
                    rotate_left
                    · intro w hSw
                      try dsimp only at hSw
                      go_simp
                      try with_reducible rfl
                    try simp only [Act.put, List.setIfInBounds_toArray, List.set_cons_zero, List.set_cons_succ]
                    refine wpAnyH_take (i := 17) (oi := ({ dst := some 61, op := Op.fieldAddr 97 (Operand.tmp 6) 1, type := 0, pos := "lang.go:118", after := #[{ on := 15, ground := Ground.guard }], guard := some (15, false) } : Oper)) (v := ?_) rfl (by kernel_rfl) (by kernel_rfl) (by kernel_rfl) (fun _ _ _ h => h) (Or.inl ⟨by kernel_rfl, ?_⟩) (by assumption) ?_
                    rotate_left
                    · intro w hSw
                      try dsimp only at hSw
                      go_simp
                      try with_reducible rfl
                    try simp only [Act.put, List.setIfInBounds_toArray, List.set_cons_zero, List.set_cons_succ]
                    refine wpAnyH_take (i := 18) (oi := ({ dst := some 62, op := Op.load 22 (Operand.tmp 61), type := 22, pos := "lang.go:118", after := #[{ on := 17, ground := Ground.data }, { on := 15, ground := Ground.guard }], guard := some (15, false) } : Oper)) (v := ?_) rfl (by kernel_rfl) (by kernel_rfl) (by kernel_rfl) (fun _ _ _ h => h) (Or.inl ⟨by kernel_rfl, ?_⟩) (by assumption) ?_
                    rotate_left
                    · intro w hSw
                      try dsimp only at hSw
                      go_simp
                      try with_reducible rfl
                    try simp only [Act.put, List.setIfInBounds_toArray, List.set_cons_zero, List.set_cons_succ]
                    refine wpAnyH_take (i := 20) (oi := ({ dst := some 64, op := Op.move (Operand.tmp 0), type := 192, pos := "lang.go:118", after := #[{ on := 15, ground := Ground.guard }], guard := some (15, false) } : Oper)) (v := ?_) rfl (by kernel_rfl) (by kernel_rfl) (by kernel_rfl) (fun _ _ _ h => h) (Or.inl ⟨by kernel_rfl, ?_⟩) (by assumption) ?_
                    rotate_left
                    · intro w hSw
                      try dsimp only at hSw
                      go_simp
                      try with_reducible rfl
                    try simp only [Act.put, List.setIfInBounds_toArray, List.set_cons_zero, List.set_cons_succ]
                    refine wpAnyH_take (i := 21) (oi := ({ dst := some 65, op := Op.nilCheck (Operand.tmp 64), type := 0, pos := "lang.go:118", after := #[{ on := 20, ground := Ground.data }, { on := 15, ground := Ground.guard }], guard := some (15, false) } : Oper)) (v := ?_) rfl (by kernel_rfl) (by kernel_rfl) (by kernel_rfl) (fun _ _ _ h => h) (Or.inl ⟨by kernel_rfl, ?_⟩) (by assumption) ?_
                    rotate_left
                    · intro w hSw
                      try dsimp only at hSw
                      go_simp
                      try with_reducible rfl
                    try simp only [Act.put, List.setIfInBounds_toArray, List.set_cons_zero, List.set_cons_succ]
                    refine wpAnyH_take (i := 22) (oi := ({ dst := some 66, op := Op.fieldAddr 196 (Operand.tmp 65) 1, type := 0, pos := "lang.go:118", after := #[{ on := 21, ground := Ground.data }, { on := 15, ground := Ground.guard }], guard := some (15, false) } : Oper)) (v := ?_) rfl (by kernel_rfl) (by kernel_rfl) (by kernel_rfl) (fun _ _ _ h => h) (Or.inl ⟨by kernel_rfl, ?_⟩) (by assumption) ?_
                    rotate_left
                    · intro w hSw
                      try dsimp only at hSw
                      go_simp
                      try with_reducible rfl
                    try simp only [Act.put, List.setIfInBounds_toArray, List.set_cons_zero, List.set_cons_succ]
                    refine wpAnyH_take (i := 23) (oi := ({ dst := some 67, op := Op.load 3 (Operand.tmp 66), type := 3, pos := "lang.go:118", after := #[{ on := 22, ground := Ground.data }, { on := 15, ground := Ground.guard }], guard := some (15, false) } : Oper)) (v := ?_) rfl (by kernel_rfl) (by kernel_rfl) (by kernel_rfl) (fun _ _ _ h => h) (Or.inl ⟨by kernel_rfl, ?_⟩) (by assumption) ?_
                    rotate_left
                    · intro w hSw
                      try dsimp only at hSw
                      go_simp
                      try with_reducible rfl
                    try simp only [Act.put, List.setIfInBounds_toArray, List.set_cons_zero, List.set_cons_succ]
                    refine wpAnyH_ready (rs := [19]) (by kernel_rfl) (by simp) ?_
                    refine AllReadyH.cons (o := ({ dst := some 63, op := Op.call { callee := Callee.value (Operand.func 141), args := #[Operand.tmp 60, Operand.tmp 62], argTypes := #[192, 22] }, type := 3, pos := "lang.go:118", after := #[{ on := 16, ground := Ground.data }, { on := 18, ground := Ground.data }, { on := 15, ground := Ground.chain }, { on := 15, ground := Ground.guard }], guard := some (15, false) } : Oper)) rfl (fun K hK => ?_) AllReadyH.nil
                    go_simp
                    go_at_call 141
                    refine (Hleast.out _ Hba.out).mono ?_
                    rintro e wl ⟨rfl, rfl⟩
                    try go_simp
                    refine hK.out _ _ (HS.out _ Hba.out) (fun hH2 => ?_)
                    clear hK K hHeld
                    have hHeld := hH2
                    clear hH2
                    try simp only [Act.put, List.setIfInBounds_toArray, List.set_cons_zero, List.set_cons_succ]
                    refine wpAnyH_take (i := 24) (oi := ({ dst := some 68, op := Op.binOp BinOp.gtr 3 (Operand.tmp 63) (Operand.tmp 67) 3, type := 4, pos := "lang.go:118", after := #[{ on := 19, ground := Ground.data }, { on := 23, ground := Ground.data }, { on := 15, ground := Ground.guard }], guard := some (15, false) } : Oper)) (v := ?_) rfl (by kernel_rfl) (by kernel_rfl) (by kernel_rfl) (fun _ _ _ h => h) (Or.inl ⟨by kernel_rfl, ?_⟩) (by assumption) ?_
                    rotate_left
                    · intro w hSw
                      try dsimp only at hSw
                      go_simp
                      try with_reducible rfl
                    try simp only [Act.put, List.setIfInBounds_toArray, List.set_cons_zero, List.set_cons_succ]
                    refine wpAnyH_take (i := 25) (oi := ({ dst := some 69, op := Op.pick (Operand.tmp 59) (Operand.const (Value.bool true)) (Operand.tmp 68), type := 4, pos := "lang.go:118", after := #[{ on := 15, ground := Ground.data }, { on := 24, ground := Ground.data }], guard := none } : Oper)) (v := ?_) rfl (by kernel_rfl) (by kernel_rfl) (by kernel_rfl) (fun _ _ _ h => h) (Or.inl ⟨by kernel_rfl, ?_⟩) (by assumption) ?_
                    rotate_left
                    · intro w hSw
                      try dsimp only at hSw
                      go_simp
                      try with_reducible rfl
                    try simp only [Act.put, List.setIfInBounds_toArray, List.set_cons_zero, List.set_cons_succ]
                    refine wpAnyH_done (by kernel_rfl) ?_ _
                    have hMa : FdM F bf gl gw bs ms W w wa := ⟨HM9.out.f.later Hba.out, HM9.out.d.kp (S := fun _ => False) ⟨Hba.out.os, Hba.out.tape, Hba.out.output, Hba.out.size, fun k hk _ => Hba.out.block k hk⟩ (fun _ e => e.elim), HM9.out.k.trans ⟨Hba.out.os, Hba.out.tape, Hba.out.output, Hba.out.size, fun k hk _ => Hba.out.block k hk⟩, HM9.out.s, HM9.out.l, HM9.out.z⟩
                    have hround := round_calls F HF.out wa bf gl gw F.G.names.length F.G.names.length bs ms W x gr cr hMa.f hMa.d hMa.s hMa.l Hx.out.2.1 Huse.out.2.1 Huse.out.2.2 Hrow.out (by rw [← Hx.out.2.2.2.1]; exact Hx.out.2.2.2.2)
                    have hkk : ∀ W', Kp (fun k => k = bf ∨ k ∈ ms) wa W' → Kp (fun k => k = bf) w W'.drew := fun W' hk => ((hMa.k.mono (S' := fun k => k = bf ∨ k ∈ ms) fun k _ e => .inl e).trans hk).drew.mono fun k hk e => e.resolve_right (fun hm => by
                      obtain ⟨a, ha⟩ := List.mem_iff_getElem?.1 hm
                      have h1 := (hMa.d.m a k ha).2
                      have h2 := hMa.z
                      omega)
                    unfold RoundSaid at hround
                    rw [Hx.out.2.2.1, Int.toNat_natCast, ← Hx.out.2.2.2.1] at hround
                    obtain ⟨-, -, x0, x1, -⟩ := HS.out _ Hba.out
                    have Hkk := hid hkk
                    have Hround := hid hround
                    clear hMa hround hkk
                    go_upto_if 72 with (go_at_call 142; refine Hround.out.mono ?_; rintro e wd ⟨many, b, Wn, rfl, qf, qd, qk, qn, qc⟩)
                    have Hr := hid (And.intro qf (And.intro qd (And.intro qk (And.intro qn qc))))
                    clear qf qd qk qn qc x0 x1
                    cases b with
                    | true =>
                      have hq := Hr.out
                      obtain ⟨qf, qd, qk, qn, qc⟩ := hq
                      obtain ⟨m, hma, hmc, hmX, -⟩ := qd.at (a := lf) (by omega)
                      have hup : upd W lf Wn lf = Wn := by unfold upd; rw [if_pos rfl]
                      rw [hup] at hmX
                      have hlen := (hmX.at (w' := wd.drew) rfl).len 201 Try.underlying201 3
                      have d9 := qf.f.cell 9
                      have d8 := qf.f.cell 8
                      simp only [FP.cells, List.getElem?_cons_zero, List.getElem?_cons_succ] at d8 d9
                      have hxb := Hk9.out.below Hba.out Hk9.out.lt
                      have hxd := hxb.kp qk (fun e => e.elim Hbxn.out.1 Hbxn.out.2.1)
                      have x0 := hxd.cell 0
                      simp only [List.getElem?_cons_zero] at x0
                      obtain ⟨LN, hLN⟩ : ∃ LN, LN = Wn.length := ⟨_, rfl⟩
                      rw [← hLN] at hlen
                      have Hq := hid (And.intro qc (And.intro hLN (And.intro qf (And.intro qd (And.intro qk qn)))))
                      clear qf qd qk qn qc hma hmX hup hxb hxd hLN Hr
                      cases many with
                      | true =>
                        go_upto_region 16 with fail
                        go_region
                        clear hlen d9 d8 x0 hmc
                        go_wp2_with fail
                        go_ret
                        rcases Hq.out.1 with ⟨-, -, hov⟩ | ⟨h, -⟩
                        · exact ⟨false, true, gw, ms, upd W lf Wn, rfl, Hq.out.2.2.1.later (Below.refl _ _).drew, Hq.out.2.2.2.1.kp (S := fun _ => False) ((Kp.refl _ _).drew) (fun _ e => e.elim), Hkk.out _ Hq.out.2.2.2.2.1, .inr ⟨rfl, .inr ⟨x, Hx.out.2.1, Huse.out, hov.toInt⟩⟩⟩
                        · cases h
                      | false =>
                        have hqc := Hq.out.1
                        have hcs : (true = decide ((W lf).length < Wn.length)) ∧ (W lf).length ≤ Wn.length ∧ ((W lf).length = Wn.length → Wn = W lf) ∧ ∀ z, z ∈ Wn ↔ z ∈ W lf ∨ (Lg.Cmb W x.2 z ∧ (z.length : Int) ≤ F.most) := by
                          rcases hqc with ⟨h, -⟩ | ⟨-, h⟩
                          · cases h
                          · exact h
                        have hsd := upd_sound HM9.out.s (l := lf) (R := x.2) (by rw [← Hx.out.2.2.1]; exact Hx.out.2.1) hcs.2.2.2
                        have Hcs := hid hcs
                        have Hsd := hid hsd
                        clear hqc hcs hsd
                        by_cases hbig : 4096 < LN
                        · have hbig' : (4096 : Int) < (LN : Int) := by omega
                          go_upto_region 16 with fail
                          go_region
                          clear hlen d9 d8 x0 hmc
                          go_wp2_with fail
                          go_ret
                          refine ⟨false, false, gw, ms, upd W lf Wn, rfl, Hq.out.2.2.1.later (Below.refl _ _).drew, Hq.out.2.2.2.1.kp (S := fun _ => False) ((Kp.refl _ _).drew) (fun _ e => e.elim), Hkk.out _ Hq.out.2.2.2.2.1, .inr ⟨rfl, .inl ⟨lf, Wn, ?_, Hq.out.2.2.2.2.2, by rw [← Hq.out.2.1]; exact hbig, fun z hz => ?_⟩⟩⟩
                          · rw [← Hx.out.2.2.1]; exact Huse.out.1
                          · exact Hsd.out lf z (by unfold upd; rw [if_pos rfl]; exact hz)
                        · have hbig' : ¬ (4096 : Int) < (LN : Int) := by omega
                          have Hbig := hid hbig
                          clear hbig
                          go_upto_region 16 with fail
                          go_region
                          clear hlen d9 d8 x0 hmc
                          go_wp2_with fail
                          go_roundg (F.G.prods.length - (i + 1))
                          case measure => have := HkI.out; have := Hlt.out; omega
                          case rel =>
                            have hsu := sumT_upd W lf Wn F.G.names.length (by omega)
                            refine ⟨i + 1, true, upd W lf Wn, by go_num, rfl, Hlt.out, rfl, ⟨Hq.out.2.2.1.later (Below.refl _ _).drew, Hq.out.2.2.2.1.kp (S := fun _ => False) ((Kp.refl _ _).drew) (fun _ e => e.elim), Hkk.out _ Hq.out.2.2.2.2.1, Hsd.out, fun a => ?_, HM9.out.z⟩, ?_⟩
                            · unfold upd
                              split
                              · rw [← Hq.out.2.1]; have := Hbig.out; omega
                              · exact HM9.out.l a
                            · have h1 : (W lf).length < Wn.length := of_decide_eq_true Hcs.out.1.symm
                              refine .inr ⟨rfl, ?_⟩
                              rcases Hst.out with ⟨-, h2, -⟩ | ⟨-, h2⟩
                              · subst h2; omega
                              · omega
                    | false =>
                      have hq := Hr.out
                      obtain ⟨qf, qd, qk, qn, qc⟩ := hq
                      obtain ⟨m, hma, hmc, hmX, -⟩ := qd.at (a := lf) (by omega)
                      have hup : upd W lf Wn lf = Wn := by unfold upd; rw [if_pos rfl]
                      rw [hup] at hmX
                      have hlen := (hmX.at (w' := wd.drew) rfl).len 201 Try.underlying201 3
                      have d9 := qf.f.cell 9
                      have d8 := qf.f.cell 8
                      simp only [FP.cells, List.getElem?_cons_zero, List.getElem?_cons_succ] at d8 d9
                      have hxb := Hk9.out.below Hba.out Hk9.out.lt
                      have hxd := hxb.kp qk (fun e => e.elim Hbxn.out.1 Hbxn.out.2.1)
                      have x0 := hxd.cell 0
                      simp only [List.getElem?_cons_zero] at x0
                      obtain ⟨LN, hLN⟩ : ∃ LN, LN = Wn.length := ⟨_, rfl⟩
                      rw [← hLN] at hlen
                      have Hq := hid (And.intro qc (And.intro hLN (And.intro qf (And.intro qd (And.intro qk qn)))))
                      clear qf qd qk qn qc hma hmX hup hxb hxd hLN Hr
                      cases many with
                      | true =>
                        go_upto_region 16 with fail
                        go_region
                        clear hlen d9 d8 x0 hmc
                        go_wp2_with fail
                        go_ret
                        rcases Hq.out.1 with ⟨-, -, hov⟩ | ⟨h, -⟩
                        · exact ⟨false, true, gw, ms, upd W lf Wn, rfl, Hq.out.2.2.1.later (Below.refl _ _).drew, Hq.out.2.2.2.1.kp (S := fun _ => False) ((Kp.refl _ _).drew) (fun _ e => e.elim), Hkk.out _ Hq.out.2.2.2.2.1, .inr ⟨rfl, .inr ⟨x, Hx.out.2.1, Huse.out, hov.toInt⟩⟩⟩
                        · cases h
                      | false =>
                        have hqc := Hq.out.1
                        have hcs : (false = decide ((W lf).length < Wn.length)) ∧ (W lf).length ≤ Wn.length ∧ ((W lf).length = Wn.length → Wn = W lf) ∧ ∀ z, z ∈ Wn ↔ z ∈ W lf ∨ (Lg.Cmb W x.2 z ∧ (z.length : Int) ≤ F.most) := by
                          rcases hqc with ⟨h, -⟩ | ⟨-, h⟩
                          · cases h
                          · exact h
                        have hsd := upd_sound HM9.out.s (l := lf) (R := x.2) (by rw [← Hx.out.2.2.1]; exact Hx.out.2.1) hcs.2.2.2
                        have Hcs := hid hcs
                        have Hsd := hid hsd
                        clear hqc hcs hsd
                        by_cases hbig : 4096 < LN
                        · have hbig' : (4096 : Int) < (LN : Int) := by omega
                          go_upto_region 16 with fail
                          go_region
                          clear hlen d9 d8 x0 hmc
                          go_wp2_with fail
                          go_ret
                          refine ⟨false, false, gw, ms, upd W lf Wn, rfl, Hq.out.2.2.1.later (Below.refl _ _).drew, Hq.out.2.2.2.1.kp (S := fun _ => False) ((Kp.refl _ _).drew) (fun _ e => e.elim), Hkk.out _ Hq.out.2.2.2.2.1, .inr ⟨rfl, .inl ⟨lf, Wn, ?_, Hq.out.2.2.2.2.2, by rw [← Hq.out.2.1]; exact hbig, fun z hz => ?_⟩⟩⟩
                          · rw [← Hx.out.2.2.1]; exact Huse.out.1
                          · exact Hsd.out lf z (by unfold upd; rw [if_pos rfl]; exact hz)
                        · have hbig' : ¬ (4096 : Int) < (LN : Int) := by omega
                          have Hbig := hid hbig
                          clear hbig
                          go_upto_region 16 with fail
                          go_region
                          clear hlen d9 d8 x0 hmc
                          go_wp2_with fail
                          go_roundg (F.G.prods.length - (i + 1))
                          case measure => have := HkI.out; have := Hlt.out; omega
                          case rel =>
                            have hsu := sumT_upd W lf Wn F.G.names.length (by omega)
                            refine ⟨i + 1, more, upd W lf Wn, by go_num, rfl, Hlt.out, rfl, ⟨Hq.out.2.2.1.later (Below.refl _ _).drew, Hq.out.2.2.2.1.kp (S := fun _ => False) ((Kp.refl _ _).drew) (fun _ e => e.elim), Hkk.out _ Hq.out.2.2.2.2.1, Hsd.out, fun a => ?_, HM9.out.z⟩, ?_⟩
                            · unfold upd
                              split
                              · rw [← Hq.out.2.1]; have := Hbig.out; omega
                              · exact HM9.out.l a
                            · have h1 : ¬ (W lf).length < Wn.length := of_decide_eq_false Hcs.out.1.symm
                              have h3 : Wn = W lf := Hcs.out.2.2.1 (by have := Hcs.out.2.1; omega)
                              rw [h3, upd_same]
                              refine Hst.out.imp (fun ⟨g1, g2, g3⟩ => ⟨g1, g2, fun j y hj hy hu => ?_⟩) id
                              by_cases e : j = i
                              · subst e
                                rw [Hx.out.1] at hy
                                injection hy with hy
                                subst hy
                                intro z hz1 hz2
                                have h4 := (Hcs.out.2.2.2 z).2 (.inr ⟨by rw [g2]; exact hz1, hz2⟩)
                                rw [Hx.out.2.2.1, Int.toNat_natCast, ← g2, ← h3]
                                exact h4
                              · exact g3 j y (by omega) hy hu
                  · have hgt : (F.most : Int) < lz := by omega
                    have Htm := hid htm
                    clear hal hlz htp hlze htm
                    refine wp_region_held_drew (S := fun W' : World => W'.cell? ⟨bf, 7, none⟩ = some (.slice (some ⟨gl, 0, none⟩) F.G.names.length F.G.names.length) ∧ W'.cell? ⟨gl, lf, none⟩ = some (.bool true) ∧ W'.cell? ⟨bx, 0, none⟩ = some (.int .i64 (lf : Int)) ∧ W'.cell? ⟨bx, 1, none⟩ = some (.slice gr xl cr) ∧ W'.cell? ⟨bf, 5, none⟩ = some (.int .i64 (F.most : Int))) (by kernel_rfl) (HS.out _ HD.out) (fun hHeld => ?_)
                    refine wpAnyH_take (i := 0) (oi := ({ dst := some 44, op := Op.move (Operand.tmp 0), type := 192, pos := "lang.go:118", after := #[], guard := none } : Oper)) (v := ?_) rfl (by kernel_rfl) (by kernel_rfl) (by kernel_rfl) (fun _ _ _ h => h) (Or.inl ⟨by kernel_rfl, ?_⟩) (by assumption) ?_
                    rotate_left
                    · intro w hSw
                      try dsimp only at hSw
                      go_simp
                      try with_reducible rfl
                    try simp only [Act.put, List.setIfInBounds_toArray, List.set_cons_zero, List.set_cons_succ]
                    refine wpAnyH_take (i := 1) (oi := ({ dst := some 45, op := Op.nilCheck (Operand.tmp 44), type := 0, pos := "lang.go:118", after := #[{ on := 0, ground := Ground.data }], guard := none } : Oper)) (v := ?_) rfl (by kernel_rfl) (by kernel_rfl) (by kernel_rfl) (fun _ _ _ h => h) (Or.inl ⟨by kernel_rfl, ?_⟩) (by assumption) ?_
                    rotate_left
                    · intro w hSw
                      try dsimp only at hSw
                      go_simp
                      try with_reducible rfl
                    try simp only [Act.put, List.setIfInBounds_toArray, List.set_cons_zero, List.set_cons_succ]
                    refine wpAnyH_take (i := 2) (oi := ({ dst := some 46, op := Op.fieldAddr 196 (Operand.tmp 45) 3, type := 0, pos := "lang.go:118", after := #[{ on := 1, ground := Ground.data }], guard := none } : Oper)) (v := ?_) rfl (by kernel_rfl) (by kernel_rfl) (by kernel_rfl) (fun _ _ _ h => h) (Or.inl ⟨by kernel_rfl, ?_⟩) (by assumption) ?_
                    rotate_left
                    · intro w hSw
                      try dsimp only at hSw
                      go_simp
                      try with_reducible rfl
                    try simp only [Act.put, List.setIfInBounds_toArray, List.set_cons_zero, List.set_cons_succ]
                    refine wpAnyH_take (i := 3) (oi := ({ dst := some 47, op := Op.load 133 (Operand.tmp 46), type := 133, pos := "lang.go:118", after := #[{ on := 2, ground := Ground.data }], guard := none } : Oper)) (v := ?_) rfl (by kernel_rfl) (by kernel_rfl) (by kernel_rfl) (fun _ _ _ h => h) (Or.inl ⟨by kernel_rfl, ?_⟩) (by assumption) ?_
                    rotate_left
                    · intro w hSw
                      try dsimp only at hSw
                      go_simp
                      try with_reducible rfl
                    try simp only [Act.put, List.setIfInBounds_toArray, List.set_cons_zero, List.set_cons_succ]
                    refine wpAnyH_take (i := 4) (oi := ({ dst := some 48, op := Op.fieldAddr 97 (Operand.tmp 6) 0, type := 0, pos := "lang.go:118", after := #[], guard := none } : Oper)) (v := ?_) rfl (by kernel_rfl) (by kernel_rfl) (by kernel_rfl) (fun _ _ _ h => h) (Or.inl ⟨by kernel_rfl, ?_⟩) (by assumption) ?_
                    rotate_left
                    · intro w hSw
                      try dsimp only at hSw
                      go_simp
                      try with_reducible rfl
                    try simp only [Act.put, List.setIfInBounds_toArray, List.set_cons_zero, List.set_cons_succ]
                    refine wpAnyH_take (i := 5) (oi := ({ dst := some 49, op := Op.load 3 (Operand.tmp 48), type := 3, pos := "lang.go:118", after := #[{ on := 4, ground := Ground.data }], guard := none } : Oper)) (v := ?_) rfl (by kernel_rfl) (by kernel_rfl) (by kernel_rfl) (fun _ _ _ h => h) (Or.inl ⟨by kernel_rfl, ?_⟩) (by assumption) ?_
                    rotate_left
                    · intro w hSw
                      try dsimp only at hSw
                      go_simp
                      try with_reducible rfl
                    try simp only [Act.put, List.setIfInBounds_toArray, List.set_cons_zero, List.set_cons_succ]
                    refine wpAnyH_take (i := 6) (oi := ({ dst := some 50, op := Op.indexAddr 133 (Operand.tmp 47) (Operand.tmp 49), type := 0, pos := "lang.go:118", after := #[{ on := 3, ground := Ground.data }, { on := 5, ground := Ground.data }], guard := none } : Oper)) (v := ?_) rfl (by kernel_rfl) (by kernel_rfl) (by kernel_rfl) (fun _ _ _ h => h) (Or.inl ⟨by kernel_rfl, ?_⟩) (by assumption) ?_
                    rotate_left
                    · intro w hSw
                      try dsimp only at hSw
                      go_simp
                      try with_reducible rfl
                    try simp only [Act.put, List.setIfInBounds_toArray, List.set_cons_zero, List.set_cons_succ]
                    refine wpAnyH_take (i := 7) (oi := ({ dst := some 51, op := Op.load 4 (Operand.tmp 50), type := 4, pos := "lang.go:118", after := #[{ on := 6, ground := Ground.data }], guard := none } : Oper)) (v := ?_) rfl (by kernel_rfl) (by kernel_rfl) (by kernel_rfl) (fun _ _ _ h => h) (Or.inl ⟨by kernel_rfl, ?_⟩) (by assumption) ?_
                    rotate_left
                    · intro w hSw
                      try dsimp only at hSw
                      go_simp
                      try with_reducible rfl
                    try simp only [Act.put, List.setIfInBounds_toArray, List.set_cons_zero, List.set_cons_succ]
                    refine wpAnyH_take (i := 8) (oi := ({ dst := some 52, op := Op.unOp UnOp.not 4 (Operand.tmp 51), type := 4, pos := "lang.go:118", after := #[{ on := 7, ground := Ground.data }], guard := none } : Oper)) (v := ?_) rfl (by kernel_rfl) (by kernel_rfl) (by kernel_rfl) (fun _ _ _ h => h) (Or.inl ⟨by kernel_rfl, ?_⟩) (by assumption) ?_
                    rotate_left
                    · intro w hSw
                      try dsimp only at hSw
                      go_simp
                      try with_reducible rfl
                    try simp only [Act.put, List.setIfInBounds_toArray, List.set_cons_zero, List.set_cons_succ]
                    refine wpAnyH_take (i := 9) (oi := ({ dst := some 53, op := Op.move (Operand.tmp 52), type := 4, pos := "lang.go:118", after := #[{ on := 8, ground := Ground.data }], guard := none } : Oper)) (v := ?_) rfl (by kernel_rfl) (by kernel_rfl) (by kernel_rfl) (fun _ _ _ h => h) (Or.inl ⟨by kernel_rfl, ?_⟩) (by assumption) ?_
                    rotate_left
                    · intro w hSw
                      try dsimp only at hSw
                      go_simp
                      try with_reducible rfl
                    try simp only [Act.put, List.setIfInBounds_toArray, List.set_cons_zero, List.set_cons_succ]
                    refine wpAnyH_take (i := 10) (oi := ({ dst := some 54, op := Op.move (Operand.tmp 0), type := 192, pos := "lang.go:118", after := #[{ on := 9, ground := Ground.guard }], guard := some (9, false) } : Oper)) (v := ?_) rfl (by kernel_rfl) (by kernel_rfl) (by kernel_rfl) (fun _ _ _ h => h) (Or.inl ⟨by kernel_rfl, ?_⟩) (by assumption) ?_
                    rotate_left
                    · intro w hSw
                      try dsimp only at hSw
                      go_simp
                      try with_reducible rfl
                    try simp only [Act.put, List.setIfInBounds_toArray, List.set_cons_zero, List.set_cons_succ]
                    refine wpAnyH_take (i := 11) (oi := ({ dst := some 55, op := Op.load 97 (Operand.tmp 6), type := 97, pos := "lang.go:118", after := #[{ on := 9, ground := Ground.guard }], guard := some (9, false) } : Oper)) (v := ?_) rfl (by kernel_rfl) (by kernel_rfl) (by kernel_rfl) (fun _ _ _ h => h) (Or.inl ⟨by kernel_rfl, ?_⟩) (by assumption) ?_
                    rotate_left
                    · intro w hSw
                      try dsimp only at hSw
                      go_simp
                      try with_reducible rfl
                    try simp only [Act.put, List.setIfInBounds_toArray, List.set_cons_zero, List.set_cons_succ]
                    refine wpAnyH_ready (rs := [12]) (by kernel_rfl) (by simp) ?_
                    refine AllReadyH.cons (o := ({ dst := some 56, op := Op.call { callee := Callee.value (Operand.func 140), args := #[Operand.tmp 54, Operand.tmp 55], argTypes := #[192, 97] }, type := 4, pos := "lang.go:118", after := #[{ on := 10, ground := Ground.data }, { on := 11, ground := Ground.data }, { on := 9, ground := Ground.chain }, { on := 9, ground := Ground.guard }], guard := some (9, false) } : Oper)) rfl (fun K hK => ?_) AllReadyH.nil
                    go_simp
                    go_at_call 140
                    refine Halive.out.mono ?_
                    rintro e wa ⟨rfl, hwa⟩
                    have hba : Below wv.heap.size wv wa := (by rw [hwa]; exact bel_al (bel_al HD.out _) _)
                    have Hba := hid hba
                    clear hwa hba
                    try go_simp
                    refine hK.out _ _ (HS.out _ Hba.out) (fun hH2 => ?_)
                    clear hK K hHeld
                    have hHeld := hH2
                    clear hH2
                    try simp only [Act.put, List.setIfInBounds_toArray, List.set_cons_zero, List.set_cons_succ]
                    refine wpAnyH_take (i := 13) (oi := ({ dst := some 57, op := Op.unOp UnOp.not 4 (Operand.tmp 56), type := 4, pos := "lang.go:118", after := #[{ on := 12, ground := Ground.data }, { on := 9, ground := Ground.guard }], guard := some (9, false) } : Oper)) (v := ?_) rfl (by kernel_rfl) (by kernel_rfl) (by kernel_rfl) (fun _ _ _ h => h) (Or.inl ⟨by kernel_rfl, ?_⟩) (by assumption) ?_
                    rotate_left
                    · intro w hSw
                      try dsimp only at hSw
                      go_simp
                      try with_reducible rfl
                    try simp only [Act.put, List.setIfInBounds_toArray, List.set_cons_zero, List.set_cons_succ]
                    refine wpAnyH_take (i := 14) (oi := ({ dst := some 58, op := Op.pick (Operand.tmp 53) (Operand.const (Value.bool true)) (Operand.tmp 57), type := 4, pos := "lang.go:118", after := #[{ on := 9, ground := Ground.data }, { on := 13, ground := Ground.data }], guard := none } : Oper)) (v := ?_) rfl (by kernel_rfl) (by kernel_rfl) (by kernel_rfl) (fun _ _ _ h => h) (Or.inl ⟨by kernel_rfl, ?_⟩) (by assumption) ?_
                    rotate_left
                    · intro w hSw
                      try dsimp only at hSw
                      go_simp
                      try with_reducible rfl
                    try simp only [Act.put, List.setIfInBounds_toArray, List.set_cons_zero, List.set_cons_succ]
                    refine wpAnyH_take (i := 15) (oi := ({ dst := some 59, op := Op.move (Operand.tmp 58), type := 4, pos := "lang.go:118", after := #[{ on := 14, ground := Ground.data }, { on := 12, ground := Ground.chain }], guard := none } : Oper)) (v := ?_) rfl (by kernel_rfl) (by kernel_rfl) (by kernel_rfl) (fun _ _ _ h => h) (Or.inl ⟨by kernel_rfl, ?_⟩) (by assumption) ?_
                    rotate_left
                    · intro w hSw
                      try dsimp only at hSw
                      go_simp
                      try with_reducible rfl
                    try simp only [Act.put, List.setIfInBounds_toArray, List.set_cons_zero, List.set_cons_succ]
                    refine wpAnyH_take (i := 16) (oi := ({ dst := some 60, op := Op.move (Operand.tmp 0), type := 192, pos := "lang.go:118", after := #[{ on := 15, ground := Ground.guard }], guard := some (15, false) } : Oper)) (v := ?_) rfl (by kernel_rfl) (by kernel_rfl) (by kernel_rfl) (fun _ _ _ h => h) (Or.inl ⟨by kernel_rfl, ?_⟩) (by assumption) ?_
                    rotate_left
                    · intro w hSw
                      try dsimp only at hSw
                      go_simp
                      try with_reducible rfl
                    try simp only [Act.put, List.setIfInBounds_toArray, List.set_cons_zero, List.set_cons_succ]
                    refine wpAnyH_take (i := 17) (oi := ({ dst := some 61, op := Op.fieldAddr 97 (Operand.tmp 6) 1, type := 0, pos := "lang.go:118", after := #[{ on := 15, ground := Ground.guard }], guard := some (15, false) } : Oper)) (v := ?_) rfl (by kernel_rfl) (by kernel_rfl) (by kernel_rfl) (fun _ _ _ h => h) (Or.inl ⟨by kernel_rfl, ?_⟩) (by assumption) ?_
                    rotate_left
                    · intro w hSw
                      try dsimp only at hSw
                      go_simp
                      try with_reducible rfl
                    try simp only [Act.put, List.setIfInBounds_toArray, List.set_cons_zero, List.set_cons_succ]
                    refine wpAnyH_take (i := 18) (oi := ({ dst := some 62, op := Op.load 22 (Operand.tmp 61), type := 22, pos := "lang.go:118", after := #[{ on := 17, ground := Ground.data }, { on := 15, ground := Ground.guard }], guard := some (15, false) } : Oper)) (v := ?_) rfl (by kernel_rfl) (by kernel_rfl) (by kernel_rfl) (fun _ _ _ h => h) (Or.inl ⟨by kernel_rfl, ?_⟩) (by assumption) ?_
                    rotate_left
                    · intro w hSw
                      try dsimp only at hSw
                      go_simp
                      try with_reducible rfl
                    try simp only [Act.put, List.setIfInBounds_toArray, List.set_cons_zero, List.set_cons_succ]
                    refine wpAnyH_take (i := 20) (oi := ({ dst := some 64, op := Op.move (Operand.tmp 0), type := 192, pos := "lang.go:118", after := #[{ on := 15, ground := Ground.guard }], guard := some (15, false) } : Oper)) (v := ?_) rfl (by kernel_rfl) (by kernel_rfl) (by kernel_rfl) (fun _ _ _ h => h) (Or.inl ⟨by kernel_rfl, ?_⟩) (by assumption) ?_
                    rotate_left
                    · intro w hSw
                      try dsimp only at hSw
                      go_simp
                      try with_reducible rfl
                    try simp only [Act.put, List.setIfInBounds_toArray, List.set_cons_zero, List.set_cons_succ]
                    refine wpAnyH_take (i := 21) (oi := ({ dst := some 65, op := Op.nilCheck (Operand.tmp 64), type := 0, pos := "lang.go:118", after := #[{ on := 20, ground := Ground.data }, { on := 15, ground := Ground.guard }], guard := some (15, false) } : Oper)) (v := ?_) rfl (by kernel_rfl) (by kernel_rfl) (by kernel_rfl) (fun _ _ _ h => h) (Or.inl ⟨by kernel_rfl, ?_⟩) (by assumption) ?_
                    rotate_left
                    · intro w hSw
                      try dsimp only at hSw
                      go_simp
                      try with_reducible rfl
                    try simp only [Act.put, List.setIfInBounds_toArray, List.set_cons_zero, List.set_cons_succ]
                    refine wpAnyH_take (i := 22) (oi := ({ dst := some 66, op := Op.fieldAddr 196 (Operand.tmp 65) 1, type := 0, pos := "lang.go:118", after := #[{ on := 21, ground := Ground.data }, { on := 15, ground := Ground.guard }], guard := some (15, false) } : Oper)) (v := ?_) rfl (by kernel_rfl) (by kernel_rfl) (by kernel_rfl) (fun _ _ _ h => h) (Or.inl ⟨by kernel_rfl, ?_⟩) (by assumption) ?_
                    rotate_left
                    · intro w hSw
                      try dsimp only at hSw
                      go_simp
                      try with_reducible rfl
                    try simp only [Act.put, List.setIfInBounds_toArray, List.set_cons_zero, List.set_cons_succ]
                    refine wpAnyH_take (i := 23) (oi := ({ dst := some 67, op := Op.load 3 (Operand.tmp 66), type := 3, pos := "lang.go:118", after := #[{ on := 22, ground := Ground.data }, { on := 15, ground := Ground.guard }], guard := some (15, false) } : Oper)) (v := ?_) rfl (by kernel_rfl) (by kernel_rfl) (by kernel_rfl) (fun _ _ _ h => h) (Or.inl ⟨by kernel_rfl, ?_⟩) (by assumption) ?_
                    rotate_left
                    · intro w hSw
                      try dsimp only at hSw
                      go_simp
                      try with_reducible rfl
                    try simp only [Act.put, List.setIfInBounds_toArray, List.set_cons_zero, List.set_cons_succ]
                    refine wpAnyH_ready (rs := [19]) (by kernel_rfl) (by simp) ?_
                    refine AllReadyH.cons (o := ({ dst := some 63, op := Op.call { callee := Callee.value (Operand.func 141), args := #[Operand.tmp 60, Operand.tmp 62], argTypes := #[192, 22] }, type := 3, pos := "lang.go:118", after := #[{ on := 16, ground := Ground.data }, { on := 18, ground := Ground.data }, { on := 15, ground := Ground.chain }, { on := 15, ground := Ground.guard }], guard := some (15, false) } : Oper)) rfl (fun K hK => ?_) AllReadyH.nil
                    go_simp
                    go_at_call 141
                    refine (Hleast.out _ Hba.out).mono ?_
                    rintro e wl ⟨rfl, rfl⟩
                    try go_simp
                    refine hK.out _ _ (HS.out _ Hba.out) (fun hH2 => ?_)
                    clear hK K hHeld
                    have hHeld := hH2
                    clear hH2
                    try simp only [Act.put, List.setIfInBounds_toArray, List.set_cons_zero, List.set_cons_succ]
                    refine wpAnyH_take (i := 24) (oi := ({ dst := some 68, op := Op.binOp BinOp.gtr 3 (Operand.tmp 63) (Operand.tmp 67) 3, type := 4, pos := "lang.go:118", after := #[{ on := 19, ground := Ground.data }, { on := 23, ground := Ground.data }, { on := 15, ground := Ground.guard }], guard := some (15, false) } : Oper)) (v := ?_) rfl (by kernel_rfl) (by kernel_rfl) (by kernel_rfl) (fun _ _ _ h => h) (Or.inl ⟨by kernel_rfl, ?_⟩) (by assumption) ?_
                    rotate_left
                    · intro w hSw
                      try dsimp only at hSw
                      go_simp
                      try with_reducible rfl
                    try simp only [Act.put, List.setIfInBounds_toArray, List.set_cons_zero, List.set_cons_succ]
                    refine wpAnyH_take (i := 25) (oi := ({ dst := some 69, op := Op.pick (Operand.tmp 59) (Operand.const (Value.bool true)) (Operand.tmp 68), type := 4, pos := "lang.go:118", after := #[{ on := 15, ground := Ground.data }, { on := 24, ground := Ground.data }], guard := none } : Oper)) (v := ?_) rfl (by kernel_rfl) (by kernel_rfl) (by kernel_rfl) (fun _ _ _ h => h) (Or.inl ⟨by kernel_rfl, ?_⟩) (by assumption) ?_
                    rotate_left
                    · intro w hSw
                      try dsimp only at hSw
                      go_simp
                      try with_reducible rfl
                    try simp only [Act.put, List.setIfInBounds_toArray, List.set_cons_zero, List.set_cons_succ]
                    refine wpAnyH_done (by kernel_rfl) ?_ _
                    go_wp2_with fail
                    go_roundg (F.G.prods.length - (i + 1))
                    case measure => have := HkI.out; have := Hlt.out; omega
                    case rel => exact Hskip.out _ Hba.out (fun h => by have h1 := Htm.out; have h2 := h.2.2; omega)
            · have hge : ¬ (i : Int) < (F.G.prods.length : Int) := by omega
              have hil : i = F.G.prods.length := by omega
              subst hil
              have hb1 := sumT_le HMi.out.l F.G.names.length
              have Hb1 := hid hb1
              clear hM hki hst hi hlt hb1
              go_wp2_with fail
              go_roundg (2 * (256 * 4096) + 2 + (if more then 1 else 0) - 2 * sumT W F.G.names.length)
              case measure =>
                have h1 := Hk.out
                have h2 := Hb1.out
                rcases Hst.out with ⟨rfl, rfl, -⟩ | ⟨rfl, h3⟩
                · simp only [if_true] at h1 ⊢
                  simp
                  omega
                · simp only [if_true] at h1 ⊢
                  omega
              case rel =>
                refine ⟨more, W, rfl, HMi.out, fun e x hx hu => ?_, ?_⟩
                · rcases Hst.out with ⟨-, rfl, h3⟩ | ⟨h3, -⟩
                  · obtain ⟨j, hj⟩ := List.mem_iff_getElem?.1 hx
                    exact h3 j x (List.getElem?_eq_some_iff.1 hj).1 hj hu
                  · rw [h3] at e; cases e
                · have h2 := Hb1.out
                  have : F.G.names.length * 4096 ≤ 256 * 4096 := Nat.mul_le_mul_right _ hn1
                  omega
end Go.Proofs.Ytaehooafdbaomaa
