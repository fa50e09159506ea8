/- Chapter 10 (lang): round: walk. -/
import Derived.Test.YtaehooafdbaomaaLang3
namespace Go.Proofs.Ytaehooafdbaomaa
open Go.RowKit
attribute [local go_sem ↓] Go.wp_at_zero Go.wp_at_succ
attribute [local go_sem] frozen_alloc_lt

def upd (W : Lg.Tab) (l : Nat) (Wn : List (List UInt8)) : Lg.Tab := fun a => if a = l then Wn else W a
/-- Too many words of a beginning of a right side. -/
def HOver (F : FP) (R : List Int) : Prop := ∃ (i : Nat) (H : List (List UInt8)), i ≤ R.length ∧ H.Nodup ∧ 4096 * (F.most + 1) < H.length ∧ ∀ z ∈ H, Lg.Der F.G.prods (R.take i) z ∧ (z.length : Int) + Lg.tot F.ks (R.drop i) ≤ F.most
def RoundSaid (F : FP) (bf gl gw cl cw : Nat) (bs : List Bool) (ms : List Nat) (W : Lg.Tab) (x : Int × List Int) (w : World) (e : Ending) (w' : World) : Prop :=
  ∃ (many b : Bool) (Wn : List (List UInt8)), e = .returned (.bool b) ∧ Fnd F bf (.slice (some ⟨gl, 0, none⟩) F.G.names.length cl) (.slice (some ⟨gw, 0, none⟩) F.G.names.length cw) many w' ∧
    Wds bf gl gw bs ms (upd W x.1.toNat Wn) F.G.names.length w' ∧ Kp (fun k => k = bf ∨ k ∈ ms) w w' ∧ Wn.Nodup ∧
    ((many = true ∧ Wn = W x.1.toNat ∧ HOver F x.2) ∨
     (many = false ∧ b = decide ((W x.1.toNat).length < Wn.length) ∧ (W x.1.toNat).length ≤ Wn.length ∧ ((W x.1.toNat).length = Wn.length → Wn = W x.1.toNat) ∧ ∀ z, z ∈ Wn ↔ z ∈ W x.1.toNat ∨ (Lg.Cmb W x.2 z ∧ (z.length : Int) ≤ F.most)))
theorem Wds.upd {bf gl gw : Nat} {bs : List Bool} {ms : List Nat} {W : Lg.Tab} {n : Nat} {w : World} (h : Wds bf gl gw bs ms W n w) (l : Nat) : Wds bf gl gw bs ms (upd W l (W l)) n w := by
  have : Go.Proofs.Ytaehooafdbaomaa.upd W l (W l) = W := by
    funext a
    unfold Go.Proofs.Ytaehooafdbaomaa.upd
    split
    · rename_i e; rw [e]
    · rfl
  rw [this]; exact h
def RdAt (F : FP) (bf gl gw cl cw : Nat) (W : Lg.Tab) (R : List Int) (wa : World) (B : Nat) (k : Nat) (v5 v15 : Value) (w : World) : Prop :=
  ∃ (i bh : Nat) (H : List (List UInt8)), v15 = .int .i64 i ∧ v5 = .map (some bh) ∧ i ≤ R.length ∧ k = R.length - i ∧ SetX w bh H ∧ (∀ z, z ∈ H ↔ Lg.Hd W F.ks F.most R i z) ∧ H.length ≤ 4096 * (F.most + 1) ∧ B ≤ bh ∧
    Fnd F bf (.slice (some ⟨gl, 0, none⟩) F.G.names.length cl) (.slice (some ⟨gw, 0, none⟩) F.G.names.length cw) false w ∧ Kp (fun k => k = bf) wa w
set_option maxHeartbeats 8000000 in
set_option maxRecDepth 8000 in
theorem round_calls (F : FP) (hF : F.Ok) (w : World) (bf gl gw cl cw : Nat) (bs : List Bool) (ms : List Nat) (W : Lg.Tab) (x : Int × List Int) (ga : Option Addr) (ca : Nat)
    (h : Fnd F bf (.slice (some ⟨gl, 0, none⟩) F.G.names.length cl) (.slice (some ⟨gw, 0, none⟩) F.G.names.length cw) false w) (hw : Wds bf gl gw bs ms W F.G.names.length w)
    (hs : Lg.Sound F.G.prods F.most W) (hl : ∀ a, (W a).length ≤ 4096) (hx : x ∈ F.G.prods) (hu1 : Lg.aliveS F.ks x.2 = true) (hu2 : Lg.tot F.ks x.2 ≤ F.most) (hr : RowI F.w0 F.w0.heap.size ga x.2) (hc : x.2.length ≤ ca) :
    Calls Try.prog 142 #[.pointer (some ⟨bf, 0, none⟩), .agg #[.int .i64 x.1, .slice ga x.2.length ca]] w (RoundSaid F bf gl gw cl cw bs ms W x w) := by
  obtain ⟨left, R⟩ := x
  simp only at *
  have hR16 : R.length ≤ 16 := hF.snd.r16 _ hx
  have hRin : ∀ s ∈ R, s < F.G.names.length := hF.snd.r1 _ hx
  have hRlo : ∀ s ∈ R, -256 ≤ s := fun s hs => by have h1 := hF.snd.r0 _ hx s hs; have h2 := hF.snd.t1; omega
  have hl0 := hF.snd.l0 _ hx
  have hl1 := hF.snd.l1 _ hx
  simp only at hl0 hl1
  obtain ⟨lf, rfl⟩ := Int.eq_ofNat_of_zero_le hl0
  have hkl : F.ks.length = F.G.names.length := hF.sho.len
  have hkp0 : ∀ s ∈ R, 0 ≤ Lg.kOf F.ks s := Lg.aliveS_iff.1 hu1
  have hm64 := hF.m
  -- the box, the first map
  have hk0 := Bk.new w 97 [.int .i64 (lf : Int), .slice ga R.length ca]
  have hb1 : Below w.heap.size w (w.alloc (.cells #[.int .i64 (lf : Int), .slice ga R.length ca] 97)) := bel_al (bel_id w) _
  obtain ⟨w1, hw1⟩ : ∃ w1, w1 = w.alloc (.cells #[.int .i64 (lf : Int), .slice ga R.length ca] 97) := ⟨_, rfl⟩
  obtain ⟨bx, hbx⟩ : ∃ bx, bx = w.heap.size := ⟨_, rfl⟩
  rw [← hw1] at hk0 hb1
  rw [← hbx] at hk0
  have hb2 : Below w.heap.size w (w1.alloc (.map #[] 0)) := bel_al hb1 _
  have hset0 := SetX.made w1
  obtain ⟨w2, hw2⟩ : ∃ w2, w2 = w1.alloc (.map #[] 0) := ⟨_, rfl⟩
  obtain ⟨b0, hb0⟩ : ∃ b0, b0 = w1.heap.size := ⟨_, rfl⟩
  have hk2 : Bk w2 bx 97 [.int .i64 (lf : Int), .slice ga R.length ca] := by rw [hw2]; exact hk0.alloc _
  rw [← hw2] at hset0 hb2
  rw [← hb0] at hset0
  obtain ⟨w3, hput, hset3, hg3⟩ := hset0.put [] (by simp) (by simp [maxLen]) 201 Try.underlying201
  have hb0w : w.heap.size < b0 := by have := hk0.lt; omega
  have hb3 : Below w.heap.size w w3 := hb2.grown hg3 hb2.size (fun k e => by injection e with e; omega)
  have hk3 : Bk w3 bx 97 [.int .i64 (lf : Int), .slice ga R.length ca] := (hg3.block bx hk2.lt (fun e => by injection e with e; omega)).trans hk2
  have hf3 := h.later hb3
  have hkp3 : Kp (fun _ => False) w w3 := ⟨hb3.os, hb3.tape, hb3.output, hb3.size, fun k hk _ => hb3.block k hk⟩
  have hwd3 := hw.kp hkp3 (fun _ e => e.elim)
  have hinit : RdAt F bf gl gw cl cw W R w3 w.heap.size R.length (.map (some b0)) (.int .i64 0) w3 := ⟨0, b0, _, rfl, rfl, Nat.zero_le _, rfl, hset3, fun z => by
      rw [Lg.Hd.zero (by omega)]
      rw [mem_insT]; simp, by simp [insT]; omega, by omega, hf3, Kp.refl _ _⟩
  have hbfl := h.f.lt
  have hmsl : ∀ m ∈ ms, m < w.heap.size := fun m hm => by
    obtain ⟨a, ha⟩ := List.mem_iff_getElem?.1 hm
    exact (hw.m a m ha).1.lt
  have Hinit := hid hinit
  have HF := hid hF
  have Hw1 := hid (And.intro hw1 (And.intro hbx (And.intro hw2 hb0)))
  have Hk3 := hid hk3
  have Hb3 := hid hb3
  have Hwd3 := hid hwd3
  have Hs := hid hs
  have Hl := hid hl
  have Hx := hid hx
  have Hr := hid hr
  have Hin := hid (And.intro hRin (And.intro hRlo hkp0))
  have Hbn := hid (And.intro hb0w (And.intro hbfl hmsl))
  have Hbx : Hid (bx < w3.heap.size ∧ bf < bx) := hid ⟨hk3.lt, by omega⟩
  have Hlf := hid (And.intro hl1 hu2)
  have Hkl := hid hkl
  clear hinit hF hw1 hbx hw2 hb0 hk0 hk2 hk3 hb1 hb2 hb3 hset0 hset3 hg3 hf3 hkp3 hwd3 hs hl hx hr hRin hRlo hkp0 hb0w hbfl hmsl h hw hu1 hu2 hl0 hl1 hkl
  have hput' : (Instr.mapUpdate 201 (.map (some w1.heap.size)) (.string ⟨#[]⟩) (.bool true)).run Try.prog (w1.alloc (.map #[] 0)) = .ok () w3 := by
    rw [← Hw1.out.2.2.1, ← Hw1.out.2.2.2]; exact hput
  clear hput
  have hmm := @run_makeMap Try.prog
  go_enter Try.func142, Try.ntmps142
  go_upto_region 1 with fail
  rw [← Hw1.out.1, ← Hw1.out.2.1]
  go_upto_region 2 with fail
  rw [← Hw1.out.2.2.2]
  clear hmm hput'
  have x1 := Hk3.out.cell 1
  simp only [List.getElem?_cons_zero, List.getElem?_cons_succ] at x1
  go_wp2_with fail
  clear x1
  go_loopg [5, 15] R.length (fun k v5 v15 wr => RdAt F bf gl gw cl cw W R w3 w.heap.size k v5 v15 wr)
  case atStart => exact Hinit.out
  case round =>
    clear Hinit
    obtain ⟨i, bh, H, rfl, rfl, hi, hk, hH, hm, hHl, hbh, hf, hkp⟩ := hrel
    have Hk := hid hk
    clear hk
    have hbxr : Bk wr bx 97 [.int .i64 (lf : Int), .slice ga R.length ca] := Hk3.out.kp hkp (fun e => by have := Hbx.out.2; omega)
    have x0 := hbxr.cell 0
    have x1 := hbxr.cell 1
    simp only [List.getElem?_cons_zero, List.getElem?_cons_succ] at x0 x1
    have hwd : Wds bf gl gw bs ms W F.G.names.length wr := Hwd3.out.kp hkp (fun k e => by subst e; exact ⟨by have := Hwd3.out.lf; omega, by have := Hwd3.out.lf; have := Hwd3.out.vf; omega, fun hm => by
      obtain ⟨a, ha⟩ := List.mem_iff_getElem?.1 hm
      have := (Hwd3.out.m a _ ha).2; have := Hwd3.out.lf; have := Hwd3.out.vf; omega⟩)
    have hrr : RowI wr wr.heap.size ga R := (Hr.out.below hf.bw).mono hf.bw.size
    by_cases hlt : i < R.length
    · have hlt' : (i : Int) < (R.length : Int) := by omega
      have hi0 : (0 : Int) ≤ (i : Int) := by omega
      obtain ⟨s, hsv⟩ : ∃ s, s = R[i] := ⟨_, rfl⟩
      have hsm : s ∈ R := by rw [hsv]; exact List.getElem_mem hlt
      have hsi : R[i]? = some s := by rw [hsv]; exact List.getElem?_eq_getElem hlt
      have hs1 := Hin.out.1 s hsm
      have hs2 := Hin.out.2.1 s hsm
      obtain ⟨d, hd⟩ : ∃ d : Nat, (i : Int) + 1 = (d : Int) := ⟨i + 1, by omega⟩
      have hdi : d = i + 1 := by omega
      obtain ⟨k3, hk3⟩ : ∃ k3, R.length - d = k3 := ⟨_, rfl⟩
      obtain ⟨c3, hc3⟩ : ∃ c3, ca - d = c3 := ⟨_, rfl⟩
      obtain ⟨ga3, hga3⟩ : ∃ ga3, (if ca = d then ga else Option.map (fun x => Addr.add x d) ga) = ga3 := ⟨_, rfl⟩
      have hrow3 := row_drop hrr hc hga3
      have hdl : (R.drop d).length = k3 := by rw [List.length_drop]; exact hk3
      obtain ⟨lz, hlz⟩ : ∃ lz, lz = Lg.leastS F.ks (R.drop d) 0 := ⟨_, rfl⟩
      have hkd : ∀ s ∈ R.drop d, 0 ≤ Lg.kOf F.ks s := fun s h => Hin.out.2.2 s (List.mem_of_mem_drop h)
      have hlzv := Lg.leastS_eq (n := 0) hkd (by omega) (by omega)
      rw [← hlz, Int.zero_add] at hlzv
      have htp := Lg.tot_pos hkd
      have hleast : Calls Try.prog 141 #[.pointer (some ⟨bf, 0, none⟩), .slice ga3 k3 c3] wr.drew fun e w' => e = .returned (.int .i64 lz) ∧ wr.drew = w' := by
        have h1 := least_calls wr.drew bf (some ⟨F.gk, 0, none⟩) F.ck F.ks ga3 c3 (R.drop d) (by rw [Hkl.out]; exact hf.f.cell 6) hf.row hrow3 (by rw [hdl]; omega) (fun s h => by rw [Hkl.out]; exact Hin.out.1 s (List.mem_of_mem_drop h)) HF.out.sho.rng hkd
        rw [hdl, ← hlz] at h1
        exact h1
      have hHz : ∀ z ∈ H, z.length ≤ 64 := fun z hz => by
        have h1 := ((hm z).1 hz).2
        have h2 := Lg.tot_pos (ks := F.ks) (xs := R.drop i) (fun s h => Hin.out.2.2 s (List.mem_of_mem_drop h))
        omega
      have hjoin : Calls Try.prog 168 #[.pointer (some ⟨bf, 0, none⟩), .map (some bh), .int .i64 s, .int .i64 ((F.most : Int) - lz)] wr.drew fun e w' =>
          ∃ (bo : Nat) (J : List (List UInt8)), e = .returned (.map (some bo)) ∧ wr.heap.size ≤ bo ∧ SetX w' bo J ∧ (∀ z, z ∈ J ↔ Lg.Hd W F.ks F.most R (i + 1) z) ∧ Below wr.heap.size wr w' := by
        have h1 : Calls Try.prog 168 #[.pointer (some ⟨bf, 0, none⟩), .map (some bh), .int .i64 s, .int .i64 ((F.most : Int) - lz)] wr.drew (JoinSaid H W s ((F.most : Int) - lz) wr.drew) := by
          by_cases h0 : s < 0
          · exact join_term wr.drew bf bh H W s _ (hH.at rfl) hHz (by omega) h0 hs2
          · have hsn : s.toNat < F.G.names.length := by omega
            obtain ⟨m, -, q1, q2, -⟩ := hwd.at hsn
            exact join_nt wr.drew bf bh gw F.G.names.length cw m H W s _ (hH.at rfl) hHz (by omega) (by omega) hs1 HF.out.snd.n1 (hf.f.cell 8) q1 (q2.at rfl) (fun z hz => by have := (Hs.out _ z hz).2; omega) (Hl.out _)
        refine h1.mono ?_
        rintro e w' ⟨bo, J, rfl, q1, q2, q3, q4⟩
        refine ⟨bo, J, rfl, q1, q2, fun z => ?_, (Below.refl _ _).drew.trans q4⟩
        rw [q3 z, Lg.Hd.succ Hs.out HF.out.fix hsi z, ← hdi]
        constructor
        · rintro ⟨h, t, p1, p2, p3, p4⟩
          exact ⟨h, t, (hm h).1 p1, p2, p3, by omega⟩
        · rintro ⟨h, t, p1, p2, p3, p4⟩
          exact ⟨h, t, (hm h).2 p1, p2, p3, by omega⟩
      obtain ⟨g, off, rfl, hg, hcx⟩ := hrr.at hlt
      rw [← hsv] at hcx
      have hga4 : (if ca = d then (some ⟨g, off, none⟩ : Option Addr) else some ⟨g, off + d, none⟩) = ga3 := by rw [← hga3, Option.map_some, add_off0 _ rfl]
      clear hga3
      have f5 := hf.f.cell 5
      simp only [FP.cells, List.getElem?_cons_zero, List.getElem?_cons_succ] at f5
      have Hlt := hid hlt
      have Hjoin := hid hjoin
      have Hleast := hid hleast
      have Hf := hid hf
      have Hkp := hid hkp
      have Hm := hid hm
      have Hdi := hid hdi
      have Hwd := hid hwd
      have HR16 := hid hR16
      have Hbh := hid hbh
      have hwd0 : IntKind.i64.wrap (d : Int) = (d : Int) := by rw [IntKind.wrap_i64]; omega
      have hwm : IntKind.i64.wrap ((F.most : Int) - lz) = (F.most : Int) - lz := by rw [IntKind.wrap_i64]; omega
      have hd0 : (0 : Int) ≤ (d : Int) := by omega
      have hd1 : (d : Int) ≤ (R.length : Int) := by omega
      have hd2 : (d : Int) ≤ (ca : Int) := by omega
      have hlz0 : (0 : Int) ≤ lz := by omega
      have hlz1 : lz ≤ 65 := by omega
      have hmz : (F.most : Int) ≤ 64 := by omega
      have hS : ∀ W' : World, Below wr.heap.size wr W' → (W'.cell? ⟨bf, 5, none⟩ = some (.int .i64 (F.most : Int)) ∧ W'.cell? ⟨bx, 1, none⟩ = some (.slice (some ⟨g, off, none⟩) R.length ca)) := fun W' hb =>
        ⟨(hb.cell (p := ⟨bf, 5, none⟩) Hf.out.f.lt).trans f5, (hb.cell (p := ⟨bx, 1, none⟩) hbxr.lt).trans x1⟩
      have HS := hid hS
      have HD := hid (show Below wr.heap.size wr wr.drew from (Below.refl _ _).drew)
      clear hS hjoin hleast hf hkp hm hdi hwd hH hHl hbh hrow3 hdl hlz hkd hlzv htp hHz hsv hsm hsi hs1 hs2 hrr hg hR16 hm64 hbxr x0 hi hlt
      go_upto_region 5 with fail
      go_region_held3 (fun W' : World => W'.cell? ⟨bf, 5, none⟩ = some (.int .i64 (F.most : Int)) ∧ W'.cell? ⟨bx, 1, none⟩ = some (.slice (some ⟨g, off, none⟩) R.length ca))
        (first | exact HS.out _ HD.out | exact HS.out _ Hbj.out)
        (first
          | (go_at_call 168; refine Hjoin.out.mono ?_; rintro e wj ⟨bo, J, rfl, hbo, hJ, hJm, hbj⟩; have Hbj := hid hbj; have HJ := hid (And.intro hbo (And.intro hJ hJm)); clear hbo hJ hJm hbj)
          | (go_at_call 141; refine Hleast.out.mono ?_; rintro e wl ⟨rfl, rfl⟩))
      have hfj : Fnd F bf (.slice (some ⟨gl, 0, none⟩) F.G.names.length cl) (.slice (some ⟨gw, 0, none⟩) F.G.names.length cw) false wj := Hf.out.later Hbj.out
      have hkpj : Kp (fun k => k = bf) w3 wj := Hkp.out.trans ⟨Hbj.out.os, Hbj.out.tape, Hbj.out.output, Hbj.out.size, fun k hk _ => Hbj.out.block k hk⟩
      have hlen := (HJ.out.2.1.at (w' := wj.drew) rfl).len 201 Try.underlying201 3
      have g5 := hfj.f.cell 5
      have g9 := hfj.f.cell 9
      have gf9 := hfj.f.free 9
      simp only [FP.cells, List.getElem?_cons_zero, List.getElem?_cons_succ] at g5 g9
      have hwq : IntKind.i64.wrap (4096 * ((F.most : Int) + 1)) = 4096 * ((F.most : Int) + 1) := by rw [IntKind.wrap_i64]; omega
      have hwq1 : IntKind.i64.wrap ((F.most : Int) + 1) = (F.most : Int) + 1 := by rw [IntKind.wrap_i64]; omega
      have hset := hfj.setMany (decide (4096 * (F.most + 1) < J.length))
      have hkpb : ∀ b : Bool, Kp (fun k => k = bf) w3 (wj.setCell ⟨bf, 9, none⟩ (.bool b)) := fun b => hkpj.trans ((Kp.refl (fun k => k = bf) wj).set (p := ⟨bf, 9, none⟩) (.inl rfl) _)
      have hJb : ∀ b : Bool, SetX (wj.setCell ⟨bf, 9, none⟩ (.bool b)) bo J := fun b => HJ.out.2.1.kp ((Kp.refl (fun k => k = bf) wj).set (p := ⟨bf, 9, none⟩) (.inl rfl) _) (fun e => by have := HJ.out.1; have := Hf.out.f.lt; omega)
      have Hset := hid hset
      have Hkpb := hid hkpb
      have HJb := hid hJb
      clear hfj hkpj hset hkpb hJb x1 f5 hlt' hi0 hd hk3 hc3 hwd0 hd0 hd1 hd2 hlz0 hlz1 hga4 hcx hwm
      by_cases hov : 4096 * (F.most + 1) < J.length
      · have hov' : (4096 : Int) * ((F.most : Int) + 1) < (J.length : Int) := by omega
        rw [decide_eq_true hov] at Hset
        go_upto_region 6 with fail
        go_region
        go_upto_region 7 with fail
        have z9 := Hset.out.f.cell 9
        simp only [FP.cells, List.getElem?_cons_zero, List.getElem?_cons_succ] at z9
        have z9' : ((wj.setCell ⟨bf, 9, none⟩ (.bool true)).drew).cell? ⟨bf, 9, none⟩ = some (.bool true) := z9
        clear z9 g5 g9 gf9 hlen
        obtain ⟨wf, hwf⟩ : ∃ wf, wf = (wj.setCell ⟨bf, 9, none⟩ (.bool true)).drew := ⟨_, rfl⟩
        have hkf : Kp (fun k => k = bf) w3 wf := by rw [hwf]; exact (Hkpb.out true).drew
        have hff : Fnd F bf (.slice (some ⟨gl, 0, none⟩) F.G.names.length cl) (.slice (some ⟨gw, 0, none⟩) F.G.names.length cw) true wf := by rw [hwf]; exact Hset.out.later (Below.refl _ _).drew
        rw [← hwf] at z9' ⊢
        have Hff := hid (And.intro hkf hff)
        have Hov := hid hov
        clear hwf hkf hff hov hov'
        go_wp2_with fail
        go_ret
        have hwdf : Wds bf gl gw bs ms W F.G.names.length wf := Hwd3.out.kp Hff.out.1 (fun k e => by subst e; exact ⟨by have := Hwd3.out.lf; omega, by have := Hwd3.out.lf; have := Hwd3.out.vf; omega, fun hm => by
          obtain ⟨a, ha⟩ := List.mem_iff_getElem?.1 hm
          have := (Hwd3.out.m a _ ha).2; have := Hwd3.out.lf; have := Hwd3.out.vf; omega⟩)
        obtain ⟨m, hma, -, hmX, -⟩ := hwdf.at (a := lf) (by have := Hlf.out.1; omega)
        refine ⟨true, false, W lf, rfl, Hff.out.2, by simpa using hwdf.upd lf, ?_, hmX.1, .inl ⟨rfl, by simp, i + 1, J, Hlt.out, HJ.out.2.1.1, Hov.out, fun z hz => ?_⟩⟩
        · exact Kp.trans (w' := w3) ⟨Hb3.out.os, Hb3.out.tape, Hb3.out.output, Hb3.out.size, fun k hk _ => Hb3.out.block k hk⟩ (Hff.out.1.mono fun k _ e => .inl e)
        · have h1 := (HJ.out.2.2 z).1 hz
          exact ⟨h1.1.der Hs.out, h1.2⟩
      · have hov' : ¬ (4096 : Int) * ((F.most : Int) + 1) < (J.length : Int) := by omega
        rw [decide_eq_false hov] at Hset
        have hR16 := HR16.out
        have hi0 : (0 : Int) ≤ (i : Int) := by omega
        have hi16 : (i : Int) < 16 := by have := Hlt.out; omega
        go_upto_region 6 with fail
        go_region
        go_upto_region 7 with fail
        have z9 := Hset.out.f.cell 9
        simp only [FP.cells, List.getElem?_cons_zero, List.getElem?_cons_succ] at z9
        have z9' : ((wj.setCell ⟨bf, 9, none⟩ (.bool false)).drew).cell? ⟨bf, 9, none⟩ = some (.bool false) := z9
        clear z9 g5 g9 gf9 hlen
        obtain ⟨wf, hwf⟩ : ∃ wf, wf = (wj.setCell ⟨bf, 9, none⟩ (.bool false)).drew := ⟨_, rfl⟩
        have hkf : Kp (fun k => k = bf) w3 wf := by rw [hwf]; exact (Hkpb.out false).drew
        have hff : Fnd F bf (.slice (some ⟨gl, 0, none⟩) F.G.names.length cl) (.slice (some ⟨gw, 0, none⟩) F.G.names.length cw) false wf := by rw [hwf]; exact Hset.out.later (Below.refl _ _).drew
        have hJf : SetX wf bo J := by rw [hwf]; exact (HJb.out false).at rfl
        have hbo : w.heap.size ≤ bo := by
          have h1 := HJ.out.1; have h2 := Hkp.out.size; have h3 := Hb3.out.size; omega
        rw [← hwf] at z9' ⊢
        have Hff := hid (And.intro hkf (And.intro hff (And.intro hJf hbo)))
        have Hov := hid hov
        clear hwf hkf hff hov hov' hJf hbo
        go_wp2_with fail
        go_roundg (R.length - (i + 1))
        case measure => have := Hk.out; have := Hlt.out; omega
        case rel => exact ⟨i + 1, bo, J, by go_num, rfl, Hlt.out, rfl, Hff.out.2.2.1, HJ.out.2.2, by have := Hov.out; omega, Hff.out.2.2.2, Hff.out.2.1, Hff.out.1⟩
    · have hge : ¬ (i : Int) < (R.length : Int) := by omega
      have hil : i = R.length := by omega
      subst hil
      obtain ⟨m, hma, hmc, hmX, hmg⟩ := hwd.at (a := lf) (by have := Hlf.out.1; omega)
      have hne : bh ≠ m := fun e => by have := Hbn.out.2.2 m (List.mem_of_getElem? hma); omega
      have f8 := hf.f.cell 8
      simp only [FP.cells, List.getElem?_cons_zero, List.getElem?_cons_succ] at f8
      have hll := Hl.out lf
      have hlen1 := (hmX.at (w' := wr.drew) rfl).len 201 Try.underlying201 3
      have hcopy := copyT_calls wr.drew m bh (W lf) H (hmX.at rfl) (hH.at rfl) hne (by omega)
      obtain ⟨L0, hL0⟩ : ∃ L0, L0 = (W lf).length := ⟨_, rfl⟩
      obtain ⟨Wn, hWn⟩ : ∃ Wn, Wn = mrgT H (W lf) := ⟨_, rfl⟩
      rw [← hL0] at hlen1
      rw [← hWn] at hcopy
      have hlf0 : (0 : Int) ≤ (lf : Int) := by omega
      have hlf1 : (lf : Int) < (F.G.names.length : Int) := Hlf.out.1
      have hL01 : L0 ≤ Wn.length := by rw [hL0, hWn]; exact mrgT_le
      have hsame : L0 = Wn.length → Wn = W lf := fun e => by rw [hWn]; exact mrgT_same (by rw [← hWn, ← hL0]; omega)
      have hmem : ∀ z, z ∈ Wn ↔ z ∈ W lf ∨ (Lg.Cmb W R z ∧ (z.length : Int) ≤ F.most) := fun z => by
        rw [hWn, mem_mrgT, hm z, Lg.Hd.done, or_comm]
      have Hfin := hid (And.intro hL01 (And.intro hsame (And.intro hmem (And.intro hL0 hma))))
      have Hf := hid hf
      have Hkp := hid hkp
      have Hwd := hid hwd
      have Hcopy := hid hcopy
      clear hL0 hWn hL01 hsame hmem hcopy hf hkp hwd hmX hm hH hHl hbh hma hrr hbxr x1 hll hne hi
      go_upto_region 10 with fail
      go_region
      go_upto_region 13 with (go_at_call 169; refine Hcopy.out.mono ?_; rintro e wc ⟨rfl, hX, hg⟩)
      have hlen2 := hX.len 201 Try.underlying201 3
      obtain ⟨L1, hL1⟩ : ∃ L1, L1 = Wn.length := ⟨_, rfl⟩
      rw [← hL1] at hlen2
      have HX := hid (And.intro hX (And.intro hg hL1))
      clear hX hg hL1 hlen1 x0 f8 hmc
      go_wp2_with fail
      go_ret
      have hkm : Kp (fun k => k = m) wr wc := (Kp.refl (fun k => k = m) wr).drew.grown HX.out.2.1 (fun k e _ => by injection e with e; exact e.symm)
      have hmm' : m ∈ ms := List.mem_of_getElem? Hfin.out.2.2.2.2
      have hwc : Wds bf gl gw bs ms (upd W lf Wn) F.G.names.length wc := by
        have hwd := Hwd.out
        refine ⟨hwd.l.kp hkm (fun e => by have := hwd.vf; omega), hwd.lf, hwd.v.kp hkm (fun e => by omega), hwd.vf, fun a m' hm' => ?_, hwd.nd, hwd.n1, hwd.n2⟩
        by_cases ha : a = lf
        · subst ha
          have e : m' = m := by have h1 := Hfin.out.2.2.2.2; rw [h1] at hm'; injection hm' with hm'; exact hm'.symm
          subst e
          refine ⟨?_, hmg⟩
          unfold upd; rw [if_pos rfl]; exact HX.out.1
        · refine ⟨?_, (hwd.m a m' hm').2⟩
          unfold upd; rw [if_neg ha]
          refine (hwd.m a m' hm').1.kp hkm (fun e => ha ?_)
          subst e
          obtain ⟨h1, h2⟩ := List.getElem?_eq_some_iff.1 hm'
          obtain ⟨h3, h4⟩ := List.getElem?_eq_some_iff.1 Hfin.out.2.2.2.2
          exact (List.getElem_inj hwd.nd).1 (h2.trans h4.symm)
      have hfc : Fnd F bf (.slice (some ⟨gl, 0, none⟩) F.G.names.length cl) (.slice (some ⟨gw, 0, none⟩) F.G.names.length cw) false wc := Hf.out.kp hkm (fun k e => by have := Hwd.out.lf; have := Hwd.out.vf; omega)
      refine ⟨false, decide (L0 < L1), Wn, by simp, hfc, by simpa using hwc, ?_, HX.out.1.1, .inr ⟨rfl, ?_, ?_, ?_, ?_⟩⟩
      · exact Kp.trans (w' := w3) ⟨Hb3.out.os, Hb3.out.tape, Hb3.out.output, Hb3.out.size, fun k hk _ => Hb3.out.block k hk⟩ ((Hkp.out.mono fun k _ e => .inl e).trans (hkm.mono fun k _ e => .inr (e ▸ hmm')))
      · rw [HX.out.2.2, Hfin.out.2.2.2.1]; simp
      · have := Hfin.out.1; rw [Hfin.out.2.2.2.1] at this; simpa using this
      · have := Hfin.out.2.1; rw [Hfin.out.2.2.2.1] at this; simpa using this
      · simpa using Hfin.out.2.2.1
end Go.Proofs.Ytaehooafdbaomaa
