/- Chapter 6 (format): put: a node's text: walks. -/
import Derived.Test.YtjaampgpihicmaaFmt2
namespace Go.Proofs.Ytjaampgpihicmaa
open Go.RowKit
attribute [local go_sem ↓] Go.wp_at_zero Go.wp_at_succ
attribute [local go_sem] frozen_alloc_lt
open Syn (Nd Nod)
open Fmt (bytesG en par sg bytes_par bytes_end Gl En joinG ens bytesG_app bytesG_cons)

/-- Every node of a row. -/
def NdAll (P : Nod → Prop) : Nd → Prop
  | .nil => True
  | .cons k t kk r => P ⟨k, t, kk⟩ ∧ NdAll P r
def Six (m : Nod) : Prop := PutC m ∧ AroundC m ∧ AtomC m ∧ AgainC m ∧ ItemC m ∧ RowC m
/-- What is left to be written of a row from its place i on. -/
def restG (s : Gl) (f : En → List Gl) (i : Nat) (es : List En) : List Gl := if i = 0 then joinG s (es.map f) else (es.map f).flatMap fun b => s :: b
theorem restG_cons (s : Gl) (f : En → List Gl) (i : Nat) (e : En) (r : List En) : restG s f i (e :: r) = (if i = 0 then [] else [s]) ++ (f e ++ restG s f (i + 1) r) := by
  unfold restG
  rw [if_neg (Nat.succ_ne_zero i)]
  by_cases h : i = 0
  · rw [if_pos h, if_pos h]; rfl
  · rw [if_neg h, if_neg h]; rfl
theorem restG_nil (s : Gl) (f : En → List Gl) (i : Nat) : restG s f i [] = [] := by unfold restG; split <;> rfl
theorem ens_cons (k : Nat) (t : List UInt8) (kk r : Nd) : ens (.cons k t kk r) = en ⟨k, t, kk⟩ :: ens r := rfl
theorem put_name {n : Nod} (h : n.kind = 1) : bytesG (en n).put = n.text := by
  have : (en n).put = [.tok 1 n.text] := by show Fmt.putE _ _ _ = _; unfold Fmt.putE; rw [if_pos (.inl h), h]
  rw [this]
  simp [bytesG, Gl.bytes, Lex.shape]
theorem put_lit {n : Nod} (h : n.kind = 2) : bytesG (en n).put = Lex.quoteS n.text := by
  have : (en n).put = [.tok 2 n.text] := by show Fmt.putE _ _ _ = _; unfold Fmt.putE; rw [if_pos (.inr h), h]
  rw [this]
  simp [bytesG, Gl.bytes, Lex.shape]
theorem put_seq {n : Nod} (h : n.kind = 3) : (en n).put = restG (.bl 32) En.item 0 (ens n.kids) := by show Fmt.putE _ _ _ = _; unfold Fmt.putE; simp [h, restG]
theorem put_alt {n : Nod} (h : n.kind = 4) : (en n).put = restG (sg 124) En.row 0 (ens n.kids) := by show Fmt.putE _ _ _ = _; unfold Fmt.putE; simp [h, restG]
theorem put_opt {n m : Nod} (h : n.kind = 5) (hm : n.kids = .cons m.kind m.text m.kids .nil) : (en n).put = (en m).again 91 63 93 := by show Fmt.putE _ _ _ = _; unfold Fmt.putE; rw [en_one hm]; simp [h]
theorem put_star {n m : Nod} (h : n.kind = 6) (hm : n.kids = .cons m.kind m.text m.kids .nil) : (en n).put = (en m).again 123 42 125 := by show Fmt.putE _ _ _ = _; unfold Fmt.putE; rw [en_one hm]; simp [h]
theorem put_plus {n m : Nod} (h : n.kind = 7) (hm : n.kids = .cons m.kind m.text m.kids .nil) : (en n).put = (en m).atom ++ [sg 43] := by show Fmt.putE _ _ _ = _; unfold Fmt.putE; rw [en_one hm]; simp [h]
theorem put_none {n : Nod} (h : n.kind = 0 ∨ 7 < n.kind) : (en n).put = [] := by show Fmt.putE _ _ _ = _; unfold Fmt.putE; simp [show n.kind ≠ 1 by omega, show n.kind ≠ 2 by omega, show n.kind ≠ 3 by omega, show n.kind ≠ 4 by omega, show n.kind ≠ 5 by omega, show n.kind ≠ 6 by omega, show n.kind ≠ 7 by omega]
theorem six_kid {n m : Nod} (h : NdAll Six n.kids) (hm : n.kids = .cons m.kind m.text m.kids .nil) : Six m := by rw [hm] at h; exact h.1
theorem wrote0 {B b : Nat} {l : List UInt8} {w : World} (h : WrIs B b l w) : Wrote B b l w w := ⟨h, Below.refl _ _, WrKp.refl _ _⟩
set_option maxHeartbeats 4000000 in
set_option maxRecDepth 8000 in
theorem put_of {n : Nod} (h1 : n.kind = 5 ∨ n.kind = 6 ∨ n.kind = 7 → n.kids.len = 1) (ht : n.kind = 2 → n.text.length ≤ 65536) (hkids : NdAll Six n.kids) (hlk : n.kids.len ≤ 1000000) : PutC n := by
  intro w gk ck B b l hn hw hlen
  have Hlk := hid hlk
  clear hlk
  obtain ⟨out, hout⟩ : ∃ out, out = bytesG (en n).put := ⟨_, rfl⟩
  have Hout := hid hout
  rw [← hout] at hlen ⊢
  clear hout
  have hBw : B ≤ w.heap.size := Nat.le_trans hw.le (Nat.le_of_lt hw.lt)
  obtain ⟨kv, hkv⟩ : ∃ kv : Int, kv = n.kind := ⟨_, rfl⟩
  obtain ⟨tv, htv⟩ : ∃ tv : ByteArray, tv = ⟨n.text.toArray⟩ := ⟨_, rfl⟩
  obtain ⟨L, hL⟩ : ∃ L, L = n.kids.len := ⟨_, rfl⟩
  have hbk := Bk.new w 49 [.int .i64 kv, .string tv, .slice gk L ck]
  have hb0 : Below w.heap.size w (w.alloc (.cells #[.int .i64 kv, .string tv, .slice gk L ck] 49)) := (Below.refl _ _).alloc (Nat.le_refl _) _
  have hNV : nodeV n gk ck = .agg #[.int .i64 kv, .string tv, .slice gk L ck] := by unfold nodeV; rw [hkv, htv, hL]
  rw [hNV]
  have HN := hid hNV
  have HV := hid (And.intro hkv (And.intro htv hL))
  clear hkv htv hL hNV
  go_enter Try.func83, Try.ntmps83
  go_upto_region 1 with fail
  obtain ⟨w0, hw0⟩ : ∃ w0, w0 = w.alloc (.cells #[.int .i64 kv, .string tv, .slice gk L ck] 49) := ⟨_, rfl⟩
  obtain ⟨x, hx⟩ : ∃ x, x = w.heap.size := ⟨_, rfl⟩
  rw [← hw0] at hbk hb0 ⊢
  rw [← hx] at hbk ⊢
  have hxb : x ≠ b := by have := hw.lt; omega
  have c0 := hbk.cell 0
  have c1 := hbk.cell 1
  have c2 := hbk.cell 2
  simp only [List.getElem?_cons_zero, List.getElem?_cons_succ] at c0 c1 c2
  have H0 := hid (And.intro (hw.below hb0) (And.intro (nd_below hn (hb0.mono hBw)) (And.intro (hb0.mono hBw) (And.intro (WrKp.below (b := b) hb0) (And.intro hbk (And.intro hlen (Nat.le_trans hBw hb0.size)))))))
  clear hw hn hbk hb0 hlen hBw hw0 hx
  by_cases q1 : n.kind = 1
  · have hq := put_name q1
    have k1 : (kv == 1) = true := kb_yes HV.out.1 (by omega)
    have h2 := wrString_calls B b l n.text w0.drew (H0.out.1.below (below_drewN (Below.refl _ _) 1)) (by have := H0.out.2.2.2.2.2.1; rw [Hout.out, hq] at this; omega) H0.out.2.2.2.2.2.2
    rw [← HV.out.2.1] at h2
    have h2 := hid h2
    have Hq := hid (Hout.out.trans hq)
    clear hq
    clear h1 ht hkids q1
    go_upto_region 3 with fail
    go_region_law (go_simp; go_at_call 82; refine h2.out.mono ?_; rintro e w1 ⟨rfl, hw1⟩)
    all_goals go_wp2_with fail
    all_goals (try simp only [Exit.inBlock, Exit.then])
    all_goals refine bodyPost_end (results_none rfl _ _ _) rfl ?_
    all_goals refine ⟨rfl, ?_⟩
    all_goals rw [Hq.out]
    all_goals exact (hw1.first (below_drewN (Below.refl _ _) 1) (WrKp.refl b w0).drew).first H0.out.2.2.1 H0.out.2.2.2.1
  by_cases q2 : n.kind = 2
  · have hq := put_lit q2
    have k1 : (kv == 1) = false := kb_no HV.out.1 (by omega)
    have k2 : (kv == 2) = true := kb_yes HV.out.1 (by omega)
    have h3 := quote_calls tv w0.drew (by rw [HV.out.2.1, Lib.size_eq]; simpa using ht q2)
    rw [show tv.data.toList = n.text by rw [HV.out.2.1]] at h3
    obtain ⟨qs, hqs⟩ : ∃ qs : ByteArray, qs = ⟨(Lex.quoteS n.text).toArray⟩ := ⟨_, rfl⟩
    rw [← hqs] at h3
    have h3 := hid h3
    have Hqs := hid hqs
    have Hq := hid (Hout.out.trans hq)
    clear hq hqs
    clear h1 ht hkids q1 q2
    go_upto_region 5 with fail
    go_region_law (go_simp; first
      | (go_at_call 118; refine h3.out.mono ?_; rintro e w1 ⟨rfl, hb1⟩; have h2 := wrString_calls B b l (Lex.quoteS n.text) w1 ((H0.out.1.below (below_drewN (Below.refl _ _) 1)).below hb1) (by have := H0.out.2.2.2.2.2.1; rw [Hq.out] at this; omega) (Nat.le_trans H0.out.2.2.2.2.2.2 hb1.size); rw [← Hqs.out] at h2; have h2 := hid h2; have hb1 := hid hb1)
      | (go_at_call 82; refine h2.out.mono ?_; rintro e w2 ⟨rfl, hw2⟩))
    all_goals go_wp2_with fail
    all_goals (try simp only [Exit.inBlock, Exit.then])
    all_goals refine bodyPost_end (results_none rfl _ _ _) rfl ?_
    all_goals refine ⟨rfl, ?_⟩
    all_goals rw [Hq.out]
    all_goals exact ((hw2.first (hb1.out.mono H0.out.2.2.2.2.2.2) (WrKp.below hb1.out)).first (below_drewN (Below.refl _ _) 1) (WrKp.refl b w0).drew).first H0.out.2.2.1 H0.out.2.2.2.1
  by_cases q3 : n.kind = 3
  · have hq := put_seq q3
    have k1 : (kv == 1) = false := kb_no HV.out.1 (by omega)
    have k2 : (kv == 2) = false := kb_no HV.out.1 (by omega)
    have k3 : (kv == 3) = true := kb_yes HV.out.1 (by omega)
    have Hq := hid (Hout.out.trans (congrArg bytesG hq))
    have Hkids := hid hkids
    clear hq
    clear h1 ht q1 q2 q3
    clear hkids
    go_upto_region 8 with fail
    go_loopg [32] L (fun k v32 wr => ∃ (i : Nat) (r : Nd) (m : List UInt8), v32 = .int .i64 i ∧ i + r.len = L ∧ NdAt w0 (fun q => q < B) gk r i ∧ NdAll Six r ∧ m ++ bytesG (restG (.bl 32) En.item i (ens r)) = l ++ out ∧ k = r.len ∧ Wrote B b m w0 wr)
    case atStart => exact ⟨0, n.kids, l, rfl, by rw [HV.out.2.2]; omega, H0.out.2.1, Hkids.out, by rw [Hq.out], HV.out.2.2, wrote0 H0.out.1⟩
    case round =>
      obtain ⟨i, r, m, rfl, hi, hr, hall, hm, hk, hwr⟩ := hrel
      have Hk := hid hk
      have Hwr := hid hwr
      have Hi := hid hi
      have Hm := hid hm
      clear hk hwr hi hm
      cases r with
      | nil =>
        have hge : ¬ (i : Int) < (L : Int) := by have h1 := Hi.out; simp only [Nd.len] at h1; omega
        have he : m = l ++ out := by have := Hm.out; rw [show ens Nd.nil = [] from rfl, restG_nil] at this; simpa [bytesG] using this
        have He := hid he
        clear he hr hall
        go_wp2_with fail
        (try simp only [Exit.inBlock, Exit.then])
        refine bodyPost_end (results_none rfl _ _ _) rfl ?_
        refine ⟨rfl, ?_⟩
        rw [← He.out]
        exact Hwr.out.first H0.out.2.2.1 H0.out.2.2.2.1
      | cons a t kk r1 =>
        have hlt : (i : Int) < (L : Int) := by have h1 := Hi.out; simp only [Nd.len] at h1; omega
        have hi0 : (0 : Int) ≤ (i : Int) := by omega
        unfold NdAt at hr
        obtain ⟨⟨g, off, gm, cm, hgk, hg, a0, a1, a2, hkm⟩, hr1⟩ := hr
        subst hgk
        have d0 := (Hwr.out.2.1.cell (p := ⟨g, _, none⟩) hg).trans a0
        have d1 := (Hwr.out.2.1.cell (p := ⟨g, _, none⟩) hg).trans a1
        have d2 := (Hwr.out.2.1.cell (p := ⟨g, _, none⟩) hg).trans a2
        have hgl : g < wr.heap.size := Nat.lt_of_lt_of_le hg (Nat.le_trans H0.out.2.2.2.2.2.2 Hwr.out.2.1.size)
        obtain ⟨ka, hka⟩ : ∃ ka : Int, ka = a := ⟨_, rfl⟩
        obtain ⟨ta, hta⟩ : ∃ ta : ByteArray, ta = ⟨t.toArray⟩ := ⟨_, rfl⟩
        obtain ⟨M, hM⟩ : ∃ M, M = kk.len := ⟨_, rfl⟩
        rw [← hka] at d0
        rw [← hta] at d1
        rw [← hM] at d2
        have hnv : nodeV ⟨a, t, kk⟩ gm cm = .agg #[.int .i64 ka, .string ta, .slice gm M cm] := by unfold nodeV; rw [hka, hta, hM]
        have Hnv := hid hnv
        have Hkm := hid hkm
        have Hr1 := hid hr1
        have Hall := hid hall
        have Hg := hid hg
        clear a0 a1 a2 hkm hr1 hall hka hta hM hnv hg
        have hy : m ++ ((if i = 0 then [] else bytesG [(.bl 32)]) ++ (bytesG (En.item (en ⟨a, t, kk⟩)) ++ bytesG (restG (.bl 32) En.item (i + 1) (ens r1)))) = l ++ out := by
          rw [← Hm.out, ens_cons, restG_cons, bytesG_app, bytesG_app]
          split <;> rfl
        have Hy := hid hy
        clear hy
        have Hlen := hid (show m.length + (if i = 0 then 0 else 1) + (bytesG (En.item (en ⟨a, t, kk⟩))).length ≤ 100000000000000 by
          have h := congrArg List.length Hy.out
          have h3 := H0.out.2.2.2.2.2.1
          simp only [List.length_append] at h
          split at h
          · rename_i h0; rw [if_pos h0]; simp at h; omega
          · rename_i h0; rw [if_neg h0]; simp only [show (bytesG [(.bl 32)]).length = 1 from rfl] at h; omega)
        have fin : ∀ (m1 : List UInt8) (w1 w2 : World), m1 = m ++ (if i = 0 then [] else bytesG [(.bl 32)]) → Wrote B b m1 wr w1 → Bk w1 wr.heap.size 49 [.int .i64 ka, .string ta, .slice gm M cm] →
            Calls Try.prog 120 #[.pointer (some ⟨b, 0, none⟩), .agg #[.int .i64 ka, .string ta, .slice gm M cm]] w1 (WroteV B b (m1 ++ bytesG (En.item (en ⟨a, t, kk⟩))) w1) := by
          intro m1 w1 _ hm1 hw1 _
          have h := Hall.out.1.2.2.2.2.1 w1 gm cm B b m1 (nd_below Hkm.out (Hwr.out.2.1.trans hw1.2.1)) hw1.1 (by
            have h3 := Hlen.out
            rw [hm1]
            split at h3
            · rename_i h0; rw [if_pos h0]; simpa using h3
            · rename_i h0; rw [if_neg h0, List.length_append, show (bytesG [(.bl 32)]).length = 1 from rfl]; exact h3)
          rwa [Hnv.out] at h
        have Fin := hid fin
        clear fin
        have hfin2 : ∀ (m1 : List UInt8) (w1 w2 : World), m1 = m ++ (if i = 0 then [] else bytesG [(.bl 32)]) → Wrote B b m1 wr w1 → Wrote B b (m1 ++ bytesG (En.item (en ⟨a, t, kk⟩))) w1 w2 →
            i + 1 + r1.len = L ∧ NdAt w0 (fun q => q < B) (some ⟨g, off, none⟩) r1 (i + 1) ∧ NdAll Six r1 ∧ (m1 ++ bytesG (En.item (en ⟨a, t, kk⟩))) ++ bytesG (restG (.bl 32) En.item (i + 1) (ens r1)) = l ++ out ∧ Wrote B b (m1 ++ bytesG (En.item (en ⟨a, t, kk⟩))) w0 w2 := fun m1 w1 w2 hm1 hw1 hw2 =>
          ⟨by have := Hi.out; simp only [Nd.len] at this; omega, Hr1.out, Hall.out.2, by rw [hm1, ← Hy.out]; simp only [List.append_assoc], (Hwr.out.trans hw1).trans hw2⟩
        have Fin2 := hid hfin2
        clear hfin2
        have hL6 : (L : Int) ≤ 1000000 := by have := Hlk.out; have := HV.out.2.2; omega
        have hbk := Bk.new wr 49 [.int .i64 ka, .string ta, .slice gm M cm]
        have hb1 : Below wr.heap.size wr (wr.alloc (.cells #[.int .i64 ka, .string ta, .slice gm M cm] 49)) := (Below.refl _ _).alloc (Nat.le_refl _) _
        have hxb2 : wr.heap.size ≠ b := by have := Hwr.out.1.lt; omega
        go_upto_region 10 with fail
        obtain ⟨w1, hw1e⟩ : ∃ w1, w1 = wr.alloc (.cells #[.int .i64 ka, .string ta, .slice gm M cm] 49) := ⟨_, rfl⟩
        obtain ⟨y, hye⟩ : ∃ y, y = wr.heap.size := ⟨_, rfl⟩
        have Hw1 := hid (show Wrote B b m wr w1 from by rw [hw1e]; exact ⟨Hwr.out.1.below hb1, hb1.mono (Nat.le_trans H0.out.2.2.2.2.2.2 Hwr.out.2.1.size), WrKp.below hb1⟩)
        rw [← hw1e] at hbk ⊢
        rw [← hye] at hbk hxb2 ⊢
        clear hb1 hw1e d0 d1 d2 hgl
        have f0 := hbk.cell 0
        have f1 := hbk.cell 1
        have f2 := hbk.cell 2
        simp only [List.getElem?_cons_zero, List.getElem?_cons_succ] at f0 f1 f2
        have Hbk := hid hbk
        clear hbk
        by_cases h0 : i = 0
        · have hng : ¬ (0 : Int) < (i : Int) := by omega
          have hm1 : m = m ++ (if i = 0 then [] else bytesG [(.bl 32)]) := by rw [if_pos h0, List.append_nil]
          have hcall := hid (Fin.out m w1 w1 hm1 Hw1.out (by rw [← hye]; exact Hbk.out))
          have Hm1 := hid hm1
          clear hm1 h0 hye
          go_wp2_with (go_at_call 120; refine hcall.out.mono ?_; rintro e w2 ⟨rfl, hw2⟩; have Hw2 := hid hw2; clear hw2)
          go_roundg r1.len
          case measure => have hk := Hk.out; simp only [Nd.len] at hk; omega
          case rel =>
            have F := Fin2.out m w1 _ Hm1.out Hw1.out Hw2.out
            exact ⟨i + 1, r1, _, by go_num, F.1, F.2.1, F.2.2.1, F.2.2.2.1, rfl, F.2.2.2.2⟩
        · have hng : (0 : Int) < (i : Int) := by omega
          have hm1 : m ++ [32] = m ++ (if i = 0 then [] else bytesG [(.bl 32)]) := by rw [if_neg h0]; rfl
          have hwb := hid (wrByte_calls B b m 32 w1 Hw1.out.1 (by have h := Hlen.out; rw [if_neg h0] at h; omega) (Nat.le_trans H0.out.2.2.2.2.2.2 (Hwr.out.2.1.trans Hw1.out.2.1).size))
          have Hm1 := hid hm1
          have Hye := hid hye
          clear hm1 h0 hye
          go_upto_region 12 with (go_at_call 119; refine hwb.out.mono ?_; rintro e w2 ⟨rfl, hw2⟩)
          have Hw2 := hid (Wrote.trans Hw1.out hw2)
          have hbk2 := Hbk.out.wrt hw2.2.2 hxb2 (by decide)
          have e0 := hbk2.cell 0
          have e1 := hbk2.cell 1
          have e2 := hbk2.cell 2
          simp only [List.getElem?_cons_zero, List.getElem?_cons_succ] at e0 e1 e2
          have hcall := hid (Fin.out (m ++ [32]) w2 w2 Hm1.out Hw2.out (by rw [← Hye.out]; exact hbk2))
          clear hw2 hbk2 f0 f1 f2
          go_wp2_with (go_at_call 120; refine hcall.out.mono ?_; rintro e w3 ⟨rfl, hw3⟩; have Hw3 := hid hw3; clear hw3)
          go_roundg r1.len
          case measure => have hk := Hk.out; simp only [Nd.len] at hk; omega
          case rel =>
            have F := Fin2.out (m ++ [32]) w2 _ Hm1.out Hw2.out Hw3.out
            exact ⟨i + 1, r1, _, by go_num, F.1, F.2.1, F.2.2.1, F.2.2.2.1, rfl, F.2.2.2.2⟩
  by_cases q4 : n.kind = 4
  · have hq := put_alt q4
    have k1 : (kv == 1) = false := kb_no HV.out.1 (by omega)
    have k2 : (kv == 2) = false := kb_no HV.out.1 (by omega)
    have k3 : (kv == 3) = false := kb_no HV.out.1 (by omega)
    have k4 : (kv == 4) = true := kb_yes HV.out.1 (by omega)
    have Hq := hid (Hout.out.trans (congrArg bytesG hq))
    have Hkids := hid hkids
    clear hq
    clear h1 ht q1 q2 q3 q4
    clear hkids
    go_upto_region 16 with fail
    go_loopg [52] L (fun k v52 wr => ∃ (i : Nat) (r : Nd) (m : List UInt8), v52 = .int .i64 i ∧ i + r.len = L ∧ NdAt w0 (fun q => q < B) gk r i ∧ NdAll Six r ∧ m ++ bytesG (restG (sg 124) En.row i (ens r)) = l ++ out ∧ k = r.len ∧ Wrote B b m w0 wr)
    case atStart => exact ⟨0, n.kids, l, rfl, by rw [HV.out.2.2]; omega, H0.out.2.1, Hkids.out, by rw [Hq.out], HV.out.2.2, wrote0 H0.out.1⟩
    case round =>
      obtain ⟨i, r, m, rfl, hi, hr, hall, hm, hk, hwr⟩ := hrel
      have Hk := hid hk
      have Hwr := hid hwr
      have Hi := hid hi
      have Hm := hid hm
      clear hk hwr hi hm
      cases r with
      | nil =>
        have hge : ¬ (i : Int) < (L : Int) := by have h1 := Hi.out; simp only [Nd.len] at h1; omega
        have he : m = l ++ out := by have := Hm.out; rw [show ens Nd.nil = [] from rfl, restG_nil] at this; simpa [bytesG] using this
        have He := hid he
        clear he hr hall
        go_wp2_with fail
        (try simp only [Exit.inBlock, Exit.then])
        refine bodyPost_end (results_none rfl _ _ _) rfl ?_
        refine ⟨rfl, ?_⟩
        rw [← He.out]
        exact Hwr.out.first H0.out.2.2.1 H0.out.2.2.2.1
      | cons a t kk r1 =>
        have hlt : (i : Int) < (L : Int) := by have h1 := Hi.out; simp only [Nd.len] at h1; omega
        have hi0 : (0 : Int) ≤ (i : Int) := by omega
        unfold NdAt at hr
        obtain ⟨⟨g, off, gm, cm, hgk, hg, a0, a1, a2, hkm⟩, hr1⟩ := hr
        subst hgk
        have d0 := (Hwr.out.2.1.cell (p := ⟨g, _, none⟩) hg).trans a0
        have d1 := (Hwr.out.2.1.cell (p := ⟨g, _, none⟩) hg).trans a1
        have d2 := (Hwr.out.2.1.cell (p := ⟨g, _, none⟩) hg).trans a2
        have hgl : g < wr.heap.size := Nat.lt_of_lt_of_le hg (Nat.le_trans H0.out.2.2.2.2.2.2 Hwr.out.2.1.size)
        obtain ⟨ka, hka⟩ : ∃ ka : Int, ka = a := ⟨_, rfl⟩
        obtain ⟨ta, hta⟩ : ∃ ta : ByteArray, ta = ⟨t.toArray⟩ := ⟨_, rfl⟩
        obtain ⟨M, hM⟩ : ∃ M, M = kk.len := ⟨_, rfl⟩
        rw [← hka] at d0
        rw [← hta] at d1
        rw [← hM] at d2
        have hnv : nodeV ⟨a, t, kk⟩ gm cm = .agg #[.int .i64 ka, .string ta, .slice gm M cm] := by unfold nodeV; rw [hka, hta, hM]
        have Hnv := hid hnv
        have Hkm := hid hkm
        have Hr1 := hid hr1
        have Hall := hid hall
        have Hg := hid hg
        clear a0 a1 a2 hkm hr1 hall hka hta hM hnv hg
        have hy : m ++ ((if i = 0 then [] else bytesG [(sg 124)]) ++ (bytesG (En.row (en ⟨a, t, kk⟩)) ++ bytesG (restG (sg 124) En.row (i + 1) (ens r1)))) = l ++ out := by
          rw [← Hm.out, ens_cons, restG_cons, bytesG_app, bytesG_app]
          split <;> rfl
        have Hy := hid hy
        clear hy
        have Hlen := hid (show m.length + (if i = 0 then 0 else 1) + (bytesG (En.row (en ⟨a, t, kk⟩))).length ≤ 100000000000000 by
          have h := congrArg List.length Hy.out
          have h3 := H0.out.2.2.2.2.2.1
          simp only [List.length_append] at h
          split at h
          · rename_i h0; rw [if_pos h0]; simp at h; omega
          · rename_i h0; rw [if_neg h0]; simp only [show (bytesG [(sg 124)]).length = 1 from rfl] at h; omega)
        have fin : ∀ (m1 : List UInt8) (w1 w2 : World), m1 = m ++ (if i = 0 then [] else bytesG [(sg 124)]) → Wrote B b m1 wr w1 → Bk w1 wr.heap.size 49 [.int .i64 ka, .string ta, .slice gm M cm] →
            Calls Try.prog 86 #[.pointer (some ⟨b, 0, none⟩), .agg #[.int .i64 ka, .string ta, .slice gm M cm]] w1 (WroteV B b (m1 ++ bytesG (En.row (en ⟨a, t, kk⟩))) w1) := by
          intro m1 w1 _ hm1 hw1 _
          have h := Hall.out.1.2.2.2.2.2 w1 gm cm B b m1 (nd_below Hkm.out (Hwr.out.2.1.trans hw1.2.1)) hw1.1 (by
            have h3 := Hlen.out
            rw [hm1]
            split at h3
            · rename_i h0; rw [if_pos h0]; simpa using h3
            · rename_i h0; rw [if_neg h0, List.length_append, show (bytesG [(sg 124)]).length = 1 from rfl]; exact h3)
          rwa [Hnv.out] at h
        have Fin := hid fin
        clear fin
        have hfin2 : ∀ (m1 : List UInt8) (w1 w2 : World), m1 = m ++ (if i = 0 then [] else bytesG [(sg 124)]) → Wrote B b m1 wr w1 → Wrote B b (m1 ++ bytesG (En.row (en ⟨a, t, kk⟩))) w1 w2 →
            i + 1 + r1.len = L ∧ NdAt w0 (fun q => q < B) (some ⟨g, off, none⟩) r1 (i + 1) ∧ NdAll Six r1 ∧ (m1 ++ bytesG (En.row (en ⟨a, t, kk⟩))) ++ bytesG (restG (sg 124) En.row (i + 1) (ens r1)) = l ++ out ∧ Wrote B b (m1 ++ bytesG (En.row (en ⟨a, t, kk⟩))) w0 w2 := fun m1 w1 w2 hm1 hw1 hw2 =>
          ⟨by have := Hi.out; simp only [Nd.len] at this; omega, Hr1.out, Hall.out.2, by rw [hm1, ← Hy.out]; simp only [List.append_assoc], (Hwr.out.trans hw1).trans hw2⟩
        have Fin2 := hid hfin2
        clear hfin2
        have hL6 : (L : Int) ≤ 1000000 := by have := Hlk.out; have := HV.out.2.2; omega
        have hbk := Bk.new wr 49 [.int .i64 ka, .string ta, .slice gm M cm]
        have hb1 : Below wr.heap.size wr (wr.alloc (.cells #[.int .i64 ka, .string ta, .slice gm M cm] 49)) := (Below.refl _ _).alloc (Nat.le_refl _) _
        have hxb2 : wr.heap.size ≠ b := by have := Hwr.out.1.lt; omega
        go_upto_region 18 with fail
        obtain ⟨w1, hw1e⟩ : ∃ w1, w1 = wr.alloc (.cells #[.int .i64 ka, .string ta, .slice gm M cm] 49) := ⟨_, rfl⟩
        obtain ⟨y, hye⟩ : ∃ y, y = wr.heap.size := ⟨_, rfl⟩
        have Hw1 := hid (show Wrote B b m wr w1 from by rw [hw1e]; exact ⟨Hwr.out.1.below hb1, hb1.mono (Nat.le_trans H0.out.2.2.2.2.2.2 Hwr.out.2.1.size), WrKp.below hb1⟩)
        rw [← hw1e] at hbk ⊢
        rw [← hye] at hbk hxb2 ⊢
        clear hb1 hw1e d0 d1 d2 hgl
        have f0 := hbk.cell 0
        have f1 := hbk.cell 1
        have f2 := hbk.cell 2
        simp only [List.getElem?_cons_zero, List.getElem?_cons_succ] at f0 f1 f2
        have Hbk := hid hbk
        clear hbk
        by_cases h0 : i = 0
        · have hng : ¬ (0 : Int) < (i : Int) := by omega
          have hm1 : m = m ++ (if i = 0 then [] else bytesG [(sg 124)]) := by rw [if_pos h0, List.append_nil]
          have hcall := hid (Fin.out m w1 w1 hm1 Hw1.out (by rw [← hye]; exact Hbk.out))
          have Hm1 := hid hm1
          clear hm1 h0 hye
          go_wp2_with (go_at_call 86; refine hcall.out.mono ?_; rintro e w2 ⟨rfl, hw2⟩; have Hw2 := hid hw2; clear hw2)
          go_roundg r1.len
          case measure => have hk := Hk.out; simp only [Nd.len] at hk; omega
          case rel =>
            have F := Fin2.out m w1 _ Hm1.out Hw1.out Hw2.out
            exact ⟨i + 1, r1, _, by go_num, F.1, F.2.1, F.2.2.1, F.2.2.2.1, rfl, F.2.2.2.2⟩
        · have hng : (0 : Int) < (i : Int) := by omega
          have hm1 : m ++ [124] = m ++ (if i = 0 then [] else bytesG [(sg 124)]) := by rw [if_neg h0]; rfl
          have hwb := hid (wrByte_calls B b m 124 w1 Hw1.out.1 (by have h := Hlen.out; rw [if_neg h0] at h; omega) (Nat.le_trans H0.out.2.2.2.2.2.2 (Hwr.out.2.1.trans Hw1.out.2.1).size))
          have Hm1 := hid hm1
          have Hye := hid hye
          clear hm1 h0 hye
          go_upto_region 20 with (go_at_call 119; refine hwb.out.mono ?_; rintro e w2 ⟨rfl, hw2⟩)
          have Hw2 := hid (Wrote.trans Hw1.out hw2)
          have hbk2 := Hbk.out.wrt hw2.2.2 hxb2 (by decide)
          have e0 := hbk2.cell 0
          have e1 := hbk2.cell 1
          have e2 := hbk2.cell 2
          simp only [List.getElem?_cons_zero, List.getElem?_cons_succ] at e0 e1 e2
          have hcall := hid (Fin.out (m ++ [124]) w2 w2 Hm1.out Hw2.out (by rw [← Hye.out]; exact hbk2))
          clear hw2 hbk2 f0 f1 f2
          go_wp2_with (go_at_call 86; refine hcall.out.mono ?_; rintro e w3 ⟨rfl, hw3⟩; have Hw3 := hid hw3; clear hw3)
          go_roundg r1.len
          case measure => have hk := Hk.out; simp only [Nd.len] at hk; omega
          case rel =>
            have F := Fin2.out (m ++ [124]) w2 _ Hm1.out Hw2.out Hw3.out
            exact ⟨i + 1, r1, _, by go_num, F.1, F.2.1, F.2.2.1, F.2.2.2.1, rfl, F.2.2.2.2⟩
  by_cases q5 : n.kind = 5
  · have hone := h1 (by omega)
    obtain ⟨m, g, off, gm, cm, kk, tk, M, hf, rfl, hmv, d0, d1, d2, hm, hg, hL1⟩ := kid_cells H0.out.2.1 HV.out.2.2 H0.out.2.2.2.2.2.2 hone
    have hq := put_opt q5 hf
    have hsix := six_kid hkids hf
    have hcall : Calls Try.prog 121 #[.pointer (some ⟨b, 0, none⟩), .agg #[.int .i64 kk, .string tk, .slice gm M cm], .string ⟨#[91, 63, 93]⟩] w0 (WroteV B b (l ++ bytesG ((en m).again 91 63 93)) w0) := by
      have h := hsix.2.2.2.1 w0 gm cm B b l 91 63 93 hm H0.out.1 (by have := H0.out.2.2.2.2.2.1; rw [Hout.out, hq] at this; exact this)
      rwa [hmv] at h
    have Hcall := hid hcall
    have Hq := hid (Hout.out.trans (congrArg bytesG hq))
    have hL2 : (0 : Int) < (L : Int) := by omega
    clear hcall hm hmv hL1 hq hsix hone hf
    have k1 : (kv == 1) = false := kb_no HV.out.1 (by omega)
    have k2 : (kv == 2) = false := kb_no HV.out.1 (by omega)
    have k3 : (kv == 3) = false := kb_no HV.out.1 (by omega)
    have k4 : (kv == 4) = false := kb_no HV.out.1 (by omega)
    have k5 : (kv == 5) = true := kb_yes HV.out.1 (by omega)
    clear h1 ht hkids q1 q2 q3 q4 q5
    go_wp2_with (go_at_call 121; refine Hcall.out.mono ?_; rintro e w1 ⟨rfl, hw1⟩)
    refine bodyPost_end (results_none rfl _ _ _) rfl ?_
    refine ⟨rfl, ?_⟩
    rw [Hq.out]
    exact hw1.first H0.out.2.2.1 H0.out.2.2.2.1
  by_cases q6 : n.kind = 6
  · have hone := h1 (by omega)
    obtain ⟨m, g, off, gm, cm, kk, tk, M, hf, rfl, hmv, d0, d1, d2, hm, hg, hL1⟩ := kid_cells H0.out.2.1 HV.out.2.2 H0.out.2.2.2.2.2.2 hone
    have hq := put_star q6 hf
    have hsix := six_kid hkids hf
    have hcall : Calls Try.prog 121 #[.pointer (some ⟨b, 0, none⟩), .agg #[.int .i64 kk, .string tk, .slice gm M cm], .string ⟨#[123, 42, 125]⟩] w0 (WroteV B b (l ++ bytesG ((en m).again 123 42 125)) w0) := by
      have h := hsix.2.2.2.1 w0 gm cm B b l 123 42 125 hm H0.out.1 (by have := H0.out.2.2.2.2.2.1; rw [Hout.out, hq] at this; exact this)
      rwa [hmv] at h
    have Hcall := hid hcall
    have Hq := hid (Hout.out.trans (congrArg bytesG hq))
    have hL2 : (0 : Int) < (L : Int) := by omega
    clear hcall hm hmv hL1 hq hsix hone hf
    have k1 : (kv == 1) = false := kb_no HV.out.1 (by omega)
    have k2 : (kv == 2) = false := kb_no HV.out.1 (by omega)
    have k3 : (kv == 3) = false := kb_no HV.out.1 (by omega)
    have k4 : (kv == 4) = false := kb_no HV.out.1 (by omega)
    have k5 : (kv == 5) = false := kb_no HV.out.1 (by omega)
    have k6 : (kv == 6) = true := kb_yes HV.out.1 (by omega)
    clear h1 ht hkids q1 q2 q3 q4 q5 q6
    go_wp2_with (go_at_call 121; refine Hcall.out.mono ?_; rintro e w1 ⟨rfl, hw1⟩)
    refine bodyPost_end (results_none rfl _ _ _) rfl ?_
    refine ⟨rfl, ?_⟩
    rw [Hq.out]
    exact hw1.first H0.out.2.2.1 H0.out.2.2.2.1
  by_cases q7 : n.kind = 7
  · have hone := h1 (by omega)
    obtain ⟨m, g, off, gm, cm, kk, tk, M, hf, rfl, hmv, d0, d1, d2, hm, hg, hL1⟩ := kid_cells H0.out.2.1 HV.out.2.2 H0.out.2.2.2.2.2.2 hone
    have hq := put_plus q7 hf
    have hsix := six_kid hkids hf
    have hcall : Calls Try.prog 122 #[.pointer (some ⟨b, 0, none⟩), .agg #[.int .i64 kk, .string tk, .slice gm M cm]] w0 (WroteV B b (l ++ bytesG (en m).atom) w0) := by
      have h := hsix.2.2.1 w0 gm cm B b l hm H0.out.1 (by have := H0.out.2.2.2.2.2.1; rw [Hout.out, hq] at this; rw [bytes_end, List.length_append] at this; omega)
      rwa [hmv] at h
    have Hcall := hid hcall
    have Hq := hid (Hout.out.trans (congrArg bytesG hq))
    have hL2 : (0 : Int) < (L : Int) := by omega
    clear hcall hm hmv hL1 hq hsix hone hf
    have k1 : (kv == 1) = false := kb_no HV.out.1 (by omega)
    have k2 : (kv == 2) = false := kb_no HV.out.1 (by omega)
    have k3 : (kv == 3) = false := kb_no HV.out.1 (by omega)
    have k4 : (kv == 4) = false := kb_no HV.out.1 (by omega)
    have k5 : (kv == 5) = false := kb_no HV.out.1 (by omega)
    have k6 : (kv == 6) = false := kb_no HV.out.1 (by omega)
    have k7 : (kv == 7) = true := kb_yes HV.out.1 (by omega)
    clear h1 ht hkids q1 q2 q3 q4 q5 q6 q7
    have Hlen := hid (show l.length + (bytesG (en m).atom).length + 1 ≤ 100000000000000 by have := H0.out.2.2.2.2.2.1; rw [Hq.out, bytes_end, List.length_append] at this; simp only [List.length_cons, List.length_nil] at this; omega)
    go_upto_region 28 with (go_at_call 122; refine Hcall.out.mono ?_; rintro e w1 ⟨rfl, hw1⟩)
    have h2 := hid (wrByte_calls B b (l ++ bytesG (en m).atom) 43 w1 hw1.1 (by have := Hlen.out; simp; omega) (Nat.le_trans H0.out.2.2.2.2.2.2 hw1.2.1.size))
    have H1 := hid hw1
    clear hw1
    go_wp2_with (go_at_call 119; refine h2.out.mono ?_; rintro e w2 ⟨rfl, hw2⟩)
    refine bodyPost_end (results_none rfl _ _ _) rfl ?_
    refine ⟨rfl, ?_⟩
    rw [Hq.out, bytes_end, ← List.append_assoc]
    exact (H1.out.trans hw2).first H0.out.2.2.1 H0.out.2.2.2.1
  · have hq := put_none (n := n) (by omega)
    have Hq := hid (Hout.out.trans (congrArg bytesG hq))
    clear hq
    have k1 : (kv == 1) = false := kb_no HV.out.1 (by omega)
    have k2 : (kv == 2) = false := kb_no HV.out.1 (by omega)
    have k3 : (kv == 3) = false := kb_no HV.out.1 (by omega)
    have k4 : (kv == 4) = false := kb_no HV.out.1 (by omega)
    have k5 : (kv == 5) = false := kb_no HV.out.1 (by omega)
    have k6 : (kv == 6) = false := kb_no HV.out.1 (by omega)
    have k7 : (kv == 7) = false := kb_no HV.out.1 (by omega)
    clear h1 ht hkids q1 q2 q3 q4 q5 q6 q7
    go_wp2_with fail
    refine bodyPost_end (results_none rfl _ _ _) rfl ?_
    refine ⟨rfl, ?_⟩
    rw [Hq.out, show bytesG [] = [] from rfl, List.append_nil]
    exact ⟨H0.out.1, H0.out.2.2.1, H0.out.2.2.2.1⟩
theorem six_of {n : Nod} (h1 : n.kind = 5 ∨ n.kind = 6 ∨ n.kind = 7 → n.kids.len = 1) (ht : n.kind = 2 → n.text.length ≤ 65536) (hkids : NdAll Six n.kids) (hlk : n.kids.len ≤ 1000000) : Six n := by
  have hp := put_of h1 ht hkids hlk
  have ha := around_of hp
  have hat := atom_of hp ha (fun h => h1 (by omega)) (fun m hm => (six_kid hkids hm).2.1)
  exact ⟨hp, ha, hat, again_of hat ha, item_of hp ha, row_of hp ha⟩
theorem fit_one {k : Nat} {t : List UInt8} {n : Nat} (h : Syn.fitN k t n = true) : (k = 5 ∨ k = 6 ∨ k = 7 → n = 1) ∧ (k = 2 → t.length ≤ 65536) := by
  unfold Syn.fitN at h
  constructor
  · rintro (rfl | rfl | rfl) <;> simpa using (by simpa using h : n = 1 ∧ t = []).1
  · rintro rfl
    simp at h
    omega
theorem nd_len : ∀ f : Nd, f.len ≤ f.nodes
  | .nil => Nat.le_refl _
  | .cons _ _ kids r => by have := nd_len r; simp only [Nd.len, Nd.nodes]; omega
theorem six_all : ∀ f : Nd, f.proper = true → f.nodes ≤ 1000000 → NdAll Six f
  | .nil, _, _ => trivial
  | .cons k t kids r, hp, hn => by
    unfold Nd.proper at hp
    simp only [Bool.and_eq_true] at hp
    simp only [Nd.nodes] at hn
    have h := fit_one hp.1.1
    exact ⟨six_of (n := ⟨k, t, kids⟩) h.1 h.2 (six_all kids hp.1.2 (by omega)) (Nat.le_trans (nd_len kids) (by omega)), six_all r hp.2 (by omega)⟩
end Go.Proofs.Ytjaampgpihicmaa
