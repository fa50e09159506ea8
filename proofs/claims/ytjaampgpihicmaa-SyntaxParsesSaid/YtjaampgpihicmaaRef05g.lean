/- Chapter 5, the document's Parse of any text; its SameNode and Same. -/
import Derived.Test.YtjaampgpihicmaaRef05f
import Derived.Test.YtjaampgpihicmaaSyn16
namespace Go.Proofs.Ytjaampgpihicmaa
open Go.RowKit
attribute [local go_sem ↓] Go.wp_at_zero Go.wp_at_succ
attribute [local go_sem] frozen_alloc_lt
open Syn (Nd Nod)

set_option maxRecDepth 8000 in
set_option maxHeartbeats 4000000 in
theorem rparse_bad (s : ByteArray) (w : World) (hs : s.size ≤ 2000) {f : Lex.Flt} (h : Lex.scan s.data.toList = .bad f) :
    Calls Try.prog 16 #[.string s] w fun e w' => ParsePost w e w' (.bad f) := by
  have hcd0 := Lex.scan_code h
  have hb0 : Below w.heap.size w ((w.alloc (.cells #[.string ⟨#[]⟩, .slice none 0 0] 33)).alloc (.cells #[.int .i64 0, .int .i64 0, .int .i64 0] 35)) := bel_trans (bel_new _ _) (bel_new _ _)
  have hsc := rscan_calls s ((w.alloc (.cells #[.string ⟨#[]⟩, .slice none 0 0] 33)).alloc (.cells #[.int .i64 0, .int .i64 0, .int .i64 0] 35)) (by omega)
  rw [h] at hsc
  have rb := (Bk.new w 33 [.string ⟨#[]⟩, .slice none 0 0]).alloc (.cells #[.int .i64 0, .int .i64 0, .int .i64 0] 35)
  have rc := Bk.new (w.alloc (.cells #[.string ⟨#[]⟩, .slice none 0 0] 33)) 35 [.int .i64 0, .int .i64 0, .int .i64 0]
  rw [show (w.alloc (.cells #[.string ⟨#[]⟩, .slice none 0 0] 33)).heap.size = w.heap.size + 1 by simp] at rc
  obtain ⟨fl, hfl⟩ : ∃ fl : Int, fl = f.line := ⟨_, rfl⟩
  obtain ⟨fo, hfo⟩ : ∃ fo : Int, fo = f.col := ⟨_, rfl⟩
  obtain ⟨fd, hfd⟩ : ∃ fd : Int, fd = f.code := ⟨_, rfl⟩
  have hfz : ¬ fd = 0 := by omega
  simp only [RScanPost, ← hfl, ← hfo, ← hfd] at hsc
  simp only [ParsePost, ← hfl, ← hfo, ← hfd]
  obtain ⟨wa, hwa⟩ : ∃ wa, wa = ((w.alloc (.cells #[.string ⟨#[]⟩, .slice none 0 0] 33)).alloc (.cells #[.int .i64 0, .int .i64 0, .int .i64 0] 35)) := ⟨_, rfl⟩
  obtain ⟨b, hb⟩ : ∃ b, b = w.heap.size := ⟨_, rfl⟩
  obtain ⟨c, hc⟩ : ∃ c, c = w.heap.size + 1 := ⟨_, rfl⟩
  have hwas : wa.heap.size = w.heap.size + 2 := by rw [hwa]; simp
  rw [← hwa] at hb0 hsc rb rc
  rw [← hc] at rc
  rw [← hb] at rb
  have hne : ¬ b = c := by omega
  have hne2 : ¬ c = b := by omega
  have HW := hid hwa
  have HWS := hid hwas
  have HB := hid hb
  have HC := hid hc
  have Hb0 := hid hb0
  clear hwa hwas hb hc h hb0 hfl hfo hfd hcd0
  go_enter Try.func16, Try.ntmps16
  go_upto_region 1 with fail
  rw [← HW.out, ← HC.out, ← HB.out]
  go_upto_region 2 with (go_at_call 52; refine hsc.mono ?_; rintro e w1 ⟨rfl, hb1⟩)
  have rb1 := (rb.below hb1 rb.lt).alloc (.cells #[.int .i64 fl, .int .i64 fo, .int .i64 fd] 35)
  have rc1 := (rc.below hb1 rc.lt).alloc (.cells #[.int .i64 fl, .int .i64 fo, .int .i64 fd] 35)
  have rf1 := Bk.new w1 35 [.int .i64 fl, .int .i64 fo, .int .i64 fd]
  have hb2 := hb1.alloc hb1.size (.cells #[.int .i64 fl, .int .i64 fo, .int .i64 fd] 35)
  have hw1 := hb1.size
  obtain ⟨wq, hwq⟩ : ∃ wq, wq = w1.alloc (.cells #[.int .i64 fl, .int .i64 fo, .int .i64 fd] 35) := ⟨_, rfl⟩
  obtain ⟨d, hd⟩ : ∃ d, d = w1.heap.size := ⟨_, rfl⟩
  rw [← hwq] at rb1 rc1 rf1 hb2 ⊢
  rw [← hd] at rf1 ⊢
  have hdb : ¬ d = b := by have := HB.out; have := HWS.out; omega
  have hdc : ¬ d = c := by have := HC.out; have := HWS.out; omega
  have r0 := rb1.cell 0
  have r1 := rb1.cell 1
  have fr0 := rb1.free 0
  have fr1 := rb1.free 1
  have s0 := rc1.cell 0
  have s1 := rc1.cell 1
  have s2 := rc1.cell 2
  have fs0 := rc1.free 0
  have fs1 := rc1.free 1
  have fs2 := rc1.free 2
  have d0 := rf1.cell 0
  have d1 := rf1.cell 1
  have d2 := rf1.cell 2
  simp only [List.getElem?_cons_zero, List.getElem?_cons_succ] at r0 r1 s0 s1 s2 d0 d1 d2
  have Hrb1 := hid rb1
  have Hrc1 := hid rc1
  have Hb2 := hid hb2
  clear hwq hd rb1 rc1 rf1 hb2 hw1 hb1 rb rc hsc
  go_wp2_with fail
  go_region
  go_wp2
  refine bodyPost_ret (rparse_results _ b c (.string ⟨#[]⟩) (.slice none 0 0) (.int .i64 fl) (.int .i64 fo) (.int .i64 fd) _ (by rfl) (by rfl) ?_ ?_) rfl ?_
  · refine Bk.drew ?_
    exact ((((Hrb1.out.set 0 _).set 1 _).far (p := ⟨c, 0, none⟩) hne _).far (p := ⟨c, 1, none⟩) hne _).far (p := ⟨c, 2, none⟩) hne _
  · refine Bk.drew ?_
    exact ((((Hrc1.out.far (p := ⟨b, 0, none⟩) hne2 _).far (p := ⟨b, 1, none⟩) hne2 _).set 0 _).set 1 _).set 2 _
  refine ⟨rfl, ?_⟩
  have hcb : b ≤ c := by have := HB.out; have := HC.out; omega
  rw [← HB.out]
  refine Below.drew ?_
  refine Below.setCell ?_ (by show b ≤ c; omega) _
  refine Below.setCell ?_ (by show b ≤ c; omega) _
  refine Below.setCell ?_ (by show b ≤ c; omega) _
  refine Below.setCell ?_ (by show b ≤ b; omega) _
  refine Below.setCell ?_ (by show b ≤ b; omega) _
  rw [HB.out]
  exact Hb0.out.trans (Hb2.out.mono (by have := HWS.out; omega))
/-- Parse of any text that is not too long. -/
theorem rparse_calls (s : ByteArray) (w : World) (hs : s.size ≤ 2000) : Calls Try.prog 16 #[.string s] w fun e w' => ParsePost w e w' (Syn.parseS s.data.toList) := by
  unfold Syn.parseS
  cases h : Lex.scan s.data.toList with
  | bad f => exact rparse_bad s w hs h
  | good T => exact rparse_good s w hs h
end Go.Proofs.Ytjaampgpihicmaa
namespace Go.Proofs.Ytjaampgpihicmaa
open Go.RowKit
attribute [local go_sem ↓] Go.wp_at_zero Go.wp_at_succ
attribute [local go_sem] frozen_alloc_lt
open Syn (Nd Nod)

def RSameSays (m : Nat) : Prop := ∀ (w : World) (a b : Nod) (ga gb : Option Addr) (ca cb : Nat), a.kids.nodes = m → NdIn w ga a.kids 0 → NdIn w gb b.kids 0 → a.fits 100000 → b.fits 100000 →
  Calls Try.prog 59 #[nodeV a ga ca, nodeV b gb cb] w fun e w' => e = .returned (.bool (Syn.sameN a b)) ∧ Below w.heap.size w w'
def RSmAt (w0 : World) (ga gb : Option Addr) (L : Nat) (res : Bool) (N : Nat) (k : Nat) (v5 : Value) (w : World) : Prop :=
  ∃ (i : Nat) (r r' : Nd), v5 = .int .i64 i ∧ i + r.len = L ∧ r'.len = r.len ∧ r.nodes ≤ N ∧ r.fits 100000 ∧ r'.fits 100000 ∧ NdIn w0 ga r i ∧ NdIn w0 gb r' i ∧ Syn.all2 Syn.sameN r r' = res ∧ k = r.len ∧ Below w0.heap.size w0 w
set_option maxRecDepth 8000 in
set_option maxHeartbeats 4000000 in
theorem rsame_step (m : Nat) (ih : ∀ m', m' < m → RSameSays m') : RSameSays m := by
  intro w a b ga gb ca cb hm ha hb hfa hfb
  have hs := Syn.sameN_eq a b
  obtain ⟨ka, hka⟩ : ∃ ka : Int, ka = a.kind := ⟨_, rfl⟩
  obtain ⟨kb, hkb⟩ : ∃ kb : Int, kb = b.kind := ⟨_, rfl⟩
  obtain ⟨La, hLa⟩ : ∃ La, La = a.kids.len := ⟨_, rfl⟩
  obtain ⟨Lb, hLb⟩ : ∃ Lb, Lb = b.kids.len := ⟨_, rfl⟩
  have hbel := bel_trans (bel_new w (.cells #[.int .i64 ka, .string ⟨a.text.toArray⟩, .slice ga La ca] 85)) (bel_new _ (.cells #[.int .i64 kb, .string ⟨b.text.toArray⟩, .slice gb Lb cb] 85))
  simp only [nodeV, ← hka, ← hkb, ← hLa, ← hLb]
  have Hbel := hid hbel
  by_cases h1 : ka = kb
  · by_cases h2 : a.text = b.text
    · by_cases h3 : La = Lb
      · have e : Syn.sameN a b = Syn.all2 Syn.sameN a.kids b.kids := by
          rw [hs, h2, show a.kind = b.kind by omega]
          unfold Syn.eqB
          rw [decide_eq_true (by omega : a.kids.len = b.kids.len)]
          simp
        rw [e]
        obtain ⟨res, hres⟩ : ∃ res, res = Syn.all2 Syn.sameN a.kids b.kids := ⟨_, rfl⟩
        rw [← hres]
        have hL1 : La ≤ 100000 := by have := hfa.1; omega
        have Hlen := hid (And.intro hLa (show b.kids.len = a.kids.len by omega))
        have Hin := hid (And.intro ha hb)
        have Hfit := hid (And.intro hfa.2 hfb.2)
        have Hres := hid hres
        have Hm := hid hm
        have Hih := hid ih
        have hq0 := (Bk.new w 85 [.int .i64 ka, .string ⟨a.text.toArray⟩, .slice ga La ca]).alloc (.cells #[.int .i64 kb, .string ⟨b.text.toArray⟩, .slice gb Lb cb] 85)
        have hq1 := Bk.new (w.alloc (.cells #[.int .i64 ka, .string ⟨a.text.toArray⟩, .slice ga La ca] 85)) 85 [.int .i64 kb, .string ⟨b.text.toArray⟩, .slice gb Lb cb]
        rw [show (w.alloc (.cells #[.int .i64 ka, .string ⟨a.text.toArray⟩, .slice ga La ca] 85)).heap.size = w.heap.size + 1 by simp] at hq1
        subst h1
        rw [h2] at hq0 hq1 Hbel ⊢
        subst h3
        obtain ⟨wa, hwa⟩ : ∃ wa, wa = (w.alloc (.cells #[.int .i64 ka, .string ⟨b.text.toArray⟩, .slice ga La ca] 85)).alloc (.cells #[.int .i64 ka, .string ⟨b.text.toArray⟩, .slice gb La cb] 85) := ⟨_, rfl⟩
        obtain ⟨qa, hqa⟩ : ∃ qa, qa = w.heap.size := ⟨_, rfl⟩
        obtain ⟨qb, hqb⟩ : ∃ qb, qb = w.heap.size + 1 := ⟨_, rfl⟩
        rw [← hwa] at hq0 hq1 Hbel
        rw [← hqb] at hq1
        rw [← hqa] at hq0
        have HW := hid hwa
        have HQ := hid (And.intro hqa hqb)
        have Hq := hid (And.intro hq0 hq1)
        have Hwas := hid (show wa.heap.size = w.heap.size + 2 by rw [hwa]; simp)
        clear hs e hka hkb hLa hLb h2 ih hm ha hb hfa hfb hres hbel hq0 hq1 hwa hqa hqb
        go_enter Try.func59, Try.ntmps59
        go_upto_region 3 with fail
        rw [← HW.out, ← HQ.out.2, ← HQ.out.1]
        go_wp2_with fail
        go_loopg [5] La (fun k v5 wr => RSmAt w ga gb La res a.kids.nodes k v5 wr ∧ Below wa.heap.size wa wr)
        case atStart => exact ⟨⟨0, a.kids, b.kids, rfl, by rw [Hlen.out.1]; omega, Hlen.out.2, Nat.le_refl _, Hfit.out.1, Hfit.out.2, Hin.out.1, Hin.out.2, Hres.out.symm, Hlen.out.1, Hbel.out⟩, Below.refl _ _⟩
        case round =>
          obtain ⟨⟨i, r, r', rfl, hi, hrl, hnd, hf1, hf2, hi1, hi2, hx, hk, hbw⟩, hbw2⟩ := hrel
          have qq := Hq.out.1.below hbw2 Hq.out.1.lt
          have qr := Hq.out.2.below hbw2 Hq.out.2.lt
          have q2 := qq.cell 2
          have r2 := qr.cell 2
          simp only [List.getElem?_cons_zero, List.getElem?_cons_succ] at q2 r2
          have hlq := qq.lt
          have hlr := qr.lt
          have Hqq := hid (And.intro qq qr)
          have Hk := hid hk
          have Hbw := hid hbw
          have Hbw2 := hid hbw2
          have Hi := hid hi
          clear hk hi hbw hbw2 qq qr
          cases r with
          | nil =>
            have hge : ¬ (i : Int) < (La : Int) := by have h1 := Hi.out; simp only [Nd.len] at h1; omega
            have hx2 : res = true := by rw [← hx, Syn.all2]
            have Hx := hid hx2
            clear hx hx2
            go_wp2_with fail
            go_ret
            rw [Hx.out]
            exact ⟨rfl, Hbw.out⟩
          | cons a1 t1 k1 r1 =>
            cases r' with
            | nil => simp [Nd.len] at hrl
            | cons b1 u1 l1 r2' =>
              have hlt : (i : Int) < (La : Int) := by have h1 := Hi.out; simp only [Nd.len] at h1; omega
              have hi0 : (0 : Int) ≤ (i : Int) := by omega
              rw [Syn.all2] at hx
              unfold NdIn NdAt at hi1 hi2
              obtain ⟨⟨g1, o1, gk1, ck1, hga, hg1, a0, a1', a2, hk1⟩, hr1⟩ := hi1
              obtain ⟨⟨g2, o2, gl1, cl1, hgb, hg2, b0, b1', b2, hk2⟩, hr2⟩ := hi2
              simp only [Nd.nodes] at hnd
              simp only [Syn.Nd.fits] at hf1 hf2
              have al := (Hbw.out.cell (p := ⟨g1, _, none⟩) hg1).trans a0
              have al1 := (Hbw.out.cell (p := ⟨g1, _, none⟩) hg1).trans a1'
              have al2 := (Hbw.out.cell (p := ⟨g1, _, none⟩) hg1).trans a2
              have bl := (Hbw.out.cell (p := ⟨g2, _, none⟩) hg2).trans b0
              have bl1 := (Hbw.out.cell (p := ⟨g2, _, none⟩) hg2).trans b1'
              have bl2 := (Hbw.out.cell (p := ⟨g2, _, none⟩) hg2).trans b2
              have hl1 : g1 < wr.heap.size := Nat.lt_of_lt_of_le hg1 Hbw.out.size
              have hl2 : g2 < wr.heap.size := Nat.lt_of_lt_of_le hg2 Hbw.out.size
              have hk1' : NdIn wr gk1 k1 0 := NdIn.later hk1 Hbw.out
              have hk2' : NdIn wr gl1 l1 0 := NdIn.later hk2 Hbw.out
              have hd := (Below.refl wr.heap.size wr).drew
              have hpc := Hih.out k1.nodes (by have := Hm.out; omega) wr.drew ⟨a1, t1, k1⟩ ⟨b1, u1, l1⟩ gk1 gl1 ck1 cl1 rfl (hk1'.later hd) (hk2'.later hd) ⟨hf1.1, hf1.2.1⟩ ⟨hf2.1, hf2.2.1⟩
              simp only [nodeV] at hpc
              subst hga hgb
              have hcall : Calls Try.prog 59 #[.agg #[.int .i64 a1, .string ⟨t1.toArray⟩, .slice gk1 k1.len ck1], .agg #[.int .i64 b1, .string ⟨u1.toArray⟩, .slice gl1 l1.len cl1]] wr.drew fun e w' => e = .returned (.bool (Syn.sameN ⟨a1, t1, k1⟩ ⟨b1, u1, l1⟩)) ∧
                  (w'.cell? ⟨qa, 2, none⟩ = some (.slice (some ⟨g1, o1, none⟩) La ca) ∧ w'.cell? ⟨qb, 2, none⟩ = some (.slice (some ⟨g2, o2, none⟩) La cb) ∧ w'.cell? ⟨g1, o1 + i * 3, none⟩ = some (.int .i64 a1) ∧ w'.cell? ⟨g1, o1 + i * 3 + 1, none⟩ = some (.string ⟨t1.toArray⟩) ∧ w'.cell? ⟨g1, o1 + i * 3 + 2, none⟩ = some (.slice gk1 k1.len ck1) ∧ w'.cell? ⟨g2, o2 + i * 3, none⟩ = some (.int .i64 b1) ∧ w'.cell? ⟨g2, o2 + i * 3 + 1, none⟩ = some (.string ⟨u1.toArray⟩) ∧ w'.cell? ⟨g2, o2 + i * 3 + 2, none⟩ = some (.slice gl1 l1.len cl1)) ∧
                  Below w.heap.size w w' ∧ Below wa.heap.size wa w' := by
                refine hpc.mono ?_
                rintro e w' ⟨rfl, hb'⟩
                have hb2 := hd.trans hb'
                exact ⟨rfl, ⟨(hb2.cell (p := ⟨qa, 2, none⟩) hlq).trans q2, (hb2.cell (p := ⟨qb, 2, none⟩) hlr).trans r2, (hb2.cell (p := ⟨g1, _, none⟩) hl1).trans al, (hb2.cell (p := ⟨g1, _, none⟩) hl1).trans al1, (hb2.cell (p := ⟨g1, _, none⟩) hl1).trans al2, (hb2.cell (p := ⟨g2, _, none⟩) hl2).trans bl, (hb2.cell (p := ⟨g2, _, none⟩) hl2).trans bl1, (hb2.cell (p := ⟨g2, _, none⟩) hl2).trans bl2⟩, bel_trans Hbw.out hb2, bel_trans Hbw2.out hb2⟩
              have hn2 : r1.nodes ≤ a.kids.nodes := by omega
              have hrl2 : r2'.len = r1.len := by simpa [Nd.len] using hrl
              have Hx := hid hx
              have Hf := hid (And.intro hf1.2.2 hf2.2.2)
              have Hn2 := hid (And.intro hn2 hrl2)
              have Hr := hid (And.intro hr1 hr2)
              clear hx hf1 hf2 hn2 hrl2 hrl hr1 hr2 a0 a1' a2 b0 b1' b2 hk1 hk2 hk1' hk2' hpc hnd hd
              cases hg : Syn.sameN ⟨a1, t1, k1⟩ ⟨b1, u1, l1⟩ with
              | false =>
                rw [hg] at Hx hcall
                clear hg
                go_wp2_with fail
                go_region_held3 (fun w' => w'.cell? ⟨qa, 2, none⟩ = some (.slice (some ⟨g1, o1, none⟩) La ca) ∧ w'.cell? ⟨qb, 2, none⟩ = some (.slice (some ⟨g2, o2, none⟩) La cb) ∧ w'.cell? ⟨g1, o1 + i * 3, none⟩ = some (.int .i64 a1) ∧ w'.cell? ⟨g1, o1 + i * 3 + 1, none⟩ = some (.string ⟨t1.toArray⟩) ∧ w'.cell? ⟨g1, o1 + i * 3 + 2, none⟩ = some (.slice gk1 k1.len ck1) ∧ w'.cell? ⟨g2, o2 + i * 3, none⟩ = some (.int .i64 b1) ∧ w'.cell? ⟨g2, o2 + i * 3 + 1, none⟩ = some (.string ⟨u1.toArray⟩) ∧ w'.cell? ⟨g2, o2 + i * 3 + 2, none⟩ = some (.slice gl1 l1.len cl1)) (go_keep)
                  ((go_at_call 59; refine hcall.mono ?_; rintro e w2 ⟨rfl, ⟨c0, c1, c2, c3, c4, c5, c6, c7⟩, hb2, hb3⟩))
                all_goals
                  go_wp2_with fail
                  go_ret
                  have hxx := Hx.out
                  simp only [Bool.false_and] at hxx
                  rw [← hxx]
                  exact ⟨rfl, hb2⟩
              | true =>
                rw [hg] at Hx hcall
                clear hg
                go_wp2_with fail
                go_region_held3 (fun w' => w'.cell? ⟨qa, 2, none⟩ = some (.slice (some ⟨g1, o1, none⟩) La ca) ∧ w'.cell? ⟨qb, 2, none⟩ = some (.slice (some ⟨g2, o2, none⟩) La cb) ∧ w'.cell? ⟨g1, o1 + i * 3, none⟩ = some (.int .i64 a1) ∧ w'.cell? ⟨g1, o1 + i * 3 + 1, none⟩ = some (.string ⟨t1.toArray⟩) ∧ w'.cell? ⟨g1, o1 + i * 3 + 2, none⟩ = some (.slice gk1 k1.len ck1) ∧ w'.cell? ⟨g2, o2 + i * 3, none⟩ = some (.int .i64 b1) ∧ w'.cell? ⟨g2, o2 + i * 3 + 1, none⟩ = some (.string ⟨u1.toArray⟩) ∧ w'.cell? ⟨g2, o2 + i * 3 + 2, none⟩ = some (.slice gl1 l1.len cl1)) (go_keep)
                  ((go_at_call 59; refine hcall.mono ?_; rintro e w2 ⟨rfl, ⟨c0, c1, c2, c3, c4, c5, c6, c7⟩, hb2, hb3⟩))
                all_goals
                  go_wp2_with fail
                  go_roundg r1.len
                  case measure => have := Hk.out; simp only [Nd.len] at this; omega
                  case rel =>
                    have hxx := Hx.out
                    simp only [Bool.true_and] at hxx
                    exact ⟨⟨i + 1, r1, r2', by go_num, by have := Hi.out; simp only [Nd.len] at this; omega, Hn2.out.2, Hn2.out.1, Hf.out.1, Hf.out.2, Hr.out.1, Hr.out.2, hxx, rfl, hb2⟩, hb3⟩
      · have e : Syn.sameN a b = false := by
          rw [hs]
          unfold Syn.eqB
          rw [decide_eq_false (by omega : ¬ a.kids.len = b.kids.len)]
          simp
        rw [e]
        have hneb : ((La : Int) != (Lb : Int)) = true := by simp; omega
        have hneb2 : (La != Lb) = true := by simp [h3]
        subst h1
        rw [h2] at Hbel ⊢
        clear hs e hka hkb hLa hLb h2 h3 ih hm ha hb hfa hfb hbel
        go_enter Try.func59, Try.ntmps59
        go_wp2_with fail
        go_ret
        exact ⟨rfl, Hbel.out⟩
    · have e : Syn.sameN a b = false := by
        rw [hs]
        simp [h2]
      rw [e]
      have h2' : (a.text == b.text) = false := by simpa using h2
      have h2'' : (a.text != b.text) = true := by simpa using h2
      subst h1
      clear hs h2 e hka hkb hLa hLb ih hm ha hb hfa hfb hbel
      go_enter Try.func59, Try.ntmps59
      go_wp2_with fail
      go_ret
      exact ⟨rfl, Hbel.out⟩
  · have e : Syn.sameN a b = false := by
      rw [hs]
      have : ¬ a.kind = b.kind := by omega
      simp [this]
    rw [e]
    have h1' : (ka != kb) = true := by simpa using h1
    clear hs e hka hkb hLa hLb ih hm ha hb hfa hfb hbel
    go_enter Try.func59, Try.ntmps59
    go_wp2_with fail
    go_ret
    exact ⟨rfl, Hbel.out⟩
theorem rsameNode_calls (m : Nat) : RSameSays m := by
  induction m using Nat.strongRecOn with
  | ind m ih => exact rsame_step m ih
end Go.Proofs.Ytjaampgpihicmaa

namespace Go.Proofs.Ytjaampgpihicmaa
open Go.RowKit
attribute [local go_sem ↓] Go.wp_at_zero Go.wp_at_succ
attribute [local go_sem] frozen_alloc_lt
open Syn (Nd Nod)

def RSgAt2 (w0 wa : World) (L : Nat) (k : Nat) (v5 : Value) (w : World) : Prop := ∃ i : Nat, v5 = .int .i64 i ∧ k = L - i ∧ i ≤ L ∧ Below w0.heap.size w0 w ∧ Below wa.heap.size wa w
set_option maxRecDepth 8000 in
set_option maxHeartbeats 8000000 in
theorem rsame_eq (w : World) (st : List UInt8) (rs : List (List UInt8 × Nod)) (ga gb : Option Addr) (ca cb : Nat) (ha : RulesIn w ga rs) (hb : RulesIn w gb rs) (hl : rs.length ≤ 100000) (hf : ∀ z ∈ rs, z.2.fits 100000) :
    Calls Try.prog 17 #[.agg #[.string ⟨st.toArray⟩, .slice ga rs.length ca], .agg #[.string ⟨st.toArray⟩, .slice gb rs.length cb]] w fun e w' => e = .returned (.bool true) ∧ Below w.heap.size w w' := by
  have hbel := bel_trans (bel_new w (.cells #[.string ⟨st.toArray⟩, .slice ga rs.length ca] 33)) (bel_new _ (.cells #[.string ⟨st.toArray⟩, .slice gb rs.length cb] 33))
  have hq0 := (Bk.new w 33 [.string ⟨st.toArray⟩, .slice ga rs.length ca]).alloc (.cells #[.string ⟨st.toArray⟩, .slice gb rs.length cb] 33)
  have hq1 := Bk.new (w.alloc (.cells #[.string ⟨st.toArray⟩, .slice ga rs.length ca] 33)) 33 [.string ⟨st.toArray⟩, .slice gb rs.length cb]
  rw [show (w.alloc (.cells #[.string ⟨st.toArray⟩, .slice ga rs.length ca] 33)).heap.size = w.heap.size + 1 by simp] at hq1
  obtain ⟨L, hL⟩ : ∃ L, L = rs.length := ⟨_, rfl⟩
  rw [← hL] at hbel hq0 hq1 hl ⊢
  obtain ⟨wa, hwa⟩ : ∃ wa, wa = (w.alloc (.cells #[.string ⟨st.toArray⟩, .slice ga L ca] 33)).alloc (.cells #[.string ⟨st.toArray⟩, .slice gb L cb] 33) := ⟨_, rfl⟩
  obtain ⟨qa, hqa⟩ : ∃ qa, qa = w.heap.size := ⟨_, rfl⟩
  obtain ⟨qb, hqb⟩ : ∃ qb, qb = w.heap.size + 1 := ⟨_, rfl⟩
  rw [← hwa] at hq0 hq1 hbel
  rw [← hqb] at hq1
  rw [← hqa] at hq0
  have HW := hid hwa
  have HQ := hid (And.intro hqa hqb)
  have Hq := hid (And.intro hq0 hq1)
  have HL := hid hL
  have Hin := hid (And.intro ha hb)
  have Hf := hid hf
  have Hbel := hid hbel
  clear hwa hqa hqb hq0 hq1 hL ha hb hf hbel
  go_enter Try.func17, Try.ntmps17
  go_upto_region 3 with fail
  rw [← HW.out, ← HQ.out.2, ← HQ.out.1]
  go_wp2_with fail
  go_loopg [5] L (fun k v5 wr => RSgAt2 w wa L k v5 wr)
  case atStart => exact ⟨0, rfl, rfl, Nat.zero_le _, Hbel.out, Below.refl _ _⟩
  case round =>
    obtain ⟨i, rfl, hk, hi, hbw, hbw2⟩ := hrel
    have qq := Hq.out.1.below hbw2 Hq.out.1.lt
    have qr := Hq.out.2.below hbw2 Hq.out.2.lt
    have q2 := qq.cell 1
    have r2 := qr.cell 1
    simp only [List.getElem?_cons_zero, List.getElem?_cons_succ] at q2 r2
    have hlq := qq.lt
    have hlr := qr.lt
    have Hk := hid hk
    have Hbw := hid hbw
    have Hbw2 := hid hbw2
    clear hk hbw hbw2 qq qr
    rcases Nat.lt_or_ge i L with hlt | hge
    · have hltL : (i : Int) < (L : Int) := by omega
      have hi0 : (0 : Int) ≤ (i : Int) := by omega
      have hlt' : i < rs.length := by rw [← HL.out]; exact hlt
      obtain ⟨x, hxx⟩ : ∃ x, x = rs[i] := ⟨_, rfl⟩
      obtain ⟨g1, o1, gk1, ck1, hga, hg1, a0, a1, a2, a3, hk1⟩ := Hin.out.1 i x (by rw [hxx]; exact List.getElem?_eq_getElem hlt')
      obtain ⟨g2, o2, gk2, ck2, hgb, hg2, b0, b1, b2, b3, hk2⟩ := Hin.out.2 i x (by rw [hxx]; exact List.getElem?_eq_getElem hlt')
      have hfx := Hf.out x (by rw [hxx]; exact List.getElem_mem hlt')
      obtain ⟨kx, hkx⟩ : ∃ kx : Int, kx = x.2.kind := ⟨_, rfl⟩
      obtain ⟨tx, htx⟩ : ∃ tx, tx = x.2.text := ⟨_, rfl⟩
      obtain ⟨nx, hnx⟩ : ∃ nx, nx = x.1 := ⟨_, rfl⟩
      rw [← hkx] at a1 b1
      rw [← htx] at a2 b2
      rw [← hnx] at a0 b0
      have c0 := (Hbw.out.cell (p := ⟨g1, _, none⟩) hg1).trans a0
      have c1 := (Hbw.out.cell (p := ⟨g1, _, none⟩) hg1).trans a1
      have c2 := (Hbw.out.cell (p := ⟨g1, _, none⟩) hg1).trans a2
      have c3 := (Hbw.out.cell (p := ⟨g1, _, none⟩) hg1).trans a3
      have d0 := (Hbw.out.cell (p := ⟨g2, _, none⟩) hg2).trans b0
      have d1 := (Hbw.out.cell (p := ⟨g2, _, none⟩) hg2).trans b1
      have d2 := (Hbw.out.cell (p := ⟨g2, _, none⟩) hg2).trans b2
      have d3 := (Hbw.out.cell (p := ⟨g2, _, none⟩) hg2).trans b3
      have hl1 : g1 < wr.heap.size := Nat.lt_of_lt_of_le hg1 Hbw.out.size
      have hl2 : g2 < wr.heap.size := Nat.lt_of_lt_of_le hg2 Hbw.out.size
      have hk1' : NdIn wr gk1 x.2.kids 0 := NdIn.later hk1 Hbw.out
      have hk2' : NdIn wr gk2 x.2.kids 0 := NdIn.later hk2 Hbw.out
      have hd := (Below.refl wr.heap.size wr).drew
      have hpc := rsameNode_calls x.2.kids.nodes wr.drew x.2 x.2 gk1 gk2 ck1 ck2 rfl (hk1'.later hd) (hk2'.later hd) hfx hfx
      rw [(Syn.sameN_iff x.2 x.2).2 rfl] at hpc
      simp only [nodeV, ← hkx, ← htx] at hpc
      subst hga hgb
      have hcall : Calls Try.prog 59 #[.agg #[.int .i64 kx, .string ⟨tx.toArray⟩, .slice gk1 x.2.kids.len ck1], .agg #[.int .i64 kx, .string ⟨tx.toArray⟩, .slice gk2 x.2.kids.len ck2]] wr.drew fun e w' => e = .returned (.bool true) ∧
          (w'.cell? ⟨qa, 1, none⟩ = some (.slice (some ⟨g1, o1, none⟩) L ca) ∧ w'.cell? ⟨qb, 1, none⟩ = some (.slice (some ⟨g2, o2, none⟩) L cb) ∧ w'.cell? ⟨g1, o1 + i * 4, none⟩ = some (.string ⟨nx.toArray⟩) ∧ w'.cell? ⟨g1, o1 + i * 4 + 1, none⟩ = some (.int .i64 kx) ∧ w'.cell? ⟨g1, o1 + i * 4 + 2, none⟩ = some (.string ⟨tx.toArray⟩) ∧ w'.cell? ⟨g1, o1 + i * 4 + 3, none⟩ = some (.slice gk1 x.2.kids.len ck1) ∧ w'.cell? ⟨g2, o2 + i * 4, none⟩ = some (.string ⟨nx.toArray⟩) ∧ w'.cell? ⟨g2, o2 + i * 4 + 1, none⟩ = some (.int .i64 kx) ∧ w'.cell? ⟨g2, o2 + i * 4 + 2, none⟩ = some (.string ⟨tx.toArray⟩) ∧ w'.cell? ⟨g2, o2 + i * 4 + 3, none⟩ = some (.slice gk2 x.2.kids.len ck2)) ∧ Below w.heap.size w w' ∧ Below wa.heap.size wa w' := by
        refine hpc.mono ?_
        rintro e w' ⟨rfl, hb'⟩
        have hb2 := hd.trans hb'
        exact ⟨rfl, ⟨(hb2.cell (p := ⟨qa, 1, none⟩) hlq).trans q2, (hb2.cell (p := ⟨qb, 1, none⟩) hlr).trans r2, (hb2.cell (p := ⟨g1, _, none⟩) hl1).trans c0, (hb2.cell (p := ⟨g1, _, none⟩) hl1).trans c1, (hb2.cell (p := ⟨g1, _, none⟩) hl1).trans c2, (hb2.cell (p := ⟨g1, _, none⟩) hl1).trans c3, (hb2.cell (p := ⟨g2, _, none⟩) hl2).trans d0, (hb2.cell (p := ⟨g2, _, none⟩) hl2).trans d1, (hb2.cell (p := ⟨g2, _, none⟩) hl2).trans d2, (hb2.cell (p := ⟨g2, _, none⟩) hl2).trans d3⟩, bel_trans Hbw.out hb2, bel_trans Hbw2.out hb2⟩
      have Hlt := hid hlt
      clear a0 a1 a2 a3 b0 b1 b2 b3 hk1 hk2 hk1' hk2' hpc hxx hfx hlt hlt' hi hd hkx htx hnx
      go_wp2_with fail
      go_region_held3 (fun W => W.cell? ⟨qa, 1, none⟩ = some (.slice (some ⟨g1, o1, none⟩) L ca) ∧ W.cell? ⟨qb, 1, none⟩ = some (.slice (some ⟨g2, o2, none⟩) L cb) ∧ W.cell? ⟨g1, o1 + i * 4, none⟩ = some (.string ⟨nx.toArray⟩) ∧ W.cell? ⟨g1, o1 + i * 4 + 1, none⟩ = some (.int .i64 kx) ∧ W.cell? ⟨g1, o1 + i * 4 + 2, none⟩ = some (.string ⟨tx.toArray⟩) ∧ W.cell? ⟨g1, o1 + i * 4 + 3, none⟩ = some (.slice gk1 x.2.kids.len ck1) ∧ W.cell? ⟨g2, o2 + i * 4, none⟩ = some (.string ⟨nx.toArray⟩) ∧ W.cell? ⟨g2, o2 + i * 4 + 1, none⟩ = some (.int .i64 kx) ∧ W.cell? ⟨g2, o2 + i * 4 + 2, none⟩ = some (.string ⟨tx.toArray⟩) ∧ W.cell? ⟨g2, o2 + i * 4 + 3, none⟩ = some (.slice gk2 x.2.kids.len ck2)) (go_keep)
        ((go_at_call 59; refine hcall.mono ?_; rintro e w2 ⟨rfl, ⟨e0, e1, e2, e3, e4, e5, e6, e7, e8, e9⟩, hb2, hb3⟩))
      all_goals
        go_wp2_with fail
        go_roundg (L - (i + 1))
        case measure => have := Hk.out; have := Hlt.out; omega
        case rel => exact ⟨i + 1, by go_num, rfl, Hlt.out, hb2, hb3⟩
    · have hgeL : ¬ (i : Int) < (L : Int) := by omega
      clear hge hi
      go_wp2_with fail
      go_ret
      exact ⟨rfl, Hbw.out⟩
end Go.Proofs.Ytjaampgpihicmaa
