/- Chapter 14 (tree), the document's side: Same of any two trees. -/
import Derived.Test.YtaehooafdbaomaaTreeSame
namespace Go.Proofs.Ytaehooafdbaomaa
open Go.RowKit
attribute [local go_sem ↓] Go.wp_at_zero Go.wp_at_succ
attribute [local go_sem] frozen_alloc_lt

set_option maxRecDepth 8000 in
set_option maxHeartbeats 8000000 in
theorem rsame_step (m : Nat) (ih : ∀ m', m' < m → SamSays 22 m') : SamSays 22 m := by
  intro p q k l w gk gl ck cl hm hn1 hn2 hat hat2
  have hk1 := (Bk.new w 50 [.int .i64 p, .slice gk k.len ck]).alloc (.cells #[.int .i64 q, .slice gl l.len cl] 50)
  have hk2 := bk_at (Bk.new (w.alloc (.cells #[.int .i64 p, .slice gk k.len ck] 50)) 50 [.int .i64 q, .slice gl l.len cl]) (show _ = w.heap.size + 1 by simp)
  have hb0 : Below w.heap.size w ((w.alloc (.cells #[.int .i64 p, .slice gk k.len ck] 50)).alloc (.cells #[.int .i64 q, .slice gl l.len cl] 50)) := bel_al (bel_al (bel_id w) _) _
  have hatA := hat.fwd hb0
  have hatB := hat2.fwd hb0
  obtain ⟨wa, hwa⟩ : ∃ wa, wa = ((w.alloc (.cells #[.int .i64 p, .slice gk k.len ck] 50)).alloc (.cells #[.int .i64 q, .slice gl l.len cl] 50)) := ⟨_, rfl⟩
  obtain ⟨b, hb⟩ : ∃ b, b = w.heap.size := ⟨_, rfl⟩
  obtain ⟨c, hc⟩ : ∃ c, c = w.heap.size + 1 := ⟨_, rfl⟩
  rw [← hwa] at hk1 hk2 hb0 hatA hatB
  rw [← hb] at hk1
  rw [← hc] at hk2
  have g0 := hk1.cell 0
  have g1 := hk1.cell 1
  have f0 := hk2.cell 0
  have f1 := hk2.cell 1
  simp only [List.getElem?_cons_zero, List.getElem?_cons_succ] at g0 g1 f0 f1
  have hbl := hk1.lt
  have hcl := hk2.lt
  have hl1 := k.len_le
  have hl2 := l.len_le
  have Hwa := hid (And.intro hwa (And.intro hb hc))
  have Hb0 := hid hb0
  have Hk1 := hid hk1
  have Hk2 := hid hk2
  have HatA := hid hatA
  have HatB := hid hatB
  have Hm := hid hm
  have hlm1 : (k.len : Int) ≤ 1000000000000 := by omega
  have hlm2 : (l.len : Int) ≤ 1000000000000 := by omega
  have Hn := hid (And.intro hn1 hn2)
  have Ih := hid ih
  clear hwa hb hc hb0 hm ih hat hat2 hk1 hk2 hatA hatB hl1 hl2 hn1 hn2
  by_cases hpq : p = q
  · subst hpq
    have hpp : (p != p) = false := by simp
    by_cases hne : k.len = l.len
    · obtain ⟨res, hres⟩ : ∃ res, res = Fo.sameF k l := ⟨_, rfl⟩
      have he : Fo.sameT p k p l = res := by rw [hres]; simp [Fo.sameT]
      rw [he]
      obtain ⟨L, hL⟩ : ∃ L, L = k.len := ⟨_, rfl⟩
      rw [← hne, ← hL] at f1 Hk2 hlm2 Hwa ⊢
      rw [← hL] at g1 Hk1 hlm1
      have HL := hid (And.intro hL (hL.trans hne))
      have Hres := hid hres
      have hlb : ((L : Int) != (L : Int)) = false := by simp
      have hlb2 : (L != L) = false := by simp
      clear he hres hL hne hlm2
      go_enter Try.func22, Try.ntmps22
      go_upto_region 1 with fail
      rw [← Hwa.out.1, ← Hwa.out.2.2, ← Hwa.out.2.1]
      go_wp2_with fail
      go_loopg [5] L (fun g v5 wr => EqsAt wa gk gl L res k.nodes l.nodes g v5 wr)
      case atStart => exact ⟨0, k, l, rfl, by rw [Nat.zero_add]; exact HL.out.1.symm, by rw [Nat.zero_add]; exact HL.out.2.symm, Nat.le_refl _, Nat.le_refl _, HatA.out, HatB.out, Hres.out.symm, HL.out.1, Below.refl _ _⟩
      case round =>
        obtain ⟨i, r, s, rfl, hi, hi2, hr, hs, ha, ha2, hx, hkk, hb⟩ := hrel
        have Hkk := hid hkk
        have Hb := hid hb
        have z1 := (hb.cell (p := ⟨b, _, none⟩) hbl).trans g1
        have z2 := (hb.cell (p := ⟨c, _, none⟩) hcl).trans f1
        clear hkk
        cases r with
        | nil =>
          simp only [Fo.len, Nat.add_zero] at hi
          have hge : ¬ (i : Int) < (L : Int) := by omega
          have hs0 : s = .nil := by cases s with
            | nil => rfl
            | cons _ _ _ => simp [Fo.len] at hi2; omega
          subst hs0
          have Hx := hid hx
          clear hx hi2 hb hi
          go_wp2_with fail
          go_ret
          exact ⟨by rw [← Hx.out]; rfl, belw Hb0.out Hb.out⟩
        | cons p1 k1 r' =>
          cases s with
          | nil => simp [Fo.len] at hi hi2; omega
          | cons q1 l1 s' =>
            simp only [Fo.len, Fo.nodes] at hi hi2 hr hs
            have hlt : (i : Int) < (L : Int) := by omega
            have hi0 : (0 : Int) ≤ (i : Int) := by omega
            unfold FoAt at ha ha2
            obtain ⟨⟨g1', o1, gk1, ck1, rfl, hg1, e0, e1, hk1⟩, ha'⟩ := ha
            obtain ⟨⟨g2', o2, gl2, cl2, rfl, hg2, d0, d1, hk2⟩, ha2'⟩ := ha2
            have hbd := hb.drew
            have e0' := (hbd.cell (p := ⟨g1', _, none⟩) hg1).trans e0
            have e1' := (hbd.cell (p := ⟨g1', _, none⟩) hg1).trans e1
            have d0' := (hbd.cell (p := ⟨g2', _, none⟩) hg2).trans d0
            have d1' := (hbd.cell (p := ⟨g2', _, none⟩) hg2).trans d1
            have y1 : wr.drew.cell? ⟨b, 1, none⟩ = some (.slice (some ⟨g1', o1, none⟩) L ck) := z1
            have y2 : wr.drew.cell? ⟨c, 1, none⟩ = some (.slice (some ⟨g2', o2, none⟩) L cl) := z2
            have hcall := Ih.out k1.nodes (by have := Hm.out; omega) p1 q1 k1 l1 wr.drew gk1 gl2 ck1 cl2 rfl (by have := Hn.out.1; omega) (by have := Hn.out.2; omega)
              ((hk1.below hbd (fun _ h => h)).mono (fun k hk => Nat.lt_of_lt_of_le hk hbd.size)) ((hk2.below hbd (fun _ h => h)).mono (fun k hk => Nat.lt_of_lt_of_le hk hbd.size))
            have hx2 : (Fo.sameT p1 k1 q1 l1 && Fo.sameF r' s') = res := hx
            have Hcall := hid hcall
            have Ha := hid (And.intro ha' ha2')
            have Hi := hid (And.intro hi hi2)
            have Hr := hid (And.intro hr hs)
            have Hbd := hid hbd
            have hS := And.intro (And.intro y1 y2) (And.intro (And.intro e0' e1') (And.intro d0' d1'))
            have HS := hid hS
            clear hcall ha' ha2' hi hi2 hr hs hx e0 e1 d0 d1 hk1 hk2 hb hbd e0' e1' d0' d1' y1 y2 hS
            go_upto_region 6 with fail
            clear z1 z2
            cases hsm : Fo.sameT p1 k1 q1 l1 with
            | false =>
              rw [hsm] at hx2 Hcall
              have Hx := hid hx2
              clear hx2 hsm
              go_region_held3 (fun W : World => (W.cell? ⟨b, 1, none⟩ = some (.slice (some ⟨g1', o1, none⟩) L ck) ∧ W.cell? ⟨c, 1, none⟩ = some (.slice (some ⟨g2', o2, none⟩) L cl)) ∧ (W.cell? ⟨g1', o1 + i * 2, none⟩ = some (.int .i64 p1) ∧ W.cell? ⟨g1', o1 + i * 2 + 1, none⟩ = some (.slice gk1 k1.len ck1)) ∧ (W.cell? ⟨g2', o2 + i * 2, none⟩ = some (.int .i64 q1) ∧ W.cell? ⟨g2', o2 + i * 2 + 1, none⟩ = some (.slice gl2 l1.len cl2)))
                (first | exact HS.out | exact ⟨⟨(hb2.cell (p := ⟨b, _, none⟩) (Nat.lt_of_lt_of_le hbl Hbd.out.size)).trans HS.out.1.1, (hb2.cell (p := ⟨c, _, none⟩) (Nat.lt_of_lt_of_le hcl Hbd.out.size)).trans HS.out.1.2⟩, ⟨(hb2.cell (p := ⟨g1', _, none⟩) (Nat.lt_of_lt_of_le hg1 Hbd.out.size)).trans HS.out.2.1.1, (hb2.cell (p := ⟨g1', _, none⟩) (Nat.lt_of_lt_of_le hg1 Hbd.out.size)).trans HS.out.2.1.2⟩, ⟨(hb2.cell (p := ⟨g2', _, none⟩) (Nat.lt_of_lt_of_le hg2 Hbd.out.size)).trans HS.out.2.2.1, (hb2.cell (p := ⟨g2', _, none⟩) (Nat.lt_of_lt_of_le hg2 Hbd.out.size)).trans HS.out.2.2.2⟩⟩)
                ((go_at_call 22; refine Hcall.out.mono ?_; rintro e w2 ⟨rfl, hb2⟩))
              go_wp2_with fail
              go_ret
              exact ⟨by rw [← Hx.out]; rfl, belw Hb0.out (belw Hbd.out hb2)⟩
            | true =>
              rw [hsm] at hx2 Hcall
              have Hx := hid hx2
              clear hx2 hsm
              go_region_held3 (fun W : World => (W.cell? ⟨b, 1, none⟩ = some (.slice (some ⟨g1', o1, none⟩) L ck) ∧ W.cell? ⟨c, 1, none⟩ = some (.slice (some ⟨g2', o2, none⟩) L cl)) ∧ (W.cell? ⟨g1', o1 + i * 2, none⟩ = some (.int .i64 p1) ∧ W.cell? ⟨g1', o1 + i * 2 + 1, none⟩ = some (.slice gk1 k1.len ck1)) ∧ (W.cell? ⟨g2', o2 + i * 2, none⟩ = some (.int .i64 q1) ∧ W.cell? ⟨g2', o2 + i * 2 + 1, none⟩ = some (.slice gl2 l1.len cl2)))
                (first | exact HS.out | exact ⟨⟨(hb2.cell (p := ⟨b, _, none⟩) (Nat.lt_of_lt_of_le hbl Hbd.out.size)).trans HS.out.1.1, (hb2.cell (p := ⟨c, _, none⟩) (Nat.lt_of_lt_of_le hcl Hbd.out.size)).trans HS.out.1.2⟩, ⟨(hb2.cell (p := ⟨g1', _, none⟩) (Nat.lt_of_lt_of_le hg1 Hbd.out.size)).trans HS.out.2.1.1, (hb2.cell (p := ⟨g1', _, none⟩) (Nat.lt_of_lt_of_le hg1 Hbd.out.size)).trans HS.out.2.1.2⟩, ⟨(hb2.cell (p := ⟨g2', _, none⟩) (Nat.lt_of_lt_of_le hg2 Hbd.out.size)).trans HS.out.2.2.1, (hb2.cell (p := ⟨g2', _, none⟩) (Nat.lt_of_lt_of_le hg2 Hbd.out.size)).trans HS.out.2.2.2⟩⟩)
                ((go_at_call 22; refine Hcall.out.mono ?_; rintro e w2 ⟨rfl, hb2⟩))
              go_wp2_with fail
              go_roundg r'.len
              case measure => have hk := Hkk.out; simp only [Fo.len] at hk; omega
              case rel => exact ⟨i + 1, r', s', by go_num, by have := Hi.out; omega, by have := Hi.out; omega, by have := Hr.out; omega, by have := Hr.out; omega, Ha.out.1, Ha.out.2, Hx.out, rfl, belw Hb.out (belw ((Below.refl wr.heap.size wr).drew) hb2)⟩
    · have he : Fo.sameT p k p l = false := by
        cases h : Fo.sameF k l with
        | false => simp [Fo.sameT, h]
        | true => exact absurd (Fo.sameF_len h) hne
      rw [he]
      have hneb : ((k.len : Int) != (l.len : Int)) = true := by simp; omega
      have hneb2 : (k.len != l.len) = true := by simp [hne]
      clear he hne
      go_enter Try.func22, Try.ntmps22
      go_upto_region 1 with fail
      rw [← Hwa.out.1, ← Hwa.out.2.2, ← Hwa.out.2.1]
      go_wp2_with fail
      go_ret
      exact ⟨rfl, Hb0.out⟩
  · have hpp : (p != q) = true := by simpa using hpq
    have he : Fo.sameT p k q l = false := by simp [Fo.sameT, hpq]
    rw [he]
    clear he
    go_enter Try.func22, Try.ntmps22
    go_upto_region 1 with fail
    rw [← Hwa.out.1, ← Hwa.out.2.2, ← Hwa.out.2.1]
    go_wp2_with fail
    go_ret
    exact ⟨rfl, Hb0.out⟩
/-- primerref14.Same of any two trees. -/
theorem rsame_calls (m : Nat) : SamSays 22 m := by
  induction m using Nat.strongRecOn with
  | ind m ih => exact rsame_step m ih
end Go.Proofs.Ytaehooafdbaomaa
