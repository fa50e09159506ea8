/- Chapter 14 (tree): Same, of any two trees. -/
import Derived.Test.YtaehooafdbaomaaTreeA
namespace Go.Proofs.Ytaehooafdbaomaa
open Go.RowKit
attribute [local go_sem ↓] Go.wp_at_zero Go.wp_at_succ
attribute [local go_sem] frozen_alloc_lt

namespace Fo
def sameF : Fo → Fo → Bool
  | nil, nil => true
  | cons p k r, cons q l s => ((p == q) && sameF k l) && sameF r s
  | _, _ => false
def sameT (p : Int) (k : Fo) (q : Int) (l : Fo) : Bool := (p == q) && sameF k l
theorem sameF_len : ∀ {f g : Fo}, sameF f g = true → f.len = g.len
  | nil, nil, _ => rfl
  | cons p k r, cons q l s, h => by
    simp only [sameF, Bool.and_eq_true] at h
    rw [len, len, sameF_len h.2]
  | nil, cons _ _ _, h => by cases h
  | cons _ _ _, nil, h => by cases h
theorem sameF_refl : ∀ f : Fo, sameF f f = true
  | nil => rfl
  | cons p k r => by simp [sameF, sameF_refl k, sameF_refl r]
theorem sameT_refl (p : Int) (k : Fo) : sameT p k p k = true := by simp [sameT, sameF_refl]
end Fo
def SamSays (F : FuncId) (m : Nat) : Prop := ∀ (p q : Int) (k l : Fo) (w : World) (gk gl : Option Addr) (ck cl : Nat), k.nodes = m → k.nodes ≤ 1000000000000 → l.nodes ≤ 1000000000000 → FoAt w (fun k => k < w.heap.size) gk k 0 → FoAt w (fun k => k < w.heap.size) gl l 0 →
    Calls Try.prog F #[.agg #[.int .i64 p, .slice gk k.len ck], .agg #[.int .i64 q, .slice gl l.len cl]] w fun e w' => e = .returned (.bool (Fo.sameT p k q l)) ∧ Below w.heap.size w w'
def EqsAt (w0 : World) (gk gl : Option Addr) (L : Nat) (res : Bool) (N M k : Nat) (v17 : Value) (w : World) : Prop :=
  ∃ (i : Nat) (r s : Fo), v17 = .int .i64 i ∧ i + r.len = L ∧ i + s.len = L ∧ r.nodes ≤ N ∧ s.nodes ≤ M ∧ FoAt w0 (fun k => k < w0.heap.size) gk r i ∧ FoAt w0 (fun k => k < w0.heap.size) gl s i ∧ Fo.sameF r s = res ∧ k = r.len ∧ Below w0.heap.size w0 w
theorem FoAt.fwd {w w' : World} {gk : Option Addr} {f : Fo} {i : Nat} (h : FoAt w (fun k => k < w.heap.size) gk f i) (hb : Below w.heap.size w w') : FoAt w' (fun k => k < w'.heap.size) gk f i :=
  (h.below hb (fun _ h => h)).mono (fun _k hk => Nat.lt_of_lt_of_le hk hb.size)
set_option maxRecDepth 8000 in
set_option maxHeartbeats 2000000 in
theorem eqs_calls (w : World) (gk gl : Option Addr) (ck cl : Nat) (f g : Fo) (ih : ∀ m', m' < f.nodes → SamSays 31 m') (hn1 : f.nodes ≤ 1000000000000) (hn2 : g.nodes ≤ 1000000000000) (hat : FoAt w (fun k => k < w.heap.size) gk f 0) (hat2 : FoAt w (fun k => k < w.heap.size) gl g 0) :
    Calls Try.prog 76 #[.slice gk f.len ck, .slice gl g.len cl, .func (.func 31) #[] #[]] w fun e w' => e = .returned (.bool (Fo.sameF f g)) ∧ Below w.heap.size w w' := by
  have hl1 := f.len_le
  have hl2 := g.len_le
  by_cases hne : f.len = g.len
  · obtain ⟨res, hres⟩ : ∃ res, res = Fo.sameF f g := ⟨_, rfl⟩
    rw [← hres]
    obtain ⟨L, hL⟩ : ∃ L, L = f.len := ⟨_, rfl⟩
    obtain ⟨N, hN⟩ : ∃ N, N = f.nodes := ⟨_, rfl⟩
    obtain ⟨M, hM⟩ : ∃ M, M = g.nodes := ⟨_, rfl⟩
    rw [← hne, ← hL]
    rw [← hL] at hne hl1
    rw [← hN] at ih hn1 hl1
    rw [← hM] at hn2
    have hneb : ((L : Int) != (L : Int)) = false := by simp
    have hneb2 : (L != L) = false := by simp
    have hlm : (L : Int) ≤ 1000000000000 := by omega
    have HL := hid (And.intro hL hne)
    have HN := hid (And.intro hN hM)
    have Hres := hid hres
    have Heg := hid (fun (args : Array Value) (w : World) => show (callFunc 31 args).run Try.prog w = .ok (.enter 31 args) w by kernel_rfl)
    have Heg2 := Heg.out
    have Hn1 := hid (And.intro hn1 hn2)
    have Ih := hid ih
    clear hres hL hN hM hne hl1 hl2 hn1 hn2 ih
    go_enter Try.func76, Try.ntmps76
    go_wp2_with fail
    go_loopg [17] L (fun k v17 wr => EqsAt w gk gl L res N M k v17 wr)
    case atStart => exact ⟨0, f, g, rfl, by rw [Nat.zero_add]; exact HL.out.1.symm, by rw [Nat.zero_add]; exact HL.out.2.symm, by rw [HN.out.1]; exact Nat.le_refl _, by rw [HN.out.2]; exact Nat.le_refl _, hat, hat2, Hres.out.symm, HL.out.1, Below.refl _ _⟩
    case round =>
      obtain ⟨i, r, s, rfl, hi, hi2, hr, hs, ha, ha2, hx, hk, hb⟩ := hrel
      have Hk := hid hk
      have Hb := hid hb
      clear hk
      cases r with
      | nil =>
        simp only [Fo.len, Nat.add_zero] at hi
        subst hi
        have hge : ¬ (i : Int) < (i : Int) := by omega
        have hs0 : s = .nil := by cases s with
          | nil => rfl
          | cons _ _ _ => simp [Fo.len] at hi2
        subst hs0
        have Hx := hid hx
        clear hx hi2
        go_wp2_with fail
        go_ret
        exact ⟨by rw [← Hx.out]; rfl, Hb.out⟩
      | cons p k r' =>
        cases s with
        | nil => simp [Fo.len] at hi hi2; omega
        | cons q l s' =>
          simp only [Fo.len, Fo.nodes] at hi hi2 hr hs
          have hlt : (i : Int) < (L : Int) := by omega
          have hi0 : (0 : Int) ≤ (i : Int) := by omega
          unfold FoAt at ha ha2
          obtain ⟨⟨g1, o1, gk1, ck1, rfl, hg1, e0, e1, hk1⟩, ha'⟩ := ha
          obtain ⟨⟨g2, o2, gl2, cl2, rfl, hg2, d0, d1, hk2⟩, ha2'⟩ := ha2
          have e0' := (hb.cell (p := ⟨g1, _, none⟩) hg1).trans e0
          have e1' := (hb.cell (p := ⟨g1, _, none⟩) hg1).trans e1
          have d0' := (hb.cell (p := ⟨g2, _, none⟩) hg2).trans d0
          have d1' := (hb.cell (p := ⟨g2, _, none⟩) hg2).trans d1
          have hb1w := bel_al (bel_id wr) (.cells #[.int .i64 p, .slice gk1 k.len ck1] 45)
          have d0'' := (hb1w.cell (p := ⟨g2, _, none⟩) (Nat.lt_of_lt_of_le hg2 hb.size)).trans d0'
          have d1'' := (hb1w.cell (p := ⟨g2, _, none⟩) (Nat.lt_of_lt_of_le hg2 hb.size)).trans d1'
          clear hb1w
          have hal : Below wr.heap.size wr ((wr.alloc (.cells #[.int .i64 p, .slice gk1 k.len ck1] 45)).alloc (.cells #[.int .i64 q, .slice gl2 l.len cl2] 45)) := bel_al (bel_al (bel_id wr) _) _
          have hcall := Ih.out k.nodes (by omega) p q k l ((wr.alloc (.cells #[.int .i64 p, .slice gk1 k.len ck1] 45)).alloc (.cells #[.int .i64 q, .slice gl2 l.len cl2] 45)) gk1 gl2 ck1 cl2 rfl (by have := Hn1.out.1; omega) (by have := Hn1.out.2; omega)
            ((((hk1.below hb (fun _ h => h)).mono (fun k hk => Nat.lt_of_lt_of_le hk hb.size))).fwd hal) ((((hk2.below hb (fun _ h => h)).mono (fun k hk => Nat.lt_of_lt_of_le hk hb.size))).fwd hal)
          have hx2 : (Fo.sameT p k q l && Fo.sameF r' s') = res := hx
          have Hcall := hid hcall
          have Hal := hid hal
          have Ha := hid (And.intro ha' ha2')
          have Hi := hid (And.intro hi hi2)
          have Hr := hid (And.intro hr hs)
          have Heg3 := Heg.out
          clear hcall hal ha' ha2' hi hi2 hr hs hx e0 e1 d0 d1 hk1 hk2 hb
          cases hsm : Fo.sameT p k q l with
          | false =>
            rw [hsm] at hx2 Hcall
            have Hx := hid hx2
            clear hx2 hsm
            go_wp2_with ((with_reducible refine (Hid.out Hcall).mono ?_); rintro e w2 ⟨rfl, hb2⟩)
            go_ret
            exact ⟨by rw [← Hx.out]; rfl, belw Hb.out (belw Hal.out hb2)⟩
          | true =>
            rw [hsm] at hx2 Hcall
            have Hx := hid hx2
            clear hx2 hsm
            go_wp2_with ((with_reducible refine (Hid.out Hcall).mono ?_); rintro e w2 ⟨rfl, hb2⟩)
            go_roundg r'.len
            case measure => have hk := Hk.out; simp only [Fo.len] at hk; omega
            case rel => exact ⟨i + 1, r', s', by go_num, by have := Hi.out; omega, by have := Hi.out; omega, by have := Hr.out; omega, by have := Hr.out; omega, Ha.out.1, Ha.out.2, Hx.out, rfl, belw Hb.out (belw Hal.out hb2)⟩
  · have he : Fo.sameF f g = false := by
      cases h : Fo.sameF f g with
      | false => rfl
      | true => exact absurd (Fo.sameF_len h) hne
    rw [he]
    have hneb : ((f.len : Int) != (g.len : Int)) = true := by simp; omega
    have hneb2 : (f.len != g.len) = true := by simp [hne]
    clear he hne
    go_enter Try.func76, Try.ntmps76
    go_wp2_with fail
    go_ret
    exact ⟨rfl, Below.refl _ _⟩
set_option maxRecDepth 8000 in
set_option maxHeartbeats 2000000 in
theorem same_step (m : Nat) (ih : ∀ m', m' < m → SamSays 31 m') : SamSays 31 m := by
  intro p q k l w gk gl ck cl hm hn1 hn2 hat hat2
  have hk1 := (Bk.new w 45 [.int .i64 p, .slice gk k.len ck]).alloc (.cells #[.int .i64 q, .slice gl l.len cl] 45)
  have hk2 := bk_at (Bk.new (w.alloc (.cells #[.int .i64 p, .slice gk k.len ck] 45)) 45 [.int .i64 q, .slice gl l.len cl]) (show _ = w.heap.size + 1 by simp)
  have hb0 : Below w.heap.size w ((w.alloc (.cells #[.int .i64 p, .slice gk k.len ck] 45)).alloc (.cells #[.int .i64 q, .slice gl l.len cl] 45)) := bel_al (bel_al (bel_id w) _) _
  have heq := eqs_calls _ gk gl ck cl k l (by rw [hm]; exact ih) hn1 hn2 (hat.fwd hb0) (hat2.fwd hb0)
  obtain ⟨wa, hwa⟩ : ∃ wa, wa = ((w.alloc (.cells #[.int .i64 p, .slice gk k.len ck] 45)).alloc (.cells #[.int .i64 q, .slice gl l.len cl] 45)) := ⟨_, rfl⟩
  obtain ⟨b, hb⟩ : ∃ b, b = w.heap.size := ⟨_, rfl⟩
  obtain ⟨c, hc⟩ : ∃ c, c = w.heap.size + 1 := ⟨_, rfl⟩
  rw [← hwa] at hk1 hk2 hb0 heq
  rw [← hb] at hk1
  rw [← hc] at hk2
  have g0 := hk1.cell 0
  have g1 := hk1.cell 1
  have f0 := hk2.cell 0
  have f1 := hk2.cell 1
  simp only [List.getElem?_cons_zero, List.getElem?_cons_succ] at g0 g1 f0 f1
  have Hwa := hid (And.intro hwa (And.intro hb hc))
  have Hb0 := hid hb0
  have Heq := hid heq
  clear hwa hb hc hb0 heq hm ih hat hat2 hk1 hk2
  by_cases hpq : p = q
  · subst hpq
    have he : Fo.sameT p k p l = Fo.sameF k l := by simp [Fo.sameT]
    rw [he]
    clear he
    have hpp : (p == p) = true := by simp
    go_enter Try.func31, Try.ntmps31
    go_upto_region 1 with fail
    rw [← Hwa.out.1, ← Hwa.out.2.2, ← Hwa.out.2.1]
    go_wp2_with (go_at_call 76; refine Heq.out.mono ?_; rintro e w1 ⟨rfl, hb1⟩)
    go_ret
    exact ⟨rfl, belw Hb0.out hb1⟩
  · have hpp : (p == q) = false := by simpa using hpq
    have he : Fo.sameT p k q l = false := by simp [Fo.sameT, hpq]
    rw [he]
    clear he
    go_enter Try.func31, Try.ntmps31
    go_upto_region 1 with fail
    rw [← Hwa.out.1, ← Hwa.out.2.2, ← Hwa.out.2.1]
    go_wp2_with fail
    go_ret
    exact ⟨rfl, Hb0.out⟩
/-- tree.Same of any two trees. -/
theorem same_calls (m : Nat) : SamSays 31 m := by
  induction m using Nat.strongRecOn with
  | ind m ih => exact same_step m ih
end Go.Proofs.Ytaehooafdbaomaa
