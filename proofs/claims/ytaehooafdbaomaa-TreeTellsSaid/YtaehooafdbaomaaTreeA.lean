/- Chapter 14 (tree): Size of any tree. -/
import Derived.Test.YtaehooafdbaomaaKids0
import Derived.Test.YtaehooafdbaomaaGin
namespace Go.Proofs.Ytaehooafdbaomaa
open Go.RowKit
attribute [local go_sem ↓] Go.wp_at_zero Go.wp_at_succ
attribute [local go_sem] frozen_alloc_lt

namespace Fo
def deep : Fo → Nat
  | nil => 0
  | cons _ k r => max (k.deep + 1) r.deep
theorem deep_le : ∀ f : Fo, f.deep ≤ f.nodes
  | nil => Nat.le_refl _
  | cons _ k r => by
    have := deep_le k
    have := deep_le r
    rw [deep, nodes]; omega
end Fo
def SizeSaid (n d : Nat) (w : World) (e : Ending) (w' : World) : Prop := e = .returned (.tuple #[.int .i64 n, .int .i64 d]) ∧ Below w.heap.size w w'
def SizeAt (w0 : World) (ga : Option Addr) (len N D : Nat) (k : Nat) (v4 v5 v13 : Value) (w : World) : Prop :=
  ∃ (i n d : Nat) (r : Fo), v13 = .int .i64 i ∧ v4 = .int .i64 n ∧ v5 = .int .i64 d ∧ FoAt w0 (fun k => k < w0.heap.size) ga r i ∧ i + r.len = len ∧ n + r.nodes = N ∧ max d r.deep = D ∧ k = r.len ∧ 1 ≤ n ∧ Below w0.heap.size w0 w
def SizeSays (m : Nat) : Prop := ∀ (p : Int) (kids : Fo) (w : World) (gk : Option Addr) (ck : Nat), kids.nodes = m → kids.nodes ≤ 1000000000000 → FoAt w (fun k => k < w.heap.size) gk kids 0 →
    Calls Try.prog 27 #[.agg #[.int .i64 p, .slice gk kids.len ck]] w (SizeSaid (1 + kids.nodes) (kids.deep + 1) w)

theorem Fo.len_le : ∀ f : Fo, f.len ≤ f.nodes
  | .nil => Nat.le_refl _
  | .cons _ k r => by
    have := Fo.len_le r
    rw [Fo.len, Fo.nodes]; omega

set_option maxHeartbeats 2000000 in
theorem size_step (m : Nat) (ih : ∀ m', m' < m → SizeSays m') : SizeSays m := by
  intro p kids w gk ck hm hmax hat
  have hlen := kids.len_le
  have hk := Bk.new w 45 [.int .i64 p, .slice gk kids.len ck]
  have hb0 : Below w.heap.size w (w.alloc (.cells #[.int .i64 p, .slice gk kids.len ck] 45)) := (Below.refl _ _).alloc (Nat.le_refl _) _
  have hat0 := (hat.below hb0 (fun k hk => hk)).mono fun k (hk : k < w.heap.size) => Nat.lt_of_lt_of_le hk hb0.size
  have Hb0 := hid hb0
  have Hm := hid hm
  have Hlen := hid hlen
  have hlm : kids.len ≤ 1000000000000 := by omega
  clear hm hlen hat hb0
  go_enter Try.func27, Try.ntmps27
  go_upto_region 1 with fail
  obtain ⟨wa, hwa⟩ : ∃ wa, wa = (w.alloc (.cells #[.int .i64 p, .slice gk kids.len ck] 45)) := ⟨_, rfl⟩
  rw [← hwa] at hk hat0 Hb0 ⊢
  obtain ⟨b, hb⟩ : ∃ b, b = w.heap.size := ⟨_, rfl⟩
  rw [← hb] at hk ⊢
  clear hwa
  have HB := hid hb
  clear hb
  have g0 := hk.cell 0
  have g1 := hk.cell 1
  simp only [List.getElem?_cons_zero, List.getElem?_cons_succ] at g0 g1
  go_wp2
  obtain ⟨L, hL⟩ : ∃ L, L = kids.len := ⟨_, rfl⟩
  rw [← hL] at hlm ⊢
  have HL := hid hL
  clear hL g0 g1
  go_loopg [4, 5, 13] L (fun k v4 v5 v13 wr => SizeAt wa gk L (1 + kids.nodes) kids.deep k v4 v5 v13 wr)
  case atStart => exact ⟨0, 1, 0, kids, rfl, rfl, rfl, hat0, by rw [HL.out]; omega, rfl, by omega, HL.out, Nat.le_refl _, Below.refl _ _⟩
  case round =>
    obtain ⟨i, n, d, r, rfl, rfl, rfl, hr, hi, hn, hd, hkk, hn1, hbw⟩ := hrel
    cases r with
    | nil =>
      simp only [Fo.len, Fo.nodes, Fo.deep, Nat.add_zero, Nat.max_zero] at hi hn hd
      subst hi
      have hge : ¬ (i : Int) < (i : Int) := by omega
      have Hd := hid hd
      have Hn := hid hn
      clear hd hn hkk
      have h1 : (d : Int) ≤ 1000000000000 := by have := Fo.deep_le kids; have := Hd.out; omega
      go_wp2
      go_ret2
      exact ⟨by rw [← Hn.out, ← Hd.out]; rfl, belw Hb0.out hbw⟩
    | cons q k r' =>
      simp only [Fo.len, Fo.nodes, Fo.deep] at hi hn hd
      unfold FoAt at hr
      obtain ⟨⟨g, off, ga', ca', rfl, hg, c0, c1, hk'⟩, hr'⟩ := hr
      have hlt : (i : Int) < (L : Int) := by omega
      have hi0 : (0 : Int) ≤ (i : Int) := by omega
      have c0' := (hbw.cell (p := ⟨g, _, none⟩) hg).trans c0
      have c1' := (hbw.cell (p := ⟨g, _, none⟩) hg).trans c1
      have hdk := Fo.deep_le k
      have hdr := Fo.deep_le r'
      have hml : (n : Int) + (1 + k.nodes) ≤ 1000000000001 := by omega
      have hmd : (d : Int) ≤ 1000000000001 := by
        have h1 := Fo.deep_le kids
        have h2 : d ≤ kids.deep := by rw [← hd]; exact Nat.le_max_left _ _
        omega
      have hlt' : k.nodes < m := by have := Hm.out; omega
      have hba : Below wr.heap.size wr (wr.alloc (.cells #[.int .i64 q, .slice ga' k.len ca'] 45)) := (Below.refl _ _).alloc (Nat.le_refl _) _
      have hka := (hk'.below hbw (fun _ hk => hk)).mono (D' := fun x => x < wr.heap.size) fun x (hk : x < wa.heap.size) => Nat.lt_of_lt_of_le hk hbw.size
      have hka2 := (hka.below hba (fun _ hk => hk)).mono (D' := fun x => x < (wr.alloc (.cells #[.int .i64 q, .slice ga' k.len ca'] 45)).heap.size) fun x (hk : x < wr.heap.size) => Nat.lt_of_lt_of_le hk hba.size
      have hcall := ih k.nodes hlt' q k _ ga' ca' rfl (by omega) hka2
      have Hcall := hid hcall
      have Hka := hid hka
      have Hr' := hid hr'
      have Hba := hid hba
      have Hn := hid hn
      have Hd := hid hd
      have Hi := hid hi
      have Hk := hid hkk
      clear hcall hka hka2 hr' hba hn hd hi hkk c0 c1 hk' hdr hlt'
      go_wp2_with (go_at_call 27; refine Hcall.out.mono ?_; rintro e w2 ⟨rfl, hb2⟩)
      all_goals
        go_roundg r'.len
        case measure => have := Hk.out; rw [Fo.len] at this; omega
        case rel => exact ⟨i + 1, n + (1 + k.nodes), max d (k.deep + 1), r', by go_num, by go_num, by first | (rw [show max d (k.deep + 1) = d by omega]; done) | (rw [show max d (k.deep + 1) = k.deep + 1 by omega]; go_num), Hr'.out, by have := Hi.out; omega, by have := Hn.out; omega, by have := Hd.out; omega, rfl, by omega, belw hbw (belw Hba.out hb2)⟩
theorem size_calls (m : Nat) : SizeSays m := by
  induction m using Nat.strongRecOn with
  | ind m ih => exact size_step m ih
end Go.Proofs.Ytaehooafdbaomaa
