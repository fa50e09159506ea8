/- Chapter 14 (tree): Put. -/
import Derived.Test.YtaehooafdbaomaaTreeSpec
import Derived.Test.YtaehooafdbaomaaTreeA
import Derived.Test.YtaehooafdbaomaaBld
import Derived.Test.YtaehooafdbaomaaOctPut
namespace Go.Proofs.Ytaehooafdbaomaa
open Go.RowKit
attribute [local go_sem ↓] Go.wp_at_zero Go.wp_at_succ
attribute [local go_sem] frozen_alloc_lt

theorem Oct.putS_len (n : Int) : (Oct.putS n).length ≤ 8 := by
  unfold Oct.putS
  split
  · simp
  · have := Oct.be_len n.natAbs
    simp only [List.length_cons]
    omega
/-- The bytes of the trees of a forest. -/
def Fo.put : Fo → List UInt8
  | .nil => []
  | .cons p k r => (Oct.putS p ++ k.put) ++ r.put
theorem Fo.put_len : ∀ f : Fo, f.put.length ≤ 8 * f.nodes
  | .nil => by simp [Fo.put]
  | .cons p k r => by
    have h1 := Fo.put_len k
    have h2 := Fo.put_len r
    have h3 := Oct.putS_len p
    simp only [Fo.put, Fo.nodes, List.length_append]
    omega
/-- What a writer into a builder leaves: it holds l. -/
def WroteSaid (B b : Nat) (l : List UInt8) (w : World) (e : Ending) (w' : World) : Prop := e = .returned (.tuple #[]) ∧ BldIs B b l w' ∧ Below B w w' ∧ BldKp b w w'
def TPutAt (w0 : World) (B b : Nat) (ga : Option Addr) (len N : Nat) (res : List UInt8) (k : Nat) (v14 : Value) (w : World) : Prop :=
  ∃ (i : Nat) (r : Fo) (l : List UInt8), v14 = .int .i64 i ∧ FoAt w0 (fun k => k < B) ga r i ∧ i + r.len = len ∧ l ++ r.put = res ∧ BldIs B b l w ∧ Below B w0 w ∧ BldKp b w0 w ∧ k = r.len ∧ r.nodes ≤ N ∧ l.length + 8 * r.nodes ≤ 100000000000000
def TPutSays (m : Nat) : Prop := ∀ (p : Int) (kids : Fo) (w : World) (gk : Option Addr) (ck B b : Nat) (l : List UInt8), kids.nodes = m → FoAt w (fun k => k < B) gk kids 0 → BldIs B b l w → l.length + 8 * (1 + kids.nodes) ≤ 100000000000000 →
    Calls Try.prog 70 #[.pointer (some ⟨b, 0, none⟩), .agg #[.int .i64 p, .slice gk kids.len ck]] w (WroteSaid B b (l ++ (Oct.putS p ++ kids.put)) w)
set_option maxHeartbeats 2000000 in
theorem tput_step (m : Nat) (ih : ∀ m', m' < m → TPutSays m') : TPutSays m := by
  intro p kids w gk ck B b l hm hat hbi hlen
  have hkl := kids.len_le
  have hBw : B ≤ w.heap.size := Nat.le_trans hbi.le (Nat.le_of_lt hbi.lt)
  have hbk := Bk.new w 45 [.int .i64 p, .slice gk kids.len ck]
  have hb0 : Below w.heap.size w (w.alloc (.cells #[.int .i64 p, .slice gk kids.len ck] 45)) := (Below.refl _ _).alloc (Nat.le_refl _) _
  have hat0 := hat.below hb0 (fun k (hk : k < B) => Nat.lt_of_lt_of_le hk hBw)
  have hbi0 := hbi.below hb0
  have hkp0 := BldKp.below (b := b) hb0
  have hput := oput_calls p (w.alloc (.cells #[.int .i64 p, .slice gk kids.len ck] 45))
  obtain ⟨wa, hwa⟩ : ∃ wa, wa = (w.alloc (.cells #[.int .i64 p, .slice gk kids.len ck] 45)) := ⟨_, rfl⟩
  obtain ⟨a, ha⟩ : ∃ a, a = w.heap.size := ⟨_, rfl⟩
  rw [← hwa] at hbk hb0 hat0 hbi0 hkp0 hput
  rw [← ha] at hbk
  have hab : a ≠ b := by have := hbi.lt; omega
  have hBa : B ≤ a := by omega
  have g0 := hbk.cell 0
  have g1 := hbk.cell 1
  have hal := hbk.lt
  simp only [List.getElem?_cons_zero, List.getElem?_cons_succ] at g0 g1
  have Hwa := hid hwa
  have HA := hid ha
  have Hb0 := hid (hb0.mono hBw)
  have Hat0 := hid hat0
  have Hbi0 := hid hbi0
  have Hkp0 := hid hkp0
  have Hm := hid hm
  have Hlen := hid hlen
  have Hbk := hid hbk
  have Hab := hid hab
  have hlm : kids.len ≤ 100000000000000 := by omega
  have hfin : (l ++ Oct.putS p) ++ kids.put = l ++ (Oct.putS p ++ kids.put) := List.append_assoc _ _ _
  obtain ⟨res, hres⟩ : ∃ res, res = l ++ (Oct.putS p ++ kids.put) := ⟨_, rfl⟩
  rw [← hres] at hfin ⊢
  have Hfin := hid hfin
  obtain ⟨L, hL⟩ : ∃ L, L = kids.len := ⟨_, rfl⟩
  rw [← hL] at g1 hlm
  clear hwa ha hb0 hat0 hbi0 hkp0 hm hlen hbk hab hat hbi hkl hBw hfin hres
  go_enter Try.func70, Try.ntmps70
  go_upto_region 1 with fail
  rw [← Hwa.out, ← HA.out, ← hL]
  have HL := hid hL
  clear hL
  go_upto_region 2 with (first
    | (go_at_call 115; refine hput.mono ?_; rintro e w1 ⟨rfl, hb1⟩; have Hb1 := hid hb1; clear hb1)
    | (go_at_call 114; refine (bldWriteString B b l (Oct.putS p) w1 (Hbi0.out.below Hb1.out) (by have := Oct.putS_len p; have := Hlen.out; omega) (by have := Hb1.out.size; omega)).mono ?_; rintro e w2 ⟨rfl, hbi2, hb2, hkp2⟩))
  have hb02 := Hb0.out.trans ((Hb1.out.mono (by have := Hbi0.out.lt; have := Hbi0.out.le; omega)).trans hb2)
  have hkp02 := Hkp0.out.trans ((BldKp.below Hb1.out).trans hkp2)
  have hbk2 := Hbk.out.bld ((BldKp.below (b := b) Hb1.out).trans hkp2) Hab.out (by decide)
  have hat2 := Hat0.out.below ((Hb1.out.mono (by have := Hbi0.out.lt; have := Hbi0.out.le; omega)).trans hb2) (fun k hk => hk)
  have z1 := hbk2.cell 1
  simp only [List.getElem?_cons_zero, List.getElem?_cons_succ] at z1
  rw [← HL.out] at z1
  have Hb02 := hid hb02
  have Hkp02 := hid hkp02
  clear hb02 hkp02 hbk2 g0 g1 hal hb2 hkp2 hput
  go_wp2
  go_loopg [14] L (fun k v14 wr => TPutAt w2 B b gk L kids.nodes res k v14 wr)
  case atStart => exact ⟨0, kids, l ++ Oct.putS p, rfl, hat2, by rw [HL.out]; omega, Hfin.out, hbi2, Below.refl _ _, BldKp.refl _ _, HL.out, Nat.le_refl _, by have := Hlen.out; have := Oct.putS_len p; rw [List.length_append]; omega⟩
  case round =>
    clear hbi2 hat2 z1
    obtain ⟨i, r, lr, rfl, hr, hi, hl, hbr, hbw, hkw, hkk, hn1, hn2⟩ := hrel
    cases r with
    | nil =>
      simp only [Fo.len, Fo.put, Nat.add_zero, List.append_nil] at hi hl
      subst hi
      have hge : ¬ (i : Int) < (i : Int) := by omega
      have Hl := hid hl
      clear hl hkk hn1 hn2
      go_wp2
      refine bodyPost_end (results_none rfl _ _ _) rfl ?_
      exact ⟨rfl, by rw [← Hl.out]; exact hbr, Hb02.out.trans hbw, Hkp02.out.trans hkw⟩
    | cons q k r' =>
      simp only [Fo.len, Fo.put] at hi hl
      unfold FoAt at hr
      obtain ⟨⟨g, off, ga', ca', rfl, hg, c0, c1, hk'⟩, hr'⟩ := hr
      have hlt : (i : Int) < (L : Int) := by omega
      have hi0 : (0 : Int) ≤ (i : Int) := by omega
      have c0' := (hbw.cell (p := ⟨g, _, none⟩) hg).trans c0
      have c1' := (hbw.cell (p := ⟨g, _, none⟩) hg).trans c1
      have hBr : B ≤ wr.heap.size := by have := hbr.lt; have := hbr.le; omega
      rw [Fo.nodes] at hn1 hn2
      have hlt' : k.nodes < m := by have := Hm.out; omega
      have hba : Below wr.heap.size wr (wr.alloc (.cells #[.int .i64 q, .slice ga' k.len ca'] 45)) := (Below.refl _ _).alloc (Nat.le_refl _) _
      have hka := (hk'.below hbw (fun _ hk => hk)).below hba (fun k (hk : k < B) => Nat.lt_of_lt_of_le hk hBr)
      have hcall := ih k.nodes hlt' q k _ ga' ca' B b lr rfl hka (hbr.below hba) (by omega)
      have hn3 : (lr ++ (Oct.putS q ++ k.put)).length + 8 * r'.nodes ≤ 100000000000000 := by
        have h1 := Oct.putS_len q
        have h2 := Fo.put_len k
        simp only [List.length_append]
        omega
      have Hn3 := hid hn3
      have Hn1 := hid hn1
      have Hcall := hid hcall
      have Hr' := hid hr'
      have Hba := hid hba
      have Hl := hid hl
      have Hi := hid hi
      have Hk := hid hkk
      have HBr := hid hBr
      clear hcall hka hr' hba hl hi hkk c0 c1 hk' hlt' hBr hn1 hn2 hn3
      go_wp2_with (go_at_call 70; refine Hcall.out.mono ?_; rintro e w4 ⟨rfl, hbi4, hb4, hkp4⟩)
      go_roundg r'.len
      case measure => have := Hk.out; rw [Fo.len] at this; omega
      case rel => exact ⟨i + 1, r', _, by go_num, Hr'.out, by have := Hi.out; omega, by rw [← Hl.out]; simp only [List.append_assoc], hbi4, (hbw.trans (Hba.out.mono HBr.out)).trans hb4, (hkw.trans (BldKp.below Hba.out)).trans hkp4, rfl, by have := Hn1.out; omega, Hn3.out⟩
theorem tput_calls (m : Nat) : TPutSays m := by
  induction m using Nat.strongRecOn with
  | ind m ih => exact tput_step m ih
set_option maxHeartbeats 2000000 in
/-- tree.Put of any tree. -/
theorem treePut_calls (p : Int) (kids : Fo) (w : World) (gk : Option Addr) (ck : Nat) (hat : FoAt w (fun k => k < w.heap.size) gk kids 0) (hn : kids.nodes ≤ 1000000000000) :
    Calls Try.prog 25 #[.agg #[.int .i64 p, .slice gk kids.len ck]] w fun e w' => e = .returned (.string ⟨(Oct.putS p ++ kids.put).toArray⟩) ∧ Below w.heap.size w w' := by
  have hbk := (Bk.new w 45 [.int .i64 p, .slice gk kids.len ck]).alloc (.cells #[.pointer none, .slice none 0 0] 121)
  have hb0 : Below w.heap.size w ((w.alloc (.cells #[.int .i64 p, .slice gk kids.len ck] 45)).alloc (.cells #[.pointer none, .slice none 0 0] 121)) := bel_al (bel_al (bel_id w) _) _
  have hat0 := (hat.below hb0 (fun k hk => hk)).mono (D' := fun k => k < (w.alloc (.cells #[.int .i64 p, .slice gk kids.len ck] 45)).heap.size) (fun k (hk : k < w.heap.size) => by simp; omega)
  have hbi := BldIs.new (w.alloc (.cells #[.int .i64 p, .slice gk kids.len ck] 45))
  have hcall := tput_calls kids.nodes p kids _ gk ck _ _ [] rfl hat0 hbi (by simp; omega)
  rw [List.nil_append, show (w.alloc (.cells #[.int .i64 p, .slice gk kids.len ck] 45)).heap.size = w.heap.size + 1 by simp] at hcall
  have g0 := hbk.cell 0
  have g1 := hbk.cell 1
  have hal := hbk.lt
  simp only [List.getElem?_cons_zero, List.getElem?_cons_succ] at g0 g1
  obtain ⟨wa, hwa⟩ : ∃ wa, wa = ((w.alloc (.cells #[.int .i64 p, .slice gk kids.len ck] 45)).alloc (.cells #[.pointer none, .slice none 0 0] 121)) := ⟨_, rfl⟩
  obtain ⟨a, ha⟩ : ∃ a, a = w.heap.size := ⟨_, rfl⟩
  obtain ⟨b, hb⟩ : ∃ b, b = w.heap.size + 1 := ⟨_, rfl⟩
  rw [← hwa] at hb0 hcall g0 g1 hal
  rw [← hb] at hcall
  rw [← ha] at g0 g1 hal
  have Hwa := hid hwa
  have HA := hid ha
  have HB := hid hb
  have Hb0 := hid hb0
  clear hwa ha hb hb0 hat hat0 hbi hbk hn
  go_enter Try.func25, Try.ntmps25
  go_upto_region 2 with fail
  rw [← Hwa.out, ← HB.out, ← HA.out]
  go_wp2_with (first
    | (go_at_call 70; refine hcall.mono ?_; rintro e w2 ⟨rfl, hbi2, hb2, hkp2⟩)
    | (go_at_call 71; refine (bldString b b _ w2 hbi2 (Nat.le_of_lt hbi2.lt)).mono ?_; rintro e w3 ⟨rfl, hbi3, hb3, hkp3⟩))
  go_ret
  refine ⟨rfl, Hb0.out.trans ((hb2.trans hb3).mono (by have := HB.out; omega))⟩
end Go.Proofs.Ytaehooafdbaomaa
