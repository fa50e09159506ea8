/- Chapter 9 (facts): FactsLong: a chain that doubles at each step. -/
import Derived.Test.YtbpgolmbielpgaaLaw09a
import Derived.Lib.Bytealg
namespace Go.Proofs.Ytbpgolmbielpgaa
open Go.RowKit
attribute [local go_sem ↓] Go.wp_at_zero Go.wp_at_succ
attribute [local go_sem] frozen_alloc_lt

theorem and7 (n : Int) : ∃ m : Nat, m ≤ 7 ∧ bits .and .i64 n 7 = (m : Int) := by
  have h : (BitVec.ofInt 64 n &&& BitVec.ofInt 64 7).toNat ≤ 7 := by
    rw [BitVec.toNat_and]
    exact Nat.and_le_right
  refine ⟨(BitVec.ofInt 64 n &&& BitVec.ofInt 64 7).toNat, h, ?_⟩
  show IntKind.i64.wrap ((BitVec.ofInt 64 n &&& BitVec.ofInt 64 7).toNat : Int) = _
  rw [IntKind.wrap_i64]
  omega

def chN (n i : Nat) : List ByteArray := (List.range i).map (Facts.chainN n)
def chP (n i : Nat) : List (Int × List Int) := (List.range i).map (Facts.chainP n)
theorem chN_succ (n i : Nat) : chN n (i + 1) = chN n i ++ [Facts.chainN n i] := by simp [chN, List.range_succ]
theorem chP_succ (n i : Nat) : chP n (i + 1) = chP n i ++ [Facts.chainP n i] := by simp [chP, List.range_succ]

theorem bk_own {w : World} {B g n : Nat} {e : TypeId} {xs : List Value} (h : Bk w g e xs) (hB : B ≤ g) (hn : xs.length = n) (hs : n ≤ 9223372036854775807) : w.ownsRow B e 1 (.slice (some ⟨g, 0, none⟩) n n) n xs := by
  subst hn
  exact ⟨by omega, .inr ⟨g, xs.length, xs.toArray, rfl, hB, h, Nat.le_refl _, by unfold maxLen; omega, by simp, by simp⟩⟩

def LongAt (w0 : World) (b n : Nat) (gt : Option Addr) (k : Nat) (v4 : Value) (w : World) : Prop :=
  ∃ (i : Nat) (gn gp : Option Addr) (cn cp : Nat), v4 = .int .i64 i ∧ i ≤ n + 1 ∧ Bk w b 41 [.int .i64 0, .int .i64 0, .slice gn i cn, .slice gt 1 1, .slice gp i cp] ∧
    w.ownsRow (b + 1) 9 1 (.slice gn i cn) i ((chN n i).map Value.string) ∧ PrOwn w (b + 1) 35 3 (.slice gp i cp) (chP n i) ∧ RowS w b gt [⟨#[120]⟩] ∧ k = n + 1 - i ∧ Below w0.heap.size w0 w

theorem strInfo : (Try.prog.info? 9).map (fun i => (i.zero, i.size, i.bytes)) = some (some (.string ⟨#[]⟩), 1, 16) := by kernel_rfl
theorem prodInfo : (Try.prog.info? 35).map (fun i => (i.zero, i.size, i.bytes)) = some (some (.agg #[.int .i64 0, .slice none 0 0]), 2, 32) := by kernel_rfl

theorem long_hi (N : Nat) (h0 : 40 < N) (h1 : N ≤ 43) : 1099511627776 < wrap64 ((2 : Int) ^ N) ∧ (min (2 ^ N : Int) 1099511627776 == 1099511627776) = true := by
  have : N = 41 ∨ N = 42 ∨ N = 43 := by omega
  rcases this with rfl | rfl | rfl <;> decide +kernel
theorem long_lo (N : Nat) (h0 : 36 ≤ N) (h1 : N ≤ 40) : wrap64 ((2 : Int) ^ N) ≤ 1099511627776 ∧ (min (2 ^ N : Int) 1099511627776 == wrap64 ((2 : Int) ^ N)) = true := by
  have : N = 36 ∨ N = 37 ∨ N = 38 ∨ N = 39 ∨ N = 40 := by omega
  rcases this with rfl | rfl | rfl | rfl | rfl <;> decide +kernel

set_option maxHeartbeats 8000000 in
set_option maxRecDepth 8000 in
theorem factsLong_calls (n : Int) (w : World) : Calls Try.prog 6 #[.int .i64 n] w fun e w' => e = .returned (.bool true) ∧ Below w.heap.size w w' := by
  obtain ⟨m, hm, hand⟩ := and7 n
  obtain ⟨is, his, s0, s1, s2⟩ := info_parts strInfo
  obtain ⟨ip, hip, p0, p1, p2⟩ := info_parts prodInfo
  have hm0 : (0 : Int) ≤ (m : Int) := by omega
  have hm1 : (m : Int) ≤ 7 := by omega
  go_enter Try.func6, Try.ntmps6
  go_upto_region 4 with (go_at_call 27; refine (speaks09_calls _).mono ?_; rintro e w1 ⟨rfl, hb1⟩)
  obtain ⟨N, hN⟩ : ∃ N : Nat, N = 36 + m := ⟨_, rfl⟩
  have hNm : (36 : Int) + (m : Int) = (N : Int) := by omega
  have HN := hid hN
  have hN1 : N ≤ 43 := by omega
  have hN0 : 36 ≤ N := by omega
  rw [hNm]
  clear hN hNm hand
  go_wp2_with fail
  have hk0 := (Bk.new w1 9 [.string ⟨#[120]⟩]).alloc (.cells #[.int .i64 0, .int .i64 0, .slice none 0 0, .slice (some ⟨w1.heap.size, 0, none⟩) 1 1, .slice none 0 0] 41)
  have hk1 := bk_at (Bk.new (w1.alloc (.cells #[.string ⟨#[120]⟩] 9)) 41 [.int .i64 0, .int .i64 0, .slice none 0 0, .slice (some ⟨w1.heap.size, 0, none⟩) 1 1, .slice none 0 0]) (b' := w1.heap.size + 1) (by simp)
  have hb2 : Below w.heap.size w ((w1.alloc (.cells #[.string ⟨#[120]⟩] 9)).alloc (.cells #[.int .i64 0, .int .i64 0, .slice none 0 0, .slice (some ⟨w1.heap.size, 0, none⟩) 1 1, .slice none 0 0] 41)) := (hb1.alloc hb1.size _).alloc (by have := hb1.size; simp; omega) _
  obtain ⟨wd, hwd⟩ : ∃ wd, wd = ((w1.alloc (.cells #[.string ⟨#[120]⟩] 9)).alloc (.cells #[.int .i64 0, .int .i64 0, .slice none 0 0, .slice (some ⟨w1.heap.size, 0, none⟩) 1 1, .slice none 0 0] 41)) := ⟨_, rfl⟩
  obtain ⟨b, hbe⟩ : ∃ b, b = w1.heap.size + 1 := ⟨_, rfl⟩
  have hrt : RowS wd b (some ⟨w1.heap.size, 0, none⟩) [⟨#[120]⟩] := by
    refine RowS.intro fun i x hx => ⟨_, 0, rfl, by omega, ?_⟩
    match i, hx with
    | 0, hx =>
      cases hx
      rw [hwd]
      exact hk0.cell 0
  rw [← hwd, ← hbe] at hk1
  rw [← hwd] at hb2
  rw [← hwd, ← hbe]
  obtain ⟨gt, hgt⟩ : ∃ gt : Option Addr, gt = some ⟨w1.heap.size, 0, none⟩ := ⟨_, rfl⟩
  rw [← hgt] at hrt hk1 ⊢
  have hwb : w.heap.size ≤ b := by have := hb1.size; omega
  clear hwd hbe hgt hk0 hb1
  go_loopg [4] (N + 1) (fun k v4 wr => LongAt w b N gt k v4 wr)
  case atStart => exact ⟨0, none, none, 0, 0, rfl, by omega, hk1, World.ownsRow_nil _ _ _ _, PrOwn.nil _ _ _ _, hrt, rfl, hb2⟩
  case round =>
    clear hk1 hrt hb2
    obtain ⟨i, gn, gp, cn, cp, rfl, hi, hkb, hon, hop, hrt, hk, hb⟩ := hrel
    have Hk := hid hk
    clear hk
    have hlb := hkb.lt
    by_cases hlt : i < N + 1
    · have hlt' : (i : Int) ≤ (N : Int) := by omega
      have hi43 : (i : Int) ≤ 43 := by omega
      have hi0 : (0 : Int) ≤ (i : Int) := by omega
      have c2 := hkb.cell 2
      have c4 := hkb.cell 4
      have f2 := hkb.free 2
      have f4 := hkb.free 4
      simp only [List.getElem?_cons_zero, List.getElem?_cons_succ] at c2 c4
      obtain ⟨s, hs⟩ : ∃ s, s = Facts.chainN N i := ⟨_, rfl⟩
      have hx1 : ((UInt8.ofNat (65 + i % 26)).toNat : Int) = 65 + (i : Int) % 26 := by
        rw [UInt8.toNat_ofNat_of_lt' (by show 65 + i % 26 < 256; omega)]
        omega
      have hx2 : ((UInt8.ofNat (97 + i / 26)).toNat : Int) = 97 + (i : Int) / 26 := by
        rw [UInt8.toNat_ofNat_of_lt' (by show 97 + i / 26 < 256; omega)]
        omega
      have hcv : (convert 50 9 (.slice (some ⟨wr.heap.size, 0, none⟩) 2 2)).run Try.prog (wr.alloc (.cells #[.int .u8 (65 + (i : Int) % 26), .int .u8 (97 + (i : Int) / 26)] 5)) = .ok (.string s) (wr.alloc (.cells #[.int .u8 (65 + (i : Int) % 26), .int .u8 (97 + (i : Int) / 26)] 5)) := by
        have h := run_convert_bytes_back (P := Try.prog) (wr.alloc (.cells #[.int .u8 (65 + (i : Int) % 26), .int .u8 (97 + (i : Int) / 26)] 5)) 50 9 _ ⟨wr.heap.size, 0, none⟩ 2 [UInt8.ofNat (65 + i % 26), UInt8.ofNat (97 + i / 26)] Try.underlying50 Try.underlying5 Try.underlying9 (fun j hj => by
          have hbk := Bk.new wr 5 [.int .u8 (65 + (i : Int) % 26), .int .u8 (97 + (i : Int) / 26)]
          rw [add_off0 _ rfl]
          simp only [Nat.zero_add]
          match j, hj with
          | 0, _ => rw [hbk.cell 0]; simp only [List.getElem?_cons_zero, List.getElem_cons_zero, hx1]
          | 1, _ => rw [hbk.cell 1]; simp only [List.getElem?_cons_zero, List.getElem?_cons_succ, List.getElem_cons_zero, List.getElem_cons_succ, hx2])
        rw [hs]
        exact h
      obtain ⟨wa, hwa⟩ : ∃ wa, wa = wr.alloc (.cells #[.int .u8 (65 + (i : Int) % 26), .int .u8 (97 + (i : Int) / 26)] 5) := ⟨_, rfl⟩
      have hka : Kp (fun _ => False) wr wa := by rw [hwa]; exact (Kp.refl _ wr).alloc _
      have hsz : wa.heap.size = wr.heap.size + 1 := by rw [hwa]; simp
      have Hs := hid hs
      have hcl : (chN N i).length = i := by simp [chN]
      have hona : wa.ownsRow (b + 1) 9 1 (.slice gn i cn) (chN N i).length ((chN N i).map Value.string) := by rw [hcl]; exact own_kp hon hka (fun _ _ h => h)
      obtain ⟨g2, cap2, w2, hrun, hon2, hk2, hg2, hl2⟩ := str_app (P := Try.prog) hona 39 39 is Try.underlying39 his s0 s1 s2 (by omega) (by rw [hcl]; omega) s 0
      rw [hcl] at hrun hon2
      have hvn : ∀ g, (Value.slice gn i cn).ownBlock = some g → b + 1 ≤ g := fun g hg => (World.ownsRow.lt hon g hg).1
      have hvb : ¬ (Value.slice gn i cn).ownBlock = some b := fun e => by have := hvn b e; omega
      have hkb2 := (hkb.kp hka (fun h => h)).kp hk2 hvb
      have hb2 : Below b wr w2 := (hka.to_below (B := b) (by omega) (fun k hk => hk.elim)).trans (hk2.to_below (B := b) (by omega) (fun k e => by have := hvn k e; omega))
      have hop2 : PrOwn w2 (b + 1) 35 3 (.slice gp i cp) (chP N i) := by
        refine (hop.kp hka (fun _ _ h => h) (fun _ _ _ _ _ _ h => h)).kp hk2 (fun g hg e => ?_) (fun u n' xs hu g hg e => ?_)
        · obtain ⟨xs, hx⟩ := (hop.kp hka (fun _ _ h => h) (fun _ _ _ _ _ _ h => h)).own
          exact own_apart hx hona (by decide) hg e
        · exact own_apart hu hona (by decide) hg e
      have hb3 := hb2.setCell (p := ⟨b, 2, none⟩) (Nat.le_refl b) (.slice (some ⟨g2, 0, none⟩) (i + 1) cap2)
      have hk3 : Kp (fun k => k = b) w2 (w2.setCell ⟨b, 2, none⟩ (.slice (some ⟨g2, 0, none⟩) (i + 1) cap2)) := Kp.set (S := fun k => k = b) (Kp.refl _ w2) (.inl rfl) _
      have hkb3 := hkb2.set 2 (.slice (some ⟨g2, 0, none⟩) (i + 1) cap2)
      have hon3 := own_kp hon2 hk3 (fun g hg e => by have h9 := (World.ownsRow.lt hon2 g hg).1; omega)
      have hop3 := hop2.kp hk3 (fun g hg e => by
        obtain ⟨xs, hx⟩ := hop2.own
        have := (hx.lt g hg).1
        omega) (fun u n' xs hu g hg e => by have := (hu.lt g hg).1; omega)
      have c2' := hkb2.cell 2
      have f2' := hkb2.free 2
      simp only [List.getElem?_cons_zero, List.getElem?_cons_succ] at c2'
      have Hon3 := hid hon3
      have Hop3 := hid hop3
      have Hhs := hid hsz
      have Hwa := hid hwa
      clear hwa
      have hrun2 : (Builtin.append_ #[39, 39] 39 #[.slice gn i cn, .slice (some ⟨wr.heap.size + 1, 0, none⟩) 1 1]).run Try.prog (wa.alloc (.cells #[.string s] 9)) = .ok (.slice (some ⟨g2, 0, none⟩) (i + 1) cap2) w2 := by rw [← hsz]; exact hrun
      have Hrun := hid hrun2
      clear hs hx1 hx2 hon hop hona hon2 hop2 hon3 hop3 hsz hrun hrun2
      go_upto_region 9 with (at_builtin; rw [← Hwa.out]; refine wpList_append_run rfl _ _ _ rfl (.slice gn i cn) (.slice (some ⟨wr.heap.size + 1, 0, none⟩) 1 1) (.slice (some ⟨g2, 0, none⟩) (i + 1) cap2) w2 (by rfl) (by rfl) (by exact Hrun.out) ?_)
      have hsz2 : b + 1 ≤ (w2.setCell ⟨b, 2, none⟩ (.slice (some ⟨g2, 0, none⟩) (i + 1) cap2)).heap.size := by have := hkb3.lt; omega
      obtain ⟨wz, hwz⟩ : ∃ wz, wz = w2.setCell ⟨b, 2, none⟩ (.slice (some ⟨g2, 0, none⟩) (i + 1) cap2) := ⟨_, rfl⟩
      have hon3 := Hon3.out
      have hop3 := Hop3.out
      rw [← hwz] at hb3 hk3 hkb3 hon3 hop3 hsz2
      rw [← hwz]
      clear hwz Hon3 Hop3 hk3 c2 c4 f2 f4 c2' f2' hcv hkb hkb2 hb2 hk2 Hrun
      by_cases hiN : i = N
      · have hiN2 : ((i : Int) == (N : Int)) = true := by simp; omega
        have HiN := hid hiN
        clear hiN
        go_upto_region 12 with fail
        obtain ⟨wy, hwy⟩ : ∃ wy, wy = ((wz.alloc (.cells #[.int .i64 ((i : Int) + 1), .int .i64 ((i : Int) + 1)] 3)).alloc (.cells #[.int .i64 (-1)] 3)) := ⟨_, rfl⟩
        obtain ⟨ry, hry⟩ : ∃ ry, ry = wz.heap.size + 1 := ⟨_, rfl⟩
        have hky : Kp (fun _ => False) wz wy := by rw [hwy]; exact ((Kp.refl _ wz).alloc _).alloc _
        have hrb : Bk wy ry 3 ([-1].map (Value.int .i64)) := by rw [hwy, hry]; exact bk_at (Bk.new (wz.alloc (.cells #[.int .i64 ((i : Int) + 1), .int .i64 ((i : Int) + 1)] 3)) 3 [.int .i64 (-1)]) (by simp)
        rw [← hwy, ← hry]
        have hrb1 : b + 1 ≤ ry := by omega
        clear hwy hry
        have hrown : wy.ownsRow (b + 1) 3 1 (.slice (some ⟨ry, 0, none⟩) 1 1) ([-1] : List Int).length (([-1] : List Int).map (Value.int .i64)) := bk_own hrb hrb1 rfl (by decide)
        have hcp : (chP N i).length = i := by simp [chP]
        have hopy := hop3.kp hky (fun _ _ h => h) (fun _ _ _ _ _ _ h => h)
        have hony := own_kp hon3 hky (fun _ _ h => h)
        have hkby := hkb3.kp hky (fun h => h)
        have hsy : b + 1 ≤ wy.heap.size := by have := hky.size; omega
        obtain ⟨g5, cap5, w5, hrun5, hop5, hk5, hg5, hl5⟩ := hopy.app (P := Try.prog) 26 26 ip Try.underlying26 hip p0 p1 p2 (by decide) hsy (by rw [hcp]; omega) ((i : Int), [-1]) (.slice (some ⟨ry, 0, none⟩) 1 1) hrown 0
        rw [hcp] at hrun5 hop5
        have hpn : ∀ g, (Value.slice gp i cp).ownBlock = some g → b + 1 ≤ g := fun g hg => by
          obtain ⟨xs, hx⟩ := hopy.own
          exact (World.ownsRow.lt hx g hg).1
        have hpb : ¬ (Value.slice gp i cp).ownBlock = some b := fun e => by have := hpn b e; omega
        have hkb5 := hkby.kp hk5 hpb
        have hon5 := own_kp hony hk5 (fun g hg e => by
          obtain ⟨xs, hx⟩ := hopy.own
          exact own_apart hony hx (by decide) hg e)
        have hb5 : Below b wz w5 := (hky.to_below (B := b) (by omega) (fun k hk => hk.elim)).trans (hk5.to_below (B := b) (by omega) (fun k e => by have := hpn k e; omega))
        have hk6 : Kp (fun k => k = b) w5 (w5.setCell ⟨b, 4, none⟩ (.slice (some ⟨g5, 0, none⟩) (i + 1) cap5)) := Kp.set (S := fun k => k = b) (Kp.refl _ w5) (.inl rfl) _
        have hkb6 := hkb5.set 4 (.slice (some ⟨g5, 0, none⟩) (i + 1) cap5)
        have hon6 := own_kp hon5 hk6 (fun g hg e => by have h9 := (World.ownsRow.lt hon5 g hg).1; omega)
        have hop6 := hop5.kp hk6 (fun g hg e => by
          obtain ⟨xs, hx⟩ := hop5.own
          have h9 := (World.ownsRow.lt hx g hg).1
          omega) (fun u n' xs hu g hg e => by have h9 := (World.ownsRow.lt hu g hg).1; omega)
        have hb6 : Below b wr (w5.setCell ⟨b, 4, none⟩ (.slice (some ⟨g5, 0, none⟩) (i + 1) cap5)) := (hb3.trans hb5).setCell (p := ⟨b, 4, none⟩) (Nat.le_refl b) _
        have d4 := hkby.cell 4
        have d4' := hkb5.cell 4
        have e4' := hkb5.free 4
        have d4a := (hkby.alloc (.cells #[.int .i64 (i : Int), .slice (some ⟨ry, 0, none⟩) 1 1] 35)).cell 4
        simp only [List.set_cons_zero, List.set_cons_succ, List.getElem?_cons_zero, List.getElem?_cons_succ] at d4 d4' d4a
        have hrun6 : (Builtin.append_ #[26, 26] 26 #[.slice gp i cp, .slice (some ⟨wy.heap.size, 0, none⟩) 1 1]).run Try.prog (wy.alloc (.cells #[.int .i64 (i : Int), .slice (some ⟨ry, 0, none⟩) 1 1] 35)) = .ok (.slice (some ⟨g5, 0, none⟩) (i + 1) cap5) w5 := hrun5
        have Hrun6 := hid hrun6
        have Hon6 := hid hon6
        have Hop6 := hid hop6
        have hchp : Facts.chainP N i = ((i : Int), [-1]) := by unfold Facts.chainP; rw [if_pos HiN.out]
        have Hchp := hid hchp
        clear hrun5 hrun6 hopy hony hop5 hon5 hon6 hop6 hcp hchp hrown
        go_wp2_with (at_builtin; refine wpList_append_run rfl _ _ _ rfl (.slice gp i cp) (.slice (some ⟨wy.heap.size, 0, none⟩) 1 1) (.slice (some ⟨g5, 0, none⟩) (i + 1) cap5) w5 (by rfl) (by rfl) (by exact Hrun6.out) ?_)
        go_roundg (N + 1 - (i + 1))
        case measure => have hk := Hk.out; omega
        case rel =>
          exact ⟨i + 1, _, _, cap2, cap5, by go_num, by omega, hkb6, by have h9 := Hon6.out; rw [chN_succ, ← Hs.out]; rw [List.length_append, show (chN N i).length = i by simp [chN]] at h9; exact h9, by rw [chP_succ, Hchp.out]; exact Hop6.out, hrt.below hb6, rfl, hb.trans (hb6.mono (by omega))⟩
      · have hiN2 : ((i : Int) == (N : Int)) = false := by simp; omega
        go_upto_region 12 with fail
        obtain ⟨wy, hwy⟩ : ∃ wy, wy = (wz.alloc (.cells #[.int .i64 ((i : Int) + 1), .int .i64 ((i : Int) + 1)] 3)) := ⟨_, rfl⟩
        obtain ⟨ry, hry⟩ : ∃ ry, ry = wz.heap.size := ⟨_, rfl⟩
        have hky : Kp (fun _ => False) wz wy := by rw [hwy]; exact (Kp.refl _ wz).alloc _
        have hrb : Bk wy ry 3 ([(i : Int) + 1, (i : Int) + 1].map (Value.int .i64)) := by rw [hwy, hry]; exact Bk.new wz 3 [.int .i64 ((i : Int) + 1), .int .i64 ((i : Int) + 1)]
        rw [← hwy, ← hry]
        have hrb1 : b + 1 ≤ ry := by omega
        clear hwy hry
        have hrown : wy.ownsRow (b + 1) 3 1 (.slice (some ⟨ry, 0, none⟩) 2 2) ([(i : Int) + 1, (i : Int) + 1] : List Int).length (([(i : Int) + 1, (i : Int) + 1] : List Int).map (Value.int .i64)) := bk_own hrb hrb1 rfl (by decide)
        have hcp : (chP N i).length = i := by simp [chP]
        have hopy := hop3.kp hky (fun _ _ h => h) (fun _ _ _ _ _ _ h => h)
        have hony := own_kp hon3 hky (fun _ _ h => h)
        have hkby := hkb3.kp hky (fun h => h)
        have hsy : b + 1 ≤ wy.heap.size := by have := hky.size; omega
        obtain ⟨g5, cap5, w5, hrun5, hop5, hk5, hg5, hl5⟩ := hopy.app (P := Try.prog) 26 26 ip Try.underlying26 hip p0 p1 p2 (by decide) hsy (by rw [hcp]; omega) ((i : Int), [(i : Int) + 1, (i : Int) + 1]) (.slice (some ⟨ry, 0, none⟩) 2 2) hrown 0
        rw [hcp] at hrun5 hop5
        have hpn : ∀ g, (Value.slice gp i cp).ownBlock = some g → b + 1 ≤ g := fun g hg => by
          obtain ⟨xs, hx⟩ := hopy.own
          exact (World.ownsRow.lt hx g hg).1
        have hpb : ¬ (Value.slice gp i cp).ownBlock = some b := fun e => by have := hpn b e; omega
        have hkb5 := hkby.kp hk5 hpb
        have hon5 := own_kp hony hk5 (fun g hg e => by
          obtain ⟨xs, hx⟩ := hopy.own
          exact own_apart hony hx (by decide) hg e)
        have hb5 : Below b wz w5 := (hky.to_below (B := b) (by omega) (fun k hk => hk.elim)).trans (hk5.to_below (B := b) (by omega) (fun k e => by have := hpn k e; omega))
        have hk6 : Kp (fun k => k = b) w5 (w5.setCell ⟨b, 4, none⟩ (.slice (some ⟨g5, 0, none⟩) (i + 1) cap5)) := Kp.set (S := fun k => k = b) (Kp.refl _ w5) (.inl rfl) _
        have hkb6 := hkb5.set 4 (.slice (some ⟨g5, 0, none⟩) (i + 1) cap5)
        have hon6 := own_kp hon5 hk6 (fun g hg e => by have h9 := (World.ownsRow.lt hon5 g hg).1; omega)
        have hop6 := hop5.kp hk6 (fun g hg e => by
          obtain ⟨xs, hx⟩ := hop5.own
          have h9 := (World.ownsRow.lt hx g hg).1
          omega) (fun u n' xs hu g hg e => by have h9 := (World.ownsRow.lt hu g hg).1; omega)
        have hb6 : Below b wr (w5.setCell ⟨b, 4, none⟩ (.slice (some ⟨g5, 0, none⟩) (i + 1) cap5)) := (hb3.trans hb5).setCell (p := ⟨b, 4, none⟩) (Nat.le_refl b) _
        have d4 := hkby.cell 4
        have d4' := hkb5.cell 4
        have e4' := hkb5.free 4
        have d4a := (hkby.alloc (.cells #[.int .i64 (i : Int), .slice (some ⟨ry, 0, none⟩) 2 2] 35)).cell 4
        simp only [List.set_cons_zero, List.set_cons_succ, List.getElem?_cons_zero, List.getElem?_cons_succ] at d4 d4' d4a
        have hrun6 : (Builtin.append_ #[26, 26] 26 #[.slice gp i cp, .slice (some ⟨wy.heap.size, 0, none⟩) 1 1]).run Try.prog (wy.alloc (.cells #[.int .i64 (i : Int), .slice (some ⟨ry, 0, none⟩) 2 2] 35)) = .ok (.slice (some ⟨g5, 0, none⟩) (i + 1) cap5) w5 := hrun5
        have Hrun6 := hid hrun6
        have Hon6 := hid hon6
        have Hop6 := hid hop6
        have hchp : Facts.chainP N i = ((i : Int), [(i : Int) + 1, (i : Int) + 1]) := by unfold Facts.chainP; rw [if_neg (by omega)]
        have Hchp := hid hchp
        clear hrun5 hrun6 hopy hony hop5 hon5 hon6 hop6 hcp hchp hrown
        go_wp2_with (at_builtin; refine wpList_append_run rfl _ _ _ rfl (.slice gp i cp) (.slice (some ⟨wy.heap.size, 0, none⟩) 1 1) (.slice (some ⟨g5, 0, none⟩) (i + 1) cap5) w5 (by rfl) (by rfl) (by exact Hrun6.out) ?_)
        go_roundg (N + 1 - (i + 1))
        case measure => have hk := Hk.out; omega
        case rel =>
          exact ⟨i + 1, _, _, cap2, cap5, by go_num, by omega, hkb6, by have h9 := Hon6.out; rw [chN_succ, ← Hs.out]; rw [List.length_append, show (chN N i).length = i by simp [chN]] at h9; exact h9, by rw [chP_succ, Hchp.out]; exact Hop6.out, hrt.below hb6, rfl, hb.trans (hb6.mono (by omega))⟩
    · have hge : ¬ (i : Int) ≤ (N : Int) := by omega
      have hiN : i = N + 1 := by omega
      subst hiN
      have hcn : (chN N (N + 1)).length = N + 1 := by simp [chN]
      obtain ⟨ga, ca, hva, hra⟩ := own_rowS hon
      simp only [Value.slice.injEq] at hva
      obtain ⟨rfl, -, rfl⟩ := hva
      obtain ⟨gb, cb, hvb, hrb⟩ := hop.rows
      simp only [Value.slice.injEq] at hvb
      obtain ⟨rfl, -, rfl⟩ := hvb
      have hin : GIn wr (Facts.chainG N) gn gt gp := by
        refine ⟨hra, hrt.mono (by omega), hrb, ?_, by simp [Facts.chainG], ?_, fun x hx => ?_⟩
        · simp [Facts.chainG]; omega
        · simp [Facts.chainG]; omega
        · obtain ⟨j, _, rfl⟩ := Facts.chain_mem hx
          unfold Facts.chainP
          by_cases hj : j = N
          · simp [hj]
          · simp [hj]
      have hsd : Pl.soundB (Facts.chainG N) = true := by rw [HN.out]; exact Facts.chain_sound m hm
      have hcall : Calls Try.prog 28 #[.agg #[.int .i64 0, .int .i64 0, .slice gn (N + 1) cn, .slice gt 1 1, .slice gp (N + 1) cp]] wr fun e w' => ∃ g cap, e = .returned (.slice (some ⟨g, 0, none⟩) (N + 1) cap) ∧ Bk w' g 3 ((Facts.chainK N).map (Value.int .i64)) ∧ Below wr.heap.size wr w' := by
        have h := short_yes wr (Facts.chainG N) gn gt gp cn 1 cp hin hsd
        have e1 : (Facts.chainG N).names.length = N + 1 := by simp [Facts.chainG]
        have e2 : (Facts.chainG N).prods.length = N + 1 := by simp [Facts.chainG]
        have e3 : (Facts.chainG N).terms.length = 1 := rfl
        rw [e1, e2, e3] at h
        refine h.mono fun e w' ⟨g, cap, ks, he, _, hk, hs, hf, hb⟩ => ?_
        rw [e1] at he hs
        rw [hs.same (Facts.chain_sho N) hf (Facts.chain_fix N)] at hk
        exact ⟨g, cap, he, hk, hb⟩
      have Hcall := hid hcall
      have c0 := hkb.cell 0
      have c1 := hkb.cell 1
      have c2 := hkb.cell 2
      have c3 := hkb.cell 3
      have c4 := hkb.cell 4
      simp only [List.getElem?_cons_zero, List.getElem?_cons_succ] at c0 c1 c2 c3 c4
      clear hcall hcn hin hsd hon hop hra hrb hrt
      go_upto_region 14 with (go_at_call 28; refine (Hid.out Hcall).mono ?_; rintro e w6 ⟨g6, cap6, rfl, hk6, hb6⟩)
      have hlenK : (Facts.chainK N).length = N + 1 := by simp [Facts.chainK]
      have k0 := hk6.cell 0
      have kN := hk6.cell N
      have hKN : (Facts.chainK N)[N]? = some 1 := by simp [Facts.chainK]; omega
      have hK0 : (Facts.chainK N)[0]? = some (min (2 ^ N : Int) 1099511627776) := by simp [Facts.chainK]
      simp only [List.getElem?_map, hKN, hK0, Option.map_some] at k0 kN
      have hNN : (N : Int) < (N : Int) + 1 := by omega
      have hN00 : (0 : Int) ≤ (N : Int) := by omega
      clear hKN hK0 c0 c1 c2 c3 c4
      have hbw6 := hb.trans (hb6.mono hb.size)
      rcases Nat.lt_or_ge 40 N with h40 | h40
      · obtain ⟨hw, he⟩ := long_hi N h40 hN1
        have He := hid he
        clear he
        go_quiet (fail)
        go_wp2_with fail
        go_ret
        exact ⟨congrArg (fun b => Ending.returned (.bool b)) He.out, below_drewN hbw6 _⟩
      · obtain ⟨hw, he⟩ := long_lo N hN0 h40
        have hw' : ¬ 1099511627776 < wrap64 ((2 : Int) ^ N) := Int.not_lt.2 hw
        have He := hid he
        clear he hw
        go_quiet (fail)
        go_wp2_with fail
        go_ret
        exact ⟨congrArg (fun b => Ending.returned (.bool b)) He.out, below_drewN hbw6 _⟩
end Go.Proofs.Ytbpgolmbielpgaa
