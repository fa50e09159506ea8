/- Chapter 15 (least): LeastGreat: walk. -/
import Derived.Test.YtbpgolmbielpgaaLaw15b
import Derived.Test.YtbpgolmbielpgaaGreatLaw
import Derived.Lib.Bytealg
namespace Go.Proofs.Ytbpgolmbielpgaa
open Go.RowKit
attribute [local go_sem ↓] Go.wp_at_zero Go.wp_at_succ
attribute [local go_sem] frozen_alloc_lt

theorem and31 (n : Int) : ∃ m : Nat, m ≤ 31 ∧ bits .and .i64 n 31 = (m : Int) := by
  have h : (BitVec.ofInt 64 n &&& BitVec.ofInt 64 31).toNat ≤ 31 := by
    rw [BitVec.toNat_and]
    exact Nat.and_le_right
  refine ⟨(BitVec.ofInt 64 n &&& BitVec.ofInt 64 31).toNat, h, ?_⟩
  show IntKind.i64.wrap ((BitVec.ofInt 64 n &&& BitVec.ofInt 64 31).toNat : Int) = _
  rw [IntKind.wrap_i64]
  omega
def grN (n i : Nat) : List ByteArray := (List.range i).map (Facts.chainN n)
def grP (n i : Nat) : List (Int × List Int) := (List.range i).map (Great.prod n)
theorem grN_succ (n i : Nat) : grN n (i + 1) = grN n i ++ [Facts.chainN n i] := by simp [grN, List.range_succ]
theorem grP_succ (n i : Nat) : grP n (i + 1) = grP n i ++ [Great.prod n i] := by simp [grP, List.range_succ]
theorem bk_own' {w : World} {B g n : Nat} {e : TypeId} {xs : List Value} (h : Bk w g e xs) (hB : B ≤ g) (hn : xs.length = n) (hs : n ≤ 9223372036854775807) : w.ownsRow B e 1 (.slice (some ⟨g, 0, none⟩) n n) n xs := by
  subst hn
  exact ⟨by omega, .inr ⟨g, xs.length, xs.toArray, rfl, hB, h, Nat.le_refl _, by unfold maxLen; omega, by simp, by simp⟩⟩

def GreatAt (w0 : World) (b n : Nat) (gt : Option Addr) (k : Nat) (v4 : Value) (w : World) : Prop :=
  ∃ (i : Nat) (gn gp : Option Addr) (cn cp : Nat), v4 = .int .i64 i ∧ i ≤ n ∧ Bk w b 41 [.int .i64 0, .int .i64 n, .slice gn i cn, .slice gt 1 1, .slice gp i cp] ∧
    w.ownsRow (b + 1) 9 1 (.slice gn i cn) i ((grN n i).map Value.string) ∧ PrOwn w (b + 1) 35 3 (.slice gp i cp) (grP n i) ∧ RowS w b gt [⟨#[120]⟩] ∧ k = n - i ∧ Below w0.heap.size w0 w

theorem strInfoG : (Try.prog.info? 9).map (fun i => (i.zero, i.size, i.bytes)) = some (some (.string ⟨#[]⟩), 1, 16) := by kernel_rfl
theorem prodInfoG : (Try.prog.info? 35).map (fun i => (i.zero, i.size, i.bytes)) = some (some (.agg #[.int .i64 0, .slice none 0 0]), 2, 32) := by kernel_rfl

theorem great_tree {w : World} {gn gt gp : Option Addr} {cn cp i : Nat} (h : GIn w (Great.gram i) gn gt gp) (hr : Le.rightB (Great.gram i) [] = true) (hi : 0 < i) :
    ((2 : Int) ^ i - 1 ≤ 65536 → Calls Try.prog 25 #[.agg #[.int .i64 0, .int .i64 i, .slice gn i cn, .slice gt 1 1, .slice gp i cp], .slice none 0 0] w fun e w' => ∃ (p : Int) (kids : Fo) (gk : Option Addr) (ck : Nat), e = .returned (.tuple #[.agg #[.int .i64 p, .slice gk kids.len ck], .int .i64 0]) ∧ FoAt w' (fun k => k < w'.heap.size) gk kids 0 ∧ ((1 + kids.nodes : Nat) : Int) = (2 : Int) ^ i - 1 ∧ kids.deep + 1 = i ∧ Below w.heap.size w w') ∧
    (65536 < (2 : Int) ^ i - 1 → Calls Try.prog 25 #[.agg #[.int .i64 0, .int .i64 i, .slice gn i cn, .slice gt 1 1, .slice gp i cp], .slice none 0 0] w fun e w' => ∃ (p : Int) (gk : Option Addr) (ck : Nat), e = .returned (.tuple #[.agg #[.int .i64 p, .slice gk 0 ck], .int .i64 6]) ∧ Below w.heap.size w w') := by
  have hn : (Great.gram i).names.length = i := by simp [Great.gram]
  have hp : (Great.gram i).prods.length = i := by simp [Great.gram]
  have hc := ltree_calls w (Great.gram i) gn gt gp cn 1 cp h none 0 [] (fun j hj => by simp at hj) (by simp)
  unfold gramV at hc
  rw [hn, hp] at hc
  have hy0 : ∀ v, Le.Least (Great.gram i).prods [] (Great.gram i).start v → v = min ((2 : Int) ^ i - 1) 1099511627776 := fun v hv => Great.least hi hv
  refine ⟨fun hlt => hc.mono ?_, fun hlt => hc.mono ?_⟩
  all_goals
    rintro e w' ⟨p, kids, gk, ck, er, rfl, hat, -, hy, hb⟩
    obtain ⟨v, hv, hs⟩ := hy hr
    have hv2 := hy0 v hv
    have h2 : 0 < (2 : Int) ^ i := Int.pow_pos (by omega)
    rcases hs with ⟨h3, _⟩ | ⟨h3, rfl, rfl⟩ | ⟨h3, h4, rfl, h5⟩
  · omega
  · omega
  · obtain ⟨h6, h7⟩ := Great.tree hi h5
    exact ⟨p, kids, gk, ck, rfl, hat.mono fun k hk => hk.2, by omega, h6, hb⟩
  · omega
  · exact ⟨p, gk, ck, rfl, hb⟩
  · omega
theorem great_nodes {w : World} {gn gt gp : Option Addr} {cn cp i : Nat} (h : GIn w (Great.gram i) gn gt gp) (hr : Le.rightB (Great.gram i) [] = true) (hi : 0 < i) :
    Calls Try.prog 26 #[.agg #[.int .i64 0, .int .i64 i, .slice gn i cn, .slice gt 1 1, .slice gp i cp], .slice none 0 0] w fun e w' => e = .returned (.int .i64 (min ((2 : Int) ^ i - 1) 1099511627776)) ∧ Below w.heap.size w w' := by
  have hn : (Great.gram i).names.length = i := by simp [Great.gram]
  have hp : (Great.gram i).prods.length = i := by simp [Great.gram]
  have hc := nodes_calls w (Great.gram i) gn gt gp cn 1 cp h none 0 [] (fun j hj => by simp at hj) (by simp)
  unfold gramV at hc
  rw [hn, hp] at hc
  refine hc.mono ?_
  rintro e w' ⟨v, rfl, -, hy, hb⟩
  have h0 : v = min ((2 : Int) ^ i - 1) 1099511627776 := Great.least hi (hy hr)
  exact ⟨by rw [h0], hb⟩

set_option maxHeartbeats 8000000 in
set_option maxRecDepth 8000 in
theorem great_calls (n : Int) (w : World) : Calls Try.prog 8 #[.int .i64 n] w fun e w' => e = .returned (.bool true) ∧ Below w.heap.size w w' := by
  obtain ⟨m, hm, hand⟩ := and31 n
  obtain ⟨is, his, s0, s1, s2⟩ := info_parts strInfoG
  obtain ⟨ip, hip, p0, p1, p2⟩ := info_parts prodInfoG
  have hm0 : (0 : Int) ≤ (m : Int) := by omega
  have hm1 : (m : Int) ≤ 31 := by omega
  go_enter Try.func8, Try.ntmps8
  go_upto_region 4 with (go_at_call 23; refine (speaks15_calls _).mono ?_; rintro e w1 ⟨rfl, hb1⟩)
  obtain ⟨N, hN⟩ : ∃ N : Nat, N = 10 + m := ⟨_, rfl⟩
  have hNm : (10 : Int) + (m : Int) = (N : Int) := by omega
  have HN := hid hN
  have hN1 : N ≤ 41 := by omega
  have hN0 : 10 ≤ N := by omega
  rw [hNm]
  clear hN hNm hand
  go_wp2_with fail
  have hk0 := (Bk.new w1 9 [.string ⟨#[120]⟩]).alloc (.cells #[.int .i64 0, .int .i64 N, .slice none 0 0, .slice (some ⟨w1.heap.size, 0, none⟩) 1 1, .slice none 0 0] 41)
  have hk1 := bk_at (Bk.new (w1.alloc (.cells #[.string ⟨#[120]⟩] 9)) 41 [.int .i64 0, .int .i64 N, .slice none 0 0, .slice (some ⟨w1.heap.size, 0, none⟩) 1 1, .slice none 0 0]) (b' := w1.heap.size + 1) (by simp)
  have hb2 : Below w.heap.size w ((w1.alloc (.cells #[.string ⟨#[120]⟩] 9)).alloc (.cells #[.int .i64 0, .int .i64 N, .slice none 0 0, .slice (some ⟨w1.heap.size, 0, none⟩) 1 1, .slice none 0 0] 41)) := (hb1.alloc hb1.size _).alloc (by have := hb1.size; simp; omega) _
  obtain ⟨wd, hwd⟩ : ∃ wd, wd = ((w1.alloc (.cells #[.string ⟨#[120]⟩] 9)).alloc (.cells #[.int .i64 0, .int .i64 N, .slice none 0 0, .slice (some ⟨w1.heap.size, 0, none⟩) 1 1, .slice none 0 0] 41)) := ⟨_, rfl⟩
  obtain ⟨b, hbe⟩ : ∃ b, b = w1.heap.size + 1 := ⟨_, rfl⟩
  have hrt : RowS wd b (some ⟨w1.heap.size, 0, none⟩) [⟨#[120]⟩] := by
    refine RowS.intro fun i x hx => ⟨_, 0, rfl, by omega, ?_⟩
    match i, hx with
    | 0, hx =>
      cases hx
      rw [hwd]
      exact hk0.cell 0
  rw [← hwd, ← hbe] at hk1
  rw [← hwd] at hb2
  rw [← hwd, ← hbe]
  obtain ⟨gt, hgt⟩ : ∃ gt : Option Addr, gt = some ⟨w1.heap.size, 0, none⟩ := ⟨_, rfl⟩
  rw [← hgt] at hrt hk1 ⊢
  have hwb : w.heap.size ≤ b := by have := hb1.size; omega
  clear hwd hbe hgt hk0 hb1
  go_loopg [4] N (fun k v4 wr => GreatAt w b N gt k v4 wr)
  case atStart => exact ⟨0, none, none, 0, 0, rfl, by omega, hk1, World.ownsRow_nil _ _ _ _, PrOwn.nil _ _ _ _, hrt, rfl, hb2⟩
  case round =>
    clear hk1 hrt hb2
    obtain ⟨i, gn, gp, cn, cp, rfl, hi, hkb, hon, hop, hrt, hk, hb⟩ := hrel
    have Hk := hid hk
    clear hk
    have hlb := hkb.lt
    by_cases hlt : i < N
    · have hlt' : (i : Int) < (N : Int) := by omega
      have hi43 : (i : Int) ≤ 43 := by omega
      have hi0 : (0 : Int) ≤ (i : Int) := by omega
      have c2 := hkb.cell 2
      have c4 := hkb.cell 4
      have f2 := hkb.free 2
      have f4 := hkb.free 4
      simp only [List.getElem?_cons_zero, List.getElem?_cons_succ] at c2 c4
      obtain ⟨s, hs⟩ : ∃ s, s = Facts.chainN N i := ⟨_, rfl⟩
      have hx1 : ((UInt8.ofNat (65 + i % 26)).toNat : Int) = 65 + (i : Int) % 26 := by
        rw [UInt8.toNat_ofNat_of_lt' (by show 65 + i % 26 < 256; omega)]
        omega
      have hx2 : ((UInt8.ofNat (97 + i / 26)).toNat : Int) = 97 + (i : Int) / 26 := by
        rw [UInt8.toNat_ofNat_of_lt' (by show 97 + i / 26 < 256; omega)]
        omega
      have hcv : (convert 50 9 (.slice (some ⟨wr.heap.size, 0, none⟩) 2 2)).run Try.prog (wr.alloc (.cells #[.int .u8 (65 + (i : Int) % 26), .int .u8 (97 + (i : Int) / 26)] 5)) = .ok (.string s) (wr.alloc (.cells #[.int .u8 (65 + (i : Int) % 26), .int .u8 (97 + (i : Int) / 26)] 5)) := by
        have h := run_convert_bytes_back (P := Try.prog) (wr.alloc (.cells #[.int .u8 (65 + (i : Int) % 26), .int .u8 (97 + (i : Int) / 26)] 5)) 50 9 _ ⟨wr.heap.size, 0, none⟩ 2 [UInt8.ofNat (65 + i % 26), UInt8.ofNat (97 + i / 26)] Try.underlying50 Try.underlying5 Try.underlying9 (fun j hj => by
          have hbk := Bk.new wr 5 [.int .u8 (65 + (i : Int) % 26), .int .u8 (97 + (i : Int) / 26)]
          rw [add_off0 _ rfl]
          simp only [Nat.zero_add]
          match j, hj with
          | 0, _ => rw [hbk.cell 0]; simp only [List.getElem?_cons_zero, List.getElem_cons_zero, hx1]
          | 1, _ => rw [hbk.cell 1]; simp only [List.getElem?_cons_zero, List.getElem?_cons_succ, List.getElem_cons_zero, List.getElem_cons_succ, hx2])
        rw [hs]
        exact h
      obtain ⟨wa, hwa⟩ : ∃ wa, wa = wr.alloc (.cells #[.int .u8 (65 + (i : Int) % 26), .int .u8 (97 + (i : Int) / 26)] 5) := ⟨_, rfl⟩
      have hka : Kp (fun _ => False) wr wa := by rw [hwa]; exact (Kp.refl _ wr).alloc _
      have hsz : wa.heap.size = wr.heap.size + 1 := by rw [hwa]; simp
      have Hs := hid hs
      have hcl : (grN N i).length = i := by simp [grN]
      have hona : wa.ownsRow (b + 1) 9 1 (.slice gn i cn) (grN N i).length ((grN N i).map Value.string) := by rw [hcl]; exact own_kp hon hka (fun _ _ h => h)
      obtain ⟨g2, cap2, w2, hrun, hon2, hk2, hg2, hl2⟩ := str_app (P := Try.prog) hona 39 39 is Try.underlying39 his s0 s1 s2 (by omega) (by rw [hcl]; omega) s 0
      rw [hcl] at hrun hon2
      have hvn : ∀ g, (Value.slice gn i cn).ownBlock = some g → b + 1 ≤ g := fun g hg => (World.ownsRow.lt hon g hg).1
      have hvb : ¬ (Value.slice gn i cn).ownBlock = some b := fun e => by have := hvn b e; omega
      have hkb2 := (hkb.kp hka (fun h => h)).kp hk2 hvb
      have hb2 : Below b wr w2 := (hka.to_below (B := b) (by omega) (fun k hk => hk.elim)).trans (hk2.to_below (B := b) (by omega) (fun k e => by have := hvn k e; omega))
      have hop2 : PrOwn w2 (b + 1) 35 3 (.slice gp i cp) (grP N i) := by
        refine (hop.kp hka (fun _ _ h => h) (fun _ _ _ _ _ _ h => h)).kp hk2 (fun g hg e => ?_) (fun u n' xs hu g hg e => ?_)
        · obtain ⟨xs, hx⟩ := (hop.kp hka (fun _ _ h => h) (fun _ _ _ _ _ _ h => h)).own
          exact own_apart hx hona (by decide) hg e
        · exact own_apart hu hona (by decide) hg e
      have hb3 := hb2.setCell (p := ⟨b, 2, none⟩) (Nat.le_refl b) (.slice (some ⟨g2, 0, none⟩) (i + 1) cap2)
      have hk3 : Kp (fun k => k = b) w2 (w2.setCell ⟨b, 2, none⟩ (.slice (some ⟨g2, 0, none⟩) (i + 1) cap2)) := Kp.set (S := fun k => k = b) (Kp.refl _ w2) (.inl rfl) _
      have hkb3 := hkb2.set 2 (.slice (some ⟨g2, 0, none⟩) (i + 1) cap2)
      have hon3 := own_kp hon2 hk3 (fun g hg e => by have h9 := (World.ownsRow.lt hon2 g hg).1; omega)
      have hop3 := hop2.kp hk3 (fun g hg e => by
        obtain ⟨xs, hx⟩ := hop2.own
        have := (hx.lt g hg).1
        omega) (fun u n' xs hu g hg e => by have := (hu.lt g hg).1; omega)
      have c2' := hkb2.cell 2
      have f2' := hkb2.free 2
      simp only [List.getElem?_cons_zero, List.getElem?_cons_succ] at c2'
      have Hon3 := hid hon3
      have Hop3 := hid hop3
      have Hhs := hid hsz
      have Hwa := hid hwa
      clear hwa
      have hrun2 : (Builtin.append_ #[39, 39] 39 #[.slice gn i cn, .slice (some ⟨wr.heap.size + 1, 0, none⟩) 1 1]).run Try.prog (wa.alloc (.cells #[.string s] 9)) = .ok (.slice (some ⟨g2, 0, none⟩) (i + 1) cap2) w2 := by rw [← hsz]; exact hrun
      have Hrun := hid hrun2
      clear hs hx1 hx2 hon hop hona hon2 hop2 hon3 hop3 hsz hrun hrun2
      go_upto_region 9 with (at_builtin; rw [← Hwa.out]; refine wpList_append_run rfl _ _ _ rfl (.slice gn i cn) (.slice (some ⟨wr.heap.size + 1, 0, none⟩) 1 1) (.slice (some ⟨g2, 0, none⟩) (i + 1) cap2) w2 (by rfl) (by rfl) (by exact Hrun.out) ?_)
      have hsz2 : b + 1 ≤ (w2.setCell ⟨b, 2, none⟩ (.slice (some ⟨g2, 0, none⟩) (i + 1) cap2)).heap.size := by have := hkb3.lt; omega
      obtain ⟨wz, hwz⟩ : ∃ wz, wz = w2.setCell ⟨b, 2, none⟩ (.slice (some ⟨g2, 0, none⟩) (i + 1) cap2) := ⟨_, rfl⟩
      have hon3 := Hon3.out
      have hop3 := Hop3.out
      rw [← hwz] at hb3 hk3 hkb3 hon3 hop3 hsz2
      rw [← hwz]
      clear hwz Hon3 Hop3 hk3 c2 c4 f2 f4 c2' f2' hcv hkb hkb2 hb2 hk2 Hrun
      by_cases hiN : i + 1 = N
      · have hiN2 : ((i : Int) == (N : Int) - 1) = true := by simp; omega
        have HiN := hid hiN
        clear hiN
        go_upto_region 12 with fail
        obtain ⟨wy, hwy⟩ : ∃ wy, wy = (wz.alloc (.cells #[.int .i64 ((i : Int) + 1), .int .i64 ((i : Int) + 1)] 3)) := ⟨_, rfl⟩
        have hky : Kp (fun _ => False) wz wy := by rw [hwy]; exact (Kp.refl _ wz).alloc _
        rw [← hwy]
        clear hwy
        have hrown : wy.ownsRow (b + 1) 3 1 (.slice none 0 0) ([] : List Int).length (([] : List Int).map (Value.int .i64)) := World.ownsRow_nil _ _ _ _
        have hcp : (grP N i).length = i := by simp [grP]
        have hopy := hop3.kp hky (fun _ _ h => h) (fun _ _ _ _ _ _ h => h)
        have hony := own_kp hon3 hky (fun _ _ h => h)
        have hkby := hkb3.kp hky (fun h => h)
        have hsy : b + 1 ≤ wy.heap.size := by have := hky.size; omega
        obtain ⟨g5, cap5, w5, hrun5, hop5, hk5, hg5, hl5⟩ := hopy.app (P := Try.prog) 26 26 ip Try.underlying26 hip p0 p1 p2 (by decide) hsy (by rw [hcp]; omega) ((i : Int), []) (.slice none 0 0) hrown 0
        rw [hcp] at hrun5 hop5
        have hpn : ∀ g, (Value.slice gp i cp).ownBlock = some g → b + 1 ≤ g := fun g hg => by
          obtain ⟨xs, hx⟩ := hopy.own
          exact (World.ownsRow.lt hx g hg).1
        have hpb : ¬ (Value.slice gp i cp).ownBlock = some b := fun e => by have := hpn b e; omega
        have hkb5 := hkby.kp hk5 hpb
        have hon5 := own_kp hony hk5 (fun g hg e => by
          obtain ⟨xs, hx⟩ := hopy.own
          exact own_apart hony hx (by decide) hg e)
        have hb5 : Below b wz w5 := (hky.to_below (B := b) (by omega) (fun k hk => hk.elim)).trans (hk5.to_below (B := b) (by omega) (fun k e => by have := hpn k e; omega))
        have hk6 : Kp (fun k => k = b) w5 (w5.setCell ⟨b, 4, none⟩ (.slice (some ⟨g5, 0, none⟩) (i + 1) cap5)) := Kp.set (S := fun k => k = b) (Kp.refl _ w5) (.inl rfl) _
        have hkb6 := hkb5.set 4 (.slice (some ⟨g5, 0, none⟩) (i + 1) cap5)
        have hon6 := own_kp hon5 hk6 (fun g hg e => by have h9 := (World.ownsRow.lt hon5 g hg).1; omega)
        have hop6 := hop5.kp hk6 (fun g hg e => by
          obtain ⟨xs, hx⟩ := hop5.own
          have h9 := (World.ownsRow.lt hx g hg).1
          omega) (fun u n' xs hu g hg e => by have h9 := (World.ownsRow.lt hu g hg).1; omega)
        have hb6 : Below b wr (w5.setCell ⟨b, 4, none⟩ (.slice (some ⟨g5, 0, none⟩) (i + 1) cap5)) := (hb3.trans hb5).setCell (p := ⟨b, 4, none⟩) (Nat.le_refl b) _
        have d4 := hkby.cell 4
        have d4' := hkb5.cell 4
        have e4' := hkb5.free 4
        have d4a := (hkby.alloc (.cells #[.int .i64 (i : Int), .slice none 0 0] 35)).cell 4
        simp only [List.set_cons_zero, List.set_cons_succ, List.getElem?_cons_zero, List.getElem?_cons_succ] at d4 d4' d4a
        have hrun6 : (Builtin.append_ #[26, 26] 26 #[.slice gp i cp, .slice (some ⟨wy.heap.size, 0, none⟩) 1 1]).run Try.prog (wy.alloc (.cells #[.int .i64 (i : Int), .slice none 0 0] 35)) = .ok (.slice (some ⟨g5, 0, none⟩) (i + 1) cap5) w5 := hrun5
        have Hrun6 := hid hrun6
        have Hon6 := hid hon6
        have Hop6 := hid hop6
        have hchp : Great.prod N i = ((i : Int), []) := by unfold Great.prod; rw [if_pos HiN.out]
        have Hchp := hid hchp
        clear hrun5 hrun6 hopy hony hop5 hon5 hon6 hop6 hcp hchp hrown
        go_wp2_with (at_builtin; refine wpList_append_run rfl _ _ _ rfl (.slice gp i cp) (.slice (some ⟨wy.heap.size, 0, none⟩) 1 1) (.slice (some ⟨g5, 0, none⟩) (i + 1) cap5) w5 (by rfl) (by rfl) (by exact Hrun6.out) ?_)
        go_roundg (N - (i + 1))
        case measure => have hk := Hk.out; omega
        case rel =>
          exact ⟨i + 1, _, _, cap2, cap5, by go_num, by omega, hkb6, by have h9 := Hon6.out; rw [grN_succ, ← Hs.out]; rw [List.length_append, show (grN N i).length = i by simp [grN]] at h9; exact h9, by rw [grP_succ, Hchp.out]; exact Hop6.out, hrt.below hb6, rfl, hb.trans (hb6.mono (by omega))⟩
      · have hiN2 : ((i : Int) == (N : Int) - 1) = false := by simp; omega
        go_upto_region 12 with fail
        obtain ⟨wy, hwy⟩ : ∃ wy, wy = (wz.alloc (.cells #[.int .i64 ((i : Int) + 1), .int .i64 ((i : Int) + 1)] 3)) := ⟨_, rfl⟩
        obtain ⟨ry, hry⟩ : ∃ ry, ry = wz.heap.size := ⟨_, rfl⟩
        have hky : Kp (fun _ => False) wz wy := by rw [hwy]; exact (Kp.refl _ wz).alloc _
        have hrb : Bk wy ry 3 ([(i : Int) + 1, (i : Int) + 1].map (Value.int .i64)) := by rw [hwy, hry]; exact Bk.new wz 3 [.int .i64 ((i : Int) + 1), .int .i64 ((i : Int) + 1)]
        rw [← hwy, ← hry]
        have hrb1 : b + 1 ≤ ry := by omega
        clear hwy hry
        have hrown : wy.ownsRow (b + 1) 3 1 (.slice (some ⟨ry, 0, none⟩) 2 2) ([(i : Int) + 1, (i : Int) + 1] : List Int).length (([(i : Int) + 1, (i : Int) + 1] : List Int).map (Value.int .i64)) := bk_own' hrb hrb1 rfl (by decide)
        have hcp : (grP N i).length = i := by simp [grP]
        have hopy := hop3.kp hky (fun _ _ h => h) (fun _ _ _ _ _ _ h => h)
        have hony := own_kp hon3 hky (fun _ _ h => h)
        have hkby := hkb3.kp hky (fun h => h)
        have hsy : b + 1 ≤ wy.heap.size := by have := hky.size; omega
        obtain ⟨g5, cap5, w5, hrun5, hop5, hk5, hg5, hl5⟩ := hopy.app (P := Try.prog) 26 26 ip Try.underlying26 hip p0 p1 p2 (by decide) hsy (by rw [hcp]; omega) ((i : Int), [(i : Int) + 1, (i : Int) + 1]) (.slice (some ⟨ry, 0, none⟩) 2 2) hrown 0
        rw [hcp] at hrun5 hop5
        have hpn : ∀ g, (Value.slice gp i cp).ownBlock = some g → b + 1 ≤ g := fun g hg => by
          obtain ⟨xs, hx⟩ := hopy.own
          exact (World.ownsRow.lt hx g hg).1
        have hpb : ¬ (Value.slice gp i cp).ownBlock = some b := fun e => by have := hpn b e; omega
        have hkb5 := hkby.kp hk5 hpb
        have hon5 := own_kp hony hk5 (fun g hg e => by
          obtain ⟨xs, hx⟩ := hopy.own
          exact own_apart hony hx (by decide) hg e)
        have hb5 : Below b wz w5 := (hky.to_below (B := b) (by omega) (fun k hk => hk.elim)).trans (hk5.to_below (B := b) (by omega) (fun k e => by have := hpn k e; omega))
        have hk6 : Kp (fun k => k = b) w5 (w5.setCell ⟨b, 4, none⟩ (.slice (some ⟨g5, 0, none⟩) (i + 1) cap5)) := Kp.set (S := fun k => k = b) (Kp.refl _ w5) (.inl rfl) _
        have hkb6 := hkb5.set 4 (.slice (some ⟨g5, 0, none⟩) (i + 1) cap5)
        have hon6 := own_kp hon5 hk6 (fun g hg e => by have h9 := (World.ownsRow.lt hon5 g hg).1; omega)
        have hop6 := hop5.kp hk6 (fun g hg e => by
          obtain ⟨xs, hx⟩ := hop5.own
          have h9 := (World.ownsRow.lt hx g hg).1
          omega) (fun u n' xs hu g hg e => by have h9 := (World.ownsRow.lt hu g hg).1; omega)
        have hb6 : Below b wr (w5.setCell ⟨b, 4, none⟩ (.slice (some ⟨g5, 0, none⟩) (i + 1) cap5)) := (hb3.trans hb5).setCell (p := ⟨b, 4, none⟩) (Nat.le_refl b) _
        have d4 := hkby.cell 4
        have d4' := hkb5.cell 4
        have e4' := hkb5.free 4
        have d4a := (hkby.alloc (.cells #[.int .i64 (i : Int), .slice (some ⟨ry, 0, none⟩) 2 2] 35)).cell 4
        simp only [List.set_cons_zero, List.set_cons_succ, List.getElem?_cons_zero, List.getElem?_cons_succ] at d4 d4' d4a
        have hrun6 : (Builtin.append_ #[26, 26] 26 #[.slice gp i cp, .slice (some ⟨wy.heap.size, 0, none⟩) 1 1]).run Try.prog (wy.alloc (.cells #[.int .i64 (i : Int), .slice (some ⟨ry, 0, none⟩) 2 2] 35)) = .ok (.slice (some ⟨g5, 0, none⟩) (i + 1) cap5) w5 := hrun5
        have Hrun6 := hid hrun6
        have Hon6 := hid hon6
        have Hop6 := hid hop6
        have hchp : Great.prod N i = ((i : Int), [(i : Int) + 1, (i : Int) + 1]) := by unfold Great.prod; rw [if_neg (by omega)]
        have Hchp := hid hchp
        clear hrun5 hrun6 hopy hony hop5 hon5 hon6 hop6 hcp hchp hrown
        go_wp2_with (at_builtin; refine wpList_append_run rfl _ _ _ rfl (.slice gp i cp) (.slice (some ⟨wy.heap.size, 0, none⟩) 1 1) (.slice (some ⟨g5, 0, none⟩) (i + 1) cap5) w5 (by rfl) (by rfl) (by exact Hrun6.out) ?_)
        go_roundg (N - (i + 1))
        case measure => have hk := Hk.out; omega
        case rel =>
          exact ⟨i + 1, _, _, cap2, cap5, by go_num, by omega, hkb6, by have h9 := Hon6.out; rw [grN_succ, ← Hs.out]; rw [List.length_append, show (grN N i).length = i by simp [grN]] at h9; exact h9, by rw [grP_succ, Hchp.out]; exact Hop6.out, hrt.below hb6, rfl, hb.trans (hb6.mono (by omega))⟩
    · have hge : ¬ (i : Int) < (N : Int) := by omega
      have hiN : i = N := by omega
      subst hiN
      obtain ⟨ga, ca, hva, hra⟩ := own_rowS hon
      simp only [Value.slice.injEq] at hva
      obtain ⟨rfl, -, rfl⟩ := hva
      obtain ⟨gb, cb, hvb, hrb⟩ := hop.rows
      simp only [Value.slice.injEq] at hvb
      obtain ⟨rfl, -, rfl⟩ := hvb
      have hin : GIn wr (Great.gram i) gn gt gp := by
        refine ⟨hra, hrt.mono (by omega), hrb, ?_, by simp [Great.gram], ?_, fun x hx => ?_⟩
        · simp [Great.gram]; omega
        · simp [Great.gram]; omega
        · unfold Great.gram at hx
          simp only [List.mem_map, List.mem_range] at hx
          obtain ⟨j, _, rfl⟩ := hx
          unfold Great.prod
          by_cases hj : j + 1 = i
          · simp [hj]
          · simp [hj]
      have hri : Le.rightB (Great.gram i) [] = true := by rw [HN.out]; exact Great.right m hm
      have hnum := Great.num i hN1
      have Hbw := hid hb
      have Hkb := hid hkb
      have c0 := hkb.cell 0
      have c1 := hkb.cell 1
      have c2 := hkb.cell 2
      have c3 := hkb.cell 3
      have c4 := hkb.cell 4
      simp only [List.getElem?_cons_zero, List.getElem?_cons_succ] at c0 c1 c2 c3 c4
      have HT := great_tree (cn := cn) (cp := cp) hin hri (by omega)
      have HNo : ∀ w2, Below wr.heap.size wr w2 → _ := fun w2 h2 => great_nodes (cn := cn) (cp := cp) (hin.later h2) hri (by omega)
      go_upto_region 14 with fail
      rw [hnum]
      obtain ⟨V, hV⟩ : ∃ V, V = (2 : Int) ^ i - 1 := ⟨_, rfl⟩
      rw [← hV] at HT HNo ⊢
      have HVT := hid HT
      have HVN := hid HNo
      have hlo := Great.lo i
      have hmid := Great.mid i
      rw [← hV] at hlo hmid
      have hhi : i = 41 → V = 2199023255551 := by rintro rfl; exact hV
      clear HT HNo hin hri hnum hb hkb hV hon hop hra hrb hrt
      have hi42 : i ≤ 16 ∨ (17 ≤ i ∧ i ≤ 40) ∨ i = 41 := by omega
      rcases hi42 with h16 | h40 | h41
      · obtain ⟨v0, v1⟩ := hlo h16
        clear hlo hmid hhi
        go_upto_region 15 with (go_at_call 25; refine (HVT.out.1 (by omega)).mono ?_; rintro e w5 ⟨p5, kids5, gk5, ck5, rfl, hat5, hn5, hd5, hb5⟩; have hk5 := Hkb.out.below hb5 hlb; have d0 := hk5.cell 0; have d1 := hk5.cell 1; have d2 := hk5.cell 2; have d3 := hk5.cell 3; have d4 := hk5.cell 4; simp only [List.getElem?_cons_zero, List.getElem?_cons_succ] at d0 d1 d2 d3 d4; have hlt5 : b < w5.heap.size := hk5.lt; have Hn := hid (HVN.out _ (bel_al hb5 (.cells #[.int .i64 p5, .slice gk5 kids5.len ck5] 45))); have Hb5 := hid (bel0 Hbw.out hb5); have Hat5 := hid hat5; have Hn5 := hid hn5; have Hd5 := hid hd5; clear hk5 hb5 hat5 hn5 hd5)
        have hal : Below w5.heap.size w5 (w5.alloc (.cells #[.int .i64 p5, .slice gk5 kids5.len ck5] 45)) := bel_al (bel_id w5) _
        have hat6 := (Hat5.out.below hal (fun _ h => h)).mono (D' := fun x => x < (w5.alloc (.cells #[.int .i64 p5, .slice gk5 kids5.len ck5] 45)).heap.size) (fun k (hk : k < w5.heap.size) => Nat.lt_of_lt_of_le hk hal.size)
        have Hat6 := hid hat6
        have hm8 : (((1 + kids5.nodes : Nat) : Int) == V) = true := beq_iff_eq.2 Hn5.out
        have hi8 : ((kids5.deep : Int) + 1 == (i : Int)) = true := beq_iff_eq.2 (by have := Hd5.out; omega)
        have hmx : kids5.nodes ≤ 1000000000000 := by have := Hn5.out; omega
        have Hmx := hid hmx
        clear hal hat6 hmx
        go_upto_region 17 with (go_at_call 26; refine Hn.out.mono ?_; rintro e w7 ⟨rfl, hb7⟩; obtain ⟨hc7, hf7⟩ := bcellT hb7; have hz7 := hb7.size; have HX7 := hid (bel0 (bel_al Hb5.out _) hb7); have Hb7 := hid hb7; clear hb7)
        have Hat7 := hid ((Hat6.out.below Hb7.out (fun _ h => h)).mono (D' := fun x => x < w7.heap.size) (fun k hk => Nat.lt_of_lt_of_le hk Hb7.out.size))
        go_wp2_with (go_at_call 35; refine (size_calls _ p5 kids5 w7 gk5 ck5 rfl Hmx.out Hat7.out).mono ?_; rintro e w8 ⟨rfl, hb8⟩; have HX8 := hid (bel0 HX7.out hb8); clear hb8)
        go_ret
        exact ⟨rfl, HX8.out⟩
      · obtain ⟨v0, v1⟩ := hmid h40.1 h40.2
        clear hlo hmid hhi
        go_wp2_with (first
          | (go_at_call 25; refine (HVT.out.2 (by omega)).mono ?_; rintro e w5 ⟨p5, gk5, ck5, rfl, hb5⟩; have hk5 := Hkb.out.below hb5 hlb; have d0 := hk5.cell 0; have d1 := hk5.cell 1; have d2 := hk5.cell 2; have d3 := hk5.cell 3; have d4 := hk5.cell 4; simp only [List.getElem?_cons_zero, List.getElem?_cons_succ] at d0 d1 d2 d3 d4; have hlt5 : b < w5.heap.size := hk5.lt; have Hn := hid (HVN.out _ (bel_al hb5 (.cells #[.int .i64 p5, .slice gk5 0 ck5] 45))); have Hb5 := hid (bel0 Hbw.out hb5); clear hk5 hb5)
          | (go_at_call 26; refine Hn.out.mono ?_; rintro e w7 ⟨rfl, hb7⟩; obtain ⟨hc7, hf7⟩ := bcellT hb7; have hz7 := hb7.size; have HX7 := hid (bel0 (bel_al Hb5.out _) hb7); clear hb7))
        go_ret
        exact ⟨rfl, HX7.out⟩
      · have hv := hhi h41
        clear hlo hmid hhi
        have v0 : 65536 < V := by omega
        have v1 : ¬ V ≤ 1099511627776 := by omega
        clear hv h41
        go_wp2_with (first
          | (go_at_call 25; refine (HVT.out.2 (by omega)).mono ?_; rintro e w5 ⟨p5, gk5, ck5, rfl, hb5⟩; have hk5 := Hkb.out.below hb5 hlb; have d0 := hk5.cell 0; have d1 := hk5.cell 1; have d2 := hk5.cell 2; have d3 := hk5.cell 3; have d4 := hk5.cell 4; simp only [List.getElem?_cons_zero, List.getElem?_cons_succ] at d0 d1 d2 d3 d4; have hlt5 : b < w5.heap.size := hk5.lt; have Hn := hid (HVN.out _ (bel_al hb5 (.cells #[.int .i64 p5, .slice gk5 0 ck5] 45))); have Hb5 := hid (bel0 Hbw.out hb5); clear hk5 hb5)
          | (go_at_call 26; refine Hn.out.mono ?_; rintro e w7 ⟨rfl, hb7⟩; obtain ⟨hc7, hf7⟩ := bcellT hb7; have hz7 := hb7.size; have HX7 := hid (bel0 (bel_al Hb5.out _) hb7); clear hb7))
        go_ret
        exact ⟨rfl, HX7.out⟩
end Go.Proofs.Ytbpgolmbielpgaa
