/- Chapter 4 (lex): ended, escape. -/
import Derived.Test.YtjaampgpihicmaaLexWalk4
import Derived.Lib.Bytealg
import Derived.Laws.BitsAllLaws
import Derived.Laws.BitsLemmas
namespace Go.Proofs.Ytjaampgpihicmaa
open Go.RowKit
attribute [local go_sem ↓] Go.wp_at_zero Go.wp_at_succ
attribute [local go_sem] frozen_alloc_lt

set_option maxHeartbeats 1000000 in
theorem ended_calls (base b : Nat) (w : World) (s : ByteArray) (p li co : Nat) (tv : Value) (f0 f1 f2 : Int) (n : Nat) (xs : List Value) (h : Sc w b s p li co tv f0 f1 f2) (hp : p ≤ s.size)
    (hli : li ≤ p + 1) (hco : co ≤ p + 1) (hown : w.ownsRow base 46 4 tv n xs) (hbase : base ≤ w.heap.size) (hbb : base ≤ b) (hn : n ≤ 70000)
    (k l c : Nat) (out : List UInt8) :
    Calls Try.prog 131 #[.pointer (some ⟨b, 0, none⟩), .agg #[.int .i64 k, .string ⟨#[]⟩, .int .i64 l, .int .i64 c], .string ⟨out.toArray⟩] w fun e w' => TokPost w base b s f0 f1 f2 n xs e w'
      (if out = [] then .bad ⟨l, c, 2⟩ else if 16 < out.length then .bad ⟨l, c, 6⟩ else .good ⟨k, out, l, c⟩ (s.data.toList.drop p) li co) := by
  generalize hres : (if out = [] then Lex.TokRes.bad ⟨l, c, 2⟩ else if 16 < out.length then Lex.TokRes.bad ⟨l, c, 6⟩ else Lex.TokRes.good ⟨k, out, l, c⟩ (s.data.toList.drop p) li co) = res
  have Hres := hid hres
  clear hres
  have hsz : (⟨out.toArray⟩ : ByteArray).size = out.length := by simp [ByteArray.size]
  have htl : (⟨out.toArray⟩ : ByteArray).toList = out := by rw [Lib.toList_data]
  obtain ⟨t, ht⟩ : ∃ t : ByteArray, t = ⟨out.toArray⟩ := ⟨_, rfl⟩
  rw [← ht] at hsz htl ⊢
  have Ht := hid ht
  have Hsz := hid hsz
  have Htl := hid htl
  clear ht hsz htl
  have lb := h.lt
  have lb' : b < w.heap.size + 1 := by omega
  obtain ⟨-, -, -, -, h4, -⟩ := h.cells
  obtain ⟨-, -, -, g4, -⟩ := h.free
  have hm1 := World.new_ne w _ h4
  by_cases he : out = []
  · have e1 : t.toList.isEmpty = true := by rw [Htl.out, he]; rfl
    have e1' : t.toList = [] := by rw [Htl.out, he]
    have Hr : Hid (res = .bad ⟨l, c, 2⟩) := by have hr := Hres.out; rw [if_pos he] at hr; exact hr.symm
    clear he
    go_enter Try.func131, Try.ntmps131
    go_wp2_with (go_at_call 112; refine (fail_calls b _ s p li co tv f0 f1 f2 (Bk.alloc h _) k l c 2 _).mono ?_; rintro e w2 ⟨rfl, hsc, hg2⟩)
    go_ret
    rw [Hr.out]
    exact ⟨rfl, ⟨_, _, _, _, hsc⟩, ((Below.refl _ _).alloc hbase _).trans (below_of_gb' hg2 (by simp; omega) (fun k hk => by cases hk; exact hbb))⟩
  · have e1 : t.toList.isEmpty = false := by rw [Htl.out]; cases out <;> simp_all
    by_cases hL : 16 < out.length
    · have hd : decide ((16 : Int) < (t.size : Int)) = true := by rw [Hsz.out]; simp; omega
      have Hr : Hid (res = .bad ⟨l, c, 6⟩) := by have hr := Hres.out; rw [if_neg he, if_pos hL] at hr; exact hr.symm
      clear he hL
      go_enter Try.func131, Try.ntmps131
      go_wp2_with (go_at_call 112; refine (fail_calls b _ s p li co tv f0 f1 f2 (Bk.alloc h _) k l c 6 _).mono ?_; rintro e w2 ⟨rfl, hsc, hg2⟩)
      go_ret
      rw [Hr.out]
      exact ⟨rfl, ⟨_, _, _, _, hsc⟩, ((Below.refl _ _).alloc hbase _).trans (below_of_gb' hg2 (by simp; omega) (fun k hk => by cases hk; exact hbb))⟩
    · have hd : decide ((16 : Int) < (t.size : Int)) = false := by rw [Hsz.out]; simp; omega
      have Hr : Hid (res = .good ⟨k, out, l, c⟩ (s.data.toList.drop p) li co) := by have hr := Hres.out; rw [if_neg he, if_neg hL] at hr; exact hr.symm
      have hnb2 : tv.ownBlock ≠ some b := Bk.own_ne h hown (by decide)
      have hrow : ∀ k, tv.ownBlock = some k → base ≤ k := fun k e => (hown.lt k e).1
      clear he hL
      obtain ⟨i0, hi0, hz0, hz1, hz2⟩ := info_parts tokInfo
      go_enter Try.func131, Try.ntmps131
      go_wp2
      have hd1 : Sc (w.alloc (.cells #[.int .i64 k, .string t, .int .i64 l, .int .i64 c] 46)) b s p li co tv f0 f1 f2 := Bk.alloc h _
      have hd2 : Bk (w.alloc (.cells #[.int .i64 k, .string t, .int .i64 l, .int .i64 c] 46)) w.heap.size 46 [.int .i64 k, .string t, .int .i64 l, .int .i64 c] := Bk.new _ _ _
      have hd3 := hown.alloc (.cells #[.int .i64 k, .string t, .int .i64 l, .int .i64 c] 46)
      have hd4 : Below base w (w.alloc (.cells #[.int .i64 k, .string t, .int .i64 l, .int .i64 c] 46)) := (Below.refl _ _).alloc hbase _
      obtain ⟨wd, hwd⟩ : ∃ wd, wd = w.alloc (.cells #[.int .i64 k, .string t, .int .i64 l, .int .i64 c] 46) := ⟨_, rfl⟩
      rw [← hwd] at hd1 hd2 hd3 hd4 ⊢
      obtain ⟨bt, hbt⟩ : ∃ bt, bt = w.heap.size := ⟨_, rfl⟩
      rw [← hbt] at hd2 ⊢
      clear hwd hbt h4 g4 hm1 lb lb' h hown
      obtain ⟨-, -, -, -, h4, -⟩ := hd1.cells
      obtain ⟨-, -, -, g4, -⟩ := hd1.free
      have t0 := hd2.cell 0
      have t1 := hd2.cell 1
      have t2 := hd2.cell 2
      have t3 := hd2.cell 3
      have lt0 : bt < wd.heap.size := hd2.lt
      have ltb : b < wd.heap.size := hd1.lt
      have hm1 := World.new_ne wd _ h4
      have hm2 := World.new_ne wd _ t0
      have hbw : base ≤ wd.heap.size := by have := hd4.size; omega
      have hfr : ∀ o, (wd.alloc o).frozen? ⟨b, 4, none⟩ = false := fun o => (frozen_alloc_lt wd o ⟨b, 4, none⟩ ltb).trans g4
      have hfc : ∀ o, (wd.alloc o).cell? ⟨b, 4, none⟩ = some tv := fun o => (World.cell?_alloc_lt wd o ⟨b, 4, none⟩ ltb).trans h4
      go_region_law (first | (refine step_append_lies _ (by rfl) _ _ _ (by rfl) base 46 i0 _ 4 40 Try.underlying42 hi0 hz0 hz1 hz2 rfl (by omega) tv n xs (by rfl) (hd3.alloc _) ⟨wd.heap.size, 0, none⟩ 1 1 [.int .i64 k, .string t, .int .i64 l, .int .i64 c] (by rfl) (by rfl) (World.news_of_block (cs := #[.int .i64 k, .string t, .int .i64 l, .int .i64 c]) (t := 46) (fr := (0, 0)) (heap_alloc_new _ _)) (by simp [Value.oneCell']) (by omega) (by unfold maxLen; omega) (by omega) (by simp; omega) (wd.heap.size + 1) (by simp) ?_; intro gg cap w2 hown3 hgrow hat hlt; have hw2 : w2.cell? ⟨b, 4, none⟩ = some tv := (hgrow.cell_far ⟨b, 4, none⟩ (by simp; omega) (Ne.symm hnb2)).trans (hfc _); have hw3 : w2.frozen? ⟨b, 4, none⟩ = false := (hgrow.frozen_far ⟨b, 4, none⟩ (by simp; omega) (Ne.symm hnb2)).trans (hfr _)))
      all_goals
        go_wp2_with fail
        go_ret
        obtain ⟨e1, e2, e3⟩ := push_close hd1 hd4 hbb hbw hnb2 hrow (((Below.refl _ _).alloc (Nat.le_refl _) _).drew) hgrow hown3
        rw [Hr.out]
        rw [Ht.out] at e2
        exact ⟨rfl, p, .slice (some ⟨gg, 0, none⟩) (n + 1) cap, rfl, hp, hli, hco, e1, e2, e3⟩

/-! ### Hexadecimal digits -/
theorem hex_index : ∀ n : Fin 256, Lib.indexByte Lex.hexes (UInt8.ofNat n.val) = Lex.hexZ n.val := by decide +kernel
theorem hex_index' (c : UInt8) : Lib.indexByte Lex.hexes ((c.toNat : Int).toNat.toUInt8) = Lex.hexv c := by
  have := hex_index ⟨c.toNat, c.toNat_lt⟩
  simpa [Lex.hexv] using this
theorem hexZ_lo (c : Int) : -1 ≤ Lex.hexZ c ∧ Lex.hexZ c ≤ 15 := by unfold Lex.hexZ; repeat' split <;> omega
theorem hexZ_ne (c : UInt8) (h : 0 ≤ Lex.hexv c) : c ≠ 10 := by rintro rfl; revert h; decide

end Go.Proofs.Ytjaampgpihicmaa
/- Chapter 4 (lex): escape. -/
namespace Go.Proofs.Ytjaampgpihicmaa
open Go.RowKit
attribute [local go_sem ↓] Go.wp_at_zero Go.wp_at_succ
attribute [local go_sem] frozen_alloc_lt

namespace Lex
inductive EscRes where
  | bad (col : Nat)
  | good (x : UInt8) (rest : List UInt8) (col : Nat)

/-- Hexadecimal digits, so many as are still to come. -/
def escH : Nat → Int → List UInt8 → Nat → EscRes
  | 0, n, l, co => .good (UInt8.ofNat n.toNat) l co
  | _ + 1, _, [], co => .bad co
  | k + 1, n, c :: r, co => if hexv c < 0 then .bad co else escH k (n * 16 + hexv c) r (co + 1)

/-- What stands behind a backslash. -/
def escS : List UInt8 → Nat → EscRes
  | [], co => .bad co
  | c :: r, co =>
    if c = 92 ∨ c = 39 ∨ c = 34 then .good c r (co + 1)
    else if c = 110 then .good 10 r (co + 1)
    else if c = 116 then .good 9 r (co + 1)
    else if c = 120 then escH 2 0 r (co + 1)
    else .bad co

theorem lit_esc (q : UInt8) (l out : List UInt8) (co : Nat) : litS q .esc l out co = match escS l co with
    | .bad k => .bad k
    | .good x r k => litS q .norm r (out ++ [x]) k := by
  cases l with
  | nil => rfl
  | cons c r =>
    simp only [litS, escS]
    by_cases h1 : c = 92 ∨ c = 39 ∨ c = 34
    · rw [if_pos h1, if_pos h1]
    rw [if_neg h1, if_neg h1]
    by_cases h2 : c = 110
    · rw [if_pos h2, if_pos h2]
    rw [if_neg h2, if_neg h2]
    by_cases h3 : c = 116
    · rw [if_pos h3, if_pos h3]
    rw [if_neg h3, if_neg h3]
    by_cases h4 : c = 120
    · rw [if_pos h4, if_pos h4]
      cases r with
      | nil => rfl
      | cons d r =>
        simp only [litS, escH]
        by_cases h5 : hexv d < 0
        · rw [if_pos h5, if_pos h5]
        rw [if_neg h5, if_neg h5]
        cases r with
        | nil => rfl
        | cons e r =>
          simp only [litS, escH]
          by_cases h6 : hexv e < 0
          · rw [if_pos h6, if_pos h6]
          rw [if_neg h6, if_neg h6]
          simp only []
          congr 4
          omega
    · rw [if_neg h4, if_neg h4]
end Lex

/-- What escape leaves. -/
def EscPost (w0 : World) (b : Nat) (s : ByteArray) (p li : Nat) (tv : Value) (f0 f1 f2 : Int) (e : Ending) (w : World) : Lex.EscRes → Prop
  | .bad k => e = .returned (.tuple #[.int .u8 0, .bool false]) ∧ ∃ q : Nat, q ≤ s.size ∧ p ≤ q ∧ k ≤ q + 1 ∧ Sc w b s q li k tv f0 f1 f2 ∧ w0.grownBy w (some b)
  | .good x rest k => e = .returned (.tuple #[.int .u8 x.toNat, .bool true]) ∧ ∃ q : Nat, rest = s.data.toList.drop q ∧ q ≤ s.size ∧ p ≤ q ∧ k ≤ q + 1 ∧ Sc w b s q li k tv f0 f1 f2 ∧ w0.grownBy w (some b)

theorem or_low (n k : Int) (h0 : 0 ≤ n) (h1 : n ≤ 15) (h2 : 0 ≤ k) (h3 : k ≤ 15) : bits .or .i64 (n * 16) k = n * 16 + k := by
  obtain ⟨a, rfl⟩ := Int.eq_ofNat_of_zero_le h0
  obtain ⟨d, rfl⟩ := Int.eq_ofNat_of_zero_le h2
  have ha : a ≤ 15 := by omega
  have hd : d ≤ 15 := by omega
  clear h0 h1 h2 h3
  have key : ∀ a : Fin 16, ∀ d : Fin 16, bits .or .i64 ((a.val : Int) * 16) (d.val : Int) = (a.val : Int) * 16 + (d.val : Int) := by decide +kernel
  exact key ⟨a, by omega⟩ ⟨d, by omega⟩

theorem quiet_add_left {P : Program} {f : FuncId} {args : Array Value} {w : World} {a n : Nat} {v : Value}
    (h : Calls P f args (w.drewN (a + n)) fun e w' => e = .returned v ∧ w.drewN (a + n) = w') :
    Calls P f args (w.drewN (a + n)) fun e w'' => e = .returned v ∧ ∃ m, w'' = w.drewN (a + m) :=
  h.mono fun _ _ ⟨he, hm⟩ => ⟨he, n, hm.symm⟩

theorem u8_back (n : Int) (h0 : 0 ≤ n) (h1 : n ≤ 255) : ((UInt8.ofNat n.toNat).toNat : Int) = n := by
  rw [UInt8.toNat_ofNat']; omega

theorem idx_hex (c : UInt8) (w : World) :
    Calls Try.prog 111 #[.string ⟨#[48, 49, 50, 51, 52, 53, 54, 55, 56, 57, 97, 98, 99, 100, 101, 102]⟩, .int .u8 c.toNat] w fun e w' => e = .returned (.int .i64 (Lex.hexv c)) ∧ w = w' :=
  (indexByte_calls ⟨#[48, 49, 50, 51, 52, 53, 54, 55, 56, 57, 97, 98, 99, 100, 101, 102]⟩ c.toNat w).mono fun e w' ⟨he, hw⟩ => ⟨by rw [he]; exact congrArg (fun z => Ending.returned (.int .i64 z)) (hex_index' c), hw⟩

/-- Within the digits of an escape. -/
def HexAt (w0 : World) (b : Nat) (s : ByteArray) (p li : Nat) (tv : Value) (f0 f1 f2 : Int) (res : Lex.EscRes) (k : Nat) (v5 v39 : Value) (w : World) : Prop :=
  ∃ (i q : Nat) (n : Int) (co : Nat), v39 = .int .i64 i ∧ v5 = .int .i64 n ∧ i ≤ 2 ∧ k = 2 - i ∧ 0 ≤ n ∧ (i = 0 → n = 0) ∧ (i = 1 → n ≤ 15) ∧ (i = 2 → n ≤ 255) ∧ q ≤ s.size ∧ p ≤ q ∧ co ≤ q + 1 ∧ Sc w b s q li co tv f0 f1 f2 ∧
    Lex.escH (2 - i) n (s.data.toList.drop q) co = res ∧ w0.grownBy w (some b)

set_option maxHeartbeats 2000000 in
theorem escape_calls (b : Nat) (w : World) (s : ByteArray) (p li co : Nat) (tv : Value) (f0 f1 f2 : Int) (h : Sc w b s p li co tv f0 f1 f2) (hp : p ≤ s.size)
    (hs : s.size ≤ 65536) (_hli : li ≤ p + 1) (hco : co ≤ p + 1) :
    Calls Try.prog 132 #[.pointer (some ⟨b, 0, none⟩)] w fun e w' => EscPost w b s p li tv f0 f1 f2 e w' (Lex.escS (s.data.toList.drop p) co) := by
  generalize hres : Lex.escS (s.data.toList.drop p) co = res
  have Hres := hid hres
  clear hres
  by_cases hlt : p < s.size
  · have hlt' : (p : Int) < (s.size : Int) := by omega
    obtain ⟨h0, h1, -⟩ := h.cells
    have hr : res = Lex.escS (s[p] :: s.data.toList.drop (p + 1)) co := by rw [← Hres.out, str_ext hlt]
    have Hr := hid hr
    clear hr Hres
    by_cases c92 : s[p] = 92
    · have hb92 := tob s[p] 92 (by omega) c92
      have Hno := hid (tobf s[p] 10 (by omega) (by rw [c92]; decide))
      have Hr2 : Hid (res = .good 92 (s.data.toList.drop (p + 1)) (co + 1)) := by have hr := Hr.out; rw [c92] at hr; exact hr
      have Hc := hid c92
      clear c92
      go_enter Try.func132, Try.ntmps132
      go_wp2_with (go_at_call 65; refine (more_yes h hlt).mono ?_; rintro e w' ⟨rfl, n1, rfl⟩)
      go_quiet (fail)
      go_wp2_with (go_at_call 108; refine (step_no b _ s p li co tv f0 f1 f2 (h.drewN _) hlt hs (by omega) Hno.out).mono ?_; rintro e w1 ⟨rfl, h', hg'⟩)
      go_ret2
      rw [Hr2.out]
      refine ⟨?_, p + 1, rfl, by omega, by omega, by omega, h', gb_trans (gb_drewN (World.grownBy.refl w _) _) hg'⟩
      first | rfl | (simp [Hc.out])
    have hb92 := tobf s[p] 92 (by omega) c92
    by_cases c39 : s[p] = 39
    · have hb39 := tob s[p] 39 (by omega) c39
      have Hno := hid (tobf s[p] 10 (by omega) (by rw [c39]; decide))
      have Hr2 : Hid (res = .good 39 (s.data.toList.drop (p + 1)) (co + 1)) := by have hr := Hr.out; rw [c39] at hr; exact hr
      have Hc := hid c39
      clear c39
      go_enter Try.func132, Try.ntmps132
      go_wp2_with (go_at_call 65; refine (more_yes h hlt).mono ?_; rintro e w' ⟨rfl, n1, rfl⟩)
      go_quiet (fail)
      go_wp2_with (go_at_call 108; refine (step_no b _ s p li co tv f0 f1 f2 (h.drewN _) hlt hs (by omega) Hno.out).mono ?_; rintro e w1 ⟨rfl, h', hg'⟩)
      go_ret2
      rw [Hr2.out]
      refine ⟨?_, p + 1, rfl, by omega, by omega, by omega, h', gb_trans (gb_drewN (World.grownBy.refl w _) _) hg'⟩
      first | rfl | (simp [Hc.out])
    have hb39 := tobf s[p] 39 (by omega) c39
    by_cases c34 : s[p] = 34
    · have hb34 := tob s[p] 34 (by omega) c34
      have Hno := hid (tobf s[p] 10 (by omega) (by rw [c34]; decide))
      have Hr2 : Hid (res = .good 34 (s.data.toList.drop (p + 1)) (co + 1)) := by have hr := Hr.out; rw [c34] at hr; exact hr
      have Hc := hid c34
      clear c34
      go_enter Try.func132, Try.ntmps132
      go_wp2_with (go_at_call 65; refine (more_yes h hlt).mono ?_; rintro e w' ⟨rfl, n1, rfl⟩)
      go_quiet (fail)
      go_wp2_with (go_at_call 108; refine (step_no b _ s p li co tv f0 f1 f2 (h.drewN _) hlt hs (by omega) Hno.out).mono ?_; rintro e w1 ⟨rfl, h', hg'⟩)
      go_ret2
      rw [Hr2.out]
      refine ⟨?_, p + 1, rfl, by omega, by omega, by omega, h', gb_trans (gb_drewN (World.grownBy.refl w _) _) hg'⟩
      first | rfl | (simp [Hc.out])
    have hb34 := tobf s[p] 34 (by omega) c34
    by_cases c110 : s[p] = 110
    · have hb110 := tob s[p] 110 (by omega) c110
      have Hno := hid (tobf s[p] 10 (by omega) (by rw [c110]; decide))
      have Hr2 : Hid (res = .good 10 (s.data.toList.drop (p + 1)) (co + 1)) := by have hr := Hr.out; rw [c110] at hr; exact hr
      have Hc := hid c110
      clear c110
      go_enter Try.func132, Try.ntmps132
      go_wp2_with (go_at_call 65; refine (more_yes h hlt).mono ?_; rintro e w' ⟨rfl, n1, rfl⟩)
      go_quiet (fail)
      go_wp2_with (go_at_call 108; refine (step_no b _ s p li co tv f0 f1 f2 (h.drewN _) hlt hs (by omega) Hno.out).mono ?_; rintro e w1 ⟨rfl, h', hg'⟩)
      go_ret2
      rw [Hr2.out]
      refine ⟨?_, p + 1, rfl, by omega, by omega, by omega, h', gb_trans (gb_drewN (World.grownBy.refl w _) _) hg'⟩
      first | rfl | (simp [Hc.out])
    have hb110 := tobf s[p] 110 (by omega) c110
    by_cases c116 : s[p] = 116
    · have hb116 := tob s[p] 116 (by omega) c116
      have Hno := hid (tobf s[p] 10 (by omega) (by rw [c116]; decide))
      have Hr2 : Hid (res = .good 9 (s.data.toList.drop (p + 1)) (co + 1)) := by have hr := Hr.out; rw [c116] at hr; exact hr
      have Hc := hid c116
      clear c116
      go_enter Try.func132, Try.ntmps132
      go_wp2_with (go_at_call 65; refine (more_yes h hlt).mono ?_; rintro e w' ⟨rfl, n1, rfl⟩)
      go_quiet (fail)
      go_wp2_with (go_at_call 108; refine (step_no b _ s p li co tv f0 f1 f2 (h.drewN _) hlt hs (by omega) Hno.out).mono ?_; rintro e w1 ⟨rfl, h', hg'⟩)
      go_ret2
      rw [Hr2.out]
      refine ⟨?_, p + 1, rfl, by omega, by omega, by omega, h', gb_trans (gb_drewN (World.grownBy.refl w _) _) hg'⟩
      first | rfl | (simp [Hc.out])
    have hb116 := tobf s[p] 116 (by omega) c116
    have Hother : Hid (s[p] ≠ 92 ∧ s[p] ≠ 39 ∧ s[p] ≠ 34 ∧ s[p] ≠ 110 ∧ s[p] ≠ 116) := ⟨c92, c39, c34, c110, c116⟩
    clear c92 c39 c34 c110 c116
    by_cases c120 : s[p] = 120
    · have hb120 := tob s[p] 120 (by omega) c120
      have Hno := hid (tobf s[p] 10 (by omega) (by rw [c120]; decide))
      have Hr2 : Hid (Lex.escH 2 0 (s.data.toList.drop (p + 1)) (co + 1) = res) := by have hr := Hr.out; rw [c120] at hr; exact hr.symm
      clear c120 Hother Hr
      go_enter Try.func132, Try.ntmps132
      go_wp2_with (go_at_call 65; refine (more_yes h hlt).mono ?_; rintro e w' ⟨rfl, n1, rfl⟩)
      go_quiet (fail)
      go_wp2_with (go_at_call 108; refine (step_no b _ s p li co tv f0 f1 f2 (h.drewN _) hlt hs (by omega) Hno.out).mono ?_; rintro e w1 ⟨rfl, h', hg'⟩)
      have hg2 := gb_trans (gb_drewN (World.grownBy.refl w (some b)) _) hg'
      clear h h0 h1 Hno hg'
      go_loopg [5, 39] 2 (fun k v5 v39 wr => HexAt w b s p li tv f0 f1 f2 res k v5 v39 wr)
      case atStart => exact ⟨0, p + 1, 0, co + 1, rfl, rfl, by omega, rfl, by omega, fun _ => rfl, fun e => by omega, fun e => by omega, by omega, by omega, by omega, h', Hr2.out, hg2⟩
      case round =>
        clear h' Hr2 hg2
        obtain ⟨i, q, n, cq, rfl, rfl, hi, hk, hn0, hn1, hn2, hn3, hq, hpq, hcq, h, htl, hg⟩ := hrel
        have Hk := hid hk
        have Htl := hid htl
        clear hk htl
        by_cases hi2 : i < 2
        · by_cases hlq : q < s.size
          · obtain ⟨h0, h1, -⟩ := h.cells
            have hlq' : (q : Int) < (s.size : Int) := by omega
            have htl := Htl.out
            rw [show 2 - i = (1 - i) + 1 by omega, str_ext hlq] at htl
            simp only [Lex.escH] at htl
            have hlo := hexZ_lo (s[q].toNat : Int)
            by_cases hx : Lex.hexv s[q] < 0
            · rw [if_pos hx] at htl
              have Hx : Hid (res = .bad cq) := htl.symm
              have hx' : Lex.hexv s[q] < 0 := hx
              clear htl hx
              go_wp2_with (go_at_call 65; refine (more_yes h hlq).mono ?_; rintro e w' ⟨rfl, n1, rfl⟩)
              go_quiet ((go_at_call 111; first | exact quiet_left (idx_hex _ _) | exact quiet_add_left (idx_hex _ _)))
              go_wp2_with fail
              go_ret2
              rw [Hx.out]
              exact ⟨rfl, q, hq, hpq, hcq, h.drewN _, gb_drewN hg _⟩
            · rw [if_neg hx] at htl
              have Hx := hid htl
              have hx0 : 0 ≤ Lex.hexv s[q] := by omega
              have hx1 : Lex.hexv s[q] ≤ 15 := hlo.2
              have Hno := hid (tobf s[q] 10 (by omega) (hexZ_ne _ hx0))
              have hn15 : n ≤ 15 := by
                rcases (show i = 0 ∨ i = 1 by omega) with e | e
                · rw [hn1 e]; omega
                · exact hn2 e
              have hor : bits .or .i64 (n * 16) (Lex.hexv s[q]) = n * 16 + Lex.hexv s[q] := or_low n _ hn0 hn15 hx0 hx1
              clear htl hx hlo
              go_wp2_with (go_at_call 65; refine (more_yes h hlq).mono ?_; rintro e w' ⟨rfl, n1, rfl⟩)
              go_quiet ((go_at_call 111; first | exact quiet_left (idx_hex _ _) | exact quiet_add_left (idx_hex _ _)))
              go_wp2_with (go_at_call 108; refine (step_no b _ s q li cq tv f0 f1 f2 (h.drewN _) hlq hs (by omega) Hno.out).mono ?_; rintro e w1 ⟨rfl, h', hg'⟩)
              have hlow : (q + 1 : Nat) ≤ s.size := by omega
              go_roundg (1 - i)
              case measure => have hk := Hk.out; omega
              case rel =>
                refine ⟨i + 1, q + 1, n * 16 + Lex.hexv s[q], cq + 1, by go_num, rfl, by omega, by omega, by omega, fun e => by omega, fun e => ?_, fun e => by omega, by omega, by omega, by omega, h', ?_, gb_trans (gb_drewN hg _) hg'⟩
                · have e0 := hn1 (by omega); omega
                · rw [show 2 - (i + 1) = 1 - i by omega]; exact Hx.out
          · have htl := Htl.out
            rw [show 2 - i = (1 - i) + 1 by omega, str_end (by omega)] at htl
            have Hx : Hid (res = .bad cq) := htl.symm
            clear htl
            go_wp2_with (go_at_call 65; refine (more_no h hlq).mono ?_; rintro e w' ⟨rfl, n1, rfl⟩)
            go_ret2
            rw [Hx.out]
            exact ⟨rfl, q, hq, hpq, hcq, h.drewN _, gb_drewN hg _⟩
        · obtain rfl : i = 2 := by omega
          have Hx : Hid (res = .good (UInt8.ofNat n.toNat) (s.data.toList.drop q) cq) := Htl.out.symm
          have hn255 := hn3 rfl
          clear Htl hn1 hn2 hn3 Hk hi2
          go_wp2
          go_ret2
          rw [Hx.out]
          refine ⟨?_, q, rfl, hq, hpq, hcq, h, hg⟩
          rw [u8_back n hn0 hn255]
          rfl
    have hb120 := tobf s[p] 120 (by omega) c120
    have Hr2 : Hid (res = .bad co) := by
      have hr := Hr.out
      have ho := Hother.out
      simp only [Lex.escS] at hr
      rw [if_neg (by simp [ho.1, ho.2.1, ho.2.2.1]), if_neg ho.2.2.2.1, if_neg ho.2.2.2.2, if_neg c120] at hr
      exact hr
    clear c120 Hother Hr
    go_enter Try.func132, Try.ntmps132
    go_wp2_with (go_at_call 65; refine (more_yes h hlt).mono ?_; rintro e w' ⟨rfl, n1, rfl⟩)
    go_quiet (fail)
    go_wp2_with fail
    go_ret2
    rw [Hr2.out]
    exact ⟨rfl, p, hp, Nat.le_refl _, hco, h.drewN _, gb_drewN (World.grownBy.refl w _) _⟩
  · have Hr2 : Hid (res = .bad co) := by have hr := Hres.out; rw [str_end (by omega)] at hr; exact hr.symm
    clear Hres
    go_enter Try.func132, Try.ntmps132
    go_wp2_with (go_at_call 65; refine (more_no h hlt).mono ?_; rintro e w' ⟨rfl, n1, rfl⟩)
    go_ret2
    rw [Hr2.out]
    exact ⟨rfl, p, hp, Nat.le_refl _, hco, h.drewN _, gb_drewN (World.grownBy.refl w _) _⟩
end Go.Proofs.Ytjaampgpihicmaa
/- Chapter 4 (lex): literal. -/
namespace Go.Proofs.Ytjaampgpihicmaa
open Go.RowKit
attribute [local go_sem ↓] Go.wp_at_zero Go.wp_at_succ
attribute [local go_sem] frozen_alloc_lt

/-- Memory while a literal is read: the scanner, the token's variable, the bytes so far, the tokens. -/
structure LitSt (w0 w : World) (base b bt : Nat) (s : ByteArray) (q li cq : Nat) (tv : Value) (f0 f1 f2 : Int) (n : Nat) (xs : List Value) (v6 : Value) (o : List UInt8) (l c : Nat) : Prop where
  sc : Sc w b s q li cq tv f0 f1 f2
  bk : Bk w bt 46 [.int .i64 2, .string ⟨#[]⟩, .int .i64 l, .int .i64 c]
  own6 : w.ownsRow base 5 1 v6 o.length (u8s o)
  ownT : w.ownsRow base 46 4 tv n xs
  bel : Below base w0 w
  hb : base ≤ b
  hz : base ≤ w.heap.size
  ht : tv.ownBlock ≠ some bt

section
variable {w0 w w' : World} {base b bt : Nat} {s : ByteArray} {q li cq : Nat} {tv : Value} {f0 f1 f2 : Int} {n : Nat} {xs : List Value} {v6 : Value} {o : List UInt8} {l c : Nat}
theorem LitSt.moved {q' li' cq' : Nat} {g0 g1 g2 : Int} (h : LitSt w0 w base b bt s q li cq tv f0 f1 f2 n xs v6 o l c) (hg : w.grownBy w' (some b)) (hsc : Sc w' b s q' li' cq' tv g0 g1 g2) : LitSt w0 w' base b bt s q' li' cq' tv g0 g1 g2 n xs v6 o l c := by
  have hb : Bk w b 122 _ := h.sc
  have hne : bt ≠ b := h.bk.ne hb (by decide)
  exact ⟨hsc, h.bk.grown hg (by simpa using hne), own_gb h.own6 hg (fun k hk => by cases hk; exact hb.own_ne h.own6 (by decide)), own_gb h.ownT hg (fun k hk => by cases hk; exact hb.own_ne h.ownT (by decide)),
    h.bel.trans (below_of_gb' hg h.hz (fun k hk => by cases hk; exact h.hb)), h.hb, Nat.le_trans h.hz hg.size, h.ht⟩
theorem LitSt.drewN (h : LitSt w0 w base b bt s q li cq tv f0 f1 f2 n xs v6 o l c) (k : Nat) : LitSt w0 (w.drewN k) base b bt s q li cq tv f0 f1 f2 n xs v6 o l c :=
  ⟨Bk.drewN h.sc k, h.bk.drewN k, own_drewN h.own6 k, own_drewN h.ownT k, below_drewN h.bel k, h.hb, h.hz, h.ht⟩
theorem LitSt.drew (h : LitSt w0 w base b bt s q li cq tv f0 f1 f2 n xs v6 o l c) : LitSt w0 w.drew base b bt s q li cq tv f0 f1 f2 n xs v6 o l c :=
  ⟨Bk.drew h.sc, h.bk.drew, h.own6, h.ownT, h.bel.drew, h.hb, h.hz, h.ht⟩
theorem LitSt.alloc (h : LitSt w0 w base b bt s q li cq tv f0 f1 f2 n xs v6 o l c) (x : Obj) : LitSt w0 (w.alloc x) base b bt s q li cq tv f0 f1 f2 n xs v6 o l c :=
  ⟨Bk.alloc h.sc x, h.bk.alloc x, h.own6.alloc x, h.ownT.alloc x, h.bel.alloc h.hz x, h.hb, Nat.le_trans h.hz (by simp), h.ht⟩
theorem LitSt.pushed {v6' : Value} {o' : List UInt8} (h : LitSt w0 w base b bt s q li cq tv f0 f1 f2 n xs v6 o l c) (hg : w.grownBy w' v6.ownBlock) (hown : w'.ownsRow base 5 1 v6' o'.length (u8s o')) : LitSt w0 w' base b bt s q li cq tv f0 f1 f2 n xs v6' o' l c := by
  have hb : Bk w b 122 _ := h.sc
  exact ⟨Bk.grown hb hg (Ne.symm (hb.own_ne h.own6 (by decide))), h.bk.grown hg (Ne.symm (h.bk.own_ne h.own6 (by decide))), hown, own_gb h.ownT hg (fun k hk => own_own_ne h.own6 h.ownT (by decide) k hk),
    h.bel.trans (below_of_gb' hg h.hz (fun k hk => (h.own6.lt k hk).1)), h.hb, Nat.le_trans h.hz hg.size, h.ht⟩
end

/-- Within a literal: the rest of it gives lr. -/
def LitAt (w0 : World) (base b bt : Nat) (s : ByteArray) (p li : Nat) (tv : Value) (f0 f1 f2 : Int) (n : Nat) (xs : List Value) (l c : Nat) (qu : UInt8) (lr : Lex.LitRes) (k : Nat) (v6 : Value) (w : World) : Prop :=
  ∃ (q cq : Nat) (o : List UInt8), LitSt w0 w base b bt s q li cq tv f0 f1 f2 n xs v6 o l c ∧ q ≤ s.size ∧ p ≤ q ∧ cq ≤ q + 1 ∧ o.length ≤ q ∧ Lex.litS qu .norm (s.data.toList.drop q) o cq = lr ∧ k = s.size - q

def litRes (li co : Nat) (_s : ByteArray) : Lex.LitRes → Lex.TokRes
  | .bad k => .bad ⟨li, k, 2⟩
  | .good out rest k => if out = [] then .bad ⟨li, co, 2⟩ else if 16 < out.length then .bad ⟨li, co, 6⟩ else .good ⟨2, out, li, co⟩ rest li k

theorem esc_at {P : Program} {f : FuncId} {args : Array Value} {w w0 : World} {b : Nat} {s : ByteArray} {p li : Nat} {tv : Value} {f0 f1 f2 : Int} {r r' : Lex.EscRes} (h : r = r')
    (hc : Calls P f args w fun e w' => EscPost w0 b s p li tv f0 f1 f2 e w' r) : Calls P f args w fun e w' => EscPost w0 b s p li tv f0 f1 f2 e w' r' := h ▸ hc

theorem ended2_calls (base b : Nat) (w : World) (s : ByteArray) (p li co : Nat) (tv : Value) (f0 f1 f2 : Int) (n : Nat) (xs : List Value) (h : Sc w b s p li co tv f0 f1 f2) (hp : p ≤ s.size)
    (hli : li ≤ p + 1) (hco : co ≤ p + 1) (hown : w.ownsRow base 46 4 tv n xs) (hbase : base ≤ w.heap.size) (hbb : base ≤ b) (hn : n ≤ 70000)
    (l c : Nat) (out : List UInt8) :
    Calls Try.prog 131 #[.pointer (some ⟨b, 0, none⟩), .agg #[.int .i64 2, .string ⟨#[]⟩, .int .i64 l, .int .i64 c], .string ⟨out.toArray⟩] w fun e w' => TokPost w base b s f0 f1 f2 n xs e w'
      (if out = [] then .bad ⟨l, c, 2⟩ else if 16 < out.length then .bad ⟨l, c, 6⟩ else .good ⟨2, out, l, c⟩ (s.data.toList.drop p) li co) :=
  ended_calls base b w s p li co tv f0 f1 f2 n xs h hp hli hco hown hbase hbb hn 2 l c out

theorem tokPost_trans {w0 w1 w : World} {base b : Nat} {s : ByteArray} {f0 f1 f2 : Int} {n : Nat} {xs : List Value} {e : Ending} {r : Lex.TokRes} (hb : Below base w0 w1) (h : TokPost w1 base b s f0 f1 f2 n xs e w r) : TokPost w0 base b s f0 f1 f2 n xs e w r := by
  cases r with
  | bad f => exact ⟨h.1, h.2.1, hb.trans h.2.2⟩
  | good t rest li co =>
    obtain ⟨he, p, tv, h1, h2, h3, h4, h5, h6, h7⟩ := h
    exact ⟨he, p, tv, h1, h2, h3, h4, h5, h6, hb.trans h7⟩

theorem tokPost_ret {w0 w : World} {base b : Nat} {s : ByteArray} {f0 f1 f2 : Int} {n : Nat} {xs : List Value} {e : Ending} {r : Lex.TokRes} (h : TokPost w0 base b s f0 f1 f2 n xs e w r) : ∃ v, e = .returned (.bool v) := by
  cases r with
  | bad f => exact ⟨_, h.1⟩
  | good t rest li co => exact ⟨_, h.1⟩

set_option maxRecDepth 8000 in
set_option maxHeartbeats 4000000 in
theorem literal_calls (base b : Nat) (w : World) (s : ByteArray) (p li co : Nat) (tv : Value) (f0 f1 f2 : Int) (n : Nat) (xs : List Value) (h : Sc w b s p li co tv f0 f1 f2) (hlt : p < s.size)
    (hs : s.size ≤ 65536) (hli : li ≤ p + 1) (hco : co ≤ p + 1) (hown : w.ownsRow base 46 4 tv n xs) (hbase : base ≤ w.heap.size) (hbb : base ≤ b) (hn : n ≤ 70000)
    (hq10 : s[p] ≠ 10) :
    Calls Try.prog 110 #[.pointer (some ⟨b, 0, none⟩), .int .u8 s[p].toNat] w fun e w' => TokPost w base b s f0 f1 f2 n xs e w'
      (litRes li co s (Lex.litS s[p] .norm (s.data.toList.drop (p + 1)) [] (co + 1))) := by
  generalize hres : Lex.litS s[p] .norm (s.data.toList.drop (p + 1)) [] (co + 1) = lr
  have Hres := hid hres
  have Hno := hid (tobf s[p] 10 (by omega) hq10)
  have Hq0 := hid hq10
  clear hres hq10
  obtain ⟨qu, hqu⟩ : ∃ qu, qu = s[p] := ⟨_, rfl⟩
  have Hq10 : Hid (qu ≠ 10) := by rw [hqu]; exact Hq0.out
  rw [← hqu] at Hres ⊢
  have Hqu := hid hqu
  clear hqu
  have lb := h.lt
  have hnb : ∀ k, tv.ownBlock = some k → k < w.heap.size := fun k hk => (hown.lt k hk).2
  have Hnb := hid hnb
  clear hnb
  have hb0 : (qu.toNat : Int) ≤ 255 := by have := qu.toNat_lt; omega
  go_enter Try.func110, Try.ntmps110
  go_wp2_with (go_at_call 67; refine (here_calls b _ 2 s p li co tv f0 f1 f2 h).mono ?_; rintro e w' ⟨rfl, rfl⟩)
  have st : LitSt w ((w.alloc (.cells #[.int .i64 2, .string ⟨#[]⟩, .int .i64 li, .int .i64 co] 46)).alloc (.cells #[.int .i64 2, .string ⟨#[]⟩, .int .i64 li, .int .i64 co] 46)).drew base b (w.heap.size + 1) s p li co tv f0 f1 f2 n xs (.slice none 0 0) [] li co :=
    ⟨Bk.drew (Bk.alloc (Bk.alloc h _) _), Bk.drew (bk_new (by simp)), World.ownsRow_nil _ _ _ _, (hown.alloc _).alloc _, (((Below.refl _ _).alloc hbase _).alloc (by simp; omega) _).drew, hbb, by simp; omega, fun e => by have := Hnb.out _ e; omega⟩
  obtain ⟨wd, hwd⟩ : ∃ wd, wd = ((w.alloc (.cells #[.int .i64 2, .string ⟨#[]⟩, .int .i64 li, .int .i64 co] 46)).alloc (.cells #[.int .i64 2, .string ⟨#[]⟩, .int .i64 li, .int .i64 co] 46)).drew := ⟨_, rfl⟩
  rw [← hwd] at st ⊢
  obtain ⟨bt, hbt⟩ : ∃ bt, bt = w.heap.size + 1 := ⟨_, rfl⟩
  rw [← hbt] at st ⊢
  clear hwd hbt lb Hnb h hown
  go_wp2_with (go_at_call 108; refine (step_no b _ s p li co tv f0 f1 f2 st.sc hlt hs (by omega) Hno.out).mono ?_; rintro e w1 ⟨rfl, h', hg'⟩)
  have st1 := st.moved hg' h'
  clear st h' hg' Hno
  obtain ⟨i8, hi8, hz0, hz1, hz2⟩ := info_parts u8Info
  go_loopg [6] (s.size - (p + 1)) (fun k v6 wr => LitAt w base b bt s p li tv f0 f1 f2 n xs li co qu lr k v6 wr)
  case atStart => exact ⟨p + 1, co + 1, [], st1, by omega, by omega, by omega, by simp, Hres.out, rfl⟩
  case round =>
    clear st1 Hres
    obtain ⟨q, cq, o, st, hq, hpq, hcq, hol, hlr, hk⟩ := hrel
    have Hlr := hid hlr
    have Hk := hid hk
    clear hlr hk
    by_cases hlq : q < s.size
    · obtain ⟨h0, h1, -⟩ := st.sc.cells
      have hlq' : (q : Int) < (s.size : Int) := by omega
      have hlr := Hlr.out
      rw [str_ext hlq] at hlr
      simp only [Lex.litS] at hlr
      clear Hlr
      by_cases cq1 : s[q] = qu
      · rw [if_pos cq1] at hlr
        have Hlr : Hid (lr = .good o (s.data.toList.drop (q + 1)) (cq + 1)) := hlr.symm
        have hb1 : ((s[q].toNat : Int) == (qu.toNat : Int)) = true := by rw [cq1]; simp
        have Hno := hid (tobf s[q] 10 (by omega) (by rw [cq1]; exact Hq10.out))
        clear hlr cq1
        go_wp2_with (go_at_call 65; refine (more_yes st.sc hlq).mono ?_; rintro e w' ⟨rfl, n1, rfl⟩)
        go_quiet (fail)
        go_wp2_with (first | (go_at_call 108; refine (step_no b _ s q li cq tv f0 f1 f2 (st.drewN _).sc hlq hs (by omega) Hno.out).mono ?_; rintro e w3 ⟨rfl, h', hg'⟩; have st1 := (st.drewN _).moved hg' h'; have t0 := st1.bk.cell 0; have t1 := st1.bk.cell 1; have t2 := st1.bk.cell 2; have t3 := st1.bk.cell 3; have hcv := conv_own st1.own6 rfl) | (go_at_call 131; refine (ended2_calls base b _ s (q + 1) li (cq + 1) tv f0 f1 f2 n xs st1.sc (by omega) (by omega) (by omega) st1.ownT st1.hz hbb hn li co o).mono ?_; rintro e w4 htp; obtain ⟨bv, rfl⟩ := tokPost_ret htp; have Htp := hid htp; clear htp))
        go_ret
        rw [Hlr.out]
        exact tokPost_trans st1.bel Htp.out
      · rw [if_neg cq1] at hlr
        have hb1 : ((s[q].toNat : Int) == (qu.toNat : Int)) = false := by
          rw [beq_eq_false_iff_ne]; intro e; apply cq1; apply UInt8.toNat_inj.1; omega
        by_cases c92 : s[q] = 92
        · rw [if_pos c92, Lex.lit_esc] at hlr
          have hb2 := tob s[q] 92 (by omega) c92
          have Hno := hid (tobf s[q] 10 (by omega) (by rw [c92]; decide))
          have Hc := hid c92
          generalize hesc : Lex.escS (s.data.toList.drop (q + 1)) (cq + 1) = er at hlr
          have Hesc := hid hesc
          cases er with
          | bad k =>
            have Hlr : Hid (lr = .bad k) := hlr.symm
            clear hlr cq1 c92 hesc
            go_wp2_with (go_at_call 65; refine (more_yes st.sc hlq).mono ?_; rintro e w' ⟨rfl, n1, rfl⟩)
            go_quiet (fail)
            go_wp2_with (first | (go_at_call 108; refine (step_no b _ s q li cq tv f0 f1 f2 (st.drewN _).sc hlq hs (by omega) Hno.out).mono ?_; rintro e w3 ⟨rfl, h', hg'⟩; have st1 := (st.drewN _).moved hg' h') | (go_at_call 132; refine (esc_at Hesc.out (escape_calls b _ s (q + 1) li (cq + 1) tv f0 f1 f2 st1.sc (by omega) hs (by omega) (by omega))).mono ?_; rintro e w4 ⟨rfl, q2, hq2, hpq2, hk2, h4, hg4⟩; have st4 := st1.moved hg4 h4) | (go_at_call 67; refine (here_calls b _ 4 s q2 li k tv f0 f1 f2 st4.sc).mono ?_; rintro e w' ⟨rfl, rfl⟩) | (go_at_call 112; refine (fail_calls b _ s q2 li k tv f0 f1 f2 (st4.alloc _).drew.sc 4 li k 2 _).mono ?_; rintro e w2 ⟨rfl, hsc, hg2⟩))
            go_ret
            rw [Hlr.out]
            exact ⟨rfl, ⟨_, _, _, _, hsc⟩, (((st4.alloc _).drew).moved hg2 hsc).bel⟩
          | good x rest k =>
            have Hlr := hid hlr
            clear hlr cq1 c92 hesc
            go_wp2_with (go_at_call 65; refine (more_yes st.sc hlq).mono ?_; rintro e w' ⟨rfl, n1, rfl⟩)
            go_quiet (fail)
            go_wp2_with (first | (go_at_call 108; refine (step_no b _ s q li cq tv f0 f1 f2 (st.drewN _).sc hlq hs (by omega) Hno.out).mono ?_; rintro e w3 ⟨rfl, h', hg'⟩; have st1 := (st.drewN _).moved hg' h') | (go_at_call 132; refine (esc_at Hesc.out (escape_calls b _ s (q + 1) li (cq + 1) tv f0 f1 f2 st1.sc (by omega) hs (by omega) (by omega))).mono ?_; rintro e w4 ⟨rfl, q2, hrest, hq2, hpq2, hk2, h4, hg4⟩; have Hrest := hid hrest; clear hrest; have st4 := st1.moved hg4 h4) | (at_builtin; refine wpList_append_lies _ rfl _ _ _ rfl base 5 i8 _ 1 1 Try.underlying54 hi8 hz0 hz1 hz2 rfl (by omega) _ o.length (u8s o) rfl (st4.alloc _).own6 ⟨w4.heap.size, 0, none⟩ 1 1 [.int .u8 x.toNat] rfl rfl (World.news_of_block (cs := #[.int .u8 x.toNat]) (t := 5) (fr := (0, 0)) (heap_alloc_new _ _)) (by simp [Value.oneCell']) (by omega) (by unfold maxLen; omega) (by omega) (st4.alloc _).hz (w4.heap.size + 1) (by simp) ?_; intro gg cap w2 hown2 hgrow hat hlt2; have st2 := (st4.alloc _).pushed (o' := o ++ [x]) hgrow (by simpa [u8s] using hown2)))
            go_roundg (s.size - q2)
            case measure => have hk := Hk.out; omega
            case rel => exact ⟨q2, k, o ++ [x], st2, hq2, by omega, hk2, by simp; omega, by rw [← Hrest.out]; exact Hlr.out, rfl⟩
        · rw [if_neg c92] at hlr
          have hb2 := tobf s[q] 92 (by omega) c92
          by_cases crg : s[q] < 32 ∨ 126 < s[q]
          · rw [if_pos crg] at hlr
            have Hlr := hid hlr
            clear hlr cq1 c92
            have crg' : (s[q].toNat : Int) < 32 ∨ (126 : Int) < (s[q].toNat : Int) := by
              rcases crg with h | h
              · left; have := UInt8.lt_iff_toNat_lt.1 h; simp at this; omega
              · right; have := UInt8.lt_iff_toNat_lt.1 h; simp at this; omega
            clear crg
            rcases crg' with hr1 | hr1
            all_goals
              go_wp2_with (go_at_call 65; refine (more_yes st.sc hlq).mono ?_; rintro e w' ⟨rfl, n1, rfl⟩)
              go_quiet (fail)
              go_wp2_with (first | (go_at_call 67; refine (here_calls b _ 4 s q li cq tv f0 f1 f2 (st.drewN _).sc).mono ?_; rintro e w' ⟨rfl, rfl⟩) | (go_at_call 112; refine (fail_calls b _ s q li cq tv f0 f1 f2 ((st.drewN _).alloc _).drew.sc 4 li cq 2 _).mono ?_; rintro e w2 ⟨rfl, hsc, hg2⟩))
              go_ret
              rw [← Hlr.out]
              exact ⟨rfl, ⟨_, _, _, _, hsc⟩, ((((st.drewN _).alloc _).drew).moved hg2 hsc).bel⟩
          · rw [if_neg crg] at hlr
            have Hlr := hid hlr
            have hr1 : (32 : Int) ≤ (s[q].toNat : Int) := by
              have : ¬ s[q] < 32 := fun h => crg (.inl h)
              have := mt UInt8.lt_iff_toNat_lt.2 this; simp at this; omega
            have hr2 : (s[q].toNat : Int) ≤ 126 := by
              have : ¬ 126 < s[q] := fun h => crg (.inr h)
              have := mt UInt8.lt_iff_toNat_lt.2 this; simp at this; omega
            have Hno := hid (tobf s[q] 10 (by omega) (by rintro e; rw [e] at hr1; exact absurd hr1 (by decide)))
            clear hlr cq1 c92 crg
            go_wp2_with (go_at_call 65; refine (more_yes st.sc hlq).mono ?_; rintro e w' ⟨rfl, n1, rfl⟩)
            go_quiet (fail)
            go_wp2_with (first | (at_builtin; refine wpList_append_lies _ rfl _ _ _ rfl base 5 i8 _ 1 1 Try.underlying54 hi8 hz0 hz1 hz2 rfl (by omega) _ o.length (u8s o) rfl ((st.drewN _).alloc _).own6 ⟨wr.heap.size, 0, none⟩ 1 1 [.int .u8 s[q].toNat] rfl rfl (World.news_of_block (cs := #[.int .u8 s[q].toNat]) (t := 5) (fr := (0, 0)) (heap_alloc_new _ _)) (by simp [Value.oneCell']) (by omega) (by unfold maxLen; omega) (by omega) ((st.drewN _).alloc _).hz (wr.heap.size + 1) (by simp) ?_; intro gg cap w2 hown2 hgrow hat hlt2; have st2 := ((st.drewN _).alloc _).pushed (o' := o ++ [s[q]]) hgrow (by simpa [u8s] using hown2)) | (go_at_call 108; refine (step_no b _ s q li cq tv f0 f1 f2 st2.sc hlq hs (by omega) Hno.out).mono ?_; rintro e w3 ⟨rfl, h', hg'⟩))
            go_roundg (s.size - (q + 1))
            case measure => have hk := Hk.out; omega
            case rel => exact ⟨q + 1, cq + 1, o ++ [s[q]], st2.moved hg' h', by omega, by omega, by omega, by simp; omega, Hlr.out, rfl⟩
    · have Hlr' : Hid (lr = .bad cq) := by have hlr := Hlr.out; rw [str_end (by omega)] at hlr; exact hlr.symm
      clear Hlr
      go_wp2_with (first | (go_at_call 65; refine (more_no st.sc hlq).mono ?_; rintro e w' ⟨rfl, n1, rfl⟩) | (go_at_call 67; refine (here_calls b _ 4 s q li cq tv f0 f1 f2 (st.drewN _).sc).mono ?_; rintro e w' ⟨rfl, rfl⟩) | (go_at_call 112; refine (fail_calls b _ s q li cq tv f0 f1 f2 ((st.drewN _).alloc _).drew.sc 4 li cq 2 _).mono ?_; rintro e w2 ⟨rfl, hsc, hg2⟩))
      go_ret
      rw [Hlr'.out]
      exact ⟨rfl, ⟨_, _, _, _, hsc⟩, ((((st.drewN _).alloc _).drew).moved hg2 hsc).bel⟩
end Go.Proofs.Ytjaampgpihicmaa
/- Chapter 4 (lex): token. -/
namespace Go.Proofs.Ytjaampgpihicmaa
open Go.RowKit
attribute [local go_sem ↓] Go.wp_at_zero Go.wp_at_succ
attribute [local go_sem] frozen_alloc_lt

def signIx (c : UInt8) : Int := Lib.indexByte Lex.signs c
theorem sign_index : ∀ n : Fin 256, (0 ≤ signIx (UInt8.ofNat n.val)) = (Lex.isSign (UInt8.ofNat n.val) = true) := by
  have h : ∀ n : Fin 256, decide (0 ≤ signIx (UInt8.ofNat n.val)) = Lex.isSign (UInt8.ofNat n.val) := by decide +kernel
  intro n
  rw [← h n]
  simp
theorem sign_index' (c : UInt8) : (0 ≤ signIx c) = (Lex.isSign c = true) := by
  have := sign_index ⟨c.toNat, c.toNat_lt⟩
  simpa using this
theorem idx_sign (c : UInt8) (w : World) :
    Calls Try.prog 111 #[.string ⟨#[58, 124, 59, 40, 41, 91, 93, 123, 125, 42, 43, 63, 37]⟩, .int .u8 c.toNat] w fun e w' => e = .returned (.int .i64 (signIx c)) ∧ w = w' :=
  (indexByte_calls ⟨#[58, 124, 59, 40, 41, 91, 93, 123, 125, 42, 43, 63, 37]⟩ c.toNat w).mono fun e w' ⟨he, hw⟩ => ⟨by rw [he]; simp [signIx, Lex.signs], hw⟩

set_option maxRecDepth 8000 in
set_option maxHeartbeats 4000000 in
theorem token_calls (base b : Nat) (w : World) (s : ByteArray) (p li co : Nat) (tv : Value) (f0 f1 f2 : Int) (n : Nat) (xs : List Value) (h : Sc w b s p li co tv f0 f1 f2) (hlt : p < s.size)
    (hs : s.size ≤ 65536) (hli : li ≤ p + 1) (hco : co ≤ p + 1) (hown : w.ownsRow base 46 4 tv n xs) (hbase : base ≤ w.heap.size) (hbb : base ≤ b) (hn : n ≤ 70000) :
    Calls Try.prog 66 #[.pointer (some ⟨b, 0, none⟩)] w fun e w' => TokPost w base b s f0 f1 f2 n xs e w' (Lex.tokS s[p] (s.data.toList.drop (p + 1)) li co) := by
  generalize hres : Lex.tokS s[p] (s.data.toList.drop (p + 1)) li co = res
  unfold Lex.tokS at hres
  rw [← str_ext hlt] at hres
  have lb := h.lt
  have hnb : ∀ k, tv.ownBlock = some k → k < w.heap.size := fun k hk => (hown.lt k hk).2
  have Hnb := hid hnb
  clear hnb
  have hlt' : (p : Int) < (s.size : Int) := by omega
  have hb0 : (s[p].toNat : Int) ≤ 255 := by have := (s[p]).toNat_lt; omega
  have Hres := hid hres
  clear hres
  go_enter Try.func66, Try.ntmps66
  go_wp2_with (go_at_call 67; refine (here_calls b _ 3 s p li co tv f0 f1 f2 h).mono ?_; rintro e w' ⟨rfl, rfl⟩)
  have hd1 : Sc ((w.alloc (.cells #[.int .i64 3, .string ⟨#[]⟩, .int .i64 li, .int .i64 co] 46)).alloc (.cells #[.int .i64 3, .string ⟨#[]⟩, .int .i64 li, .int .i64 co] 46)).drew b s p li co tv f0 f1 f2 := Bk.drew (Bk.alloc (Bk.alloc h _) _)
  have hd2 : Bk ((w.alloc (.cells #[.int .i64 3, .string ⟨#[]⟩, .int .i64 li, .int .i64 co] 46)).alloc (.cells #[.int .i64 3, .string ⟨#[]⟩, .int .i64 li, .int .i64 co] 46)).drew (w.heap.size + 1) 46 [.int .i64 3, .string ⟨#[]⟩, .int .i64 li, .int .i64 co] := Bk.drew (bk_new (by simp))
  have hd3 : ((w.alloc (.cells #[.int .i64 3, .string ⟨#[]⟩, .int .i64 li, .int .i64 co] 46)).alloc (.cells #[.int .i64 3, .string ⟨#[]⟩, .int .i64 li, .int .i64 co] 46)).drew.ownsRow base 46 4 tv n xs := (hown.alloc _).alloc _
  have hd4 : Below base w ((w.alloc (.cells #[.int .i64 3, .string ⟨#[]⟩, .int .i64 li, .int .i64 co] 46)).alloc (.cells #[.int .i64 3, .string ⟨#[]⟩, .int .i64 li, .int .i64 co] 46)).drew := (((Below.refl _ _).alloc hbase _).alloc (by simp; omega) _).drew
  have hd5 : tv.ownBlock ≠ some (w.heap.size + 1) := fun e => by have := Hnb.out _ e; omega
  obtain ⟨wd, hwd⟩ : ∃ wd, wd = ((w.alloc (.cells #[.int .i64 3, .string ⟨#[]⟩, .int .i64 li, .int .i64 co] 46)).alloc (.cells #[.int .i64 3, .string ⟨#[]⟩, .int .i64 li, .int .i64 co] 46)).drew := ⟨_, rfl⟩
  rw [← hwd] at hd1 hd2 hd3 hd4 ⊢
  obtain ⟨bt, hbt⟩ : ∃ bt, bt = w.heap.size + 1 := ⟨_, rfl⟩
  rw [← hbt] at hd2 hd5 ⊢
  have hz : base ≤ wd.heap.size := Nat.le_trans hbase hd4.size
  have hbtb : base ≤ bt := by omega
  clear hwd hbt lb Hnb h hown
  obtain ⟨h0, h1, -⟩ := hd1.cells
  by_cases hl : Lex.isLetter s[p] = true
  · have hl' : Lex.letterZ (s[p].toNat : Int) = true := hl
    have hres := Hres.out
    rw [if_pos hl] at hres
    have Hres := hid hres
    clear hres hl
    go_wp2_with fail
    go_quiet (fail)
    go_wp2_with (first | (go_at_call 70; refine (letter_calls _ _).mono ?_; rintro e w' ⟨rfl, rfl⟩) | (go_at_call 109; refine (name_calls base b _ s p li co tv f0 f1 f2 n xs (Bk.drewN hd1 _) (by omega) hs hli hco (own_drewN hd3 _) hz hbb hn).mono ?_; rintro e w4 htp; obtain ⟨bv, rfl⟩ := tokPost_ret htp; have Htp := hid htp; clear htp))
    go_ret
    rw [← Hres.out]
    exact tokPost_trans (below_drewN hd4 _) Htp.out
  · have hl' : Lex.letterZ (s[p].toNat : Int) = false := Bool.eq_false_iff.2 hl
    have hres := Hres.out
    rw [if_neg hl] at hres
    by_cases hq : s[p] = 39 ∨ s[p] = 34
    · rw [if_pos hq] at hres
      have Hres : Hid (litRes li co s (Lex.litS s[p] .norm (s.data.toList.drop (p + 1)) [] (co + 1)) = res) := by
        rw [← hres]
        cases Lex.litS s[p] .norm (s.data.toList.drop (p + 1)) [] (co + 1) <;> rfl
      have Hq10 := hid (show s[p] ≠ 10 by rcases hq with e | e <;> rw [e] <;> decide)
      have hq' : ((s[p].toNat : Int) == 39) = true ∨ ((s[p].toNat : Int) == 39) = false ∧ ((s[p].toNat : Int) == 34) = true := by
        rcases hq with e | e
        · left; rw [e]; rfl
        · right; rw [e]; exact ⟨rfl, rfl⟩
      clear hres hl hq
      rcases hq' with hq1 | ⟨hq1, hq2⟩
      all_goals
        go_wp2_with fail
        go_quiet (fail)
        go_wp2_with (first | (go_at_call 70; refine (letter_calls _ _).mono ?_; rintro e w' ⟨rfl, rfl⟩) | (go_at_call 110; refine (literal_calls base b _ s p li co tv f0 f1 f2 n xs (Bk.drewN hd1 _) hlt hs hli hco (own_drewN hd3 _) hz hbb hn Hq10.out).mono ?_; rintro e w4 htp; obtain ⟨bv, rfl⟩ := tokPost_ret htp; have Htp := hid htp; clear htp))
        go_ret
        rw [← Hres.out]
        exact tokPost_trans (below_drewN hd4 _) Htp.out
    · rw [if_neg hq] at hres
      have hq1 : ((s[p].toNat : Int) == 39) = false := tobf s[p] 39 (by omega) (fun e => hq (.inl e))
      have hq2 : ((s[p].toNat : Int) == 34) = false := tobf s[p] 34 (by omega) (fun e => hq (.inr e))
      by_cases hsg : Lex.isSign s[p] = true
      · rw [if_pos hsg] at hres
        have hsg' : (0 : Int) ≤ signIx s[p] := by rw [sign_index']; exact hsg
        have Hno := hid (tobf s[p] 10 (by omega) (by rintro e; rw [e] at hsg; exact absurd hsg (by decide)))
        have Hres := hid hres
        clear hres hl hq hsg
        go_wp2_with fail
        go_quiet (fail)
        go_wp2_with (first | (go_at_call 70; refine (letter_calls _ _).mono ?_; rintro e w' ⟨rfl, rfl⟩) | (go_at_call 111; refine (idx_sign _ _).mono ?_; rintro e w' ⟨rfl, rfl⟩))
        have hq0 : (0 : Int) ≤ (p : Int) := by omega
        have hq3 : (p : Int) + 1 ≤ (s.size : Int) := by omega
        have hne : b ≠ bt := Bk.ne hd1 hd2 (by decide)
        have t1 := hd2.cell 1
        have z1 := hd2.free 1
        go_region
        go_wp2_with fail
        have e1 : Sc ((wd.drewN (nq + 1)).setCell ⟨bt, 1, none⟩ (.string (s.extract p (p + 1)))) b s p li co tv f0 f1 f2 := Bk.far (Bk.drewN hd1 _) hne _
        have e2 : Bk ((wd.drewN (nq + 1)).setCell ⟨bt, 1, none⟩ (.string (s.extract p (p + 1)))) bt 46 [.int .i64 3, .string (s.extract p (p + 1)), .int .i64 li, .int .i64 co] := Bk.set (Bk.drewN hd2 _) 1 _
        have e3 : ((wd.drewN (nq + 1)).setCell ⟨bt, 1, none⟩ (.string (s.extract p (p + 1)))).ownsRow base 46 4 tv n xs := own_set (own_drewN hd3 _) hd5 _
        have e4 : Below base w ((wd.drewN (nq + 1)).setCell ⟨bt, 1, none⟩ (.string (s.extract p (p + 1)))) := (below_drewN hd4 _).setCell (p := ⟨bt, 1, none⟩) hbtb _
        have e5 : base ≤ ((wd.drewN (nq + 1)).setCell ⟨bt, 1, none⟩ (.string (s.extract p (p + 1)))).heap.size := by simp [World.setCell]; exact hz
        obtain ⟨we, hwe⟩ : ∃ we, we = (wd.drewN (nq + 1)).setCell ⟨bt, 1, none⟩ (.string (s.extract p (p + 1))) := ⟨_, rfl⟩
        rw [← hwe] at e1 e2 e3 e4 e5 ⊢
        clear hwe hd1 hd2 hd3 hd4 h0 h1 t1 z1 hz
        refine (step_no b we s p li co tv f0 f1 f2 e1 hlt hs (by omega) Hno.out).mono ?_
        rintro e w3 ⟨rfl, k1, hg3⟩
        have k2 := e2.grown hg3 (by simpa using Ne.symm hne)
        have e1b : Bk we b 122 _ := e1
        have hnb2 : tv.ownBlock ≠ some b := e1b.own_ne e3 (by decide)
        have k3 := own_gb e3 hg3 (fun k hk => by cases hk; exact hnb2)
        have k4 := e4.trans (below_of_gb' hg3 e5 (fun k hk => by cases hk; exact hbb))
        have hrow : ∀ k, tv.ownBlock = some k → base ≤ k := fun k e => (k3.lt k e).1
        have hbw : base ≤ w3.heap.size := Nat.le_trans e5 hg3.size
        clear e1 e2 e3 e4 e1b hg3
        obtain ⟨-, -, -, -, h4, -⟩ := k1.cells
        obtain ⟨-, -, -, g4, -⟩ := k1.free
        have t0 := k2.cell 0
        have t1 := k2.cell 1
        have t2 := k2.cell 2
        have t3 := k2.cell 3
        have lt0 : bt < w3.heap.size := k2.lt
        have ltb : b < w3.heap.size := k1.lt
        have hm1 := World.new_ne w3 _ h4
        have hm2 := World.new_ne w3 _ t0
        obtain ⟨i0, hi0, hz0, hz1, hz2⟩ := info_parts tokInfo
        have hfr : ∀ o, (w3.alloc o).frozen? ⟨b, 4, none⟩ = false := fun o => (frozen_alloc_lt w3 o ⟨b, 4, none⟩ ltb).trans g4
        have hfc : ∀ o, (w3.alloc o).cell? ⟨b, 4, none⟩ = some tv := fun o => (World.cell?_alloc_lt w3 o ⟨b, 4, none⟩ ltb).trans h4
        go_wp2_with fail
        go_region_law (first | (refine step_append_lies _ (by rfl) _ _ _ (by rfl) base 46 i0 _ 4 40 Try.underlying42 hi0 hz0 hz1 hz2 rfl (by omega) tv n xs (by rfl) (k3.alloc _) ⟨w3.heap.size, 0, none⟩ 1 1 [.int .i64 3, .string (s.extract p (p + 1)), .int .i64 li, .int .i64 co] (by rfl) (by rfl) (World.news_of_block (cs := #[.int .i64 3, .string (s.extract p (p + 1)), .int .i64 li, .int .i64 co]) (t := 46) (fr := (0, 0)) (heap_alloc_new _ _)) (by simp [Value.oneCell']) (by omega) (by unfold maxLen; omega) (by omega) (by simp; omega) (w3.heap.size + 1) (by simp) ?_; intro gg cap w2 hown3 hgrow hat hlt9; have hw2 : w2.cell? ⟨b, 4, none⟩ = some tv := (hgrow.cell_far ⟨b, 4, none⟩ (by simp; omega) (Ne.symm hnb2)).trans (hfc _); have hw3 : w2.frozen? ⟨b, 4, none⟩ = false := (hgrow.frozen_far ⟨b, 4, none⟩ (by simp; omega) (Ne.symm hnb2)).trans (hfr _)))
        all_goals
          go_wp2_with fail
          go_ret
          obtain ⟨m1, m2, m3⟩ := push_close k1 k4 hbb hbw hnb2 hrow (((Below.refl _ _).alloc (Nat.le_refl _) _).drew) hgrow hown3
          have hx : s.extract p (p + 1) = ⟨[s[p]].toArray⟩ := by
            rw [extract_list, str_ext hlt, show p + 1 - p = 1 by omega]; rfl
          rw [hx] at m2
          rw [← Hres.out]
          exact ⟨rfl, p + 1, .slice (some ⟨gg, 0, none⟩) (n + 1) cap, rfl, by omega, by omega, by omega, m1, m2, m3⟩
      · rw [if_neg hsg] at hres
        have hsg' : signIx s[p] < (0 : Int) := by
          have := sign_index' s[p]
          rcases Int.lt_or_le (signIx s[p]) 0 with hh | hh
          · exact hh
          · rw [this] at hh; exact absurd hh hsg
        have Hres := hid hres
        clear hres hl hq hsg
        have t0 := hd2.cell 0
        have t1 := hd2.cell 1
        have t2 := hd2.cell 2
        have t3 := hd2.cell 3
        go_wp2_with fail
        go_quiet (fail)
        go_wp2_with (first | (go_at_call 70; refine (letter_calls _ _).mono ?_; rintro e w' ⟨rfl, rfl⟩) | (go_at_call 111; refine (idx_sign _ _).mono ?_; rintro e w' ⟨rfl, rfl⟩) | (go_at_call 112; refine (fail_calls b _ s p li co tv f0 f1 f2 (Bk.drewN hd1 _) 3 li co 2 _).mono ?_; rintro e w2 ⟨rfl, hsc, hg2⟩))
        go_ret
        rw [← Hres.out]
        exact ⟨rfl, ⟨_, _, _, _, hsc⟩, (below_drewN hd4 _).trans (below_of_gb' hg2 hz (fun k hk => by cases hk; exact hbb))⟩
end Go.Proofs.Ytjaampgpihicmaa
/- Chapter 4 (lex): Scan. -/
namespace Go.Proofs.Ytjaampgpihicmaa
open Go.RowKit
attribute [local go_sem ↓] Go.wp_at_zero Go.wp_at_succ
attribute [local go_sem] frozen_alloc_lt

def toksV (ts : List Lex.Tok) : List Value := ts.flatMap tokV

/-- What Scan leaves. -/
def ScanPost (w0 : World) (e : Ending) (w : World) : Lex.ScanRes → Prop
  | .bad f => e = .returned (.tuple #[.slice none 0 0, .agg #[.int .i64 f.line, .int .i64 f.col, .int .i64 f.code]]) ∧ Below w0.heap.size w0 w
  | .good ts => ∃ v : Value, e = .returned (.tuple #[v, .agg #[.int .i64 0, .int .i64 0, .int .i64 0]]) ∧ w.ownsRow w0.heap.size 46 4 v ts.length (toksV ts) ∧ Below w0.heap.size w0 w

/-- At the head of Scan's loop: what is to be passed over has been. -/
def ScanAt (W0 : World) (B b : Nat) (s : ByteArray) (sr : Lex.ScanRes) (k : Nat) (w : World) : Prop :=
  ∃ (p li co : Nat) (tv : Value) (out : List Lex.Tok), Sc w b s p li co tv 0 0 0 ∧ p ≤ s.size ∧ li ≤ p + 1 ∧ co ≤ p + 1 ∧ out.length ≤ p ∧ w.ownsRow B 46 4 tv out.length (toksV out) ∧
    (Lex.contS (s.data.toList.drop p) li co).push out = sr ∧ Below B W0 w ∧ k = s.size - p

theorem tok_eats {s : ByteArray} {p q li co li' co' : Nat} {t : Lex.Tok} (hp : p < s.size) (hq : q ≤ s.size) (h : Lex.tokS s[p] (s.data.toList.drop (p + 1)) li co = .good t (s.data.toList.drop q) li' co') : p < q := by
  have := Lex.tokS_len h
  simp only [List.length_drop, Array.length_toList] at this
  have hz : s.data.size = s.size := rfl
  omega

theorem skip_eats {s : ByteArray} {p q li co li' co' : Nat} (hp : p ≤ s.size) (hq : q ≤ s.size) (h : (s.data.toList.drop q, li', co') = Lex.skipS false (s.data.toList.drop p) li co) : p ≤ q := by
  have := Lex.skipS_len false (s.data.toList.drop p) li co
  rw [← h] at this
  simp only [List.length_drop, Array.length_toList] at this
  have hz : s.data.size = s.size := rfl
  omega

theorem toksV_snoc (out : List Lex.Tok) (t : Lex.Tok) : toksV (out ++ [t]) = toksV out ++ tokV t := by simp [toksV]

theorem tokPost_at {P : Program} {f : FuncId} {args : Array Value} {w w0 : World} {base b : Nat} {s : ByteArray} {f0 f1 f2 : Int} {n : Nat} {xs : List Value} {r r' : Lex.TokRes} (h : r = r')
    (hc : Calls P f args w fun e w' => TokPost w0 base b s f0 f1 f2 n xs e w' r) : Calls P f args w fun e w' => TokPost w0 base b s f0 f1 f2 n xs e w' r' := h ▸ hc

theorem end_block (wr : World) (li co : Nat) : ((((wr.alloc (.cells #[.int .i64 4, .string ⟨#[]⟩, .int .i64 li, .int .i64 co] 46)).alloc (.cells #[.int .i64 4, .string ⟨#[]⟩, .int .i64 li, .int .i64 co] 46)).drew).drew).heap[wr.heap.size + 1]? =
    some (.cells #[.int .i64 4, .string ⟨#[]⟩, .int .i64 li, .int .i64 co] 46 (0, 0)) := by
  have h : Bk ((((wr.alloc (.cells #[.int .i64 4, .string ⟨#[]⟩, .int .i64 li, .int .i64 co] 46)).alloc (.cells #[.int .i64 4, .string ⟨#[]⟩, .int .i64 li, .int .i64 co] 46)).drew).drew) (wr.heap.size + 1) 46 [.int .i64 4, .string ⟨#[]⟩, .int .i64 li, .int .i64 co] := Bk.drew (Bk.drew (bk_new (by simp)))
  exact h

set_option maxRecDepth 8000 in
set_option maxHeartbeats 4000000 in
theorem scan_calls (s : ByteArray) (w : World) (hmax : s.size ≤ 9223372036854775807) :
    Calls Try.prog 20 #[.string s] w fun e w' => ScanPost w e w' (Lex.scan s.data.toList) := by
  generalize hres : Lex.scan s.data.toList = sr
  unfold Lex.scan at hres
  have hsl : s.data.toList.length = s.size := by simp
  rw [hsl] at hres
  by_cases hs : 65536 < s.size
  · rw [if_pos hs] at hres
    have Hres := hid hres
    clear hres hsl
    have hd : decide ((65536 : Int) < (s.size : Int)) = true := by simp; omega
    go_enter Try.func20, Try.ntmps20
    go_wp2_with fail
    rw [← Hres.out]
    exact bodyPost_ret (v := .tuple #[.slice none 0 0, .agg #[.int .i64 0, .int .i64 0, .int .i64 6]]) (by simp [results, Try.results20, go_sem]) rfl ⟨rfl, (Below.refl _ _).alloc (Nat.le_refl _) _⟩
  · rw [if_neg hs] at hres
    have Hres := hid hres
    clear hres hsl
    have hd : decide ((65536 : Int) < (s.size : Int)) = false := by simp; omega
    have hs' : s.size ≤ 65536 := by omega
    go_enter Try.func20, Try.ntmps20
    go_wp2_with fail
    have hsc : Sc ((w.alloc (.cells #[.int .i64 0, .int .i64 0, .int .i64 0] 28)).alloc (.cells #[.string s, .int .i64 0, .int .i64 1, .int .i64 1, .slice none 0 0, .int .i64 0, .int .i64 0, .int .i64 0] 122)) (w.heap.size + 1) s 0 1 1 (.slice none 0 0) 0 0 0 := bk_new (by simp)
    have hbf : Bk ((w.alloc (.cells #[.int .i64 0, .int .i64 0, .int .i64 0] 28)).alloc (.cells #[.string s, .int .i64 0, .int .i64 1, .int .i64 1, .slice none 0 0, .int .i64 0, .int .i64 0, .int .i64 0] 122)) w.heap.size 28 [.int .i64 0, .int .i64 0, .int .i64 0] := Bk.alloc (bk_new rfl) _
    have hbl : Below w.heap.size w ((w.alloc (.cells #[.int .i64 0, .int .i64 0, .int .i64 0] 28)).alloc (.cells #[.string s, .int .i64 0, .int .i64 1, .int .i64 1, .slice none 0 0, .int .i64 0, .int .i64 0, .int .i64 0] 122)) := ((Below.refl _ _).alloc (Nat.le_refl _) _).alloc (by simp) _
    obtain ⟨W0, hW0⟩ : ∃ W0, W0 = ((w.alloc (.cells #[.int .i64 0, .int .i64 0, .int .i64 0] 28)).alloc (.cells #[.string s, .int .i64 0, .int .i64 1, .int .i64 1, .slice none 0 0, .int .i64 0, .int .i64 0, .int .i64 0] 122)) := ⟨_, rfl⟩
    rw [← hW0] at hsc hbf hbl ⊢
    have hz0 : w.heap.size + 1 < W0.heap.size := hsc.lt
    obtain ⟨B, hB⟩ : ∃ B, B = w.heap.size + 1 := ⟨_, rfl⟩
    rw [← hB] at hsc hz0 ⊢
    have HB := hid hB
    clear hW0 hB
    go_wp2_with (go_at_call 64; refine (skip_calls B _ s 0 1 1 _ 0 0 0 hsc (by omega) hs' (by omega) (by omega)).mono ?_; rintro e w1 ⟨rfl, p, li, co, k1, hp, hli, hco, hsk, hg1⟩)
    have hst : ScanAt W0 B B s sr (s.size - p) w1 := by
      refine ⟨p, li, co, _, [], k1, hp, hli, hco, by simp, World.ownsRow_nil _ _ _ _, ?_, below_of_gb' hg1 (by omega) (fun k hk => by cases hk; exact Nat.le_refl _), rfl⟩
      rw [Lex.push_nil, ← Hres.out, Lex.scanS_eq]
      rw [List.drop_zero] at hsk
      rw [← hsk]
    clear k1 hsk hg1 hp hli hco Hres hsc
    go_loopg [] (s.size - p) (fun k wr => ScanAt W0 B B s sr k wr)
    case atStart => exact hst
    case round =>
      clear hst
      obtain ⟨p, li, co, tv, out, h, hp, hli, hco, hol, hown, hpu, hbw, hk⟩ := hrel
      have Hpu := hid hpu
      have Hk := hid hk
      clear hpu hk
      have hz : B ≤ wr.heap.size := by have := hbw.size; omega
      have kbf : Bk wr w.heap.size 28 [.int .i64 0, .int .i64 0, .int .i64 0] := hbf.below hbw (by have := HB.out; omega)
      by_cases hlt : p < s.size
      · have hpu := Hpu.out
        rw [str_ext hlt] at hpu
        simp only [Lex.contS] at hpu
        clear Hpu
        generalize htr : Lex.tokS s[p] (s.data.toList.drop (p + 1)) li co = tr at hpu
        have Htr := hid htr
        cases tr with
        | bad f =>
          have Hpu : Hid (sr = .bad f) := hpu.symm
          clear hpu htr
          go_wp2_with (first | (go_at_call 65; refine (more_yes h hlt).mono ?_; rintro e w' ⟨rfl, n1, rfl⟩) | (go_at_call 66; refine (tokPost_at Htr.out (token_calls B B _ s p li co tv 0 0 0 out.length (toksV out) (Bk.drewN h _) hlt hs' hli hco (own_drewN hown _) hz (Nat.le_refl _) (by omega))).mono ?_; rintro e w2 ⟨rfl, ⟨p2, li2, co2, tv2, h2⟩, hb2⟩))
          have kbf2 := (kbf.drewN n1).below hb2 (by have := HB.out; omega)
          obtain ⟨-, -, -, -, -, h5, h6, h7⟩ := h2.cells
          have c0 := kbf2.cell 0
          have c1 := kbf2.cell 1
          have c2 := kbf2.cell 2
          have f0 := kbf2.free 0
          have f1 := kbf2.free 1
          have f2 := kbf2.free 2
          go_region
          go_wp2_with fail
          rw [Hpu.out]
          have kf : Bk (((w2.setCell ⟨w.heap.size, 0, none⟩ (.int .i64 f.line)).setCell ⟨w.heap.size, 1, none⟩ (.int .i64 f.col)).setCell ⟨w.heap.size, 2, none⟩ (.int .i64 f.code)).drew w.heap.size 28 [.int .i64 f.line, .int .i64 f.col, .int .i64 f.code] := Bk.drew (((kbf2.set 0 _).set 1 _).set 2 _)
          have hbl2 : Below w.heap.size w w2 := hbl.trans ((hbw.trans ((below_drewN (Below.refl _ _) n1).trans hb2)).mono (by have := HB.out; omega))
          have hbl3 := (((hbl2.setCell (p := ⟨w.heap.size, 0, none⟩) (Nat.le_refl _) (.int .i64 f.line)).setCell (p := ⟨w.heap.size, 1, none⟩) (Nat.le_refl _) (.int .i64 f.col)).setCell (p := ⟨w.heap.size, 2, none⟩) (Nat.le_refl _) (.int .i64 f.code)).drew
          obtain ⟨wz, hwz⟩ : ∃ wz, wz = (((w2.setCell ⟨w.heap.size, 0, none⟩ (.int .i64 f.line)).setCell ⟨w.heap.size, 1, none⟩ (.int .i64 f.col)).setCell ⟨w.heap.size, 2, none⟩ (.int .i64 f.code)).drew := ⟨_, rfl⟩
          rw [← hwz] at kf hbl3 ⊢
          have d0 := kf.cell 0
          have d1 := kf.cell 1
          have d2 := kf.cell 2
          exact bodyPost_ret (v := .tuple #[.slice none 0 0, .agg #[.int .i64 f.line, .int .i64 f.col, .int .i64 f.code]]) (by simp [results, Try.results20, go_sem, d0, d1, d2]) rfl ⟨rfl, hbl3⟩
        | good t rest li2 co2 =>
          have Hpu := hid hpu
          clear hpu htr
          go_wp2_with (first | (go_at_call 65; refine (more_yes h hlt).mono ?_; rintro e w' ⟨rfl, n1, rfl⟩) | (go_at_call 66; refine (tokPost_at Htr.out (token_calls B B _ s p li co tv 0 0 0 out.length (toksV out) (Bk.drewN h _) hlt hs' hli hco (own_drewN hown _) hz (Nat.le_refl _) (by omega))).mono ?_; rintro e w2 ⟨rfl, p2, tv2, hre, hp2, hl2, hc2, h2, hown2, hb2⟩; have Hre := hid hre; clear hre) | (go_at_call 64; refine (skip_calls B _ s p2 li2 co2 _ 0 0 0 h2 hp2 hs' hl2 hc2).mono ?_; rintro e w3 ⟨rfl, p3, li3, co3, h3, hp3, hl3, hc3, hsk, hg3⟩; have Hsk := hid hsk; clear hsk))
          have htr2 := Htr.out
          rw [Hre.out] at htr2
          have hlt2 := tok_eats hlt hp2 htr2
          have hlt3 := skip_eats hp2 hp3 Hsk.out
          have hbB : Bk w2 B 122 _ := h2
          go_roundg (s.size - p3)
          case measure => have hk := Hk.out; omega
          case rel =>
            refine ⟨p3, li3, co3, tv2, out ++ [t], h3, hp3, hl3, hc3, by simp; omega, ?_, ?_, (hbw.trans ((below_drewN (Below.refl _ _) n1).trans hb2)).trans (below_of_gb' hg3 (Nat.le_trans hz hb2.size) (fun k hk => by cases hk; exact Nat.le_refl _)), rfl⟩
            · rw [toksV_snoc, List.length_append]
              exact own_gb hown2 hg3 (fun k hk => by cases hk; exact hbB.own_ne hown2 (by decide))
            · rw [← Hpu.out, Hre.out, Lex.scanS_eq, ← Hsk.out, Lex.push_push]
      · have hpu := Hpu.out
        rw [str_end (by omega)] at hpu
        have Hpu : Hid (sr = .good (out ++ [⟨4, [], li, co⟩])) := hpu.symm
        clear hpu Hk
        obtain ⟨i0, hi0, hz0, hz1, hz2⟩ := info_parts tokInfo
        go_wp2_with (go_at_call 65; refine (more_no h hlt).mono ?_; rintro e w' ⟨rfl, n1, rfl⟩)
        replace h : Sc (wr.drewN n1) B s p li co tv 0 0 0 := Bk.drewN h _
        replace hown : (wr.drewN n1).ownsRow B 46 4 tv out.length (toksV out) := own_drewN hown _
        replace kbf := kbf.drewN n1
        replace hbw := below_drewN hbw n1
        replace hz : B ≤ (wr.drewN n1).heap.size := hz
        obtain ⟨wx, hwx⟩ : ∃ wx, wx = wr.drewN n1 := ⟨_, rfl⟩
        rw [← hwx] at h hown kbf hbw hz ⊢
        clear hwx
        have ltb : B < wx.heap.size := h.lt
        have hbB : Bk wx B 122 _ := h
        have hnb2 : tv.ownBlock ≠ some B := hbB.own_ne hown (by decide)
        have hnf : tv.ownBlock ≠ some w.heap.size := fun e => by have := (hown.lt _ e).1; have := HB.out; omega
        obtain ⟨-, -, h2, h3, h4, -⟩ := h.cells
        have hm1 := World.new_ne wx _ h4
        go_region_law (first | ((refine step_append_lies _ (by rfl) _ _ _ (by rfl) B 46 i0 _ 4 40 Try.underlying42 hi0 hz0 hz1 hz2 rfl (by omega) tv out.length (toksV out) (by rfl) (((hown).alloc _).alloc _) ⟨wx.heap.size + 1, 0, none⟩ 1 1 [.int .i64 4, .string ⟨#[]⟩, .int .i64 li, .int .i64 co] (by rfl) (by rfl) (World.news_of_block (cs := #[.int .i64 4, .string ⟨#[]⟩, .int .i64 li, .int .i64 co]) (t := 46) (fr := (0, 0)) (end_block wx li co)) (by simp [Value.oneCell']) (by omega) (by unfold maxLen; omega) (by omega) (by simp; omega) (wx.heap.size + 2) (by simp) ?_); (intro gg cap w2 hown3 hgrow hat hlt9; have kf2 : Bk w2 w.heap.size 28 [.int .i64 0, .int .i64 0, .int .i64 0] := Bk.grown (by first | exact ((kbf).alloc _).alloc _ | exact Bk.drew (((kbf).alloc _).alloc _) | exact Bk.drew (Bk.drew (((kbf).alloc _).alloc _))) hgrow (Ne.symm hnf); have c0 := kf2.cell 0; have c1 := kf2.cell 1; have c2 := kf2.cell 2; have f0 := kf2.free 0; have f1 := kf2.free 1; have f2 := kf2.free 2)) | (go_simp; go_at_call 67; refine (here_exact B _ 4 li co ?_ ?_).mono ?_; (simp [*]); (simp [*]); rintro e w' ⟨rfl, rfl⟩))
        all_goals
          go_wp2_with fail
          have hgx : wx.grownBy w2 tv.ownBlock := gb_below ((((Below.refl _ _).alloc (Nat.le_refl _) _).alloc (by simp) _).drew.drew) hgrow
          have hbl2 : Below w.heap.size w w2 := hbl.trans ((hbw.trans (below_of_gb' hgx hz (fun k e => (hown.lt k e).1))).mono (by have := HB.out; omega))
          have hbl3 := ((hbl2.setCell (p := ⟨w.heap.size, 0, none⟩) (Nat.le_refl _) (.int .i64 0)).setCell (p := ⟨w.heap.size, 1, none⟩) (Nat.le_refl _) (.int .i64 0)).setCell (p := ⟨w.heap.size, 2, none⟩) (Nat.le_refl _) (.int .i64 0)
          have hne3 : ∀ i : Nat, (Value.slice (some ⟨gg, 0, none⟩) (out.length + 1) cap).ownBlock ≠ some (⟨w.heap.size, i, none⟩ : Addr).block := fun i e => by have := (hown3.lt _ e).1; have := HB.out; simp only at *; omega
          have hown4 := own_set (own_set (own_set hown3 (hne3 0) (.int .i64 0)) (hne3 1) (.int .i64 0)) (hne3 2) (.int .i64 0)
          have kf := ((kf2.set 0 (.int .i64 0)).set 1 (.int .i64 0)).set 2 (.int .i64 0)
          obtain ⟨wz, hwz⟩ : ∃ wz, wz = ((w2.setCell ⟨w.heap.size, 0, none⟩ (.int .i64 0)).setCell ⟨w.heap.size, 1, none⟩ (.int .i64 0)).setCell ⟨w.heap.size, 2, none⟩ (.int .i64 0) := ⟨_, rfl⟩
          rw [← hwz] at kf hbl3 hown4 ⊢
          have d0 := kf.cell 0
          have d1 := kf.cell 1
          have d2 := kf.cell 2
          simp only [List.set_cons_zero, List.set_cons_succ, List.getElem?_cons_zero, List.getElem?_cons_succ] at d0 d1 d2
          rw [Hpu.out]
          refine bodyPost_ret (v := .tuple #[.slice (some ⟨gg, 0, none⟩) (out.length + 1) cap, .agg #[.int .i64 0, .int .i64 0, .int .i64 0]]) (by simp [results, Try.results20, go_sem, d0, d1, d2]) rfl ⟨_, rfl, ?_, hbl3⟩
          rw [toksV_snoc, List.length_append]
          exact own_mono hown4 (by have := HB.out; omega)
end Go.Proofs.Ytjaampgpihicmaa
