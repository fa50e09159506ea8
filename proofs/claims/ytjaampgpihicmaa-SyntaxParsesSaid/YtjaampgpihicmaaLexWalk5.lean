/- Chapter 4 (lex): ended, escape. -/
import Derived.Test.YtjaampgpihicmaaLexWalk4
import Derived.Lib.Bytealg
namespace Go.Proofs.Ytjaampgpihicmaa
open Go.RowKit
attribute [local go_sem ↓] Go.wp_at_zero Go.wp_at_succ
attribute [local go_sem] frozen_alloc_lt

set_option maxHeartbeats 1000000 in
theorem ended_calls (base b : Nat) (w : World) (s : ByteArray) (p li co : Nat) (tv : Value) (f0 f1 f2 : Int) (n : Nat) (xs : List Value) (h : Sc w b s p li co tv f0 f1 f2) (hp : p ≤ s.size)
    (hli : li ≤ p + 1) (hco : co ≤ p + 1) (hown : w.ownsRow base 46 4 tv n xs) (hbase : base ≤ w.heap.size) (hbb : base ≤ b) (hn : n ≤ 70000)
    (k l c : Nat) (out : List UInt8) :
    Calls Try.prog 131 #[.pointer (some ⟨b, 0, none⟩), .agg #[.int .i64 k, .string ⟨#[]⟩, .int .i64 l, .int .i64 c], .string ⟨out.toArray⟩] w fun e w' => TokPost w base b s f0 f1 f2 n xs e w'
      (if out = [] then .bad ⟨l, c, 2⟩ else if 16 < out.length then .bad ⟨l, c, 6⟩ else .good ⟨k, out, l, c⟩ (s.data.toList.drop p) li co) := by
  generalize hres : (if out = [] then Lex.TokRes.bad ⟨l, c, 2⟩ else if 16 < out.length then Lex.TokRes.bad ⟨l, c, 6⟩ else Lex.TokRes.good ⟨k, out, l, c⟩ (s.data.toList.drop p) li co) = res
  have Hres := hid hres
  clear hres
  have hsz : (⟨out.toArray⟩ : ByteArray).size = out.length := by simp [ByteArray.size]
  have htl : (⟨out.toArray⟩ : ByteArray).toList = out := by rw [Lib.toList_data]
  obtain ⟨t, ht⟩ : ∃ t : ByteArray, t = ⟨out.toArray⟩ := ⟨_, rfl⟩
  rw [← ht] at hsz htl ⊢
  have Ht := hid ht
  have Hsz := hid hsz
  have Htl := hid htl
  clear ht hsz htl
  have lb := h.lt
  have lb' : b < w.heap.size + 1 := by omega
  obtain ⟨-, -, -, -, h4, -⟩ := h.cells
  obtain ⟨-, -, -, g4, -⟩ := h.free
  have hm1 := World.new_ne w _ h4
  by_cases he : out = []
  · have e1 : t.toList.isEmpty = true := by rw [Htl.out, he]; rfl
    have e1' : t.toList = [] := by rw [Htl.out, he]
    have Hr : Hid (res = .bad ⟨l, c, 2⟩) := by have hr := Hres.out; rw [if_pos he] at hr; exact hr.symm
    clear he
    go_enter Try.func131, Try.ntmps131
    go_wp2_with (go_at_call 112; refine (fail_calls b _ s p li co tv f0 f1 f2 (Bk.alloc h _) k l c 2 _).mono ?_; rintro e w2 ⟨rfl, hsc, hg2⟩)
    go_ret
    rw [Hr.out]
    exact ⟨rfl, ⟨_, _, _, _, hsc⟩, ((Below.refl _ _).alloc hbase _).trans (below_of_gb' hg2 (by simp; omega) (fun k hk => by cases hk; exact hbb))⟩
  · have e1 : t.toList.isEmpty = false := by rw [Htl.out]; cases out <;> simp_all
    by_cases hL : 16 < out.length
    · have hd : decide ((16 : Int) < (t.size : Int)) = true := by rw [Hsz.out]; simp; omega
      have Hr : Hid (res = .bad ⟨l, c, 6⟩) := by have hr := Hres.out; rw [if_neg he, if_pos hL] at hr; exact hr.symm
      clear he hL
      go_enter Try.func131, Try.ntmps131
      go_wp2_with (go_at_call 112; refine (fail_calls b _ s p li co tv f0 f1 f2 (Bk.alloc h _) k l c 6 _).mono ?_; rintro e w2 ⟨rfl, hsc, hg2⟩)
      go_ret
      rw [Hr.out]
      exact ⟨rfl, ⟨_, _, _, _, hsc⟩, ((Below.refl _ _).alloc hbase _).trans (below_of_gb' hg2 (by simp; omega) (fun k hk => by cases hk; exact hbb))⟩
    · have hd : decide ((16 : Int) < (t.size : Int)) = false := by rw [Hsz.out]; simp; omega
      have Hr : Hid (res = .good ⟨k, out, l, c⟩ (s.data.toList.drop p) li co) := by have hr := Hres.out; rw [if_neg he, if_neg hL] at hr; exact hr.symm
      have hnb2 : tv.ownBlock ≠ some b := Bk.own_ne h hown (by decide)
      have hrow : ∀ k, tv.ownBlock = some k → base ≤ k := fun k e => (hown.lt k e).1
      clear he hL
      obtain ⟨i0, hi0, hz0, hz1, hz2⟩ := info_parts tokInfo
      go_enter Try.func131, Try.ntmps131
      go_wp2
      have hd1 : Sc (w.alloc (.cells #[.int .i64 k, .string t, .int .i64 l, .int .i64 c] 46)) b s p li co tv f0 f1 f2 := Bk.alloc h _
      have hd2 : Bk (w.alloc (.cells #[.int .i64 k, .string t, .int .i64 l, .int .i64 c] 46)) w.heap.size 46 [.int .i64 k, .string t, .int .i64 l, .int .i64 c] := Bk.new _ _ _
      have hd3 := hown.alloc (.cells #[.int .i64 k, .string t, .int .i64 l, .int .i64 c] 46)
      have hd4 : Below base w (w.alloc (.cells #[.int .i64 k, .string t, .int .i64 l, .int .i64 c] 46)) := (Below.refl _ _).alloc hbase _
      obtain ⟨wd, hwd⟩ : ∃ wd, wd = w.alloc (.cells #[.int .i64 k, .string t, .int .i64 l, .int .i64 c] 46) := ⟨_, rfl⟩
      rw [← hwd] at hd1 hd2 hd3 hd4 ⊢
      obtain ⟨bt, hbt⟩ : ∃ bt, bt = w.heap.size := ⟨_, rfl⟩
      rw [← hbt] at hd2 ⊢
      clear hwd hbt h4 g4 hm1 lb lb' h hown
      obtain ⟨-, -, -, -, h4, -⟩ := hd1.cells
      obtain ⟨-, -, -, g4, -⟩ := hd1.free
      have t0 := hd2.cell 0
      have t1 := hd2.cell 1
      have t2 := hd2.cell 2
      have t3 := hd2.cell 3
      have lt0 : bt < wd.heap.size := hd2.lt
      have ltb : b < wd.heap.size := hd1.lt
      have hm1 := World.new_ne wd _ h4
      have hm2 := World.new_ne wd _ t0
      have hbw : base ≤ wd.heap.size := by have := hd4.size; omega
      have hfr : ∀ o, (wd.alloc o).frozen? ⟨b, 4, none⟩ = false := fun o => (frozen_alloc_lt wd o ⟨b, 4, none⟩ ltb).trans g4
      have hfc : ∀ o, (wd.alloc o).cell? ⟨b, 4, none⟩ = some tv := fun o => (World.cell?_alloc_lt wd o ⟨b, 4, none⟩ ltb).trans h4
      go_region_law (first | (refine step_append_lies _ (by rfl) _ _ _ (by rfl) base 46 i0 _ 4 40 Try.underlying42 hi0 hz0 hz1 hz2 rfl (by omega) tv n xs (by rfl) (hd3.alloc _) ⟨wd.heap.size, 0, none⟩ 1 1 [.int .i64 k, .string t, .int .i64 l, .int .i64 c] (by rfl) (by rfl) (World.news_of_block (cs := #[.int .i64 k, .string t, .int .i64 l, .int .i64 c]) (t := 46) (fr := (0, 0)) (heap_alloc_new _ _)) (by simp [Value.oneCell']) (by omega) (by unfold maxLen; omega) (by omega) (by simp; omega) (wd.heap.size + 1) (by simp) ?_; intro gg cap w2 hown3 hgrow hat hlt; have hw2 : w2.cell? ⟨b, 4, none⟩ = some tv := (hgrow.cell_far ⟨b, 4, none⟩ (by simp; omega) (Ne.symm hnb2)).trans (hfc _); have hw3 : w2.frozen? ⟨b, 4, none⟩ = false := (hgrow.frozen_far ⟨b, 4, none⟩ (by simp; omega) (Ne.symm hnb2)).trans (hfr _)))
      all_goals
        go_wp2_with fail
        go_ret
        obtain ⟨e1, e2, e3⟩ := push_close hd1 hd4 hbb hbw hnb2 hrow (((Below.refl _ _).alloc (Nat.le_refl _) _).drew) hgrow hown3
        rw [Hr.out]
        rw [Ht.out] at e2
        exact ⟨rfl, p, .slice (some ⟨gg, 0, none⟩) (n + 1) cap, rfl, hp, hli, hco, e1, e2, e3⟩

/-! ### Hexadecimal digits -/
theorem hex_index : ∀ n : Fin 256, Lib.indexByte Lex.hexes (UInt8.ofNat n.val) = Lex.hexZ n.val := by decide +kernel
theorem hex_index' (c : UInt8) : Lib.indexByte Lex.hexes ((c.toNat : Int).toNat.toUInt8) = Lex.hexv c := by
  have := hex_index ⟨c.toNat, c.toNat_lt⟩
  simpa [Lex.hexv] using this
theorem hexZ_lo (c : Int) : -1 ≤ Lex.hexZ c ∧ Lex.hexZ c ≤ 15 := by unfold Lex.hexZ; repeat' split <;> omega
theorem hexZ_ne (c : UInt8) (h : 0 ≤ Lex.hexv c) : c ≠ 10 := by rintro rfl; revert h; decide

end Go.Proofs.Ytjaampgpihicmaa
