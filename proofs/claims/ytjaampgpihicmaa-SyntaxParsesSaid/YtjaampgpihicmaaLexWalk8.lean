/- Chapter 4 (lex): token. -/
import Derived.Test.YtjaampgpihicmaaLexWalk7
namespace Go.Proofs.Ytjaampgpihicmaa
open Go.RowKit
attribute [local go_sem ↓] Go.wp_at_zero Go.wp_at_succ
attribute [local go_sem] frozen_alloc_lt

def signIx (c : UInt8) : Int := Lib.indexByte Lex.signs c
theorem sign_index : ∀ n : Fin 256, (0 ≤ signIx (UInt8.ofNat n.val)) = (Lex.isSign (UInt8.ofNat n.val) = true) := by
  have h : ∀ n : Fin 256, decide (0 ≤ signIx (UInt8.ofNat n.val)) = Lex.isSign (UInt8.ofNat n.val) := by decide +kernel
  intro n
  rw [← h n]
  simp
theorem sign_index' (c : UInt8) : (0 ≤ signIx c) = (Lex.isSign c = true) := by
  have := sign_index ⟨c.toNat, c.toNat_lt⟩
  simpa using this
theorem idx_sign (c : UInt8) (w : World) :
    Calls Try.prog 111 #[.string ⟨#[58, 124, 59, 40, 41, 91, 93, 123, 125, 42, 43, 63, 37]⟩, .int .u8 c.toNat] w fun e w' => e = .returned (.int .i64 (signIx c)) ∧ w = w' :=
  (indexByte_calls ⟨#[58, 124, 59, 40, 41, 91, 93, 123, 125, 42, 43, 63, 37]⟩ c.toNat w).mono fun e w' ⟨he, hw⟩ => ⟨by rw [he]; simp [signIx, Lex.signs], hw⟩

set_option maxRecDepth 8000 in
set_option maxHeartbeats 4000000 in
theorem token_calls (base b : Nat) (w : World) (s : ByteArray) (p li co : Nat) (tv : Value) (f0 f1 f2 : Int) (n : Nat) (xs : List Value) (h : Sc w b s p li co tv f0 f1 f2) (hlt : p < s.size)
    (hs : s.size ≤ 65536) (hli : li ≤ p + 1) (hco : co ≤ p + 1) (hown : w.ownsRow base 46 4 tv n xs) (hbase : base ≤ w.heap.size) (hbb : base ≤ b) (hn : n ≤ 70000) :
    Calls Try.prog 66 #[.pointer (some ⟨b, 0, none⟩)] w fun e w' => TokPost w base b s f0 f1 f2 n xs e w' (Lex.tokS s[p] (s.data.toList.drop (p + 1)) li co) := by
  generalize hres : Lex.tokS s[p] (s.data.toList.drop (p + 1)) li co = res
  unfold Lex.tokS at hres
  rw [← str_ext hlt] at hres
  have lb := h.lt
  have hnb : ∀ k, tv.ownBlock = some k → k < w.heap.size := fun k hk => (hown.lt k hk).2
  have Hnb := hid hnb
  clear hnb
  have hlt' : (p : Int) < (s.size : Int) := by omega
  have hb0 : (s[p].toNat : Int) ≤ 255 := by have := (s[p]).toNat_lt; omega
  have Hres := hid hres
  clear hres
  go_enter Try.func66, Try.ntmps66
  go_wp2_with (go_at_call 67; refine (here_calls b _ 3 s p li co tv f0 f1 f2 h).mono ?_; rintro e w' ⟨rfl, rfl⟩)
  have hd1 : Sc ((w.alloc (.cells #[.int .i64 3, .string ⟨#[]⟩, .int .i64 li, .int .i64 co] 46)).alloc (.cells #[.int .i64 3, .string ⟨#[]⟩, .int .i64 li, .int .i64 co] 46)).drew b s p li co tv f0 f1 f2 := Bk.drew (Bk.alloc (Bk.alloc h _) _)
  have hd2 : Bk ((w.alloc (.cells #[.int .i64 3, .string ⟨#[]⟩, .int .i64 li, .int .i64 co] 46)).alloc (.cells #[.int .i64 3, .string ⟨#[]⟩, .int .i64 li, .int .i64 co] 46)).drew (w.heap.size + 1) 46 [.int .i64 3, .string ⟨#[]⟩, .int .i64 li, .int .i64 co] := Bk.drew (bk_new (by simp))
  have hd3 : ((w.alloc (.cells #[.int .i64 3, .string ⟨#[]⟩, .int .i64 li, .int .i64 co] 46)).alloc (.cells #[.int .i64 3, .string ⟨#[]⟩, .int .i64 li, .int .i64 co] 46)).drew.ownsRow base 46 4 tv n xs := (hown.alloc _).alloc _
  have hd4 : Below base w ((w.alloc (.cells #[.int .i64 3, .string ⟨#[]⟩, .int .i64 li, .int .i64 co] 46)).alloc (.cells #[.int .i64 3, .string ⟨#[]⟩, .int .i64 li, .int .i64 co] 46)).drew := (((Below.refl _ _).alloc hbase _).alloc (by simp; omega) _).drew
  have hd5 : tv.ownBlock ≠ some (w.heap.size + 1) := fun e => by have := Hnb.out _ e; omega
  obtain ⟨wd, hwd⟩ : ∃ wd, wd = ((w.alloc (.cells #[.int .i64 3, .string ⟨#[]⟩, .int .i64 li, .int .i64 co] 46)).alloc (.cells #[.int .i64 3, .string ⟨#[]⟩, .int .i64 li, .int .i64 co] 46)).drew := ⟨_, rfl⟩
  rw [← hwd] at hd1 hd2 hd3 hd4 ⊢
  obtain ⟨bt, hbt⟩ : ∃ bt, bt = w.heap.size + 1 := ⟨_, rfl⟩
  rw [← hbt] at hd2 hd5 ⊢
  have hz : base ≤ wd.heap.size := Nat.le_trans hbase hd4.size
  have hbtb : base ≤ bt := by omega
  clear hwd hbt lb Hnb h hown
  obtain ⟨h0, h1, -⟩ := hd1.cells
  by_cases hl : Lex.isLetter s[p] = true
  · have hl' : Lex.letterZ (s[p].toNat : Int) = true := hl
    have hres := Hres.out
    rw [if_pos hl] at hres
    have Hres := hid hres
    clear hres hl
    go_wp2_with fail
    go_quiet (fail)
    go_wp2_with (first | (go_at_call 70; refine (letter_calls _ _).mono ?_; rintro e w' ⟨rfl, rfl⟩) | (go_at_call 109; refine (name_calls base b _ s p li co tv f0 f1 f2 n xs (Bk.drewN hd1 _) (by omega) hs hli hco (own_drewN hd3 _) hz hbb hn).mono ?_; rintro e w4 htp; obtain ⟨bv, rfl⟩ := tokPost_ret htp; have Htp := hid htp; clear htp))
    go_ret
    rw [← Hres.out]
    exact tokPost_trans (below_drewN hd4 _) Htp.out
  · have hl' : Lex.letterZ (s[p].toNat : Int) = false := Bool.eq_false_iff.2 hl
    have hres := Hres.out
    rw [if_neg hl] at hres
    by_cases hq : s[p] = 39 ∨ s[p] = 34
    · rw [if_pos hq] at hres
      have Hres : Hid (litRes li co s (Lex.litS s[p] .norm (s.data.toList.drop (p + 1)) [] (co + 1)) = res) := by
        rw [← hres]
        cases Lex.litS s[p] .norm (s.data.toList.drop (p + 1)) [] (co + 1) <;> rfl
      have Hq10 := hid (show s[p] ≠ 10 by rcases hq with e | e <;> rw [e] <;> decide)
      have hq' : ((s[p].toNat : Int) == 39) = true ∨ ((s[p].toNat : Int) == 39) = false ∧ ((s[p].toNat : Int) == 34) = true := by
        rcases hq with e | e
        · left; rw [e]; rfl
        · right; rw [e]; exact ⟨rfl, rfl⟩
      clear hres hl hq
      rcases hq' with hq1 | ⟨hq1, hq2⟩
      all_goals
        go_wp2_with fail
        go_quiet (fail)
        go_wp2_with (first | (go_at_call 70; refine (letter_calls _ _).mono ?_; rintro e w' ⟨rfl, rfl⟩) | (go_at_call 110; refine (literal_calls base b _ s p li co tv f0 f1 f2 n xs (Bk.drewN hd1 _) hlt hs hli hco (own_drewN hd3 _) hz hbb hn Hq10.out).mono ?_; rintro e w4 htp; obtain ⟨bv, rfl⟩ := tokPost_ret htp; have Htp := hid htp; clear htp))
        go_ret
        rw [← Hres.out]
        exact tokPost_trans (below_drewN hd4 _) Htp.out
    · rw [if_neg hq] at hres
      have hq1 : ((s[p].toNat : Int) == 39) = false := tobf s[p] 39 (by omega) (fun e => hq (.inl e))
      have hq2 : ((s[p].toNat : Int) == 34) = false := tobf s[p] 34 (by omega) (fun e => hq (.inr e))
      by_cases hsg : Lex.isSign s[p] = true
      · rw [if_pos hsg] at hres
        have hsg' : (0 : Int) ≤ signIx s[p] := by rw [sign_index']; exact hsg
        have Hno := hid (tobf s[p] 10 (by omega) (by rintro e; rw [e] at hsg; exact absurd hsg (by decide)))
        have Hres := hid hres
        clear hres hl hq hsg
        go_wp2_with fail
        go_quiet (fail)
        go_wp2_with (first | (go_at_call 70; refine (letter_calls _ _).mono ?_; rintro e w' ⟨rfl, rfl⟩) | (go_at_call 111; refine (idx_sign _ _).mono ?_; rintro e w' ⟨rfl, rfl⟩))
        have hq0 : (0 : Int) ≤ (p : Int) := by omega
        have hq3 : (p : Int) + 1 ≤ (s.size : Int) := by omega
        have hne : b ≠ bt := Bk.ne hd1 hd2 (by decide)
        have t1 := hd2.cell 1
        have z1 := hd2.free 1
        go_region
        go_wp2_with fail
        have e1 : Sc ((wd.drewN (nq + 1)).setCell ⟨bt, 1, none⟩ (.string (s.extract p (p + 1)))) b s p li co tv f0 f1 f2 := Bk.far (Bk.drewN hd1 _) hne _
        have e2 : Bk ((wd.drewN (nq + 1)).setCell ⟨bt, 1, none⟩ (.string (s.extract p (p + 1)))) bt 46 [.int .i64 3, .string (s.extract p (p + 1)), .int .i64 li, .int .i64 co] := Bk.set (Bk.drewN hd2 _) 1 _
        have e3 : ((wd.drewN (nq + 1)).setCell ⟨bt, 1, none⟩ (.string (s.extract p (p + 1)))).ownsRow base 46 4 tv n xs := own_set (own_drewN hd3 _) hd5 _
        have e4 : Below base w ((wd.drewN (nq + 1)).setCell ⟨bt, 1, none⟩ (.string (s.extract p (p + 1)))) := (below_drewN hd4 _).setCell (p := ⟨bt, 1, none⟩) hbtb _
        have e5 : base ≤ ((wd.drewN (nq + 1)).setCell ⟨bt, 1, none⟩ (.string (s.extract p (p + 1)))).heap.size := by simp [World.setCell]; exact hz
        obtain ⟨we, hwe⟩ : ∃ we, we = (wd.drewN (nq + 1)).setCell ⟨bt, 1, none⟩ (.string (s.extract p (p + 1))) := ⟨_, rfl⟩
        rw [← hwe] at e1 e2 e3 e4 e5 ⊢
        clear hwe hd1 hd2 hd3 hd4 h0 h1 t1 z1 hz
        refine (step_no b we s p li co tv f0 f1 f2 e1 hlt hs (by omega) Hno.out).mono ?_
        rintro e w3 ⟨rfl, k1, hg3⟩
        have k2 := e2.grown hg3 (by simpa using Ne.symm hne)
        have e1b : Bk we b 122 _ := e1
        have hnb2 : tv.ownBlock ≠ some b := e1b.own_ne e3 (by decide)
        have k3 := own_gb e3 hg3 (fun k hk => by cases hk; exact hnb2)
        have k4 := e4.trans (below_of_gb' hg3 e5 (fun k hk => by cases hk; exact hbb))
        have hrow : ∀ k, tv.ownBlock = some k → base ≤ k := fun k e => (k3.lt k e).1
        have hbw : base ≤ w3.heap.size := Nat.le_trans e5 hg3.size
        clear e1 e2 e3 e4 e1b hg3
        obtain ⟨-, -, -, -, h4, -⟩ := k1.cells
        obtain ⟨-, -, -, g4, -⟩ := k1.free
        have t0 := k2.cell 0
        have t1 := k2.cell 1
        have t2 := k2.cell 2
        have t3 := k2.cell 3
        have lt0 : bt < w3.heap.size := k2.lt
        have ltb : b < w3.heap.size := k1.lt
        have hm1 := World.new_ne w3 _ h4
        have hm2 := World.new_ne w3 _ t0
        obtain ⟨i0, hi0, hz0, hz1, hz2⟩ := info_parts tokInfo
        have hfr : ∀ o, (w3.alloc o).frozen? ⟨b, 4, none⟩ = false := fun o => (frozen_alloc_lt w3 o ⟨b, 4, none⟩ ltb).trans g4
        have hfc : ∀ o, (w3.alloc o).cell? ⟨b, 4, none⟩ = some tv := fun o => (World.cell?_alloc_lt w3 o ⟨b, 4, none⟩ ltb).trans h4
        go_wp2_with fail
        go_region_law (first | (refine step_append_lies _ (by rfl) _ _ _ (by rfl) base 46 i0 _ 4 40 Try.underlying42 hi0 hz0 hz1 hz2 rfl (by omega) tv n xs (by rfl) (k3.alloc _) ⟨w3.heap.size, 0, none⟩ 1 1 [.int .i64 3, .string (s.extract p (p + 1)), .int .i64 li, .int .i64 co] (by rfl) (by rfl) (World.news_of_block (cs := #[.int .i64 3, .string (s.extract p (p + 1)), .int .i64 li, .int .i64 co]) (t := 46) (fr := (0, 0)) (heap_alloc_new _ _)) (by simp [Value.oneCell']) (by omega) (by unfold maxLen; omega) (by omega) (by simp; omega) (w3.heap.size + 1) (by simp) ?_; intro gg cap w2 hown3 hgrow hat hlt9; have hw2 : w2.cell? ⟨b, 4, none⟩ = some tv := (hgrow.cell_far ⟨b, 4, none⟩ (by simp; omega) (Ne.symm hnb2)).trans (hfc _); have hw3 : w2.frozen? ⟨b, 4, none⟩ = false := (hgrow.frozen_far ⟨b, 4, none⟩ (by simp; omega) (Ne.symm hnb2)).trans (hfr _)))
        all_goals
          go_wp2_with fail
          go_ret
          obtain ⟨m1, m2, m3⟩ := push_close k1 k4 hbb hbw hnb2 hrow (((Below.refl _ _).alloc (Nat.le_refl _) _).drew) hgrow hown3
          have hx : s.extract p (p + 1) = ⟨[s[p]].toArray⟩ := by
            rw [extract_list, str_ext hlt, show p + 1 - p = 1 by omega]; rfl
          rw [hx] at m2
          rw [← Hres.out]
          exact ⟨rfl, p + 1, .slice (some ⟨gg, 0, none⟩) (n + 1) cap, rfl, by omega, by omega, by omega, m1, m2, m3⟩
      · rw [if_neg hsg] at hres
        have hsg' : signIx s[p] < (0 : Int) := by
          have := sign_index' s[p]
          rcases Int.lt_or_le (signIx s[p]) 0 with hh | hh
          · exact hh
          · rw [this] at hh; exact absurd hh hsg
        have Hres := hid hres
        clear hres hl hq hsg
        have t0 := hd2.cell 0
        have t1 := hd2.cell 1
        have t2 := hd2.cell 2
        have t3 := hd2.cell 3
        go_wp2_with fail
        go_quiet (fail)
        go_wp2_with (first | (go_at_call 70; refine (letter_calls _ _).mono ?_; rintro e w' ⟨rfl, rfl⟩) | (go_at_call 111; refine (idx_sign _ _).mono ?_; rintro e w' ⟨rfl, rfl⟩) | (go_at_call 112; refine (fail_calls b _ s p li co tv f0 f1 f2 (Bk.drewN hd1 _) 3 li co 2 _).mono ?_; rintro e w2 ⟨rfl, hsc, hg2⟩))
        go_ret
        rw [← Hres.out]
        exact ⟨rfl, ⟨_, _, _, _, hsc⟩, (below_drewN hd4 _).trans (below_of_gb' hg2 hz (fun k hk => by cases hk; exact hbb))⟩
end Go.Proofs.Ytjaampgpihicmaa
