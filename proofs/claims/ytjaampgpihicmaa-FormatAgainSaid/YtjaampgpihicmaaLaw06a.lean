/- Chapter 6 (format): FormatAgain: what is read and written is read again as the same. -/
import Derived.Test.YtjaampgpihicmaaFmt6
import Derived.Test.YtjaampgpihicmaaSynLaw6
namespace Go.Proofs.Ytjaampgpihicmaa
open Go.RowKit
attribute [local go_sem ↓] Go.wp_at_zero Go.wp_at_succ
attribute [local go_sem] frozen_alloc_lt
open Syn (Nd Nod)
open Fmt (bytesG keysG textG deepT)

theorem two_box (w : World) (s : ByteArray) (ga : Option Addr) (n ca : Nat) (x y z : Int) (wz : World) (b c : Nat) (hb : b = w.heap.size) (hc : c = b + 1)
    (hz : wz = (w.alloc (.cells #[.string s, .slice ga n ca] 25)).alloc (.cells #[.int .i64 x, .int .i64 y, .int .i64 z] 28)) :
    Below w.heap.size w wz ∧ Bk wz b 25 [.string s, .slice ga n ca] ∧ Bk wz c 28 [.int .i64 x, .int .i64 y, .int .i64 z] := by
  subst hz hb hc
  refine ⟨bel_trans (bel_new w _) (bel_new _ _), (Bk.new w 25 [.string s, .slice ga n ca]).alloc (.cells #[.int .i64 x, .int .i64 y, .int .i64 z] 28), ?_⟩
  have := Bk.new (w.alloc (.cells #[.string s, .slice ga n ca] 25)) 28 [.int .i64 x, .int .i64 y, .int .i64 z]
  simpa using this
set_option maxRecDepth 8000 in
set_option maxHeartbeats 4000000 in
theorem again_long (s : ByteArray) (w : World) (hs : 5000 < s.size) : Calls Try.prog 10 #[.string s] w fun e w' => e = .returned (.bool true) ∧ Below w.heap.size w w' := by
  have Hsp := hid (speaks06_calls w)
  have hs2 : (5000 : Int) < (s.size : Int) := by omega
  go_enter Try.func10, Try.ntmps10
  go_wp2_with (go_at_call 37; refine Hsp.out.mono ?_; rintro e w1 ⟨rfl, hb1⟩)
  go_ret
  exact ⟨rfl, hb1⟩
set_option maxRecDepth 8000 in
set_option maxHeartbeats 4000000 in
theorem again_bad (s : ByteArray) (w : World) (hs : s.size ≤ 5000) {f : Lex.Flt} (h : Syn.parseS s.data.toList = .bad f) : Calls Try.prog 10 #[.string s] w fun e w' => e = .returned (.bool true) ∧ Below w.heap.size w w' := by
  have Hsp := hid (speaks06_calls w)
  have hs2 : ¬ (5000 : Int) < (s.size : Int) := by omega
  have hp : ∀ w, Calls Try.prog 15 #[.string s] w fun e w' => ParsePost w e w' (.bad f) := fun w => by rw [← h]; exact parse_calls s w (by omega)
  have hf := Syn.parse_code h
  obtain ⟨z, hz⟩ : ∃ z : Int, z = f.code := ⟨_, rfl⟩
  have hz0 : z ≠ 0 := by rw [hz]; omega
  simp only [ParsePost, ← hz] at hp
  have Hp := hid hp
  clear hp hz hf h hs
  go_enter Try.func10, Try.ntmps10
  go_wp2_with (first
    | (go_at_call 37; refine Hsp.out.mono ?_; rintro e w1 ⟨rfl, hb1⟩)
    | (go_at_call 15; refine (Hp.out _).mono ?_; rintro e w2 ⟨rfl, hb2⟩))
  go_ret
  exact ⟨rfl, bel_trans hb1 (bel_trans hb2 (bel_trans (bel_new _ _) (bel_new _ _)))⟩
theorem again_facts {s st : List UInt8} {rs : List (List UInt8 × Nod)} (h : Syn.parseS s = .ok st rs) (hl : (bytesG (textG st rs)).length ≤ 65536) :
    ∃ T m : List Lex.Tok, Lex.scan s = .good T ∧ Lex.scan (bytesG (textG st rs)) = .good m ∧ Syn.parseS (bytesG (textG st rs)) = .ok st rs ∧ m.length ≤ T.length ∧ m.length ≤ 5000 ∧ deepT m ≤ deepT T := by
  obtain ⟨T, hT⟩ := Syn.parse_good h
  have hp : Syn.parseT T = .ok st rs := by unfold Syn.parseS at h; rw [hT] at h; exact h
  obtain ⟨b1, b2, b3, d, hd, hdd⟩ := Fmt.text_bound hT hp
  obtain ⟨p1, p2, p3, p4⟩ := Syn.parse_proper h
  obtain ⟨m, m1, m2, m3⟩ := Fmt.text_parse p1 p4 b3 p2 p3 hl b2
  have hm : m.length = (keysG (textG st rs)).length + 1 := by
    have := congrArg List.length m2
    simpa using this
  refine ⟨T, m, hT, m1, m3, by omega, by omega, ?_⟩
  rw [Fmt.deep_of m2 hd]
  exact hdd
set_option maxRecDepth 8000 in
set_option maxHeartbeats 4000000 in
theorem again_ok (s : ByteArray) (w : World) (hs : s.size ≤ 5000) {st : List UInt8} {rs : List (List UInt8 × Nod)} (h : Syn.parseS s.data.toList = .ok st rs) : Calls Try.prog 10 #[.string s] w fun e w' => e = .returned (.bool true) ∧ Below w.heap.size w w' := by
  have Hsp := hid (speaks06_calls w)
  have hs2 : ¬ (5000 : Int) < (s.size : Int) := by omega
  have hp : ∀ w, Calls Try.prog 15 #[.string s] w fun e w' => ParsePost w e w' (.ok st rs) := fun w => by rw [← h]; exact parse_calls s w (by omega)
  simp only [ParsePost] at hp
  have htx := fun w ga ca hr => text_read h w ga ca hr
  obtain ⟨L, hL⟩ : ∃ L, L = rs.length := ⟨_, rfl⟩
  obtain ⟨sv, hsv⟩ : ∃ sv : ByteArray, sv = ⟨st.toArray⟩ := ⟨_, rfl⟩
  obtain ⟨tv, htv⟩ : ∃ tv : ByteArray, tv = ⟨(bytesG (textG st rs)).toArray⟩ := ⟨_, rfl⟩
  have htl : tv.data.toList = bytesG (textG st rs) := by rw [htv]
  have hts : tv.size = (bytesG (textG st rs)).length := by rw [htv, Lib.size_eq]
  rw [← htv, ← hsv, ← hL] at htx
  rw [← hsv, ← hL] at hp
  have Hp := hid hp
  have Htx := hid htx
  have Hh := hid h
  have Hs := hid hs
  have HT := hid (And.intro htl (And.intro hts (And.intro hsv hL)))
  clear hp htx h hs hL hsv htv htl hts
  go_enter Try.func10, Try.ntmps10
  go_upto_region 6 with (first
    | (go_at_call 37; refine Hsp.out.mono ?_; rintro e w1 ⟨rfl, hb1⟩)
    | (go_at_call 15; refine (Hp.out _).mono ?_; rintro e w2 ⟨ga, ca, rfl, hr2, hb2⟩))
  obtain ⟨wa, hwa⟩ : ∃ wa, wa = (w2.alloc (.cells #[.string sv, .slice ga L ca] 25)).alloc (.cells #[.int .i64 0, .int .i64 0, .int .i64 0] 28) := ⟨_, rfl⟩
  obtain ⟨b, hb⟩ : ∃ b, b = w2.heap.size := ⟨_, rfl⟩
  obtain ⟨c, hc⟩ : ∃ c, c = b + 1 := ⟨_, rfl⟩
  have hbox := two_box w2 sv ga L ca 0 0 0 wa b c hb hc hwa
  rw [← hwa, ← hb, ← hc]
  have hra := (RulesIn.of hr2).later hbox.1
  have y2 := hbox.2.2.cell 2
  simp only [List.getElem?_cons_zero, List.getElem?_cons_succ] at y2
  have Hra := hid hra
  have Hka := hid hbox.2.1
  have HB0 := hid (bel_trans hb1 (bel_trans hb2 hbox.1))
  clear hwa hb hc hbox hra hr2 hb2 hb1
  go_upto_region 8 with fail
  have x0 := Hka.out.cell 0
  have x1 := Hka.out.cell 1
  simp only [List.getElem?_cons_zero, List.getElem?_cons_succ] at x0 x1
  go_upto_region 11 with (go_at_call 38; refine (Htx.out wa ga ca Hra.out).mono ?_; rintro e w4 ⟨rfl, hb4⟩)
  have hk4 := Hka.out.below hb4 Hka.out.lt
  have hr4 := Hra.out.later hb4
  have Hk4 := hid hk4
  have Hr4 := hid hr4
  have HB4 := hid (bel_trans HB0.out hb4)
  clear x0 x1 y2 hb4 hk4 hr4
  by_cases hlong : 65536 < tv.size
  · have hl2 : (65536 : Int) < (tv.size : Int) := by omega
    clear hlong
    go_wp2_with fail
    go_ret
    exact ⟨rfl, HB4.out⟩
  · have hl2 : ¬ (65536 : Int) < (tv.size : Int) := by omega
    obtain ⟨T, m, hT, hm, hpm, hle, h5, hdp⟩ := again_facts Hh.out (by rw [← HT.out.2.1]; omega)
    have hp2 : ∀ w, Calls Try.prog 15 #[.string tv] w fun e w' => ParsePost w e w' (.ok st rs) := fun w => by rw [← hpm, ← HT.out.1]; exact parse_calls tv w (by omega)
    simp only [ParsePost] at hp2
    rw [← HT.out.2.2.1, ← HT.out.2.2.2] at hp2
    have Hp2 := hid hp2
    obtain ⟨ts, x9, hT9, _, _, hT8⟩ := Lex.scan_ok hT
    have hTl : T.length ≤ 5001 := by have h1 := Hs.out; rw [hT9, List.length_append]; simp only [List.length_cons, List.length_nil]; have : s.data.toList.length = s.size := by rw [Array.length_toList]; rfl
                                     omega
    have hTp : 0 < T.length := by rw [hT9]; simp
    obtain ⟨ts2, x7, hm9, _, _, _⟩ := Lex.scan_ok hm
    have hmp : 0 < m.length := by rw [hm9]; simp
    have hds := fun w => deep_calls s w (by have := Hs.out; omega) hT (by omega)
    have hdt := fun w => deep_calls tv w (by omega) (by rw [HT.out.1]; exact hm) (by omega)
    have hscs := fun w => scan_calls s w (by have := Hs.out; omega)
    have hsct := fun w => scan_calls tv w (by omega)
    rw [hT] at hscs
    rw [HT.out.1, hm] at hsct
    obtain ⟨N1, hN1⟩ : ∃ N, N = T.length := ⟨_, rfl⟩
    obtain ⟨N2, hN2⟩ : ∃ N, N = m.length := ⟨_, rfl⟩
    obtain ⟨D1, hD1⟩ : ∃ D, D = deepT T := ⟨_, rfl⟩
    obtain ⟨D2, hD2⟩ : ∃ D, D = deepT m := ⟨_, rfl⟩
    rw [← hD1] at hds hdp
    rw [← hD2] at hdt hdp
    rw [← hN1, ← hN2] at hle
    have hle2 : (N2 : Int) ≤ (N1 : Int) := by omega
    have hdeep : ∀ (x : ByteArray) (D : Int) (w : World), (x = tv ∧ D = D2 ∨ x = s ∧ D = D1) → Calls Try.prog 39 #[.string x] w fun e w' => e = .returned (.int .i64 D) ∧ Below w.heap.size w w' := by
      rintro x D w (⟨rfl, rfl⟩ | ⟨rfl, rfl⟩)
      · exact hdt w
      · exact hds w
    have Hdeep := hid hdeep
    clear hdeep
    have Hscs := hid hscs
    have Hsct := hid hsct
    have HN := hid (And.intro hTp (And.intro hmp (And.intro hN1 hN2)))
    have hsame := fun w (hA : RulesIn w ga rs) (gb : Option Addr) (cb : Nat) (hB : RulesIn w gb rs) => same_calls (M := 100000) (by omega) w (st, rs) (st, rs) ga gb ca cb hA hB (by have := (Syn.parse_fits Hh.out).1; show rs.length ≤ _; omega) (by have := (Syn.parse_fits Hh.out).1; show rs.length ≤ _; omega) (Syn.parse_fits Hh.out).2 (Syn.parse_fits Hh.out).2
    rw [(Syn.sameG_iff (st, rs) (st, rs)).2 rfl] at hsame
    simp only [] at hsame
    rw [← HT.out.2.2.1, ← HT.out.2.2.2] at hsame
    have Hsame := hid hsame
    clear hsame hds hdt hscs hsct hle hlong h5 hT hm hpm hp2 hT9 hT8 hm9 hTl hTp hmp hN1 hN2 hD1 hD2
    go_upto_region 14 with (go_at_call 15; refine (Hp2.out _).mono ?_; rintro e w5 ⟨gb, cb, rfl, hr5, hb5⟩)
    obtain ⟨wb, hwb⟩ : ∃ wb, wb = (w5.alloc (.cells #[.string sv, .slice gb L cb] 25)).alloc (.cells #[.int .i64 0, .int .i64 0, .int .i64 0] 28) := ⟨_, rfl⟩
    obtain ⟨b', hb'⟩ : ∃ b, b = w5.heap.size := ⟨_, rfl⟩
    obtain ⟨c', hc'⟩ : ∃ c, c = b' + 1 := ⟨_, rfl⟩
    have hbox := two_box w5 sv gb L cb 0 0 0 wb b' c' hb' hc' hwb
    rw [← hwb, ← hb', ← hc']
    have Hrb := hid ((RulesIn.of hr5).later hbox.1)
    have Hkb := hid hbox.2
    have H4 := hid (And.intro ((Hk4.out.below hb5 Hk4.out.lt).below hbox.1 (Hk4.out.below hb5 Hk4.out.lt).lt) ((Hr4.out.later hb5).later hbox.1))
    have HB5 := hid (bel_trans HB4.out (bel_trans hb5 hbox.1))
    clear hwb hb' hc' hbox hr5 hb5
    have x0 := Hkb.out.1.cell 0
    have x1 := Hkb.out.1.cell 1
    simp only [List.getElem?_cons_zero, List.getElem?_cons_succ] at x0 x1
    go_upto_region 15 with (go_at_call 38; refine (Htx.out wb gb cb Hrb.out).mono ?_; rintro e w6 ⟨rfl, hb6⟩)
    have Hb6 := hid hb6
    clear x0 x1 hb6
    go_upto_region 16 with (go_at_call 20; refine (Hscs.out _).mono ?_; rintro e w7 ⟨v7, rfl, hown7, hb7⟩; obtain ⟨g7, c7, rfl, -, hg7⟩ := hown7.form HN.out.1; rw [← HN.out.2.2.1]; clear hown7 hg7)
    have hal7 := bel_new w7 (.cells #[.int .i64 0, .int .i64 0, .int .i64 0] 28)
    obtain ⟨wc, hwc⟩ : ∃ wc, wc = w7.alloc (.cells #[.int .i64 0, .int .i64 0, .int .i64 0] 28) := ⟨_, rfl⟩
    obtain ⟨z7, hz7⟩ : ∃ z, z = w7.heap.size := ⟨_, rfl⟩
    rw [← hwc] at hal7 ⊢
    have Hb7 := hid (bel_trans hb7 hal7)
    rw [← hz7]
    clear hwc hz7 hal7 hb7
    go_upto_region 17 with (go_at_call 20; refine (Hsct.out _).mono ?_; rintro e w8 ⟨v8, rfl, hown8, hb8⟩; obtain ⟨g8, c8, rfl, -, hg8⟩ := hown8.form HN.out.2.1; rw [← HN.out.2.2.2]; clear hown8 hg8)
    have hal8 := bel_new w8 (.cells #[.int .i64 0, .int .i64 0, .int .i64 0] 28)
    obtain ⟨wd, hwd⟩ : ∃ wd, wd = w8.alloc (.cells #[.int .i64 0, .int .i64 0, .int .i64 0] 28) := ⟨_, rfl⟩
    obtain ⟨z8, hz8⟩ : ∃ z, z = w8.heap.size := ⟨_, rfl⟩
    rw [← hwd] at hal8 ⊢
    have hbd := bel_trans (bel_trans Hb6.out Hb7.out) (bel_trans hb8 hal8)
    rw [← hz8]
    clear hwd hz8 hal8 hb8
    have k4 := H4.out.1.below hbd H4.out.1.lt
    have kb := Hkb.out.1.below hbd Hkb.out.1.lt
    have kc := Hkb.out.2.below hbd Hkb.out.2.lt
    have Hsm := hid (Hsame.out wd (H4.out.2.later hbd) gb cb (Hrb.out.later hbd))
    have p0 := k4.cell 0
    have p1 := k4.cell 1
    have q0 := kb.cell 0
    have q1 := kb.cell 1
    have r2 := kc.cell 2
    simp only [List.getElem?_cons_zero, List.getElem?_cons_succ] at p0 p1 q0 q1 r2
    have HB8 := hid (bel_trans HB5.out hbd)
    clear k4 kb kc hbd
    go_wp2_with (first
      | (go_at_call 24; refine Hsm.out.mono ?_; rintro e w9 ⟨rfl, hb9⟩)
      | (go_at_call 39; refine (Hdeep.out _ D2 _ (by exact Or.inl ⟨rfl, rfl⟩)).mono ?_; rintro e w10 ⟨rfl, hb10⟩)
      | (go_at_call 39; refine (Hdeep.out _ D1 _ (by exact Or.inr ⟨rfl, rfl⟩)).mono ?_; rintro e w11 ⟨rfl, hb11⟩))
    go_ret
    exact ⟨by first | rfl | simp [*], bel_trans HB8.out (bel_trans hb9 (bel_trans hb10 hb11))⟩
theorem again_calls (s : ByteArray) (w : World) : Calls Try.prog 10 #[.string s] w fun e w' => e = .returned (.bool true) ∧ Below w.heap.size w w' := by
  by_cases hs : 5000 < s.size
  · exact again_long s w hs
  · cases h : Syn.parseS s.data.toList with
    | bad f => exact again_bad s w (by omega) h
    | ok st rs => exact again_ok s w (by omega) h
end Go.Proofs.Ytjaampgpihicmaa
