/- Chapter 4 (lex), the document's answer: literals. -/
import Derived.Test.YtjaampgpihicmaaLexRef1
namespace Go.Proofs.Ytjaampgpihicmaa
open Go.RowKit
attribute [local go_sem ↓] Go.wp_at_zero Go.wp_at_succ
attribute [local go_sem] frozen_alloc_lt

/-- What Literal leaves: from byte p of s on. -/
def RLitPost (w0 : World) (s : ByteArray) (p : Nat) (e : Ending) (w : World) : Lex.LitRes → Prop
  | .bad k => ∃ q : Nat, q ≤ s.size ∧ place s q = ((place s p).1, k) ∧ e = .returned (.tuple #[.string ⟨#[]⟩, .int .i64 q, .bool false]) ∧ Below w0.heap.size w0 w
  | .good o rest k => ∃ q : Nat, q ≤ s.size ∧ p < q ∧ rest = s.data.toList.drop q ∧ place s q = ((place s p).1, k) ∧ e = .returned (.tuple #[.string ⟨o.toArray⟩, .int .i64 q, .bool true]) ∧ Below w0.heap.size w0 w

/-- The bytes so far. -/
structure RSt (w0 w : World) (v8 : Value) (o : List UInt8) : Prop where
  own : w.ownsRow w0.heap.size 5 1 v8 o.length (u8s o)
  bel : Below w0.heap.size w0 w
section
variable {w0 w w' : World} {v8 v8' : Value} {o o' : List UInt8}
theorem RSt.hz (h : RSt w0 w v8 o) : w0.heap.size ≤ w.heap.size := h.bel.size
theorem RSt.alloc (h : RSt w0 w v8 o) (x : Obj) : RSt w0 (w.alloc x) v8 o := ⟨h.own.alloc x, h.bel.alloc h.hz x⟩
theorem RSt.pushed (h : RSt w0 w v8 o) (hg : w.grownBy w' v8.ownBlock) (hown : w'.ownsRow w0.heap.size 5 1 v8' o'.length (u8s o')) : RSt w0 w' v8' o' :=
  ⟨hown, h.bel.trans (below_of_gb' hg h.hz (fun k hk => (h.own.lt k hk).1))⟩
end

/-- Within a literal: the rest of it gives lr. -/
def RLitAt (w0 : World) (s : ByteArray) (p : Nat) (qu : UInt8) (lr : Lex.LitRes) (k : Nat) (v8 v9 : Value) (w : World) : Prop :=
  ∃ (q cq : Nat) (o : List UInt8), v9 = .int .i64 q ∧ RSt w0 w v8 o ∧ q ≤ s.size ∧ p < q ∧ place s q = ((place s p).1, cq) ∧ o.length ≤ q ∧ Lex.litS qu .norm (s.data.toList.drop q) o cq = lr ∧ k = s.size - q

/-- Within the two digits. -/
def RHexAt (s : ByteArray) (p : Nat) (er : Lex.EscRes) (q : Nat) (w1 : World) (k : Nat) (v9 v11 v12 : Value) (w : World) : Prop :=
  ∃ (i j : Nat) (n : Int) (co : Nat), v12 = .int .i64 i ∧ v9 = .int .i64 j ∧ v11 = .int .i64 n ∧ i ≤ 2 ∧ k = 2 - i ∧ j < s.size ∧ q ≤ j ∧ 0 ≤ n ∧ (i = 0 → n = 0) ∧ (i = 1 → n ≤ 15) ∧ (i = 2 → n ≤ 255) ∧
    place s (j + 1) = ((place s p).1, co) ∧ Lex.escH (2 - i) n (s.data.toList.drop (j + 1)) co = er ∧ w = w1

theorem place_step {s : ByteArray} {p q l c : Nat} (h : place s q = (l, c)) (hq : q < s.size) (hp : p = q + 1) (h10 : s[q] ≠ 10) : place s p = (l, c + 1) := by
  subst hp
  rw [place_next s q hq, h]
  simp [Lex.advL, Lex.advC, h10]

set_option maxRecDepth 8000 in
set_option maxHeartbeats 8000000 in
theorem rlit_calls (s : ByteArray) (p : Nat) (w : World) (hs : s.size ≤ 65536) (hlt : p < s.size) (hq10 : s[p] ≠ 10) :
    Calls Try.prog 102 #[.string s, .int .i64 p] w fun e w' => RLitPost w s p e w' (Lex.litS s[p] .norm (s.data.toList.drop (p + 1)) [] ((place s p).2 + 1)) := by
  generalize hres : Lex.litS s[p] .norm (s.data.toList.drop (p + 1)) [] ((place s p).2 + 1) = lr
  have Hres := hid hres
  have Hq0 := hid hq10
  have Hp1 := hid (place_step (p := p + 1) (q := p) (l := (place s p).1) (c := (place s p).2) rfl hlt rfl hq10)
  clear hres hq10
  obtain ⟨qu, hqu⟩ : ∃ qu, qu = s[p] := ⟨_, rfl⟩
  have Hq10 : Hid (qu ≠ 10) := by rw [hqu]; exact Hq0.out
  rw [← hqu] at Hres
  have Hqu := hid hqu
  have hb0 : (qu.toNat : Int) ≤ 255 := by have := qu.toNat_lt; omega
  have hlt' : (p : Int) < (s.size : Int) := by omega
  have hq2 : (s[p].toNat : Int) = (qu.toNat : Int) := by rw [hqu]
  clear hqu
  obtain ⟨i8, hi8, hz0, hz1, hz2⟩ := info_parts u8Info
  go_enter Try.func102, Try.ntmps102
  go_wp2_with fail
  try rw [hq2]
  go_loopg [8, 9] (s.size - (p + 1)) (fun k v8 v9 wr => RLitAt w s p qu lr k v8 v9 wr)
  case atStart => exact ⟨p + 1, (place s p).2 + 1, [], rfl, ⟨World.ownsRow_nil _ _ _ _, Below.refl _ _⟩, by omega, by omega, Hp1.out, by simp, Hres.out, rfl⟩
  case round =>
    clear Hres Hp1 hq2
    obtain ⟨q, cq, o, rfl, st, hq, hpq, hpl, hol, hlr, hk⟩ := hrel
    have Hpl := hid hpl
    have Hlr := hid hlr
    have Hk := hid hk
    clear hlr hk hpl
    by_cases hlq : q < s.size
    · have hlq' : (q : Int) < (s.size : Int) := by omega
      have hne : ((q : Int) == (s.size : Int)) = false := by simp; omega
      have hlr := Hlr.out
      rw [str_ext hlq] at hlr
      simp only [Lex.litS] at hlr
      clear Hlr
      by_cases cq1 : s[q] = qu
      · rw [if_pos cq1] at hlr
        have Hlr : Hid (lr = .good o (s.data.toList.drop (q + 1)) (cq + 1)) := hlr.symm
        have hb1 : ((s[q].toNat : Int) == (qu.toNat : Int)) = true := by rw [cq1]; simp
        have Hpn := hid (place_step Hpl.out hlq rfl (by rw [cq1]; exact Hq10.out))
        have hcv := conv_own st.own rfl
        clear hlr cq1
        go_wp2_with fail
        refine bodyPost_ret (v := .tuple #[.string ⟨o.toArray⟩, .int .i64 ((q : Int) + 1), .bool true]) (by simp [results, Try.results102, go_sem]) rfl ?_
        rw [Hlr.out]
        exact ⟨q + 1, by omega, by omega, rfl, Hpn.out, rfl, st.bel⟩
      · rw [if_neg cq1] at hlr
        have hb1 : ((s[q].toNat : Int) == (qu.toNat : Int)) = false := by
          rw [beq_eq_false_iff_ne]; intro e; apply cq1; apply UInt8.toNat_inj.1; omega
        by_cases c92 : s[q] = 92
        · rw [if_pos c92, Lex.lit_esc] at hlr
          have hb2 : ((s[q].toNat : Int) == 92) = true := tob s[q] 92 (by omega) c92
          have hr1 : (32 : Int) ≤ (s[q].toNat : Int) := by rw [c92]; decide
          have hr2 : (s[q].toNat : Int) ≤ 126 := by rw [c92]; decide
          have Hpn := hid (place_step (p := q + 1) Hpl.out hlq rfl (by rw [c92]; decide))
          clear cq1 c92
          by_cases hlq1 : q + 1 < s.size
          · have hlq1' : (q : Int) + 1 < (s.size : Int) := by omega
            have hne1 : ((q : Int) + 1 == (s.size : Int)) = false := by simp; omega
            have hb3 : (s[q + 1].toNat : Int) ≤ 255 := by have := s[q + 1].toNat_lt; omega
            rw [str_ext hlq1] at hlr
            by_cases c92 : s[q + 1] = 92
            · have e92 : ((s[q + 1].toNat : Int) == 92) = true := tob s[q + 1] 92 (by omega) c92
              rw [c92] at hlr
              have Hlr : Hid (Lex.litS qu .norm (s.data.toList.drop (q + 2)) (o ++ [92]) (cq + 1 + 1) = lr) := hlr
              have Hpm := hid (place_step (p := q + 2) Hpn.out hlq1 rfl (by rw [c92]; decide))
              have Hc := hid c92
              clear hlr c92
              go_wp2_with (at_builtin; refine wpList_append_lies _ rfl _ _ _ rfl w.heap.size 5 i8 _ 1 1 Try.underlying54 hi8 hz0 hz1 hz2 rfl (by omega) _ o.length (u8s o) rfl (st.alloc _).own ⟨wr.heap.size, 0, none⟩ 1 1 [.int .u8 s[q + 1].toNat] rfl rfl (World.news_of_block (cs := #[.int .u8 s[q + 1].toNat]) (t := 5) (fr := (0, 0)) (heap_alloc_new _ _)) (by simp [Value.oneCell']) (by omega) (by unfold maxLen; omega) (by omega) (st.alloc _).hz (wr.heap.size + 1) (by simp) ?_; intro gg cap w2 hown2 hgrow hat hlt2; have st2 := (st.alloc _).pushed (o' := o ++ [s[q + 1]]) hgrow (by simpa [u8s] using hown2))
              go_roundg (s.size - (q + 2))
              case measure => have hk := Hk.out; omega
              case rel => exact ⟨q + 2, cq + 1 + 1, o ++ [s[q + 1]], by go_num, st2, by omega, by omega, Hpm.out, by simp; omega, by rw [Hc.out]; exact Hlr.out, rfl⟩
            have e92 : ((s[q + 1].toNat : Int) == 92) = false := tobf s[q + 1] 92 (by omega) c92
            by_cases c39 : s[q + 1] = 39
            · have e39 : ((s[q + 1].toNat : Int) == 39) = true := tob s[q + 1] 39 (by omega) c39
              rw [c39] at hlr
              have Hlr : Hid (Lex.litS qu .norm (s.data.toList.drop (q + 2)) (o ++ [39]) (cq + 1 + 1) = lr) := hlr
              have Hpm := hid (place_step (p := q + 2) Hpn.out hlq1 rfl (by rw [c39]; decide))
              have Hc := hid c39
              clear hlr c39
              go_wp2_with (at_builtin; refine wpList_append_lies _ rfl _ _ _ rfl w.heap.size 5 i8 _ 1 1 Try.underlying54 hi8 hz0 hz1 hz2 rfl (by omega) _ o.length (u8s o) rfl (st.alloc _).own ⟨wr.heap.size, 0, none⟩ 1 1 [.int .u8 s[q + 1].toNat] rfl rfl (World.news_of_block (cs := #[.int .u8 s[q + 1].toNat]) (t := 5) (fr := (0, 0)) (heap_alloc_new _ _)) (by simp [Value.oneCell']) (by omega) (by unfold maxLen; omega) (by omega) (st.alloc _).hz (wr.heap.size + 1) (by simp) ?_; intro gg cap w2 hown2 hgrow hat hlt2; have st2 := (st.alloc _).pushed (o' := o ++ [s[q + 1]]) hgrow (by simpa [u8s] using hown2))
              go_roundg (s.size - (q + 2))
              case measure => have hk := Hk.out; omega
              case rel => exact ⟨q + 2, cq + 1 + 1, o ++ [s[q + 1]], by go_num, st2, by omega, by omega, Hpm.out, by simp; omega, by rw [Hc.out]; exact Hlr.out, rfl⟩
            have e39 : ((s[q + 1].toNat : Int) == 39) = false := tobf s[q + 1] 39 (by omega) c39
            by_cases c34 : s[q + 1] = 34
            · have e34 : ((s[q + 1].toNat : Int) == 34) = true := tob s[q + 1] 34 (by omega) c34
              rw [c34] at hlr
              have Hlr : Hid (Lex.litS qu .norm (s.data.toList.drop (q + 2)) (o ++ [34]) (cq + 1 + 1) = lr) := hlr
              have Hpm := hid (place_step (p := q + 2) Hpn.out hlq1 rfl (by rw [c34]; decide))
              have Hc := hid c34
              clear hlr c34
              go_wp2_with (at_builtin; refine wpList_append_lies _ rfl _ _ _ rfl w.heap.size 5 i8 _ 1 1 Try.underlying54 hi8 hz0 hz1 hz2 rfl (by omega) _ o.length (u8s o) rfl (st.alloc _).own ⟨wr.heap.size, 0, none⟩ 1 1 [.int .u8 s[q + 1].toNat] rfl rfl (World.news_of_block (cs := #[.int .u8 s[q + 1].toNat]) (t := 5) (fr := (0, 0)) (heap_alloc_new _ _)) (by simp [Value.oneCell']) (by omega) (by unfold maxLen; omega) (by omega) (st.alloc _).hz (wr.heap.size + 1) (by simp) ?_; intro gg cap w2 hown2 hgrow hat hlt2; have st2 := (st.alloc _).pushed (o' := o ++ [s[q + 1]]) hgrow (by simpa [u8s] using hown2))
              go_roundg (s.size - (q + 2))
              case measure => have hk := Hk.out; omega
              case rel => exact ⟨q + 2, cq + 1 + 1, o ++ [s[q + 1]], by go_num, st2, by omega, by omega, Hpm.out, by simp; omega, by rw [Hc.out]; exact Hlr.out, rfl⟩
            have e34 : ((s[q + 1].toNat : Int) == 34) = false := tobf s[q + 1] 34 (by omega) c34
            by_cases c110 : s[q + 1] = 110
            · have e110 : ((s[q + 1].toNat : Int) == 110) = true := tob s[q + 1] 110 (by omega) c110
              rw [c110] at hlr
              have Hlr : Hid (Lex.litS qu .norm (s.data.toList.drop (q + 2)) (o ++ [10]) (cq + 1 + 1) = lr) := hlr
              have Hpm := hid (place_step (p := q + 2) Hpn.out hlq1 rfl (by rw [c110]; decide))
              have Hc := hid c110
              clear hlr c110
              go_wp2_with (at_builtin; refine wpList_append_lies _ rfl _ _ _ rfl w.heap.size 5 i8 _ 1 1 Try.underlying54 hi8 hz0 hz1 hz2 rfl (by omega) _ o.length (u8s o) rfl (st.alloc _).own ⟨wr.heap.size, 0, none⟩ 1 1 [.int .u8 10] rfl rfl (World.news_of_block (cs := #[.int .u8 10]) (t := 5) (fr := (0, 0)) (heap_alloc_new _ _)) (by simp [Value.oneCell']) (by omega) (by unfold maxLen; omega) (by omega) (st.alloc _).hz (wr.heap.size + 1) (by simp) ?_; intro gg cap w2 hown2 hgrow hat hlt2; have st2 := (st.alloc _).pushed (o' := o ++ [10]) hgrow (by simpa [u8s] using hown2))
              go_roundg (s.size - (q + 2))
              case measure => have hk := Hk.out; omega
              case rel => exact ⟨q + 2, cq + 1 + 1, o ++ [10], by go_num, st2, by omega, by omega, Hpm.out, by simp; omega, Hlr.out, rfl⟩
            have e110 : ((s[q + 1].toNat : Int) == 110) = false := tobf s[q + 1] 110 (by omega) c110
            by_cases c116 : s[q + 1] = 116
            · have e116 : ((s[q + 1].toNat : Int) == 116) = true := tob s[q + 1] 116 (by omega) c116
              rw [c116] at hlr
              have Hlr : Hid (Lex.litS qu .norm (s.data.toList.drop (q + 2)) (o ++ [9]) (cq + 1 + 1) = lr) := hlr
              have Hpm := hid (place_step (p := q + 2) Hpn.out hlq1 rfl (by rw [c116]; decide))
              have Hc := hid c116
              clear hlr c116
              go_wp2_with (at_builtin; refine wpList_append_lies _ rfl _ _ _ rfl w.heap.size 5 i8 _ 1 1 Try.underlying54 hi8 hz0 hz1 hz2 rfl (by omega) _ o.length (u8s o) rfl (st.alloc _).own ⟨wr.heap.size, 0, none⟩ 1 1 [.int .u8 9] rfl rfl (World.news_of_block (cs := #[.int .u8 9]) (t := 5) (fr := (0, 0)) (heap_alloc_new _ _)) (by simp [Value.oneCell']) (by omega) (by unfold maxLen; omega) (by omega) (st.alloc _).hz (wr.heap.size + 1) (by simp) ?_; intro gg cap w2 hown2 hgrow hat hlt2; have st2 := (st.alloc _).pushed (o' := o ++ [9]) hgrow (by simpa [u8s] using hown2))
              go_roundg (s.size - (q + 2))
              case measure => have hk := Hk.out; omega
              case rel => exact ⟨q + 2, cq + 1 + 1, o ++ [9], by go_num, st2, by omega, by omega, Hpm.out, by simp; omega, Hlr.out, rfl⟩
            have e116 : ((s[q + 1].toNat : Int) == 116) = false := tobf s[q + 1] 116 (by omega) c116
            by_cases c120 : s[q + 1] = 120
            · have e120 : ((s[q + 1].toNat : Int) == 120) = true := tob s[q + 1] 120 (by omega) c120
              rw [c120] at hlr
              have hlr2 : (match Lex.escH 2 0 (s.data.toList.drop (q + 2)) (cq + 1 + 1) with | .bad k => Lex.LitRes.bad k | .good x r k => Lex.litS qu .norm r (o ++ [x]) k) = lr := hlr
              generalize her : Lex.escH 2 0 (s.data.toList.drop (q + 2)) (cq + 1 + 1) = er at hlr2
              have Her := hid her
              have Hlr := hid hlr2
              have Hpm := hid (place_step (p := q + 2) Hpn.out hlq1 rfl (by rw [c120]; decide))
              clear hlr hlr2 her c120 c92 c39 c34 c110 c116
              go_wp2_with fail
              go_loopg [9, 11, 12] 2 (fun k v9 v11 v12 w2 => RHexAt s p er (q + 1) wr k v9 v11 v12 w2)
              case atStart => exact ⟨0, q + 1, 0, cq + 1 + 1, rfl, by go_num, rfl, by omega, rfl, hlq1, by omega, by omega, fun _ => rfl, fun e => by omega, fun e => by omega, Hpm.out, Her.out, rfl⟩
              case round =>
                clear Her Hpm Hpn Hpl e92 e39 e34 e110 e116 e120 hb2 hb1 hr1 hr2
                obtain ⟨i, j, n, cj, rfl, rfl, rfl, hi, hkk, hj, hqj, hn0, hn1, hn2, hn3, hpj, htl, rfl⟩ := hrel
                have Hkk := hid hkk
                have Htl := hid htl
                have Hpj := hid hpj
                clear hkk htl hpj
                by_cases hi2 : i < 2
                · have hi2' : (i : Int) < 2 := by omega
                  by_cases hlj : j + 1 < s.size
                  · have hlj' : (j : Int) + 1 < (s.size : Int) := by omega
                    have hnj : ((j : Int) + 1 == (s.size : Int)) = false := by simp; omega
                    have htl := Htl.out
                    rw [show 2 - i = (1 - i) + 1 by omega, str_ext hlj] at htl
                    simp only [Lex.escH] at htl
                    have hlo := hexZ_lo (s[j + 1].toNat : Int)
                    have hb4 : (s[j + 1].toNat : Int) ≤ 255 := by have := s[j + 1].toNat_lt; omega
                    by_cases hx : Lex.hexv s[j + 1] < 0
                    · rw [if_pos hx] at htl
                      have Hx : Hid (lr = .bad cj) := by have hlr := Hlr.out; rw [← htl] at hlr; exact hlr.symm
                      have hx' : Lex.hexZ (s[j + 1].toNat : Int) < 0 := hx
                      clear htl hx Hlr Htl
                      go_wp2_with (go_at_call 129; refine (hex_calls _ _ (by omega) hb4).mono ?_; rintro e w' ⟨rfl, rfl⟩)
                      refine bodyPost_ret (v := .tuple #[.string ⟨#[]⟩, .int .i64 ((j : Int) + 1), .bool false]) (by simp [results, Try.results102, go_sem]) rfl ?_
                      rw [Hx.out]
                      exact ⟨j + 1, by omega, Hpj.out, by go_num, st.bel⟩
                    · rw [if_neg hx] at htl
                      have Hx := hid htl
                      have hx0 : 0 ≤ Lex.hexZ (s[j + 1].toNat : Int) := by have : ¬ Lex.hexZ (s[j + 1].toNat : Int) < 0 := hx; omega
                      have hx1 : Lex.hexZ (s[j + 1].toNat : Int) ≤ 15 := hlo.2
                      have Hpk := hid (place_step (p := j + 2) Hpj.out hlj rfl (hexZ_ne _ hx0))
                      have hn15 : n ≤ 15 := by
                        rcases (show i = 0 ∨ i = 1 by omega) with e | e
                        · rw [hn1 e]; omega
                        · exact hn2 e
                      clear htl hx hlo Htl
                      go_wp2_with (go_at_call 129; refine (hex_calls _ _ (by omega) hb4).mono ?_; rintro e w' ⟨rfl, rfl⟩)
                      go_roundg (1 - i)
                      case measure => have hk := Hkk.out; omega
                      case rel =>
                        refine ⟨i + 1, j + 1, 16 * n + Lex.hexv s[j + 1], cj + 1, by go_num, by go_num, rfl, by omega, by omega, by omega, by omega, ?_, fun e => by omega, fun e => ?_, fun e => ?_, Hpk.out, ?_, rfl⟩
                        · show 0 ≤ 16 * n + Lex.hexZ _; omega
                        · show 16 * n + Lex.hexZ _ ≤ 15; have e0 := hn1 (by omega); omega
                        · show 16 * n + Lex.hexZ _ ≤ 255; omega
                        · rw [show 2 - (i + 1) = 1 - i by omega, show 16 * n = n * 16 by omega]; exact Hx.out
                  · have hnj : ((j : Int) + 1 == (s.size : Int)) = true := by simp; omega
                    have htl := Htl.out
                    rw [show 2 - i = (1 - i) + 1 by omega, str_end (by omega)] at htl
                    have Hx : Hid (lr = .bad cj) := by have hlr := Hlr.out; rw [← htl] at hlr; exact hlr.symm
                    clear htl Hlr Htl
                    go_wp2_with fail
                    refine bodyPost_ret (v := .tuple #[.string ⟨#[]⟩, .int .i64 ((j : Int) + 1), .bool false]) (by simp [results, Try.results102, go_sem]) rfl ?_
                    rw [Hx.out]
                    exact ⟨j + 1, by omega, Hpj.out, by go_num, st.bel⟩
                · obtain rfl : i = 2 := by omega
                  have hn255 := hn3 rfl
                  have Hx : Hid (Lex.litS qu .norm (s.data.toList.drop (j + 1)) (o ++ [UInt8.ofNat n.toNat]) cj = lr) := by have hlr := Hlr.out; rw [← Htl.out] at hlr; exact hlr
                  obtain ⟨x, hxn, hxe⟩ : ∃ x : UInt8, n = (x.toNat : Int) ∧ UInt8.ofNat n.toNat = x := ⟨UInt8.ofNat n.toNat, (u8_back n hn0 hn255).symm, rfl⟩
                  rw [hxe] at Hx
                  clear Htl Hlr hn1 hn2 hn3 hi2 hxe
                  subst hxn
                  go_wp2_with (at_builtin; refine wpList_append_lies _ rfl _ _ _ rfl w.heap.size 5 i8 _ 1 1 Try.underlying54 hi8 hz0 hz1 hz2 rfl (by omega) _ o.length (u8s o) rfl (st.alloc _).own ⟨wr.heap.size, 0, none⟩ 1 1 [.int .u8 x.toNat] rfl rfl (World.news_of_block (cs := #[.int .u8 x.toNat]) (t := 5) (fr := (0, 0)) (heap_alloc_new _ _)) (by simp [Value.oneCell']) (by omega) (by unfold maxLen; omega) (by omega) (st.alloc _).hz (wr.heap.size + 1) (by simp) ?_; intro gg cap w2 hown2 hgrow hat hlt2; have st2 := (st.alloc _).pushed (o' := o ++ [x]) hgrow (by simpa [u8s] using hown2))
                  go_roundg (s.size - (j + 1))
                  case measure => have hk := Hk.out; omega
                  case rel => exact ⟨j + 1, cj, o ++ [x], by go_num, st2, by omega, by omega, Hpj.out, by simp; omega, Hx.out, rfl⟩
            have e120 : ((s[q + 1].toNat : Int) == 120) = false := tobf s[q + 1] 120 (by omega) c120
            have Hlr : Hid (lr = .bad (cq + 1)) := by
              simp only [Lex.escS] at hlr
              rw [if_neg (by simp [c92, c39, c34]), if_neg c110, if_neg c116, if_neg c120] at hlr
              exact hlr.symm
            clear hlr c92 c39 c34 c110 c116 c120
            go_wp2_with fail
            refine bodyPost_ret (v := .tuple #[.string ⟨#[]⟩, .int .i64 ((q : Int) + 1), .bool false]) (by simp [results, Try.results102, go_sem]) rfl ?_
            rw [Hlr.out]
            exact ⟨q + 1, by omega, Hpn.out, by go_num, st.bel⟩
          · have hne1 : ((q : Int) + 1 == (s.size : Int)) = true := by simp; omega
            rw [str_end (by omega)] at hlr
            have Hlr : Hid (lr = .bad (cq + 1)) := hlr.symm
            clear hlr
            go_wp2_with fail
            refine bodyPost_ret (v := .tuple #[.string ⟨#[]⟩, .int .i64 ((q : Int) + 1), .bool false]) (by simp [results, Try.results102, go_sem]) rfl ?_
            rw [Hlr.out]
            exact ⟨q + 1, by omega, Hpn.out, by go_num, st.bel⟩
        · rw [if_neg c92] at hlr
          have hb2 : ((s[q].toNat : Int) == 92) = false := tobf s[q] 92 (by omega) c92
          by_cases crg : s[q] < 32 ∨ 126 < s[q]
          · rw [if_pos crg] at hlr
            have Hlr : Hid (lr = .bad cq) := hlr.symm
            clear hlr cq1 c92
            have crg' : (s[q].toNat : Int) < 32 ∨ ((32 : Int) ≤ (s[q].toNat : Int) ∧ (126 : Int) < (s[q].toNat : Int)) := by
              rcases crg with h | h
              · left; have := UInt8.lt_iff_toNat_lt.1 h; simp at this; omega
              · right; have := UInt8.lt_iff_toNat_lt.1 h; simp at this; omega
            clear crg
            rcases crg' with hr1 | ⟨hr1, hr2⟩
            all_goals
              go_wp2_with fail
              refine bodyPost_ret (v := .tuple #[.string ⟨#[]⟩, .int .i64 (q : Int), .bool false]) (by simp [results, Try.results102, go_sem]) rfl ?_
              rw [Hlr.out]
              exact ⟨q, by omega, Hpl.out, by go_num, st.bel⟩
          · rw [if_neg crg] at hlr
            have Hlr := hid hlr
            have hr1 : (32 : Int) ≤ (s[q].toNat : Int) := by
              have : ¬ s[q] < 32 := fun h => crg (.inl h)
              have := mt UInt8.lt_iff_toNat_lt.2 this; simp at this; omega
            have hr2 : (s[q].toNat : Int) ≤ 126 := by
              have : ¬ 126 < s[q] := fun h => crg (.inr h)
              have := mt UInt8.lt_iff_toNat_lt.2 this; simp at this; omega
            have Hpn := hid (place_step (p := q + 1) Hpl.out hlq rfl (by rintro e; rw [e] at hr1; exact absurd hr1 (by decide)))
            clear hlr cq1 c92 crg
            go_wp2_with (at_builtin; refine wpList_append_lies _ rfl _ _ _ rfl w.heap.size 5 i8 _ 1 1 Try.underlying54 hi8 hz0 hz1 hz2 rfl (by omega) _ o.length (u8s o) rfl (st.alloc _).own ⟨wr.heap.size, 0, none⟩ 1 1 [.int .u8 s[q].toNat] rfl rfl (World.news_of_block (cs := #[.int .u8 s[q].toNat]) (t := 5) (fr := (0, 0)) (heap_alloc_new _ _)) (by simp [Value.oneCell']) (by omega) (by unfold maxLen; omega) (by omega) (st.alloc _).hz (wr.heap.size + 1) (by simp) ?_; intro gg cap w2 hown2 hgrow hat hlt2; have st2 := (st.alloc _).pushed (o' := o ++ [s[q]]) hgrow (by simpa [u8s] using hown2))
            go_roundg (s.size - (q + 1))
            case measure => have hk := Hk.out; omega
            case rel => exact ⟨q + 1, cq + 1, o ++ [s[q]], by go_num, st2, by omega, by omega, Hpn.out, by simp; omega, Hlr.out, rfl⟩
    · have Hlr' : Hid (lr = .bad cq) := by have hlr := Hlr.out; rw [str_end (by omega)] at hlr; exact hlr.symm
      have hnq : ¬ (q : Int) < (s.size : Int) := by omega
      have hne : ((q : Int) == (s.size : Int)) = true := by simp; omega
      clear Hlr
      go_wp2_with fail
      refine bodyPost_ret (v := .tuple #[.string ⟨#[]⟩, .int .i64 (q : Int), .bool false]) (by simp [results, Try.results102, go_sem]) rfl ?_
      rw [Hlr'.out]
      exact ⟨q, by omega, Hpl.out, by go_num, st.bel⟩
end Go.Proofs.Ytjaampgpihicmaa
