/- Chapter 4 (lex): Quote. -/
import Derived.Test.YtjaampgpihicmaaLexQ0
import Derived.Test.YtjaampgpihicmaaRep
import Derived.RegionTactic
import Derived.BigRegion
import Derived.ChangeAlike
import Derived.Deep.QuietTactic
import Derived.BigQuiet
import Derived.Deep.RegionHeld3
import Derived.Deep.DrawnRows
import Derived.Lib.Bytealg
import Derived.Deep.CutBlock
import Derived.Deep.RegionLaw
import Derived.Deep.AppendLies
import Derived.Deep.LoopGhost
import Derived.Deep.DeepCutAuto
import Derived.Laws.BitsAllLaws
import Derived.Laws.BitsLemmas
import Derived.Laws.OwnMore
namespace Go.Proofs.Ytjaampgpihicmaa
open Go.RowKit
attribute [local go_sem ↓] Go.wp_at_zero Go.wp_at_succ
attribute [local go_sem] frozen_alloc_lt

set_option maxRecDepth 8000 in
set_option maxHeartbeats 1000000 in
theorem count_calls (s : ByteArray) (c : UInt8) (w : World) :
    Calls Try.prog 137 #[.string s, .string ⟨#[c]⟩] w fun e w' => e = .returned (.int .i64 (s.data.toList.count c : Nat)) ∧ w = w' := by
  go_enter Try.func137, Try.ntmps137
  go_wp2
  rw [run_callFunc_extern Try.func145 (by kernel_rfl) (by kernel_rfl) (by kernel_rfl) (e := Extern.BytealgCount.count) (by kernel_rfl), Lib.run_countString]
  simp only [Result.andThen]
  rw [Oper.upon_value]
  go_wp2
  go_ret
  refine ⟨?_, rfl⟩
  simp [Lib.countByte]
  rfl

/-- The bytes so far. -/
structure QSt (w0 w : World) (v : Value) (o : List UInt8) : Prop where
  own : w.ownsRow w0.heap.size 5 1 v o.length (u8s o)
  bel : Below w0.heap.size w0 w
section
variable {w0 w w' : World} {v v' : Value} {o o' : List UInt8}
theorem QSt.hz (h : QSt w0 w v o) : w0.heap.size ≤ w.heap.size := h.bel.size
theorem QSt.alloc (h : QSt w0 w v o) (x : Obj) : QSt w0 (w.alloc x) v o := ⟨h.own.alloc x, h.bel.alloc h.hz x⟩
theorem QSt.drew (h : QSt w0 w v o) : QSt w0 w.drew v o := ⟨h.own, h.bel.drew⟩
theorem QSt.pushed (h : QSt w0 w v o) (hg : w.grownBy w' v.ownBlock) (hown : w'.ownsRow w0.heap.size 5 1 v' o'.length (u8s o')) : QSt w0 w' v' o' :=
  ⟨hown, h.bel.trans (below_of_gb' hg h.hz (fun k hk => (h.own.lt k hk).1))⟩
end

theorem take_succ_byte (s : ByteArray) (p : Nat) (h : p < s.size) : s.data.toList.take (p + 1) = s.data.toList.take p ++ [s[p]] := by
  rw [List.take_succ_eq_append_getElem (by simpa using h)]; rfl

theorem take_one (s : ByteArray) (i : Nat) (h : i < s.size) (f : UInt8 → List UInt8) : (s.data.toList.take (i + 1)).flatMap f = (s.data.toList.take i).flatMap f ++ f s[i] := by
  rw [take_succ_byte s i h, List.flatMap_append]; simp

theorem flat_len (q : UInt8) (s : ByteArray) (i : Nat) : ((s.data.toList.take i).flatMap (Lex.quoteB q)).length ≤ 4 * i := by
  have h1 := Lex.quoteF_len q (s.data.toList.take i)
  have h2 : (s.data.toList.take i).length ≤ i := List.length_take_le _ _
  omega

theorem and15 (c : UInt8) : bits .and .u8 (c.toNat : Int) 15 = (c.toNat : Int) % 16 := by
  have key : ∀ a : Fin 256, bits .and .u8 (a.val : Int) 15 = (a.val : Int) % 16 := by decide +kernel
  exact key ⟨c.toNat, c.toNat_lt⟩

def QuoteAt (w0 : World) (q : UInt8) (s : ByteArray) (k : Nat) (v4 v16 : Value) (w : World) : Prop :=
  ∃ (i : Nat) (o : List UInt8) (v : Value), v16 = .int .i64 i ∧ v = v4 ∧ i ≤ s.size ∧ o = q :: (s.data.toList.take i).flatMap (Lex.quoteB q) ∧ QSt w0 w v o ∧ k = s.size - i

def hexA : ByteArray := ⟨#[48, 49, 50, 51, 52, 53, 54, 55, 56, 57, 97, 98, 99, 100, 101, 102]⟩

theorem hexA_get (n : Nat) (h : n < hexA.size) : hexA[n] = Lex.hexD n := by
  have key : ∀ k : Fin 16, hexA[k.val]'(k.isLt) = Lex.hexD k.val := by decide +kernel
  exact key ⟨n, h⟩

set_option maxRecDepth 8000 in
set_option maxHeartbeats 4000000 in
theorem quote_calls (s : ByteArray) (w : World) (hs : s.size ≤ 65536) :
    Calls Try.prog 118 #[.string s] w fun e w' => e = .returned (.string ⟨(Lex.quoteS s.data.toList).toArray⟩) ∧ Below w.heap.size w w' := by
  obtain ⟨i8, hi8, hz0, hz1, hz2⟩ := info_parts u8Info
  generalize hres : Lex.quoteS s.data.toList = res
  have Hres := hid hres
  clear hres
  obtain ⟨q, hq⟩ : ∃ q, q = Lex.quoteQ s.data.toList := ⟨_, rfl⟩
  have Hq := hid hq
  have Hq39 : Hid (q = 39 ∨ q = 34) := by show q = 39 ∨ q = 34; rw [hq]; exact Lex.quoteQ_or _
  obtain ⟨n34, h34⟩ : ∃ n, n = s.data.toList.count 34 := ⟨_, rfl⟩
  obtain ⟨n39, h39⟩ : ∃ n, n = s.data.toList.count 39 := ⟨_, rfl⟩
  have H34 := hid h34
  have H39 := hid h39
  have hcs : ((n34 : Int) < (n39 : Int) ∧ q = 34) ∨ (¬ (n34 : Int) < (n39 : Int) ∧ q = 39) := by
    rw [h34, h39]
    by_cases h : s.data.toList.count 34 < s.data.toList.count 39
    · left; refine ⟨by omega, ?_⟩; rw [hq]; unfold Lex.quoteQ; rw [if_pos h]
    · right; refine ⟨by omega, ?_⟩; rw [hq]; unfold Lex.quoteQ; rw [if_neg h]
  have hn : n34 ≤ 65536 ∧ n39 ≤ 65536 := by
    have h1 : s.data.toList.count 34 ≤ s.data.toList.length := List.count_le_length
    have h2 : s.data.toList.count 39 ≤ s.data.toList.length := List.count_le_length
    have h3 : s.data.toList.length = s.size := by simp
    omega
  obtain ⟨hn1, hn2⟩ := hn
  clear hq h34 h39
  go_enter Try.func118, Try.ntmps118
  go_upto_if 11 with (go_at_call 137; refine (count_calls s _ _).mono ?_; rintro e w' ⟨rfl, rfl⟩; simp only [← H34.out, ← H39.out])
  go_cut [3] (fun v3 wx => v3 = .int .u8 q.toNat ∧ wx = w)
  case first =>
    rcases hcs with ⟨h1, h2⟩ | ⟨h1, h2⟩
    all_goals
      have h2' := hid h2
      clear h2
      go_wp2_with fail
      go_meet
      rw [h2'.out]
      exact ⟨rfl, rfl⟩
  case rest =>
    obtain ⟨rfl, rfl⟩ := hcut
    clear hcs
    go_wp2_with fail
    have hst : QSt wc (wc.alloc (.cells #[.int .u8 q.toNat] 5)) (.slice (some ⟨wc.heap.size, 0, none⟩) 1 1) [q] :=
      ⟨World.ownsRow_lit wc #[.int .u8 q.toNat] 1 (Nat.le_refl _) (by unfold maxLen; omega) rfl, (Below.refl _ _).alloc (Nat.le_refl _) _⟩
    go_loopg [4, 16] s.size (fun k v4 v16 wr => QuoteAt wc q s k v4 v16 wr)
    case atStart => exact ⟨0, [q], _, rfl, rfl, by omega, rfl, hst, rfl⟩
    case round =>
      clear hst
      obtain ⟨i, o, v, rfl, rfl, hi, ho, st, hk⟩ := hrel
      have Ho := hid ho
      have Hk := hid hk
      have hol : o.length ≤ 4 * i + 1 := by rw [ho]; have := flat_len q s i; simp only [List.length_cons]; omega
      clear ho hk
      by_cases hlt : i < s.size
      · have hlt' : (i : Int) < (s.size : Int) := by omega
        have hc255 : (s[i].toNat : Int) ≤ 255 := by have := s[i].toNat_lt; omega
        have Hnx := hid (take_one s i hlt (Lex.quoteB q))
        have hb0 : (q.toNat : Int) ≤ 255 := by have := q.toNat_lt; omega
        by_cases hq1 : s[i] = q ∨ s[i] = 92
        · have Hb : Hid (Lex.quoteB q s[i] = [92, s[i]]) := by show _ = _; unfold Lex.quoteB; rw [if_pos hq1]
          have hc2 : ((s[i].toNat : Int) == (q.toNat : Int)) = true ∨ (((s[i].toNat : Int) == (q.toNat : Int)) = false ∧ ((s[i].toNat : Int) == 92) = true) := by
            by_cases h : s[i] = q
            · left; rw [h]; simp
            · right
              refine ⟨?_, ?_⟩
              · rw [beq_eq_false_iff_ne]; intro e; apply h; apply UInt8.toNat_inj.1; omega
              · rw [hq1.resolve_left h]; decide
          clear hq1
          rcases hc2 with e1 | ⟨e1, e2⟩
          all_goals
            go_wp2_with (at_builtin; refine wpList_append_lies _ rfl _ _ _ rfl wc.heap.size 5 i8 _ 1 1 Try.underlying54 hi8 hz0 hz1 hz2 rfl (by omega) _ o.length (u8s o) rfl (st.alloc _).own ⟨wr.heap.size, 0, none⟩ 2 2 [.int .u8 92, .int .u8 s[i].toNat] rfl rfl (World.news_of_block (cs := #[.int .u8 92, .int .u8 s[i].toNat]) (t := 5) (fr := (0, 0)) (heap_alloc_new _ _)) (by simp [Value.oneCell']) (by omega) (by unfold maxLen; omega) (by omega) (st.alloc _).hz (wr.heap.size + 1) (by simp) ?_; intro gg cap w2 hown2 hgrow hat hlt2; have st2 := (st.alloc _).pushed (o' := o ++ [92, s[i]]) hgrow (by simpa [u8s] using hown2))
            go_roundg (s.size - (i + 1))
            case measure => have hk := Hk.out; omega
            case rel => exact ⟨i + 1, o ++ [92, s[i]], _, by go_num, rfl, by omega, by rw [Hnx.out, Ho.out, Hb.out]; rfl, st2, rfl⟩
        · have e1 : ((s[i].toNat : Int) == (q.toNat : Int)) = false := by
            rw [beq_eq_false_iff_ne]; intro e; apply hq1; left; apply UInt8.toNat_inj.1; omega
          have e2 : ((s[i].toNat : Int) == 92) = false := tobf _ 92 (by omega) (fun h => hq1 (.inr h))
          by_cases c10 : s[i] = 10
          · have e3 : ((s[i].toNat : Int) == 10) = true := tob _ 10 (by omega) c10
            have Hb : Hid (Lex.quoteB q s[i] = [92, 110]) := by show _ = _; unfold Lex.quoteB; rw [if_neg hq1, if_pos c10]
            clear hq1 c10
            go_wp2_with (at_builtin; refine wpList_append_lies _ rfl _ _ _ rfl wc.heap.size 5 i8 _ 1 1 Try.underlying54 hi8 hz0 hz1 hz2 rfl (by omega) _ o.length (u8s o) rfl (st.alloc _).own ⟨wr.heap.size, 0, none⟩ 2 2 [.int .u8 92, .int .u8 110] rfl rfl (World.news_of_block (cs := #[.int .u8 92, .int .u8 110]) (t := 5) (fr := (0, 0)) (heap_alloc_new _ _)) (by simp [Value.oneCell']) (by omega) (by unfold maxLen; omega) (by omega) (st.alloc _).hz (wr.heap.size + 1) (by simp) ?_; intro gg cap w2 hown2 hgrow hat hlt2; have st2 := (st.alloc _).pushed (o' := o ++ [92, 110]) hgrow (by simpa [u8s] using hown2))
            go_roundg (s.size - (i + 1))
            case measure => have hk := Hk.out; omega
            case rel => exact ⟨i + 1, o ++ [92, 110], _, by go_num, rfl, by omega, by rw [Hnx.out, Ho.out, Hb.out]; rfl, st2, rfl⟩
          · have e3 : ((s[i].toNat : Int) == 10) = false := tobf _ 10 (by omega) c10
            by_cases c9 : s[i] = 9
            · have e4 : ((s[i].toNat : Int) == 9) = true := tob _ 9 (by omega) c9
              have Hb : Hid (Lex.quoteB q s[i] = [92, 116]) := by show _ = _; unfold Lex.quoteB; rw [if_neg hq1, if_neg c10, if_pos c9]
              clear hq1 c10 c9
              go_wp2_with (at_builtin; refine wpList_append_lies _ rfl _ _ _ rfl wc.heap.size 5 i8 _ 1 1 Try.underlying54 hi8 hz0 hz1 hz2 rfl (by omega) _ o.length (u8s o) rfl (st.alloc _).own ⟨wr.heap.size, 0, none⟩ 2 2 [.int .u8 92, .int .u8 116] rfl rfl (World.news_of_block (cs := #[.int .u8 92, .int .u8 116]) (t := 5) (fr := (0, 0)) (heap_alloc_new _ _)) (by simp [Value.oneCell']) (by omega) (by unfold maxLen; omega) (by omega) (st.alloc _).hz (wr.heap.size + 1) (by simp) ?_; intro gg cap w2 hown2 hgrow hat hlt2; have st2 := (st.alloc _).pushed (o' := o ++ [92, 116]) hgrow (by simpa [u8s] using hown2))
              go_roundg (s.size - (i + 1))
              case measure => have hk := Hk.out; omega
              case rel => exact ⟨i + 1, o ++ [92, 116], _, by go_num, rfl, by omega, by rw [Hnx.out, Ho.out, Hb.out]; rfl, st2, rfl⟩
            · have e4 : ((s[i].toNat : Int) == 9) = false := tobf _ 9 (by omega) c9
              by_cases crg : s[i] < 32 ∨ 126 < s[i]
              · have Hb : Hid (Lex.quoteB q s[i] = [92, 120, Lex.hexD (s[i].toNat / 16), Lex.hexD (s[i].toNat % 16)]) := by show _ = _; unfold Lex.quoteB; rw [if_neg hq1, if_neg c10, if_neg c9, if_pos crg]
                have crg' : (s[i].toNat : Int) < 32 ∨ ((32 : Int) ≤ (s[i].toNat : Int) ∧ (126 : Int) < (s[i].toNat : Int)) := by
                  rcases crg with h | h
                  · left; have := UInt8.lt_iff_toNat_lt.1 h; simp at this; omega
                  · right; have := UInt8.lt_iff_toNat_lt.1 h; simp at this; omega
                clear hq1 c10 c9 crg
                obtain ⟨hx, hhx⟩ : ∃ hx : ByteArray, hx = hexA := ⟨_, rfl⟩
                have hhx' : (⟨#[48, 49, 50, 51, 52, 53, 54, 55, 56, 57, 97, 98, 99, 100, 101, 102]⟩ : ByteArray) = hx := hhx.symm
                have Hhx := hid hhx
                have hxs : hx.size = 16 := by rw [hhx]; rfl
                have hd0 : (0 : Int) ≤ (s[i].toNat : Int) / 16 := by omega
                have hd1 : (s[i].toNat : Int) / 16 < 16 := by omega
                have hm0 : (0 : Int) ≤ (s[i].toNat : Int) % 16 := by omega
                have hm1 : (s[i].toNat : Int) % 16 < 16 := by omega
                have han : bits .and .u8 (s[i].toNat : Int) 15 = (s[i].toNat : Int) % 16 := and15 s[i]
                obtain ⟨a, ha⟩ : ∃ a : UInt8, hx[((s[i].toNat : Int) / 16).toNat]'(by omega) = a := ⟨_, rfl⟩
                obtain ⟨b, hb⟩ : ∃ b : UInt8, hx[((s[i].toNat : Int) % 16).toNat]'(by omega) = b := ⟨_, rfl⟩
                have Ha : Hid (a = Lex.hexD (s[i].toNat / 16)) := by
                  show a = _
                  subst hhx
                  rw [← ha]
                  exact (hexA_get _ (by omega)).trans (congrArg Lex.hexD (by omega))
                have Hb2 : Hid (b = Lex.hexD (s[i].toNat % 16)) := by
                  show b = _
                  subst hhx
                  rw [← hb]
                  exact (hexA_get _ (by omega)).trans (congrArg Lex.hexD (by omega))
                clear hhx
                rcases crg' with hr1 | ⟨hr1, hr2⟩
                all_goals
                  go_wp2_with fail
                  rw [hhx']
                  clear hhx'
                  go_region_law (first | (refine step_append_lies _ (by rfl) _ _ _ (by rfl) wc.heap.size 5 i8 _ 1 1 Try.underlying54 hi8 hz0 hz1 hz2 rfl (by omega) v o.length (u8s o) (by rfl) (by first | exact (st.alloc _).own | exact own_drewN (st.alloc _).own 1) ⟨wr.heap.size, 0, none⟩ 4 4 [.int .u8 92, .int .u8 120, .int .u8 a.toNat, .int .u8 b.toNat] (by rfl) (by rfl) (World.news_of_block (cs := #[.int .u8 92, .int .u8 120, .int .u8 a.toNat, .int .u8 b.toNat]) (t := 5) (fr := (0, 0)) (heap_alloc_new _ _)) (by simp [Value.oneCell']) (by omega) (by unfold maxLen; omega) (by omega) (st.alloc _).hz (wr.heap.size + 1) (by simp) ?_; intro gg cap w2 hown2 hgrow hat hlt2))
                  all_goals
                    have st2 : QSt wc w2 (.slice (some ⟨gg, 0, none⟩) (o.length + 4) cap) (o ++ [92, 120, a, b]) := by
                      first
                        | exact (st.alloc _).drew.pushed hgrow (by simpa [u8s] using hown2)
                        | exact (st.drew.alloc _).pushed hgrow (by simpa [u8s] using hown2)
                    go_wp2_with fail
                    go_roundg (s.size - (i + 1))
                    case measure => have hk := Hk.out; omega
                    case rel => exact ⟨i + 1, o ++ [92, 120, a, b], _, by go_num, rfl, by omega, by rw [Hnx.out, Ho.out, Hb.out, Ha.out, Hb2.out]; rfl, st2, rfl⟩
              · have Hb : Hid (Lex.quoteB q s[i] = [s[i]]) := by show _ = _; unfold Lex.quoteB; rw [if_neg hq1, if_neg c10, if_neg c9, if_neg crg]
                have hr1 : (32 : Int) ≤ (s[i].toNat : Int) := by
                  have : ¬ s[i] < 32 := fun h => crg (.inl h)
                  have := mt UInt8.lt_iff_toNat_lt.2 this; simp at this; omega
                have hr2 : (s[i].toNat : Int) ≤ 126 := by
                  have : ¬ 126 < s[i] := fun h => crg (.inr h)
                  have := mt UInt8.lt_iff_toNat_lt.2 this; simp at this; omega
                clear hq1 c10 c9 crg
                go_wp2_with (at_builtin; refine wpList_append_lies _ rfl _ _ _ rfl wc.heap.size 5 i8 _ 1 1 Try.underlying54 hi8 hz0 hz1 hz2 rfl (by omega) _ o.length (u8s o) rfl (st.alloc _).own ⟨wr.heap.size, 0, none⟩ 1 1 [.int .u8 s[i].toNat] rfl rfl (World.news_of_block (cs := #[.int .u8 s[i].toNat]) (t := 5) (fr := (0, 0)) (heap_alloc_new _ _)) (by simp [Value.oneCell']) (by omega) (by unfold maxLen; omega) (by omega) (st.alloc _).hz (wr.heap.size + 1) (by simp) ?_; intro gg cap w2 hown2 hgrow hat hlt2; have st2 := (st.alloc _).pushed (o' := o ++ [s[i]]) hgrow (by simpa [u8s] using hown2))
                go_roundg (s.size - (i + 1))
                case measure => have hk := Hk.out; omega
                case rel => exact ⟨i + 1, o ++ [s[i]], _, by go_num, rfl, by omega, by rw [Hnx.out, Ho.out, Hb.out]; rfl, st2, rfl⟩
      · have hge : ¬ (i : Int) < (s.size : Int) := by omega
        have Hfin : Hid (res = o ++ [q]) := by
          show _ = _
          have h1 : s.data.toList.take i = s.data.toList := List.take_of_length_le (by simp; omega)
          rw [← Hres.out, Ho.out, h1, Lex.quoteS, ← Hq.out]; rfl
        go_wp2_with (at_builtin; refine wpList_append_lies _ rfl _ _ _ rfl wc.heap.size 5 i8 _ 1 1 Try.underlying54 hi8 hz0 hz1 hz2 rfl (by omega) _ o.length (u8s o) rfl (st.alloc _).own ⟨wr.heap.size, 0, none⟩ 1 1 [.int .u8 q.toNat] rfl rfl (World.news_of_block (cs := #[.int .u8 q.toNat]) (t := 5) (fr := (0, 0)) (heap_alloc_new _ _)) (by simp [Value.oneCell']) (by omega) (by unfold maxLen; omega) (by omega) (st.alloc _).hz (wr.heap.size + 1) (by simp) ?_; intro gg cap w2 hown2 hgrow hat hlt2; have st2 := (st.alloc _).pushed (o' := o ++ [q]) hgrow (by simpa [u8s] using hown2); have hcv := conv_own st2.own rfl)
        go_ret
        rw [Hfin.out]
        exact ⟨rfl, st2.bel⟩
end Go.Proofs.Ytjaampgpihicmaa
