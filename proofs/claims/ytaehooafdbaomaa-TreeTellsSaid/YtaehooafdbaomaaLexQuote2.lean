/- Chapter 4 (lex), the document's answer: Quote. -/
import Derived.Test.YtaehooafdbaomaaLexQuote1
namespace Go.Proofs.Ytaehooafdbaomaa
open Go.RowKit
attribute [local go_sem ↓] Go.wp_at_zero Go.wp_at_succ
attribute [local go_sem] frozen_alloc_lt

theorem conv_lit (l : List UInt8) (W : World) (hl : l.length ≤ 9) :
    (convert 102 9 (.slice (some ⟨W.heap.size, 0, none⟩) l.length l.length)).run Try.prog (W.alloc (.cells (u8s l).toArray 5)) = .ok (.string ⟨l.toArray⟩) (W.alloc (.cells (u8s l).toArray 5)) :=
  conv_own (base := 0) (by
    have := World.ownsRow_lit (base := 0) (e := 5) (size := 1) W (u8s l).toArray l.length (by omega) (by unfold maxLen; omega) (by simp [u8s])
    simpa using this) rfl

theorem conv_1 (W : World) (a : UInt8) : (convert 102 9 (.slice (some ⟨W.heap.size, 0, none⟩) 1 1)).run Try.prog (W.alloc (.cells #[.int .u8 a.toNat] 5)) = .ok (.string ⟨#[a]⟩) (W.alloc (.cells #[.int .u8 a.toNat] 5)) := conv_lit [a] W (by simp)
theorem conv_2 (W : World) (a : UInt8) : (convert 102 9 (.slice (some ⟨W.heap.size, 0, none⟩) 2 2)).run Try.prog (W.alloc (.cells #[.int .u8 92, .int .u8 a.toNat] 5)) = .ok (.string ⟨#[92, a]⟩) (W.alloc (.cells #[.int .u8 92, .int .u8 a.toNat] 5)) := conv_lit [92, a] W (by simp)
theorem conv_n (W : World) : (convert 102 9 (.slice (some ⟨W.heap.size, 0, none⟩) 2 2)).run Try.prog (W.alloc (.cells #[.int .u8 92, .int .u8 110] 5)) = .ok (.string ⟨#[92, 110]⟩) (W.alloc (.cells #[.int .u8 92, .int .u8 110] 5)) := conv_lit [92, 110] W (by simp)
theorem conv_t (W : World) : (convert 102 9 (.slice (some ⟨W.heap.size, 0, none⟩) 2 2)).run Try.prog (W.alloc (.cells #[.int .u8 92, .int .u8 116] 5)) = .ok (.string ⟨#[92, 116]⟩) (W.alloc (.cells #[.int .u8 92, .int .u8 116] 5)) := conv_lit [92, 116] W (by simp)
theorem conv_4 (W : World) (a b : UInt8) : (convert 102 9 (.slice (some ⟨W.heap.size, 0, none⟩) 4 4)).run Try.prog (W.alloc (.cells #[.int .u8 92, .int .u8 120, .int .u8 a.toNat, .int .u8 b.toNat] 5)) = .ok (.string ⟨#[92, 120, a, b]⟩) (W.alloc (.cells #[.int .u8 92, .int .u8 120, .int .u8 a.toNat, .int .u8 b.toNat] 5)) := conv_lit [92, 120, a, b] W (by simp)
theorem own_lit4 (W : World) (a b : UInt8) : (W.alloc (.cells (u8s [92, 120, a, b]).toArray 5)).ownsRow 0 5 1 (.slice (some ⟨W.heap.size, 0, none⟩) 4 4) 4 (u8s [92, 120, a, b]) :=
  World.ownsRow_lit (base := 0) (e := 5) (size := 1) W (u8s [92, 120, a, b]).toArray 4 (by omega) (by unfold maxLen; omega) (by simp [u8s])
theorem conv_4d (W : World) (a b : UInt8) : (convert 102 9 (.slice (some ⟨W.heap.size, 0, none⟩) 4 4)).run Try.prog (W.alloc (.cells #[.int .u8 92, .int .u8 120, .int .u8 a.toNat, .int .u8 b.toNat] 5)).drew = .ok (.string ⟨#[92, 120, a, b]⟩) (W.alloc (.cells #[.int .u8 92, .int .u8 120, .int .u8 a.toNat, .int .u8 b.toNat] 5)).drew :=
  conv_own (base := 0) (l := [92, 120, a, b]) (own_drewN (own_lit4 W a b) 1) rfl

theorem bytes_app (a b : List UInt8) : (⟨a.toArray⟩ : ByteArray) ++ ⟨b.toArray⟩ = ⟨(a ++ b).toArray⟩ := by
  apply ByteArray.ext
  rw [ByteArray.data_append]
  simp

theorem take_count (s : ByteArray) (i : Nat) (h : i < s.size) (c : UInt8) : (s.data.toList.take (i + 1)).count c = (s.data.toList.take i).count c + if s[i] = c then 1 else 0 := by
  rw [take_succ_byte s i h, List.count_append, List.count_singleton]
  congr 1
  by_cases h : s[i] = c <;> simp [h]

def CountAt (s : ByteArray) (w0 : World) (k : Nat) (v3 v4 v5 : Value) (w : World) : Prop :=
  ∃ i a b : Nat, v5 = .int .i64 i ∧ v3 = .int .i64 a ∧ v4 = .int .i64 b ∧ i ≤ s.size ∧ a ≤ i ∧ b ≤ i ∧ a = (s.data.toList.take i).count 39 ∧ b = (s.data.toList.take i).count 34 ∧ k = s.size - i ∧ w = w0

def RQuoteAt (w0 : World) (q : UInt8) (s : ByteArray) (k : Nat) (v8 v9 : Value) (w : World) : Prop :=
  ∃ (i : Nat) (o : List UInt8) (t : ByteArray), v9 = .int .i64 i ∧ v8 = .string t ∧ t = ⟨o.toArray⟩ ∧ i ≤ s.size ∧ o = q :: (s.data.toList.take i).flatMap (Lex.quoteB q) ∧ Below w0.heap.size w0 w ∧ k = s.size - i

set_option maxRecDepth 8000 in
set_option maxHeartbeats 4000000 in
theorem rquote_calls (s : ByteArray) (w : World) (hs : s.size ≤ 65536) :
    Calls Try.prog 74 #[.string s] w fun e w' => e = .returned (.string ⟨(Lex.quoteS s.data.toList).toArray⟩) ∧ Below w.heap.size w w' := by
  generalize hres : Lex.quoteS s.data.toList = res
  have Hres := hid hres
  clear hres
  obtain ⟨q, hq⟩ : ∃ q, q = Lex.quoteQ s.data.toList := ⟨_, rfl⟩
  have Hq := hid hq
  clear hq
  have hb0 : (q.toNat : Int) ≤ 255 := by have := q.toNat_lt; omega
  go_enter Try.func74, Try.ntmps74
  go_wp2_with fail
  go_loopg [3, 4, 5] s.size (fun k v3 v4 v5 wr => CountAt s w k v3 v4 v5 wr)
  case atStart => exact ⟨0, 0, 0, rfl, rfl, rfl, by omega, by omega, by omega, rfl, rfl, rfl, rfl⟩
  case round =>
    obtain ⟨i, a, b, rfl, rfl, rfl, hi, hai, hbi, ha, hb, hk, rfl⟩ := hrel
    have Ha := hid ha
    have Hb := hid hb
    have Hk := hid hk
    clear ha hb hk
    by_cases hlt : i < s.size
    · have hlt' : (i : Int) < (s.size : Int) := by omega
      have H39 := hid (take_count s i hlt 39)
      have H34 := hid (take_count s i hlt 34)
      by_cases c39 : s[i] = 39
      · have e1 : ((s[i].toNat : Int) == 39) = true := tob _ 39 (by omega) c39
        have e2 : ((s[i].toNat : Int) == 34) = false := tobf _ 34 (by omega) (by rw [c39]; decide)
        have Hc := hid c39
        clear c39
        go_wp2_with fail
        go_roundg (s.size - (i + 1))
        case measure => have hk := Hk.out; omega
        case rel => exact ⟨i + 1, a + 1, b, by go_num, by go_num, rfl, by omega, by omega, by omega, by rw [H39.out, ← Ha.out, if_pos Hc.out], by rw [H34.out, ← Hb.out, if_neg (by rw [Hc.out]; decide)]; rfl, rfl, rfl⟩
      · have e1 : ((s[i].toNat : Int) == 39) = false := tobf _ 39 (by omega) c39
        by_cases c34 : s[i] = 34
        · have e2 : ((s[i].toNat : Int) == 34) = true := tob _ 34 (by omega) c34
          have Hc := hid c34
          have Hd := hid c39
          clear c34 c39
          go_wp2_with fail
          go_roundg (s.size - (i + 1))
          case measure => have hk := Hk.out; omega
          case rel => exact ⟨i + 1, a, b + 1, by go_num, rfl, by go_num, by omega, by omega, by omega, by rw [H39.out, ← Ha.out, if_neg Hd.out]; rfl, by rw [H34.out, ← Hb.out, if_pos Hc.out], rfl, rfl⟩
        · have e2 : ((s[i].toNat : Int) == 34) = false := tobf _ 34 (by omega) c34
          have Hc := hid c34
          have Hd := hid c39
          clear c34 c39
          go_wp2_with fail
          go_roundg (s.size - (i + 1))
          case measure => have hk := Hk.out; omega
          case rel => exact ⟨i + 1, a, b, by go_num, rfl, rfl, by omega, by omega, by omega, by rw [H39.out, ← Ha.out, if_neg Hd.out]; rfl, by rw [H34.out, ← Hb.out, if_neg Hc.out]; rfl, rfl, rfl⟩
    · have hge : ¬ (i : Int) < (s.size : Int) := by omega
      have hcs : ((b : Int) < (a : Int) ∧ q = 34) ∨ (¬ (b : Int) < (a : Int) ∧ q = 39) := by
        have h1 : s.data.toList.take i = s.data.toList := List.take_of_length_le (by simp; omega)
        have ha := Ha.out
        have hb := Hb.out
        rw [h1] at ha hb
        by_cases h : s.data.toList.count 34 < s.data.toList.count 39
        · left; refine ⟨by omega, ?_⟩; rw [Hq.out]; unfold Lex.quoteQ; rw [if_pos h]
        · right; refine ⟨by omega, ?_⟩; rw [Hq.out]; unfold Lex.quoteQ; rw [if_neg h]
      clear Ha Hb Hk
      go_upto_if 31 with fail
      go_cut [6] (fun v6 wx => v6 = .int .u8 q.toNat ∧ wx = wr)
      case first =>
        rcases hcs with ⟨h1, h2⟩ | ⟨h1, h2⟩
        all_goals
          have h2' := hid h2
          clear h2
          go_wp2_with fail
          go_meet
          rw [h2'.out]
          exact ⟨rfl, rfl⟩
      case rest =>
        obtain ⟨rfl, rfl⟩ := hcut
        clear hcs hai hbi hi hge
        have hcv1 := conv_1 wc q
        go_wp2_with fail
        obtain ⟨hx, hhx⟩ : ∃ hx : ByteArray, hx = hexA := ⟨_, rfl⟩
        have hhx' : (⟨#[48, 49, 50, 51, 52, 53, 54, 55, 56, 57, 97, 98, 99, 100, 101, 102]⟩ : ByteArray) = hx := hhx.symm
        have Hhx := hid hhx
        have hxs : hx.size = 16 := by rw [hhx]; rfl
        rw [hhx']
        clear hhx hhx' hcv1
        go_loopg [8, 9] s.size (fun k v8 v9 w2 => RQuoteAt wc q s k v8 v9 w2)
        case atStart => exact ⟨0, [q], _, rfl, rfl, rfl, by omega, rfl, (Below.refl _ _).alloc (Nat.le_refl _) _, rfl⟩
        case round =>
          obtain ⟨j, o, t, rfl, rfl, ht, hj, ho, hbel, hk⟩ := hrel
          have Ho := hid ho
          have Ht := hid ht
          have Hk := hid hk
          have hol : o.length ≤ 4 * j + 1 := by rw [ho]; have := flat_len q s j; simp only [List.length_cons]; omega
          have hts : t.size = o.length := by rw [ht]; simp [ByteArray.size]
          have hts2 : t.size ≤ 262145 := by omega
          clear ho hk ht hts
          by_cases hlt : j < s.size
          · have hlt' : (j : Int) < (s.size : Int) := by omega
            have hc255 : (s[j].toNat : Int) ≤ 255 := by have := s[j].toNat_lt; omega
            have Hnx := hid (take_one s j hlt (Lex.quoteB q))
            by_cases hq1 : s[j] = q ∨ s[j] = 92
            · have Hb : Hid (Lex.quoteB q s[j] = [92, s[j]]) := by show _ = _; unfold Lex.quoteB; rw [if_pos hq1]
              have hc2 : ((s[j].toNat : Int) == (q.toNat : Int)) = true ∨ (((s[j].toNat : Int) == (q.toNat : Int)) = false ∧ ((s[j].toNat : Int) == 92) = true) := by
                by_cases h : s[j] = q
                · left; rw [h]; simp
                · right
                  refine ⟨?_, ?_⟩
                  · rw [beq_eq_false_iff_ne]; intro e; apply h; apply UInt8.toNat_inj.1; omega
                  · rw [hq1.resolve_left h]; decide
              clear hq1
              rcases hc2 with e1 | ⟨e1, e2⟩
              all_goals
                have hcv := conv_2 wr s[j]
                go_wp2_with fail
                go_roundg (s.size - (j + 1))
                case measure => have hk := Hk.out; omega
                case rel => exact ⟨j + 1, o ++ [92, s[j]], _, by go_num, rfl, by rw [Ht.out]; exact bytes_app o [92, s[j]], by omega, by rw [Hnx.out, Ho.out, Hb.out]; rfl, hbel.alloc hbel.size _, rfl⟩
            · have e1 : ((s[j].toNat : Int) == (q.toNat : Int)) = false := by
                rw [beq_eq_false_iff_ne]; intro e; apply hq1; left; apply UInt8.toNat_inj.1; omega
              have e2 : ((s[j].toNat : Int) == 92) = false := tobf _ 92 (by omega) (fun h => hq1 (.inr h))
              by_cases c10 : s[j] = 10
              · have e3 : ((s[j].toNat : Int) == 10) = true := tob _ 10 (by omega) c10
                have Hb : Hid (Lex.quoteB q s[j] = [92, 110]) := by show _ = _; unfold Lex.quoteB; rw [if_neg hq1, if_pos c10]
                clear hq1 c10
                have hcv := conv_n wr
                go_wp2_with fail
                go_roundg (s.size - (j + 1))
                case measure => have hk := Hk.out; omega
                case rel => exact ⟨j + 1, o ++ [92, 110], _, by go_num, rfl, by rw [Ht.out]; exact bytes_app o [92, 110], by omega, by rw [Hnx.out, Ho.out, Hb.out]; rfl, hbel.alloc hbel.size _, rfl⟩
              · have e3 : ((s[j].toNat : Int) == 10) = false := tobf _ 10 (by omega) c10
                by_cases c9 : s[j] = 9
                · have e4 : ((s[j].toNat : Int) == 9) = true := tob _ 9 (by omega) c9
                  have Hb : Hid (Lex.quoteB q s[j] = [92, 116]) := by show _ = _; unfold Lex.quoteB; rw [if_neg hq1, if_neg c10, if_pos c9]
                  clear hq1 c10 c9
                  have hcv := conv_t wr
                  go_wp2_with fail
                  go_roundg (s.size - (j + 1))
                  case measure => have hk := Hk.out; omega
                  case rel => exact ⟨j + 1, o ++ [92, 116], _, by go_num, rfl, by rw [Ht.out]; exact bytes_app o [92, 116], by omega, by rw [Hnx.out, Ho.out, Hb.out]; rfl, hbel.alloc hbel.size _, rfl⟩
                · have e4 : ((s[j].toNat : Int) == 9) = false := tobf _ 9 (by omega) c9
                  by_cases crg : s[j] < 32 ∨ 126 < s[j]
                  · have Hb : Hid (Lex.quoteB q s[j] = [92, 120, Lex.hexD (s[j].toNat / 16), Lex.hexD (s[j].toNat % 16)]) := by show _ = _; unfold Lex.quoteB; rw [if_neg hq1, if_neg c10, if_neg c9, if_pos crg]
                    have crg' : (s[j].toNat : Int) < 32 ∨ ((32 : Int) ≤ (s[j].toNat : Int) ∧ (126 : Int) < (s[j].toNat : Int)) := by
                      rcases crg with h | h
                      · left; have := UInt8.lt_iff_toNat_lt.1 h; simp at this; omega
                      · right; have := UInt8.lt_iff_toNat_lt.1 h; simp at this; omega
                    clear hq1 c10 c9 crg
                    have hd0 : (0 : Int) ≤ (s[j].toNat : Int) / 16 := by omega
                    have hd1 : (s[j].toNat : Int) / 16 < 16 := by omega
                    have hm0 : (0 : Int) ≤ (s[j].toNat : Int) % 16 := by omega
                    have hm1 : (s[j].toNat : Int) % 16 < 16 := by omega
                    have htd : Int.tdiv (s[j].toNat : Int) 16 = (s[j].toNat : Int) / 16 := Int.tdiv_eq_ediv_of_nonneg (by omega)
                    have htm : Int.tmod (s[j].toNat : Int) 16 = (s[j].toNat : Int) % 16 := Int.tmod_eq_emod_of_nonneg (by omega)
                    obtain ⟨a, ha⟩ : ∃ a : UInt8, hx[((s[j].toNat : Int) / 16).toNat]'(by omega) = a := ⟨_, rfl⟩
                    obtain ⟨b, hb⟩ : ∃ b : UInt8, hx[((s[j].toNat : Int) % 16).toNat]'(by omega) = b := ⟨_, rfl⟩
                    have Ha : Hid (a = Lex.hexD (s[j].toNat / 16)) := by
                      have hhx : hx = hexA := Hhx.out
                      show a = _
                      subst hhx
                      rw [← ha]
                      exact (hexA_get _ (by omega)).trans (congrArg Lex.hexD (by omega))
                    have Hb2 : Hid (b = Lex.hexD (s[j].toNat % 16)) := by
                      have hhx : hx = hexA := Hhx.out
                      show b = _
                      subst hhx
                      rw [← hb]
                      exact (hexA_get _ (by omega)).trans (congrArg Lex.hexD (by omega))
                    have hcv := conv_4 wr a b
                    have hcw := conv_4d wr a b
                    rcases crg' with hr1 | ⟨hr1, hr2⟩
                    all_goals
                      go_wp2_with fail
                      go_region
                      go_wp2_with fail
                      go_roundg (s.size - (j + 1))
                      case measure => have hk := Hk.out; omega
                      case rel =>
                        refine ⟨j + 1, o ++ [92, 120, a, b], _, by go_num, rfl, by rw [Ht.out]; exact bytes_app o [92, 120, a, b], by omega, by rw [Hnx.out, Ho.out, Hb.out, Ha.out, Hb2.out]; rfl, ?_, rfl⟩
                        first | exact (hbel.alloc hbel.size _).drew | exact hbel.drew.alloc hbel.size _
                  · have Hb : Hid (Lex.quoteB q s[j] = [s[j]]) := by show _ = _; unfold Lex.quoteB; rw [if_neg hq1, if_neg c10, if_neg c9, if_neg crg]
                    have hr1 : (32 : Int) ≤ (s[j].toNat : Int) := by
                      have : ¬ s[j] < 32 := fun h => crg (.inl h)
                      have := mt UInt8.lt_iff_toNat_lt.2 this; simp at this; omega
                    have hr2 : (s[j].toNat : Int) ≤ 126 := by
                      have : ¬ 126 < s[j] := fun h => crg (.inr h)
                      have := mt UInt8.lt_iff_toNat_lt.2 this; simp at this; omega
                    clear hq1 c10 c9 crg
                    have hcv := conv_1 wr s[j]
                    go_wp2_with fail
                    go_roundg (s.size - (j + 1))
                    case measure => have hk := Hk.out; omega
                    case rel => exact ⟨j + 1, o ++ [s[j]], _, by go_num, rfl, by rw [Ht.out]; exact bytes_app o [s[j]], by omega, by rw [Hnx.out, Ho.out, Hb.out]; rfl, hbel.alloc hbel.size _, rfl⟩
          · have hge : ¬ (j : Int) < (s.size : Int) := by omega
            have Hfin : Hid (t ++ ⟨#[q]⟩ = ⟨res.toArray⟩) := by
              show _ = _
              have h1 : s.data.toList.take j = s.data.toList := List.take_of_length_le (by simp; omega)
              rw [Ht.out, bytes_app o [q], ← Hres.out, Ho.out, h1, Lex.quoteS, ← Hq.out]; rfl
            have hcv := conv_1 wr q
            go_wp2_with fail
            go_ret
            refine ⟨?_, hbel.alloc hbel.size _⟩
            rw [← Hfin.out]
            rfl
end Go.Proofs.Ytaehooafdbaomaa
