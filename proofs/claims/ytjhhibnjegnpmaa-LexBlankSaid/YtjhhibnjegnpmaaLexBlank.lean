/- Chapter 4 (lex): LexBlank: more blanks and comments between tokens change places alone. -/
import Derived.Test.YtjhhibnjegnpmaaLexJoins
import Derived.Test.YtjhhibnjegnpmaaLexQuote1
import Derived.Test.YtjhhibnjegnpmaaLexBlankSpec
import Derived.Test.YtjhhibnjegnpmaaLawInts
namespace Go.Proofs.Ytjhhibnjegnpmaa
open Go.RowKit
attribute [local go_sem ↓] Go.wp_at_zero Go.wp_at_succ
attribute [local go_sem] frozen_alloc_lt

theorem mask3 (n : Int) : ∃ m : Nat, m ≤ 3 ∧ bits .and .i64 n 3 = (m : Int) := by
  have h : (BitVec.ofInt 64 n &&& BitVec.ofInt 64 3).toNat ≤ 3 := by
    rw [BitVec.toNat_and]
    exact Nat.and_le_right
  refine ⟨(BitVec.ofInt 64 n &&& BitVec.ofInt 64 3).toNat, h, ?_⟩
  show IntKind.i64.wrap ((BitVec.ofInt 64 n &&& BitVec.ofInt 64 3).toNat : Int) = _
  rw [IntKind.wrap_i64]
  omega

theorem cat_bytes (a b : List UInt8) : (⟨a.toArray⟩ : ByteArray) ++ ⟨b.toArray⟩ = ⟨(a ++ b).toArray⟩ := by
  apply ByteArray.ext
  rw [ByteArray.data_append]
  simp

def gapOf (zs : List Int) (i : Nat) : Nat := if i < zs.length then (bits .and .i64 (zs.getD i 0) 3).toNat else 0
theorem gapOf_le (zs : List Int) (i : Nat) : gapOf zs i ≤ 3 := by
  unfold gapOf
  split
  · obtain ⟨m, hm, he⟩ := mask3 (zs.getD i 0)
    rw [he]; simpa using hm
  · omega

def BlankAt (zs : List Int) (ts : List Lex.Tok) (w0 : World) (k : Nat) (v7 v8 : Value) (w : World) : Prop :=
  ∃ (i : Nat) (t : ByteArray), v8 = .int .i64 i ∧ v7 = .string t ∧ t = ⟨(Lex.blankS (gapOf zs) 0 (ts.take i)).toArray⟩ ∧ i ≤ ts.length ∧ Below w0.heap.size w0 w ∧ k = ts.length - i

set_option maxHeartbeats 4000000 in
theorem blank_bad (s : ByteArray) (gv : Value) (w : World) (hs : s.size ≤ 9223372036854775807) (h : 500 < s.size ∨ ∃ f, Lex.scan s.data.toList = .bad f) :
    Calls Try.prog 8 #[.string s, gv] w fun e w' => e = .returned (.bool true) ∧ Below w.heap.size w w' := by
  by_cases h5 : 500 < s.size
  · have h5' : (500 : Int) < (s.size : Int) := by omega
    go_enter Try.func8, Try.ntmps8
    go_wp2_with (go_at_call 9; refine (speaks_calls _).mono ?_; rintro e w1 ⟨rfl, hb1⟩)
    go_ret
    exact ⟨rfl, hb1⟩
  · obtain ⟨f, hf⟩ := h.resolve_left h5
    have h5' : ¬ (500 : Int) < (s.size : Int) := by omega
    have Hf := hid hf
    have hc : ((f.code : Int) != 0) = true := by rcases Lex.scan_code hf with h | h <;> rw [h] <;> rfl
    clear hf h
    go_enter Try.func8, Try.ntmps8
    go_wp2_with (go_at_call 9; refine (speaks_calls _).mono ?_; rintro e w1 ⟨rfl, hb1⟩)
    refine (scan_at Hf.out (scan_calls s _ hs)).mono ?_
    rintro e w2 ⟨rfl, hb2⟩
    go_wp2_with fail
    go_ret
    exact ⟨rfl, (hb1.trans (hb2.mono hb1.size)).alloc (Nat.le_trans hb1.size hb2.size) _⟩

set_option maxHeartbeats 8000000 in
theorem blank_good (s : ByteArray) (ga : Option Addr) (len cap : Nat) (zs : List Int) (w : World) (hs : s.size ≤ 500) (hin : IntsAt w ga len zs) (ts : List Lex.Tok) (en : Lex.Tok)
    (hsc : Lex.scan s.data.toList = .good (ts ++ [en])) (hen : Lex.key en = (4, [])) (hts : ∀ t ∈ ts, t.ok) (hn : ts.length ≤ 500) :
    Calls Try.prog 8 #[.string s, .slice ga len cap] w fun e w' => e = .returned (.bool true) ∧ Below w.heap.size w w' := by
  obtain ⟨hzl, hlm, hin⟩ := hin
  have Hin := hid hin
  have Hsc := hid hsc
  have Hts := hid hts
  obtain ⟨m, hm, hmk⟩ := Lex.scan_blankS (gapOf zs) ts hts (by omega)
  have hml : m.length = ts.length + 1 := by
    have := congrArg List.length hmk
    simpa using this
  have Hm := hid hm
  have Hmk : Hid (m.map Lex.key = (ts ++ [en]).map Lex.key) := by show _ = _; rw [hmk, List.map_append, List.map_singleton, hen]
  clear hsc hin hts hm hmk
  have h5' : ¬ (500 : Int) < (s.size : Int) := by omega
  go_enter Try.func8, Try.ntmps8
  go_wp2_with (go_at_call 9; refine (speaks_calls _).mono ?_; rintro e w1 ⟨rfl, hb1⟩)
  refine (scan_at Hsc.out (scan_calls s _ (by omega))).mono ?_
  rintro e w2 ⟨v, rfl, hown, hb2⟩
  rw [List.length_append, List.length_singleton] at hown
  obtain ⟨g1, cap1, rfl, -, -⟩ := hown.form (by omega)
  go_wp2_with fail
  have o1 := hown.alloc (.cells #[.int .i64 0, .int .i64 0, .int .i64 0] 27)
  have hbA : Below w.heap.size w (w2.alloc (.cells #[.int .i64 0, .int .i64 0, .int .i64 0] 27)) := (hb1.trans (hb2.mono hb1.size)).alloc (Nat.le_trans hb1.size hb2.size) _
  obtain ⟨wA, hwA⟩ : ∃ wA, wA = w2.alloc (.cells #[.int .i64 0, .int .i64 0, .int .i64 0] 27) := ⟨_, rfl⟩
  obtain ⟨bf, hbf⟩ : ∃ bf, bf = w2.heap.size := ⟨_, rfl⟩
  rw [← hwA] at hbA o1
  rw [← hwA, ← hbf]
  clear hwA hbf hown hb1 hb2
  have hnN : (ts.length : Int) ≤ 500 := by omega
  go_loopg [7, 8] ts.length (fun k v7 v8 wr => BlankAt zs ts wA k v7 v8 wr)
  case atStart => exact ⟨0, _, rfl, rfl, rfl, by omega, Below.refl _ _, rfl⟩
  case round =>
    obtain ⟨i, tt, rfl, rfl, htt, hi, hbr, hk⟩ := hrel
    have Htt := hid htt
    have Hk := hid hk
    have hbz : tt.size ≤ 42500 := by
      have h1 := Lex.blankS_len (gapOf zs) (ts.take i) 0 (fun t ht => Hts.out t (List.mem_of_mem_take ht))
      have h2 : (ts.take i).length ≤ i := List.length_take_le _ _
      have h3 : tt.size = (Lex.blankS (gapOf zs) 0 (ts.take i)).length := by rw [htt]; simp [ByteArray.size]
      omega
    clear htt hk
    by_cases hlt : i < ts.length
    · have hlt' : (i : Int) < (ts.length : Int) := by omega
      obtain ⟨tk, htk⟩ : ∃ t, ts[i]? = some t := ⟨ts[i], by simp [hlt]⟩
      have hl1 : (ts ++ [en])[i]? = some tk := by rw [List.getElem?_append_left hlt]; exact htk
      have htake : ts.take (i + 1) = ts.take i ++ [tk] := by rw [List.take_succ_eq_append_getElem hlt]; congr 2; simpa [List.getElem?_eq_getElem hlt] using htk
      have hsn : Lex.blankS (gapOf zs) 0 (ts.take (i + 1)) = Lex.blankS (gapOf zs) 0 (ts.take i) ++ Lex.gap (gapOf zs i) ++ Lex.shape tk := by
        rw [htake, Lex.blankS_snoc, List.length_take, Nat.min_eq_left (by omega), Nat.zero_add]
      have hok : tk.ok := Hts.out tk (List.mem_of_getElem? htk)
      have Hsn := hid hsn
      have Hok := hid hok
      have Hl1 := hid hl1
      clear htk hl1 htake hsn hok
      go_upto_if 36 with fail
      go_cut [9] (fun v9 wx => v9 = .int .i64 (gapOf zs i) ∧ wx = wr)
      case first =>
        by_cases hg : i < len
        · obtain ⟨a, rfl, hab, hac⟩ := Hin.out i hg
          have hac2 : wr.cell? (a.add i) = some (.int .i64 (zs.getD i 0)) := by
            have hblk : (a.add i).block = a.block := by unfold Addr.add; split <;> rfl
            have h1 := hbA.cell (p := a.add i) (by rw [hblk]; exact hab)
            have h2 := hbr.cell (p := a.add i) (by rw [hblk]; exact Nat.lt_of_lt_of_le hab hbA.size)
            exact h2.trans (h1.trans hac)
          obtain ⟨m3, hm3, he3⟩ := mask3 (zs.getD i 0)
          have hgo : gapOf zs i = m3 := by unfold gapOf; rw [if_pos (by omega), he3]; simp
          have Hgo := hid hgo
          obtain ⟨z, hz⟩ : ∃ z, z = zs.getD i 0 := ⟨_, rfl⟩
          rw [← hz] at hac2 he3
          have hg' : (i : Int) < (len : Int) := by omega
          clear hac hgo hz
          go_wp2_with fail
          go_meet
          rw [Hgo.out]
          exact ⟨rfl, rfl⟩
        · have hgo : gapOf zs i = 0 := by unfold gapOf; rw [if_neg (by omega)]
          have Hgo := hid hgo
          clear hgo
          have hg' : ¬ (i : Int) < (len : Int) := by omega
          go_wp2_with fail
          go_meet
          rw [Hgo.out]
          exact ⟨rfl, rfl⟩
      case rest =>
        obtain ⟨rfl, rfl⟩ := hcut
        have hg3 := gapOf_le zs i
        obtain ⟨g3, hg3'⟩ : ∃ g3, g3 = gapOf zs i := ⟨_, rfl⟩
        rw [← hg3'] at hg3 ⊢
        have Hsn2 : Hid (Lex.blankS (gapOf zs) 0 (ts.take (i + 1)) = Lex.blankS (gapOf zs) 0 (ts.take i) ++ Lex.gap g3 ++ Lex.shape tk) := by rw [hg3']; exact Hsn.out
        clear hg3' Hsn
        go_upto_region 15 with fail
        go_cut [7] (fun v7 wx => ∃ t2 : ByteArray, v7 = .string t2 ∧ t2 = ⟨(Lex.blankS (gapOf zs) 0 (ts.take i) ++ Lex.gap g3).toArray⟩ ∧ Below wc.heap.size wc wx)
        case first =>
          rcases (show g3 = 0 ∨ g3 = 1 ∨ g3 = 2 ∨ g3 = 3 by omega) with rfl | rfl | rfl | rfl
          · go_wp2_with fail
            go_meet
            exact ⟨_, rfl, by rw [Htt.out]; exact cat_bytes _ [32], (Below.refl _ _).alloc (Nat.le_refl _) _⟩
          · go_wp2_with fail
            go_meet
            exact ⟨_, rfl, by rw [Htt.out]; exact cat_bytes _ [9, 10], (Below.refl _ _).alloc (Nat.le_refl _) _⟩
          · go_wp2_with fail
            go_meet
            exact ⟨_, rfl, by rw [Htt.out]; exact cat_bytes _ [32, 35, 32, 110, 111, 32, 116, 111, 107, 101, 110, 32, 39, 32, 104, 101, 114, 101, 10], (Below.refl _ _).alloc (Nat.le_refl _) _⟩
          · go_wp2_with fail
            go_meet
            exact ⟨_, rfl, by rw [Htt.out]; exact cat_bytes _ [13, 10, 32], (Below.refl _ _).alloc (Nat.le_refl _) _⟩
        case rest =>
          obtain ⟨t2, rfl, ht2, hbc⟩ := hcut
          have Ht2 := hid ht2
          have hbx : Below wA.heap.size wA wc := hbr.trans (hbc.mono hbr.size)
          have p1 := own_below o1 hbx
          obtain ⟨x0, x1, x2, x3⟩ := own_tok p1 Hl1.out
          have htz : t2.size ≤ 42600 := by
            have h1 := Lex.gap_len g3
            have h2 : tt.size = (Lex.blankS (gapOf zs) 0 (ts.take i)).length := by rw [Htt.out]; simp [ByteArray.size]
            have h3 : t2.size = (Lex.blankS (gapOf zs) 0 (ts.take i) ++ Lex.gap g3).length := by rw [ht2]; simp [ByteArray.size]
            rw [List.length_append] at h3
            omega
          have hsz : tk.text.length ≤ 66 := by
            rcases Hok.out with ⟨_, h, _⟩ | ⟨_, _, h⟩ | ⟨_, c, h, _⟩
            · omega
            · omega
            · rw [h]; simp
          obtain ⟨tx, htx⟩ : ∃ tx : ByteArray, tx = ⟨tk.text.toArray⟩ := ⟨_, rfl⟩
          rw [← htx] at x1
          have Htx := hid htx
          have hxz : tx.size ≤ 66 := by rw [htx]; simpa [ByteArray.size] using hsz
          have htd : tx.data.toList = tk.text := by rw [htx]
          have Htd := hid htd
          have hsz2 := hsz
          clear ht2 htx hsz htd x2 x3
          by_cases hk2 : tk.kind = 2
          · have hk2' : ((tk.kind : Int) == 2) = true := by rw [hk2]; rfl
            have Hsh : Hid (Lex.shape tk = Lex.quoteS tk.text) := by show _ = _; unfold Lex.shape; rw [if_pos hk2]
            obtain ⟨Q, hQ⟩ : ∃ Q : ByteArray, Q = ⟨(Lex.quoteS tk.text).toArray⟩ := ⟨_, rfl⟩
            have HQ := hid hQ
            have hQz : Q.size ≤ 266 := by
              have h1 := Lex.quoteS_len tk.text
              have h2 : Q.size = (Lex.quoteS tk.text).length := by rw [hQ]; simp [ByteArray.size]
              omega
            clear hk2 hQ
            go_wp2_with (go_at_call 14; refine (quote_calls tx _ (by omega)).mono ?_; rintro e w5 ⟨rfl, hb5⟩; rw [Htd.out, ← HQ.out])
            go_roundg (ts.length - (i + 1))
            case measure => have hk := Hk.out; omega
            case rel => exact ⟨i + 1, _, by go_num, rfl, by rw [Hsn2.out, Ht2.out, Hsh.out, HQ.out]; exact cat_bytes _ _, by omega, hbx.trans (hb5.mono hbx.size), rfl⟩
          · have hk2' : ((tk.kind : Int) == 2) = false := by simp; omega
            have Hsh : Hid (Lex.shape tk = tk.text) := by show _ = _; unfold Lex.shape; rw [if_neg hk2]
            clear hk2
            go_wp2_with fail
            go_roundg (ts.length - (i + 1))
            case measure => have hk := Hk.out; omega
            case rel => exact ⟨i + 1, _, by go_num, rfl, by rw [Hsn2.out, Ht2.out, Hsh.out, Htx.out]; exact cat_bytes _ _, by omega, hbx, rfl⟩
    · have hge : ¬ (i : Int) < (ts.length : Int) := by omega
      have Hsct : Hid (Lex.scan tt.data.toList = .good m) := by
        show _ = _
        rw [Htt.out, List.take_of_length_le (by omega)]
        exact Hm.out
      clear Hk
      go_wp2_with fail
      refine (scan_at Hsct.out (scan_calls tt _ (by omega))).mono ?_
      rintro e w5 ⟨v, rfl, hown2, hb5⟩
      rw [hml] at hown2
      obtain ⟨g2, cap2, rfl, -, -⟩ := hown2.form (by omega)
      have hbx : Below wA.heap.size wA w5 := hbr.trans (hb5.mono hbr.size)
      have p1 := own_below o1 hbx
      go_wp2_with fail
      have hbB : Below w.heap.size w (w5.alloc (.cells #[.int .i64 0, .int .i64 0, .int .i64 0] 27)) := (hbA.trans (hbx.mono hbA.size)).alloc (Nat.le_trans hbA.size hbx.size) _
      have q1 := p1.alloc (.cells #[.int .i64 0, .int .i64 0, .int .i64 0] 27)
      have q2 := hown2.alloc (.cells #[.int .i64 0, .int .i64 0, .int .i64 0] 27)
      obtain ⟨wC, hwC⟩ : ∃ wC, wC = w5.alloc (.cells #[.int .i64 0, .int .i64 0, .int .i64 0] 27) := ⟨_, rfl⟩
      rw [← hwC] at hbB q1 q2
      obtain ⟨bg, hbg⟩ : ∃ bg, bg = w5.heap.size := ⟨_, rfl⟩
      rw [← hwC, ← hbg]
      clear hwC hbg p1 hown2 hbx hb5 hbr hge
      go_loopg [12] (ts.length + 1) (fun k i wr => ∃ j n : Nat, i = .int .i64 j ∧ j ≤ ts.length + 1 ∧ k = ts.length + 1 - j ∧ wr = wC.drewN n)
      case atStart => exact ⟨0, 0, rfl, by omega, rfl, rfl⟩
      case round =>
        obtain ⟨j, n, rfl, hj, hk, rfl⟩ := hrel
        have Hk := hid hk
        clear hk
        by_cases hlt2 : j < ts.length + 1
        · have hlt' : (j : Int) < (ts.length : Int) + 1 := by omega
          obtain ⟨t, ht⟩ : ∃ t, (ts ++ [en])[j]? = some t := ⟨(ts ++ [en])[j]'(by simp; omega), by simp [hlt2]⟩
          obtain ⟨u, hu⟩ : ∃ u, m[j]? = some u := ⟨m[j]'(by omega), List.getElem?_eq_getElem _⟩
          have hkey : Lex.key u = Lex.key t := by
            have h1 := congrArg (fun l => l[j]?) Hmk.out
            simp only [List.getElem?_map, ht, hu, Option.map_some, Option.some.injEq] at h1
            exact h1
          have hkk : u.kind = t.kind := congrArg Prod.fst hkey
          have hkt : u.text = t.text := congrArg Prod.snd hkey
          obtain ⟨x0, x1, x2, x3⟩ := own_tok q1 ht
          obtain ⟨y0, y1, y2, y3⟩ := own_tok q2 hu
          rw [hkk] at y0
          rw [hkt] at y1
          clear ht hu hkey hkk hkt x2 x3 y2 y3
          go_wp2_with fail
          go_quiet (fail)
          go_wp2_with fail
          go_roundg (ts.length + 1 - (j + 1))
          case measure => have hk := Hk.out; omega
          case rel => exact ⟨j + 1, _, by go_num, by omega, rfl, rfl⟩
        · have hge : ¬ (j : Int) < (ts.length : Int) + 1 := by omega
          go_wp2_with fail
          go_ret
          exact ⟨rfl, below_drewN hbB _⟩

theorem blank_calls (s : ByteArray) (ga : Option Addr) (len cap : Nat) (zs : List Int) (w : World) (hs : s.size ≤ 9223372036854775807) (hin : IntsAt w ga len zs) :
    Calls Try.prog 8 #[.string s, .slice ga len cap] w fun e w' => e = .returned (.bool true) ∧ Below w.heap.size w w' := by
  by_cases h5 : 500 < s.size
  · exact blank_bad s _ w hs (.inl h5)
  · cases hsc : Lex.scan s.data.toList with
    | bad f => exact blank_bad s _ w hs (.inr ⟨f, hsc⟩)
    | good l =>
      obtain ⟨ts, en, rfl, hen, hts, hn⟩ := Lex.scan_ok hsc
      have hl : s.data.toList.length = s.size := by simp
      exact blank_good s ga len cap zs w (by omega) hin ts en hsc hen hts (by omega)
end Go.Proofs.Ytjhhibnjegnpmaa
