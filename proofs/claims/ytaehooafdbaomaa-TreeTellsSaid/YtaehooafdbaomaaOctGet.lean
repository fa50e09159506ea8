/- Chapter 1 (octets): Get. -/
import Derived.Test.YtaehooafdbaomaaOct
import Derived.Test.YtaehooafdbaomaaLexQ0
import Derived.Test.YtaehooafdbaomaaRep
import Derived.RegionTactic
import Derived.BigRegion
import Derived.ChangeAlike
import Derived.Deep.QuietTactic
import Derived.BigQuiet
import Derived.Deep.RegionHeld3
import Derived.Deep.DrawnRows
import Derived.Lib.Bytealg
import Derived.Deep.CutBlock
import Derived.Lib.Strings
import Derived.Laws.BitsAllLaws
import Derived.Laws.BitsLemmas
namespace Go.Proofs.Ytaehooafdbaomaa
open Go.RowKit
attribute [local go_sem ↓] Go.wp_at_zero Go.wp_at_succ
attribute [local go_sem] frozen_alloc_lt

def Oct.goV : Oct.GRes → Value
  | .bad e => .tuple #[.int .i64 0, .int .i64 0, .int .i64 e]
  | .ok n k => .tuple #[.int .i64 n, .int .i64 k, .int .i64 0]
theorem andn128 (c : UInt8) : bits .andNot .u8 (c.toNat : Int) 128 = ((c.toNat % 128 : Nat) : Int) := by
  have key : ∀ a : Fin 256, bits .andNot .u8 (a.val : Int) 128 = ((a.val % 128 : Nat) : Int) := by decide +kernel
  exact key ⟨c.toNat, c.toNat_lt⟩
theorem and128 (c : UInt8) : bits .and .u8 (c.toNat : Int) 128 = if 127 < c.toNat then 128 else 0 := by
  have key : ∀ a : Fin 256, bits .and .u8 (a.val : Int) 128 = if 127 < a.val then 128 else 0 := by decide +kernel
  exact key ⟨c.toNat, c.toNat_lt⟩
theorem or_byte (m c : Nat) (hm : m < 2 ^ 50) (hc : c < 256) : bits .or .i64 ((256 * m : Nat) : Int) (c : Int) = ((256 * m + c : Nat) : Int) := by
  show IntKind.i64.wrap ((BitVec.ofInt 64 ((256 * m : Nat) : Int) ||| BitVec.ofInt 64 (c : Int)).toNat : Int) = _
  rw [BitVec.toNat_or]
  simp only [BitVec.ofInt_natCast, BitVec.toNat_ofNat]
  rw [Nat.mod_eq_of_lt (by omega), Nat.mod_eq_of_lt (by omega), Nat.mul_comm 256 m]
  have h := Nat.shiftLeft_add_eq_or_of_lt (b := c) (i := 8) hc m
  rw [Nat.shiftLeft_eq] at h
  rw [show m * 256 = m * 2 ^ 8 by rfl, ← h, IntKind.wrap_i64]
  omega
def OgAt (w0 : World) (r : List UInt8) (k : Nat) (g : Nat) (v7 v8 : Value) (w : World) : Prop :=
  ∃ i : Nat, v7 = .int .i64 (Oct.val 0 (r.take i)) ∧ v8 = .int .i64 ((i : Int) + 1) ∧ i ≤ k ∧ g = k - i ∧ w = w0
set_option maxRecDepth 8000 in
set_option maxHeartbeats 4000000 in
theorem get_calls (s : ByteArray) (w : World) (hs : s.size ≤ 9223372036854775807) :
    Calls Try.prog 107 #[.string s] w fun e w' => e = .returned (Oct.goV (Oct.getS s.data.toList)) ∧ ∃ m, w' = w.drewN m := by
  obtain ⟨l, hl⟩ : ∃ l, l = s.data.toList := ⟨_, rfl⟩
  rw [← hl]
  have hsz : s.size = l.length := by rw [hl, Lib.size_eq]
  cases l with
  | nil =>
    have e : s = ⟨#[]⟩ := by
      apply ByteArray.ext
      exact Array.eq_empty_of_size_eq_zero hsz
    subst e
    clear hl hs hsz
    go_enter Try.func107, Try.ntmps107
    go_wp2
    refine bodyPost_ret (v := .tuple #[.int .i64 0, .int .i64 0, .int .i64 3]) (by simp [results, Try.results107, go_sem]) rfl ?_
    exact ⟨rfl, 0, rfl⟩
  | cons c r =>
    have hp : (0 : Int) < (s.size : Int) := by rw [hsz, List.length_cons]; omega
    have hp' : 0 < s.size := by omega
    have heb : s.toList.isEmpty = false := by rw [Lib.toList_data, ← hl]; rfl
    have hidx : ∀ (i : Nat) (h : i < s.size) (x : UInt8), (c :: r)[i]? = some x → s[i]'h = x := fun i h x hx => by
      rw [hl] at hx
      obtain ⟨h1, h2⟩ := List.getElem?_eq_some_iff.1 hx
      rw [← h2]
      rfl
    have h00 := hidx 0 hp' c rfl
    have he1 : bits .andNot .u8 (((s[0]'hp').toNat : Nat) : Int) 128 = ((c.toNat % 128 : Nat) : Int) := by rw [h00]; exact andn128 c
    have he2 : bits .and .u8 (((s[0]'hp').toNat : Nat) : Int) 128 = if 127 < c.toNat then 128 else 0 := by rw [h00]; exact and128 c
    obtain ⟨k, hk⟩ : ∃ k, k = c.toNat % 128 := ⟨_, rfl⟩
    obtain ⟨ng, hng⟩ : ∃ ng, ng = decide (127 < c.toNat) := ⟨_, rfl⟩
    rw [← hk] at he1
    have he3 : bits .and .u8 (((s[0]'hp').toNat : Nat) : Int) 128 = 128 ∧ ng = true ∨ bits .and .u8 (((s[0]'hp').toNat : Nat) : Int) 128 = 0 ∧ ng = false := by
      rw [he2, hng]
      by_cases h : 127 < c.toNat
      · left; simp [h]
      · right; simp [h]
    have hk0 : k ≤ 127 := by omega
    obtain ⟨res, hres⟩ : ∃ res, res = Oct.getS (c :: r) := ⟨_, rfl⟩
    rw [← hres]
    have HR := hid hres
    have Hidx := hid hidx
    have Hsz := hid hsz
    have Hk := hid hk
    have Hng := hid hng
    clear hidx hsz hl h00 he2 hk hng hres
    go_enter Try.func107, Try.ntmps107
    go_upto_region 3 with fail
    go_cut [5, 6] from 11 to 18 (fun v5 v6 wx => v5 = .int .i64 k ∧ v6 = .bool ng ∧ ∃ m, wx = w.drewN m)
    case first =>
      rcases he3 with ⟨he3, rfl⟩ | ⟨he3, rfl⟩
      all_goals
        go_quiet (fail)
        go_wp2_with fail
        go_meet
        exact ⟨rfl, rfl, _, rfl⟩
    case rest =>
      obtain ⟨rfl, rfl, m, rfl⟩ := hcut
      clear he1 he3
      have hsc := Hsz.out
      rw [List.length_cons] at hsc
      by_cases h7 : 7 < k
      · have He := hid (show res = .bad 2 by rw [HR.out, Oct.getS, ← Hk.out, if_pos (.inl h7)])
        have h7' : (7 : Int) < (k : Int) := by omega
        clear hsc
        go_wp2_with fail
        refine bodyPost_ret (v := .tuple #[.int .i64 0, .int .i64 0, .int .i64 2]) (by simp [results, Try.results107, go_sem]) rfl ?_
        exact ⟨by rw [He.out]; rfl, m, rfl⟩
      · have h7' : ¬ (7 : Int) < (k : Int) := by omega
        by_cases hz : ng = true ∧ k = 0
        · obtain ⟨hz1, hz2⟩ := hz
          have He := hid (show res = .bad 2 by
            have h1 := Hng.out
            have h2 := Hk.out
            rw [hz1] at h1
            have h3 := c.toNat_lt
            have h4 : 127 < c.toNat := by simpa using h1.symm
            rw [HR.out, Oct.getS, if_pos (.inr (by omega))])
          subst hz1 hz2
          clear hsc
          go_wp2_with fail
          refine bodyPost_ret (v := .tuple #[.int .i64 0, .int .i64 0, .int .i64 2]) (by simp [results, Try.results107, go_sem]) rfl ?_
          exact ⟨by rw [He.out]; rfl, m, rfl⟩
        · have hc1 : ¬ (7 < c.toNat % 128 ∨ c.toNat = 128) := by
            rw [← Hk.out]
            intro e
            rcases e with e | e
            · exact h7 e
            · exact hz ⟨by rw [Hng.out, e]; rfl, by rw [Hk.out, e]⟩
          have hgd : ng = false ∨ (ng = true ∧ ((k : Int) == 0) = false) := by
            cases hn : ng with
            | false => exact .inl rfl
            | true =>
              right
              refine ⟨rfl, ?_⟩
              rw [beq_eq_false_iff_ne]
              intro e
              exact hz ⟨hn, by omega⟩
          have Hc1 := hid hc1
          have Hh7 := hid h7
          clear hz hc1 h7
          go_upto_region 5 with fail
          go_cut [19] from 22 to 26 (fun v19 wx => v19 = .bool false ∧ wx = w.drewN m)
          case first =>
            rcases hgd with rfl | ⟨rfl, hgd⟩
            all_goals
              go_wp2_with fail
              go_meet
              exact ⟨rfl, rfl⟩
          case rest =>
            obtain ⟨rfl, rfl⟩ := hcut
            by_cases hsh : r.length < k
            · have He := hid (show res = .bad 3 by rw [HR.out, Oct.getS, if_neg Hc1.out, ← Hk.out, if_pos hsh])
              have hle : (s.size : Int) ≤ (k : Int) := by omega
              clear hsc hsh hgd
              go_wp2_with fail
              refine bodyPost_ret (v := .tuple #[.int .i64 0, .int .i64 0, .int .i64 3]) (by simp [results, Try.results107, go_sem]) rfl ?_
              exact ⟨by rw [He.out]; rfl, m, rfl⟩
            · have hle : ¬ (s.size : Int) ≤ (k : Int) := by omega
              have hsz9 : (k : Int) < (s.size : Int) := by omega
              have Hsh := hid hsh
              have Hsc := hid hsc
              clear hgd hsh hsc
              go_wp2_with fail
              go_loopg [7, 8] k (fun g v7 v8 wx => OgAt (w.drewN m) r k g v7 v8 wx)
              case atStart => exact ⟨0, rfl, rfl, Nat.zero_le _, rfl, rfl⟩
              case round =>
                obtain ⟨i, rfl, rfl, hi, hg, rfl⟩ := hrel
                rcases Nat.lt_or_ge i k with hlt | hge
                · have hik : (i : Int) + 1 ≤ (k : Int) := by omega
                  have hi0 : (0 : Int) ≤ (i : Int) := by omega
                  obtain ⟨x, hx⟩ : ∃ x, r[i]? = some x := ⟨_, List.getElem?_eq_getElem (by have := Hsh.out; omega)⟩
                  have hlt2 : i + 1 < s.size := by have := Hsc.out; have := Hsh.out; omega
                  have hxs := Hidx.out (i + 1) hlt2 x hx
                  have htk : r.take (i + 1) = r.take i ++ [x] := by
                    obtain ⟨h1, h2⟩ := List.getElem?_eq_some_iff.1 hx
                    rw [List.take_succ_eq_append_getElem h1, h2]
                  have hvl : Oct.val 0 (r.take i) < 2 ^ 50 := by
                    have h1 := Oct.val_lt (r.take i) 0
                    have h2 : (r.take i).length ≤ 6 := by rw [List.length_take]; have := Hh7.out; omega
                    have h3 : 256 ^ (r.take i).length ≤ 256 ^ 6 := Nat.pow_le_pow_right (by decide) h2
                    omega
                  obtain ⟨vv, hvv⟩ : ∃ vv, vv = Oct.val 0 (r.take i) := ⟨_, rfl⟩
                  have hnew : Oct.val 0 (r.take (i + 1)) = 256 * vv + x.toNat := by rw [htk, Oct.val_snoc, hvv]
                  rw [← hvv] at hvl ⊢
                  have Hnew := hid hnew
                  have Hx := hid hxs
                  have Hlt := hid (And.intro hlt hvl)
                  clear hx hxs htk hvl hvv hnew hi hlt
                  go_wp2_with fail
                  go_roundg (k - (i + 1))
                  case measure => have := Hlt.out.1; omega
                  case rel =>
                    refine ⟨i + 1, ?_, by go_num, Hlt.out.1, rfl, rfl⟩
                    have hxl := x.toNat_lt
                    have hvl := Hlt.out.2
                    have e1 : wrap64 ((vv : Int) * 256) = ((256 * vv : Nat) : Int) := by unfold wrap64; omega
                    have e2 : wrap64 ((x.toNat : Nat) : Int) = ((x.toNat : Nat) : Int) := by unfold wrap64; omega
                    rw [Hx.out, e1, e2, or_byte vv x.toNat hvl hxl, Hnew.out]
                · have hik : ¬ (i : Int) + 1 ≤ (k : Int) := by omega
                  have hie : i = k := by omega
                  subst hie
                  obtain ⟨vv, hvv⟩ : ∃ vv, vv = Oct.val 0 (r.take i) := ⟨_, rfl⟩
                  rw [← hvv]
                  have hvm : (vv : Int) < 4611686018427387904 := by
                    have h1 := Oct.val_lt (r.take i) 0
                    have h2 : (r.take i).length ≤ 7 := by rw [List.length_take]; have := Hh7.out; omega
                    have h3 : 256 ^ (r.take i).length ≤ 256 ^ 7 := Nat.pow_le_pow_right (by decide) h2
                    omega
                  have hge3 : Oct.getS (c :: r) = if Oct.most < vv ∨ (0 < i ∧ r.headD 1 = 0) then .bad 2 else .ok (Oct.sgn c vv) (i + 1) := by
                    rw [Oct.getS, if_neg Hc1.out, ← Hk.out, if_neg Hsh.out, ← hvv]
                  rw [← HR.out] at hge3
                  have Hge3 := hid hge3
                  clear hvv hge hg hi hge3
                  by_cases hm : Oct.most < vv
                  · have He := hid (show res = .bad 2 by rw [Hge3.out, if_pos (.inl hm)])
                    have hm' : (9007199254740992 : Int) < (vv : Int) := by unfold Oct.most at hm; omega
                    clear hm
                    go_wp2_with fail
                    refine bodyPost_ret (v := .tuple #[.int .i64 0, .int .i64 0, .int .i64 2]) (by simp [results, Try.results107, go_sem]) rfl ?_
                    exact ⟨by rw [He.out]; rfl, m, rfl⟩
                  · have hm' : ¬ (9007199254740992 : Int) < (vv : Int) := by unfold Oct.most at hm; omega
                    have hmb : decide ((9007199254740992 : Int) < (vv : Int)) = false := by simpa using hm'
                    rcases Nat.eq_zero_or_pos i with hi0 | hi0
                    · subst hi0
                      have He := hid (show res = .ok (Oct.sgn c vv) 1 by rw [Hge3.out, if_neg (by intro e; rcases e with e | e; exact hm e; omega)])
                      have hkb : ¬ (0 : Int) < ((0 : Nat) : Int) := by omega
                      clear hm
                      cases hn : ng with
                      | false =>
                        have hs2 : Oct.sgn c vv = (vv : Int) := by unfold Oct.sgn; rw [if_neg (by have := Hng.out; rw [hn] at this; simpa using this.symm)]
                        have Hs2 := hid hs2
                        subst hn
                        clear hs2
                        go_wp2_with fail
                        refine bodyPost_ret (v := .tuple #[.int .i64 vv, .int .i64 1, .int .i64 0]) (by simp [results, Try.results107, go_sem]) rfl ?_
                        exact ⟨by rw [He.out, Oct.goV, Hs2.out]; rfl, m, rfl⟩
                      | true =>
                        have hs2 : Oct.sgn c vv = -(vv : Int) := by unfold Oct.sgn; rw [if_pos (by have := Hng.out; rw [hn] at this; simpa using this.symm)]
                        have Hs2 := hid hs2
                        subst hn
                        clear hs2
                        go_wp2_with fail
                        refine bodyPost_ret (v := .tuple #[.int .i64 (-(vv : Int)), .int .i64 1, .int .i64 0]) (by simp [results, Try.results107, go_sem]) rfl ?_
                        exact ⟨by rw [He.out, Oct.goV, Hs2.out]; rfl, m, rfl⟩
                    · have hkb : (0 : Int) < (i : Int) := by omega
                      have hs1 : (1 : Int) < (s.size : Int) := by have := Hsc.out; have := Hsh.out; omega
                      have hs1' : 1 < s.size := by omega
                      obtain ⟨x, hx⟩ : ∃ x, r[0]? = some x := ⟨_, List.getElem?_eq_getElem (by have := Hsh.out; omega)⟩
                      have hxs := Hidx.out 1 hs1' x hx
                      have hxr : r.headD 1 = x := by
                        cases r with
                        | nil => simp at hx
                        | cons a b => simpa using hx
                      have hxl := x.toNat_lt
                      have Hxr := hid hxr
                      clear hxr hx
                      by_cases hx0 : x = 0
                      · have He := hid (show res = .bad 2 by rw [Hge3.out, if_pos (.inr ⟨hi0, by rw [Hxr.out]; exact hx0⟩)])
                        have hb0 : (((s[1]'hs1').toNat : Int) == 0) = true := by rw [hxs, hx0]; decide
                        clear hm hxs hxl
                        go_wp2_with fail
                        refine bodyPost_ret (v := .tuple #[.int .i64 0, .int .i64 0, .int .i64 2]) (by simp [results, Try.results107, go_sem]) rfl ?_
                        exact ⟨by rw [He.out]; rfl, m, rfl⟩
                      · have He := hid (show res = .ok (Oct.sgn c vv) (i + 1) by rw [Hge3.out, if_neg (by intro e; rcases e with e | e; exact hm e; exact hx0 (by rw [← Hxr.out]; exact e.2))])
                        have hx1 : ¬ x.toNat = 0 := fun e => hx0 (UInt8.toNat_inj.1 (by simpa using e))
                        have hb0 : (((s[1]'hs1').toNat : Int) == 0) = false := by rw [hxs, beq_eq_false_iff_ne]; omega
                        have hb1 : ¬ (((s[1]'hs1').toNat : Int) = 0) := by rw [hxs]; omega
                        have hb2 : ¬ ((s[1]'hs1').toNat = 0) := by rw [hxs]; exact hx1
                        clear hm hxs hxl hx1
                        cases hn : ng with
                        | false =>
                          have hs2 : Oct.sgn c vv = (vv : Int) := by unfold Oct.sgn; rw [if_neg (by have := Hng.out; rw [hn] at this; simpa using this.symm)]
                          have Hs2 := hid hs2
                          subst hn
                          clear hs2
                          go_wp2_with fail
                          refine bodyPost_ret (v := .tuple #[.int .i64 vv, .int .i64 ((i : Int) + 1), .int .i64 0]) (by simp [results, Try.results107, go_sem]) rfl ?_
                          exact ⟨by rw [He.out, Oct.goV, Hs2.out]; rfl, m, rfl⟩
                        | true =>
                          have hs2 : Oct.sgn c vv = -(vv : Int) := by unfold Oct.sgn; rw [if_pos (by have := Hng.out; rw [hn] at this; simpa using this.symm)]
                          have Hs2 := hid hs2
                          subst hn
                          clear hs2
                          go_wp2_with fail
                          refine bodyPost_ret (v := .tuple #[.int .i64 (-(vv : Int)), .int .i64 ((i : Int) + 1), .int .i64 0]) (by simp [results, Try.results107, go_sem]) rfl ?_
                          exact ⟨by rw [He.out, Oct.goV, Hs2.out]; rfl, m, rfl⟩
end Go.Proofs.Ytaehooafdbaomaa
