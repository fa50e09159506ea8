/- Chapter 1 (octets), the document's side: Put of any number, Get of any bytes. -/
import Derived.Test.YtaehooafdbaomaaOctPut
import Derived.Test.YtaehooafdbaomaaOctGet
import Derived.Test.YtaehooafdbaomaaGin
import Derived.IntWalk
namespace Go.Proofs.Ytaehooafdbaomaa
open Go.RowKit
attribute [local go_sem ↓] Go.wp_at_zero Go.wp_at_succ
attribute [local go_sem] frozen_alloc_lt

/-- string([]byte{c}). -/
theorem conv_one (wr : World) (c : UInt8) : (convert 102 9 (.slice (some ⟨wr.heap.size, 0, none⟩) 1 1)).run Try.prog (wr.alloc (.cells #[.int .u8 c.toNat] 5)) = .ok (.string ⟨#[c]⟩) (wr.alloc (.cells #[.int .u8 c.toNat] 5)) :=
  run_convert_bytes_back (P := Try.prog) _ 102 9 _ ⟨wr.heap.size, 0, none⟩ 1 [c] Try.underlying102 Try.underlying5 Try.underlying9 (fun j hj => by
    have hbk := Bk.new wr 5 [.int .u8 c.toNat]
    rw [add_off0 _ rfl]
    simp only [Nat.zero_add]
    match j, hj with
    | 0, _ => rw [hbk.cell 0]; rfl)
theorem str_cons1 (c : UInt8) (l : List UInt8) : ((⟨#[c]⟩ : ByteArray) ++ ⟨l.toArray⟩) = ⟨(c :: l).toArray⟩ := by
  apply ByteArray.ext
  simp
theorem ofNat_mod (n : Nat) : (((UInt8.ofNat (n % 256)).toNat : Nat) : Int) = (n : Int) % 256 := by
  rw [UInt8.toNat_ofNat_of_lt' (by show n % 256 < 256; omega)]
  omega
def RpuAt (w0 : World) (m : Nat) (k : Nat) (v0 v4 : Value) (w : World) : Prop :=
  ∃ (n : Nat) (s : List UInt8), v0 = .int .i64 n ∧ v4 = .string ⟨s.toArray⟩ ∧ Oct.be n ++ s = Oct.be m ∧ n ≤ m ∧ k = n ∧ Below w0.heap.size w0 w
set_option maxRecDepth 8000 in
set_option maxHeartbeats 4000000 in
theorem rput_calls (n : Int) (w : World) : Calls Try.prog 77 #[.int .i64 n] w fun e w' => e = .returned (.string ⟨(Oct.putS n).toArray⟩) ∧ Below w.heap.size w w' := by
  by_cases hlo : n < -9007199254740992
  · have hp : Oct.putS n = [] := by unfold Oct.putS; rw [if_pos (by unfold Oct.most; omega)]
    rw [hp]
    clear hp
    go_enter Try.func77, Try.ntmps77
    go_wp2
    go_ret
    exact ⟨rfl, Below.refl _ _⟩
  · by_cases hhi : 9007199254740992 < n
    · have hp : Oct.putS n = [] := by unfold Oct.putS; rw [if_pos (by unfold Oct.most; omega)]
      rw [hp]
      clear hp
      go_enter Try.func77, Try.ntmps77
      go_wp2
      go_ret
      exact ⟨rfl, Below.refl _ _⟩
    · obtain ⟨m, hm⟩ : ∃ m : Nat, m = n.natAbs := ⟨_, rfl⟩
      obtain ⟨sg, hsg⟩ : ∃ sg : Nat, sg = if n < 0 then 128 else 0 := ⟨_, rfl⟩
      have hmm : m ≤ 9007199254740992 := by omega
      have Hp : Hid (Oct.putS n = UInt8.ofNat (sg + (Oct.be m).length) :: Oct.be m) := by
        show Oct.putS n = _
        unfold Oct.putS
        rw [if_neg (by unfold Oct.most; omega), hm, hsg]
      have hcs : (n < 0 ∧ -n = m ∧ sg = 128) ∨ (¬ n < 0 ∧ n = m ∧ sg = 0) := by
        by_cases h : n < 0
        · left; refine ⟨h, by omega, ?_⟩; rw [hsg, if_pos h]
        · right; refine ⟨h, by omega, ?_⟩; rw [hsg, if_neg h]
      obtain ⟨res, hres⟩ : ∃ res, res = Oct.putS n := ⟨_, rfl⟩
      rw [← hres]
      have Hres := hid hres
      have hsg2 : sg ≤ 128 := by rw [hsg]; split <;> omega
      have Hsg2 := hid hsg2
      clear hm hsg hres hsg2
      go_enter Try.func77, Try.ntmps77
      go_upto_if 12 with fail
      go_cut [0, 3] (fun v0 v3 wx => v0 = .int .i64 m ∧ v3 = .int .i64 sg ∧ wx = w)
      case first =>
        rcases hcs with ⟨h1, h2, rfl⟩ | ⟨h1, h2, rfl⟩
        · go_wp2_with fail
          go_meet
          exact ⟨rfl, rfl, rfl⟩
        · subst h2
          go_wp2_with fail
          go_meet
          exact ⟨rfl, rfl, rfl⟩
      case rest =>
        obtain ⟨rfl, rfl, rfl⟩ := hcut
        clear hcs hlo hhi
        have Hmm := hid hmm
        clear hmm
        go_wp2_with fail
        go_loopg [0, 4] m (fun k v0 v4 wr => RpuAt wc m k v0 v4 wr)
        case atStart => exact ⟨m, [], rfl, rfl, by simp, Nat.le_refl _, rfl, Below.refl _ _⟩
        case round =>
          obtain ⟨i, s, rfl, rfl, hs, hi, hk, hb⟩ := hrel
          have Hk := hid hk
          have Hs := hid hs
          have Hb := hid hb
          have Hi := hid hi
          clear hk hs hb hi
          by_cases h0 : i = 0
          · have hle : ¬ (0 : Int) < (i : Int) := by omega
            have hs2 : s = Oct.be m := by rw [← Hs.out, h0]; rfl
            have hsl : s.length ≤ 7 := by rw [hs2]; exact Oct.be_len m
            have hsz : (⟨s.toArray⟩ : ByteArray).size = s.length := by rw [Lib.size_eq]
            obtain ⟨c, hc⟩ : ∃ c, c = UInt8.ofNat (sg + s.length) := ⟨_, rfl⟩
            have hct : (sg : Int) + (s.length : Int) = (c.toNat : Int) := by
              rw [hc, UInt8.toNat_ofNat_of_lt' (by show sg + s.length < 256; have := Hsg2.out; omega)]
              omega
            have hcl := byte_lt c
            have Hfin : Hid (res = c :: s) := by
              show _ = _
              rw [Hres.out, Hp.out, hc, hs2]
            obtain ⟨q, hq⟩ : ∃ q, q = s.length := ⟨_, rfl⟩
            rw [← hq] at hct hsz hsl
            have hq0 : (0 : Int) ≤ (q : Int) := by omega
            have hsg0 : (0 : Int) ≤ (sg : Int) := by omega
            have hsg1 : (sg : Int) ≤ 128 := by have := Hsg2.out; omega
            have hcv := conv_one wr c
            have hadd := str_cons1 c s
            have hbn := bel_al (bel_id wr) (.cells #[.int .u8 c.toNat] 5)
            have Hbn := hid hbn
            have Hh := hid h0
            clear hbn hs2 hc hq
            go_wp2_with fail
            go_ret
            rw [Hfin.out]
            exact ⟨rfl, belw Hb.out Hbn.out⟩
          · have hlt : (0 : Int) < (i : Int) := by omega
            have hi1 : (i : Int) ≤ 9007199254740992 := by have := Hi.out; have := Hmm.out; omega
            obtain ⟨c, hc⟩ : ∃ c, c = UInt8.ofNat (i % 256) := ⟨_, rfl⟩
            obtain ⟨j, hj⟩ : ∃ j, j = i / 256 := ⟨_, rfl⟩
            have hct : (i : Int) % 256 = (c.toNat : Int) := by rw [hc, ofNat_mod]
            have hcl := byte_lt c
            have hjt : (i : Int) / 256 = (j : Int) := by omega
            have hstep := Oct.be_step (m := i) (j := 0) (by unfold Oct.most; omega) (by simpa using h0)
            rw [Nat.pow_zero, Nat.div_one, Nat.zero_add, Nat.pow_one, ← hc, ← hj] at hstep
            have hs2 : Oct.be j ++ (c :: s) = Oct.be m := by rw [← Hs.out, hstep]; simp
            have hsl : s.length ≤ 7 := by
              have h1 := congrArg List.length hs2
              have h2 := Oct.be_len m
              simp only [List.length_append, List.length_cons] at h1
              omega
            have hsz : (⟨s.toArray⟩ : ByteArray).size = s.length := by rw [Lib.size_eq]
            have hcv := conv_one wr c
            have hadd := str_cons1 c s
            have hbn := bel_al (bel_id wr) (.cells #[.int .u8 c.toNat] 5)
            have hji : j < i := by omega
            have Hbn := hid hbn
            have Hs2 := hid hs2
            have Hji := hid hji
            clear hbn hs2 hc hj hstep hji h0
            go_wp2_with fail
            go_roundg j
            case measure => have := Hk.out; have := Hji.out; omega
            case rel => exact ⟨j, c :: s, rfl, rfl, Hs2.out, by have := Hi.out; have := Hji.out; omega, rfl, belw Hb.out Hbn.out⟩
theorem Oct.getS_iff {c : UInt8} {r : List UInt8} {k : Nat} (h0 : ¬ (7 < c.toNat % 128 ∨ c.toNat = 128)) (hk : k = c.toNat % 128) (h1 : ¬ r.length < k) :
    (Oct.putS (Oct.sgn c (Oct.val 0 (r.take k))) = (c :: r).take (k + 1) → Oct.getS (c :: r) = .ok (Oct.sgn c (Oct.val 0 (r.take k))) (k + 1)) ∧
    (Oct.putS (Oct.sgn c (Oct.val 0 (r.take k))) ≠ (c :: r).take (k + 1) → Oct.getS (c :: r) = .bad 2) := by
  obtain ⟨n, hn⟩ : ∃ n, n = Oct.sgn c (Oct.val 0 (r.take k)) := ⟨_, rfl⟩
  have hg : Oct.getS (c :: r) = if Oct.most < Oct.val 0 (r.take k) ∨ (0 < k ∧ r.headD 1 = 0) then .bad 2 else .ok n (k + 1) := by
    rw [Oct.getS, if_neg h0, ← hk, if_neg h1, hn]
  have hna : n.natAbs = Oct.val 0 (r.take k) := by rw [hn]; unfold Oct.sgn; split <;> omega
  rw [← hn]
  constructor
  · intro hp
    by_cases hm : n.natAbs ≤ Oct.most
    · have h2 := (Oct.getS_put hm ((c :: r).drop (k + 1))).1
      rw [hp, List.take_append_drop] at h2
      rw [h2]
      congr 1
      rw [List.length_take, List.length_cons]
      omega
    · have : Oct.putS n = [] := by unfold Oct.putS; rw [if_pos (by omega)]
      rw [this] at hp
      simp at hp
  · intro hp
    rw [hg]
    split
    · rfl
    · rename_i hc
      rw [if_neg hc] at hg
      exact absurd (Oct.put_getS hg).1 hp
set_option maxRecDepth 8000 in
set_option maxHeartbeats 8000000 in
theorem rget_calls (s : ByteArray) (w : World) (hs : s.size ≤ 9223372036854775807) :
    Calls Try.prog 111 #[.string s] w fun e w' => e = .returned (Oct.goV (Oct.getS s.data.toList)) ∧ Below w.heap.size w w' := by
  obtain ⟨l, hl⟩ : ∃ l, l = s.data.toList := ⟨_, rfl⟩
  rw [← hl]
  have hsz : s.size = l.length := by rw [hl, Lib.size_eq]
  cases l with
  | nil =>
    have e : s = ⟨#[]⟩ := by
      apply ByteArray.ext
      exact Array.eq_empty_of_size_eq_zero hsz
    subst e
    clear hl hs hsz
    go_enter Try.func111, Try.ntmps111
    go_wp2
    refine bodyPost_ret (v := .tuple #[.int .i64 0, .int .i64 0, .int .i64 3]) (by simp [results, Try.results111, go_sem]) rfl ?_
    exact ⟨rfl, Below.refl _ _⟩
  | cons c r =>
    have hp : (0 : Int) < (s.size : Int) := by rw [hsz, List.length_cons]; omega
    have hp' : 0 < s.size := by omega
    have heb : s.toList.isEmpty = false := by rw [Lib.toList_data, ← hl]; rfl
    have hidx : ∀ (i : Nat) (h : i < s.size) (x : UInt8), (c :: r)[i]? = some x → s[i]'h = x := fun i h x hx => by
      rw [hl] at hx
      obtain ⟨h1, h2⟩ := List.getElem?_eq_some_iff.1 hx
      rw [← h2]
      rfl
    have h00 := hidx 0 hp' c rfl
    obtain ⟨k, hk⟩ : ∃ k, k = c.toNat % 128 := ⟨_, rfl⟩
    have he1 : (((s[0]'hp').toNat : Nat) : Int) % 128 = (k : Int) := by rw [h00, hk]; omega
    have hbt := byte_lt (s[0]'hp')
    obtain ⟨hbt0, hbt1⟩ := hbt
    have hk0 : (k : Int) ≤ 127 := by omega
    have hk1 : (0 : Int) ≤ (k : Int) := by omega
    obtain ⟨res, hres⟩ : ∃ res, res = Oct.getS (c :: r) := ⟨_, rfl⟩
    rw [← hres]
    have HR := hid hres
    have Hidx := hid hidx
    have Hsz := hid hsz
    have Hk := hid hk
    have H00 := hid h00
    have Hl := hid hl
    clear hidx hsz hl h00 hk hres
    by_cases h7 : 7 < k
    · have He := hid (show res = .bad 2 by rw [HR.out, Oct.getS, ← Hk.out, if_pos (.inl h7)])
      have h7' : (7 : Int) < (k : Int) := by omega
      go_enter Try.func111, Try.ntmps111
      go_wp2_with fail
      refine bodyPost_ret (v := .tuple #[.int .i64 0, .int .i64 0, .int .i64 2]) (by simp [results, Try.results111, go_sem]) rfl ?_
      exact ⟨by rw [He.out]; rfl, Below.refl _ _⟩
    have h7' : ¬ (7 : Int) < (k : Int) := by omega
    by_cases h8 : c.toNat = 128
    · have He := hid (show res = .bad 2 by rw [HR.out, Oct.getS, if_pos (.inr h8)])
      have h8' : ((((s[0]'hp').toNat : Nat) : Int) == 128) = true := by rw [H00.out, h8]; rfl
      clear h8
      go_enter Try.func111, Try.ntmps111
      go_wp2_with fail
      refine bodyPost_ret (v := .tuple #[.int .i64 0, .int .i64 0, .int .i64 2]) (by simp [results, Try.results111, go_sem]) rfl ?_
      exact ⟨by rw [He.out]; rfl, Below.refl _ _⟩
    have h8' : ((((s[0]'hp').toNat : Nat) : Int) == 128) = false := by rw [H00.out, beq_eq_false_iff_ne]; omega
    have hc1 : ¬ (7 < c.toNat % 128 ∨ c.toNat = 128) := by rw [← Hk.out]; simp only [not_or]; exact ⟨h7, h8⟩
    have Hc1 := hid hc1
    have Hh7 := hid h7
    clear hc1 h7 h8
    by_cases hsh : r.length < k
    · have He := hid (show res = .bad 3 by rw [HR.out, Oct.getS, if_neg Hc1.out, ← Hk.out, if_pos hsh])
      have hle : (s.size : Int) < (k : Int) + 1 := by have := Hsz.out; rw [List.length_cons] at this; omega
      clear hsh
      go_enter Try.func111, Try.ntmps111
      go_wp2_with fail
      refine bodyPost_ret (v := .tuple #[.int .i64 0, .int .i64 0, .int .i64 3]) (by simp [results, Try.results111, go_sem]) rfl ?_
      exact ⟨by rw [He.out]; rfl, Below.refl _ _⟩
    have hle : ¬ (s.size : Int) < (k : Int) + 1 := by have := Hsz.out; rw [List.length_cons] at this; omega
    have Hsh := hid hsh
    clear hsh
    go_enter Try.func111, Try.ntmps111
    go_wp2_with fail
    go_loopg [6, 7] k (fun g v6 v7 wx => OgAt w r k g v6 v7 wx)
    case atStart => exact ⟨0, rfl, rfl, Nat.zero_le _, rfl, rfl⟩
    case round =>
      obtain ⟨i, rfl, rfl, hi, hg, rfl⟩ := hrel
      rcases Nat.lt_or_ge i k with hlt | hge
      · have hik : (i : Int) + 1 ≤ (k : Int) := by omega
        have hi0 : (0 : Int) ≤ (i : Int) := by omega
        obtain ⟨x, hx⟩ : ∃ x, r[i]? = some x := ⟨_, List.getElem?_eq_getElem (by have := Hsh.out; omega)⟩
        have hlt2 : i + 1 < s.size := by have := Hsz.out; rw [List.length_cons] at this; have := Hsh.out; omega
        have hxs := Hidx.out (i + 1) hlt2 x hx
        have htk : r.take (i + 1) = r.take i ++ [x] := by
          obtain ⟨h1, h2⟩ := List.getElem?_eq_some_iff.1 hx
          rw [List.take_succ_eq_append_getElem h1, h2]
        have hvl : Oct.val 0 (r.take i) < 2 ^ 50 := by
          have h1 := Oct.val_lt (r.take i) 0
          have h2 : (r.take i).length ≤ 6 := by rw [List.length_take]; have := Hh7.out; omega
          have h3 : 256 ^ (r.take i).length ≤ 256 ^ 6 := Nat.pow_le_pow_right (by decide) h2
          omega
        obtain ⟨vv, hvv⟩ : ∃ vv, vv = Oct.val 0 (r.take i) := ⟨_, rfl⟩
        have hnew : Oct.val 0 (r.take (i + 1)) = 256 * vv + x.toNat := by rw [htk, Oct.val_snoc, hvv]
        rw [← hvv] at hvl ⊢
        have hv0 : (0 : Int) ≤ (vv : Int) := by omega
        have hv1 : (vv : Int) ≤ 1125899906842624 := by omega
        have hxb := byte_lt (s[i + 1]'hlt2)
        obtain ⟨hxb0, hxb1⟩ := hxb
        have Hnew := hid hnew
        have Hx := hid hxs
        have Hlt := hid hlt
        clear hx hxs htk hvl hvv hnew hi hlt
        go_wp2_with fail
        go_roundg (k - (i + 1))
        case measure => have := Hlt.out; omega
        case rel => exact ⟨i + 1, by rw [Hnew.out, Hx.out]; go_num, by go_num, Hlt.out, rfl, rfl⟩
      · have hik : ¬ (i : Int) + 1 ≤ (k : Int) := by omega
        have hie : i = k := by omega
        subst hie
        obtain ⟨vv, hvv⟩ : ∃ vv, vv = Oct.val 0 (r.take i) := ⟨_, rfl⟩
        rw [← hvv]
        have hvm : (vv : Int) ≤ 4611686018427387904 := by
          have h1 := Oct.val_lt (r.take i) 0
          have h2 : (r.take i).length ≤ 7 := by rw [List.length_take]; have := Hh7.out; omega
          have h3 : 256 ^ (r.take i).length ≤ 256 ^ 7 := Nat.pow_le_pow_right (by decide) h2
          omega
        have hv0 : (0 : Int) ≤ (vv : Int) := by omega
        obtain ⟨n, hn⟩ : ∃ n, n = Oct.sgn c vv := ⟨_, rfl⟩
        have hiff := Oct.getS_iff Hc1.out Hk.out Hsh.out
        rw [← hvv, ← hn, ← HR.out] at hiff
        have hcs : (((127 : Int) < (((s[0]'hp').toNat : Nat) : Int)) ∧ n = -(vv : Int)) ∨ (¬ ((127 : Int) < (((s[0]'hp').toNat : Nat) : Int)) ∧ n = (vv : Int)) := by
          rw [H00.out, hn]
          unfold Oct.sgn
          by_cases h : 127 < c.toNat
          · left; rw [if_pos h]; exact ⟨by omega, rfl⟩
          · right; rw [if_neg h]; exact ⟨by omega, rfl⟩
        have Hiff := hid hiff
        clear hvv hge hg hi hn hiff
        go_upto_if 40 with fail
        go_cut [6] from 40 to 42 (fun v6 wx => v6 = .int .i64 n ∧ wr = wx)
        case first =>
          rcases hcs with ⟨h1, rfl⟩ | ⟨h1, rfl⟩
          · go_wp2_with fail
            go_meet
            exact ⟨rfl, rfl⟩
          · go_wp2_with fail
            go_meet
            exact ⟨rfl, rfl⟩
        case rest =>
          obtain ⟨rfl, rfl⟩ := hcut
          clear hcs hvm hv0
          obtain ⟨A, hA⟩ : ∃ A : ByteArray, A = ⟨(Oct.putS n).toArray⟩ := ⟨_, rfl⟩
          obtain ⟨B, hB⟩ : ∃ B : ByteArray, B = s.extract 0 (i + 1) := ⟨_, rfl⟩
          have hput : ∀ W, Calls Try.prog 77 #[.int .i64 n] W fun e w' => e = .returned (.string A) ∧ Below W.heap.size W w' := fun W => by rw [hA]; exact rput_calls n W
          have hAl : A.toList = Oct.putS n := by rw [hA, Lib.toList_data]
          have hBl : B.toList = (c :: r).take (i + 1) := by
            rw [hB, Lib.toList_data, ByteArray.data_extract, Array.toList_extract, Hl.out]
            simp
          have hext : s.extract 0 (i + 1) = B := hB.symm
          have hw1 : IntKind.i64.wrap ((i : Int) + 1) = (i : Int) + 1 := IntWalk.i64_in _ (by omega)
          have hw2 : (0 : Int) ≤ (i : Int) + 1 := by omega
          have hw3 : (i : Int) + 1 ≤ (s.size : Int) := by omega
          have hw4 : ((i : Int) + 1).toNat = i + 1 := by omega
          have hw5 : i + 1 ≤ s.size := by omega
          have Hput := hid hput
          clear hput hA hB
          go_upto_region 15 with fail
          by_cases heq : Oct.putS n = (c :: r).take (i + 1)
          · have he2 : (A.toList != B.toList) = false := by rw [hAl, hBl, heq]; simp
            have he3 : (A.toList == B.toList) = true := by rw [hAl, hBl, heq]; simp
            have He := hid (Hiff.out.1 heq)
            clear heq hAl hBl Hiff
            go_region_held3 (fun _ : World => True) (trivial) ((go_at_call 77; refine (Hput.out _).mono ?_; rintro e w2 ⟨rfl, hb2⟩))
            go_wp2_with fail
            refine bodyPost_ret (v := .tuple #[.int .i64 n, .int .i64 ((i : Int) + 1), .int .i64 0]) (by simp [results, Try.results111, go_sem]) rfl ?_
            exact ⟨by rw [He.out]; rfl, (Below.refl _ _).drew.trans hb2⟩
          · have he2 : (A.toList != B.toList) = true := by rw [hAl, hBl]; simpa using heq
            have he3 : (A.toList == B.toList) = false := by rw [hAl, hBl]; simpa using heq
            have He := hid (Hiff.out.2 heq)
            clear heq hAl hBl Hiff
            go_region_held3 (fun _ : World => True) (trivial) ((go_at_call 77; refine (Hput.out _).mono ?_; rintro e w2 ⟨rfl, hb2⟩))
            go_wp2_with fail
            refine bodyPost_ret (v := .tuple #[.int .i64 0, .int .i64 0, .int .i64 2]) (by simp [results, Try.results111, go_sem]) rfl ?_
            exact ⟨by rw [He.out]; rfl, (Below.refl _ _).drew.trans hb2⟩
end Go.Proofs.Ytaehooafdbaomaa
