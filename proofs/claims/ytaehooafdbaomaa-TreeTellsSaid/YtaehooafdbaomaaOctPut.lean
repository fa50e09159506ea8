/- Chapter 1 (octets): Put. -/
import Derived.Test.YtaehooafdbaomaaOct
import Derived.Test.YtaehooafdbaomaaLexQuote1
import Derived.Lib.BitFns
import Derived.Shelf.Small.Bits
namespace Go.Proofs.Ytaehooafdbaomaa.Oct
theorem beF_fuel : ∀ (f m : Nat), m < 256 ^ f → beF (f + 1) m = beF f m
  | 0, m, h => by
    have : m = 0 := by simpa using h
    subst this
    rfl
  | f + 1, m, h => by
    rw [beF]
    conv => rhs; rw [beF]
    split
    · rfl
    · rw [beF_fuel f (m / 256) (by rw [Nat.pow_succ] at h; omega)]
theorem beF_bits : ∀ (f m : Nat), m < 256 ^ f → m < 2 ^ 64 → (Lib.bitLen m + 7) / 8 = (beF f m).length
  | 0, m, h, _ => by
    have : m = 0 := by simpa using h
    subst this
    rfl
  | f + 1, m, h, h64 => by
    rw [beF]
    split
    · rename_i h0
      subst h0
      rfl
    · rename_i h0
      rw [List.length_append, ← beF_bits f (m / 256) (by rw [Nat.pow_succ] at h; omega) (by omega)]
      by_cases h1 : 256 ≤ m
      · rw [Lib.bitLen_shift8 m h1 (by simpa using h64)]
        simp only [List.length_cons, List.length_nil]
        omega
      · have e : m / 256 = 0 := by omega
        have l := Lib.bitLen_le m 8 (by omega) (by omega)
        have p : 1 ≤ Lib.bitLen m := by
          rw [Lib.bitLen_half m h0 h64]
          omega
        rw [e]
        show _ = (Lib.bitLen 0 + 7) / 8 + 1
        have : Lib.bitLen 0 = 0 := rfl
        omega
theorem be_bits {m : Nat} (h : m ≤ most) : (Lib.bitLen m + 7) / 8 = (be m).length   := beF_bits 7 m (by unfold most at h; omega) (by unfold most at h; omega)
/-- One digit more. -/
theorem be_step {m j : Nat} (h : m ≤ most) (h0 : m / 256 ^ j ≠ 0) : be (m / 256 ^ j) = be (m / 256 ^ (j + 1)) ++ [UInt8.ofNat (m / 256 ^ j % 256)] := by
  have hp : 0 < 256 ^ j := Nat.pow_pos (by omega)
  have h1 : m / 256 ^ j ≤ m := Nat.div_le_self _ _
  unfold be
  rw [beF, if_neg h0, ← beF_fuel 6 (m / 256 ^ j / 256) (by unfold most at h; omega), Nat.div_div_eq_div_mul, Nat.pow_succ]
theorem beF_lt : ∀ (f m : Nat), m < 256 ^ f → m < 256 ^ (beF f m).length
  | 0, m, h => h
  | f + 1, m, h => by
    rw [beF]
    split
    · rename_i h0; rw [h0]; exact Nat.one_pos
    · have := beF_lt f (m / 256) (by rw [Nat.pow_succ] at h; omega)
      rw [List.length_append, List.length_cons, List.length_nil, Nat.pow_succ]
      omega
theorem be_top {m K : Nat} (h : m ≤ most) (hK : K = (be m).length) : m / 256 ^ K = 0 := by
  rw [hK]
  exact Nat.div_eq_of_lt (beF_lt 7 m (by unfold most at h; omega))
theorem beF_ge : ∀ (f m j : Nat), j < (beF f m).length → m / 256 ^ j ≠ 0
  | 0, m, j, h => by simp [beF] at h
  | f + 1, m, j, h => by
    rw [beF] at h
    split at h
    · simp at h
    · rename_i h0
      cases j with
      | zero => simpa using h0
      | succ j =>
        rw [List.length_append, List.length_cons, List.length_nil] at h
        rw [Nat.pow_succ, Nat.mul_comm, ← Nat.div_div_eq_div_mul]
        exact beF_ge f (m / 256) j (by omega)
theorem be_ge {m j : Nat} (h : j < (be m).length) : m / 256 ^ j ≠ 0 := beF_ge 7 m j h
end Go.Proofs.Ytaehooafdbaomaa.Oct
namespace Go.Proofs.Ytaehooafdbaomaa
open Go.RowKit Go.Shelf
attribute [local go_sem ↓] Go.wp_at_zero Go.wp_at_succ
attribute [local go_sem] frozen_alloc_lt

def bitsLaid_ren : Go.Shelf.Ren := ⟨fun | 125 => 134 | 128 => 153 | 129 => 154 | n => n, fun | 3 => 3 | 4 => 4 | 5 => 5 | 9 => 9 | 46 => 203 | 51 => 220 | 53 => 223 | 80 => 123 | n => n, fun n => n⟩
theorem bitsLaid125 : Lays.n125 Try.prog bitsLaid_ren := {
  mixed := by kernel_rfl
  f125 := Try.func134.trans (by kernel_rfl)
  f128 := Try.func153.trans (by kernel_rfl)
  f129 := Try.func154.trans (by kernel_rfl)
  t3 := Try.underlying3
  a3 := Try.isAgg3
  z3 := Try.sizeOf3
  v3 := Try.zeroValue3
  t4 := Try.underlying4
  a4 := Try.isAgg4
  z4 := Try.sizeOf4
  v4 := Try.zeroValue4
  t5 := Try.underlying5
  a5 := Try.isAgg5
  z5 := Try.sizeOf5
  v5 := Try.zeroValue5
  t9 := Try.underlying9
  a9 := Try.isAgg9
  z9 := Try.sizeOf9
  v9 := Try.zeroValue9
  t46 := Try.underlying203
  a46 := Try.isAgg203
  z46 := Try.sizeOf203
  v46 := Try.zeroValue203
  t51 := Try.underlying220
  a51 := Try.isAgg220
  z51 := Try.sizeOf220
  v51 := Try.zeroValue220
  t53 := Try.underlying223
  a53 := Try.isAgg223
  z53 := Try.sizeOf223
  v53 := Try.zeroValue223 }

theorem bitsLen (m : Nat) (w : World) (h : m ≤ 9007199254740992) : Calls Try.prog 134 #[.int .u64 m] w fun e w' => e = .returned (.int .i64 (Lib.bitLen m : Nat)) ∧ w' = w := by
  have := Any.bits_Len bitsLaid125 (m : Int) w (by omega) (by omega)
  rwa [Int.toNat_natCast] at this
theorem w64 (n : Int) (h : -9223372036854775808 ≤ n) (h2 : n ≤ 9223372036854775807) : wrap64 n = n := by unfold wrap64; omega
def PutAt (w0 : World) (hd : UInt8) (m K : Nat) (k : Nat) (v5 v6 : Value) (w : World) : Prop :=
  ∃ (j : Nat) (o : List UInt8) (v : Value), v6 = .int .i64 ((j : Int) - 1) ∧ v = v5 ∧ j ≤ K ∧ o = hd :: Oct.be (m / 256 ^ j) ∧ QSt w0 w v o ∧ k = j
set_option maxRecDepth 8000 in
set_option maxHeartbeats 4000000 in
theorem oput_calls (n : Int) (w : World) : Calls Try.prog 115 #[.int .i64 n] w fun e w' => e = .returned (.string ⟨(Oct.putS n).toArray⟩) ∧ Below w.heap.size w w' := by
  obtain ⟨i8, hi8, hz0, hz1, hz2⟩ := info_parts u8Info
  by_cases hlo : n < -9007199254740992
  · have hp : Oct.putS n = [] := by unfold Oct.putS; rw [if_pos (by unfold Oct.most; omega)]
    rw [hp]
    clear hp
    go_enter Try.func115, Try.ntmps115
    go_wp2
    go_ret
    exact ⟨rfl, Below.refl _ _⟩
  · by_cases hhi : 9007199254740992 < n
    · have hp : Oct.putS n = [] := by unfold Oct.putS; rw [if_pos (by unfold Oct.most; omega)]
      rw [hp]
      clear hp
      go_enter Try.func115, Try.ntmps115
      go_wp2
      go_ret
      exact ⟨rfl, Below.refl _ _⟩
    · obtain ⟨m, hm⟩ : ∃ m : Nat, m = n.natAbs := ⟨_, rfl⟩
      obtain ⟨sg, hsg⟩ : ∃ sg : UInt8, sg = if n < 0 then 128 else 0 := ⟨_, rfl⟩
      have hmm : m ≤ 9007199254740992 := by omega
      have Hp : Hid (Oct.putS n = UInt8.ofNat (sg.toNat + (Oct.be m).length) :: Oct.be m) := by
        show Oct.putS n = _
        unfold Oct.putS
        rw [if_neg (by unfold Oct.most; omega), hm, hsg]
        split <;> rfl
      have hcs : (n < 0 ∧ -n = m ∧ sg = 128) ∨ (¬ n < 0 ∧ n = m ∧ sg = 0) := by
        by_cases h : n < 0
        · left; refine ⟨h, by omega, ?_⟩; rw [hsg, if_pos h]
        · right; refine ⟨h, by omega, ?_⟩; rw [hsg, if_neg h]
      obtain ⟨res, hres⟩ : ∃ res, res = Oct.putS n := ⟨_, rfl⟩
      rw [← hres]
      have Hres := hid hres
      have hsg2 : sg = 128 ∨ sg = 0 := by rw [hsg]; split; exact .inl rfl; exact .inr rfl
      clear hm hsg hres
      go_enter Try.func115, Try.ntmps115
      go_upto_if 14 with fail
      go_cut [0, 3] (fun v0 v3 wx => v0 = .int .i64 m ∧ v3 = .int .u8 sg.toNat ∧ wx = w)
      case first =>
        rcases hcs with ⟨h1, h2, rfl⟩ | ⟨h1, h2, rfl⟩
        · go_wp2_with fail
          go_meet
          exact ⟨rfl, rfl, rfl⟩
        · subst h2
          go_wp2_with fail
          go_meet
          exact ⟨rfl, rfl, rfl⟩
      case rest =>
        obtain ⟨rfl, rfl, rfl⟩ := hcut
        clear hcs hlo hhi
        go_upto_region 7 with (go_at_call 134; refine (bitsLen m _ hmm).mono ?_; rintro e w' ⟨rfl, rfl⟩)
        obtain ⟨K, hK⟩ : ∃ K, K = (Oct.be m).length := ⟨_, rfl⟩
        have hK7 : K ≤ 7 := by rw [hK]; exact Oct.be_len m
        have hK4 : wrap64 ((wrap64 ((Lib.bitLen m : Nat) + 7 : Int)).tdiv 8) = (K : Int) := by
          have h1 := Oct.be_bits hmm
          have h2 := Lib.bitLen_le m 64 (by omega) (by omega)
          have e1 : wrap64 (((Lib.bitLen m : Nat) : Int) + 7) = ((Lib.bitLen m : Nat) : Int) + 7 := w64 _ (by omega) (by omega)
          have e2 : wrap64 ((((Lib.bitLen m : Nat) : Int) + 7) / 8) = (((Lib.bitLen m : Nat) : Int) + 7) / 8 := w64 _ (by omega) (by omega)
          have e3 : (((Lib.bitLen m : Nat) : Int) + 7).tdiv 8 = (((Lib.bitLen m : Nat) : Int) + 7) / 8 := Int.tdiv_eq_ediv_of_nonneg (by omega)
          rw [e1, e3, e2, hK]
          omega
        rw [hK4]
        have hor : bits .or .u8 (sg.toNat : Int) (K : Int) = ((UInt8.ofNat (sg.toNat + K)).toNat : Int) := by
          have key : ∀ k : Fin 8, bits .or .u8 (128 : Int) (k.val : Int) = ((UInt8.ofNat (128 + k.val)).toNat : Int) ∧ bits .or .u8 (0 : Int) (k.val : Int) = ((UInt8.ofNat (0 + k.val)).toNat : Int) := by decide +kernel
          rcases hsg2 with rfl | rfl
          · exact (key ⟨K, by omega⟩).1
          · exact (key ⟨K, by omega⟩).2
        have HK := hid hK
        clear hK hK4
        go_upto_region 9 with (first
          | (at_make; refine wpList_make_own _ rfl _ _ _ rfl w'.heap.size 5 i8 _ 1 Try.underlying102 hi8 hz0 hz1 _ _ _ (K + 1) rfl rfl (by omega) (by rw [hz2]; omega) (by unfold maxLen; omega) (Nat.le_refl _) ?_; intro w1 hown1 hg1)
          | (at_builtin; refine wpList_append_lies _ rfl _ _ _ rfl w'.heap.size 5 i8 _ 1 1 Try.underlying102 hi8 hz0 hz1 hz2 rfl (by omega) _ 0 (u8s []) rfl (hown1.alloc _) ⟨w1.heap.size, 0, none⟩ 1 1 [.int .u8 (UInt8.ofNat (sg.toNat + K)).toNat] rfl rfl (World.news_of_block (cs := #[.int .u8 (UInt8.ofNat (sg.toNat + K)).toNat]) (t := 5) (fr := (0, 0)) (heap_alloc_new _ _)) (by simp [Value.oneCell']) (by omega) (by unfold maxLen; omega) (by omega) (Nat.le_trans hg1.size (by simp)) (w1.heap.size + 1) (by simp) ?_; intro gg cap w2 hown2 hgrow hat hlt2))
        have hst : QSt w' w2 (.slice (some ⟨gg, 0, none⟩) (0 + 1) cap) [UInt8.ofNat (sg.toNat + K)] := ⟨hown2, (((Below.refl _ _).grown hg1 (Nat.le_refl _) (fun k e => by cases e)).alloc hg1.size _).trans (below_of_gb' hgrow (Nat.le_trans hg1.size (by simp)) (fun k hk => (hown1.lt k hk).1))⟩
        obtain ⟨hd, hhd⟩ : ∃ hd, hd = UInt8.ofNat (sg.toNat + K) := ⟨_, rfl⟩
        rw [← hhd] at hst
        have Hhd := hid hhd
        clear hhd hor hown1 hg1 hown2 hgrow hat hlt2
        go_wp2_with fail
        go_loopg [5, 6] K (fun k v5 v6 wr => PutAt w' hd m K k v5 v6 wr)
        case atStart => exact ⟨K, [hd], _, rfl, rfl, Nat.le_refl _, by rw [Oct.be_top hmm HK.out]; rfl, hst, rfl⟩
        case round =>
          clear hst
          obtain ⟨j, o, v, rfl, rfl, hj, ho, st, hk⟩ := hrel
          have Ho := hid ho
          have Hk := hid hk
          clear ho hk
          by_cases h0 : j = 0
          · have Hfin : Hid (res = o) := by
              show _ = _
              rw [Ho.out, Hres.out, Hp.out, Hhd.out, h0, ← HK.out, Nat.pow_zero, Nat.div_one]
            subst h0
            have hcv := conv_own st.own rfl
            go_wp2_with fail
            go_ret
            rw [Hfin.out]
            exact ⟨rfl, st.bel⟩
          · obtain ⟨i, rfl⟩ : ∃ i, j = i + 1 := ⟨j - 1, by omega⟩
            have hi : (0 : Int) ≤ ((i + 1 : Nat) : Int) - 1 := by omega
            obtain ⟨c, hc⟩ : ∃ c, c = UInt8.ofNat (m / 256 ^ i % 256) := ⟨_, rfl⟩
            have hbyte : ((m : Int) / 2 ^ (8 * i) % 256) = (c.toNat : Int) := by
              have hp : ((2 : Int) ^ (8 * i)) = ((256 ^ i : Nat) : Int) := by
                have : (2 : Nat) ^ (8 * i) = 256 ^ i := by rw [Nat.pow_mul]
                rw [← this]
                simp
              rw [hc, UInt8.toNat_ofNat', hp, ← Int.natCast_ediv]
              omega
            have Hst : Hid (o ++ [c] = hd :: Oct.be (m / 256 ^ i)) := by
              show _ = _
              rw [Ho.out, Oct.be_step (j := i) hmm (Oct.be_ge (by rw [← HK.out]; omega)), hc]
              rfl
            have hol : o.length ≤ 8 := by
              rw [Ho.out]
              have := Oct.be_len (m / 256 ^ (i + 1))
              simp only [List.length_cons]
              omega
            clear hc
            go_wp2_with (at_builtin; refine wpList_append_lies _ rfl _ _ _ rfl w'.heap.size 5 i8 _ 1 1 Try.underlying102 hi8 hz0 hz1 hz2 rfl (by omega) _ o.length (u8s o) rfl (st.alloc _).own ⟨wr.heap.size, 0, none⟩ 1 1 [.int .u8 c.toNat] rfl rfl (World.news_of_block (cs := #[.int .u8 c.toNat]) (t := 5) (fr := (0, 0)) (heap_alloc_new _ _)) (by simp [Value.oneCell']) (by omega) (by unfold maxLen; omega) (by omega) (st.alloc _).hz (wr.heap.size + 1) (by simp) ?_; intro gg cap w2 hown2 hgrow hat hlt2; have st2 := (st.alloc _).pushed (o' := o ++ [c]) hgrow (by simpa [u8s] using hown2))
            go_roundg i
            case measure => have hk := Hk.out; omega
            case rel => exact ⟨i, o ++ [c], _, by go_num, rfl, by omega, Hst.out, st2, rfl⟩
end Go.Proofs.Ytaehooafdbaomaa
