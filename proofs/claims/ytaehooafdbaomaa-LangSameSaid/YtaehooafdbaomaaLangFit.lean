/- The document's chapter 10: Less, Alike: walks. -/
import Derived.Test.YtaehooafdbaomaaGin
import Derived.Test.YtaehooafdbaomaaRefWords
namespace Go.Proofs.Ytaehooafdbaomaa
open Go.RowKit
attribute [local go_sem ↓] Go.wp_at_zero Go.wp_at_succ
attribute [local go_sem] frozen_alloc_lt

def lexI : List Int → List Int → Bool
  | a :: r, b :: s => if a = b then lexI r s else decide (a < b)
  | _, _ => false
/-- One word ahead of another one. -/
def lessI (a b : List Int) : Bool := if a.length = b.length then lexI a b else decide (a.length < b.length)
theorem lexI_eq : ∀ {a b : List Int}, a.length = b.length → lexI a b = false → lexI b a = false → a = b
  | [], [], _, _, _ => rfl
  | x :: a, y :: b, hl, h, k => by
    unfold lexI at h k
    by_cases e : x = y
    · subst e
      rw [if_pos rfl] at h k
      rw [lexI_eq (by simpa using hl) h k]
    · rw [if_neg e] at h
      rw [if_neg (fun e' => e e'.symm)] at k
      simp at h k
      omega
theorem lexI_self : ∀ a : List Int, lexI a a = false
  | [] => rfl
  | x :: a => by unfold lexI; rw [if_pos rfl]; exact lexI_self a
theorem lessI_self (a : List Int) : lessI a a = false := by unfold lessI; rw [if_pos rfl, lexI_self]
theorem alikeI (a b : List Int) : ((!lessI a b) && !lessI b a) = decide (a = b) := by
  rw [Bool.eq_iff_iff]
  simp only [Bool.and_eq_true, Bool.not_eq_true', decide_eq_true_eq]
  constructor
  · rintro ⟨h, k⟩
    unfold lessI at h k
    by_cases e : a.length = b.length
    · rw [if_pos e] at h
      rw [if_pos e.symm] at k
      exact lexI_eq e h k
    · rw [if_neg e] at h
      rw [if_neg (fun e' => e e'.symm)] at k
      simp at h k
      omega
  · rintro rfl
    exact ⟨lessI_self _, lessI_self _⟩
def LeAt (w0 : World) (xs ys : List Int) (res : Bool) (k : Nat) (v5 : Value) (w : World) : Prop := ∃ i : Nat, v5 = .int .i64 i ∧ i ≤ xs.length ∧ lexI (xs.drop i) (ys.drop i) = res ∧ k = xs.length - i ∧ Below w0.heap.size w0 w
set_option maxHeartbeats 2000000 in
theorem less_calls (w : World) (ga gb : Option Addr) (ca cb : Nat) (xs ys : List Int) (ha : RowI w w.heap.size ga xs) (hb : RowI w w.heap.size gb ys) (hx : xs.length ≤ 1000000000) (_hy : ys.length ≤ 1000000000) :
    Calls Try.prog 57 #[.slice ga xs.length ca, .slice gb ys.length cb] w fun e w' => e = .returned (.bool (lessI xs ys)) ∧ Below w.heap.size w w' := by
  by_cases hl : xs.length = ys.length
  · obtain ⟨L, hL⟩ : ∃ L, L = xs.length := ⟨_, rfl⟩
    have hLy : ys.length = L := by omega
    have hne : ((L : Int) != (L : Int)) = false := by simp
    obtain ⟨res, hres⟩ : ∃ res, res = lexI xs ys := ⟨_, rfl⟩
    have e1 : lessI xs ys = res := by unfold lessI; rw [if_pos hl, hres]
    rw [e1, hLy, ← hL]
    have Hres := hid hres
    have HL := hid (And.intro hL hLy)
    have hLI : (L : Int) ≤ 1000000000 := by omega
    clear hl hres e1 hL hLy hx _hy
    go_enter Try.func57, Try.ntmps57
    go_wp2_with fail
    go_loopg [5] L (fun k v5 wr => LeAt w xs ys res k v5 wr)
    case atStart => exact ⟨0, rfl, Nat.zero_le _, by rw [List.drop_zero, List.drop_zero]; exact Hres.out.symm, by have := HL.out; omega, Below.refl _ _⟩
    case round =>
      obtain ⟨i, rfl, hi, hr, hk, hbw⟩ := hrel
      have Hk := hid hk
      have Hbw := hid hbw
      by_cases hlt : i < L
      · have c1 : i < xs.length := by rw [← HL.out.1]; exact hlt
        have c2 : i < ys.length := by rw [HL.out.2]; exact hlt
        have hlt' : (i : Int) < (L : Int) := by omega
        have hi0 : (0 : Int) ≤ (i : Int) := by omega
        obtain ⟨x, hxe⟩ : ∃ x, x = xs[i] := ⟨_, rfl⟩
        obtain ⟨y, hye⟩ : ∃ y, y = ys[i] := ⟨_, rfl⟩
        obtain ⟨g1, o1, rfl, hg1, hc1⟩ := ((ha.below hbw).mono hbw.size).at c1
        obtain ⟨g2, o2, rfl, hg2, hc2⟩ := ((hb.below hbw).mono hbw.size).at c2
        rw [← hxe] at hc1
        rw [← hye] at hc2
        rw [List.drop_eq_getElem_cons c1, List.drop_eq_getElem_cons c2, ← hxe, ← hye] at hr
        unfold lexI at hr
        have Hr := hid hr
        have Hlt := hid hlt
        by_cases exy : x = y
        · have hb1 : (x != y) = false := by simp [exy]
          have Hxy := hid exy
          clear hr hxe hye hk hi c1 c2 hg1 hg2 hlt exy hbw
          go_upto_region 6 with fail
          go_region
          go_wp2_with fail
          go_roundg (L - (i + 1))
          case measure => have := Hk.out; have := Hlt.out; have := HL.out.1; omega
          case rel => exact ⟨i + 1, by go_num, by have := Hlt.out; have := HL.out.1; omega, by have h := Hr.out; rw [if_pos Hxy.out] at h; exact h, by have := HL.out.1; omega, Hbw.out.drew⟩
        · have hb1 : (x != y) = true := by simp [exy]
          have Hxy := hid exy
          clear hr hxe hye hk hi c1 c2 hg1 hg2 hlt exy hbw
          go_upto_region 6 with fail
          go_region
          go_upto_region 7 with fail
          go_region
          go_wp2_with fail
          go_ret
          have h := Hr.out
          rw [if_neg Hxy.out] at h
          exact ⟨by rw [← h]; rfl, Hbw.out.drew.drew⟩
      · have hge : ¬ (i : Int) < (L : Int) := by omega
        have hd : xs.drop i = [] := List.drop_eq_nil_of_le (by have := HL.out.1; omega)
        have hf : res = false := by rw [← hr, hd]; rfl
        have Hf := hid hf
        clear hr hk hi hd hlt hf hbw
        go_wp2_with fail
        go_ret
        exact ⟨by rw [Hf.out]; rfl, Hbw.out⟩
  · have hne : ((xs.length : Int) != (ys.length : Int)) = true := by simp; omega
    have e1 : lessI xs ys = decide ((xs.length : Int) < (ys.length : Int)) := by unfold lessI; rw [if_neg hl]; simp
    have E1 := hid e1
    clear e1 hl
    go_enter Try.func57, Try.ntmps57
    go_wp2_with fail
    go_ret
    exact ⟨by rw [E1.out]; simp, Below.refl _ _⟩
theorem alike_calls (w : World) (ga gb : Option Addr) (ca cb : Nat) (xs ys : List Int) (ha : RowI w w.heap.size ga xs) (hb : RowI w w.heap.size gb ys) (hx : xs.length ≤ 1000000000) (hy : ys.length ≤ 1000000000) :
    Calls Try.prog 55 #[.slice ga xs.length ca, .slice gb ys.length cb] w fun e w' => e = .returned (.bool (decide (xs = ys))) ∧ Below w.heap.size w w' := by
  have h1 : ∀ W, Below w.heap.size w W → Calls Try.prog 57 #[.slice ga xs.length ca, .slice gb ys.length cb] W fun e w' => e = .returned (.bool (lessI xs ys)) ∧ Below W.heap.size W w' := fun W h => less_calls W ga gb ca cb xs ys ((ha.below h).mono h.size) ((hb.below h).mono h.size) hx hy
  have h2 : ∀ W, Below w.heap.size w W → Calls Try.prog 57 #[.slice gb ys.length cb, .slice ga xs.length ca] W fun e w' => e = .returned (.bool (lessI ys xs)) ∧ Below W.heap.size W w' := fun W h => less_calls W gb ga cb ca ys xs ((hb.below h).mono h.size) ((ha.below h).mono h.size) hy hx
  rw [← alikeI]
  obtain ⟨p, hp⟩ : ∃ p, p = lessI xs ys := ⟨_, rfl⟩
  obtain ⟨q, hq⟩ : ∃ q, q = lessI ys xs := ⟨_, rfl⟩
  rw [← hp] at h1 ⊢
  rw [← hq] at h2 ⊢
  obtain ⟨n, hn⟩ : ∃ n, n = xs.length := ⟨_, rfl⟩
  obtain ⟨m, hm⟩ : ∃ m, m = ys.length := ⟨_, rfl⟩
  rw [← hn, ← hm] at h1 h2 ⊢
  have H1 := hid h1
  have H2 := hid h2
  clear h1 h2 hp hq ha hb hx hy hn hm
  go_enter Try.func55, Try.ntmps55
  cases p with
  | true =>
    go_wp2_with (go_at_call 57; refine (H1.out _ (bel_id _)).mono ?_; rintro e w1 ⟨rfl, hb1⟩)
    go_ret
    exact ⟨rfl, hb1⟩
  | false =>
    go_wp2_with (first
      | (go_at_call 57; refine (H2.out _ Hb1.out).mono ?_; rintro e w2 ⟨rfl, hb2⟩)
      | (go_at_call 57; refine (H1.out _ (bel_id _)).mono ?_; rintro e w1 ⟨rfl, hb1⟩; have Hb1 := hid hb1; clear hb1))
    go_ret
    exact ⟨by simp, Hb1.out.trans (hb2.mono Hb1.out.size)⟩
end Go.Proofs.Ytaehooafdbaomaa
/- Chapter 10: longer limits, shortest words, the grammar of many words. Plain lists. -/
namespace Go.Proofs.Ytaehooafdbaomaa
namespace Lg
open Facts (atK fixS lengthS bound sumS Lens Sho)

/-- A length that a nonterminal has is a word's. -/
theorem lens_der {ps : List (Int × List Int)} (h0 : ∀ x ∈ ps, 0 ≤ x.1) {a m : Int} (h : Lens ps a m) : 0 ≤ m ∧ (m < bound → ∃ z, Der ps [a] z ∧ (z.length : Int) = m) := by
  induction h with
  | mk x hx f _ ih =>
    have key : ∀ (r : List Int) (n : Int), (∀ s ∈ r, 0 ≤ s → 0 ≤ f s ∧ (f s < bound → ∃ z, Der ps [s] z ∧ (z.length : Int) = f s)) → 0 ≤ n →
        min n bound ≤ sumS f r n ∧ (sumS f r n < bound → ∃ z, Der ps r z ∧ n + (z.length : Int) = sumS f r n) := by
      intro r
      induction r with
      | nil => intro n _ _; exact ⟨by unfold sumS; omega, fun _ => ⟨[], .nil, by simp [sumS]⟩⟩
      | cons s r ihr =>
        intro n hr hn
        have hs := hr s (List.mem_cons_self ..)
        have hk : 0 ≤ (if 0 ≤ s then f s else 1) := by
          split
          · rename_i h; exact (hs h).1
          · omega
        obtain ⟨k, hke⟩ : ∃ k, k = (if 0 ≤ s then f s else 1) := ⟨_, rfl⟩
        have hS : sumS f (s :: r) n = sumS f r (min (n + k) bound) := by rw [hke]; rfl
        rw [← hke] at hk
        have hb : (0 : Int) ≤ bound := by unfold bound; omega
        obtain ⟨i1, i2⟩ := ihr (min (n + k) bound) (fun t ht => hr t (List.mem_cons_of_mem _ ht)) (by omega)
        rw [hS]
        clear hS
        obtain ⟨S, hSe⟩ : ∃ S, S = sumS f r (min (n + k) bound) := ⟨_, rfl⟩
        rw [← hSe] at i1 i2 ⊢
        clear hSe
        obtain ⟨B, hB⟩ : ∃ B, B = bound := ⟨_, rfl⟩
        rw [← hB] at i1 i2 hb hs hr ⊢
        clear ihr
        refine ⟨by clear hke; omega, fun hlt => ?_⟩
        obtain ⟨z, hz1, hz2⟩ := i2 hlt
        have hmin : min (n + k) B = n + k := by clear hke; omega
        rw [hmin] at hz2
        have hz : ∃ y, Der ps [s] y ∧ (y.length : Int) = k := by
          by_cases h : 0 ≤ s
          · rw [if_pos h] at hke
            rw [hke]
            exact (hs h).2 (by rw [hmin] at i1; rw [← hke]; clear hke; omega)
          · rw [if_neg h] at hke
            exact ⟨[tb s], .term (by omega) .nil, by rw [hke]; rfl⟩
        obtain ⟨y, hy1, hy2⟩ := hz
        exact ⟨y ++ z, hy1.app hz1, by rw [List.length_append]; clear hke; omega⟩
    obtain ⟨k1, k2⟩ := key x.2 0 ih (by omega)
    refine ⟨by unfold bound at k1; omega, fun hlt => ?_⟩
    obtain ⟨z, hz1, hz2⟩ := k2 hlt
    exact ⟨z, Der.one (h0 x hx) hx hz1, by omega⟩
/-- The shortest word. -/
theorem short_word {ps : List (Int × List Int)} {n : Nat} {ks : List Int} (h0 : ∀ x ∈ ps, 0 ≤ x.1) (hs : Sho ps n ks) (hf : fixS ps ks) {a : Int} (ha : 0 ≤ a) (hn : a < n) :
    (∀ z, Der ps [a] z → 0 ≤ atK ks a ∧ atK ks a ≤ z.length) ∧ (0 ≤ atK ks a → atK ks a < bound → ∃ z, Der ps [a] z ∧ (z.length : Int) = atK ks a) := by
  refine ⟨fun z hz => ?_, fun h1 h2 => (lens_der h0 (hs.fnd a ha hn h1)).2 h2⟩
  obtain ⟨-, d1, d2⟩ := der_len hf hz
  have d3 := d2 a (by simp)
  simp only [tot, kOf, ha, if_true] at d1 d3
  omega
end Lg
/-- With a greater limit the same words come first. -/
theorem fits_split {P : List UInt8 → Prop} {most : Nat} {s1 s2 : List (List UInt8)} (p1 : s1.Pairwise WLt) (p2 : s2.Pairwise WLt) (m1 : ∀ z, z ∈ s1 ↔ P z ∧ z.length ≤ most) (m2 : ∀ z, z ∈ s2 ↔ P z ∧ z.length ≤ most + 1) :
    ∃ tt, s2 = s1 ++ tt ∧ ∀ z ∈ tt, z.length = most + 1 := by
  refine ⟨s2.filter fun z => decide (z.length = most + 1), rise_eq p2 ?_ fun z => ?_, fun z hz => by simpa using (List.mem_filter.1 hz).2⟩
  · rw [List.pairwise_append]
    refine ⟨p1, p2.sublist List.filter_sublist, fun x hx y hy => .inl ?_⟩
    have h1 := ((m1 x).1 hx).2
    have h2 : y.length = most + 1 := by simpa using (List.mem_filter.1 hy).2
    omega
  · rw [List.mem_append, List.mem_filter, m1, m2]
    constructor
    · rintro ⟨h1, h2⟩
      by_cases h : z.length ≤ most
      · exact .inl ⟨h1, h⟩
      · exact .inr ⟨⟨h1, h2⟩, by simp; omega⟩
    · rintro (⟨h1, h2⟩ | ⟨h, -⟩)
      · exact ⟨h1, by omega⟩
      · exact h
theorem lexI_cb : ∀ {a b : List UInt8}, a.length = b.length → (lexI (toI a) (toI b) = true ↔ Lib.compareBytes a b < 0)
  | [], [], _ => by simp [toI, lexI, Lib.compareBytes]
  | [], _ :: _, h => by simp at h
  | _ :: _, [], h => by simp at h
  | x :: a, y :: b, h => by
    have ih := lexI_cb (a := a) (b := b) (by simpa using h)
    show lexI ((x.toNat : Int) :: toI a) ((y.toNat : Int) :: toI b) = true ↔ _
    unfold lexI Lib.compareBytes
    by_cases e : x.toNat = y.toNat
    · rw [if_pos (by omega), if_neg (by rw [UInt8.lt_iff_toNat_lt]; omega), if_neg (by rw [UInt8.lt_iff_toNat_lt]; omega)]
      exact ih
    · rw [if_neg (by omega)]
      by_cases h1 : x.toNat < y.toNat
      · rw [if_pos (by rw [UInt8.lt_iff_toNat_lt]; exact h1)]
        simp; omega
      · rw [if_neg (by rw [UInt8.lt_iff_toNat_lt]; exact h1), if_pos (by rw [UInt8.lt_iff_toNat_lt]; omega)]
        simp; omega
theorem lessI_wlt (a b : List UInt8) : lessI (toI a) (toI b) = true ↔ WLt a b := by
  unfold lessI WLt
  rw [toI_len, toI_len]
  by_cases h : a.length = b.length
  · rw [if_pos h, lexI_cb h]
    constructor
    · exact fun h2 => .inr ⟨h, h2⟩
    · rintro (h2 | ⟨-, h2⟩)
      · omega
      · exact h2
  · rw [if_neg h, decide_eq_true_eq]
    constructor
    · exact .inl
    · rintro (h2 | ⟨h2, -⟩)
      · exact h2
      · omega
theorem toI_inj {a b : List UInt8} (h : toI a = toI b) : a = b := by
  have := congrArg Lg.toB h
  rwa [Lg.toB_toI, Lg.toB_toI] at this
theorem rise_nodup {l : List (List UInt8)} (h : l.Pairwise WLt) : l.Nodup := h.imp fun hab e => by subst e; exact WLt.irrefl _ hab

/-! The grammar of all words of n terminals of t kinds. -/
def manyP (n t : Nat) : List (Int × List Int) := (0, List.replicate n 1) :: (List.range t).map fun (c : Nat) => ((1 : Int), [-1 - (c : Int)])
theorem manyP_mem {n t : Nat} {x : Int × List Int} (h : x ∈ manyP n t) : x = (0, List.replicate n 1) ∨ ∃ c : Nat, c < t ∧ x = (1, [-1 - (c : Int)]) := by
  rcases List.mem_cons.1 h with h | h
  · exact .inl h
  · obtain ⟨c, hc, rfl⟩ := List.mem_map.1 h
    exact .inr ⟨c, List.mem_range.1 hc, rfl⟩
theorem many_one {n t : Nat} (ht : t ≤ 256) {z : List UInt8} (h : Lg.Der (manyP n t) [1] z) : z.length = 1 ∧ ∀ b ∈ z, b.toNat < t := by
  obtain ⟨R, hR, hd⟩ := h.inv (by omega)
  rcases manyP_mem hR with e | ⟨c, hc, e⟩
  · injection e with e _; omega
  · injection e with _ e
    subst e
    cases hd with
    | term _ hn =>
      cases hn
      refine ⟨rfl, fun b hb => ?_⟩
      rw [List.mem_singleton] at hb
      have := Lg.tb_toNat (s := -1 - (c : Int)) (by omega) (by omega)
      rw [hb]
      omega
    | prod h0 => omega
theorem many_ones {n t : Nat} (ht : t ≤ 256) : ∀ (i : Nat) {z : List UInt8}, Lg.Der (manyP n t) (List.replicate i 1) z → z.length = i ∧ ∀ b ∈ z, b.toNat < t
  | 0, z, h => by cases h; simp
  | i + 1, z, h => by
    rw [List.replicate_succ] at h
    cases h with
    | term h0 => omega
    | @prod s R xs z1 z2 h0 hp h1 h2 =>
      obtain ⟨a1, a2⟩ := many_one ht (Lg.Der.one h0 hp h1)
      obtain ⟨b1, b2⟩ := many_ones ht i h2
      refine ⟨by rw [List.length_append]; omega, fun b hb => ?_⟩
      rcases List.mem_append.1 hb with hb | hb
      · exact a2 b hb
      · exact b2 b hb
theorem many_all {n t : Nat} (ht : t ≤ 256) : ∀ (z : List UInt8), (∀ b ∈ z, b.toNat < t) → Lg.Der (manyP n t) (List.replicate z.length 1) z
  | [], _ => .nil
  | b :: z, h => by
    have hb := h b (List.mem_cons_self ..)
    have h2 := many_all (n := n) ht z (fun c hc => h c (List.mem_cons_of_mem _ hc))
    rw [List.length_cons, List.replicate_succ]
    have e : Lg.tb (-1 - (b.toNat : Int)) = b := by
      unfold Lg.tb
      rw [show (-1 - (-1 - (b.toNat : Int))).toNat = b.toNat by omega]
      simp
    have h1 : Lg.Der (manyP n t) [-1 - (b.toNat : Int)] [b] := by
      have := Lg.Der.term (ps := manyP n t) (s := -1 - (b.toNat : Int)) (xs := []) (by omega) .nil
      rwa [e] at this
    have := Lg.Der.prod (s := 1) (by omega) (show ((1 : Int), [-1 - (b.toNat : Int)]) ∈ manyP n t from List.mem_cons_of_mem _ (List.mem_map.2 ⟨b.toNat, List.mem_range.2 hb, rfl⟩)) h1 h2
    exact this
theorem many_iff {n t : Nat} (ht : t ≤ 256) (z : List UInt8) : Lg.Der (manyP n t) [0] z ↔ z ∈ allB t n := by
  rw [allB_mem ht]
  constructor
  · intro h
    obtain ⟨R, hR, hd⟩ := h.inv (by omega)
    rcases manyP_mem hR with e | ⟨c, _, e⟩
    · injection e with _ e
      subst e
      exact many_ones ht n hd
    · injection e with e _; omega
  · rintro ⟨h1, h2⟩
    have := many_all (n := n) ht z h2
    rw [h1] at this
    exact Lg.Der.one (by omega) (by simp [manyP]) this
theorem many_words {n t most : Nat} (ht : t ≤ 256) {ss : List (List UInt8)} (hp : ss.Pairwise WLt) (hm : ∀ z, z ∈ ss ↔ Lg.Der (manyP n t) [0] z ∧ z.length ≤ most) : n ≤ most → ss.length = t ^ n := fun h => by
  rw [← allB_len t n]
  refine congrArg List.length (rise_eq hp (allB_rise ht n) fun z => ?_)
  rw [hm, many_iff ht]
  constructor
  · exact fun h => h.1
  · intro hz
    have := ((allB_mem ht n z).1 hz).1
    exact ⟨hz, by omega⟩
theorem many_fit {n : Nat} (hn : n ≤ 12) {live : Int → Prop} {ks : List Int} {most : Nat} (h : Lg.Over (manyP n 2) live ks most) : False := by
  have hpow : ∀ i : Nat, i ≤ 12 → 2 ^ i ≤ 4096 := fun i hi => Nat.le_trans (Nat.pow_le_pow_right (by omega) hi) (by decide)
  have hsub : ∀ (H : List (List UInt8)) (i : Nat), H.Nodup → i ≤ 12 → (∀ z ∈ H, z.length = i ∧ ∀ b ∈ z, b.toNat < 2) → H.length ≤ 4096 := fun H i hnd hi hz =>
    Nat.le_trans (nodup_sub hnd (m := allB 2 i) fun z hz' => (allB_mem (by omega) _ _).2 (hz z hz')) (by rw [allB_len]; exact hpow i hi)
  rcases h with ⟨a, H, _, hnd, hl, hz⟩ | ⟨x, hx, hu, i, H, hi, hnd, hl, hz⟩
  · by_cases h0 : a = 0
    · subst h0
      have := hsub H n hnd hn fun z hz' => (allB_mem (by omega) n z).1 ((many_iff (by omega) z).1 (hz z hz').1)
      omega
    · by_cases h1 : a = 1
      · subst h1
        have := hsub H 1 hnd (by omega) fun z hz' => many_one (by omega) (hz z hz').1
        omega
      · have : H = [] := List.eq_nil_iff_forall_not_mem.2 fun z hz' => by
          obtain ⟨R, hR, -⟩ := (hz z hz').1.inv (by omega)
          rcases manyP_mem hR with e | ⟨c, _, e⟩ <;> (injection e with e _; omega)
        subst this
        simp at hl
  · have h4 : (4096 : Int) ≤ 4096 * ((most : Int) + 1) := by omega
    rcases manyP_mem hx with e | ⟨c, hc, e⟩
    · subst e
      simp only [List.length_replicate] at hi
      have := hsub H i hnd (by omega) fun z hz' => by
        have h1 := (hz z hz').1
        simp only [List.take_replicate, Nat.min_eq_left hi] at h1
        exact many_ones (by omega) i h1
      omega
    · subst e
      have hi2 : i = 0 ∨ i = 1 := by simp at hi; omega
      have := hsub H i hnd (by omega) fun z hz' => by
        have h1 := (hz z hz').1
        rcases hi2 with rfl | rfl
        · simp only [List.take_zero] at h1
          cases h1; simp
        · simp only [List.take_succ_cons, List.take_zero] at h1
          cases h1 with
          | term _ hn =>
            cases hn
            refine ⟨rfl, fun b hb => ?_⟩
            rw [List.mem_singleton] at hb
            have := Lg.tb_toNat (s := -1 - (c : Int)) (by omega) (by omega)
            rw [hb]
            omega
          | prod h0 => omega
      omega
theorem many_over {n : Nat} (h8 : 8 ≤ n) {ss : List (List UInt8)} {most : Nat} (hm : n ≤ most) (hp : ss.Pairwise WLt) (hs : ∀ z, z ∈ ss ↔ Lg.Der (manyP n 3) [0] z ∧ z.length ≤ most) (hl : ss.length ≤ 4096) : False := by
  have h1 := many_words (by omega) hp hs hm
  have h2 : 3 ^ 8 ≤ 3 ^ n := Nat.pow_le_pow_right (by omega) h8
  have h3 : (3 : Nat) ^ 8 = 6561 := by decide
  omega
end Go.Proofs.Ytaehooafdbaomaa
