/- Plain mathematics of chapter 5 (syntax): as many rules, tokens and brackets as there may be, and one more. -/
import Derived.Test.YtjaampgpihicmaaSynLaw6
namespace Go.Proofs.Ytjaampgpihicmaa.Syn
open Lex (Tok Flt)

theorem parseT_of' {T : List Tok} {st : List UInt8} {rs : List (List UInt8 × Nod)} {i j : Nat} (h : Read T st rs i j) (hj : j ≤ T.length) (hfar : ∀ k, k ≤ j → far T k = false) : parseT T = .ok (startOr st rs) rs := by
  have hle := RulesAt.le h.rules
  have hf0 := hfar 0 (by omega)
  have hhead : headS T = .ok st i 0 := by
    unfold headS
    rw [hf0, if_neg (by decide)]
    rcases h.head with ⟨rfl, rfl, hs⟩ | ⟨rfl, hs, hk, rfl, hs2⟩
    · rw [hs, if_neg (by decide)]
    · rw [if_pos hs]
      have h1 : nameS T 1 0 = .ok (tk T 1).text 2 0 := by
        unfold nameS
        rw [hfar 1 (by omega), if_neg (by decide), if_pos hk]
      have h2 : takeS T [59] 2 0 = .ok () 3 0 := by
        unfold takeS
        rw [hfar 2 (by omega), if_neg (by decide), if_pos hs2]
      rw [h1]
      simp only []
      rw [h2]
  unfold parseT
  rw [hhead]
  simp only []
  rw [rulesF_of (rs := []) h.rules h.last hj (by simpa using h.some) (by simpa using h.most) (by omega) (fun k _ hk => hfar k hk)]
  simp
/-- The answer is a grammar that has rules. -/
def okB : PRes → Bool
  | .ok _ rs => decide (0 < rs.length)
  | .bad _ => false
/-- The answer is a fault of the first line, of this code. -/
def badB (c : Nat) : PRes → Bool
  | .ok _ _ => false
  | .bad f => f.line == 1 && f.code == c
def text0 (n : Nat) : List UInt8 := (List.replicate n [97, 58, 59]).flatten
def text2 (n : Nat) : List UInt8 := 97 :: 58 :: (List.replicate n 40 ++ 98 :: (List.replicate n 41 ++ [59]))
def text1 (k : Nat) : List UInt8 := 97 :: 58 :: ((List.replicate k [32, 98]).flatten ++ [59])
theorem text0_ok_60 : okB (parseS (text0 60)) = true := by kernel_rfl
theorem text0_ok_61 : okB (parseS (text0 61)) = true := by kernel_rfl
theorem text0_ok_62 : okB (parseS (text0 62)) = true := by kernel_rfl
theorem text0_ok_63 : okB (parseS (text0 63)) = true := by kernel_rfl
theorem text0_ok_64 : okB (parseS (text0 64)) = true := by kernel_rfl
theorem text0_ok (n : Nat) (h1 : 60 ≤ n) (h2 : n ≤ 64) : okB (parseS (text0 n)) = true := by
  rcases (show n = 60 ∨ n = 61 ∨ n = 62 ∨ n = 63 ∨ n = 64 by omega) with rfl | rfl | rfl | rfl | rfl
  · exact text0_ok_60
  · exact text0_ok_61
  · exact text0_ok_62
  · exact text0_ok_63
  · exact text0_ok_64
theorem text0_bad_65 : badB 6 (parseS (text0 65)) = true := by kernel_rfl
theorem text0_bad_66 : badB 6 (parseS (text0 66)) = true := by kernel_rfl
theorem text0_bad_67 : badB 6 (parseS (text0 67)) = true := by kernel_rfl
theorem text0_bad (n : Nat) (h1 : 65 ≤ n) (h2 : n ≤ 67) : badB 6 (parseS (text0 n)) = true := by
  rcases (show n = 65 ∨ n = 66 ∨ n = 67 by omega) with rfl | rfl | rfl
  · exact text0_bad_65
  · exact text0_bad_66
  · exact text0_bad_67
theorem text2_ok_12 : okB (parseS (text2 12)) = true := by kernel_rfl
theorem text2_ok_13 : okB (parseS (text2 13)) = true := by kernel_rfl
theorem text2_ok_14 : okB (parseS (text2 14)) = true := by kernel_rfl
theorem text2_ok_15 : okB (parseS (text2 15)) = true := by kernel_rfl
theorem text2_ok_16 : okB (parseS (text2 16)) = true := by kernel_rfl
theorem text2_ok (n : Nat) (h1 : 12 ≤ n) (h2 : n ≤ 16) : okB (parseS (text2 n)) = true := by
  rcases (show n = 12 ∨ n = 13 ∨ n = 14 ∨ n = 15 ∨ n = 16 by omega) with rfl | rfl | rfl | rfl | rfl
  · exact text2_ok_12
  · exact text2_ok_13
  · exact text2_ok_14
  · exact text2_ok_15
  · exact text2_ok_16
theorem text2_bad_17 : badB 11 (parseS (text2 17)) = true := by kernel_rfl
theorem text2_bad_18 : badB 11 (parseS (text2 18)) = true := by kernel_rfl
theorem text2_bad_19 : badB 11 (parseS (text2 19)) = true := by kernel_rfl
theorem text2_bad (n : Nat) (h1 : 17 ≤ n) (h2 : n ≤ 19) : badB 11 (parseS (text2 n)) = true := by
  rcases (show n = 17 ∨ n = 18 ∨ n = 19 by omega) with rfl | rfl | rfl
  · exact text2_bad_17
  · exact text2_bad_18
  · exact text2_bad_19
/-! Many tokens. -/
def bTok (co : Nat) : Tok := ⟨1, [98], 1, co⟩
def bToks : Nat → Nat → List Tok
  | 0, _ => []
  | k + 1, co => bTok (co + 1) :: bToks k (co + 2)
theorem bToks_len : ∀ k co, (bToks k co).length = k
  | 0, _ => rfl
  | k + 1, co => by rw [bToks, List.length_cons, bToks_len]
theorem bToks_at : ∀ (k co i : Nat), i < k → (bToks k co)[i]? = some (bTok (co + 2 * i + 1))
  | 0, _, _, h => by omega
  | k + 1, co, 0, _ => rfl
  | k + 1, co, i + 1, h => by
    rw [bToks, List.getElem?_cons_succ, bToks_at k (co + 2) i (by omega), show co + 2 + 2 * i + 1 = co + 2 * (i + 1) + 1 by omega]
theorem scan_bs : ∀ (k co : Nat), Lex.scanS ((List.replicate k [32, 98]).flatten ++ [59]) 1 co = .good (bToks k co ++ [⟨3, [59], 1, co + 2 * k⟩, ⟨4, [], 1, co + 2 * k + 1⟩])
  | 0, co => by
    rw [Lex.scanS_eq]
    simp only [List.replicate_zero, List.flatten_nil, List.nil_append]
    have e1 : Lex.skipS false [59] 1 co = ([59], 1, co) := by simp [Lex.skipS, Lex.isBlank]
    rw [e1]
    simp only [Lex.contS]
    have e2 : Lex.tokS 59 [] 1 co = .good ⟨3, [59], 1, co⟩ [] 1 (co + 1) := by
      unfold Lex.tokS
      rw [if_neg (by decide), if_neg (by decide), if_pos (by decide)]
    rw [e2]
    simp only []
    rw [Lex.scanS_eq]
    rfl
  | k + 1, co => by
    have e0 : (List.replicate (k + 1) [32, 98]).flatten ++ [59] = (32 : UInt8) :: 98 :: ((List.replicate k [32, 98]).flatten ++ [59]) := by
      rw [List.replicate_succ]; rfl
    have hnext : ((List.replicate k [(32 : UInt8), 98]).flatten ++ [59]).takeWhile Lex.isRest = [] ∧ ((List.replicate k [(32 : UInt8), 98]).flatten ++ [59]).dropWhile Lex.isRest = (List.replicate k [32, 98]).flatten ++ [59] := by
      cases k with
      | zero => exact ⟨rfl, rfl⟩
      | succ k =>
        rw [List.replicate_succ]
        exact ⟨rfl, rfl⟩
    rw [e0, Lex.scanS_eq]
    have e1 : Lex.skipS false ((32 : UInt8) :: 98 :: ((List.replicate k [32, 98]).flatten ++ [59])) 1 co = (98 :: ((List.replicate k [32, 98]).flatten ++ [59]), 1, co + 1) := by
      simp [Lex.skipS, Lex.isBlank, Lex.advL, Lex.advC]
    rw [e1]
    simp only [Lex.contS]
    have e2 : Lex.tokS 98 ((List.replicate k [32, 98]).flatten ++ [59]) 1 (co + 1) = .good ⟨1, [98], 1, co + 1⟩ ((List.replicate k [32, 98]).flatten ++ [59]) 1 (co + 2) := by
      unfold Lex.tokS
      have htw : ((98 : UInt8) :: ((List.replicate k [32, 98]).flatten ++ [59])).takeWhile Lex.isRest = [98] := by rw [List.takeWhile_cons, if_pos (by decide), hnext.1]
      have hdw : ((98 : UInt8) :: ((List.replicate k [32, 98]).flatten ++ [59])).dropWhile Lex.isRest = (List.replicate k [32, 98]).flatten ++ [59] := by rw [List.dropWhile_cons, if_pos (by decide), hnext.2]
      rw [if_pos (by decide), htw, hdw, if_neg (by decide)]
      rfl
    rw [e2]
    simp only []
    rw [scan_bs k (co + 2)]
    simp only [Lex.ScanRes.push, bToks, bTok, List.cons_append, List.nil_append]
    rw [show co + 2 + 2 * k = co + 2 * (k + 1) by omega]
/-- The tokens of 'a: b b .. b;'. -/
def manyT (k : Nat) : List Tok := ⟨1, [97], 1, 1⟩ :: ⟨3, [58], 1, 2⟩ :: (bToks k 3 ++ [⟨3, [59], 1, 3 + 2 * k⟩, ⟨4, [], 1, 3 + 2 * k + 1⟩])
theorem text1_len (k : Nat) : (text1 k).length = 2 * k + 3 := by
  unfold text1
  have : ((List.replicate k [(32 : UInt8), 98]).flatten).length = 2 * k := by
    induction k with
    | zero => rfl
    | succ k ih => rw [List.replicate_succ, List.flatten_cons, List.length_append, ih]; simp; omega
  simp [this]
theorem scan_text1 (k : Nat) (hk : k ≤ 10000) : Lex.scan (text1 k) = .good (manyT k) := by
  unfold Lex.scan
  rw [text1_len, if_neg (by omega)]
  unfold text1
  rw [Lex.scanS_eq]
  have e1 : ∀ r, Lex.skipS false (97 :: r) 1 1 = (97 :: r, 1, 1) := fun r => by simp [Lex.skipS, Lex.isBlank]
  rw [e1]
  simp only [Lex.contS]
  have e2 : ∀ r, Lex.tokS 97 (58 :: r) 1 1 = .good ⟨1, [97], 1, 1⟩ (58 :: r) 1 2 := fun r => by
    unfold Lex.tokS
    have htw : ((97 : UInt8) :: 58 :: r).takeWhile Lex.isRest = [97] := by rw [List.takeWhile_cons, if_pos (by decide), List.takeWhile_cons, if_neg (by decide)]
    have hdw : ((97 : UInt8) :: 58 :: r).dropWhile Lex.isRest = 58 :: r := by rw [List.dropWhile_cons, if_pos (by decide), List.dropWhile_cons, if_neg (by decide)]
    rw [if_pos (by decide), htw, hdw, if_neg (by decide)]
    rfl
  rw [e2]
  simp only []
  rw [Lex.scanS_eq]
  have e3 : ∀ r, Lex.skipS false (58 :: r) 1 2 = (58 :: r, 1, 2) := fun r => by simp [Lex.skipS, Lex.isBlank]
  rw [e3]
  simp only [Lex.contS]
  have e4 : ∀ r, Lex.tokS 58 r 1 2 = .good ⟨3, [58], 1, 2⟩ r 1 3 := fun r => by
    unfold Lex.tokS
    rw [if_neg (by decide), if_neg (by decide), if_pos (by decide)]
  rw [e4]
  simp only []
  rw [scan_bs k 3]
  rfl
theorem many_len (k : Nat) : (manyT k).length = k + 4 := by simp [manyT, bToks_len]
theorem many_b {k i : Nat} (h1 : 2 ≤ i) (h2 : i < k + 2) : tk (manyT k) i = bTok (3 + 2 * (i - 2) + 1) := by
  obtain ⟨j, rfl⟩ : ∃ j, i = j + 2 := ⟨i - 2, by omega⟩
  unfold tk manyT
  rw [List.getD, List.getElem?_cons_succ, List.getElem?_cons_succ, List.getElem?_append_left (by rw [bToks_len]; omega), bToks_at k 3 j (by omega)]
  rfl
theorem many_semi (k : Nat) : tk (manyT k) (k + 2) = ⟨3, [59], 1, 3 + 2 * k⟩ := by
  unfold tk manyT
  rw [List.getD, List.getElem?_cons_succ, List.getElem?_cons_succ, List.getElem?_append_right (by rw [bToks_len]; omega), bToks_len, Nat.sub_self]
  rfl
theorem many_end (k : Nat) : tk (manyT k) (k + 3) = ⟨4, [], 1, 3 + 2 * k + 1⟩ := by
  unfold tk manyT
  rw [List.getD, show k + 3 = (k + 1) + 2 by omega, List.getElem?_cons_succ, List.getElem?_cons_succ, List.getElem?_append_right (by rw [bToks_len]; omega), bToks_len, show k + 1 - k = 1 by omega]
  rfl
theorem many_line {k i : Nat} (h : i < k + 4) : (tk (manyT k) i).line = 1 := by
  rcases Nat.lt_or_ge i 2 with h1 | h1
  · rcases (show i = 0 ∨ i = 1 by omega) with rfl | rfl <;> rfl
  · rcases Nat.lt_or_ge i (k + 2) with h2 | h2
    · rw [many_b h1 h2]; rfl
    · rcases (show i = k + 2 ∨ i = k + 3 by omega) with rfl | rfl
      · rw [many_semi]
      · rw [many_end]
def bNd : Nat → Nd
  | 0 => .nil
  | k + 1 => .cons 1 [98] .nil (bNd k)
/-- At a b: one more item, where what stands behind it is no sign of repetition. -/
theorem row_b {T : List Tok} {f i : Nat} {items : Nd} (hk : (tk T i).kind = 1) (ht : (tk T i).text = [98]) (hfar : far T i = false) (hfar2 : far T (i + 1) = false) (h63 : isS T (i + 1) [63] = false) (h42 : isS T (i + 1) [42] = false) (h43 : isS T (i + 1) [43] = false) :
    rowF T (f + 2) items i 0 = rowF T (f + 1) (items.app (.cons 1 [98] .nil .nil)) (i + 1) 0 := by
  rw [rowF]
  have e1 : atomF T (f + 1) i 0 = some (.ok (some ⟨1, [98], .nil⟩) (i + 1) 0) := by
    rw [atomF, hfar, if_neg (by decide), if_pos hk, ht]
  rw [e1, bind_some]
  have e2 : sufS T ⟨1, [98], .nil⟩ (i + 1) 0 = .ok ⟨1, [98], .nil⟩ (i + 1) 0 := by
    unfold sufS
    rw [hfar2, h63, h42, h43]
    rfl
  show (sufS T ⟨1, [98], .nil⟩ (i + 1) 0).bind _ = _
  rw [e2, bind_res]
  rfl
theorem sign_of_b {T : List Tok} {i : Nat} (hk : (tk T i).kind = 1) (s : List UInt8) : isS T i s = false := by unfold isS; rw [hk]; rfl
theorem row_bs {k : Nat} (hk : k + 2 < 4096) : ∀ (j : Nat) (items : Nd), j ≤ k → rowF (manyT k) (j + 2) items (k + 2 - j) 0 = some (.ok (pack 3 (items.app (bNd j))) (k + 2) 0)
  | 0, items, _ => by
    rw [Nat.sub_zero, rowF]
    have e1 : atomF (manyT k) 1 (k + 2) 0 = some (.ok none (k + 2) 0) := by
      have hi : ∀ s, s ≠ [59] → isS (manyT k) (k + 2) s = false := fun s hs => by
        unfold isS
        rw [many_semi]
        simp [Ne.symm hs]
      rw [atomF, far_small hk, many_semi, if_neg (by decide), if_neg (show ¬ (3 : Nat) = 1 by decide), if_neg (show ¬ (3 : Nat) = 2 by decide), hi [40] (by decide), hi [91] (by decide), hi [123] (by decide)]
      rfl
    rw [e1, bind_some, bNd, Nd.app_nil]
  | j + 1, items, hj => by
    obtain ⟨i, hi⟩ : ∃ i, i = k + 2 - (j + 1) := ⟨_, rfl⟩
    have hi2 : k + 2 - j = i + 1 := by omega
    have hb : tk (manyT k) i = bTok (3 + 2 * (i - 2) + 1) := many_b (by omega) (by omega)
    have hs : ∀ s, s = [63] ∨ s = [42] ∨ s = [43] → isS (manyT k) (i + 1) s = false := fun s hs => by
      rcases Nat.lt_or_ge (i + 1) (k + 2) with h1 | h1
      · exact sign_of_b (by rw [many_b (by omega) h1]; rfl) s
      · have : i + 1 = k + 2 := by omega
        unfold isS
        rw [this, many_semi]
        rcases hs with rfl | rfl | rfl <;> rfl
    rw [← hi, row_b (by rw [hb]; rfl) (by rw [hb]; rfl) (far_small (by omega)) (far_small (by omega)) (hs _ (.inl rfl)) (hs _ (.inr (.inl rfl))) (hs _ (.inr (.inr rfl))), ← hi2, row_bs hk j _ (by omega), Nd.app_assoc]
    rfl
theorem row_far {k : Nat} (hk : 4096 ≤ k + 2) : ∀ (d : Nat) (items : Nd), d ≤ 4093 → rowF (manyT k) (d + 2) items (4095 - d) 0 = some (.bad (flt (manyT k) 4096 6))
  | 0, items, _ => by
    have hb : tk (manyT k) 4095 = bTok (3 + 2 * (4095 - 2) + 1) := many_b (by omega) (by omega)
    have hfar : far (manyT k) 4096 = true := by
      unfold far
      rcases Nat.lt_or_ge 4096 (k + 2) with h1 | h1
      · rw [many_b (by omega) h1]; rfl
      · have : 4096 = k + 2 := by omega
        rw [this, many_semi]
        simp
    rw [rowF]
    have e1 : atomF (manyT k) 1 4095 0 = some (.ok (some ⟨1, [98], .nil⟩) 4096 0) := by
      rw [atomF, far_small (by decide), if_neg (by decide), if_pos (by rw [hb]; rfl), hb]
      rfl
    show ((atomF (manyT k) 1 4095 0).bind _) = _
    rw [e1, bind_some]
    show (sufS (manyT k) ⟨1, [98], .nil⟩ 4096 0).bind _ = _
    unfold sufS
    rw [hfar]
    rfl
  | d + 1, items, hd => by
    obtain ⟨i, hi⟩ : ∃ i, i = 4095 - (d + 1) := ⟨_, rfl⟩
    have hi2 : 4095 - d = i + 1 := by omega
    have hb : tk (manyT k) i = bTok (3 + 2 * (i - 2) + 1) := many_b (by omega) (by omega)
    have hb2 : (tk (manyT k) (i + 1)).kind = 1 := by rw [many_b (by omega) (by omega)]; rfl
    rw [← hi, row_b (by rw [hb]; rfl) (by rw [hb]; rfl) (far_small (by omega)) (far_small (by omega)) (sign_of_b hb2 _) (sign_of_b hb2 _) (sign_of_b hb2 _), ← hi2, row_far hk d _ (by omega)]
theorem many_head (k : Nat) : headS (manyT k) = .ok [] 0 0 := by
  unfold headS
  rw [far_small (by decide)]
  rfl
theorem pack_row4 (n : Nod) : pack 4 n.row = n := rfl
theorem many_alt {k f i j : Nat} {n : Nod} (hk : k + 2 < 4096) (h : rowF (manyT k) (f + 1) .nil i 0 = some (.ok n (k + 2) 0)) (_hj : j = k + 2) : altF (manyT k) (f + 2) i 0 = some (.ok n (k + 2) 0) := by
  rw [altF, h, bind_some, altM, far_small hk, if_neg (by decide)]
  have e : isS (manyT k) (k + 2) [124] = false := by
    unfold isS
    rw [many_semi]
    rfl
  rw [e, if_neg (by decide), pack_row4]
theorem many_ok (k : Nat) (hk : k + 2 < 4096) : okB (parseS (text1 k)) = true := by
  have hrow := row_bs hk k .nil (Nat.le_refl _)
  rw [show k + 2 - k = 2 by omega] at hrow
  have halt := many_alt (f := k + 1) (j := k + 2) hk hrow rfl
  have h1 : nameS (manyT k) 0 0 = .ok [97] (0 + 1) 0 := by
    unfold nameS
    rw [far_small (by decide)]
    rfl
  have h2 : takeS (manyT k) [58] (0 + 1) 0 = .ok () (0 + 2) 0 := by
    unfold takeS
    rw [far_small (by decide)]
    rfl
  have h4 : takeS (manyT k) [59] (k + 2) 0 = .ok () (k + 2 + 1) 0 := by
    unfold takeS isS
    rw [far_small hk, many_semi]
    rfl
  have hrule : RulesAt (manyT k) 0 [([97], pack 3 (Nd.nil.app (bNd k)))] (k + 3) := ⟨k + 3, ⟨_, ruleS_of h1 h2 halt h4⟩, rfl⟩
  have hread : Read (manyT k) [] [([97], pack 3 (Nd.nil.app (bNd k)))] 0 (k + 3) := by
    refine ⟨.inl ⟨rfl, rfl, rfl⟩, hrule, ?_, by simp, by simp⟩
    rw [many_end]
  have hp := parseT_of' hread (by rw [many_len]; omega) (fun m hm => by
    rcases Nat.lt_or_ge m 4096 with h5 | h5
    · exact far_small h5
    · have : m = k + 3 := by omega
      subst this
      unfold far
      rw [many_end]
      simp)
  unfold parseS
  rw [scan_text1 k (by omega)]
  simp only []
  rw [hp]
  rfl
theorem many_bad (k : Nat) (hk : 4096 ≤ k + 2) (hk2 : k ≤ 10000) : badB 6 (parseS (text1 k)) = true := by
  have hrow := row_far hk 4093 .nil (Nat.le_refl _)
  have halt : altF (manyT k) 4096 2 0 = some (.bad (flt (manyT k) 4096 6)) := by
    rw [altF]
    show ((rowF (manyT k) (4093 + 2) .nil (4095 - 4093) 0).bind _) = _
    rw [hrow]
    rfl
  have h1 : nameS (manyT k) 0 0 = .ok [97] (0 + 1) 0 := by
    unfold nameS
    rw [far_small (by decide)]
    rfl
  have h2 : takeS (manyT k) [58] (0 + 1) 0 = .ok () (0 + 2) 0 := by
    unfold takeS
    rw [far_small (by decide)]
    rfl
  have hrules : rulesF (manyT k) (5 * (manyT k).length + 6) [] 0 0 = some (.bad (flt (manyT k) 4096 6)) := by
    rw [many_len, rules_step, far_small (by decide), if_neg (by decide), if_neg (by rintro ⟨h, _⟩; exact h rfl), if_neg (by rintro ⟨_, h⟩; simp at h)]
    unfold ruleS
    rw [h1, bind_res, h2, bind_res, alt_fuel halt (by omega)]
    rfl
  have hl : (tk (manyT k) 4096).line = 1 := many_line (by omega)
  unfold parseS
  rw [scan_text1 k hk2]
  simp only []
  unfold parseT
  rw [many_head]
  simp only []
  rw [hrules]
  simp only [badB, flt, hl]
  rfl
end Go.Proofs.Ytjaampgpihicmaa.Syn
