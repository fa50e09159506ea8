/- Plain mathematics of chapter 5 (syntax): two texts in one; a start that is named ahead; what is read is proper. -/
import Derived.Test.YtjaampgpihicmaaSynLaw2
import Derived.Test.YtjaampgpihicmaaLexJoinSpec
import Derived.Test.YtjaampgpihicmaaLexBlankSpec
namespace Go.Proofs.Ytjaampgpihicmaa.Lex

/-- Where a text begins changes places only. -/
theorem skipS_at : ∀ (cm : Bool) (l : List UInt8) (li co li' co' : Nat), (skipS cm l li co).1 = (skipS cm l li' co').1
  | _, [], _, _, _, _ => rfl
  | cm, c :: r, li, co, li', co' => by
    simp only [skipS]
    split
    · exact skipS_at true r _ _ _ _
    · split
      · exact skipS_at false r _ _ _ _
      · split
        · exact skipS_at true r _ _ _ _
        · rfl
theorem litS_at (q : UInt8) : ∀ (l : List UInt8) (m : Mode) (out : List UInt8) (co : Nat) (o r : List UInt8) (k co' : Nat), litS q m l out co = .good o r k → ∃ k', litS q m l out co' = .good o r k'
  | [], m, out, co, o, r, k, co', h => by cases m <;> simp [litS] at h
  | c :: l, m, out, co, o, r, k, co', h => by
    cases m <;> simp only [litS] at h ⊢ <;> (repeat' split at h) <;>
      first
        | (cases h; done)
        | (rename_i c1; cases h; rw [if_pos c1]; exact ⟨_, rfl⟩)
        | (rename_i c1; rw [if_pos c1]; exact litS_at q l _ _ _ _ _ _ _ h)
        | (rename_i c1; rw [if_neg c1]; exact litS_at q l _ _ _ _ _ _ _ h)
        | (rename_i c1 c2; rw [if_neg c1, if_pos c2]; exact litS_at q l _ _ _ _ _ _ _ h)
        | (rename_i c1 c2 c3; rw [if_neg c1, if_neg c2, if_neg c3]; exact litS_at q l _ _ _ _ _ _ _ h)
        | (rename_i c1 c2 c3; rw [if_neg c1, if_neg c2, if_pos c3]; exact litS_at q l _ _ _ _ _ _ _ h)
        | (rename_i c1 c2 c3 c4; rw [if_neg c1, if_neg c2, if_neg c3, if_pos c4]; exact litS_at q l _ _ _ _ _ _ _ h)
theorem tokS_at {c : UInt8} {r : List UInt8} {li co : Nat} {t : Tok} {rest : List UInt8} {li1 co1 : Nat} (h : tokS c r li co = .good t rest li1 co1) (li' co' : Nat) : ∃ t' li2 co2, tokS c r li' co' = .good t' rest li2 co2 ∧ key t' = key t := by
  unfold tokS at h ⊢
  split at h
  · rename_i c1
    rw [if_pos c1]
    split at h
    · cases h
    · rename_i c2
      rw [if_neg c2]
      cases h
      exact ⟨_, _, _, rfl, rfl⟩
  · rename_i c1
    rw [if_neg c1]
    split at h
    · rename_i c2
      rw [if_pos c2]
      split at h
      · cases h
      · rename_i out rest' k hl
        obtain ⟨k', hl'⟩ := litS_at c _ _ _ _ _ _ _ (co' + 1) hl
        rw [hl']
        simp only []
        split at h
        · cases h
        · rename_i c3
          rw [if_neg c3]
          split at h
          · cases h
          · rename_i c4
            rw [if_neg c4]
            cases h
            exact ⟨_, _, _, rfl, rfl⟩
    · rename_i c2
      rw [if_neg c2]
      split at h
      · rename_i c3
        rw [if_pos c3]
        cases h
        exact ⟨_, _, _, rfl, rfl⟩
      · cases h
theorem scanS_at : ∀ (n : Nat) (l : List UInt8) (li co : Nat) (m : List Tok), l.length ≤ n → scanS l li co = .good m → ∀ li' co', ∃ m', scanS l li' co' = .good m' ∧ m'.map key = m.map key := by
  intro n
  induction n with
  | zero =>
    intro l li co m hn h li' co'
    have hl : l = [] := List.eq_nil_of_length_eq_zero (by omega)
    subst hl
    rw [scanS_eq] at h ⊢
    simp only [skipS, contS, ScanRes.good.injEq] at h ⊢
    subst h
    exact ⟨_, rfl, rfl⟩
  | succ n ih =>
    intro l li co m hn h li' co'
    rw [scanS_eq] at h ⊢
    have hsk := skipS_len false l li co
    have hat := skipS_at false l li co li' co'
    rw [← hat]
    rcases hs : skipS false l li co with ⟨l', li2, co2⟩
    rw [hs] at h hsk
    cases l' with
    | nil =>
      simp only [contS, ScanRes.good.injEq] at h ⊢
      subst h
      exact ⟨_, rfl, rfl⟩
    | cons c r =>
      simp only [contS] at h ⊢
      simp only [List.length_cons] at hsk
      cases ht : tokS c r li2 co2 with
      | bad f' => rw [ht] at h; cases h
      | good t rest li3 co3 =>
        rw [ht] at h
        simp only [] at h
        have hlen := tokS_len ht
        obtain ⟨t', li4, co4, ht', hkey⟩ := tokS_at ht (skipS false l li' co').2.1 (skipS false l li' co').2.2
        rw [ht']
        simp only []
        cases hr : scanS rest li3 co3 with
        | bad f' => rw [hr] at h; cases h
        | good m' =>
          rw [hr] at h
          simp only [ScanRes.push, ScanRes.good.injEq] at h
          obtain ⟨m2, hm2, hk2⟩ := ih rest li3 co3 m' (by omega) hr li4 co4
          rw [hm2]
          subst h
          exact ⟨_, rfl, by simp [hkey, hk2]⟩
end Go.Proofs.Ytjaampgpihicmaa.Lex
namespace Go.Proofs.Ytjaampgpihicmaa.Syn
open Lex (Tok Flt)

theorem isS_last {ts : List Tok} {e : Tok} (he : Lex.key e = (4, [])) {s : List UInt8} {i : Nat} (h : isS (ts ++ [e]) i s = true) : i < ts.length := by
  rcases Nat.lt_or_ge i ts.length with h1 | h1
  · exact h1
  · exfalso
    have hl := lt_of_isS h
    simp at hl
    have : i = ts.length := by omega
    subst this
    have hk : e.kind = 4 := congrArg Prod.fst he
    simp [isS, tk, hk] at h
theorem tk_app {a b : List Tok} {i : Nat} (h : i < a.length) : tk (a ++ b) i = tk a i := by
  unfold tk
  rw [List.getD, List.getD, List.getElem?_append_left h]
theorem tk_app' {a b : List Tok} {i : Nat} : tk (a ++ b) (i + a.length) = tk b i := by
  unfold tk
  rw [List.getD, List.getD, List.getElem?_append_right (by omega), Nat.add_sub_cancel]
theorem tk_key {a b : List Tok} (h : a.map Lex.key = b.map Lex.key) (i : Nat) : keyOf (tk a i) = keyOf (tk b i) := by
  have h1 := congrArg (·[i]?) h
  simp only [List.getElem?_map] at h1
  unfold tk
  rw [List.getD, List.getD]
  cases ha : a[i]? with
  | none =>
    cases hb : b[i]? with
    | none => rfl
    | some y => rw [ha, hb] at h1; simp at h1
  | some x =>
    cases hb : b[i]? with
    | none => rw [ha, hb] at h1; simp at h1
    | some y =>
      rw [ha, hb] at h1
      simpa [keyOf, Lex.key] using h1
/-- A grammar's text that is one, in parts. -/
structure Read (T : List Tok) (st : List UInt8) (rs : List (List UInt8 × Nod)) (i j : Nat) : Prop where
  head : (i = 0 ∧ st = [] ∧ isS T 0 [37] = false) ∨ (i = 3 ∧ isS T 0 [37] = true ∧ (tk T 1).kind = 1 ∧ st = (tk T 1).text ∧ isS T 2 [59] = true)
  rules : RulesAt T i rs j
  last : (tk T j).kind = 4
  some : rs ≠ []
  most : rs.length ≤ 64
theorem parseT_read {T : List Tok} {st : List UInt8} {rs : List (List UInt8 × Nod)} (h : parseT T = .ok st rs) : ∃ st0 i j, Read T st0 rs i j ∧ st = startOr st0 rs := by
  unfold parseT at h
  cases hh : headS T with
  | bad f => rw [hh] at h; cases h
  | ok st0 i o =>
    rw [hh] at h
    simp only [] at h
    have hhead : (i = 0 ∧ st0 = [] ∧ isS T 0 [37] = false) ∨ (i = 3 ∧ isS T 0 [37] = true ∧ (tk T 1).kind = 1 ∧ st0 = (tk T 1).text ∧ isS T 2 [59] = true) := by
      unfold headS at hh
      split at hh
      · cases hh
      split at hh
      · rename_i hs
        cases hn : nameS T 1 0 with
        | bad f => rw [hn] at hh; cases hh
        | ok nm i1 o1 =>
          rw [hn] at hh
          simp only [] at hh
          obtain ⟨a1, a2, rfl, rfl⟩ := nameS_ok hn
          cases ht : takeS T [59] (1 + 1) 0 with
          | bad f => rw [ht] at hh; cases hh
          | ok u i2 o2 =>
            rw [ht] at hh
            simp only [] at hh
            obtain ⟨b1, rfl, rfl⟩ := takeS_ok ht
            cases hh
            exact .inr ⟨rfl, hs, a1, a2, b1⟩
      · rename_i hs
        cases hh
        exact .inl ⟨rfl, rfl, by simpa using hs⟩
    cases hr : rulesF T (5 * T.length + 6) [] i 0 with
    | none => rw [hr] at h; cases h
    | some r =>
      rw [hr] at h
      cases r with
      | bad f => cases h
      | ok rs' j p =>
        simp only [PRes.ok.injEq] at h
        obtain ⟨rfl, rfl⟩ := h
        obtain ⟨xs, h1, h2, h3, h4, h5, _⟩ := rulesF_ok hr
        simp only [List.nil_append] at h1
        subst h1
        exact ⟨st0, i, j, ⟨hhead, h2, h3, h4, h5 (by simp)⟩, rfl⟩
theorem parseT_of {T : List Tok} {st : List UInt8} {rs : List (List UInt8 × Nod)} {i j : Nat} (h : Read T st rs i j) (hj : j ≤ T.length) (hT : T.length ≤ 4096) : parseT T = .ok (startOr st rs) rs := by
  have hfar : ∀ k, k ≤ j → far T k = false := fun k hk => by
    rcases Nat.lt_or_ge k 4096 with h1 | h1
    · exact far_small h1
    · unfold far
      rw [tk_end (by omega)]
      simp
  have hle := RulesAt.le h.rules
  have hf0 := hfar 0 (by omega)
  have hhead : headS T = .ok st i 0 := by
    unfold headS
    rw [hf0, if_neg (by decide)]
    rcases h.head with ⟨rfl, rfl, hs⟩ | ⟨rfl, hs, hk, rfl, hs2⟩
    · rw [hs, if_neg (by decide)]
    · rw [if_pos hs]
      have h1 : nameS T 1 0 = .ok (tk T 1).text 2 0 := by
        unfold nameS
        rw [hfar 1 (by omega), if_neg (by decide), if_pos hk]
      have h2 : takeS T [59] 2 0 = .ok () 3 0 := by
        unfold takeS
        rw [hfar 2 (by omega), if_neg (by decide), if_pos hs2]
      rw [h1]
      simp only []
      rw [h2]
  unfold parseT
  rw [hhead]
  simp only []
  rw [rulesF_of (rs := []) h.rules h.last hj (by simpa using h.some) (by simpa using h.most) (by omega) (fun k _ hk => hfar k hk)]
  simp
theorem Read.end {ts : List Tok} {e : Tok} {st : List UInt8} {rs : List (List UInt8 × Nod)} {i j : Nat} (h : Read (ts ++ [e]) st rs i j) (he : Lex.key e = (4, [])) (hts : ∀ t ∈ ts, t.ok) : j = ts.length := by
  have hle := RulesAt.le h.rules
  have h1 := isS_last he (hle.2 h.some).2
  have hpos : 0 < rs.length := List.length_pos_iff.2 h.some
  have h2 : ¬ j < ts.length := fun hlt => by
    have hk := h.last
    rw [tk_app hlt] at hk
    have hm : tk ts j = ts[j] := by unfold tk; rw [List.getD, List.getElem?_eq_getElem hlt]; rfl
    rw [hm] at hk
    rcases hts _ (List.getElem_mem hlt) with h3 | h3 | h3
    · have := h3.1; omega
    · have := h3.1; omega
    · have := h3.1; omega
  omega
/-- Two texts, one behind the other. -/
theorem parse_join {a b sa sb : List UInt8} {ra rb : List (List UInt8 × Nod)} {m : List Tok} (ha : parseS a = .ok sa ra) (hb : parseS b = .ok sb rb) (hla : a.length ≤ 500) (hlb : b.length ≤ 500) (hn : ra.length + rb.length ≤ 64)
    (hm : Lex.scan b = .good m) (hp : (tk m 0).text ≠ [37]) : parseS (a ++ 10 :: b) = .ok sa (ra ++ rb) := by
  unfold parseS at ha hb
  cases hsa : Lex.scan a with
  | bad f => rw [hsa] at ha; cases ha
  | good l =>
    rw [hsa] at ha
    rw [hm] at hb
    simp only [] at ha hb
    obtain ⟨ts, le, ce, hl, hj⟩ := Lex.scan_join (by omega) hsa hm
    obtain ⟨ts1, e1, hl1, he1, hok1, hlen1⟩ := Lex.scan_ok hsa
    obtain ⟨ts2, e2, hl2, he2, hok2, hlen2⟩ := Lex.scan_ok hm
    rw [hl1] at hl
    have hts : ts1 = ts := by
      have := congrArg List.dropLast hl
      simpa using this
    subst hts
    subst hl1
    subst hl2
    obtain ⟨st0, i, j, hra, rfl⟩ := parseT_read ha
    obtain ⟨st1, i1, j1, hrb, _⟩ := parseT_read hb
    have hja := hra.end he1 hok1
    have hjb := hrb.end he2 hok2
    subst hja hjb
    have hi1 : i1 = 0 := by
      rcases hrb.head with ⟨h, _⟩ | ⟨_, hs, _⟩
      · exact h
      · exfalso
        unfold isS at hs
        simp at hs
        exact hp hs.2
    subst hi1
    have hT := hj
    obtain ⟨T, hTe⟩ : ∃ T, T = ts1 ++ (ts2 ++ [e2]).map (Lex.Tok.down le) := ⟨_, rfl⟩
    rw [← hTe] at hT
    have hlenT : T.length = ts1.length + ts2.length + 1 := by rw [hTe]; simp; omega
    have hA : ∀ k, k < ts1.length → keyOf (tk T (k + 0)) = keyOf (tk (ts1 ++ [e1]) k) := fun k hk => by
      rw [hTe, Nat.add_zero, tk_app hk, tk_app hk]
    have hB : ∀ k, keyOf (tk T (k + ts1.length)) = keyOf (tk (ts2 ++ [e2]) k) := fun k => by
      rw [hTe, tk_app']
      refine tk_key ?_ k
      rw [List.map_map]
      rfl
    have hle1 := RulesAt.le hra.rules
    have hle2 := RulesAt.le hrb.rules
    have hpos1 : 0 < ra.length := List.length_pos_iff.2 hra.some
    have hr1 := hra.rules.agree (T' := T) (d := 0) (fun k _ hk => ⟨hA k (by omega), by omega⟩)
    have hr2 := hrb.rules.agree (T' := T) (d := ts1.length) (fun k _ hk => ⟨hB k, by omega⟩)
    simp only [Nat.add_zero] at hr1
    rw [Nat.zero_add] at hr2
    have hkA : ∀ k, k < ts1.length → (tk T k).kind = (tk (ts1 ++ [e1]) k).kind ∧ (tk T k).text = (tk (ts1 ++ [e1]) k).text := fun k hk => ⟨congrArg Prod.fst (hA k hk), congrArg Prod.snd (hA k hk)⟩
    have hread : Read T st0 (ra ++ rb) i (ts2.length + ts1.length) := by
      refine ⟨?_, hr1.app hr2, ?_, by simp [hra.some], by simp; omega⟩
      · rcases hra.head with ⟨h1, h2, h3⟩ | ⟨h1, h2, h3, h4, h5⟩
        · refine .inl ⟨h1, h2, ?_⟩
          unfold isS at h3 ⊢
          rw [(hkA 0 (by omega)).1, (hkA 0 (by omega)).2]
          exact h3
        · have := isS_last he1 h5
          refine .inr ⟨h1, ?_, ?_, ?_, ?_⟩
          · unfold isS at h2 ⊢
            rw [(hkA 0 (by omega)).1, (hkA 0 (by omega)).2]
            exact h2
          · rw [(hkA 1 (by omega)).1]; exact h3
          · rw [(hkA 1 (by omega)).2]; exact h4
          · unfold isS at h5 ⊢
            rw [(hkA 2 (by omega)).1, (hkA 2 (by omega)).2]
            exact h5
      · have := congrArg Prod.fst (hB ts2.length)
        exact this.trans hrb.last
    have hfin := parseT_of hread (by omega) (by omega)
    unfold parseS
    rw [hT]
    simp only []
    rw [hfin]
    congr 1
    unfold startOr
    split
    · cases ra with
      | nil => exact absurd rfl hra.some
      | cons x xs => rfl
    · rfl
/-- A start that is named ahead. -/
theorem parse_start {nm s st : List UInt8} {rs : List (List UInt8 × Nod)} {m : List Tok} (hnm : (∃ c r, nm = c :: r ∧ Lex.isLetter c = true) ∧ (∀ c ∈ nm, Lex.isRest c = true) ∧ nm.length ≤ 32) (hs : parseS s = .ok st rs) (hls : s.length ≤ 500)
    (hm : Lex.scan s = .good m) (hp : (tk m 0).text ≠ [37]) : parseS (37 :: (nm ++ 59 :: s)) = .ok nm rs := by
  obtain ⟨⟨c, r, rfl, hc⟩, hrest, hlen⟩ := hnm
  unfold parseS at hs
  rw [hm] at hs
  simp only [] at hs
  obtain ⟨ts2, e2, hl2, he2, hok2, hlen2⟩ := Lex.scan_ok hm
  subst hl2
  obtain ⟨st1, i1, j1, hrb, _⟩ := parseT_read hs
  have hjb := hrb.end he2 hok2
  subst hjb
  have hi1 : i1 = 0 := by
    rcases hrb.head with ⟨h, _⟩ | ⟨_, hs, _⟩
    · exact h
    · exfalso
      unfold isS at hs
      simp at hs
      exact hp hs.2
  subst hi1
  have hm' : Lex.scanS s 1 1 = .good (ts2 ++ [e2]) := by
    unfold Lex.scan at hm
    rw [if_neg (by omega)] at hm
    exact hm
  obtain ⟨m', hm2, hk2⟩ := Lex.scanS_at s.length s 1 1 _ (Nat.le_refl _) hm' 1 (1 + 1 + (c :: r).length + 1)
  have hcb : Lex.isBlank c = false ∧ c ≠ 35 := by
    unfold Lex.isLetter Lex.letterZ at hc
    simp only [Bool.or_eq_true, Bool.and_eq_true, decide_eq_true_eq] at hc
    constructor
    · rw [Bool.eq_false_iff]
      intro hb
      simp only [Lex.isBlank, Bool.or_eq_true, beq_iff_eq] at hb
      rcases hb with ((rfl | rfl) | rfl) | rfl <;> simp at hc
    · rintro rfl
      simp at hc
  have hpre := Lex.takeWhile_pre Lex.isRest (59 :: s) ⟨by rw [List.takeWhile_cons, if_neg (by decide)], by rw [List.dropWhile_cons, if_neg (by decide)]⟩ (c :: r) hrest
  have hsc : Lex.scan (37 :: ((c :: r) ++ 59 :: s)) = .good (⟨3, [37], 1, 1⟩ :: ⟨1, c :: r, 1, 1 + 1⟩ :: ⟨3, [59], 1, 1 + 1 + (c :: r).length⟩ :: m') := by
    unfold Lex.scan
    rw [if_neg (by simp at hlen; simp; omega)]
    rw [Lex.scanS_eq]
    have e1 : Lex.skipS false (37 :: ((c :: r) ++ 59 :: s)) 1 1 = (37 :: ((c :: r) ++ 59 :: s), 1, 1) := by simp [Lex.skipS, Lex.isBlank]
    rw [e1]
    simp only [Lex.contS]
    have e2 : Lex.tokS 37 ((c :: r) ++ 59 :: s) 1 1 = .good ⟨3, [37], 1, 1⟩ ((c :: r) ++ 59 :: s) 1 (1 + 1) := by
      unfold Lex.tokS
      rw [if_neg (by decide), if_neg (by decide), if_pos (by decide)]
    rw [e2]
    simp only []
    rw [Lex.scanS_eq]
    have e3 : Lex.skipS false ((c :: r) ++ 59 :: s) 1 (1 + 1) = ((c :: r) ++ 59 :: s, 1, 1 + 1) := by
      rw [List.cons_append]
      simp only [Lex.skipS]
      rw [if_neg (by simp), hcb.1, if_neg (by decide), if_neg hcb.2]
    rw [e3, List.cons_append]
    simp only [Lex.contS]
    have e4 : Lex.tokS c (r ++ 59 :: s) 1 (1 + 1) = .good ⟨1, c :: r, 1, 1 + 1⟩ (59 :: s) 1 (1 + 1 + (c :: r).length) := by
      have hp1 := hpre.1
      have hp2 := hpre.2
      rw [List.cons_append] at hp1 hp2
      unfold Lex.tokS
      rw [if_pos hc, hp1, hp2, if_neg (by omega)]
    rw [e4]
    simp only []
    rw [Lex.scanS_eq]
    have e5 : Lex.skipS false (59 :: s) 1 (1 + 1 + (c :: r).length) = (59 :: s, 1, 1 + 1 + (c :: r).length) := by simp [Lex.skipS, Lex.isBlank]
    rw [e5]
    simp only [Lex.contS]
    have e6 : Lex.tokS 59 s 1 (1 + 1 + (c :: r).length) = .good ⟨3, [59], 1, 1 + 1 + (c :: r).length⟩ s 1 (1 + 1 + (c :: r).length + 1) := by
      unfold Lex.tokS
      rw [if_neg (by decide), if_neg (by decide), if_pos (by decide)]
    rw [e6]
    simp only []
    rw [hm2]
    rfl
  obtain ⟨T, hTe⟩ : ∃ T : List Tok, T = ⟨3, [37], 1, 1⟩ :: ⟨1, c :: r, 1, 1 + 1⟩ :: ⟨3, [59], 1, 1 + 1 + (c :: r).length⟩ :: m' := ⟨_, rfl⟩
  rw [← hTe] at hsc
  have hml : m'.length = ts2.length + 1 := by
    have := congrArg List.length hk2
    simpa using this
  have hlenT : T.length = ts2.length + 4 := by rw [hTe]; simp; omega
  have hB : ∀ k, keyOf (tk T (k + 3)) = keyOf (tk (ts2 ++ [e2]) k) := fun k => by
    rw [hTe]
    exact tk_key hk2 k
  have hr2 := hrb.rules.agree (T' := T) (d := 3) (fun k _ hk => ⟨hB k, by have := RulesAt.le hrb.rules; omega⟩)
  rw [Nat.zero_add] at hr2
  have hread : Read T (c :: r) rs 3 (ts2.length + 3) := by
    refine ⟨.inr ⟨rfl, ?_, ?_, ?_, ?_⟩, hr2, ?_, hrb.some, hrb.most⟩
    · rw [hTe]; rfl
    · rw [hTe]; rfl
    · rw [hTe]; rfl
    · rw [hTe]; rfl
    · exact (congrArg Prod.fst (hB ts2.length)).trans hrb.last
  have hfin := parseT_of hread (by omega) (by omega)
  unfold parseS
  rw [hsc]
  simp only []
  rw [hfin]
  rfl
end Go.Proofs.Ytjaampgpihicmaa.Syn
/- Plain mathematics of chapter 5 (syntax): what is read can be a text. -/
namespace Go.Proofs.Ytjaampgpihicmaa.Syn
open Lex (Tok Flt)

def goodL (l : List UInt8) : Bool := (decide (0 < l.length) && decide (l.length ≤ 32)) && ((l.head?.map Lex.isLetter).getD false && l.all Lex.isRest)
/-- May a node have so many kids, and such a text? -/
def fitN (k : Nat) (t : List UInt8) (n : Nat) : Bool :=
  if k = 1 then goodL t && n == 0 else if k = 2 then (t != [] && decide (t.length ≤ 16)) && n == 0
  else ((if k = 3 then n != 1 else if k = 4 then decide (1 < n) else (k == 5 || k == 6 || k == 7) && n == 1) && t == [])
/-- Nodes that can be in a text. -/
def Nd.proper : Nd → Bool
  | .nil => true
  | .cons k t kids r => (fitN k t kids.len && kids.proper) && r.proper
def Nod.proper (n : Nod) : Bool := fitN n.kind n.text n.kids.len && n.kids.proper
theorem Nod.row_proper (n : Nod) : n.row.proper = n.proper := by simp [Nod.row, Nd.proper, Nod.proper]
theorem Nd.proper_app : ∀ f g : Nd, (f.app g).proper = (f.proper && g.proper)
  | .nil, g => by simp [Nd.app, Nd.proper]
  | .cons a b k r, g => by simp only [Nd.app, Nd.proper]; rw [Nd.proper_app r g, Bool.and_assoc, Bool.and_assoc, Bool.and_assoc]
theorem pack3_proper {f : Nd} (h : f.proper = true) : (pack 3 f).proper = true := by
  match f, h with
  | .nil, _ => rfl
  | .cons a b c .nil, h => simpa [pack, Nd.proper, Nod.proper] using h
  | .cons a b c (.cons a' b' c' r), h =>
    have hl : (Nd.cons a b c (.cons a' b' c' r)).len ≠ 1 := by simp [Nd.len]
    unfold pack Nod.proper
    simp only [h, Bool.and_true, fitN]
    simp [hl]
theorem pack4_proper {f : Nd} (h : f.proper = true) (hn : 0 < f.len) : (pack 4 f).proper = true := by
  match f, h with
  | .nil, _ => simp [Nd.len] at hn
  | .cons a b c .nil, h => simpa [pack, Nd.proper, Nod.proper] using h
  | .cons a b c (.cons a' b' c' r), h =>
    have hl : 1 < (Nd.cons a b c (.cons a' b' c' r)).len := by simp [Nd.len]
    unfold pack Nod.proper
    simp only [h, Bool.and_true, fitN]
    simp [hl]
/-- Tokens that were scanned. -/
def Toks (T : List Tok) : Prop := ∀ i, ((tk T i).kind = 1 → goodL (tk T i).text = true) ∧ ((tk T i).kind = 2 → (tk T i).text ≠ [] ∧ (tk T i).text.length ≤ 16)
theorem Toks.of {T : List Tok} (h : ∃ ts e, T = ts ++ [e] ∧ Lex.key e = (4, []) ∧ ∀ t ∈ ts, t.ok) : Toks T := by
  obtain ⟨ts, e, rfl, he, hts⟩ := h
  have hek : e.kind = 4 := congrArg Prod.fst he
  intro i
  rcases Nat.lt_or_ge i ts.length with h1 | h1
  · have e1 : tk (ts ++ [e]) i = ts[i] := by rw [tk_app h1]; unfold tk; rw [List.getD, List.getElem?_eq_getElem h1]; rfl
    rw [e1]
    rcases hts _ (List.getElem_mem h1) with ⟨a, b, c, d, r, e2, e3⟩ | ⟨a, b, c⟩ | ⟨a, _⟩
    · refine ⟨fun _ => ?_, fun h => by omega⟩
      unfold goodL
      have hl : 0 < (ts[i]).text.length := by rw [e2]; simp
      have hh : (ts[i]).text.head? = some d := by rw [e2]; rfl
      have ha : (ts[i]).text.all Lex.isRest = true := List.all_eq_true.2 c
      simp [hl, b, hh, e3, ha]
    · exact ⟨fun h => by omega, fun _ => ⟨b, c⟩⟩
    · exact ⟨fun h => by omega, fun h => by omega⟩
  · have e1 : (tk (ts ++ [e]) i).kind = 4 := by
      rcases Nat.lt_or_ge i (ts.length + 1) with h2 | h2
      · have : i = 0 + ts.length := by omega
        rw [this, tk_app']
        exact hek
      · exact tk_end (by simp; omega)
    exact ⟨fun h => by omega, fun h => by omega⟩
theorem fit_wrap {k : Nat} (hk : k = 5 ∨ k = 6 ∨ k = 7) {n : Nod} (h : n.proper = true) : Nod.proper ⟨k, [], n.row⟩ = true := by
  have h1 : n.row.len = 1 := rfl
  have h2 : n.row.proper = true := by rw [Nod.row_proper]; exact h
  unfold Nod.proper fitN
  rcases hk with rfl | rfl | rfl <;> simp [h1, h2]
theorem sufS_proper {T : List Tok} {n m : Nod} {i o j p : Nat} (h : sufS T n i o = .ok m j p) (hn : n.proper = true) : m.proper = true := by
  unfold sufS at h
  split at h
  · cases h
  split at h
  · cases h; exact fit_wrap (.inl rfl) hn
  split at h
  · cases h; exact fit_wrap (.inr (.inl rfl)) hn
  split at h
  · cases h; exact fit_wrap (.inr (.inr rfl)) hn
  · cases h; exact hn
theorem parsed_proper {T : List Tok} (hT : Toks T) : ∀ f, (∀ i o n j p, altF T f i o = some (.ok n j p) → n.proper = true) ∧ (∀ rows i o n j p, rows.proper = true → 0 < rows.len → altM T f rows i o = some (.ok n j p) → n.proper = true) ∧
    (∀ items i o n j p, items.proper = true → rowF T f items i o = some (.ok n j p) → n.proper = true) ∧ (∀ i o n j p, atomF T f i o = some (.ok (some n) j p) → n.proper = true) ∧ (∀ e i o n j p, arndF T f e i o = some (.ok n j p) → n.proper = true)
  | 0 => ⟨fun _ _ _ _ _ h => by simp [altF] at h, fun _ _ _ _ _ _ _ _ h => by simp [altM] at h, fun _ _ _ _ _ _ _ h => by simp [rowF] at h, fun _ _ _ _ _ h => by simp [atomF] at h, fun _ _ _ _ _ _ h => by simp [arndF] at h⟩
  | f + 1 => by
    obtain ⟨h1, h2, h3, h4, h5⟩ := parsed_proper hT f
    refine ⟨?_, ?_, ?_, ?_, ?_⟩
    · intro i o n j p h
      rw [altF] at h
      obtain ⟨a, i', o', e1, e2⟩ := bind_ok h
      have ha := h3 _ _ _ _ _ _ rfl e1
      exact h2 _ _ _ _ _ _ (by rw [Nod.row_proper]; exact ha) (by simp [Nod.row, Nd.len]) e2
    · intro rows i o n j p hr hl h
      rw [altM] at h
      split at h
      · cases h
      split at h
      · obtain ⟨a, i', o', e1, e2⟩ := bind_ok h
        have ha := h3 _ _ _ _ _ _ rfl e1
        exact h2 _ _ _ _ _ _ (by rw [Nd.proper_app, hr, Nod.row_proper, ha]; rfl) (by rw [Nd.len_app]; omega) e2
      · cases h
        exact pack4_proper hr hl
    · intro items i o n j p hr h
      rw [rowF] at h
      obtain ⟨a, i', o', e1, e2⟩ := bind_ok h
      cases a with
      | none =>
        cases e2
        exact pack3_proper hr
      | some m =>
        have hm := h4 _ _ _ _ _ e1
        obtain ⟨m', i2, o2, e4, e5⟩ := bind_ok' e2
        have hm' := sufS_proper e4 hm
        exact h3 _ _ _ _ _ _ (by rw [Nd.proper_app, hr, Nod.row_proper, hm']; rfl) e5
    · intro i o n j p h
      rw [atomF] at h
      split at h
      · cases h
      split at h
      · rename_i hk
        cases h
        simp [Nod.proper, fitN, Nd.len, Nd.proper, (hT i).1 hk]
      split at h
      · rename_i hk
        cases h
        have := (hT i).2 hk
        simp [Nod.proper, fitN, Nd.len, Nd.proper, this]
      split at h
      · obtain ⟨a, i', o', e1, e2⟩ := bind_ok h
        cases e2
        exact h5 _ _ _ _ _ _ e1
      split at h
      · obtain ⟨a, i', o', e1, e2⟩ := bind_ok h
        cases e2
        exact fit_wrap (.inl rfl) (h5 _ _ _ _ _ _ e1)
      split at h
      · obtain ⟨a, i', o', e1, e2⟩ := bind_ok h
        cases e2
        exact fit_wrap (.inr (.inl rfl)) (h5 _ _ _ _ _ _ e1)
      · cases h
    · intro e i o n j p h
      rw [arndF] at h
      split at h
      · cases h
      obtain ⟨a, i', o', e1, e2⟩ := bind_ok h
      obtain ⟨u, i2, o2, e3, e4⟩ := bind_ok' e2
      cases e4
      exact h1 _ _ _ _ _ e1
theorem rules_proper {T : List Tok} (hT : Toks T) : ∀ {xs : List (List UInt8 × Nod)} {i j : Nat}, RulesAt T i xs j → ∀ x ∈ xs, goodL x.1 = true ∧ x.2.proper = true
  | [], _, _, _, x, hx => by simp at hx
  | y :: ys, i, j, ⟨k, ⟨f, h1⟩, h2⟩, x, hx => by
    obtain ⟨q, e0, e1, _, _, e3, _, _, _⟩ := ruleS_parts h1
    rcases List.mem_cons.1 hx with rfl | hx
    · exact ⟨by rw [e1]; exact (hT i).1 e0, (parsed_proper hT f).1 _ _ _ _ _ e3⟩
    · exact rules_proper hT h2 x hx
/-- A text's grammar can be a text. -/
theorem parse_proper {l st : List UInt8} {rs : List (List UInt8 × Nod)} (h : parseS l = .ok st rs) : goodL st = true ∧ rs ≠ [] ∧ rs.length ≤ 64 ∧ ∀ x ∈ rs, goodL x.1 = true ∧ x.2.proper = true := by
  unfold parseS at h
  cases hs : Lex.scan l with
  | bad f => rw [hs] at h; cases h
  | good T =>
    rw [hs] at h
    simp only [] at h
    obtain ⟨ts, e, h1, h2, h3, _⟩ := Lex.scan_ok hs
    have hT : Toks T := Toks.of ⟨ts, e, h1, h2, h3⟩
    obtain ⟨st0, i, j, hr, rfl⟩ := parseT_read h
    have hp := rules_proper hT hr.rules
    refine ⟨?_, hr.some, hr.most, hp⟩
    unfold startOr
    split
    · cases rs with
      | nil => exact absurd rfl hr.some
      | cons x xs => exact (hp x (List.mem_cons_self ..)).1
    · rename_i hne
      rcases hr.head with ⟨_, h4, _⟩ | ⟨_, _, h4, h5, _⟩
      · exact absurd h4 hne
      · rw [h5]; exact (hT 1).1 h4
end Go.Proofs.Ytjaampgpihicmaa.Syn
