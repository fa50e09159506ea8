/- Plain mathematics of chapter 6 (format): a grammar's text, read again. No program in sight. -/
import Derived.Test.YtjaampgpihicmaaFmtBound
namespace Go.Proofs.Ytjaampgpihicmaa.Fmt
open Lex (Tok)
open Syn (Nd Nod tk isS far altF nameS takeS RuleAt RulesAt startOr parseT parseS headS rulesF)

/-- A rule as text, as keys. -/
def ruleG (x : List UInt8 × Nod) : List Gl := .tok 1 x.1 :: sg 58 :: .bl 32 :: ((en x.2).put ++ [sg 59, .bl 10])
def keyRule (x : List UInt8 × Nod) : List (Nat × List UInt8) := (1, x.1) :: (3, [58]) :: (keysG (en x.2).put ++ [(3, [59])])
theorem keys_rule (x : List UInt8 × Nod) : keysG (ruleG x) = keyRule x := by simp [ruleG, keyRule, keysG, sg, Gl.keys]
def firstN (rs : List (List UInt8 × Nod)) : List UInt8 := (rs.head?.map Prod.fst).getD []
def startG (st : List UInt8) : List Gl := [sg 37, .tok 1 st, sg 59, .bl 10]
def headG (st : List UInt8) (rs : List (List UInt8 × Nod)) : List Gl := if st = firstN rs then [] else startG st
/-- A grammar's text. -/
def textG (st : List UInt8) (rs : List (List UInt8 × Nod)) : List Gl := headG st rs ++ rs.flatMap ruleG
theorem keys_rules (rs : List (List UInt8 × Nod)) : keysG (rs.flatMap ruleG) = rs.flatMap keyRule := by
  induction rs with
  | nil => rfl
  | cons x r ih => rw [List.flatMap_cons, keysG_app, keys_rule, ih, List.flatMap_cons]
section
variable {T : List Tok} {i j : Nat}
theorem rule_at {x : List UInt8 × Nod} (hp : x.2.proper = true) (h : Has T i (keyRule x)) (hfar : ∀ k, k ≤ i + (keyRule x).length → far T k = false) (hd : (en x.2).dput ≤ 16) : RuleAt T i x (i + (keyRule x).length) := by
  have hl : (keyRule x).length = (keysG (en x.2).put).length + 3 := by simp [keyRule]
  rw [hl] at hfar ⊢
  have h1 := key_kind h.head
  have h2 := key_isS h.tail.head
  have h3 : Has T (i + 2) (keysG (en x.2).put) := h.tail.tail.left
  have h4 : Syn.keyOf (tk T (i + 2 + (keysG (en x.2).put).length)) = (3, [59]) := h.tail.tail.right.head
  have hf := hfar (i + 2 + (keysG (en x.2).put).length) (by omega)
  obtain ⟨h5, h6⟩ := close_sign h4 (by simp) hf
  obtain ⟨f, hf2⟩ := (good_node hp).put T (i + 2) 0 h3 h5 h6 (fun k hk => hfar k (by omega)) (by omega)
  refine ⟨f, ?_⟩
  rw [show i + ((keysG (en x.2).put).length + 3) = (i + 2 + (keysG (en x.2).put).length) + 1 by omega]
  refine Syn.ruleS_of ?_ ?_ hf2 ?_
  · unfold nameS
    rw [hfar i (by omega), if_neg (by simp), if_pos h1.1, h1.2]
  · unfold takeS
    rw [hfar (i + 1) (by omega), if_neg (by simp), if_pos h2]
  · unfold takeS
    rw [hf, if_neg (by simp), if_pos (key_isS h4)]
theorem rules_at : ∀ {rs : List (List UInt8 × Nod)} {i : Nat}, (∀ x ∈ rs, x.2.proper = true ∧ (en x.2).dput ≤ 16) → Has T i (rs.flatMap keyRule) → (∀ k, k ≤ i + (rs.flatMap keyRule).length → far T k = false) → RulesAt T i rs (i + (rs.flatMap keyRule).length)
  | [], i, _, _, _ => rfl
  | x :: r, i, hp, h, hfar => by
    rw [List.flatMap_cons] at h hfar ⊢
    rw [List.length_append, ← Nat.add_assoc] at hfar ⊢
    obtain ⟨h1, h2⟩ := hp x List.mem_cons_self
    exact ⟨_, rule_at h1 h.left (fun k hk => hfar k (by omega)) h2, rules_at (fun y hy => hp y (List.mem_cons_of_mem _ hy)) h.right hfar⟩
theorem has_map {ks : List (Nat × List UInt8)} (h : T.map Lex.key = ks) : Has T 0 ks := fun k x hx => by
  rw [← h, List.getElem?_map] at hx
  cases ht : T[k]? with
  | none => rw [ht] at hx; cases hx
  | some t =>
    rw [ht] at hx
    simp only [Option.map_some, Option.some.injEq] at hx
    rw [Nat.zero_add]
    unfold tk
    rw [List.getD, ht]
    exact hx
theorem parseT_far {st : List UInt8} {rs : List (List UInt8 × Nod)} (h : Syn.Read T st rs i j) (hj : j ≤ T.length) (hfar : ∀ k, k ≤ j → far T k = false) : parseT T = .ok (startOr st rs) rs := by
  have hle := RulesAt.le h.rules
  have hf0 := hfar 0 (by omega)
  have hhead : headS T = .ok st i 0 := by
    unfold headS
    rw [hf0, if_neg (by decide)]
    rcases h.head with ⟨rfl, rfl, hs⟩ | ⟨rfl, hs, hk, rfl, hs2⟩
    · rw [hs, if_neg (by decide)]
    · rw [if_pos hs]
      have h1 : nameS T 1 0 = .ok (tk T 1).text 2 0 := by
        unfold nameS
        rw [hfar 1 (by omega), if_neg (by decide), if_pos hk]
      have h2 : takeS T [59] 2 0 = .ok () 3 0 := by
        unfold takeS
        rw [hfar 2 (by omega), if_neg (by decide), if_pos hs2]
      rw [h1]
      simp only []
      rw [h2]
  unfold parseT
  rw [hhead]
  simp only []
  rw [Syn.rulesF_of (rs := []) h.rules h.last hj (by simpa using h.some) (by simpa using h.most) (by omega) (fun k _ hk => hfar k hk)]
  simp
/-- Tokens of a start that may be named, and of rules. -/
theorem keys_parse {st : List UInt8} {rs : List (List UInt8 × Nod)} {hk : List (Nat × List UInt8)} (hh : (hk = [] ∧ st = []) ∨ hk = [(3, [37]), (1, st), (3, [59])]) (hp : ∀ x ∈ rs, x.2.proper = true ∧ (en x.2).dput ≤ 16) (hne : rs ≠ []) (h64 : rs.length ≤ 64)
    (h : T.map Lex.key = hk ++ rs.flatMap keyRule ++ [(4, [])]) (hl : (hk ++ rs.flatMap keyRule).length ≤ 4096) : parseT T = .ok (startOr st rs) rs := by
  have hT : T.length = (hk ++ rs.flatMap keyRule).length + 1 := by
    have := congrArg List.length h
    rw [List.length_map, List.length_append, List.length_singleton] at this
    exact this
  have hhas := has_map h
  have hend := hhas.right.head
  rw [Nat.zero_add] at hend
  have hfar : ∀ k, k ≤ (hk ++ rs.flatMap keyRule).length → far T k = false := fun k hk' => by
    rcases Nat.lt_or_ge k 4096 with h1 | h1
    · exact Syn.far_small h1
    · have e : k = (hk ++ rs.flatMap keyRule).length := by omega
      unfold far
      rw [e, (key_kind hend).1]
      simp
  have hr := rules_at hp (Has.right hhas.left) (by rw [Nat.zero_add, ← List.length_append]; exact hfar)
  rw [Nat.zero_add] at hr
  refine parseT_far (i := hk.length) (j := hk.length + (rs.flatMap keyRule).length) ⟨?_, hr, ?_, hne, h64⟩ (by rw [hT, List.length_append]; omega) (by rw [← List.length_append]; exact hfar)
  · rcases hh with ⟨rfl, rfl⟩ | rfl
    · refine .inl ⟨rfl, rfl, ?_⟩
      cases rs with
      | nil => exact absurd rfl hne
      | cons x r =>
        have h1 : Syn.keyOf (tk T 0) = (1, x.1) := hhas 0 (1, x.1) rfl
        unfold isS
        rw [(key_kind h1).1]
        rfl
    · have h0 : Syn.keyOf (tk T 0) = (3, [37]) := hhas 0 _ rfl
      have h1 : Syn.keyOf (tk T 1) = (1, st) := hhas 1 _ rfl
      have h2 : Syn.keyOf (tk T 2) = (3, [59]) := hhas 2 _ rfl
      exact .inr ⟨rfl, key_isS h0, (key_kind h1).1, (key_kind h1).2.symm, key_isS h2⟩
  · rw [← List.length_append]
    exact (key_kind hend).1
theorem rule_bd {x : List UInt8 × Nod} (h : RuleAt T i x j) : Bd T i j 0 (keyRule x).length (en x.2).dput := by
  obtain ⟨f, h⟩ := h
  obtain ⟨k, h1, _, _, h3, h4, h5, rfl, _⟩ := Syn.ruleS_parts h
  obtain ⟨h6, -⟩ := Syn.takeS_ok h3
  obtain ⟨h7, -⟩ := Syn.takeS_ok h5
  obtain ⟨-, hb⟩ := (bd_all T f).alt _ _ _ _ _ h4
  have b1 : Bd T i (i + 1) 0 1 0 := Bd.one (by unfold Syn.keyOf; exact Dep.one (.inl (by omega)))
  have b2 : Bd T (i + 1) (i + 2) 0 1 0 := Bd.one (by rw [key_of_isS h6]; exact Dep.one (.inr (by decide)))
  have b3 : Bd T k (k + 1) 0 1 0 := Bd.one (by rw [key_of_isS h7]; exact Dep.one (.inr (by decide)))
  refine (((b1.app b2).app hb).app b3).mono ?_ (by omega)
  have : (keyRule x).length = (en x.2).lp + 3 := by simp [keyRule, En.lp]
  omega
theorem rules_bd : ∀ {rs : List (List UInt8 × Nod)} {i : Nat}, RulesAt T i rs j → Bd T i j 0 (rs.flatMap keyRule).length (maxL (rs.map fun x => (en x.2).dput))
  | [], i, h => by
    have h : i = j := h
    subst h
    exact Bd.nil
  | x :: r, i, h => by
    obtain ⟨k, h1, h2⟩ := h
    rw [List.flatMap_cons, List.length_append]
    exact (rule_bd h1).app (rules_bd h2)
end
theorem le_maxL : ∀ {l : List Nat} {a : Nat}, a ∈ l → a ≤ maxL l
  | b :: r, a, h => by
    show a ≤ max b (maxL r)
    rcases List.mem_cons.1 h with rfl | h
    · omega
    · have := le_maxL h
      omega
theorem dep_rules : ∀ rs : List (List UInt8 × Nod), Dep (rs.flatMap keyRule) (maxL (rs.map fun x => (en x.2).dput))
  | [] => Dep.nil
  | x :: r => by
    rw [List.flatMap_cons]
    refine Dep.app ?_ (dep_rules r)
    exact (Dep.one (k := 1) (t := x.1) (.inl (by decide))).zero' ((Dep.one (k := 3) (t := [58]) (.inr (by decide))).zero' ((en_dep x.2).1.zero (Dep.one (.inr (by decide)))))
/-- How deep the brackets of tokens are. -/
def deepT (T : List Tok) : Int := (foldD (T.map Lex.key) (0, 0)).2
theorem deep_of {T : List Tok} {ks : List (Nat × List UInt8)} {d : Nat} (h : T.map Lex.key = ks ++ [(4, [])]) (hd : Dep ks d) : deepT T = d := by
  unfold deepT
  rw [h, foldD_app, hd 0 0 (Int.le_refl _)]
  show (stepD (0, max 0 (0 + (d : Int))) (4, [])).2 = _
  unfold stepD
  simp <;> omega
def En.okk (e : En) : Prop := okG e.put ∧ okG e.atom
theorem En.item_ok {e : En} (h : e.okk) : okG e.item := by unfold En.item; split <;> first | exact okG_par (by decide) (by decide) h.1 | exact h.1
theorem En.row_ok {e : En} (h : e.okk) : okG e.row := by unfold En.row; split <;> first | exact okG_par (by decide) (by decide) h.1 | exact h.1
theorem hdE_ok {es : List En} (h : ∀ e ∈ es, e.okk) : (hdE es).okk := by
  cases es with
  | nil => exact ⟨okG_nil, okG_nil⟩
  | cons e r => exact h e List.mem_cons_self
theorem again_ok {e : En} (h : e.okk) {a b c : UInt8} (ha : a ∈ Lex.signs) (hb : b ∈ Lex.signs) (hc : c ∈ Lex.signs) : okG (e.again a b c) := by
  unfold En.again
  split
  · exact okG_app h.2 (okG_cons (sg_ok hb) okG_nil)
  · exact okG_par ha hc h.1
theorem putE_ok {k : Nat} {t : List UInt8} {es : List En} (hl : k = 1 ∨ k = 2 → (Gl.tok k t).ok) (h : ∀ e ∈ es, e.okk) : okG (putE k t es) := by
  have hd := hdE_ok h
  unfold putE
  split
  · rename_i hk
    exact okG_cons (hl hk) okG_nil
  · split
    · exact okG_join (by show Lex.isBlank 32 = true; decide) (fun l hl => by obtain ⟨e, he, rfl⟩ := List.mem_map.1 hl; exact En.item_ok (h e he))
    · split
      · exact okG_join (sg_ok (by decide)) (fun l hl => by obtain ⟨e, he, rfl⟩ := List.mem_map.1 hl; exact En.row_ok (h e he))
      · split
        · exact again_ok hd (by decide) (by decide) (by decide)
        · split
          · exact again_ok hd (by decide) (by decide) (by decide)
          · split
            · exact okG_app hd.2 (okG_cons (sg_ok (by decide)) okG_nil)
            · exact okG_nil
theorem atomE_ok {k : Nat} {t : List UInt8} {es : List En} (hl : k = 1 ∨ k = 2 → (Gl.tok k t).ok) (h : ∀ e ∈ es, e.okk) : okG (atomE k t es) := by
  have hd := hdE_ok h
  unfold atomE
  split
  · rename_i hk
    exact okG_cons (hl hk) okG_nil
  · split
    · exact okG_par (by decide) (by decide) hd.1
    · split
      · exact okG_par (by decide) (by decide) hd.1
      · exact okG_par (by decide) (by decide) (putE_ok hl h)
theorem ens_ok : ∀ f : Nd, f.proper = true → ∀ e ∈ ens f, e.okk
  | .nil, _, e, h => by cases h
  | .cons k t kids r, hp, e, h => by
    unfold Nd.proper at hp
    simp only [Bool.and_eq_true] at hp
    obtain ⟨⟨hf, hk⟩, hr⟩ := hp
    rw [ens] at h
    rcases List.mem_cons.1 h with rfl | h
    · have hl : k = 1 ∨ k = 2 → (Gl.tok k t).ok := fun hk12 => by
        unfold Syn.fitN at hf
        rcases hk12 with rfl | rfl
        · simp only [if_true, Bool.and_eq_true] at hf
          exact name_ok hf.1
        · rw [if_neg (by decide), if_pos rfl] at hf
          simp only [Bool.and_eq_true, bne_iff_ne, ne_eq, decide_eq_true_eq] at hf
          exact .inr (.inl ⟨rfl, hf.1.1, hf.1.2⟩)
      exact ⟨putE_ok hl (ens_ok kids hk), atomE_ok hl (ens_ok kids hk)⟩
    · exact ens_ok r hr e h
theorem okG_put {n : Nod} (h : n.proper = true) : okG (en n).put := (ens_ok n.row (by rw [Nod.row_proper]; exact h) _ (by rw [ens_row]; exact List.mem_singleton.2 rfl)).1
theorem ok_rules {rs : List (List UInt8 × Nod)} (hp : ∀ x ∈ rs, Syn.goodL x.1 = true ∧ x.2.proper = true) : okG (rs.flatMap ruleG) := fun g hg => by
  obtain ⟨x, hx, hg⟩ := List.mem_flatMap.1 hg
  obtain ⟨h1, h2⟩ := hp x hx
  exact okG_cons (show (Gl.tok 1 x.1).ok from name_ok h1) (okG_cons (sg_ok (by decide)) (okG_cons (by show Lex.isBlank 32 = true; decide) (okG_app (okG_put h2) (okG_cons (sg_ok (by decide)) (okG_cons (by show Lex.isBlank 10 = true; decide) okG_nil))))) g hg
theorem lastName_snoc (l : List Gl) (g : Gl) : lastName (l ++ [g]) = g.isName := by simp [lastName]
theorem apart_rule (x : List UInt8 × Nod) : apart (ruleG x) = true ∧ lastName (ruleG x) = false := by
  have e : ruleG x = (.tok 1 x.1 :: sg 58 :: .bl 32 :: ((en x.2).put ++ [sg 59])) ++ [.bl 10] := by simp [ruleG]
  constructor
  · rw [e]
    refine apart_end ?_ rfl
    refine apart_app (a := [.tok 1 x.1]) rfl (apart_cons (apart_cons (apart_end (en_apart x.2).1 (sg_name 59)) rfl) (sg_name 58)) ?_
    simp [headName, sg_name]
  · rw [e]
    exact lastName_snoc _ _
theorem apart_rules : ∀ rs : List (List UInt8 × Nod), apart (rs.flatMap ruleG) = true
  | [] => rfl
  | x :: r => by
    rw [List.flatMap_cons]
    obtain ⟨h1, h2⟩ := apart_rule x
    exact apart_app h1 (apart_rules r) (by rw [h2]; rfl)
theorem head_ok {st : List UInt8} (h : Syn.goodL st = true) (rs : List (List UInt8 × Nod)) : okG (headG st rs) := by
  unfold headG
  split
  · exact okG_nil
  · exact okG_cons (sg_ok (by decide)) (okG_cons (show (Gl.tok 1 st).ok from name_ok h) (okG_cons (sg_ok (by decide)) (okG_cons (by show Lex.isBlank 10 = true; decide) okG_nil)))
theorem head_apart (st : List UInt8) (rs : List (List UInt8 × Nod)) : apart (headG st rs) = true ∧ lastName (headG st rs) = false := by
  unfold headG
  split
  · exact ⟨rfl, rfl⟩
  · exact ⟨rfl, rfl⟩
theorem text_ok {st : List UInt8} {rs : List (List UInt8 × Nod)} (h : Syn.goodL st = true) (hp : ∀ x ∈ rs, Syn.goodL x.1 = true ∧ x.2.proper = true) : okG (textG st rs) := okG_app (head_ok h rs) (ok_rules hp)
theorem text_apart (st : List UInt8) (rs : List (List UInt8 × Nod)) : apart (textG st rs) = true := by
  obtain ⟨h1, h2⟩ := head_apart st rs
  exact apart_app h1 (apart_rules rs) (by rw [h2]; rfl)
def headK (st : List UInt8) (rs : List (List UInt8 × Nod)) : List (Nat × List UInt8) := if st = firstN rs then [] else [(3, [37]), (1, st), (3, [59])]
theorem keys_text (st : List UInt8) (rs : List (List UInt8 × Nod)) : keysG (textG st rs) = headK st rs ++ rs.flatMap keyRule := by
  unfold textG
  rw [keysG_app, keys_rules]
  congr 1
  unfold headG headK
  split <;> rfl
/-- A grammar's text is read as the grammar. -/
theorem text_parse {st : List UInt8} {rs : List (List UInt8 × Nod)} (h : Syn.goodL st = true) (hp : ∀ x ∈ rs, Syn.goodL x.1 = true ∧ x.2.proper = true) (hd : ∀ x ∈ rs, (en x.2).dput ≤ 16) (hne : rs ≠ []) (h64 : rs.length ≤ 64) (hb : (bytesG (textG st rs)).length ≤ 65536) (hk : (keysG (textG st rs)).length ≤ 4096) :
    ∃ m, Lex.scan (bytesG (textG st rs)) = .good m ∧ m.map Lex.key = keysG (textG st rs) ++ [(4, [])] ∧ parseS (bytesG (textG st rs)) = .ok st rs := by
  obtain ⟨m, h1, h2⟩ := scan_gl (text_ok h hp) (text_apart st rs) hb
  refine ⟨m, h1, h2, ?_⟩
  unfold parseS
  rw [h1]
  show parseT m = _
  rw [keys_text] at h2 hk
  have hne' : st ≠ [] := by
    intro e
    rw [e] at h
    cases h
  by_cases e : st = firstN rs
  · have eh : headK st rs = [] := by unfold headK; rw [if_pos e]
    rw [eh] at h2 hk
    have := keys_parse (st := []) (hk := []) (.inl ⟨rfl, rfl⟩) (fun x hx => ⟨(hp x hx).2, hd x hx⟩) hne h64 h2 hk
    rw [this]
    unfold startOr
    rw [if_pos rfl, e]
    rfl
  · have eh : headK st rs = [(3, [37]), (1, st), (3, [59])] := by unfold headK; rw [if_neg e]
    rw [eh] at h2 hk
    have := keys_parse (st := st) (hk := [(3, [37]), (1, st), (3, [59])]) (.inr rfl) (fun x hx => ⟨(hp x hx).2, hd x hx⟩) hne h64 h2 hk
    rw [this]
    unfold startOr
    rw [if_neg hne']
theorem rules_far {T : List Tok} : ∀ {rs : List (List UInt8 × Nod)} {i j : Nat}, RulesAt T i rs j → rs ≠ [] → j ≤ 4096
  | [], _, _, _, h => absurd rfl h
  | x :: r, i, j, h, _ => by
    obtain ⟨k, h1, h2⟩ := h
    cases r with
    | nil =>
      have h2 : k = j := h2
      subst h2
      obtain ⟨f, h1⟩ := h1
      obtain ⟨q, _, _, _, _, _, h5, rfl, _⟩ := Syn.ruleS_parts h1
      unfold takeS at h5
      split at h5
      · cases h5
      · rename_i hf
        split at h5
        · rename_i hs
          have hk : (tk T q).kind = 3 := by unfold isS at hs; simp at hs; exact hs.1
          have hf : far T q = false := Bool.eq_false_iff.2 hf
          unfold far at hf
          rw [hk] at hf
          simp at hf
          omega
        · cases h5
    | cons y r => exact rules_far h2 (by simp)
theorem map_sgm (ts : List Tok) (e : Tok) : (ts ++ [e]).map Lex.key = sgm (ts ++ [e]) 0 ts.length ++ [Lex.key e] := by
  rw [List.map_append]
  congr 1
  unfold sgm
  rw [Nat.sub_zero]
  apply List.ext_getElem
  · simp
  · intro n h1 h2
    rw [List.length_map] at h1
    simp only [List.getElem_map, List.getElem_range', Nat.zero_add, Nat.one_mul]
    unfold tk
    rw [List.getD, List.getElem?_append_left h1, List.getElem?_eq_getElem h1]
    rfl
/-- What was read is written with no more tokens, and no deeper brackets. -/
theorem text_bound {T : List Tok} {s st : List UInt8} {rs : List (List UInt8 × Nod)} (hs : Lex.scan s = .good T) (hp : parseT T = .ok st rs) :
    (keysG (textG st rs)).length + 1 ≤ T.length ∧ (keysG (textG st rs)).length ≤ 4096 ∧ (∀ x ∈ rs, (en x.2).dput ≤ 16) ∧ ∃ d : Nat, Dep (keysG (textG st rs)) d ∧ (d : Int) ≤ deepT T := by
  obtain ⟨ts, e, rfl, he, hok, _⟩ := Lex.scan_ok hs
  obtain ⟨st0, i, j, hr, rfl⟩ := Syn.parseT_read hp
  have hj := hr.end he hok
  have hb := rules_bd hr.rules
  have h4096 := rules_far hr.rules hr.some
  have hlen : (ts ++ [e]).length = ts.length + 1 := by simp
  have hle := hb.le
  have hL := hb.len
  obtain ⟨D', hD, hdep⟩ := hb.dep
  have hd16 := hb.d16 (by omega)
  have hkl : (headK (startOr st0 rs) rs).length ≤ i ∧ Dep (headK (startOr st0 rs) rs) 0 ∧ Dep (sgm (ts ++ [e]) 0 i) 0 := by
    rcases hr.head with ⟨rfl, rfl, -⟩ | ⟨rfl, h1, h2, h3, h4⟩
    · have e1 : headK (startOr [] rs) rs = [] := by
        have e2 : startOr [] rs = firstN rs := by unfold startOr firstN; rw [if_pos rfl]
        unfold headK
        rw [if_pos e2]
      rw [e1, sgm_self]
      exact ⟨Nat.le_refl _, Dep.nil, Dep.nil⟩
    · have h3d : Dep (sgm (ts ++ [e]) 0 3) 0 := by
        rw [sgm_app (j := 1) (by omega) (by omega), sgm_app (i := 1) (j := 2) (by omega) (by omega), sgm_one, sgm_one, sgm_one, key_of_isS h1, key_of_isS h4]
        exact (Dep.one (.inr (by decide))).zero ((Dep.one (.inl (by show (tk (ts ++ [e]) 1).kind ≠ 3; omega))).zero (Dep.one (.inr (by decide))))
      unfold headK
      split
      · exact ⟨by simp, Dep.nil, h3d⟩
      · exact ⟨Nat.le_refl _, (Dep.one (k := 3) (t := [37]) (.inr (by decide))).zero ((Dep.one (k := 1) (.inl (by decide))).zero (Dep.one (k := 3) (t := [59]) (.inr (by decide)))), h3d⟩
  rw [keys_text, List.length_append]
  refine ⟨by omega, by omega, fun x hx => ?_, maxL (rs.map fun x => (en x.2).dput), hkl.2.1.zero' (dep_rules rs), ?_⟩
  · have := le_maxL (List.mem_map_of_mem (f := fun x : List UInt8 × Nod => (en x.2).dput) hx)
    have h : (en x.2).dput ≤ maxL (rs.map fun x => (en x.2).dput) := this
    omega
  · have h1 := map_sgm ts e
    rw [he] at h1
    rw [sgm_app (j := i) (by omega) (by omega), ← hj] at h1
    rw [deep_of h1 (hkl.2.2.zero' hdep)]
    omega
end Go.Proofs.Ytjaampgpihicmaa.Fmt
