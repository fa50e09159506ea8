/- Plain mathematics of chapter 6 (format): what is read and written again has no more tokens, and no deeper brackets. No program in sight. -/
import Derived.Test.YtjaampgpihicmaaFmtRead
namespace Go.Proofs.Ytjaampgpihicmaa.Fmt
open Lex (Tok)
open Syn (Nd Nod tk isS far altF altM rowF atomF arndF sufS takeS pack)

/-- Brackets that stand open, the most that did. -/
def stepD (x : Int × Int) (k : Nat × List UInt8) : Int × Int :=
  if k.1 ≠ 3 then x else
    let n := if k.2 = [40] ∨ k.2 = [91] ∨ k.2 = [123] then x.1 + 1 else if k.2 = [41] ∨ k.2 = [93] ∨ k.2 = [125] then x.1 - 1 else x.1
    (n, max x.2 n)
def foldD (ks : List (Nat × List UInt8)) (x : Int × Int) : Int × Int := ks.foldl stepD x
theorem foldD_app (a b : List (Nat × List UInt8)) (x : Int × Int) : foldD (a ++ b) x = foldD b (foldD a x) := by simp [foldD]
theorem foldD_cons (k : Nat × List UInt8) (b : List (Nat × List UInt8)) (x : Int × Int) : foldD (k :: b) x = foldD b (stepD x k) := rfl
theorem step_open {n m : Int} {a : UInt8} (ha : a = 40 ∨ a = 91 ∨ a = 123) : stepD (n, m) (3, [a]) = (n + 1, max m (n + 1)) := by
  unfold stepD
  rcases ha with rfl | rfl | rfl <;> simp
theorem step_close {n m : Int} {b : UInt8} (hb : b = 41 ∨ b = 93 ∨ b = 125) (h : n ≤ m) : stepD (n + 1, m) (3, [b]) = (n, m) := by
  unfold stepD
  rcases hb with rfl | rfl | rfl <;> simp <;> omega
theorem step_other {n m : Int} {k : Nat} {t : List UInt8} (h : k ≠ 3 ∨ (t ≠ [40] ∧ t ≠ [91] ∧ t ≠ [123] ∧ t ≠ [41] ∧ t ≠ [93] ∧ t ≠ [125])) (hm : n ≤ m) : stepD (n, m) (k, t) = (n, m) := by
  unfold stepD
  by_cases hk : k = 3
  · subst hk
    rcases h with h | ⟨h1, h2, h3, h4, h5, h6⟩
    · exact absurd rfl h
    · simp [h1, h2, h3, h4, h5, h6]
      omega
  · simp [hk]
/-- Keys in which brackets nest to a depth, none left open. -/
def Dep (ks : List (Nat × List UInt8)) (d : Nat) : Prop := ∀ n m : Int, n ≤ m → foldD ks (n, m) = (n, max m (n + d))
theorem Dep.nil : Dep [] 0 := fun n m h => by
  show (n, m) = _
  congr 1
  omega
theorem Dep.app {a b : List (Nat × List UInt8)} {d e : Nat} (ha : Dep a d) (hb : Dep b e) : Dep (a ++ b) (max d e) := fun n m h => by
  rw [foldD_app, ha n m h, hb n _ (by omega)]
  congr 1
  omega
theorem Dep.one {k : Nat} {t : List UInt8} (h : k ≠ 3 ∨ (t ≠ [40] ∧ t ≠ [91] ∧ t ≠ [123] ∧ t ≠ [41] ∧ t ≠ [93] ∧ t ≠ [125])) : Dep [(k, t)] 0 := fun n m hm => by
  show stepD (n, m) (k, t) = _
  rw [step_other h hm]
  congr 1
  omega
theorem Dep.par {a b : UInt8} {l : List Gl} {d : Nat} (ha : a = 40 ∨ a = 91 ∨ a = 123) (hb : b = 41 ∨ b = 93 ∨ b = 125) (h : Dep (keysG l) d) : Dep (keysG (par a l b)) (1 + d) := fun n m hm => by
  rw [keys_par, foldD_cons, step_open ha, foldD_app, h (n + 1) _ (by omega)]
  show stepD _ (3, [b]) = _
  rw [step_close hb (by omega)]
  congr 1
  omega
theorem Dep.zero {a b : List (Nat × List UInt8)} {d : Nat} (ha : Dep a d) (hb : Dep b 0) : Dep (a ++ b) d := by
  have := ha.app hb
  rwa [Nat.max_eq_left (Nat.zero_le _)] at this
theorem Dep.zero' {a b : List (Nat × List UInt8)} {d : Nat} (ha : Dep a 0) (hb : Dep b d) : Dep (a ++ b) d := by
  have := ha.app hb
  rwa [Nat.max_eq_right (Nat.zero_le _)] at this
def En.dep (e : En) : Prop := Dep (keysG e.put) e.dput ∧ Dep (keysG e.atom) e.datom
theorem En.dep_item {e : En} (h : e.dep) : Dep (keysG e.item) e.ditem := by
  unfold En.item En.ditem
  split
  · exact h.1.par (.inl rfl) (.inl rfl)
  · exact h.1
theorem En.dep_row {e : En} (h : e.dep) : Dep (keysG e.row) e.drow := by
  unfold En.row En.drow
  split
  · exact h.1.par (.inl rfl) (.inl rfl)
  · exact h.1
theorem dep_list {f : En → List (Nat × List UInt8)} {d : En → Nat} : ∀ {es : List En}, (∀ e ∈ es, Dep (f e) (d e)) → Dep (es.flatMap f) (maxL (es.map d))
  | [], _ => Dep.nil
  | e :: r, h => by
    rw [List.flatMap_cons]
    exact (h e List.mem_cons_self).app (dep_list (fun x hx => h x (List.mem_cons_of_mem _ hx)))
theorem dep_again {e : En} (h : e.dep) {a b c : UInt8} (ha : a = 40 ∨ a = 91 ∨ a = 123) (hb : b = 63 ∨ b = 42) (hc : c = 41 ∨ c = 93 ∨ c = 125) : Dep (keysG (e.again a b c)) e.dagain := by
  unfold En.again En.dagain
  split
  · rw [keys_end]
    exact h.2.zero (Dep.one (.inr (by rcases hb with rfl | rfl <;> decide)))
  · exact h.1.par ha hc
theorem hdE_dep {es : List En} (h : ∀ e ∈ es, e.dep) : (hdE es).dep := by
  cases es with
  | nil => exact ⟨Dep.nil, Dep.nil⟩
  | cons e r => exact h e List.mem_cons_self
theorem putE_dep {k : Nat} {t : List UInt8} {es : List En} (h : ∀ e ∈ es, e.dep) : Dep (keysG (putE k t es)) (putD k es) := by
  have hd := hdE_dep h
  unfold putE putD
  by_cases h1 : k = 1 ∨ k = 2
  · rw [if_pos h1, if_pos h1]
    exact Dep.one (.inl (by omega))
  · rw [if_neg h1, if_neg h1]
    by_cases h3 : k = 3
    · rw [if_pos h3, if_pos h3, keys_join_bl, List.flatMap_map]
      exact dep_list (fun e he => En.dep_item (h e he))
    · rw [if_neg h3, if_neg h3]
      by_cases h4 : k = 4
      · rw [if_pos h4, if_pos h4]
        cases es with
        | nil => exact Dep.nil
        | cons e r =>
          rw [List.map_cons, keys_join_sg, List.flatMap_map]
          exact (En.dep_row (h e List.mem_cons_self)).app (dep_list (f := fun e => (3, [124]) :: keysG e.row) (fun x hx => (Dep.one (k := 3) (t := [124]) (.inr (by decide))).zero' (En.dep_row (h x (List.mem_cons_of_mem _ hx)))))
      · rw [if_neg h4, if_neg h4]
        by_cases h5 : k = 5
        · rw [if_pos h5, if_pos (.inl h5)]
          exact dep_again hd (.inr (.inl rfl)) (.inl rfl) (.inr (.inl rfl))
        · rw [if_neg h5]
          by_cases h6 : k = 6
          · rw [if_pos h6, if_pos (.inr h6)]
            exact dep_again hd (.inr (.inr rfl)) (.inr rfl) (.inr (.inr rfl))
          · rw [if_neg h6, if_neg (show ¬ (k = 5 ∨ k = 6) by omega)]
            by_cases h7 : k = 7
            · rw [if_pos h7, if_pos h7, keys_end]
              exact hd.2.zero (Dep.one (.inr (by decide)))
            · rw [if_neg h7, if_neg h7]
              exact Dep.nil
theorem ens_dep : ∀ f : Nd, ∀ e ∈ ens f, e.dep
  | .nil, e, h => by cases h
  | .cons k t kids r, e, h => by
    rw [ens] at h
    rcases List.mem_cons.1 h with rfl | h
    · have hk := ens_dep kids
      have hd := hdE_dep hk
      refine ⟨putE_dep hk, ?_⟩
      show Dep (keysG (atomE k t (ens kids))) (atomD k (ens kids))
      unfold atomE atomD
      by_cases h1 : k = 1 ∨ k = 2
      · rw [if_pos h1, if_pos h1]
        exact Dep.one (.inl (by omega))
      · rw [if_neg h1, if_neg h1]
        by_cases h5 : k = 5
        · rw [if_pos h5, if_pos (.inl h5)]
          exact hd.1.par (.inr (.inl rfl)) (.inr (.inl rfl))
        · rw [if_neg h5]
          by_cases h6 : k = 6
          · rw [if_pos h6, if_pos (.inr h6)]
            exact hd.1.par (.inr (.inr rfl)) (.inr (.inr rfl))
          · rw [if_neg h6, if_neg (by omega)]
            exact (putE_dep hk).par (.inl rfl) (.inl rfl)
    · exact ens_dep r e h
theorem en_dep (n : Nod) : (en n).dep := ens_dep n.row _ (by rw [ens_row]; exact List.mem_singleton.2 rfl)

/-- Lengths of a node's texts: as an atom it is no shorter, and not much longer. -/
def En.lp (e : En) : Nat := (keysG e.put).length
def En.la (e : En) : Nat := (keysG e.atom).length
def En.li (e : En) : Nat := (keysG e.item).length
def En.lr (e : En) : Nat := (keysG e.row).length
theorem len_par (a b : UInt8) (l : List Gl) : (keysG (par a l b)).length = (keysG l).length + 2 := by rw [keys_par]; simp
theorem li_eq (e : En) : e.li = if e.kind = 3 ∨ e.kind = 4 then e.lp + 2 else e.lp := by unfold En.li En.item En.lp; split <;> first | exact len_par _ _ _ | exact rfl
theorem lr_eq (e : En) : e.lr = if e.kind = 4 then e.lp + 2 else e.lp := by unfold En.lr En.row En.lp; split <;> first | exact len_par _ _ _ | exact rfl
structure En.nice (e : En) : Prop where
  pa : e.lp ≤ e.la ∧ e.la ≤ e.lp + 2
  sm : e.kind = 1 ∨ e.kind = 2 ∨ e.kind = 5 ∨ e.kind = 6 → e.la ≤ e.lp + 1
  big : e.kind ≠ 1 → e.kind ≠ 2 → e.kind ≠ 5 → e.kind ≠ 6 → e.la = e.lp + 2
  dpa : e.dput ≤ e.datom ∧ e.datom ≤ e.dput + 1
  dbig : e.kind ≠ 1 → e.kind ≠ 2 → e.kind ≠ 5 → e.kind ≠ 6 → e.datom = e.dput + 1
theorem again_len {e : En} (a b c : UInt8) : (keysG (e.again a b c)).length = if e.kind = 1 ∨ e.kind = 2 ∨ e.kind = 5 ∨ e.kind = 6 then e.la + 1 else e.lp + 2 := by
  unfold En.again
  split
  · rw [keys_end]; simp [En.la]
  · exact len_par _ _ _
theorem nice_of {k : Nat} {t : List UInt8} {es : List En} (h : ∀ e ∈ es, e.nice) : (enE k t es).nice := by
  by_cases h1 : k = 1 ∨ k = 2
  · have e1 : (enE k t es).lp = 1 := by show (keysG (putE k t es)).length = 1; unfold putE; rw [if_pos h1]; rfl
    have e2 : (enE k t es).la = 1 := by show (keysG (atomE k t es)).length = 1; unfold atomE; rw [if_pos h1]; rfl
    have e3 : (enE k t es).dput = 0 := by show putD k es = 0; unfold putD; rw [if_pos h1]
    have e4 : (enE k t es).datom = 0 := by show atomD k es = 0; unfold atomD; rw [if_pos h1]
    exact ⟨by omega, fun _ => by omega, fun a b _ _ => absurd h1 (by rintro (h | h) <;> first | exact a h | exact b h), by omega, fun a b _ _ => absurd h1 (by rintro (h | h) <;> first | exact a h | exact b h)⟩
  · by_cases h56 : k = 5 ∨ k = 6
    · cases es with
      | nil =>
        have e1 : (enE k t []).lp = 2 := by show (keysG (putE k t [])).length = 2; unfold putE; rcases h56 with rfl | rfl <;> rfl
        have e2 : (enE k t []).la = 2 := by show (keysG (atomE k t [])).length = 2; unfold atomE; rcases h56 with rfl | rfl <;> rfl
        have e3 : (enE k t []).dput = 1 := by show putD k [] = 1; unfold putD; rcases h56 with rfl | rfl <;> rfl
        have e4 : (enE k t []).datom = 1 := by show atomD k [] = 1; unfold atomD; rcases h56 with rfl | rfl <;> rfl
        exact ⟨by omega, fun _ => by omega, fun _ _ a b => absurd h56 (by rintro (h | h) <;> first | exact a h | exact b h), by omega, fun _ _ a b => absurd h56 (by rintro (h | h) <;> first | exact a h | exact b h)⟩
      | cons e r =>
        have he := h e List.mem_cons_self
        have e1 : (enE k t (e :: r)).lp = if e.kind = 1 ∨ e.kind = 2 ∨ e.kind = 5 ∨ e.kind = 6 then e.la + 1 else e.lp + 2 := by
          show (keysG (putE k t (e :: r))).length = _
          unfold putE
          rcases h56 with rfl | rfl
          · exact again_len 91 63 93
          · exact again_len 123 42 125
        have e2 : (enE k t (e :: r)).la = e.lp + 2 := by
          show (keysG (atomE k t (e :: r))).length = _
          unfold atomE
          rcases h56 with rfl | rfl
          · exact len_par 91 93 e.put
          · exact len_par 123 125 e.put
        have e3 : (enE k t (e :: r)).dput = e.dagain := by show putD k (e :: r) = _; unfold putD; rcases h56 with rfl | rfl <;> rfl
        have e4 : (enE k t (e :: r)).datom = 1 + e.dput := by show atomD k (e :: r) = _; unfold atomD; rcases h56 with rfl | rfl <;> rfl
        have hpa := he.pa
        have hsm := he.sm
        have hdpa := he.dpa
        unfold En.dagain at e3
        refine ⟨?_, fun _ => ?_, fun _ _ a b => absurd h56 (by rintro (h | h) <;> first | exact a h | exact b h), ?_, fun _ _ a b => absurd h56 (by rintro (h | h) <;> first | exact a h | exact b h)⟩
        · rw [e1, e2]
          split
          · rename_i hc
            have := hsm hc
            omega
          · omega
        · rw [e1, e2]
          split <;> omega
        · rw [e3, e4]
          split <;> omega
    · have e2 : (enE k t es).la = (enE k t es).lp + 2 := by
        show (keysG (atomE k t es)).length = _
        unfold atomE
        rw [if_neg h1, if_neg (by omega), if_neg (by omega)]
        exact len_par 40 41 _
      have e4 : (enE k t es).datom = 1 + (enE k t es).dput := by
        show atomD k es = _
        unfold atomD
        rw [if_neg h1, if_neg h56]
        rfl
      exact ⟨by omega, fun hc => absurd hc (by show ¬ (k = 1 ∨ k = 2 ∨ k = 5 ∨ k = 6); omega), fun _ _ _ _ => e2, by omega, fun _ _ _ _ => by omega⟩
theorem ens_nice : ∀ f : Nd, ∀ e ∈ ens f, e.nice
  | .nil, e, h => by cases h
  | .cons k t kids r, e, h => by
    rw [ens] at h
    rcases List.mem_cons.1 h with rfl | h
    · exact nice_of (ens_nice kids)
    · exact ens_nice r e h
theorem en_nice (n : Nod) : (en n).nice := ens_nice n.row _ (by rw [ens_row]; exact List.mem_singleton.2 rfl)

/-- The tokens from i to j. -/
def sgm (T : List Tok) (i j : Nat) : List (Nat × List UInt8) := (List.range' i (j - i)).map fun k => Syn.keyOf (tk T k)
theorem sgm_app {T : List Tok} {i j k : Nat} (h1 : i ≤ j) (h2 : j ≤ k) : sgm T i k = sgm T i j ++ sgm T j k := by
  unfold sgm
  rw [← List.map_append]
  congr 1
  rw [show k - i = (j - i) + (k - j) by omega, ← List.range'_append_1]
  congr 2
  omega
theorem sgm_one (T : List Tok) (i : Nat) : sgm T i (i + 1) = [Syn.keyOf (tk T i)] := by
  unfold sgm
  rw [Nat.add_sub_cancel_left]
  rfl
theorem sgm_self (T : List Tok) (i : Nat) : sgm T i i = [] := by
  unfold sgm
  rw [Nat.sub_self]
  rfl
/-- So many tokens, and brackets so deep, where o are open. -/
structure Bd (T : List Tok) (i j o L D : Nat) : Prop where
  le : i ≤ j
  len : L ≤ j - i
  d16 : o ≤ 16 → o + D ≤ 16
  dep : ∃ D', D ≤ D' ∧ Dep (sgm T i j) D'
theorem Bd.mono {T : List Tok} {i j o L D L' D' : Nat} (h : Bd T i j o L D) (hL : L' ≤ L) (hD : D' ≤ D) : Bd T i j o L' D' := by
  obtain ⟨E, h1, h2⟩ := h.dep
  exact ⟨h.le, Nat.le_trans hL h.len, fun ho => by have := h.d16 ho; omega, E, Nat.le_trans hD h1, h2⟩
theorem Bd.app {T : List Tok} {i j k o L D L' D' : Nat} (h : Bd T i j o L D) (h' : Bd T j k o L' D') : Bd T i k o (L + L') (max D D') := by
  obtain ⟨E, h1, h2⟩ := h.dep
  obtain ⟨E', h1', h2'⟩ := h'.dep
  refine ⟨Nat.le_trans h.le h'.le, ?_, fun ho => ?_, max E E', by omega, ?_⟩
  · have := h.len; have := h'.len; have := h.le; have := h'.le; omega
  · have := h.d16 ho; have := h'.d16 ho; omega
  · rw [sgm_app h.le h'.le]
    exact h2.app h2'
theorem Bd.nil {T : List Tok} {i o : Nat} : Bd T i i o 0 0 := ⟨Nat.le_refl _, Nat.zero_le _, fun h => by omega, 0, Nat.le_refl _, by rw [sgm_self]; exact Dep.nil⟩
theorem Bd.one {T : List Tok} {i o : Nat} (h : Dep [Syn.keyOf (tk T i)] 0) : Bd T i (i + 1) o 1 0 := ⟨by omega, by omega, fun h => by omega, 0, Nat.le_refl _, by rw [sgm_one]; exact h⟩
theorem key_of_isS {T : List Tok} {i : Nat} {s : List UInt8} (h : isS T i s = true) : Syn.keyOf (tk T i) = (3, s) := by
  unfold isS at h
  simp only [Bool.and_eq_true, beq_iff_eq] at h
  unfold Syn.keyOf
  rw [h.1, h.2]
/-- Between brackets. -/
theorem Bd.wrap {T : List Tok} {i j o L D : Nat} {a b : UInt8} (ha : a = 40 ∨ a = 91 ∨ a = 123) (hb : b = 41 ∨ b = 93 ∨ b = 125) (h1 : isS T i [a] = true) (h2 : isS T j [b] = true) (ho : o ≠ 16) (h : Bd T (i + 1) j (o + 1) L D) : Bd T i (j + 1) o (L + 2) (1 + D) := by
  obtain ⟨E, h3, h4⟩ := h.dep
  refine ⟨by have := h.le; omega, by have := h.len; have := h.le; omega, fun ho' => by have := h.d16 (by omega); omega, 1 + E, by omega, ?_⟩
  rw [sgm_app (j := i + 1) (by omega) (by have := h.le; omega), sgm_app (j := j) h.le (by omega), sgm_one, sgm_one, key_of_isS h1, key_of_isS h2]
  intro n m hm
  rw [foldD_app, foldD_app]
  show stepD (foldD (sgm T (i + 1) j) (stepD (n, m) (3, [a]))) (3, [b]) = _
  rw [step_open ha, h4 (n + 1) _ (by omega), step_close hb (by omega)]
  congr 1
  omega
/-- What the parts of a text are when they are written again. -/
structure BdAll (T : List Tok) (f : Nat) : Prop where
  alt : ∀ i o n j p, altF T f i o = some (.ok n j p) → p = o ∧ Bd T i j o (en n).lp (en n).dput
  mor : ∀ rows i o n j p, altM T f rows i o = some (.ok n j p) → p = o ∧ ∃ new, n = pack 4 (rows.app new) ∧ Bd T i j o (keysR new).length (maxL ((ens new).map En.drow))
  row : ∀ items i o n j p, rowF T f items i o = some (.ok n j p) → p = o ∧ ∃ new, n = pack 3 (items.app new) ∧ Bd T i j o (keysI new).length (maxL ((ens new).map En.ditem))
  atm : ∀ i o n j p, atomF T f i o = some (.ok (some n) j p) → p = o ∧ Bd T i j o (en n).la (en n).datom
  non : ∀ i o j p, atomF T f i o = some (.ok none j p) → p = o ∧ j = i
  arn : ∀ e i o n j p, arndF T f e i o = some (.ok n j p) → p = o ∧ o ≠ 16 ∧ ∃ k, j = k + 1 ∧ isS T k e = true ∧ Bd T (i + 1) k (o + 1) (en n).lp (en n).dput
theorem keysI_row (n : Nod) : (keysI n.row).length = (en n).li := by
  show (keysG (en n).item ++ []).length = _
  rw [List.append_nil]
  rfl
theorem row_small {f : Nd} : (en (pack 3 f)).lr ≤ (keysI f).length ∧ (en (pack 3 f)).drow ≤ maxL ((ens f).map En.ditem) := by
  by_cases h : f.len = 1
  · match f, h with
    | .cons a b c .nil, _ =>
      have e : pack 3 (.cons a b c .nil) = ⟨a, b, c⟩ := rfl
      have e2 : Nd.cons a b c .nil = Nod.row ⟨a, b, c⟩ := rfl
      rw [e, e2, keysI_row, ens_row, li_eq, lr_eq]
      constructor
      · split <;> split <;> omega
      · show (en ⟨a, b, c⟩).drow ≤ max (en ⟨a, b, c⟩).ditem 0
        unfold En.drow En.ditem
        split <;> split <;> omega
    | .cons a b c (.cons _ _ _ _), h => simp [Nd.len] at h
  · rw [pack3_self h]
    have ep : keysG (en ⟨3, [], f⟩).put = keysI f := by
      show keysG (joinG (.bl 32) ((ens f).map En.item)) = _
      rw [keys_join_bl, List.flatMap_map]
      rfl
    exact ⟨Nat.le_of_eq (congrArg List.length ep), Nat.le_refl _⟩
theorem lp_le_lr (e : En) : e.lp ≤ e.lr ∧ e.dput ≤ e.drow := by
  rw [lr_eq]
  unfold En.drow
  constructor <;> split <;> omega
/-- An alternation over what was read. -/
theorem alt_small {n : Nod} {new : Nd} : (en (pack 4 (n.row.app new))).lp ≤ (en n).lr + (keysR new).length ∧ (en (pack 4 (n.row.app new))).dput ≤ max (en n).drow (maxL ((ens new).map En.drow)) := by
  cases new with
  | nil =>
    have e : pack 4 (n.row.app .nil) = n := rfl
    rw [e]
    have := lp_le_lr (en n)
    exact ⟨by omega, by omega⟩
  | cons a b c r =>
    have e : pack 4 (n.row.app (.cons a b c r)) = ⟨4, [], .cons n.kind n.text n.kids (.cons a b c r)⟩ := rfl
    rw [e]
    have ep : keysG (en ⟨4, [], .cons n.kind n.text n.kids (.cons a b c r)⟩).put = keysG (en n).row ++ keysR (.cons a b c r) := by
      show keysG (joinG (sg 124) ((enE n.kind n.text (ens n.kids)).row :: (ens (.cons a b c r)).map En.row)) = _
      rw [keys_join_sg, List.flatMap_map]
      rfl
    constructor
    · show (keysG (en ⟨4, [], .cons n.kind n.text n.kids (.cons a b c r)⟩).put).length ≤ _
      rw [ep, List.length_append]
      exact Nat.le_refl _
    · exact Nat.le_refl _
/-- An item over an atom. -/
theorem suf_small {T : List Tok} {n m : Nod} {i o j p : Nat} (h : sufS T n i o = .ok m j p) (_hb : ∀ L D, L ≤ (en n).la → D ≤ (en n).datom → True) : p = o ∧ ∃ L, Bd T i j o L 0 ∧ (en m).li ≤ (en n).la + L ∧ (en m).ditem ≤ (en n).datom := by
  have hn := en_nice n
  have hpa := hn.pa
  have hsm := hn.sm
  have hbig := hn.big
  have hdpa := hn.dpa
  have hdbig := hn.dbig
  have again : ∀ (k : Nat) (a b c : UInt8), (k = 5 ∧ a = 91 ∧ b = 63 ∧ c = 93) ∨ (k = 6 ∧ a = 123 ∧ b = 42 ∧ c = 125) → (en ⟨k, [], n.row⟩).li ≤ (en n).la + 1 ∧ (en ⟨k, [], n.row⟩).ditem ≤ (en n).datom := by
    intro k a b c hk
    have ep : (en ⟨k, [], n.row⟩).put = (en n).again a b c := by
      show putE k [] [en n] = _
      unfold putE
      rcases hk with ⟨rfl, rfl, rfl, rfl⟩ | ⟨rfl, rfl, rfl, rfl⟩ <;> rfl
    have ed : (en ⟨k, [], n.row⟩).dput = (en n).dagain := by
      show putD k [en n] = _
      unfold putD
      rcases hk with ⟨rfl, -⟩ | ⟨rfl, -⟩ <;> rfl
    have ek : (en ⟨k, [], n.row⟩).kind = k := rfl
    have hk34 : ¬ (k = 3 ∨ k = 4) := by rcases hk with ⟨rfl, -⟩ | ⟨rfl, -⟩ <;> decide
    constructor
    · rw [li_eq, ek, if_neg hk34]
      show (keysG (en ⟨k, [], n.row⟩).put).length ≤ _
      rw [ep, again_len]
      split
      · exact Nat.le_refl _
      · rename_i hc
        have := hbig (fun e => hc (.inl e)) (fun e => hc (.inr (.inl e))) (fun e => hc (.inr (.inr (.inl e)))) (fun e => hc (.inr (.inr (.inr e))))
        omega
    · unfold En.ditem
      rw [ek, if_neg hk34, ed]
      unfold En.dagain
      split
      · exact Nat.le_refl _
      · rename_i hc
        have := hdbig (fun e => hc (.inl e)) (fun e => hc (.inr (.inl e))) (fun e => hc (.inr (.inr (.inl e)))) (fun e => hc (.inr (.inr (.inr e))))
        omega
  unfold sufS at h
  split at h
  · cases h
  · split at h
    · rename_i hs
      cases h
      have := again 5 91 63 93 (.inl ⟨rfl, rfl, rfl, rfl⟩)
      exact ⟨rfl, 1, Bd.one (by rw [key_of_isS hs]; exact Dep.one (.inr (by decide))), this⟩
    · split at h
      · rename_i hs
        cases h
        have := again 6 123 42 125 (.inr ⟨rfl, rfl, rfl, rfl⟩)
        exact ⟨rfl, 1, Bd.one (by rw [key_of_isS hs]; exact Dep.one (.inr (by decide))), this⟩
      · split at h
        · rename_i hs
          cases h
          refine ⟨rfl, 1, Bd.one (by rw [key_of_isS hs]; exact Dep.one (.inr (by decide))), ?_, Nat.le_refl _⟩
          show (keysG ((en n).atom ++ [sg 43])).length ≤ _
          rw [keys_end, List.length_append]
          exact Nat.le_refl _
        · cases h
          refine ⟨rfl, 0, Bd.nil, ?_, ?_⟩
          · rw [li_eq]
            split
            · rename_i hc
              have := hbig (by omega) (by omega) (by omega) (by omega)
              omega
            · omega
          · unfold En.ditem
            split
            · rename_i hc
              have := hdbig (by omega) (by omega) (by omega) (by omega)
              omega
            · omega
theorem bd_all (T : List Tok) : ∀ f, BdAll T f
  | 0 => ⟨fun _ _ _ _ _ h => (by rw [altF] at h; cases h), fun _ _ _ _ _ _ h => (by rw [altM] at h; cases h), fun _ _ _ _ _ _ h => (by rw [rowF] at h; cases h), fun _ _ _ _ _ h => (by rw [atomF] at h; cases h), fun _ _ _ _ h => (by rw [atomF] at h; cases h), fun _ _ _ _ _ _ h => (by rw [arndF] at h; cases h)⟩
  | f + 1 => by
    have ih := bd_all T f
    refine ⟨fun i o n j p h => ?_, fun rows i o n j p h => ?_, fun items i o n j p h => ?_, fun i o n j p h => ?_, fun i o j p h => ?_, fun e i o n j p h => ?_⟩
    · rw [altF] at h
      obtain ⟨n1, i1, o1, e1, e2⟩ := Syn.bind_ok h
      obtain ⟨rfl, new1, rfl, hb1⟩ := ih.row _ _ _ _ _ _ e1
      obtain ⟨rfl, new, rfl, hb2⟩ := ih.mor _ _ _ _ _ _ e2
      have hs := row_small (f := new1)
      have ha := alt_small (n := pack 3 new1) (new := new)
      exact ⟨rfl, (hb1.app hb2).mono (by have := ha.1; have := hs.1; show (en (pack 4 ((pack 3 new1).row.app new))).lp ≤ _; omega) (by have := ha.2; have := hs.2; show (en (pack 4 ((pack 3 new1).row.app new))).dput ≤ _; omega)⟩
    · rw [altM] at h
      split at h
      · cases h
      · split at h
        · rename_i hs
          obtain ⟨n1, i1, o1, e1, e2⟩ := Syn.bind_ok h
          obtain ⟨rfl, new1, rfl, hb1⟩ := ih.row _ _ _ _ _ _ e1
          obtain ⟨rfl, new, rfl, hb2⟩ := ih.mor _ _ _ _ _ _ e2
          have hsm := row_small (f := new1)
          refine ⟨rfl, (pack 3 new1).row.app new, by rw [Nd.app_assoc]; rfl, (((Bd.one (by rw [key_of_isS hs]; exact Dep.one (.inr (by decide)))).app hb1).app hb2).mono ?_ ?_⟩
          · show (((3, [124]) :: keysG (en (pack 3 new1)).row) ++ keysR new).length ≤ _
            rw [List.length_append, List.length_cons]
            have := hsm.1
            unfold En.lr at this
            omega
          · show max (en (pack 3 new1)).drow (maxL ((ens new).map En.drow)) ≤ _
            have := hsm.2
            omega
        · cases h
          exact ⟨rfl, .nil, by rw [Nd.app_nil], Bd.nil⟩
    · rw [rowF] at h
      obtain ⟨a, i1, o1, e1, e2⟩ := Syn.bind_ok h
      cases a with
      | none =>
        obtain ⟨rfl, rfl⟩ := ih.non _ _ _ _ e1
        cases e2
        exact ⟨rfl, .nil, by rw [Nd.app_nil], Bd.nil⟩
      | some n1 =>
        obtain ⟨rfl, hb1⟩ := ih.atm _ _ _ _ _ e1
        obtain ⟨n2, i2, o2, e3, e4⟩ := Syn.bind_ok' e2
        obtain ⟨rfl, L, hbL, hl, hd⟩ := suf_small e3 (fun _ _ _ _ => trivial)
        obtain ⟨rfl, new, rfl, hb2⟩ := ih.row _ _ _ _ _ _ e4
        refine ⟨rfl, n2.row.app new, by rw [Nd.app_assoc], ((hb1.app hbL).app hb2).mono ?_ ?_⟩
        · show (keysG (en n2).item ++ keysI new).length ≤ _
          rw [List.length_append]
          unfold En.li at hl
          omega
        · show max (en n2).ditem (maxL ((ens new).map En.ditem)) ≤ _
          omega
    · rw [atomF] at h
      split at h
      · cases h
      · split at h
        · rename_i hk
          cases h
          refine ⟨rfl, (Bd.one (o := o) ?_).mono (Nat.le_refl 1) (Nat.zero_le 0)⟩
          unfold Syn.keyOf
          exact Dep.one (.inl (by omega))
        · split at h
          · rename_i hk
            cases h
            refine ⟨rfl, (Bd.one (o := o) ?_).mono (Nat.le_refl 1) (Nat.zero_le 0)⟩
            unfold Syn.keyOf
            exact Dep.one (.inl (by omega))
          · split at h
            · rename_i hs
              obtain ⟨n1, i1, o1, e1, e2⟩ := Syn.bind_ok h
              obtain ⟨rfl, ho, k, rfl, hk, hb⟩ := ih.arn _ _ _ _ _ _ e1
              cases e2
              have hn := en_nice n
              have := hn.pa
              have := hn.dpa
              exact ⟨rfl, (hb.wrap (.inl rfl) (.inl rfl) hs hk ho).mono (by omega) (by omega)⟩
            · split at h
              · rename_i hs
                obtain ⟨n1, i1, o1, e1, e2⟩ := Syn.bind_ok h
                obtain ⟨rfl, ho, k, rfl, hk, hb⟩ := ih.arn _ _ _ _ _ _ e1
                cases e2
                refine ⟨rfl, (hb.wrap (.inr (.inl rfl)) (.inr (.inl rfl)) hs hk ho).mono ?_ (Nat.le_refl _)⟩
                exact Nat.le_of_eq (len_par 91 93 (en n1).put)
              · split at h
                · rename_i hs
                  obtain ⟨n1, i1, o1, e1, e2⟩ := Syn.bind_ok h
                  obtain ⟨rfl, ho, k, rfl, hk, hb⟩ := ih.arn _ _ _ _ _ _ e1
                  cases e2
                  refine ⟨rfl, (hb.wrap (.inr (.inr rfl)) (.inr (.inr rfl)) hs hk ho).mono ?_ (Nat.le_refl _)⟩
                  exact Nat.le_of_eq (len_par 123 125 (en n1).put)
                · cases h
    · rw [atomF] at h
      split at h
      · cases h
      · split at h
        · cases h
        · split at h
          · cases h
          · split at h
            · obtain ⟨n1, i1, o1, e1, e2⟩ := Syn.bind_ok h
              cases e2
            · split at h
              · obtain ⟨n1, i1, o1, e1, e2⟩ := Syn.bind_ok h
                cases e2
              · split at h
                · obtain ⟨n1, i1, o1, e1, e2⟩ := Syn.bind_ok h
                  cases e2
                · cases h
                  exact ⟨rfl, rfl⟩
    · rw [arndF] at h
      split at h
      · cases h
      · rename_i ho
        obtain ⟨n1, i1, o1, e1, e2⟩ := Syn.bind_ok h
        obtain ⟨rfl, hb⟩ := ih.alt _ _ _ _ _ e1
        obtain ⟨u, i2, o2, e3, e4⟩ := Syn.bind_ok' e2
        obtain ⟨h1, rfl, rfl⟩ := Syn.takeS_ok e3
        cases e4
        exact ⟨by omega, ho, i1, rfl, h1, hb⟩
end Go.Proofs.Ytjaampgpihicmaa.Fmt
