/- Chapter 9 (facts): the plain law of FactsWays: steps among the derived, rows told rising. No program. -/
import Derived.Test.YtbpgolmbielpgaaFit
import Derived.Test.YtbpgolmbielpgaaRef9e
import Derived.Test.YtbpgolmbielpgaaRef9g
namespace Go.Proofs.Ytbpgolmbielpgaa
namespace Facts

theorem cnt_one (p : Int → Bool) : ∀ (r : List Int) (k : Nat) (hk : k < r.length), ((∀ (j : Nat) (hj : j < r.length), j ≠ k → p r[j] = false) ↔ r.countP p = if p r[k] then 1 else 0)
  | [], k, hk => by simp at hk
  | a :: r, 0, _ => by
    rw [List.countP_cons]
    simp only [List.getElem_cons_zero]
    constructor
    · intro h
      have : r.countP p = 0 := List.countP_eq_zero.2 fun x hx => by
        obtain ⟨j, hj, rfl⟩ := List.getElem_of_mem hx
        have := h (j + 1) (by simp; omega) (by omega)
        simp only [List.getElem_cons_succ] at this
        rw [this]; simp
      omega
    · intro h j hj hne
      have h0 : r.countP p = 0 := by omega
      obtain ⟨j, rfl⟩ : ∃ i, j = i + 1 := ⟨j - 1, by omega⟩
      simp only [List.getElem_cons_succ]
      have := List.countP_eq_zero.1 h0 (r[j]'(by simp at hj; omega)) (List.getElem_mem _)
      simpa using this
  | a :: r, k + 1, hk => by
    have hk' : k < r.length := by simp at hk; omega
    have ih := cnt_one p r k hk'
    rw [List.countP_cons]
    simp only [List.getElem_cons_succ]
    have hge : (if p r[k] = true then 1 else 0) ≤ r.countP p := by
      split
      · exact List.countP_pos_iff.2 ⟨_, List.getElem_mem hk', by assumption⟩
      · omega
    constructor
    · intro h
      have h0 := h 0 (by simp) (by omega)
      simp only [List.getElem_cons_zero] at h0
      have h1 := ih.1 fun j hj hne => by
        have := h (j + 1) (by simp; omega) (by omega)
        simpa only [List.getElem_cons_succ] using this
      rw [h1, h0]; simp
    · intro h j hj hne
      have h2 : (if p a = true then 1 else 0) = 0 ∧ r.countP p = if p r[k] = true then 1 else 0 := by omega
      cases j with
      | zero =>
        simp only [List.getElem_cons_zero]
        have := h2.1
        split at this
        · omega
        · rename_i hna
          simpa using hna
      | succ j =>
        simp only [List.getElem_cons_succ]
        exact ih.2 h2.2 j (by simp at hj; omega) (by omega)

theorem okK_iff {nb : List Bool} {nul : Int → Bool} (hn : ∀ a, 0 ≤ a → inB nb a = nul a) (r : List Int) (c : Int) (k : Nat) (hk : k < r.length) :
    okK nb r c k = true ↔ r[k] = c ∧ r.countP (firmP nul) = if firmP nul r[k] then 1 else 0 := by
  rw [← cnt_one (firmP nul) r k hk]
  unfold okK
  rw [Bool.and_eq_true, allF_iff]
  have e : r.getD k 0 = r[k] := by simp [List.getD, List.getElem?_eq_getElem hk]
  rw [e]
  refine and_congr (by simp) (forall_congr' fun j => ?_)
  constructor
  · intro h hj hne
    have := h hj
    unfold okJ at this
    rw [show r.getD j 0 = r[j] by simp [List.getD, List.getElem?_eq_getElem hj]] at this
    have h2 : 0 ≤ r[j] ∧ inB nb r[j] = true := by simpa [hne] using this
    unfold firmP
    rw [← hn _ h2.1, h2.2]
    simp; omega
  · intro h hj
    unfold okJ
    rw [show r.getD j 0 = r[j] by simp [List.getD, List.getElem?_eq_getElem hj]]
    by_cases hne : j = k
    · simp [hne]
    · have h2 := h hj hne
      unfold firmP at h2
      have h3 : 0 ≤ r[j] ∧ nul r[j] = true := by simpa using h2
      rw [hn _ h3.1, h3.2]
      simp [h3.1]

theorem any_loop {nb : List Bool} {nul : Int → Bool} (hn : ∀ a, 0 ≤ a → inB nb a = nul a) (r : List Int) (c : Int) (hc : 0 ≤ c) : anyF (okK nb r c) r.length 0 = true ↔ c ∈ loopF nul r := by
  rw [anyF_iff]
  unfold loopF
  rw [List.mem_filter]
  have ef : firmP nul c = !nul c := by unfold firmP; simp; omega
  constructor
  · rintro ⟨k, hk, h⟩
    obtain ⟨rfl, h2⟩ := (okK_iff hn r c k hk).1 h
    refine ⟨List.getElem_mem hk, ?_⟩
    rw [ef] at h2
    cases hv : nul r[k] <;> rw [hv] at h2 <;> simp only [Bool.not_false, Bool.not_true, if_true, Bool.false_eq_true, if_false] at h2 <;> simp [h2, hc]
  · rintro ⟨hm, h⟩
    obtain ⟨k, hk, rfl⟩ := List.getElem_of_mem hm
    refine ⟨k, hk, (okK_iff hn r _ k hk).2 ⟨rfl, ?_⟩⟩
    rw [ef]
    have h2 : r.countP (firmP nul) = 0 ∨ r.countP (firmP nul) = 1 ∧ nul r[k] = false := by simpa [hc] using h
    rcases h2 with h2 | ⟨h2, h3⟩
    · have := List.countP_eq_zero.1 h2 _ (List.getElem_mem hk)
      rw [ef] at this
      cases hv : nul r[k] <;> rw [hv] at this <;> simp at this
      rw [h2]; simp
    · rw [h2, h3]; simp

section
variable {ps : List (Int × List Int)} {n : Nat} {nb : List Bool} {nul : Int → Bool}
theorem step_mem (hps : ∀ x ∈ ps, 0 ≤ x.1 ∧ x.1 < (n : Int)) (hn : ∀ a, 0 ≤ a → inB nb a = nul a) (b : Nat) (c : Int) (hc : 0 ≤ c) :
    stepB nb ps b c = true ↔ c ∈ (allT (loopF nul) (List.replicate n []) ps).getD b [] := by
  rw [allT_mem _ b c ps _ (fun y hy => by simpa using hps y hy)]
  unfold stepB
  rw [List.any_eq_true]
  constructor
  · rintro ⟨x, hx, h⟩
    rw [Bool.and_eq_true] at h
    exact .inr ⟨x, hx, by simpa using h.1, (any_loop hn x.2 c hc).1 h.2⟩
  · rintro (h | ⟨x, hx, h1, h2⟩)
    · rw [rep_getD] at h; cases h
    · refine ⟨x, hx, ?_⟩
      rw [Bool.and_eq_true]
      exact ⟨by simpa using h1, (any_loop hn x.2 c hc).2 h2⟩
theorem loop_lt (hps : ∀ x ∈ ps, 0 ≤ x.1 ∧ x.1 < (n : Int)) (hr : ∀ x ∈ ps, ∀ s ∈ x.2, s < (n : Int)) {b : Nat} {c : Int} (h : c ∈ (allT (loopF nul) (List.replicate n []) ps).getD b []) : 0 ≤ c ∧ c < (n : Int) := by
  rcases (allT_mem _ b c ps _ (fun y hy => by simpa using hps y hy)).1 h with h | ⟨x, hx, _, h2⟩
  · rw [rep_getD] at h; cases h
  · unfold loopF at h2
    rw [List.mem_filter] at h2
    have h3 := h2.2
    rw [Bool.and_eq_true, decide_eq_true_eq] at h3
    exact ⟨h3.1, hr x hx c h2.1⟩
theorem walk_come (hps : ∀ x ∈ ps, 0 ≤ x.1 ∧ x.1 < (n : Int)) (hr : ∀ x ∈ ps, ∀ s ∈ x.2, s < (n : Int)) (hn : ∀ a, 0 ≤ a → inB nb a = nul a) (a c : Nat) :
    WalkN (fun b c => stepB nb ps b c) n a c ↔ Come (allT (loopF nul) (List.replicate n []) ps) ((allT (loopF nul) (List.replicate n []) ps).getD a []) c := by
  constructor
  · intro h
    induction h with
    | base c _ hs => exact .base _ ((step_mem hps hn a c (by omega)).1 hs)
    | step b c _ _ hs ih => exact .step (b : Int) c ih (by rw [Int.toNat_natCast]; exact (step_mem hps hn b c (by omega)).1 hs)
  · intro h
    have gen : ∀ s : Int, Come (allT (loopF nul) (List.replicate n []) ps) ((allT (loopF nul) (List.replicate n []) ps).getD a []) s → ∃ d : Nat, s = d ∧ WalkN (fun b c => stepB nb ps b c) n a d := by
      intro s h
      induction h with
      | base s hs =>
        obtain ⟨h0, h1⟩ := loop_lt hps hr hs
        obtain ⟨d, rfl⟩ := Int.eq_ofNat_of_zero_le h0
        exact ⟨d, rfl, .base d (by omega) ((step_mem hps hn a d h0).2 hs)⟩
      | step s e _ he ih =>
        obtain ⟨d, rfl, hd⟩ := ih
        rw [Int.toNat_natCast] at he
        obtain ⟨h0, h1⟩ := loop_lt hps hr he
        obtain ⟨f, rfl⟩ := Int.eq_ofNat_of_zero_le h0
        exact ⟨f, rfl, .step d f hd (by omega) ((step_mem hps hn d f h0).2 he)⟩
    obtain ⟨d, e, hd⟩ := gen c h
    have : c = d := by omega
    rw [this]; exact hd
end

theorem rise_same : ∀ {xs ys : List Int}, xs.Pairwise (· < ·) → ys.Pairwise (· < ·) → (∀ z, z ∈ xs ↔ z ∈ ys) → xs = ys
  | [], [], _, _, _ => rfl
  | [], y :: ys, _, _, h => absurd ((h y).2 (by simp)) (by simp)
  | x :: xs, [], _, _, h => absurd ((h x).1 (by simp)) (by simp)
  | x :: xs, y :: ys, hx, hy, h => by
    rw [List.pairwise_cons] at hx hy
    have e : x = y := by
      have h1 := (h x).1 (by simp)
      have h2 := (h y).2 (by simp)
      rw [List.mem_cons] at h1 h2
      rcases h1 with h1 | h1
      · exact h1
      · rcases h2 with h2 | h2
        · exact h2.symm
        · have := hx.1 y h2
          have := hy.1 x h1
          omega
    subst e
    congr 1
    refine rise_same hx.2 hy.2 fun z => ⟨fun hz => ?_, fun hz => ?_⟩
    · have h1 := (h z).1 (by simp [hz])
      rw [List.mem_cons] at h1
      rcases h1 with rfl | h1
      · exact absurd (hx.1 z hz) (by omega)
      · exact h1
    · have h1 := (h z).2 (by simp [hz])
      rw [List.mem_cons] at h1
      rcases h1 with rfl | h1
      · exact absurd (hy.1 z hz) (by omega)
      · exact h1

/-- The true ones below t, and how many they are. -/
def trueL (p : Nat → Bool) (t : Nat) : List Int := ((List.range t).filter p).map Int.ofNat
theorem trueL_succ (p : Nat → Bool) (t : Nat) : trueL p (t + 1) = if p t then trueL p t ++ [(t : Int)] else trueL p t := by
  unfold trueL
  rw [List.range_succ, List.filter_append, List.map_append]
  split
  · simp [*]
  · simp [*]
theorem trueL_mem (p : Nat → Bool) (t : Nat) (z : Int) : z ∈ trueL p t ↔ 0 ≤ z ∧ z.toNat < t ∧ p z.toNat = true := by
  unfold trueL
  rw [List.mem_map]
  constructor
  · rintro ⟨k, hk, rfl⟩
    rw [List.mem_filter, List.mem_range] at hk
    exact ⟨by simp, by simpa using hk.1, by simpa using hk.2⟩
  · rintro ⟨h0, h1, h2⟩
    exact ⟨z.toNat, by rw [List.mem_filter, List.mem_range]; exact ⟨h1, h2⟩, by simp; omega⟩
theorem trueL_rise (p : Nat → Bool) : ∀ t, (trueL p t).Pairwise (· < ·)
  | 0 => by simp [trueL]
  | t + 1 => by
    rw [trueL_succ]
    split
    · rw [List.pairwise_append]
      refine ⟨trueL_rise p t, by simp, fun x hx y hy => ?_⟩
      rw [trueL_mem] at hx
      have : y = t := by simpa using hy
      omega
    · exact trueL_rise p t
theorem trueL_at (p : Nat → Bool) {t : Nat} (hp : p t = true) : ∀ T, t < T → (trueL p T)[(trueL p t).length]? = some (t : Int)
  | 0, h => by omega
  | T + 1, h => by
    rw [trueL_succ]
    by_cases e : t = T
    · subst e
      rw [if_pos hp]
      simp
    · have ih := trueL_at p hp T (by omega)
      split
      · rw [List.getElem?_append_left (List.getElem?_eq_some_iff.1 ih).1]
        exact ih
      · exact ih
theorem trueL_le (p : Nat → Bool) : ∀ t, (trueL p t).length ≤ t
  | 0 => by simp [trueL]
  | t + 1 => by
    rw [trueL_succ]
    have := trueL_le p t
    split
    · simp; omega
    · omega
end Facts

/-- The two answers' First: the same rows. -/
theorem first_same {G : Gr} {nb gb : List Bool} {nul gen : Int → Bool} {F : List (List Bool)} (hsn : ∀ a : Int, 0 ≤ a → (Facts.inB nb a = true ↔ Facts.Gen G.prods false a)) (hsg : ∀ a : Int, 0 ≤ a → (Facts.inB gb a = true ↔ Facts.Gen G.prods true a))
    (hn : ∀ a : Int, 0 ≤ a → (nul a = true ↔ Facts.Gen G.prods false a)) (hg : ∀ a : Int, 0 ≤ a → (gen a = true ↔ Facts.Gen G.prods true a)) (hl : ∀ l ∈ F, l.length = G.terms.length)
    {a : Nat} {ss : List Int} (h1 : RiseP (FstOf (Facts.allT (Facts.stepF (Facts.inB nb) (Facts.inB gb)) (List.replicate G.names.length []) G.prods) (Facts.firT (Facts.terF (Facts.inB nb) (Facts.inB gb)) (List.replicate G.names.length []) G.prods) a) ss)
    (h2 : ∀ (z : Int), FstOf (Facts.LS G.prods G.names.length nul gen) (Facts.FS G.prods G.names.length nul gen) a z ↔ 0 ≤ z ∧ Facts.tb F a z.toNat = true) : ss = Facts.trueL (Facts.tb F a) G.terms.length := by
  have e1 := Facts.LS_congr (ps := G.prods) (n := G.names.length) (Facts.bool_same hn hsn) (Facts.bool_same hg hsg)
  have e2 := Facts.FS_congr (ps := G.prods) (n := G.names.length) (Facts.bool_same hn hsn) (Facts.bool_same hg hsg)
  rw [e1, e2] at h2
  refine Facts.rise_same h1.1 (Facts.trueL_rise _ _) fun z => ?_
  rw [h1.2 z, Facts.trueL_mem]
  refine (h2 z).trans ⟨fun h => ⟨h.1, (Facts.tb_lt hl h.2).2, h.2⟩, fun h => ⟨h.1, h.2.2⟩⟩
/-- The two answers' Loops: the same row. -/
theorem loops_same {G : Gr} (hs : Pl.soundB G = true) {bs nb os nb2 : List Bool} (hb : bs.length = G.names.length) (ho : os.length = G.names.length) (hn : ∀ a : Int, 0 ≤ a → (Facts.inB nb a = true ↔ Facts.Gen G.prods false a)) (hn2 : ∀ a : Int, 0 ≤ a → (Facts.inB nb2 a = true ↔ Facts.Gen G.prods false a))
    (h1 : ∀ a : Nat, a < G.names.length → (Facts.inB bs a = true ↔ Facts.Come (Facts.allT (Facts.loopF (Facts.inB nb)) (List.replicate G.names.length []) G.prods) ((Facts.allT (Facts.loopF (Facts.inB nb)) (List.replicate G.names.length []) G.prods).getD a []) a))
    (h2 : ∀ a : Nat, a < G.names.length → (Facts.gB os a = true ↔ Facts.WalkN (fun b c => Facts.stepB nb2 G.prods b c) G.names.length a a)) : bs = os := by
  have hg := sndG hs
  refine List.ext_getElem (hb.trans ho.symm) fun a h3 h4 => ?_
  have ha : a < G.names.length := by omega
  have := (h1 a ha).trans ((h2 a ha).trans (Facts.walk_come (fun x hx => ⟨hg.l0 x hx, hg.l1 x hx⟩) (fun x hx s hs' => hg.r1 x hx s hs') (Facts.bool_same hn2 hn) a a)).symm
  rw [Facts.gB_get h4, show Facts.inB bs a = bs[a] by simp [Facts.inB, List.getD, List.getElem?_eq_getElem h3]] at this
  exact Bool.eq_iff_iff.2 this
/-- Two rows of bools told by the same property. -/
theorem brow_same {n : Nat} {bs cs : List Bool} {p : Int → Prop} (hb : bs.length = n) (hc : cs.length = n) (h1 : ∀ a : Int, 0 ≤ a → (Facts.inB bs a = true ↔ p a)) (h2 : ∀ a : Int, 0 ≤ a → (Facts.inB cs a = true ↔ p a)) : bs = cs := by
  refine List.ext_getElem (hb.trans hc.symm) fun a h3 h4 => ?_
  have := Facts.bool_same h1 h2 a (by omega)
  simpa [Facts.inB, List.getD, List.getElem?_eq_getElem h3, List.getElem?_eq_getElem h4] using this
end Go.Proofs.Ytbpgolmbielpgaa
