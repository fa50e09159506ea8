/- A region that draws its order, by an invariant: each operation is walked once, whatever the order. No program. -/
import Derived.Test.YtaehooafdbaomaaRep
import Derived.Orders
namespace Go.Proofs.Ytaehooafdbaomaa
open Go.RowKit

/-- A frame whose slots ds hold what f says. -/
def puts (A : Act) (f : Nat → Value) : List Nat → Act
  | [] => A
  | d :: ds => (puts A f ds).put (some d) (f d)

theorem put_put (a : Act) (d : Nat) (u v : Value) : (a.put (some d) u).put (some d) v = a.put (some d) v := by
  simp [Act.put]
theorem puts_congr {A : Act} {f g : Nat → Value} : ∀ {ds : List Nat}, (∀ d ∈ ds, f d = g d) → puts A f ds = puts A g ds
  | [], _ => rfl
  | d :: ds, h => by
    rw [puts, puts, puts_congr (fun e he => h e (List.mem_cons_of_mem _ he)), h d (List.mem_cons_self ..)]
theorem puts_put {A : Act} {f : Nat → Value} {d : Nat} {v : Value} : ∀ {ds : List Nat}, ds.Nodup → d ∈ ds → (puts A f ds).put (some d) v = puts A (fun k => if k = d then v else f k) ds
  | [], _, h => by simp at h
  | e :: ds, hn, h => by
    obtain ⟨h1, h2⟩ := List.nodup_cons.1 hn
    by_cases hed : e = d
    · subst hed
      rw [puts, put_put, puts]
      simp only [if_true]
      rw [puts_congr (f := f) (g := fun k => if k = e then v else f k)]
      intro k hk
      rw [if_neg (by rintro rfl; exact h1 hk)]
    · have hd : d ∈ ds := by
        rcases List.mem_cons.1 h with rfl | h
        · exact absurd rfl hed
        · exact h
      rw [puts, puts, if_neg hed, ← puts_put h2 hd]
      exact Act.put_comm _ _ _ (fun k hk hk2 => by
        injection hk with hk
        injection hk2 with hk2
        omega)
theorem puts_self (A : Act) : ∀ (ds : List Nat), puts A (fun k => A.tmps.getD k undef) ds = A
  | [] => rfl
  | d :: ds => by
    rw [puts, puts_self A ds]
    obtain ⟨t, df⟩ := A
    simp only [Act.put, Act.mk.injEq, and_true]
    apply Array.ext
    · simp
    · intro i h1 h2
      rw [Array.getElem_setIfInBounds h2]
      split
      · rename_i h
        subst h
        simp [Array.getD, h2]
      · rfl
theorem puts_size (A : Act) (f : Nat → Value) : ∀ (ds : List Nat), (puts A f ds).tmps.size = A.tmps.size
  | [] => rfl
  | d :: ds => by
    rw [puts]
    simp only [Act.put, Array.size_setIfInBounds]
    exact puts_size A f ds
/-- A slot read. -/
theorem puts_eval (A : Act) (f : Nat → Value) (k : Nat) (hk : k < A.tmps.size) : ∀ (ds : List Nat), (puts A f ds).eval (.tmp k) = if k ∈ ds then f k else A.eval (.tmp k)
  | [] => by simp [puts]
  | d :: ds => by
    have ih := puts_eval A f k hk ds
    have hs := puts_size A f ds
    simp only [Act.eval] at ih ⊢
    rw [puts]
    simp only [Act.put]
    by_cases hd : d = k
    · subst hd
      simp [Array.getD, hs, hk]
    · have hne : (k = d) = False := by simp; omega
      have h1 : ((puts A f ds).tmps.setIfInBounds d (f d)).getD k undef = (puts A f ds).tmps.getD k undef := by
        simp [Array.getD, hs, hk, hd]
      rw [h1, ih]
      simp only [List.mem_cons, hne, false_or]

section
variable {P : Program} {id : Nat} {ops : Array Oper} {Q : Exit → Act → World → Prop} {A : Act} {w0 : World}

theorem ready_nil (hord : (List.range ops.size).all (fun i => match ops[i]? with | some o => o.after.all (fun e => decide (e.on < i)) | none => true) = true) {listed : Array Bool} (hsz : listed.size = ops.size) (hr : Region.ready .any ops listed = []) :
    ∀ i, i < ops.size → listed.getD i false = true := by
  intro i
  induction i using Nat.strongRecOn with
  | _ i ih =>
    intro hi
    rcases hl : listed.getD i false with _ | _
    · exfalso
      have hm : i ∈ Region.ready .any ops listed := by
        refine mem_ready.2 ⟨by simp [Array.getD, hsz, hi] at hl ⊢; exact hl, ops[i], Array.getElem?_eq_getElem hi, fun e he _ => ?_⟩
        have h := List.all_eq_true.1 hord i (List.mem_range.2 hi)
        rw [Array.getElem?_eq_getElem hi] at h
        have h2 := Array.all_eq_true_iff_forall_mem.1 h e he
        have h3 : e.on < i := by simpa using h2
        exact ih e.on h3 (by omega)
      rw [hr] at hm
      cases hm
    · rfl

def updL (L : Nat → Bool) (i : Nat) : Nat → Bool := fun j => if j = i then true else L j
def updF (f : Nat → Value) (d : Nat) (v : Value) : Nat → Value := fun k => if k = d then v else f k

/-- Each operation, from whatever has been done ahead of it. -/
theorem region_orders (hm : P.follows .mixedOrders = true) (D : Nat → Nat) (ds : List Nat) (hnd : ds.Nodup) (hD : ∀ i j, i < ops.size → j < ops.size → D i = D j → i = j)
    (hord : (List.range ops.size).all (fun i => match ops[i]? with | some o => o.after.all (fun e => decide (e.on < i)) | none => true) = true)
    (G : Nat → Value → World → Prop) (W : (Nat → Bool) → (Nat → Value) → World → Prop) (h0 : ∀ f, W (fun _ => false) f w0.drew)
    (hstep : ∀ (L : Nat → Bool) (i : Nat) (o : Oper) (f : Nat → Value) (w : World), ops[i]? = some o → L i = false → W L f w → (∀ e ∈ o.after, Region.binds .any e = true → L e.on = true ∧ G e.on (f (D e.on)) w) →
      wpOp P ops Q i (fun a' w' => (∀ j u, j < ops.size → G j u w → G j u w') ∧ ((∃ v, a' = (puts A f ds).put (some (D i)) v ∧ D i ∈ ds ∧ G i v w' ∧ W (updL L i) (updF f (D i) v) w') ∨ (a' = puts A f ds ∧ G i (f (D i)) w' ∧ W (updL L i) f w'))) (puts A f ds) w)
    (hend : ∀ L f w, W L f w → (∀ i, i < ops.size → L i = true) → (∀ i, i < ops.size → G i (f (D i)) w) → Q .normal (puts A f ds) w) : (Code.region id ops true).wp P Q A w0 := by
  have hin : ∀ (i : Nat) (o : Oper), ops[i]? = some o → ∀ e ∈ o.after, e.on < ops.size := by
    intro i o ho e he
    have hi := (Array.getElem?_eq_some_iff.1 ho).1
    have h := List.all_eq_true.1 hord i (List.mem_range.2 hi)
    rw [ho] at h
    have h2 := Array.all_eq_true_iff_forall_mem.1 h e he
    have h3 : e.on < i := by simpa using h2
    omega
  have key : ∀ (fuel : Nat) (listed : Array Bool) (f : Nat → Value) (w : World), listed.size = ops.size → (List.range ops.size).countP (fun i => !listed.getD i false) ≤ fuel → W (fun j => listed.getD j false) f w → (∀ j, j < ops.size → listed.getD j false = true → G j (f (D j)) w) →
      wpAny P .any ops Q fuel listed (puts A f ds) w := by
    intro fuel
    induction fuel with
    | zero =>
      intro listed f w hs hc hw hg
      have hall : ∀ i, i < ops.size → listed.getD i false = true := by
        intro i hi
        have := List.countP_eq_zero.1 (Nat.le_zero.1 hc) i (List.mem_range.2 hi)
        simpa using this
      refine ⟨?_, hend _ f w hw hall fun i hi => hg i hi (hall i hi)⟩
      rw [List.eq_nil_iff_forall_not_mem]
      intro j hj
      obtain ⟨h1, o, ho, _⟩ := mem_ready.1 hj
      have hj' := (Array.getElem?_eq_some_iff.1 ho).1
      have h2 := hall j hj'
      simp [Array.getD, hs, hj'] at h1 h2
      rw [h1] at h2
      cases h2
    | succ fuel ih =>
      intro listed f w hs hc hw hg
      refine ⟨fun hr => hend _ f w hw (ready_nil hord hs hr) fun i hi => hg i hi (ready_nil hord hs hr i hi), fun i hi => ?_⟩
      obtain ⟨h1, o, ho, hdep⟩ := mem_ready.1 hi
      have hi' := (Array.getElem?_eq_some_iff.1 ho).1
      have hli : listed[i]'(by omega) = false := by simpa [Array.getD, hs, hi'] using h1
      refine wpOp_mono ?_ (hstep _ i o f w ho (by simp [Array.getD, hs, hi', hli]) hw fun e he hb => ⟨hdep e he hb, hg e.on (hin i o ho e he) (hdep e he hb)⟩)
      rintro a' w' ⟨hst, hv⟩
      have hs' : (listed.setIfInBounds i true).size = ops.size := by rw [Array.size_setIfInBounds]; exact hs
      have hget : ∀ j, j < ops.size → (listed.setIfInBounds i true).getD j false = if j = i then true else listed.getD j false := by
        intro j hj
        by_cases hji : j = i
        · subst hji
          simp [Array.getD, hs, hj]
        · have : ¬ i = j := fun e => hji e.symm
          simp [Array.getD, hs, hj, hji, this]
      have hc' : (List.range ops.size).countP (fun j => !(listed.setIfInBounds i true).getD j false) ≤ fuel := by
        have hlt : (List.range ops.size).countP (fun j => !(listed.setIfInBounds i true).getD j false) < (List.range ops.size).countP (fun j => !listed.getD j false) := by
          have gen : ∀ (l : List Nat), (∀ j ∈ l, j < ops.size) → i ∈ l → l.countP (fun j => !(listed.setIfInBounds i true).getD j false) < l.countP (fun j => !listed.getD j false) := by
            have gle : ∀ (l : List Nat), (∀ j ∈ l, j < ops.size) → l.countP (fun j => !(listed.setIfInBounds i true).getD j false) ≤ l.countP (fun j => !listed.getD j false) := by
              intro l hl
              refine List.countP_mono_left fun j hj hp => ?_
              rw [hget j (hl j hj)] at hp
              by_cases hji : j = i
              · simp [hji] at hp
              · rwa [if_neg hji] at hp
            intro l
            induction l with
            | nil => intro _ h; cases h
            | cons x l ihl =>
              intro hl hm
              rw [List.countP_cons, List.countP_cons]
              by_cases hxi : x = i
              · have e1 : (!(listed.setIfInBounds i true).getD x false) = false := by rw [hget x (hl x (List.mem_cons_self ..)), if_pos hxi]; rfl
                have e2 : (!listed.getD x false) = true := by rw [hxi]; simp [Array.getD, hs, hi', hli]
                rw [e1, e2]
                have := gle l (fun j hj => hl j (List.mem_cons_of_mem _ hj))
                simp only [Bool.false_eq_true, if_false, if_true]
                omega
              · have hil : i ∈ l := by
                  rcases List.mem_cons.1 hm with h | h
                  · exact absurd h.symm hxi
                  · exact h
                have := ihl (fun j hj => hl j (List.mem_cons_of_mem _ hj)) hil
                rw [hget x (hl x (List.mem_cons_self ..)), if_neg hxi]
                omega
          exact gen _ (fun j hj => List.mem_range.1 hj) (List.mem_range.2 hi')
        omega
      have hL : (fun j => (listed.setIfInBounds i true).getD j false) = updL (fun j => listed.getD j false) i := by
        funext j
        unfold updL
        by_cases hj : j < ops.size
        · exact hget j hj
        · have : ¬ j = i := by omega
          simp [Array.getD, hs, hj, this]
      rcases hv with ⟨v, rfl, hdm, hgv, hw'⟩ | ⟨rfl, hgv, hw'⟩
      · rw [puts_put hnd hdm]
        refine ih _ _ _ hs' hc' (by rw [hL]; exact hw') fun j hj hl => ?_
        by_cases hji : j = i
        · subst hji
          simp only [if_true]
          exact hgv
        · rw [hget j hj, if_neg hji] at hl
          rw [if_neg (fun e => hji (hD j i hj hi' e))]
          exact hst j _ hj (hg j hj hl)
      · refine ih _ _ _ hs' hc' (by rw [hL]; exact hw') fun j hj hl => ?_
        by_cases hji : j = i
        · subst hji
          exact hgv
        · rw [hget j hj, if_neg hji] at hl
          exact hst j _ hj (hg j hj hl)
  refine wp_region_any hm ?_
  have h := key ops.size (Array.replicate ops.size false) (fun k => A.tmps.getD k undef) w0.drew (by simp) (by
    refine Nat.le_trans List.countP_le_length (by simp)) (by
      have e : (fun j => (Array.replicate ops.size false).getD j false) = fun _ => false := by
        funext j
        by_cases hj : j < ops.size <;> simp [Array.getD, hj]
      rw [e]
      exact h0 _) (fun j hj hl => by simp [Array.getD, hj] at hl)
  rw [puts_self] at h
  exact h

/-- Where the operations that touch memory stand one behind another (ch), the worlds are known ahead (ws). -/
theorem region_chain (hm : P.follows .mixedOrders = true) (D : Nat → Nat) (ds : List Nat) (hnd : ds.Nodup) (hD : ∀ i j, i < ops.size → j < ops.size → D i = D j → i = j)
    (hord : (List.range ops.size).all (fun i => match ops[i]? with | some o => o.after.all (fun e => decide (e.on < i)) | none => true) = true)
    (ch : List Nat) (hcn : ∀ (q r : Nat) x, ch[q]? = some x → ch[r]? = some x → q = r) (hch : ∀ (q : Nat) x y, ch[q]? = some x → ch[q + 1]? = some y → ∃ o, ops[y]? = some o ∧ ∃ e ∈ o.after, e.on = x ∧ Region.binds .any e = true)
    (G : Nat → Value → Prop) (ws : Nat → World) (h0 : ws 0 = w0.drew)
    (hpure : ∀ (i : Nat) (o : Oper) (f : Nat → Value) (p : Nat), ops[i]? = some o → i ∉ ch → p ≤ ch.length → (∀ (q : Nat) x o', q < p → ch[q]? = some x → ops[x]? = some o' → ∀ e ∈ o'.after, Region.binds .any e = true → e.on ≠ i) → (∀ e ∈ o.after, Region.binds .any e = true → G e.on (f (D e.on))) →
      wpOp P ops Q i (fun a' w' => w' = ws p ∧ ∃ v, a' = (puts A f ds).put (some (D i)) v ∧ D i ∈ ds ∧ G i v) (puts A f ds) (ws p))
    (hmem : ∀ (q i : Nat) (o : Oper) (f : Nat → Value), ch[q]? = some i → ops[i]? = some o → (∀ e ∈ o.after, Region.binds .any e = true → G e.on (f (D e.on))) →
      wpOp P ops Q i (fun a' w' => w' = ws (q + 1) ∧ ((∃ v, a' = (puts A f ds).put (some (D i)) v ∧ D i ∈ ds ∧ G i v) ∨ (a' = puts A f ds ∧ G i (f (D i))))) (puts A f ds) (ws q))
    (hlast : ∀ x ∈ ch, x < ops.size)
    (hend : ∀ f, (∀ i, i < ops.size → G i (f (D i))) → Q .normal (puts A f ds) (ws ch.length)) : (Code.region id ops true).wp P Q A w0 := by
  refine region_orders hm D ds hnd hD hord (fun j u _ => G j u)
    (fun L _ w => ∃ p, p ≤ ch.length ∧ (∀ (q : Nat) x, ch[q]? = some x → (L x = true ↔ q < p)) ∧ w = ws p ∧ (∀ (j : Nat) o, ops[j]? = some o → L j = true → ∀ e ∈ o.after, Region.binds .any e = true → L e.on = true))
    (fun f => ⟨0, Nat.zero_le _, fun q x _ => by simp, h0.symm, fun j o _ h => by cases h⟩) ?_ ?_
  · rintro L i o f w ho hL ⟨p, hp, hq, rfl, hdn⟩ hdep
    have hdn' : ∀ (j : Nat) o, ops[j]? = some o → updL L i j = true → ∀ e ∈ o.after, Region.binds .any e = true → updL L i e.on = true := by
      intro j o' ho' hj e he hb
      unfold updL at hj ⊢
      by_cases hji : j = i
      · subst hji
        rw [ho] at ho'
        cases ho'
        split
        · rfl
        · exact (hdep e he hb).1
      · rw [if_neg hji] at hj
        split
        · rfl
        · exact hdn j o' ho' hj e he hb
    by_cases hi : i ∈ ch
    · obtain ⟨q, hqi⟩ := List.getElem?_of_mem hi
      have hpq : p = q := by
        have h1 : ¬ q < p := fun h => by
          have := (hq q i hqi).2 h
          rw [hL] at this
          cases this
        match q, hqi with
        | 0, _ => omega
        | q + 1, hqi =>
          have hql : q < ch.length := by have := (List.getElem?_eq_some_iff.1 hqi).1; omega
          obtain ⟨o', ho', e, he, heq, hb⟩ := hch q _ i (List.getElem?_eq_getElem hql) hqi
          rw [ho] at ho'
          cases ho'
          have h2 := (hdep e he hb).1
          rw [heq] at h2
          have := (hq q _ (List.getElem?_eq_getElem hql)).1 h2
          omega
      subst hpq
      refine wpOp_mono ?_ (hmem p i o f hqi ho fun e he hb => (hdep e he hb).2)
      rintro a' w' ⟨rfl, hv⟩
      have hpl : p < ch.length := (List.getElem?_eq_some_iff.1 hqi).1
      have hW : ∀ (q : Nat) x, ch[q]? = some x → (updL L i x = true ↔ q < p + 1) := by
        intro q x hx
        unfold updL
        by_cases hxi : x = i
        · subst hxi
          have := hcn q p x hx hqi
          simp
          omega
        · rw [if_neg hxi, hq q x hx]
          have : q ≠ p := fun e => by
            subst e
            rw [hqi] at hx
            cases hx
            exact hxi rfl
          omega
      refine ⟨fun j u _ h => h, ?_⟩
      rcases hv with ⟨v, h1, h2, h3⟩ | ⟨h1, h2⟩
      · exact .inl ⟨v, h1, h2, h3, p + 1, hpl, hW, rfl, hdn'⟩
      · exact .inr ⟨h1, h2, p + 1, hpl, hW, rfl, hdn'⟩
    · refine wpOp_mono ?_ (hpure i o f p ho hi hp (fun q x o' hqp hx hox e he hb hei => ?_) fun e he hb => (hdep e he hb).2)
      · rintro a' w' ⟨rfl, v, h1, h2, h3⟩
        refine ⟨fun j u _ h => h, .inl ⟨v, h1, h2, h3, p, hp, fun q x hx => ?_, rfl, hdn'⟩⟩
        unfold updL
        rw [if_neg (fun e => by subst e; exact hi (List.mem_of_getElem? hx))]
        exact hq q x hx
      · have h1 := hdn x o' hox ((hq q x hx).2 hqp) e he hb
        rw [hei, hL] at h1
        cases h1
  · rintro L f w ⟨p, hp, hq, rfl, _⟩ hL hG
    have hpl : p = ch.length := by
      rcases Nat.lt_or_ge p ch.length with h | h
      · exfalso
        have := (hq p _ (List.getElem?_eq_getElem h)).1 (hL _ (hlast _ (List.getElem_mem h)))
        omega
      · omega
    subst hpl
    exact hend f hG

/-- The frame behind a letter. -/
theorem region_gen (h : ∀ A', A' = A → (Code.region id ops true).wp P Q A' w0) : (Code.region id ops true).wp P Q A w0 := h A rfl
theorem wp_letter {o : Oper} {a : Act} {w : World} {K : Act → World → Prop} (h : ∀ K' : Act → World → Prop, (∀ a w, K a w → K' a w) → o.wp P a w K' Q) : o.wp P a w K Q := h K fun _ _ h => h
theorem wpOp_of {i : Nat} {o : Oper} {a : Act} {w : World} {K : Act → World → Prop} (ho : ops[i]? = some o) (hg : o.guard = none) (h : o.wp P a w K Q) : wpOp P ops Q i K a w := by
  unfold wpOp
  rw [ho]
  simp only
  rw [if_pos (by simp [Region.wanted, hg])]
  exact .inl h
end
end Go.Proofs.Ytaehooafdbaomaa
