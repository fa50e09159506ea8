/- Chapter 9 (facts), plain law: the closure by counters is the least one. No program. -/
import Derived.Test.YtbpgolmbielpgaaFacts1
namespace Go.Proofs.Ytbpgolmbielpgaa

namespace Facts
/-- A nonterminal is in the set where all symbols of one of its productions are; of terminals T says so. -/
inductive Gen (ps : List (Int × List Int)) (T : Bool) : Int → Prop
  | mk (x : Int × List Int) (hx : x ∈ ps) (h0 : ∀ s ∈ x.2, s < 0 → T = true) (h1 : ∀ s ∈ x.2, 0 ≤ s → Gen ps T s) : Gen ps T x.1

def inB (bs : List Bool) (x : Int) : Bool := bs.getD x.toNat false
def openS (T : Bool) (dn : Int → Bool) (x : Int) : Bool := if x < 0 then !T else !dn x
/-- In the set, and its uses have been looked at. -/
def dnS (bs : List Bool) (work : List Int) (x : Int) : Bool := inB bs x && !work.contains x

def addB (bs : List Bool) (l : Int) : List Bool := if inB bs l then bs else bs.set l.toNat true
def addW (bs : List Bool) (work : List Int) (l : Int) : List Int := if inB bs l then work else work ++ [l]

theorem inB_set (bs : List Bool) (l x : Int) (hl : 0 ≤ l) (hn : l.toNat < bs.length) (hx : 0 ≤ x) : inB (bs.set l.toNat true) x = (x == l || inB bs x) := by
  unfold inB
  by_cases h : x = l
  · subst h
    simp [List.getD, List.getElem?_set_self hn]
  · have : l.toNat ≠ x.toNat := by omega
    simp [List.getD, List.getElem?_set_ne this, h]

theorem inB_addB (bs : List Bool) (l x : Int) (hl : 0 ≤ l) (hn : l.toNat < bs.length) (hx : 0 ≤ x) : inB (addB bs l) x = (x == l || inB bs x) := by
  unfold addB
  by_cases h : inB bs l = true
  · rw [if_pos h]
    by_cases hxl : x = l
    · subst hxl; simp [h]
    · simp [hxl]
  · rw [if_neg h]; exact inB_set bs l x hl hn hx

theorem addB_length (bs : List Bool) (l : Int) : (addB bs l).length = bs.length := by unfold addB; split <;> simp

theorem dnS_add (bs : List Bool) (work : List Int) (l x : Int) (hl : 0 ≤ l) (hn : l.toNat < bs.length) (hx : 0 ≤ x) : dnS (addB bs l) (addW bs work l) x = dnS bs work x := by
  unfold dnS
  rw [inB_addB bs l x hl hn hx]
  unfold addW
  by_cases h : inB bs l = true
  · rw [if_pos h]
    by_cases hxl : x = l
    · subst hxl; simp [h]
    · have e : (x == l) = false := by simpa using hxl
      simp [e]
  · rw [if_neg h]
    by_cases hxl : x = l
    · subst hxl
      simp only [Bool.not_eq_true] at h
      simp [h]
    · have e : (x == l) = false := by simpa using hxl
      simp [e, hxl]

theorem countP_congr' {p q : Int → Bool} : ∀ (r : List Int), (∀ s ∈ r, p s = q s) → r.countP p = r.countP q
  | [], _ => rfl
  | x :: r, h => by
    rw [List.countP_cons, List.countP_cons, h x (by simp), countP_congr' r (fun s hs => h s (by simp [hs]))]

theorem openS_congr {T : Bool} {d d' : Int → Bool} (h : ∀ x, 0 ≤ x → d x = d' x) (s : Int) : openS T d s = openS T d' s := by
  unfold openS
  split
  · rfl
  · rw [h s (by omega)]

/-- What holds of the set, the counters and the work list; s is being looked at, 'done' of its uses are behind. -/
structure Inv (ps : List (Int × List Int)) (T : Bool) (n : Nat) (bs : List Bool) (ms : List Int) (work : List Int) (ex : Int → Bool) (dn : List Int) : Prop where
  lb : bs.length = n
  lm : ms.length = ps.length
  sound : ∀ a : Int, 0 ≤ a → inB bs a = true → Gen ps T a
  win : ∀ s ∈ work, 0 ≤ s ∧ s < n ∧ inB bs s = true
  nodup : work.Nodup
  cnt : ∀ (i : Nat) x, ps[i]? = some x → ms.getD i 0 = (x.2.countP (openS T (fun y => dnS bs work y && !ex y)) : Int) - dn.count (i : Int)
  zero : ∀ (i : Nat) x, ps[i]? = some x → ms.getD i 0 = 0 → inB bs x.1 = true

/-- While the counters are first filled: those of productions before j are. -/
structure Inv0 (ps : List (Int × List Int)) (T : Bool) (n : Nat) (bs : List Bool) (ms : List Int) (work : List Int) (j : Nat) : Prop where
  lb : bs.length = n
  lm : ms.length = ps.length
  sound : ∀ a : Int, 0 ≤ a → inB bs a = true → Gen ps T a
  win : ∀ s ∈ work, 0 ≤ s ∧ s < n ∧ inB bs s = true
  nodup : work.Nodup
  none : ∀ a : Int, 0 ≤ a → dnS bs work a = false
  cnt : ∀ (i : Nat) x, ps[i]? = some x → i < j → ms.getD i 0 = (x.2.countP (openS T (fun _ => false)) : Int)
  rest : ∀ i : Nat, j ≤ i → ms.getD i 0 = 0
  zero : ∀ (i : Nat) x, ps[i]? = some x → i < j → ms.getD i 0 = 0 → inB bs x.1 = true

section
variable {ps : List (Int × List Int)} {T : Bool} {n : Nat} {bs : List Bool} {ms work us : List Int} {ex : Int → Bool} {dn : List Int} {j : Nat} {s : Int}

theorem Inv0.start (ps : List (Int × List Int)) (T : Bool) (n : Nat) : Inv0 ps T n (List.replicate n false) (List.replicate ps.length 0) [] 0 := by
  have hb : ∀ a : Int, inB (List.replicate n false) a = false := by
    intro a
    unfold inB
    simp [List.getD, List.getElem?_replicate]
    split <;> simp
  refine ⟨by simp, by simp, fun a _ h => (by rw [hb] at h; cases h), by simp, List.nodup_nil, fun a _ => by unfold dnS; rw [hb]; rfl, fun i x _ h => by omega, fun i _ => ?_, fun i x _ h => by omega⟩
  simp [List.getD, List.getElem?_replicate]
  split <;> simp

theorem nodup_addW (hw : work.Nodup) (hi : ∀ s ∈ work, 0 ≤ s ∧ s < n ∧ inB bs s = true) (l : Int) : (addW bs work l).Nodup := by
  unfold addW
  split
  · exact hw
  · rename_i h
    rw [List.nodup_append]
    refine ⟨hw, by simp, fun a ha b hb => ?_⟩
    simp at hb
    subst hb
    rintro rfl
    exact h (hi a ha).2.2

theorem win_add (hi : ∀ s ∈ work, 0 ≤ s ∧ s < n ∧ inB bs s = true) (hlb : bs.length = n) {l : Int} (h0 : 0 ≤ l) (h1 : l < n) : ∀ s ∈ addW bs work l, 0 ≤ s ∧ s < n ∧ inB (addB bs l) s = true := by
  intro s hs
  have hn : l.toNat < bs.length := by omega
  have : s ∈ work ∨ s = l := by
    unfold addW at hs
    split at hs
    · exact .inl hs
    · simpa using hs
  rcases this with h | rfl
  · obtain ⟨a, b, c⟩ := hi s h
    exact ⟨a, b, by rw [inB_addB bs l s h0 hn a]; simp [c]⟩
  · exact ⟨h0, h1, by rw [inB_addB bs s s h0 hn h0]; simp⟩

/-- The counter of production j is filled; its left side is added where that is nought. -/
theorem Inv0.step (h : Inv0 ps T n bs ms work j) {x : Int × List Int} (hx : ps[j]? = some x) (h0 : 0 ≤ x.1) (h1 : x.1 < n) (c : Nat) (hc : c = x.2.countP (openS T (fun _ => false))) :
    Inv0 ps T n (if c = 0 then addB bs x.1 else bs) (ms.set j (c : Int)) (if c = 0 then addW bs work x.1 else work) (j + 1) := by
  have hjm : j < ms.length := by rw [h.lm]; exact (List.getElem?_eq_some_iff.1 hx).1
  have hn : x.1.toNat < bs.length := by rw [h.lb]; omega
  have hcnt : ∀ (i : Nat) y, ps[i]? = some y → i < j + 1 → (ms.set j (c : Int)).getD i 0 = (y.2.countP (openS T (fun _ => false)) : Int) := by
    intro i y hy hi
    by_cases hij : i = j
    · subst hij
      rw [hx] at hy; cases hy
      simp [List.getD, List.getElem?_set_self hjm, hc]
    · rw [← h.cnt i y hy (by omega)]
      simp [List.getD, List.getElem?_set_ne (Ne.symm hij)]
  have hrest : ∀ i : Nat, j + 1 ≤ i → (ms.set j (c : Int)).getD i 0 = 0 := by
    intro i hi
    have e1 : (ms.set j (c : Int)).getD i 0 = ms.getD i 0 := by simp [List.getD, List.getElem?_set_ne (show j ≠ i by omega)]
    rw [e1]
    exact h.rest i (by omega)
  by_cases hc0 : c = 0
  · rw [if_pos hc0, if_pos hc0]
    have hgen : Gen ps T x.1 := by
      refine Gen.mk x (List.mem_of_getElem? hx) (fun s hs hs0 => ?_) (fun s hs hs0 => ?_)
      · have := List.countP_eq_zero.1 (hc ▸ hc0 : x.2.countP (openS T (fun _ => false)) = 0) s hs
        simp [openS, hs0] at this
        exact this
      · have := List.countP_eq_zero.1 (hc ▸ hc0 : x.2.countP (openS T (fun _ => false)) = 0) s hs
        simp [openS, show ¬ s < 0 by omega] at this
    refine ⟨by rw [addB_length]; exact h.lb, by rw [List.length_set]; exact h.lm, fun a ha hb => ?_, win_add h.win h.lb h0 h1, nodup_addW h.nodup h.win _, fun a ha => ?_, hcnt, hrest, fun i y hy hi hz => ?_⟩
    · rw [inB_addB bs x.1 a h0 hn ha] at hb
      by_cases e : a = x.1
      · rw [e]; exact hgen
      · simp [e] at hb; exact h.sound a ha hb
    · rw [dnS_add bs work x.1 a h0 hn ha]; exact h.none a ha
    · by_cases hij : i = j
      · subst hij
        rw [hx] at hy; cases hy
        rw [inB_addB bs x.1 x.1 h0 hn h0]; simp
      · have hz' : ms.getD i 0 = 0 := by
          have : (ms.set j (c : Int)).getD i 0 = ms.getD i 0 := by simp [List.getD, List.getElem?_set_ne (Ne.symm hij)]
          rw [← this]; exact hz
        have hy0 := h.zero i y hy (by omega) hz'
        by_cases hneg : 0 ≤ y.1
        · rw [inB_addB bs x.1 y.1 h0 hn hneg]; simp [hy0]
        · unfold inB at hy0 ⊢
          rw [show y.1.toNat = (0 : Int).toNat by omega] at hy0 ⊢
          have := inB_addB bs x.1 0 h0 hn (by omega)
          unfold inB at this
          rw [this, hy0]; simp
  · rw [if_neg hc0, if_neg hc0]
    refine ⟨h.lb, by rw [List.length_set]; exact h.lm, h.sound, h.win, h.nodup, h.none, hcnt, hrest, fun i y hy hi hz => ?_⟩
    by_cases hij : i = j
    · subst hij
      rw [hcnt i y hy hi] at hz
      rw [hx] at hy; cases hy
      omega
    · have hz' : ms.getD i 0 = 0 := by
        have : (ms.set j (c : Int)).getD i 0 = ms.getD i 0 := by simp [List.getD, List.getElem?_set_ne (Ne.symm hij)]
        rw [← this]; exact hz
      exact h.zero i y hy (by omega) hz'

theorem Inv0.done (h : Inv0 ps T n bs ms work ps.length) : Inv ps T n bs ms work (fun _ => false) [] := by
  refine ⟨h.lb, h.lm, h.sound, h.win, h.nodup, fun i x hx => ?_, fun i x hx hz => h.zero i x hx (List.getElem?_eq_some_iff.1 hx).1 hz⟩
  rw [h.cnt i x hx (List.getElem?_eq_some_iff.1 hx).1, List.count_nil, Int.natCast_zero, Int.sub_zero]
  congr 1
  exact countP_congr' _ fun s _ => openS_congr (fun y hy => by simp [h.none y hy]) s

/-- The last of the work list is taken off. -/
theorem Inv.pop (h : Inv ps T n bs ms (work ++ [s]) (fun _ => false) []) : Inv ps T n bs ms work (fun y => y == s) [] := by
  have hs := h.win s (by simp)
  have hnd := List.nodup_append.1 h.nodup
  refine ⟨h.lb, h.lm, h.sound, fun a ha => h.win a (by simp [ha]), hnd.1, fun i x hx => ?_, h.zero⟩
  rw [h.cnt i x hx]
  congr 2
  refine countP_congr' _ fun a _ => openS_congr (fun y hy => ?_) a
  unfold dnS
  by_cases e : y = s
  · subst e; simp
  · simp [e]

/-- All uses of s have been looked at. -/
theorem Inv.end (h : Inv ps T n bs ms work (fun y => y == s) us) (hw : s ∉ work) (hs : inB bs s = true) (h0 : 0 ≤ s) (hu : ∀ (i : Nat) x, ps[i]? = some x → us.count (i : Int) = x.2.count s) : Inv ps T n bs ms work (fun _ => false) [] := by
  refine ⟨h.lb, h.lm, h.sound, h.win, h.nodup, fun i x hx => ?_, h.zero⟩
  rw [h.cnt i x hx, hu i x hx, List.count_nil, Int.natCast_zero, Int.sub_zero]
  have : ∀ r : List Int, r.countP (openS T fun y => dnS bs work y && !(y == s)) = r.countP (openS T fun y => dnS bs work y && !false) + r.count s := by
    intro r
    induction r with
    | nil => rfl
    | cons a r ih =>
      rw [List.countP_cons, List.countP_cons, List.count_cons, ih]
      by_cases e : a = s
      · subst e
        have hd : dnS bs work a = true := by unfold dnS; simp [hs, hw]
        simp [openS, show ¬ a < 0 by omega, hd]
        omega
      · have : openS T (fun y => dnS bs work y && !(y == s)) a = openS T (fun y => dnS bs work y && !false) a := by
          have e' : (a == s) = false := by simpa using e
          unfold openS
          simp [e']
        rw [this]
        simp [e]
        omega
  rw [this]
  omega

/-- One use: its counter goes down; its left side is added where that is nought. -/
theorem Inv.step (h : Inv ps T n bs ms work (fun y => y == s) dn) (hw : s ∉ work) (hs : inB bs s = true) (h0s : 0 ≤ s) {i : Nat} {x : Int × List Int} (hx : ps[i]? = some x) (h0 : 0 ≤ x.1) (h1 : x.1 < n)
    (hle : dn.count (i : Int) + 1 ≤ x.2.count s) (c : Int) (hc : c = ms.getD i 0 - 1) :
    Inv ps T n (if c = 0 then addB bs x.1 else bs) (ms.set i c) (if c = 0 then addW bs work x.1 else work) (fun y => y == s) (dn ++ [(i : Int)]) ∧ 0 ≤ c := by
  have him : i < ms.length := by rw [h.lm]; exact (List.getElem?_eq_some_iff.1 hx).1
  have hn : x.1.toNat < bs.length := by rw [h.lb]; omega
  have hci := h.cnt i x hx
  have hge : ∀ r : List Int, r.count s ≤ r.countP (openS T fun y => dnS bs work y && !(y == s)) := by
    intro r
    rw [List.count]
    exact List.countP_mono_left fun a _ ha => by
      simp at ha
      subst ha
      simp [openS, show ¬ a < 0 by omega]
  have hgi := hge x.2
  have hc0' : 0 ≤ c := by omega
  refine ⟨?_, hc0'⟩
  have hcnt : ∀ (d : Int → Bool), (∀ y, 0 ≤ y → d y = (dnS bs work y && !(y == s))) → ∀ (k : Nat) y, ps[k]? = some y → (ms.set i c).getD k 0 = (y.2.countP (openS T d) : Int) - (dn ++ [(i : Int)]).count (k : Int) := by
    intro d hd k y hy
    rw [countP_congr' (q := openS T fun y => dnS bs work y && !(y == s)) _ (fun a _ => openS_congr hd a)]
    by_cases hki : k = i
    · subst hki
      rw [hx] at hy; cases hy
      simp only [List.getD, List.getElem?_set_self him, Option.getD_some, List.count_append, List.count_singleton]
      simp
      omega
    · have e1 : (ms.set i c).getD k 0 = ms.getD k 0 := by simp [List.getD, List.getElem?_set_ne (Ne.symm hki)]
      rw [e1, h.cnt k y hy, List.count_append, List.count_singleton]
      have : ((i : Int) == (k : Int)) = false := by simp; omega
      rw [this]
      simp
  have hzero : ∀ (bs' : List Bool), (∀ y : Int, inB bs y = true → inB bs' y = true) → (c = 0 → inB bs' x.1 = true) → ∀ (k : Nat) y, ps[k]? = some y → (ms.set i c).getD k 0 = 0 → inB bs' y.1 = true := by
    intro bs' hb hc0 k y hy hz
    by_cases hki : k = i
    · subst hki
      rw [hx] at hy; cases hy
      simp only [List.getD, List.getElem?_set_self him, Option.getD_some] at hz
      exact hc0 hz
    · have e1 : (ms.set i c).getD k 0 = ms.getD k 0 := by simp [List.getD, List.getElem?_set_ne (Ne.symm hki)]
      rw [e1] at hz
      exact hb _ (h.zero k y hy hz)
  by_cases hc0 : c = 0
  · rw [if_pos hc0, if_pos hc0]
    have heq : x.2.countP (openS T fun y => dnS bs work y && !(y == s)) = x.2.count s := by omega
    have hall : ∀ r : List Int, r.countP (openS T fun y => dnS bs work y && !(y == s)) = r.count s → ∀ a ∈ r, openS T (fun y => dnS bs work y && !(y == s)) a = true → a = s := by
      intro r
      induction r with
      | nil => intro _ a ha; simp at ha
      | cons b r ih =>
        intro he a ha hop
        have hgr := hge r
        rw [List.countP_cons, List.count_cons] at he
        by_cases hb : b = s
        · subst hb
          have : openS T (fun y => dnS bs work y && !(y == b)) b = true := by simp [openS, show ¬ b < 0 by omega]
          rw [this] at he
          simp at he
          rcases List.mem_cons.1 ha with rfl | ha
          · rfl
          · exact ih he a ha hop
        · have : (b == s) = false := by simp [hb]
          rw [this] at he
          by_cases ho : openS T (fun y => dnS bs work y && !(y == s)) b = true
          · rw [ho] at he; simp at he; omega
          · simp only [Bool.not_eq_true] at ho
            rw [ho] at he
            simp at he
            rcases List.mem_cons.1 ha with rfl | ha
            · rw [ho] at hop; cases hop
            · exact ih he a ha hop
    have hgen : Gen ps T x.1 := by
      refine Gen.mk x (List.mem_of_getElem? hx) (fun a ha ha0 => ?_) (fun a ha ha0 => ?_)
      · cases hT : T
        · have := hall x.2 heq a ha (by simp [openS, ha0, hT])
          omega
        · rfl
      · by_cases ho : openS T (fun y => dnS bs work y && !(y == s)) a = true
        · rw [hall x.2 heq a ha ho]; exact h.sound s h0s hs
        · simp [openS, show ¬ a < 0 by omega, dnS] at ho
          exact h.sound a ha0 ho.1.1
    have hmono : ∀ y : Int, inB bs y = true → inB (addB bs x.1) y = true := by
      intro y hy
      by_cases hy0 : 0 ≤ y
      · rw [inB_addB bs x.1 y h0 hn hy0]; simp [hy]
      · have := inB_addB bs x.1 0 h0 hn (by omega)
        unfold inB at this hy ⊢
        rw [show y.toNat = (0 : Int).toNat by omega] at hy ⊢
        rw [this, hy]; simp
    refine ⟨by rw [addB_length]; exact h.lb, by rw [List.length_set]; exact h.lm, fun a ha hb => ?_, win_add h.win h.lb h0 h1, nodup_addW h.nodup h.win _, hcnt _ (fun y hy => by rw [dnS_add bs work x.1 y h0 hn hy]), hzero _ hmono (fun _ => by rw [inB_addB bs x.1 x.1 h0 hn h0]; simp)⟩
    rw [inB_addB bs x.1 a h0 hn ha] at hb
    by_cases e : a = x.1
    · rw [e]; exact hgen
    · simp [e] at hb; exact h.sound a ha hb
  · rw [if_neg hc0, if_neg hc0]
    exact ⟨h.lb, by rw [List.length_set]; exact h.lm, h.sound, h.win, h.nodup, hcnt _ (fun y _ => rfl), hzero _ (fun _ h => h) (fun e => absurd e hc0)⟩

theorem step_notin (hw : s ∉ work) (hs : inB bs s = true) (l : Int) : s ∉ addW bs work l := by
  unfold addW
  split
  · exact hw
  · rename_i h
    simp only [List.mem_append, List.mem_singleton, not_or]
    exact ⟨hw, fun e => h (by rw [← e]; exact hs)⟩

theorem inB_mono (hlb : bs.length = n) {l : Int} (h0 : 0 ≤ l) (h1 : l < n) {y : Int} (hy0 : 0 ≤ y) (hy : inB bs y = true) : inB (addB bs l) y = true := by
  rw [inB_addB bs l y h0 (by omega) hy0]; simp [hy]

/-- Nothing is left to do: the set is the least one. -/
theorem Inv.least (h : Inv ps T n bs ms [] (fun _ => false) []) (_hr : ∀ x ∈ ps, 0 ≤ x.1) : ∀ a : Int, 0 ≤ a → (inB bs a = true ↔ Gen ps T a) := by
  intro a ha
  refine ⟨h.sound a ha, fun hg => ?_⟩
  clear ha
  induction hg with
  | mk x hx h0 h1 ih =>
    obtain ⟨i, hi⟩ := List.getElem?_of_mem hx
    refine h.zero i x hi ?_
    rw [h.cnt i x hi]
    have : x.2.countP (openS T fun y => dnS bs [] y && !false) = 0 := by
      rw [List.countP_eq_zero]
      intro s hs
      unfold openS
      split
      · rename_i hneg; simp [h0 s hs hneg]
      · rename_i hneg
        have := ih s hs (by omega)
        simp [dnS, this]
    rw [this]
    simp
end

/-- The uses of a nonterminal, in order. -/
def usesOf (a : Nat) (i : Nat) : List (Int × List Int) → List Int
  | [] => []
  | x :: r => List.replicate (x.2.count (a : Int)) (i : Int) ++ usesOf a (i + 1) r

theorem stepU_length (ls : List (List Int)) (i s : Int) : (stepU ls i s).length = ls.length := by unfold stepU; split <;> simp
theorem rowU_length (i : Int) : ∀ (r : List Int) (ls : List (List Int)), (rowU ls i r).length = ls.length
  | [], ls => rfl
  | s :: r, ls => by rw [rowU, rowU_length i r, stepU_length]
theorem usesS_length : ∀ (ps : List (Int × List Int)) (ls : List (List Int)) (i : Nat), (usesS ls i ps).length = ls.length
  | [], ls, i => rfl
  | x :: r, ls, i => by rw [usesS, usesS_length r, rowU_length]

theorem stepU_at (ls : List (List Int)) (i s : Int) (a : Nat) (hs : s < ls.length) (ha : a < ls.length) : (stepU ls i s).getD a [] = ls.getD a [] ++ (if s = (a : Int) then [i] else []) := by
  unfold stepU
  by_cases h0 : 0 ≤ s
  · rw [if_pos h0]
    by_cases e : s = (a : Int)
    · subst e
      simp [List.getD, List.getElem?_set_self (show a < ls.length from ha), List.getElem?_eq_getElem ha]
    · have : s.toNat ≠ a := by omega
      simp [List.getD, List.getElem?_set_ne this, e]
  · rw [if_neg h0, if_neg (by omega)]; simp

theorem rowU_at (i : Int) (a : Nat) : ∀ (r : List Int) (ls : List (List Int)), (∀ s ∈ r, s < ls.length) → a < ls.length → (rowU ls i r).getD a [] = ls.getD a [] ++ List.replicate (r.count (a : Int)) i
  | [], ls, _, _ => by simp [rowU]
  | s :: r, ls, h, ha => by
    rw [rowU, rowU_at i a r _ (by rw [stepU_length]; exact fun t ht => h t (by simp [ht])) (by rw [stepU_length]; exact ha), stepU_at ls i s a (h s (by simp)) ha, List.append_assoc, List.count_cons]
    congr 1
    by_cases e : s = (a : Int)
    · subst e
      simp [List.replicate_succ]
    · have e' : (s == (a : Int)) = false := by simpa using e
      simp [e]

theorem usesS_at (a : Nat) : ∀ (ps : List (Int × List Int)) (ls : List (List Int)) (i : Nat), (∀ x ∈ ps, ∀ s ∈ x.2, s < ls.length) → a < ls.length → (usesS ls i ps).getD a [] = ls.getD a [] ++ usesOf a i ps
  | [], ls, i, _, _ => by simp [usesS, usesOf]
  | x :: r, ls, i, h, ha => by
    rw [usesS, usesS_at a r _ (i + 1) (by rw [rowU_length]; exact fun y hy => h y (by simp [hy])) (by rw [rowU_length]; exact ha), rowU_at (i : Int) a x.2 ls (h x (by simp)) ha, usesOf, List.append_assoc]

theorem usesOf_mem (a : Nat) : ∀ (ps : List (Int × List Int)) (i : Nat) (e : Int), e ∈ usesOf a i ps → ∃ (k : Nat) (x : Int × List Int), e = ((i + k : Nat) : Int) ∧ ps[k]? = some x
  | [], i, e, h => by simp [usesOf] at h
  | x :: r, i, e, h => by
    rcases List.mem_append.1 h with h | h
    · exact ⟨0, x, by rw [(List.mem_replicate.1 h).2]; rfl, rfl⟩
    · obtain ⟨k, y, h1, h2⟩ := usesOf_mem a r (i + 1) e h
      exact ⟨k + 1, y, by rw [h1]; omega, h2⟩

theorem usesOf_count (a : Nat) : ∀ (ps : List (Int × List Int)) (i k : Nat) (x : Int × List Int), ps[k]? = some x → (usesOf a i ps).count ((i + k : Nat) : Int) = x.2.count (a : Int)
  | y :: r, i, 0, x, h => by
    simp at h
    subst h
    rw [usesOf, List.count_append, List.count_replicate]
    have : (usesOf a (i + 1) r).count ((i + 0 : Nat) : Int) = 0 := by
      rw [List.count_eq_zero]
      intro hm
      obtain ⟨k, _, h1, _⟩ := usesOf_mem a r (i + 1) _ hm
      omega
    rw [this]
    simp
  | y :: r, i, k + 1, x, h => by
    rw [usesOf, List.count_append, List.count_replicate]
    have : ((i : Int) == ((i + (k + 1) : Nat) : Int)) = false := by simp; omega
    rw [this]
    have := usesOf_count a r (i + 1) k x (by simpa using h)
    rw [show i + (k + 1) = i + 1 + k by omega, this]
    simp

/-- What uses gives, of nonterminal a. -/
theorem uses_all {n : Nat} {ps : List (Int × List Int)} (h : ∀ x ∈ ps, ∀ s ∈ x.2, s < (n : Int)) {a : Nat} (ha : a < n) : (usesS (List.replicate n []) 0 ps)[a]? = some (usesOf a 0 ps) := by
  have h1 := usesS_at a ps (List.replicate n []) 0 (by simpa using h) (by simpa using ha)
  have hl : a < (usesS (List.replicate n []) 0 ps).length := by rw [usesS_length]; simpa using ha
  rw [List.getElem?_eq_getElem hl]
  simp [List.getD, List.getElem?_eq_getElem hl, ha] at h1
  rw [h1]

/-- How much is left to do. -/
def msr (bs : List Bool) (work : List Int) : Nat := 2 * bs.count false + work.length
theorem count_set_true : ∀ (bs : List Bool) (a : Nat), bs[a]? = some false → (bs.set a true).count false + 1 = bs.count false
  | [], a, h => by simp at h
  | b :: r, 0, h => by simp at h; subst h; simp
  | b :: r, a + 1, h => by
    have := count_set_true r a (by simpa using h)
    rw [List.set_cons_succ, List.count_cons, List.count_cons]
    omega
theorem msr_add (bs : List Bool) (work : List Int) (l : Int) (hl : l.toNat < bs.length) : msr (addB bs l) (addW bs work l) ≤ msr bs work := by
  unfold msr addB addW
  by_cases h : inB bs l = true
  · rw [if_pos h, if_pos h]; exact Nat.le_refl _
  · rw [if_neg h, if_neg h]
    have h2 : bs[l.toNat]? = some false := by
      rw [List.getElem?_eq_getElem hl]
      unfold inB at h
      simp [List.getD, List.getElem?_eq_getElem hl] at h
      simp [h]
    have := count_set_true bs l.toNat h2
    simp
    omega
theorem take_count {us : List Int} {j : Nat} (hj : j < us.length) : (us.take j).count us[j] + 1 ≤ us.count us[j] := by
  have h : us.count us[j] = (us.take j).count us[j] + (us.drop j).count us[j] := by rw [← List.count_append, List.take_append_drop]
  rw [h, List.drop_eq_getElem_cons hj, List.count_cons]
  simp
theorem take_snoc (us : List Int) (j : Nat) (hj : j < us.length) : us.take (j + 1) = us.take j ++ [us[j]] := List.take_succ_eq_append_getElem hj
theorem usesOf_length (a : Nat) : ∀ (ps : List (Int × List Int)) (i : Nat), (∀ x ∈ ps, x.2.length ≤ 16) → (usesOf a i ps).length ≤ 16 * ps.length
  | [], _, _ => by simp [usesOf]
  | x :: r, i, h => by
    have h1 := usesOf_length a r (i + 1) (fun y hy => h y (by simp [hy]))
    have h2 := h x (by simp)
    have h3 : x.2.count (a : Int) ≤ x.2.length := List.count_le_length
    rw [usesOf, List.length_append, List.length_replicate, List.length_cons]
    omega
end Facts
end Go.Proofs.Ytbpgolmbielpgaa
