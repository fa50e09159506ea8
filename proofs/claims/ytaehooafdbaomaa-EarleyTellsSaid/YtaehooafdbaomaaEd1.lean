/- Chapter 17 (earley): words that are derived, items, what is closed. Plain lists. -/
import Derived.Test.YtaehooafdbaomaaTree0
import Derived.Test.YtaehooafdbaomaaShoGen
namespace Go.Proofs.Ytaehooafdbaomaa
namespace Ed

/-- What symbols derive. -/
inductive Dw (ps : List (Int × List Int)) : List Int → List Int → Prop
  | nil : Dw ps [] []
  | term {s : Int} {xs z : List Int} : s < 0 → Dw ps xs z → Dw ps (s :: xs) ((-1 - s) :: z)
  | prod {s : Int} {R xs z1 z2 : List Int} : 0 ≤ s → (s, R) ∈ ps → Dw ps R z1 → Dw ps xs z2 → Dw ps (s :: xs) (z1 ++ z2)
section
variable {ps : List (Int × List Int)}
theorem Dw.app {xs ys a b : List Int} (h : Dw ps xs a) (k : Dw ps ys b) : Dw ps (xs ++ ys) (a ++ b) := by
  induction h with
  | nil => exact k
  | term hs _ ih => exact .term hs ih
  | prod h0 hp h1 _ _ ih2 => rw [List.append_assoc]; exact .prod h0 hp h1 ih2
theorem Dw.one {s : Int} {R z : List Int} (h0 : 0 ≤ s) (hp : (s, R) ∈ ps) (h : Dw ps R z) : Dw ps [s] z := by
  have := Dw.prod h0 hp h .nil
  rwa [List.append_nil] at this
theorem Dw.inv {s : Int} {z : List Int} (h : Dw ps [s] z) (h0 : 0 ≤ s) : ∃ R, (s, R) ∈ ps ∧ Dw ps R z := by
  cases h with
  | term hs => omega
  | prod _ hp h1 h2 =>
    cases h2
    rw [List.append_nil]
    exact ⟨_, hp, h1⟩
theorem Dw.each {xs z : List Int} (h : Dw ps xs z) : ∀ s ∈ xs, ∃ y, Dw ps [s] y := by
  induction h with
  | nil => intro s hs; cases hs
  | @term s xs z hs _ ih =>
    intro t ht
    rcases List.mem_cons.1 ht with rfl | ht
    · exact ⟨_, .term hs .nil⟩
    · exact ih t ht
  | @prod s R xs z1 z2 h0 hp h1 _ _ ih2 =>
    intro t ht
    rcases List.mem_cons.1 ht with rfl | ht
    · exact ⟨_, .one h0 hp h1⟩
    · exact ih2 t ht
theorem Dw.all : ∀ {xs : List Int}, (∀ s ∈ xs, ∃ y, Dw ps [s] y) → ∃ z, Dw ps xs z
  | [], _ => ⟨[], .nil⟩
  | s :: xs, h => by
    obtain ⟨y, hy⟩ := h s (List.mem_cons_self ..)
    obtain ⟨z, hz⟩ := Dw.all (xs := xs) (fun t ht => h t (List.mem_cons_of_mem _ ht))
    exact ⟨y ++ z, hy.app hz⟩
/-- All of whose symbols derive a word. -/
def Fine (ps : List (Int × List Int)) (R : List Int) : Prop := ∀ s ∈ R, ∃ y, Dw ps [s] y
/-- A beginning of what symbols derive. -/
def Pre (ps : List (Int × List Int)) (xs z : List Int) : Prop := ∃ y, Dw ps xs (z ++ y)
/-- An item of a place: a production, how many of its symbols are behind, where it began. -/
inductive It (ps : List (Int × List Int)) (st : Int) (word : List Int) : Nat → Nat → Nat → Nat → Prop
  | start {p : Nat} {R : List Int} : ps[p]? = some (st, R) → Fine ps R → It ps st word 0 p 0 0
  | pred {i p d f q : Nat} {l s : Int} {R R' : List Int} : It ps st word i p d f → ps[p]? = some (l, R) → R[d]? = some s → 0 ≤ s → ps[q]? = some (s, R') → Fine ps R' → It ps st word i q 0 i
  | scan {i p d f : Nat} {l s : Int} {R : List Int} : It ps st word i p d f → ps[p]? = some (l, R) → R[d]? = some s → s < 0 → word[i]? = some (-1 - s) → It ps st word (i + 1) p (d + 1) f
  | comp {i j q p d f : Nat} {l l' : Int} {R R' : List Int} : It ps st word i q R'.length j → ps[q]? = some (l', R') → It ps st word j p d f → ps[p]? = some (l, R) → R[d]? = some l' → It ps st word i p (d + 1) f
variable {st : Int} {word : List Int}
theorem cut {i m j : Nat} (h1 : i ≤ m) (h2 : m ≤ j) : (word.drop i).take (j - i) = (word.drop i).take (m - i) ++ (word.drop m).take (j - m) := by
  rw [show j - i = (m - i) + (j - m) by omega, List.take_add, List.drop_drop, show i + (m - i) = m by omega]
/-- What an item says. -/
structure Says (ps : List (Int × List Int)) (st : Int) (word : List Int) (i p d f : Nat) (l : Int) (R : List Int) : Prop where
  at_ : ps[p]? = some (l, R)
  fine : Fine ps R
  dot : d ≤ R.length
  from_ : f ≤ i
  to_ : i ≤ word.length
  der : Dw ps (R.take d) ((word.drop f).take (i - f))
  ctx : ∀ z, Dw ps [l] z → ∃ y, Dw ps [st] (word.take f ++ z ++ y)
theorem take_snoc {R : List Int} {d : Nat} {s : Int} (h : R[d]? = some s) : R.take (d + 1) = R.take d ++ [s] := by
  obtain ⟨h1, h2⟩ := List.getElem?_eq_some_iff.1 h
  rw [List.take_succ_eq_append_getElem h1, h2]
theorem drop_cons {R : List Int} {d : Nat} {s : Int} (h : R[d]? = some s) : R.drop d = s :: R.drop (d + 1) := by
  obtain ⟨h1, h2⟩ := List.getElem?_eq_some_iff.1 h
  rw [List.drop_eq_getElem_cons h1, h2]
theorem It.says (h0 : ∀ x ∈ ps, 0 ≤ x.1) {i p d f : Nat} (h : It ps st word i p d f) : ∃ l R, Says ps st word i p d f l R := by
  induction h with
  | @start p R hp hf => exact ⟨st, R, hp, hf, Nat.zero_le _, Nat.le_refl _, Nat.zero_le _, by simpa using Dw.nil, fun z hz => ⟨[], by simpa using hz⟩⟩
  | @pred i p d f q l s R R' _ hp hd hs hq hf ih =>
    obtain ⟨l1, R1, h⟩ := ih
    rw [h.at_] at hp
    injection hp with hp
    injection hp with e1 e2
    subst e1 e2
    refine ⟨s, R', hq, hf, Nat.zero_le _, Nat.le_refl _, h.to_, by simpa using Dw.nil, fun z hz => ?_⟩
    obtain ⟨zr, hzr⟩ := Dw.all (ps := ps) (xs := R1.drop (d + 1)) (fun t ht => h.fine t (List.mem_of_mem_drop ht))
    have h1 : Dw ps R1 ((word.drop f).take (i - f) ++ (z ++ zr)) := by
      have := h.der.app (hz.app hzr)
      rw [List.singleton_append, ← drop_cons hd, List.take_append_drop] at this
      exact this
    obtain ⟨y, hy⟩ := h.ctx _ (Dw.one (h0 _ (List.mem_of_getElem? h.at_)) (List.mem_of_getElem? h.at_) h1)
    refine ⟨zr ++ y, ?_⟩
    have e : word.take i = word.take f ++ (word.drop f).take (i - f) := by
      have := cut (word := word) (Nat.zero_le f) h.from_
      simpa using this
    rw [e]
    simpa using hy
  | @scan i p d f l s R _ hp hd hs hw ih =>
    obtain ⟨l1, R1, h⟩ := ih
    rw [h.at_] at hp
    injection hp with hp
    injection hp with e1 e2
    subst e1 e2
    have hi := (List.getElem?_eq_some_iff.1 hw).1
    refine ⟨l1, R1, h.at_, h.fine, (List.getElem?_eq_some_iff.1 hd).1, by have := h.from_; omega, hi, ?_, h.ctx⟩
    rw [take_snoc hd, cut h.from_ (Nat.le_succ i), show i + 1 - i = 1 by omega]
    refine h.der.app ?_
    rw [List.drop_eq_getElem_cons hi, (List.getElem?_eq_some_iff.1 hw).2]
    exact .term hs .nil
  | @comp i j q p d f l l' R R' _ hq _ hp hd ih1 ih2 =>
    obtain ⟨l1, R1, h⟩ := ih1
    obtain ⟨l2, R2, k⟩ := ih2
    rw [h.at_] at hq
    injection hq with hq
    injection hq with e1 e2
    subst e1 e2
    rw [k.at_] at hp
    injection hp with hp
    injection hp with e1 e2
    subst e1 e2
    refine ⟨l2, R2, k.at_, k.fine, (List.getElem?_eq_some_iff.1 hd).1, Nat.le_trans k.from_ h.from_, h.to_, ?_, k.ctx⟩
    rw [take_snoc hd, cut k.from_ h.from_]
    refine k.der.app (Dw.one (h0 _ (List.mem_of_getElem? h.at_)) (List.mem_of_getElem? h.at_) ?_)
    have := h.der
    rwa [List.take_length] at this
/-- An item goes on over what its next symbols derive. -/
theorem It.walk {xs z : List Int} (hz : Dw ps xs z) : ∀ {i p d f : Nat} {l : Int} {R rest : List Int}, It ps st word i p d f → ps[p]? = some (l, R) → R.drop d = xs ++ rest → (word.drop i).take z.length = z → It ps st word (i + z.length) p (d + xs.length) f := by
  induction hz with
  | nil => intro i p d f l R rest h _ _ _; exact h
  | @term s xs z hs _ ih =>
    intro i p d f l R rest h hp hd hw
    have hd2 : R[d]? = some s := by
      have := congrArg (fun a => a[0]?) hd
      simpa using this
    rw [List.length_cons] at hw
    have hw1 : word[i]? = some (-1 - s) := by
      have := congrArg (fun a => a[0]?) hw
      rw [List.getElem?_take_of_lt (by omega)] at this
      simpa using this
    have hw2 : (word.drop (i + 1)).take z.length = z := by
      have := congrArg (fun a => a.drop 1) hw
      rw [List.drop_take, List.drop_drop] at this
      simpa using this
    have h2 := ih (h.scan hp hd2 hs hw1) hp (rest := rest) (by
      have := drop_cons hd2
      rw [this] at hd
      simpa using hd) hw2
    rw [List.length_cons, List.length_cons, show i + (z.length + 1) = i + 1 + z.length by omega, show d + (xs.length + 1) = d + 1 + xs.length by omega]
    exact h2
  | @prod s R' xs z1 z2 h0 hq h1 _ ih1 ih2 =>
    intro i p d f l R rest h hp hd hw
    have hd2 : R[d]? = some s := by
      have := congrArg (fun a => a[0]?) hd
      simpa using this
    obtain ⟨q, hqi⟩ := List.mem_iff_getElem?.1 hq
    rw [List.length_append] at hw
    have hw1 : (word.drop i).take z1.length = z1 := by
      have := congrArg (fun a => a.take z1.length) hw
      rw [List.take_take, show min z1.length (z1.length + z2.length) = z1.length by omega] at this
      simpa using this
    have hw2 : (word.drop (i + z1.length)).take z2.length = z2 := by
      have := congrArg (fun a => a.drop z1.length) hw
      rw [List.drop_take, List.drop_drop, show z1.length + z2.length - z1.length = z2.length by omega] at this
      simpa using this
    have k1 := ih1 (h.pred hp hd2 h0 hqi h1.each) hqi (rest := []) (by simp) hw1
    rw [Nat.zero_add] at k1
    have k2 := ih2 (k1.comp hqi h hp hd2) hp (rest := rest) (by
      have := drop_cons hd2
      rw [this] at hd
      simpa using hd) hw2
    rw [List.length_cons, List.length_append, show i + (z1.length + z2.length) = i + z1.length + z2.length by omega, show d + (xs.length + 1) = d + 1 + xs.length by omega]
    exact k2
/-- .. up to a place within: there an item awaits the terminal that comes. -/
theorem It.meet {xs z : List Int} (hz : Dw ps xs z) : ∀ {i p d f : Nat} {l : Int} {R rest z0 y : List Int} {t : Int}, It ps st word i p d f → ps[p]? = some (l, R) → R.drop d = xs ++ rest → z = z0 ++ t :: y → (word.drop i).take z0.length = z0 →
    ∃ p' d' f' l' R', It ps st word (i + z0.length) p' d' f' ∧ ps[p']? = some (l', R') ∧ R'[d']? = some (-1 - t) := by
  induction hz with
  | nil => intro i p d f l R rest z0 y t _ _ _ he; simp at he
  | @term s xs z hs _ ih =>
    intro i p d f l R rest z0 y t h hp hd he hw
    have hd2 : R[d]? = some s := by
      have := congrArg (fun a => a[0]?) hd
      simpa using this
    cases z0 with
    | nil =>
      simp only [List.nil_append, List.cons.injEq] at he
      exact ⟨p, d, f, l, R, h, hp, by rw [hd2]; congr 1; omega⟩
    | cons a z0 =>
      simp only [List.cons_append, List.cons.injEq] at he
      obtain ⟨e1, e2⟩ := he
      rw [List.length_cons] at hw
      have hw1 : word[i]? = some (-1 - s) := by
        have := congrArg (fun a => a[0]?) hw
        rw [List.getElem?_take_of_lt (by omega)] at this
        rw [e1]
        simpa using this
      have hw2 : (word.drop (i + 1)).take z0.length = z0 := by
        have := congrArg (fun a => a.drop 1) hw
        rw [List.drop_take, List.drop_drop] at this
        simpa using this
      have h2 := ih (h.scan hp hd2 hs hw1) hp (rest := rest) (by
        have := drop_cons hd2
        rw [this] at hd
        simpa using hd) e2 hw2
      rw [List.length_cons, show i + (z0.length + 1) = i + 1 + z0.length by omega]
      exact h2
  | @prod s R' xs z1 z2 h0 hq h1 _ ih1 ih2 =>
    intro i p d f l R rest z0 y t h hp hd he hw
    have hd2 : R[d]? = some s := by
      have := congrArg (fun a => a[0]?) hd
      simpa using this
    obtain ⟨q, hqi⟩ := List.mem_iff_getElem?.1 hq
    have hpr := h.pred hp hd2 h0 hqi h1.each
    have hcase : (∃ y1, z1 = z0 ++ t :: y1) ∨ ∃ z3, z0 = z1 ++ z3 ∧ z2 = z3 ++ t :: y := by
      rcases List.append_eq_append_iff.1 he with ⟨a, e1, e2⟩ | ⟨b, e1, e2⟩
      · exact .inr ⟨a, e1, e2⟩
      · cases b with
        | nil => exact .inr ⟨[], by simpa using e1.symm, by simpa using e2.symm⟩
        | cons c b =>
          injection e2 with e3 e4
          exact .inl ⟨b, by rw [e1, e3]⟩
    rcases hcase with ⟨y1, hy1⟩ | ⟨z3, hz3, he2⟩
    · exact ih1 hpr hqi (rest := []) (by simp) hy1 hw
    · subst hz3
      rw [List.length_append] at hw
      have hw1 : (word.drop i).take z1.length = z1 := by
        have := congrArg (fun a => a.take z1.length) hw
        rw [List.take_take, show min z1.length (z1.length + z3.length) = z1.length by omega] at this
        simpa using this
      have hw2 : (word.drop (i + z1.length)).take z3.length = z3 := by
        have := congrArg (fun a => a.drop z1.length) hw
        rw [List.drop_take, List.drop_drop, show z1.length + z3.length - z1.length = z3.length by omega] at this
        simpa using this
      have k1 := It.walk h1 hpr hqi (rest := []) (by simp) hw1
      rw [Nat.zero_add] at k1
      have k2 := ih2 (k1.comp hqi h hp hd2) hp (rest := rest) (by
        have := drop_cons hd2
        rw [this] at hd
        simpa using hd) he2 hw2
      rw [List.length_append, ← Nat.add_assoc]
      exact k2
theorem take_front {n : Nat} (h : n ≤ word.length) : (word.drop 0).take (word.take n).length = word.take n := by simp [Nat.min_eq_left h]
/-- A word ends where an item of the start's is whole. -/
theorem ends_iff (h0 : ∀ x ∈ ps, 0 ≤ x.1) (hst : 0 ≤ st) {n : Nat} (hn : n ≤ word.length) : Dw ps [st] (word.take n) ↔ ∃ p R, It ps st word n p R.length 0 ∧ ps[p]? = some (st, R) := by
  constructor
  · intro h
    obtain ⟨R, hR, hd⟩ := h.inv hst
    obtain ⟨p, hp⟩ := List.mem_iff_getElem?.1 hR
    have := It.walk hd (It.start hp hd.each) hp (rest := []) (by simp) (take_front hn)
    rw [List.length_take, Nat.min_eq_left hn, Nat.zero_add, Nat.zero_add] at this
    exact ⟨p, R, this, hp⟩
  · rintro ⟨p, R, h, hp⟩
    obtain ⟨l, R1, s⟩ := h.says h0
    rw [s.at_] at hp
    injection hp with hp
    injection hp with e1 e2
    subst e1 e2
    have := s.der
    rw [List.take_length, List.drop_zero, Nat.sub_zero] at this
    exact Dw.one hst (List.mem_of_getElem? s.at_) this
/-- A terminal may come where an item awaits it. -/
theorem next_iff (h0 : ∀ x ∈ ps, 0 ≤ x.1) (hst : 0 ≤ st) {n : Nat} (hn : n ≤ word.length) {t : Int} (ht : 0 ≤ t) : Pre ps [st] (word.take n ++ [t]) ↔ ∃ p d f l R, It ps st word n p d f ∧ ps[p]? = some (l, R) ∧ R[d]? = some (-1 - t) := by
  constructor
  · rintro ⟨y, h⟩
    obtain ⟨R, hR, hd⟩ := h.inv hst
    obtain ⟨p, hp⟩ := List.mem_iff_getElem?.1 hR
    have := It.meet hd (It.start hp hd.each) hp (rest := []) (by simp) (z0 := word.take n) (y := y) (t := t) (by simp) (take_front hn)
    rw [List.length_take, Nat.min_eq_left hn, Nat.zero_add] at this
    exact this
  · rintro ⟨p, d, f, l, R, h, hp, hd⟩
    obtain ⟨l1, R1, s⟩ := h.says h0
    rw [s.at_] at hp
    injection hp with hp
    injection hp with e1 e2
    subst e1 e2
    obtain ⟨zr, hzr⟩ := Dw.all (ps := ps) (xs := R1.drop (d + 1)) (fun t ht => s.fine t (List.mem_of_mem_drop ht))
    have h1 : Dw ps R1 ((word.drop f).take (n - f) ++ (t :: zr)) := by
      have h2 : Dw ps ((-1 - t) :: R1.drop (d + 1)) (t :: zr) := by
        have := Dw.term (s := -1 - t) (by omega) hzr
        rwa [show -1 - (-1 - t) = t by omega] at this
      have := s.der.app h2
      rw [← drop_cons hd, List.take_append_drop] at this
      exact this
    obtain ⟨y, hy⟩ := s.ctx _ (Dw.one (h0 _ (List.mem_of_getElem? s.at_)) (List.mem_of_getElem? s.at_) h1)
    have e : word.take n = word.take f ++ (word.drop f).take (n - f) := by
      have := cut (word := word) (Nat.zero_le f) s.from_
      simpa using this
    exact ⟨zr ++ y, by rw [e]; simpa using hy⟩
/-- A beginning has items. -/
theorem pre_iff (h0 : ∀ x ∈ ps, 0 ≤ x.1) (hst : 0 ≤ st) {n : Nat} (hn : n ≤ word.length) : Pre ps [st] (word.take n) ↔ ∃ p d f, It ps st word n p d f := by
  constructor
  · rintro ⟨y, h⟩
    cases y with
    | nil =>
      rw [List.append_nil] at h
      obtain ⟨p, R, h2, _⟩ := (ends_iff h0 hst hn).1 h
      exact ⟨p, _, _, h2⟩
    | cons t y =>
      obtain ⟨R, hR, hd⟩ := h.inv hst
      obtain ⟨p, hp⟩ := List.mem_iff_getElem?.1 hR
      obtain ⟨p', d', f', _, _, h2, _⟩ := It.meet hd (It.start hp hd.each) hp (rest := []) (by simp) (z0 := word.take n) (y := y) (t := t) rfl (take_front hn)
      rw [List.length_take, Nat.min_eq_left hn, Nat.zero_add] at h2
      exact ⟨p', d', f', h2⟩
  · rintro ⟨p, d, f, h⟩
    obtain ⟨l1, R1, s⟩ := h.says h0
    obtain ⟨zr, hzr⟩ := Dw.all (ps := ps) (xs := R1.drop d) (fun t ht => s.fine t (List.mem_of_mem_drop ht))
    have h1 : Dw ps R1 ((word.drop f).take (n - f) ++ zr) := by
      have := s.der.app hzr
      rwa [List.take_append_drop] at this
    obtain ⟨y, hy⟩ := s.ctx _ (Dw.one (h0 _ (List.mem_of_getElem? s.at_)) (List.mem_of_getElem? s.at_) h1)
    have e : word.take n = word.take f ++ (word.drop f).take (n - f) := by
      have := cut (word := word) (Nat.zero_le f) s.from_
      simpa using this
    exact ⟨zr ++ y, by rw [e]; simpa using hy⟩

/-! What the program lays down. -/
abbrev Itm := Nat × Nat × Nat
/-- The symbol that an item awaits. -/
def nxt (ps : List (Int × List Int)) (x : Itm) : Option Int := (ps[x.1]?).bind fun y => y.2[x.2.1]?
def lft (ps : List (Int × List Int)) (x : Itm) : Int := ((ps[x.1]?).map fun y => y.1).getD (-1)
def stp (x : Itm) : Itm := (x.1, x.2.1 + 1, x.2.2)
theorem nxt_some {x : Itm} {s : Int} : nxt ps x = some s ↔ ∃ l R, ps[x.1]? = some (l, R) ∧ R[x.2.1]? = some s := by
  unfold nxt
  rw [Option.bind_eq_some_iff]
  constructor
  · rintro ⟨⟨l, R⟩, h1, h2⟩; exact ⟨l, R, h1, h2⟩
  · rintro ⟨l, R, h1, h2⟩; exact ⟨(l, R), h1, h2⟩
/-- What an item of a set asks of the sets: SS, and of its own, X. -/
structure Cl (ps : List (Int × List Int)) (SS : List (List Itm)) (X : List Itm) (i : Nat) (x : Itm) : Prop where
  pred : ∀ s q R', nxt ps x = some s → 0 ≤ s → ps[q]? = some (s, R') → Fine ps R' → (q, 0, i) ∈ X
  null : ∀ s, nxt ps x = some s → 0 ≤ s → Dw ps [s] [] → stp x ∈ X
  comp : nxt ps x = none → ∀ Y y, x.2.2 < i → SS[x.2.2]? = some Y → y ∈ Y → nxt ps y = some (lft ps x) → stp y ∈ X
theorem Cl.mono {SS : List (List Itm)} {X X' : List Itm} {i : Nat} {x : Itm} (h : Cl ps SS X i x) (hX : ∀ y ∈ X, y ∈ X') : Cl ps SS X' i x :=
  ⟨fun s q R' h1 h2 h3 h4 => hX _ (h.pred s q R' h1 h2 h3 h4), fun s h1 h2 h3 => hX _ (h.null s h1 h2 h3), fun h1 Y y h2 h3 h4 h5 => hX _ (h.comp h1 Y y h2 h3 h4 h5)⟩
/-- The sets of a chart: each item says so; each set is closed; the first has the start's, the others what is scanned. -/
structure Sets (ps : List (Int × List Int)) (st : Int) (word : List Int) (SS : List (List Itm)) : Prop where
  snd : ∀ i X x, SS[i]? = some X → x ∈ X → It ps st word i x.1 x.2.1 x.2.2
  cls : ∀ i X x, SS[i]? = some X → x ∈ X → Cl ps SS X i x
  frs : ∀ X q R, SS[0]? = some X → ps[q]? = some (st, R) → Fine ps R → (q, 0, 0) ∈ X
  scn : ∀ i X Y x s, SS[i]? = some X → SS[i + 1]? = some Y → x ∈ X → nxt ps x = some s → s < 0 → word[i]? = some (-1 - s) → stp x ∈ Y
variable {SS : List (List Itm)}
theorem Sets.all (h : Sets ps st word SS) (h0 : ∀ x ∈ ps, 0 ≤ x.1) {i p d f : Nat} (hi : It ps st word i p d f) : ∀ X, SS[i]? = some X → (p, d, f) ∈ X := by
  induction hi with
  | @start p R hp hf => intro X hX; exact h.frs X p R hX hp hf
  | @pred i p d f q l s R R' _ hp hd hs hq hf ih =>
    intro X hX
    exact (h.cls i X _ hX (ih X hX)).pred s q R' (nxt_some.2 ⟨l, R, hp, hd⟩) hs hq hf
  | @scan i p d f l s R _ hp hd hs hw ih =>
    intro Y hY
    have hil : i < SS.length := by have := (List.getElem?_eq_some_iff.1 hY).1; omega
    exact h.scn i SS[i] Y _ s (List.getElem?_eq_getElem hil) hY (ih _ (List.getElem?_eq_getElem hil)) (nxt_some.2 ⟨l, R, hp, hd⟩) hs hw
  | @comp i j q p d f l l' R R' h1 hq h2 hp hd ih1 ih2 =>
    intro X hX
    obtain ⟨l1, R1, s1⟩ := h1.says h0
    have hq1 := ih1 X hX
    have hnone : nxt ps (q, R'.length, j) = none := by
      unfold nxt
      rw [hq]
      simp
    have hl : lft ps (q, R'.length, j) = l' := by unfold lft; rw [hq]; rfl
    by_cases hj : j < i
    · have hil : j < SS.length := by have := (List.getElem?_eq_some_iff.1 hX).1; omega
      exact (h.cls i X _ hX hq1).comp hnone SS[j] (p, d, f) hj (List.getElem?_eq_getElem hil) (ih2 _ (List.getElem?_eq_getElem hil)) (by rw [hl]; exact nxt_some.2 ⟨l, R, hp, hd⟩)
    · obtain rfl : j = i := by have := s1.from_; omega
      have hl0 : 0 ≤ l' := h0 _ (List.mem_of_getElem? hq)
      refine (h.cls j X _ hX (ih2 X hX)).null l' (nxt_some.2 ⟨l, R, hp, hd⟩) hl0 ?_
      have e := s1.at_
      rw [hq] at e
      injection e with e
      injection e with e1 e2
      subst e1 e2
      have := s1.der
      rw [List.take_length, Nat.sub_self, List.take_zero] at this
      exact Dw.one hl0 (List.mem_of_getElem? hq) this
/-- Behind a set out of which nothing is scanned there is none. -/
theorem It.stop {n : Nat} (h : ∀ p d f l R s, It ps st word n p d f → ps[p]? = some (l, R) → R[d]? = some s → s < 0 → word[n]? ≠ some (-1 - s)) : ∀ {i p d f : Nat}, It ps st word i p d f → i ≠ n + 1 := by
  intro i p d f hi
  induction hi with
  | start => omega
  | pred _ _ _ _ _ _ ih => exact ih
  | @scan i p d f l s R h1 hp hd hs hw _ =>
    intro e
    obtain rfl : i = n := by omega
    exact h p d f l R s h1 hp hd hs hw
  | comp _ _ _ _ _ ih1 _ => exact ih1
theorem It.later {n : Nat} (h : ∀ p d f, ¬ It ps st word (n + 1) p d f) : ∀ {i p d f : Nat}, It ps st word i p d f → i ≤ n := by
  intro i p d f hi
  induction hi with
  | start => omega
  | pred _ _ _ _ _ _ ih => exact ih
  | @scan i p d f l s R h1 hp hd hs hw ih =>
    have hne : i ≠ n := fun e => by
      subst e
      exact h _ _ _ (It.scan h1 hp hd hs hw)
    omega
  | comp _ _ _ _ _ ih1 _ => exact ih1
/-- Where nothing is derived there is no item. -/
theorem It.none (hf : ∀ R, (st, R) ∈ ps → ¬ Fine ps R) : ∀ {i p d f : Nat}, ¬ It ps st word i p d f := by
  intro i p d f hi
  induction hi with
  | start hp h => exact hf _ (List.mem_of_getElem? hp) h
  | pred _ _ _ _ _ _ ih => exact ih
  | scan _ _ _ _ _ ih => exact ih
  | comp _ _ _ _ _ ih1 _ => exact ih1
end
end Ed
end Go.Proofs.Ytaehooafdbaomaa
