/- Plain mathematics of chapter 6 (format): a node's text is read as the node. No program in sight. -/
import Derived.Test.YtjaampgpihicmaaFmtSpec
namespace Go.Proofs.Ytjaampgpihicmaa.Fmt
open Lex (Tok)
open Syn (Nd Nod tk isS far altF altM rowF atomF arndF sufS takeS pack)

section fuel
variable {T : List Tok} {i o f f' : Nat}
theorem altM_fuel {rows : Nd} {x : Syn.Res Nod} (h : altM T f rows i o = some x) (hf : f ≤ f') : altM T f' rows i o = some x := by
  induction hf with
  | refl => exact h
  | step _ ih => exact (Syn.more_fuel T _).2.1 _ _ _ _ ih
theorem rowF_fuel {items : Nd} {x : Syn.Res Nod} (h : rowF T f items i o = some x) (hf : f ≤ f') : rowF T f' items i o = some x := by
  induction hf with
  | refl => exact h
  | step _ ih => exact (Syn.more_fuel T _).2.2.1 _ _ _ _ ih
theorem atomF_fuel {x : Syn.Res (Option Nod)} (h : atomF T f i o = some x) (hf : f ≤ f') : atomF T f' i o = some x := by
  induction hf with
  | refl => exact h
  | step _ ih => exact (Syn.more_fuel T _).2.2.2.1 _ _ _ ih
end fuel
def AltR (T : List Tok) (i o : Nat) (n : Nod) (j : Nat) : Prop := ∃ f, altF T f i o = some (.ok n j o)
def RowsR (T : List Tok) (rows : Nd) (i o : Nat) (n : Nod) (j : Nat) : Prop := ∃ f, altM T f rows i o = some (.ok n j o)
def RowR (T : List Tok) (items : Nd) (i o : Nat) (n : Nod) (j : Nat) : Prop := ∃ f, rowF T f items i o = some (.ok n j o)
def AtomR (T : List Tok) (i o : Nat) (n : Nod) (j : Nat) : Prop := ∃ f, atomF T f i o = some (.ok (some n) j o)
/-- No suffix stands here. -/
structure NoSuf (T : List Tok) (j : Nat) : Prop where
  far : far T j = false
  a : isS T j [63] = false
  b : isS T j [42] = false
  c : isS T j [43] = false
/-- A row ends here. -/
structure Stop (T : List Tok) (j : Nat) : Prop extends NoSuf T j where
  k1 : (tk T j).kind ≠ 1
  k2 : (tk T j).kind ≠ 2
  d : isS T j [40] = false
  e : isS T j [91] = false
  f : isS T j [123] = false
section
variable {T : List Tok} {i j k o : Nat} {n m : Nod} {items rows : Nd}
theorem row_nil (h : Stop T j) : RowR T items j o (pack 3 items) j := by
  refine ⟨2, ?_⟩
  rw [rowF, atomF, h.far, if_neg (by simp), if_neg h.k1, if_neg h.k2, h.d, if_neg (by simp), h.e, if_neg (by simp), h.f, if_neg (by simp)]
  rfl
theorem sufS_none (h : NoSuf T j) : sufS T n j o = .ok n j o := by
  unfold sufS
  rw [h.far, h.a, h.b, h.c]
  rfl
theorem row_step {n' : Nod} {j' : Nat} (ha : AtomR T i o n j) (hs : sufS T n j o = .ok n' j' o) (hr : RowR T (items.app n'.row) j' o m k) : RowR T items i o m k := by
  obtain ⟨f, hf⟩ := ha
  obtain ⟨g, hg⟩ := hr
  refine ⟨max f g + 1, ?_⟩
  rw [rowF, atomF_fuel hf (Nat.le_max_left f g)]
  rw [Syn.bind_some]
  simp only []
  rw [hs, Syn.bind_res]
  exact rowF_fuel hg (Nat.le_max_right f g)
theorem alt_of (hr : RowR T .nil i o n j) (hm : RowsR T n.row j o m k) : AltR T i o m k := by
  obtain ⟨f, hf⟩ := hr
  obtain ⟨g, hg⟩ := hm
  refine ⟨max f g + 1, ?_⟩
  rw [altF, rowF_fuel hf (Nat.le_max_left f g)]
  exact altM_fuel hg (Nat.le_max_right f g)
theorem rows_end (hf : far T j = false) (h : isS T j [124] = false) : RowsR T rows j o (pack 4 rows) j := by
  refine ⟨1, ?_⟩
  rw [altM, hf, h]
  rfl
theorem rows_step (hf : far T i = false) (h : isS T i [124] = true) (hr : RowR T .nil (i + 1) o n j) (hm : RowsR T (rows.app n.row) j o m k) : RowsR T rows i o m k := by
  obtain ⟨f, hf'⟩ := hr
  obtain ⟨g, hg⟩ := hm
  refine ⟨max f g + 1, ?_⟩
  rw [altM, hf, h, rowF_fuel hf' (Nat.le_max_left f g)]
  exact altM_fuel hg (Nat.le_max_right f g)
theorem arnd_of {e : List UInt8} (ho : o < 16) (ha : AltR T (i + 1) (o + 1) n j) (hf : far T j = false) (he : isS T j e = true) : ∃ f, arndF T f e i o = some (.ok n (j + 1) o) := by
  obtain ⟨f, h⟩ := ha
  refine ⟨f + 1, ?_⟩
  rw [arndF, if_neg (by omega), h]
  show (takeS T e j (o + 1)).bind _ = _
  unfold takeS
  rw [hf, he]
  rfl
theorem atom_par (hf : far T i = false) (hs : isS T i [40] = true) (ho : o < 16) (ha : AltR T (i + 1) (o + 1) n j) (hj : far T j = false) (he : isS T j [41] = true) : AtomR T i o n (j + 1) := by
  obtain ⟨f, h⟩ := arnd_of ho ha hj he
  refine ⟨f + 1, ?_⟩
  have hk : (tk T i).kind = 3 := by unfold isS at hs; simp at hs; exact hs.1
  rw [atomF, hf, if_neg (by simp), if_neg (by omega), if_neg (by omega), hs, if_pos rfl, h]
  rfl
theorem isS_other {a b : List UInt8} (h : isS T i a = true) (hab : a ≠ b) : isS T i b = false := by
  unfold isS at h ⊢
  simp only [Bool.and_eq_true, beq_iff_eq] at h
  rw [h.1, h.2]
  simp [hab]
theorem atom_opt (hf : far T i = false) (hs : isS T i [91] = true) (ho : o < 16) (ha : AltR T (i + 1) (o + 1) n j) (hj : far T j = false) (he : isS T j [93] = true) : AtomR T i o ⟨5, [], n.row⟩ (j + 1) := by
  obtain ⟨f, h⟩ := arnd_of ho ha hj he
  refine ⟨f + 1, ?_⟩
  have hk : (tk T i).kind = 3 := by unfold isS at hs; simp at hs; exact hs.1
  rw [atomF, hf, if_neg (by simp), if_neg (by omega), if_neg (by omega), isS_other hs (by decide), if_neg (by simp), hs, if_pos rfl, h]
  rfl
theorem atom_star (hf : far T i = false) (hs : isS T i [123] = true) (ho : o < 16) (ha : AltR T (i + 1) (o + 1) n j) (hj : far T j = false) (he : isS T j [125] = true) : AtomR T i o ⟨6, [], n.row⟩ (j + 1) := by
  obtain ⟨f, h⟩ := arnd_of ho ha hj he
  refine ⟨f + 1, ?_⟩
  have hk : (tk T i).kind = 3 := by unfold isS at hs; simp at hs; exact hs.1
  rw [atomF, hf, if_neg (by simp), if_neg (by omega), if_neg (by omega), isS_other hs (by decide), if_neg (by simp), isS_other hs (by decide), if_neg (by simp), hs, if_pos rfl, h]
  rfl
theorem atom_leaf (hf : far T i = false) (hk : (tk T i).kind = 1 ∨ (tk T i).kind = 2) : AtomR T i o ⟨(tk T i).kind, (tk T i).text, .nil⟩ (i + 1) := by
  refine ⟨1, ?_⟩
  rw [atomF, hf, if_neg (by simp)]
  rcases hk with h | h
  · rw [if_pos h, h]
  · rw [if_neg (by omega), if_pos h, h]
end
/-- Tokens as written. -/
def Has (T : List Tok) (i : Nat) (ks : List (Nat × List UInt8)) : Prop := ∀ (k : Nat) x, ks[k]? = some x → Syn.keyOf (tk T (i + k)) = x
section
variable {T : List Tok} {i : Nat} {a b : List (Nat × List UInt8)}
theorem Has.left (h : Has T i (a ++ b)) : Has T i a := fun k x hx => h k x (by rw [List.getElem?_append_left (List.getElem?_eq_some_iff.1 hx).1]; exact hx)
theorem Has.right (h : Has T i (a ++ b)) : Has T (i + a.length) b := fun k x hx => by
  have := h (a.length + k) x (by rw [List.getElem?_append_right (by omega), Nat.add_sub_cancel_left]; exact hx)
  rwa [← Nat.add_assoc] at this
theorem Has.head {x : Nat × List UInt8} (h : Has T i (x :: b)) : Syn.keyOf (tk T i) = x := h 0 x rfl
theorem Has.tail {x : Nat × List UInt8} (h : Has T i (x :: b)) : Has T (i + 1) b := Has.right (a := [x]) h
theorem key_isS {c : UInt8} (h : Syn.keyOf (tk T i) = (3, [c])) : isS T i [c] = true := by
  unfold Syn.keyOf at h
  injection h with h1 h2
  unfold isS
  rw [h1, h2]
  simp
theorem key_kind {k : Nat} {t : List UInt8} (h : Syn.keyOf (tk T i) = (k, t)) : (tk T i).kind = k ∧ (tk T i).text = t := by
  unfold Syn.keyOf at h
  injection h with h1 h2
  exact ⟨h1, h2⟩
/-- What an item may begin with. -/
def Starts (ks : List (Nat × List UInt8)) : Prop := ∃ x r, ks = x :: r ∧ (x.1 = 1 ∨ x.1 = 2 ∨ x = (3, [40]) ∨ x = (3, [91]) ∨ x = (3, [123]))
theorem Starts.app (h : Starts a) : Starts (a ++ b) := by
  obtain ⟨x, r, rfl, h⟩ := h
  exact ⟨x, r ++ b, rfl, h⟩
theorem Starts.noSuf (h : Starts a) (ha : Has T i a) (hf : far T i = false) : NoSuf T i := by
  obtain ⟨x, r, rfl, h⟩ := h
  have hk := ha.head
  have key : ∀ c : UInt8, c = 63 ∨ c = 42 ∨ c = 43 → isS T i [c] = false := fun c hc => by
    unfold isS
    obtain ⟨h1, h2⟩ := key_kind (k := x.1) (t := x.2) hk
    rw [h1, h2]
    rcases h with h | h | h | h | h
    · rw [h]; rfl
    · rw [h]; rfl
    all_goals (rw [h]; rcases hc with rfl | rfl | rfl <;> decide)
  exact ⟨hf, key 63 (.inl rfl), key 42 (.inr (.inl rfl)), key 43 (.inr (.inr rfl))⟩
end
/-- What the texts of a node are read as. -/
structure Good (n : Nod) : Prop where
  starts : Starts (keysG (en n).item)
  astarts : Starts (keysG (en n).atom)
  put : ∀ (T : List Tok) (i o : Nat), Has T i (keysG (en n).put) → Stop T (i + (keysG (en n).put).length) → isS T (i + (keysG (en n).put).length) [124] = false → (∀ k, k ≤ i + (keysG (en n).put).length → far T k = false) → o + (en n).dput ≤ 16 → AltR T i o n (i + (keysG (en n).put).length)
  item : ∀ (T : List Tok) (i o : Nat), Has T i (keysG (en n).item) → NoSuf T (i + (keysG (en n).item).length) → (∀ k, k ≤ i + (keysG (en n).item).length → far T k = false) → o + (en n).ditem ≤ 16 → ∀ items m k, RowR T (items.app n.row) (i + (keysG (en n).item).length) o m k → RowR T items i o m k
  row : ∀ (T : List Tok) (i o : Nat), Has T i (keysG (en n).row) → Stop T (i + (keysG (en n).row).length) → (∀ k, k ≤ i + (keysG (en n).row).length → far T k = false) → o + (en n).drow ≤ 16 → RowR T .nil i o n (i + (keysG (en n).row).length)
  atom : ∀ (T : List Tok) (i o : Nat), Has T i (keysG (en n).atom) → (∀ k, k ≤ i + (keysG (en n).atom).length → far T k = false) → o + (en n).datom ≤ 16 → AtomR T i o n (i + (keysG (en n).atom).length)
section
variable {T : List Tok} {i j o : Nat}
theorem keys_par (a b : UInt8) (l : List Gl) : keysG (par a l b) = (3, [a]) :: (keysG l ++ [(3, [b])]) := by simp [par, keysG, sg, Gl.keys]
theorem keys_tok (k : Nat) (t : List UInt8) : keysG [.tok k t] = [(k, t)] := rfl
theorem keys_end (l : List Gl) (c : UInt8) : keysG (l ++ [sg c]) = keysG l ++ [(3, [c])] := by simp [keysG, sg, Gl.keys]
theorem stop_sign {c : UInt8} (h : Syn.keyOf (tk T j) = (3, [c])) (hc : c = 41 ∨ c = 93 ∨ c = 125 ∨ c = 59 ∨ c = 124) (hf : far T j = false) : Stop T j := by
  have hs := key_isS h
  have key : ∀ d : UInt8, c ≠ d → isS T j [d] = false := fun d hd => isS_other hs (by simpa using hd)
  obtain ⟨h1, h2⟩ := key_kind h
  refine ⟨⟨hf, key 63 ?_, key 42 ?_, key 43 ?_⟩, by omega, by omega, key 40 ?_, key 91 ?_, key 123 ?_⟩
  all_goals (rcases hc with rfl | rfl | rfl | rfl | rfl <;> decide)
theorem close_sign {c : UInt8} (h : Syn.keyOf (tk T j) = (3, [c])) (hc : c = 41 ∨ c = 93 ∨ c = 125 ∨ c = 59) (hf : far T j = false) : Stop T j ∧ isS T j [124] = false :=
  ⟨stop_sign h (by rcases hc with h | h | h | h <;> simp [h]) hf, isS_other (key_isS h) (by rcases hc with rfl | rfl | rfl | rfl <;> decide)⟩
/-- A node between brackets. -/
theorem between {n : Nod} {a b : UInt8} (hb : b = 41 ∨ b = 93 ∨ b = 125) (hput : ∀ (T : List Tok) (i o : Nat), Has T i (keysG (en n).put) → Stop T (i + (keysG (en n).put).length) → isS T (i + (keysG (en n).put).length) [124] = false → (∀ k, k ≤ i + (keysG (en n).put).length → far T k = false) → o + (en n).dput ≤ 16 → AltR T i o n (i + (keysG (en n).put).length))
    (h : Has T i (keysG (par a (en n).put b))) (hfar : ∀ k, k ≤ i + (keysG (par a (en n).put b)).length → far T k = false) (ho : o + (1 + (en n).dput) ≤ 16) :
    far T i = false ∧ isS T i [a] = true ∧ o < 16 ∧ AltR T (i + 1) (o + 1) n (i + 1 + (keysG (en n).put).length) ∧ far T (i + 1 + (keysG (en n).put).length) = false ∧ isS T (i + 1 + (keysG (en n).put).length) [b] = true ∧ i + (keysG (par a (en n).put b)).length = i + 1 + (keysG (en n).put).length + 1 := by
  rw [keys_par] at h hfar ⊢
  have hl : ((3, [a]) :: (keysG (en n).put ++ [(3, [b])])).length = (keysG (en n).put).length + 2 := by simp
  rw [hl] at hfar ⊢
  have h2 := h.tail.right.head
  have hf2 := hfar (i + 1 + (keysG (en n).put).length) (by omega)
  obtain ⟨h3, h4⟩ := close_sign h2 (by rcases hb with h | h | h <;> simp [h]) hf2
  exact ⟨hfar i (by omega), key_isS h.head, by omega, hput T (i + 1) (o + 1) h.tail.left h3 h4 (fun k hk => hfar k (by omega)) (by omega), hf2, key_isS h2, by omega⟩
end
def ForE (P : Nod → Prop) : Nd → Prop
  | .nil => True
  | .cons k t kids r => P ⟨k, t, kids⟩ ∧ ForE P r
def keysI (f : Nd) : List (Nat × List UInt8) := (ens f).flatMap fun e => keysG e.item
def keysR (f : Nd) : List (Nat × List UInt8) := (ens f).flatMap fun e => (3, [124]) :: keysG e.row
theorem items_read {T : List Tok} : ∀ (f : Nd) (i o : Nat) (items : Nd), ForE Good f → Has T i (keysI f) → Stop T (i + (keysI f).length) → (∀ k, k ≤ i + (keysI f).length → far T k = false) → o + maxL ((ens f).map En.ditem) ≤ 16 → RowR T items i o (pack 3 (items.app f)) (i + (keysI f).length)
  | .nil, i, o, items, _, _, hs, _, _ => by
    rw [Nd.app_nil]
    exact row_nil hs
  | .cons k t kids r, i, o, items, hg, h, hs, hfar, ho => by
    have e : keysI (.cons k t kids r) = keysG (en ⟨k, t, kids⟩).item ++ keysI r := rfl
    rw [e] at h hs hfar ⊢
    rw [List.length_append, ← Nat.add_assoc] at hs hfar ⊢
    have ed : maxL ((ens (.cons k t kids r)).map En.ditem) = max (en ⟨k, t, kids⟩).ditem (maxL ((ens r).map En.ditem)) := rfl
    rw [ed] at ho
    have hns : NoSuf T (i + (keysG (en ⟨k, t, kids⟩).item).length) := by
      cases r with
      | nil => exact hs.toNoSuf
      | cons k2 t2 kids2 r2 =>
        have e2 : keysI (.cons k2 t2 kids2 r2) = keysG (en ⟨k2, t2, kids2⟩).item ++ keysI r2 := rfl
        have h2 := h.right
        rw [e2] at h2
        exact hg.2.1.starts.noSuf h2.left (hfar _ (by omega))
    have hrest := items_read r (i + (keysG (en ⟨k, t, kids⟩).item).length) o (items.app (Nod.row ⟨k, t, kids⟩)) hg.2 h.right hs hfar (by omega)
    rw [Nd.app_assoc] at hrest
    exact hg.1.item T i o h.left hns (fun k hk => hfar k (by omega)) (by omega) _ _ _ hrest
theorem rows_read {T : List Tok} : ∀ (f : Nd) (i o : Nat) (rows : Nd), ForE Good f → Has T i (keysR f) → Stop T (i + (keysR f).length) → isS T (i + (keysR f).length) [124] = false → (∀ k, k ≤ i + (keysR f).length → far T k = false) → o + maxL ((ens f).map En.drow) ≤ 16 → RowsR T rows i o (pack 4 (rows.app f)) (i + (keysR f).length)
  | .nil, i, o, rows, _, _, hs, h124, hfar, _ => by
    rw [Nd.app_nil]
    exact rows_end hs.far h124
  | .cons k t kids r, i, o, rows, hg, h, hs, h124, hfar, ho => by
    have e : keysR (.cons k t kids r) = ((3, [124]) :: keysG (en ⟨k, t, kids⟩).row) ++ keysR r := rfl
    rw [e] at h hs h124 hfar ⊢
    rw [List.length_append, ← Nat.add_assoc, List.length_cons] at hs h124 hfar ⊢
    have ed : maxL ((ens (.cons k t kids r)).map En.drow) = max (en ⟨k, t, kids⟩).drow (maxL ((ens r).map En.drow)) := rfl
    rw [ed] at ho
    have hr := h.right
    rw [List.length_cons] at hr
    have hst : Stop T (i + ((keysG (en ⟨k, t, kids⟩).row).length + 1)) := by
      cases r with
      | nil => exact hs
      | cons k2 t2 kids2 r2 =>
        have e2 : keysR (.cons k2 t2 kids2 r2) = ((3, [124]) :: keysG (en ⟨k2, t2, kids2⟩).row) ++ keysR r2 := rfl
        have h2 := hr
        rw [e2] at h2
        exact stop_sign h2.head (by simp) (hfar _ (by omega))
    have hrest := rows_read r (i + ((keysG (en ⟨k, t, kids⟩).row).length + 1)) o (rows.app (Nod.row ⟨k, t, kids⟩)) hg.2 hr hs h124 hfar (by omega)
    rw [Nd.app_assoc] at hrest
    have hrow := hg.1.row T (i + 1) o h.left.tail (by rw [show i + 1 + (keysG (en ⟨k, t, kids⟩).row).length = i + ((keysG (en ⟨k, t, kids⟩).row).length + 1) by omega]; exact hst) (fun k hk => hfar k (by omega)) (by omega)
    rw [show i + 1 + (keysG (en ⟨k, t, kids⟩).row).length = i + ((keysG (en ⟨k, t, kids⟩).row).length + 1) by omega] at hrow
    exact rows_step (hfar i (by omega)) (key_isS h.head) hrow hrest
/-- A node's text as an item that is no row and no alternation. -/
def PutItem (n : Nod) : Prop := ∀ (T : List Tok) (i o : Nat), Has T i (keysG (en n).put) → NoSuf T (i + (keysG (en n).put).length) → (∀ k, k ≤ i + (keysG (en n).put).length → far T k = false) → o + (en n).dput ≤ 16 → ∀ items m k, RowR T (items.app n.row) (i + (keysG (en n).put).length) o m k → RowR T items i o m k
theorem leaf_item {k : Nat} (hk : k = 1 ∨ k = 2) (t : List UInt8) : PutItem ⟨k, t, .nil⟩ := by
  intro T i o h hs hfar _ items m q hr
  have ep : keysG (en ⟨k, t, .nil⟩).put = [(k, t)] := by
    show keysG (putE k t []) = _
    unfold putE
    rw [if_pos hk]
    rfl
  rw [ep] at h hs hfar hr
  obtain ⟨h1, h2⟩ := key_kind h.head
  have ha := atom_leaf (o := o) (hfar i (by simp)) (by rw [h1]; exact hk)
  rw [h1, h2] at ha
  exact row_step ha (sufS_none hs) hr
theorem again_item {k : Nat} {a b c : UInt8} (hk : (k = 5 ∧ a = 91 ∧ b = 63 ∧ c = 93) ∨ (k = 6 ∧ a = 123 ∧ b = 42 ∧ c = 125)) {n : Nod} (hg : Good n) : PutItem ⟨k, [], n.row⟩ := by
  intro T i o h hs hfar ho items m q hr
  have ep : (en ⟨k, [], n.row⟩).put = (en n).again a b c := by
    show putE k [] [en n] = _
    unfold putE
    rcases hk with ⟨rfl, rfl, rfl, rfl⟩ | ⟨rfl, rfl, rfl, rfl⟩ <;> rfl
  have ed : (en ⟨k, [], n.row⟩).dput = (en n).dagain := by
    show putD k [en n] = _
    unfold putD
    rcases hk with ⟨rfl, -⟩ | ⟨rfl, -⟩ <;> rfl
  rw [ep] at h hs hfar hr
  rw [ed] at ho
  unfold En.again at h hs hfar hr
  unfold En.dagain at ho
  split at h
  · rename_i hc
    rw [if_pos hc] at hs hfar hr ho
    rw [keys_end] at h hs hfar hr
    rw [List.length_append, List.length_singleton, ← Nat.add_assoc] at hs hfar hr
    have hat := hg.atom T i o h.left (fun k hk => hfar k (by omega)) ho
    have hb := h.right.head
    refine row_step (n' := ⟨k, [], n.row⟩) hat ?_ hr
    unfold sufS
    rw [hfar _ (by omega), if_neg (by simp)]
    rcases hk with ⟨rfl, rfl, rfl, rfl⟩ | ⟨rfl, rfl, rfl, rfl⟩
    · rw [key_isS hb, if_pos rfl]
    · rw [isS_other (key_isS hb) (by decide), if_neg (by simp), key_isS hb, if_pos rfl]
  · rename_i hc
    rw [if_neg hc] at hs hfar hr ho
    obtain ⟨h1, h2, h3, h4, h5, h6, h7⟩ := between (o := o) (by rcases hk with ⟨-, -, -, rfl⟩ | ⟨-, -, -, rfl⟩ <;> simp) hg.put h hfar ho
    rw [h7] at hs hr
    refine row_step (n' := ⟨k, [], n.row⟩) (j := i + 1 + (keysG (en n).put).length + 1) (n := ⟨k, [], n.row⟩) ?_ (sufS_none hs) hr
    rcases hk with ⟨rfl, rfl, rfl, rfl⟩ | ⟨rfl, rfl, rfl, rfl⟩
    · exact atom_opt h1 h2 h3 h4 h5 h6
    · exact atom_star h1 h2 h3 h4 h5 h6
theorem plus_item {n : Nod} (hg : Good n) : PutItem ⟨7, [], n.row⟩ := by
  intro T i o h hs hfar ho items m q hr
  have ep : (en ⟨7, [], n.row⟩).put = (en n).atom ++ [sg 43] := rfl
  have ed : (en ⟨7, [], n.row⟩).dput = (en n).datom := rfl
  rw [ep, keys_end] at h hs hfar hr
  rw [ed] at ho
  rw [List.length_append, List.length_singleton, ← Nat.add_assoc] at hs hfar hr
  have hat := hg.atom T i o h.left (fun k hk => hfar k (by omega)) ho
  have hb := h.right.head
  refine row_step (n' := ⟨7, [], n.row⟩) hat ?_ hr
  unfold sufS
  rw [hfar _ (by omega), if_neg (by simp), isS_other (key_isS hb) (by decide), if_neg (by simp), isS_other (key_isS hb) (by decide), if_neg (by simp), key_isS hb, if_pos rfl]
theorem row_of_item {n : Nod} {T : List Tok} {i j o : Nat} (hi : ∀ items m k, RowR T (items.app n.row) j o m k → RowR T items i o m k) (hs : Stop T j) : RowR T .nil i o n j :=
  hi .nil n j (row_nil (items := n.row) hs)
theorem alt_of_row {n : Nod} {T : List Tok} {i j o : Nat} (hr : RowR T .nil i o n j) (hs : Stop T j) (h124 : isS T j [124] = false) : AltR T i o n j :=
  alt_of hr (rows_end (rows := n.row) hs.far h124)
theorem item_of_atom {n : Nod} {T : List Tok} {i j o : Nat} (ha : AtomR T i o n j) (hs : NoSuf T j) : ∀ items m k, RowR T (items.app n.row) j o m k → RowR T items i o m k :=
  fun _ _ _ hr => row_step ha (sufS_none hs) hr
/-- What 'put' must be for the rest to follow. -/
def PutAlt (n : Nod) : Prop := ∀ (T : List Tok) (i o : Nat), Has T i (keysG (en n).put) → Stop T (i + (keysG (en n).put).length) → isS T (i + (keysG (en n).put).length) [124] = false → (∀ k, k ≤ i + (keysG (en n).put).length → far T k = false) → o + (en n).dput ≤ 16 → AltR T i o n (i + (keysG (en n).put).length)
theorem paren_atom {n : Nod} (hp : PutAlt n) {T : List Tok} {i o : Nat} (h : Has T i (keysG (par 40 (en n).put 41))) (hfar : ∀ k, k ≤ i + (keysG (par 40 (en n).put 41)).length → far T k = false) (ho : o + (1 + (en n).dput) ≤ 16) : AtomR T i o n (i + (keysG (par 40 (en n).put 41)).length) := by
  obtain ⟨h1, h2, h3, h4, h5, h6, h7⟩ := between (o := o) (.inl rfl) hp h hfar ho
  rw [h7]
  exact atom_par h1 h2 h3 h4 h5 h6
theorem starts_par (a b : UInt8) (l : List Gl) (ha : a = 40 ∨ a = 91 ∨ a = 123) : Starts (keysG (par a l b)) := by
  rw [keys_par]
  exact ⟨_, _, rfl, by rcases ha with rfl | rfl | rfl <;> simp⟩
theorem good_plain {n : Nod} (h3 : n.kind ≠ 3) (h4 : n.kind ≠ 4) (hp : PutItem n) (hst : Starts (keysG (en n).put)) (hast : Starts (keysG (en n).atom))
    (hat : PutAlt n → ∀ (T : List Tok) (i o : Nat), Has T i (keysG (en n).atom) → (∀ k, k ≤ i + (keysG (en n).atom).length → far T k = false) → o + (en n).datom ≤ 16 → AtomR T i o n (i + (keysG (en n).atom).length)) : Good n := by
  have ei : (en n).item = (en n).put := by unfold En.item; rw [if_neg (by rintro (h | h) <;> first | exact h3 h | exact h4 h)]
  have er : (en n).row = (en n).put := if_neg h4
  have di : (en n).ditem = (en n).dput := by unfold En.ditem; rw [if_neg (by rintro (h | h) <;> first | exact h3 h | exact h4 h)]
  have dr : (en n).drow = (en n).dput := if_neg h4
  have hput : PutAlt n := fun T i o h hs h124 hfar ho => alt_of_row (row_of_item (hp T i o h hs.toNoSuf hfar ho) hs) hs h124
  refine ⟨by rw [ei]; exact hst, hast, hput, ?_, ?_, hat hput⟩
  · rw [ei, di]
    exact hp
  · rw [er, dr]
    exact fun T i o h hs hfar ho => row_of_item (hp T i o h hs.toNoSuf hfar ho) hs
theorem good_leaf {k : Nat} (hk : k = 1 ∨ k = 2) (t : List UInt8) : Good ⟨k, t, .nil⟩ := by
  have ep : keysG (en ⟨k, t, .nil⟩).put = [(k, t)] := by
    show keysG (putE k t []) = _
    unfold putE
    rw [if_pos hk]
    rfl
  have ea : keysG (en ⟨k, t, .nil⟩).atom = [(k, t)] := by
    show keysG (atomE k t []) = _
    unfold atomE
    rw [if_pos hk]
    rfl
  have hst : Starts [(k, t)] := ⟨_, _, rfl, by rcases hk with h | h <;> simp [h]⟩
  refine good_plain (by show k ≠ 3; omega) (by show k ≠ 4; omega) (leaf_item hk t) (by rw [ep]; exact hst) (by rw [ea]; exact hst) (fun _ T i o h hfar _ => ?_)
  rw [ea] at h hfar ⊢
  obtain ⟨h1, h2⟩ := key_kind h.head
  have ha := atom_leaf (o := o) (hfar i (by simp)) (by rw [h1]; exact hk)
  rw [h1, h2] at ha
  exact ha
theorem again_starts {n : Nod} (hg : Good n) {a b c : UInt8} (ha : a = 40 ∨ a = 91 ∨ a = 123) : Starts (keysG ((en n).again a b c)) := by
  unfold En.again
  split
  · rw [keys_end]
    exact hg.astarts.app
  · exact starts_par a c _ ha
theorem good_again {k : Nat} {a b c : UInt8} (hk : (k = 5 ∧ a = 91 ∧ b = 63 ∧ c = 93) ∨ (k = 6 ∧ a = 123 ∧ b = 42 ∧ c = 125)) {n : Nod} (hg : Good n) : Good ⟨k, [], n.row⟩ := by
  have ep : (en ⟨k, [], n.row⟩).put = (en n).again a b c := by
    show putE k [] [en n] = _
    unfold putE
    rcases hk with ⟨rfl, rfl, rfl, rfl⟩ | ⟨rfl, rfl, rfl, rfl⟩ <;> rfl
  have ea : (en ⟨k, [], n.row⟩).atom = par a (en n).put c := by
    show atomE k [] [en n] = _
    unfold atomE
    rcases hk with ⟨rfl, rfl, rfl, rfl⟩ | ⟨rfl, rfl, rfl, rfl⟩ <;> rfl
  have da : (en ⟨k, [], n.row⟩).datom = 1 + (en n).dput := by
    show atomD k [en n] = _
    unfold atomD
    rcases hk with ⟨rfl, -⟩ | ⟨rfl, -⟩ <;> rfl
  have ha : a = 40 ∨ a = 91 ∨ a = 123 := by rcases hk with ⟨-, rfl, -⟩ | ⟨-, rfl, -⟩ <;> simp
  refine good_plain (by show k ≠ 3; rcases hk with ⟨rfl, -⟩ | ⟨rfl, -⟩ <;> decide) (by show k ≠ 4; rcases hk with ⟨rfl, -⟩ | ⟨rfl, -⟩ <;> decide) (again_item hk hg) (by rw [ep]; exact again_starts hg ha) (by rw [ea]; exact starts_par a c _ ha) (fun _ T i o h hfar ho => ?_)
  rw [ea] at h hfar ⊢
  rw [da] at ho
  obtain ⟨h1, h2, h3, h4, h5, h6, h7⟩ := between (o := o) (by rcases hk with ⟨-, -, -, rfl⟩ | ⟨-, -, -, rfl⟩ <;> simp) hg.put h hfar ho
  rw [h7]
  rcases hk with ⟨rfl, rfl, rfl, rfl⟩ | ⟨rfl, rfl, rfl, rfl⟩
  · exact atom_opt h1 h2 h3 h4 h5 h6
  · exact atom_star h1 h2 h3 h4 h5 h6
theorem good_plus {n : Nod} (hg : Good n) : Good ⟨7, [], n.row⟩ := by
  have ep : (en ⟨7, [], n.row⟩).put = (en n).atom ++ [sg 43] := rfl
  refine good_plain (by show (7 : Nat) ≠ 3; decide) (by show (7 : Nat) ≠ 4; decide) (plus_item hg) (by rw [ep, keys_end]; exact hg.astarts.app) (starts_par 40 41 _ (.inl rfl)) (fun hput T i o h hfar ho => paren_atom hput h hfar ho)
theorem keys_join_bl (b : UInt8) : ∀ ls : List (List Gl), keysG (joinG (.bl b) ls) = ls.flatMap keysG
  | [] => rfl
  | a :: r => by
    unfold joinG
    rw [keysG_app, List.flatMap_cons]
    congr 1
    induction r with
    | nil => rfl
    | cons c r ih => rw [List.flatMap_cons, keysG_app, List.flatMap_cons, ih, keysG_cons]; rfl
theorem keys_join_sg (a : List Gl) : ∀ r : List (List Gl), keysG (joinG (sg 124) (a :: r)) = keysG a ++ r.flatMap fun l => (3, [124]) :: keysG l := fun r => by
  unfold joinG
  rw [keysG_app]
  congr 1
  induction r with
  | nil => rfl
  | cons c r ih => rw [List.flatMap_cons, keysG_app, List.flatMap_cons, ih, keysG_cons]; rfl
theorem pack3_self {f : Nd} (h : f.len ≠ 1) : pack 3 f = ⟨3, [], f⟩ := by
  match f, h with
  | .nil, _ => rfl
  | .cons a b c .nil, h => exact absurd rfl h
  | .cons a b c (.cons a' b' c' r), _ => rfl
theorem pack4_self {f : Nd} (h : 1 < f.len) : pack 4 f = ⟨4, [], f⟩ := by
  match f, h with
  | .nil, h => simp [Nd.len] at h
  | .cons a b c .nil, h => simp [Nd.len] at h
  | .cons a b c (.cons a' b' c' r), _ => rfl
/-- A row, an alternation. -/
theorem good_many {n : Nod} (hk : n.kind = 3 ∨ n.kind = 4) (hput : PutAlt n) (hrow : ∀ (T : List Tok) (i o : Nat), Has T i (keysG (en n).row) → Stop T (i + (keysG (en n).row).length) → (∀ k, k ≤ i + (keysG (en n).row).length → far T k = false) → o + (en n).drow ≤ 16 → RowR T .nil i o n (i + (keysG (en n).row).length)) : Good n := by
  have ei : (en n).item = par 40 (en n).put 41 := if_pos hk
  have di : (en n).ditem = 1 + (en n).dput := if_pos hk
  have ea : (en n).atom = par 40 (en n).put 41 := by
    show atomE n.kind n.text (ens n.kids) = _
    unfold atomE
    rw [if_neg (by omega), if_neg (by omega), if_neg (by omega)]
    rfl
  have da : (en n).datom = 1 + (en n).dput := by
    show atomD n.kind (ens n.kids) = _
    unfold atomD
    rw [if_neg (by omega), if_neg (by omega)]
    rfl
  refine ⟨by rw [ei]; exact starts_par 40 41 _ (.inl rfl), by rw [ea]; exact starts_par 40 41 _ (.inl rfl), hput, ?_, hrow, ?_⟩
  · rw [ei, di]
    exact fun T i o h hs hfar ho => item_of_atom (paren_atom hput h hfar ho) hs
  · rw [ea, da]
    exact fun T i o h hfar ho => paren_atom hput h hfar ho
theorem good_seq {f : Nd} (hl : f.len ≠ 1) (hg : ForE Good f) : Good ⟨3, [], f⟩ := by
  have ep : keysG (en ⟨3, [], f⟩).put = keysI f := by
    show keysG (joinG (.bl 32) ((ens f).map En.item)) = _
    rw [keys_join_bl, List.flatMap_map]
    rfl
  have hrow : ∀ (T : List Tok) (i o : Nat), Has T i (keysG (en ⟨3, [], f⟩).put) → Stop T (i + (keysG (en ⟨3, [], f⟩).put).length) → (∀ k, k ≤ i + (keysG (en ⟨3, [], f⟩).put).length → far T k = false) → o + (en ⟨3, [], f⟩).dput ≤ 16 → RowR T .nil i o ⟨3, [], f⟩ (i + (keysG (en ⟨3, [], f⟩).put).length) := fun T i o h hs hfar ho => by
    rw [ep] at h hs hfar ⊢
    have := items_read f i o .nil hg h hs hfar ho
    rw [Nd.app, pack3_self hl] at this
    exact this
  exact good_many (.inl rfl) (fun T i o h hs h124 hfar ho => alt_of_row (hrow T i o h hs hfar ho) hs h124) hrow
theorem good_alt {f : Nd} (hl : 1 < f.len) (hg : ForE Good f) : Good ⟨4, [], f⟩ := by
  have hput : PutAlt ⟨4, [], f⟩ := by
    match f, hl, hg with
    | .nil, hl, _ => simp [Nd.len] at hl
    | .cons k t kids r, hl, hg =>
      intro T i o h hs h124 hfar ho
      have ep : keysG (en ⟨4, [], .cons k t kids r⟩).put = keysG (en ⟨k, t, kids⟩).row ++ keysR r := by
        show keysG (joinG (sg 124) ((enE k t (ens kids)).row :: (ens r).map En.row)) = _
        rw [keys_join_sg, List.flatMap_map]
        rfl
      have ed : (en ⟨4, [], .cons k t kids r⟩).dput = max (en ⟨k, t, kids⟩).drow (maxL ((ens r).map En.drow)) := rfl
      rw [ep] at h hs h124 hfar ⊢
      rw [ed] at ho
      rw [List.length_append, ← Nat.add_assoc] at hs h124 hfar ⊢
      have hst : Stop T (i + (keysG (en ⟨k, t, kids⟩).row).length) := by
        cases r with
        | nil => exact hs
        | cons k2 t2 kids2 r2 =>
          have e2 : keysR (.cons k2 t2 kids2 r2) = ((3, [124]) :: keysG (en ⟨k2, t2, kids2⟩).row) ++ keysR r2 := rfl
          have h2 := h.right
          rw [e2] at h2
          exact stop_sign h2.head (by simp) (hfar _ (by omega))
      have hr := hg.1.row T i o h.left hst (fun k hk => hfar k (by omega)) (by omega)
      have hm := rows_read r (i + (keysG (en ⟨k, t, kids⟩).row).length) o (Nod.row ⟨k, t, kids⟩) hg.2 h.right hs h124 hfar (by omega)
      have ek : (Nod.row ⟨k, t, kids⟩).app r = .cons k t kids r := rfl
      rw [ek, pack4_self hl] at hm
      exact alt_of hr hm
  refine good_many (.inr rfl) hput (fun T i o h hs hfar ho => ?_)
  have er : (en ⟨4, [], f⟩).row = par 40 (en ⟨4, [], f⟩).put 41 := rfl
  have dr : (en ⟨4, [], f⟩).drow = 1 + (en ⟨4, [], f⟩).dput := rfl
  rw [er] at h hs hfar ⊢
  rw [dr] at ho
  exact row_of_item (item_of_atom (paren_atom hput h hfar ho) hs.toNoSuf) hs
theorem good_all : ∀ f : Nd, f.proper = true → ForE Good f
  | .nil, _ => trivial
  | .cons k t kids r, h => by
    unfold Nd.proper at h
    simp only [Bool.and_eq_true] at h
    obtain ⟨⟨hf, hk⟩, hr⟩ := h
    have ihk := good_all kids hk
    refine ⟨?_, good_all r hr⟩
    unfold Syn.fitN at hf
    split at hf
    · rename_i e
      subst e
      simp only [Bool.and_eq_true, beq_iff_eq] at hf
      match kids, hf.2 with
      | .nil, _ => exact good_leaf (.inl rfl) t
    · split at hf
      · rename_i e
        subst e
        simp only [Bool.and_eq_true, beq_iff_eq] at hf
        match kids, hf.2 with
        | .nil, _ => exact good_leaf (.inr rfl) t
      · rw [Bool.and_eq_true] at hf
        obtain ⟨hf, ht⟩ := hf
        have ht : t = [] := by simpa using ht
        subst ht
        split at hf
        · rename_i e
          subst e
          exact good_seq (by simpa using hf) ihk
        · split at hf
          · rename_i e
            subst e
            exact good_alt (by simpa using hf) ihk
          · simp only [Bool.and_eq_true, Bool.or_eq_true, beq_iff_eq] at hf
            obtain ⟨hk', hl⟩ := hf
            match kids, hl, ihk with
            | .cons k1 t1 kk .nil, _, ihk =>
              have e : Nd.cons k1 t1 kk .nil = Nod.row ⟨k1, t1, kk⟩ := rfl
              rw [e]
              rcases hk' with (rfl | rfl) | rfl
              · exact good_again (.inl ⟨rfl, rfl, rfl, rfl⟩) ihk.1
              · exact good_again (.inr ⟨rfl, rfl, rfl, rfl⟩) ihk.1
              · exact good_plus ihk.1
            | .cons k1 t1 kk (.cons _ _ _ r'), hl, _ => simp [Nd.len] at hl
theorem good_node {n : Nod} (h : n.proper = true) : Good n := (good_all n.row (by rw [Nod.row_proper]; exact h)).1
end Go.Proofs.Ytjaampgpihicmaa.Fmt
