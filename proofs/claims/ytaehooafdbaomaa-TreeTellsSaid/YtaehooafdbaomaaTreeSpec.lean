/- Chapter 14 (tree), in plain Lean: a tree out of bytes, its bytes, its text. No program. -/
import Derived.Test.YtaehooafdbaomaaOct
import Derived.Test.YtaehooafdbaomaaTreeC
namespace Go.Proofs.Ytaehooafdbaomaa
namespace Fo
def ofList : List (Int × Fo) → Fo
  | [] => nil
  | a :: r => cons a.1 a.2 (ofList r)
theorem ofList_len : ∀ l : List (Int × Fo), (ofList l).len = l.length
  | [] => rfl
  | _ :: r => by simp [ofList, len, ofList_len r]
theorem app_nil' : ∀ f : Fo, f.app nil = f
  | nil => rfl
  | cons p k r => by rw [app, app_nil' r]
theorem ofList_snoc : ∀ (l : List (Int × Fo)) (a : Int × Fo) (g : Fo), (ofList (l ++ [a])).app g = (ofList l).app (cons a.1 a.2 g)
  | [], a, g => rfl
  | b :: r, a, g => by
    rw [List.cons_append, ofList, app, ofList_snoc r a g, ofList, app]
end Fo
/-- What reading comes to. -/
inductive RR (α : Type) where
  | bad (e : Nat) : RR α
  | ok (a : α) (l : List UInt8) (c : Nat) : RR α
namespace Tr
def readK (g : Option Int → List UInt8 → Nat → RR (Int × Fo)) : List Int → List UInt8 → Nat → RR Fo
  | [], l, c => .ok .nil l c
  | s :: r, l, c => match g (some s) l c with
    | .bad e => .bad e
    | .ok a l' c' => match readK g r l' c' with
      | .bad e => .bad e
      | .ok f l'' c'' => .ok (.cons a.1 a.2 f) l'' c''
def kindOk (G : Gr) (must : Option Int) (n : Int) : Bool := match must with
  | none => true
  | some s => rootS G n == s
def readT (G : Gr) : Nat → Option Int → List UInt8 → Nat → RR (Int × Fo)
  | 0, _, _, _ => .bad 0
  | f + 1, must, l, c => match Oct.getS l with
    | .bad e => .bad e
    | .ok n k => if thereB G n = false then .bad 10 else if kindOk G must n = false then .bad 7 else if c = 65536 then .bad 6 else
      match readK (readT G f) (rightS G n) (l.drop k) (c + 1) with
      | .bad e => .bad e
      | .ok f l' c' => .ok (n, f) l' c'
/-- What Get answers: the tree, or the error's number. -/
def getT (G : Gr) (l : List UInt8) : Nat × Int × Fo := match readT G (l.length + 1) none l 0 with
  | .bad e => (e, 0, .nil)
  | .ok a [] _ => (0, a.1, a.2)
  | .ok _ (_ :: _) _ => (4, 0, .nil)
theorem readK_le {g : Option Int → List UInt8 → Nat → RR (Int × Fo)} (hg : ∀ m l c a l' c', c ≤ 65536 → g m l c = .ok a l' c' → l'.length ≤ l.length ∧ c' ≤ 65536) : ∀ (xs : List Int) (l : List UInt8) (c : Nat) (fo : Fo) (l' : List UInt8) (c' : Nat), c ≤ 65536 → readK g xs l c = .ok fo l' c' → l'.length ≤ l.length ∧ c' ≤ 65536
  | [], l, c, fo, l', c', hc, h => by
    cases h
    exact ⟨Nat.le_refl _, hc⟩
  | s :: r, l, c, fo, l', c', hc, h => by
    rw [readK] at h
    cases h1 : g (some s) l c with
    | bad e => rw [h1] at h; cases h
    | ok a l1 c1 =>
      rw [h1] at h
      simp only [] at h
      obtain ⟨h2, h3⟩ := hg _ _ _ _ _ _ hc h1
      cases h4 : readK g r l1 c1 with
      | bad e => rw [h4] at h; cases h
      | ok f l2 c2 =>
        rw [h4] at h
        cases h
        have h5 := readK_le hg r l1 c1 _ _ _ h3 h4
        exact ⟨by omega, h5.2⟩
theorem readT_le (G : Gr) : ∀ (f : Nat) (m : Option Int) (l : List UInt8) (c : Nat) (a : Int × Fo) (l' : List UInt8) (c' : Nat), c ≤ 65536 → readT G f m l c = .ok a l' c' → l'.length < l.length ∧ c' ≤ 65536
  | 0, _, _, _, _, _, _, _, h => by cases h
  | f + 1, m, l, c, a, l', c', hc, h => by
    rw [readT] at h
    cases hg : Oct.getS l with
    | bad e => rw [hg] at h; cases h
    | ok n k =>
      rw [hg] at h
      simp only [] at h
      obtain ⟨_, _, hk0, hkl, _⟩ := Oct.put_getS hg
      split at h
      · cases h
      · split at h
        · cases h
        · split at h
          · cases h
          · rename_i hc6
            cases hr : readK (readT G f) (rightS G n) (l.drop k) (c + 1) with
            | bad e => rw [hr] at h; cases h
            | ok fo l1 c1 =>
              rw [hr] at h
              cases h
              have h2 := readK_le (fun m l c a l' c' hc h => ⟨Nat.le_of_lt (readT_le G f m l c a l' c' hc h).1, (readT_le G f m l c a l' c' hc h).2⟩) _ _ _ _ _ _ (show c + 1 ≤ 65536 by omega) hr
              rw [List.length_drop] at h2
              exact ⟨by omega, h2.2⟩
/-- The rest of a tree's kids. -/
def contK (n : Int) (ls : List (Int × Fo)) (r : RR Fo) : RR (Int × Fo) := match r with
  | .bad e => .bad e
  | .ok fo l c => .ok (n, (Fo.ofList ls).app fo) l c
end Tr
theorem ChIn.right_le {w : World} {G : Gr} {gn gt gp : Option Addr} (h : ChIn w G gn gt gp) (p : Int) : (Tr.rightS G p).length ≤ 1000000 := by
  unfold Tr.rightS
  split
  · simp
  · rw [List.getD]
    cases hx : G.prods[p.toNat]? with
    | none => simp
    | some x => exact h.h4 x (List.mem_of_getElem? hx)
end Go.Proofs.Ytaehooafdbaomaa
