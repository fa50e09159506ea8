/- Plain mathematics of chapter 4 (lex): what a text's tokens are, over lists of bytes. No program in sight. -/
import Derived.Test.YtjaampgpihicmaaBase
import Derived.Laws.OwnMore
namespace Go.Proofs.Ytjaampgpihicmaa.Lex

/-- A token: kind, bytes, line, column. -/
structure Tok where
  kind : Nat
  text : List UInt8
  line : Nat
  col : Nat
  deriving DecidableEq

/-- A fault: line, column, code. -/
structure Flt where
  line : Nat
  col : Nat
  code : Nat
  deriving DecidableEq

def letterZ (c : Int) : Bool := (decide (97 ≤ c) && decide (c ≤ 122)) || (decide (65 ≤ c) && decide (c ≤ 90))
def restZ (c : Int) : Bool := letterZ c || (decide (48 ≤ c) && decide (c ≤ 57)) || (c == 95) || (c == 45)
def isLetter (c : UInt8) : Bool := letterZ c.toNat
def isRest (c : UInt8) : Bool := restZ c.toNat
def isBlank (c : UInt8) : Bool := c == 32 || c == 9 || c == 10 || c == 13
def signs : List UInt8 := [58, 124, 59, 40, 41, 91, 93, 123, 125, 42, 43, 63, 37]
def isSign (c : UInt8) : Bool := signs.contains c
def hexes : List UInt8 := [48, 49, 50, 51, 52, 53, 54, 55, 56, 57, 97, 98, 99, 100, 101, 102]
/-- The value of a hexadecimal digit, -1 where it is none. -/
def hexZ (c : Int) : Int := if 48 ≤ c ∧ c ≤ 57 then c - 48 else if 97 ≤ c ∧ c ≤ 102 then c - 87 else -1
def hexv (c : UInt8) : Int := hexZ c.toNat

def advL (c : UInt8) (li : Nat) : Nat := if c = 10 then li + 1 else li
def advC (c : UInt8) (co : Nat) : Nat := if c = 10 then 1 else co + 1

/-- Blanks and comments passed over; the Bool: within a comment. -/
def skipS : Bool → List UInt8 → Nat → Nat → List UInt8 × Nat × Nat
  | _, [], li, co => ([], li, co)
  | cm, c :: r, li, co =>
    if cm = true ∧ c ≠ 10 then skipS true r (advL c li) (advC c co)
    else if isBlank c then skipS false r (advL c li) (advC c co)
    else if c = 35 then skipS true r (advL c li) (advC c co)
    else (c :: r, li, co)

inductive Mode where
  | norm
  | esc
  | hex1
  | hex2 (n : Int)

inductive LitRes where
  | bad (col : Nat)
  | good (out rest : List UInt8) (col : Nat)

/-- A literal behind its first byte, up to behind its last. -/
def litS (q : UInt8) : Mode → List UInt8 → List UInt8 → Nat → LitRes
  | _, [], _, co => .bad co
  | .norm, c :: r, out, co =>
    if c = q then .good out r (co + 1)
    else if c = 92 then litS q .esc r out (co + 1)
    else if c < 32 ∨ 126 < c then .bad co
    else litS q .norm r (out ++ [c]) (co + 1)
  | .esc, c :: r, out, co =>
    if c = 92 ∨ c = 39 ∨ c = 34 then litS q .norm r (out ++ [c]) (co + 1)
    else if c = 110 then litS q .norm r (out ++ [10]) (co + 1)
    else if c = 116 then litS q .norm r (out ++ [9]) (co + 1)
    else if c = 120 then litS q .hex1 r out (co + 1)
    else .bad co
  | .hex1, c :: r, out, co => if hexv c < 0 then .bad co else litS q (.hex2 (hexv c)) r out (co + 1)
  | .hex2 n, c :: r, out, co => if hexv c < 0 then .bad co else litS q .norm r (out ++ [UInt8.ofNat (16 * n + hexv c).toNat]) (co + 1)

inductive TokRes where
  | bad (f : Flt)
  | good (t : Tok) (rest : List UInt8) (li co : Nat)

/-- The token that begins with c. -/
def tokS (c : UInt8) (r : List UInt8) (li co : Nat) : TokRes :=
  if isLetter c then
    if 32 < ((c :: r).takeWhile isRest).length then .bad ⟨li, co, 6⟩
    else .good ⟨1, (c :: r).takeWhile isRest, li, co⟩ ((c :: r).dropWhile isRest) li (co + ((c :: r).takeWhile isRest).length)
  else if c = 39 ∨ c = 34 then
    match litS c .norm r [] (co + 1) with
    | .bad k => .bad ⟨li, k, 2⟩
    | .good out rest k =>
      if out = [] then .bad ⟨li, co, 2⟩
      else if 16 < out.length then .bad ⟨li, co, 6⟩
      else .good ⟨2, out, li, co⟩ rest li k
  else if isSign c then .good ⟨3, [c], li, co⟩ r li (co + 1)
  else .bad ⟨li, co, 2⟩

inductive ScanRes where
  | bad (f : Flt)
  | good (ts : List Tok)

def ScanRes.push (out : List Tok) : ScanRes → ScanRes
  | .bad f => .bad f
  | .good ts => .good (out ++ ts)

/-- The tokens from here on, with fuel. -/
def scanF : Nat → List UInt8 → Nat → Nat → ScanRes
  | 0, _, _, _ => .bad ⟨0, 0, 0⟩
  | n + 1, l, li, co =>
    match skipS false l li co with
    | ([], li', co') => .good [⟨4, [], li', co'⟩]
    | (c :: r, li', co') =>
      match tokS c r li' co' with
      | .bad f => .bad f
      | .good t rest li'' co'' => (scanF n rest li'' co'').push [t]

def scanS (l : List UInt8) (li co : Nat) : ScanRes := scanF (l.length + 1) l li co

/-- What Scan returns: of a text that is too long nothing but the fault. -/
def scan (l : List UInt8) : ScanRes := if 65536 < l.length then .bad ⟨0, 0, 6⟩ else scanS l 1 1

/-! ### Lengths: what is left is shorter -/

theorem skipS_len : ∀ (cm : Bool) (l : List UInt8) (li co : Nat), (skipS cm l li co).1.length ≤ l.length
  | _, [], _, _ => by simp [skipS]
  | cm, c :: r, li, co => by
    simp only [skipS]
    repeat' split
    all_goals first | (have := skipS_len true r (advL c li) (advC c co); simp only [List.length_cons]; omega) | (have := skipS_len false r (advL c li) (advC c co); simp only [List.length_cons]; omega) | simp

theorem litS_len (q : UInt8) : ∀ (l : List UInt8) (m : Mode) (out : List UInt8) (co : Nat) (o r : List UInt8) (k : Nat), litS q m l out co = .good o r k → r.length ≤ l.length
  | [], m, out, co, o, r, k, h => by cases m <;> simp [litS] at h
  | c :: l, m, out, co, o, r, k, h => by
    cases m <;> simp only [litS] at h <;> (repeat' split at h) <;>
      first
        | (cases h; done)
        | (cases h; simp; done)
        | (have := litS_len q l _ _ _ _ _ _ h; simp only [List.length_cons]; omega)

theorem takeWhile_drop_len (p : UInt8 → Bool) (l : List UInt8) : (l.dropWhile p).length + (l.takeWhile p).length = l.length := by
  induction l with
  | nil => simp
  | cons c r ih => by_cases h : p c <;> simp [h]; omega

theorem isRest_of_letter {c : UInt8} (h : isLetter c = true) : isRest c = true := by
  unfold isRest restZ
  unfold isLetter at h
  simp [h]

theorem tokS_len {c : UInt8} {r : List UInt8} {li co : Nat} {t : Tok} {rest : List UInt8} {li' co' : Nat} (h : tokS c r li co = .good t rest li' co') : rest.length ≤ r.length := by
  unfold tokS at h
  split at h
  · rename_i hl
    split at h
    · cases h
    · cases h
      have := takeWhile_drop_len isRest (c :: r)
      have h1 : 1 ≤ ((c :: r).takeWhile isRest).length := by simp [isRest_of_letter hl]
      simp only [List.length_cons] at this
      omega
  · split at h
    · split at h
      · cases h
      · rename_i hh
        have := litS_len _ _ _ _ _ _ _ _ hh
        split at h
        · cases h
        · split at h
          · cases h
          · cases h; exact this
    · split at h
      · cases h; exact Nat.le_refl _
      · cases h

theorem scanF_fuel : ∀ (n m : Nat) (l : List UInt8) (li co : Nat), l.length < n → l.length < m → scanF n l li co = scanF m l li co
  | 0, _, _, _, _, h, _ => by omega
  | _, 0, _, _, _, _, h => by omega
  | n + 1, m + 1, l, li, co, hn, hm => by
    have hsk := skipS_len false l li co
    unfold scanF
    rcases hs : skipS false l li co with ⟨l', li', co'⟩
    rw [hs] at hsk
    cases l' with
    | nil => rfl
    | cons c r =>
      simp only []
      cases ht : tokS c r li' co' with
      | bad f => rfl
      | good t rest li'' co'' =>
        have := tokS_len ht
        simp only [List.length_cons] at hsk
        simp only []
        rw [scanF_fuel n m rest li'' co'' (by omega) (by omega)]

/-- Scanning from a place at which nothing is to be passed over. -/
def contS (l : List UInt8) (li co : Nat) : ScanRes :=
  match l with
  | [] => .good [⟨4, [], li, co⟩]
  | c :: r =>
    match tokS c r li co with
    | .bad f => .bad f
    | .good t rest li'' co'' => (scanS rest li'' co'').push [t]

theorem scanS_eq (l : List UInt8) (li co : Nat) : scanS l li co = contS (skipS false l li co).1 (skipS false l li co).2.1 (skipS false l li co).2.2 := by
  have hsk := skipS_len false l li co
  unfold scanS
  unfold scanF
  rcases hs : skipS false l li co with ⟨l', li', co'⟩
  rw [hs] at hsk
  cases l' with
  | nil => simp [contS]
  | cons c r =>
    simp only [contS]
    cases ht : tokS c r li' co' with
    | bad f => simp
    | good t rest li'' co'' =>
      have := tokS_len ht
      simp only [List.length_cons] at hsk
      simp only [scanS]
      rw [scanF_fuel l.length (rest.length + 1) rest li'' co'' (by omega) (by omega)]

theorem push_push (a b : List Tok) (r : ScanRes) : (r.push b).push a = r.push (a ++ b) := by cases r <;> simp [ScanRes.push]
theorem push_nil (r : ScanRes) : r.push [] = r := by cases r <;> simp [ScanRes.push]

end Go.Proofs.Ytjaampgpihicmaa.Lex
/- Bytes in rows; a text quoted, in plain Lean. No program but its types' numbers. -/
namespace Go.Proofs.Ytjaampgpihicmaa.Lex

def hexD (n : Nat) : UInt8 := hexes.getD n 0
def quoteB (q c : UInt8) : List UInt8 :=
  if c = q ∨ c = 92 then [92, c] else if c = 10 then [92, 110] else if c = 9 then [92, 116] else if c < 32 ∨ 126 < c then [92, 120, hexD (c.toNat / 16), hexD (c.toNat % 16)] else [c]
def quoteQ (l : List UInt8) : UInt8 := if l.count 34 < l.count 39 then 34 else 39
def quoteS (l : List UInt8) : List UInt8 := quoteQ l :: (l.flatMap (quoteB (quoteQ l)) ++ [quoteQ l])

theorem quoteQ_or (l : List UInt8) : quoteQ l = 39 ∨ quoteQ l = 34 := by unfold quoteQ; split <;> simp
theorem quoteB_len (q c : UInt8) : 1 ≤ (quoteB q c).length ∧ (quoteB q c).length ≤ 4 := by unfold quoteB; constructor <;> (repeat' split) <;> simp
theorem quoteF_len (q : UInt8) : ∀ l : List UInt8, (l.flatMap (quoteB q)).length ≤ 4 * l.length
  | [] => by simp
  | c :: l => by
    have h1 := quoteB_len q c
    have h2 := quoteF_len q l
    simp only [List.flatMap_cons, List.length_append, List.length_cons]
    omega
theorem quoteS_len (l : List UInt8) : (quoteS l).length ≤ 4 * l.length + 2 := by
  have := quoteF_len (quoteQ l) l
  simp only [quoteS, List.length_cons, List.length_append, List.length_nil]
  omega

end Go.Proofs.Ytjaampgpihicmaa.Lex
namespace Go.Proofs.Ytjaampgpihicmaa
open Go.RowKit

theorem tob (c : UInt8) (n : Nat) (hn : n < 256) (h : c = UInt8.ofNat n) : ((c.toNat : Int) == (n : Int)) = true := by rw [byte_eq c n hn, h]; simp
theorem tobf (c : UInt8) (n : Nat) (hn : n < 256) (h : c ≠ UInt8.ofNat n) : ((c.toNat : Int) == (n : Int)) = false := by rw [byte_eq c n hn]; simpa using h

def u8s (l : List UInt8) : List Value := l.map fun c => .int .u8 c.toNat

theorem own_own_ne {w : World} {base base' : Nat} {e e' : TypeId} {size size' n n' : Nat} {v v' : Value} {xs xs' : List Value} (h : w.ownsRow base e size v n xs) (h' : w.ownsRow base' e' size' v' n' xs') (hne : e ≠ e') :
    ∀ k, v.ownBlock = some k → v'.ownBlock ≠ some k := by
  intro k hk
  rcases h.2 with ⟨rfl, _⟩ | ⟨g, cap, cur, rfl, _, hh, _⟩
  · simp [Value.ownBlock] at hk
  · have hg : g = k := by simpa [Value.ownBlock] using hk
    subst hg
    have hb : Bk w g e cur.toList := by unfold Bk; simpa using hh
    exact hb.own_ne h' (Ne.symm hne)

theorem conv_own {w : World} {base n : Nat} {v : Value} {l : List UInt8} (h : w.ownsRow base 5 1 v n (u8s l)) (hn : n = l.length) :
    (convert 54 9 v).run Try.prog w = .ok (.string ⟨l.toArray⟩) w := by
  rcases h.2 with ⟨rfl, h0⟩ | ⟨g, cap, cur, rfl, _, _⟩
  · have : l = [] := List.eq_nil_of_length_eq_zero (by omega)
    subst this
    exact run_convert_bytes_nil w _ _ Try.underlying54 Try.underlying5 0 0 _ Try.underlying9
  · subst hn
    refine run_convert_bytes_back w _ _ _ ⟨g, 0, none⟩ cap l Try.underlying54 Try.underlying5 Try.underlying9 (fun j hj => ?_)
    exact h.cells (g := g) rfl j _ (by simp [u8s, List.getElem?_eq_getElem hj])

theorem u8Info : (Try.prog.info? 5).map (fun i => (i.zero, i.size, i.bytes)) = some (some (.int .u8 0), 1, 1) := by kernel_rfl

end Go.Proofs.Ytjaampgpihicmaa
