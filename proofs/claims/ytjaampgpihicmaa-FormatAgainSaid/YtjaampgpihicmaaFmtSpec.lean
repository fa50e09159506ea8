/- Plain mathematics of chapter 6 (format): a node's text as a row of tokens and blanks; how it is scanned. No program in sight. -/
import Derived.Test.YtjaampgpihicmaaSynLaw4
namespace Go.Proofs.Ytjaampgpihicmaa.Fmt
open Lex (Tok)
open Syn (Nd Nod)

/-- A token, or a blank byte. -/
inductive Gl where
  | tok (k : Nat) (t : List UInt8)
  | bl (b : UInt8)
def Gl.bytes : Gl → List UInt8
  | .tok k t => Lex.shape ⟨k, t, 0, 0⟩
  | .bl b => [b]
def Gl.keys : Gl → List (Nat × List UInt8)
  | .tok k t => [(k, t)]
  | .bl _ => []
def bytesG (l : List Gl) : List UInt8 := l.flatMap Gl.bytes
def keysG (l : List Gl) : List (Nat × List UInt8) := l.flatMap Gl.keys
theorem bytesG_app (a b : List Gl) : bytesG (a ++ b) = bytesG a ++ bytesG b := by simp [bytesG]
theorem keysG_app (a b : List Gl) : keysG (a ++ b) = keysG a ++ keysG b := by simp [keysG]
theorem bytesG_cons (a : Gl) (b : List Gl) : bytesG (a :: b) = a.bytes ++ bytesG b := by simp [bytesG]
theorem keysG_cons (a : Gl) (b : List Gl) : keysG (a :: b) = a.keys ++ keysG b := by simp [keysG]
/-- A sign. -/
def sg (c : UInt8) : Gl := .tok 3 [c]
/-- A node's kind, its text, its text as an atom; how deep their brackets are. -/
structure En where
  kind : Nat
  put : List Gl
  atom : List Gl
  dput : Nat
  datom : Nat
def En.ditem (e : En) : Nat := if e.kind = 3 ∨ e.kind = 4 then 1 + e.dput else e.dput
def En.drow (e : En) : Nat := if e.kind = 4 then 1 + e.dput else e.dput
def En.dagain (e : En) : Nat := if e.kind = 1 ∨ e.kind = 2 ∨ e.kind = 5 ∨ e.kind = 6 then e.datom else 1 + e.dput
def maxL : List Nat → Nat
  | [] => 0
  | a :: r => max a (maxL r)
def par (a : UInt8) (l : List Gl) (b : UInt8) : List Gl := sg a :: (l ++ [sg b])
def En.item (e : En) : List Gl := if e.kind = 3 ∨ e.kind = 4 then par 40 e.put 41 else e.put
def En.row (e : En) : List Gl := if e.kind = 4 then par 40 e.put 41 else e.put
def En.again (e : En) (a b c : UInt8) : List Gl := if e.kind = 1 ∨ e.kind = 2 ∨ e.kind = 5 ∨ e.kind = 6 then e.atom ++ [sg b] else par a e.put c
def joinG (s : Gl) : List (List Gl) → List Gl
  | [] => []
  | a :: r => a ++ r.flatMap fun b => s :: b
def hdE : List En → En
  | [] => ⟨0, [], [], 0, 0⟩
  | e :: _ => e
def putE (k : Nat) (t : List UInt8) (es : List En) : List Gl :=
  if k = 1 ∨ k = 2 then [.tok k t] else if k = 3 then joinG (.bl 32) (es.map En.item) else if k = 4 then joinG (sg 124) (es.map En.row)
  else if k = 5 then (hdE es).again 91 63 93 else if k = 6 then (hdE es).again 123 42 125 else if k = 7 then (hdE es).atom ++ [sg 43] else []
def atomE (k : Nat) (t : List UInt8) (es : List En) : List Gl :=
  if k = 1 ∨ k = 2 then [.tok k t] else if k = 5 then par 91 (hdE es).put 93 else if k = 6 then par 123 (hdE es).put 125 else par 40 (putE k t es) 41
def putD (k : Nat) (es : List En) : Nat :=
  if k = 1 ∨ k = 2 then 0 else if k = 3 then maxL (es.map En.ditem) else if k = 4 then maxL (es.map En.drow)
  else if k = 5 ∨ k = 6 then (hdE es).dagain else if k = 7 then (hdE es).datom else 0
def atomD (k : Nat) (es : List En) : Nat := if k = 1 ∨ k = 2 then 0 else if k = 5 ∨ k = 6 then 1 + (hdE es).dput else 1 + putD k es
/-- A node with its texts, over its kids'. -/
def enE (k : Nat) (t : List UInt8) (es : List En) : En := ⟨k, putE k t es, atomE k t es, putD k es, atomD k es⟩
/-- The nodes of a row, each with its texts. -/
def ens : Nd → List En
  | .nil => []
  | .cons k t kids r => enE k t (ens kids) :: ens r
def en (n : Nod) : En := enE n.kind n.text (ens n.kids)
theorem ens_row (n : Nod) : ens n.row = [en n] := rfl
theorem ens_app : ∀ f g : Nd, ens (f.app g) = ens f ++ ens g
  | .nil, _ => rfl
  | .cons k t kids r, g => by rw [Nd.app, ens, ens, ens_app r g]; rfl

/-- No two names side by side. -/
def Gl.isName : Gl → Bool
  | .tok 1 _ => true
  | _ => false
def apart : List Gl → Bool
  | a :: b :: r => !(a.isName && b.isName) && apart (b :: r)
  | _ => true
def lastName (l : List Gl) : Bool := (l.getLast?.map Gl.isName).getD false
def headName (l : List Gl) : Bool := (l.head?.map Gl.isName).getD false
theorem apart_app : ∀ {a b : List Gl}, apart a = true → apart b = true → (lastName a && headName b) = false → apart (a ++ b) = true
  | [], b, _, hb, _ => hb
  | [x], b, _, hb, h => by
    cases b with
    | nil => rfl
    | cons y r =>
      have h : (x.isName && y.isName) = false := by simpa [lastName, headName] using h
      show (!(x.isName && y.isName) && apart (y :: r)) = true
      rw [h, hb]
      rfl
  | x :: y :: r, b, ha, hb, h => by
    have ha : (!(x.isName && y.isName) && apart (y :: r)) = true := ha
    rw [Bool.and_eq_true] at ha
    show (!(x.isName && y.isName) && apart (y :: r ++ b)) = true
    rw [ha.1, apart_app ha.2 hb (by simpa [lastName, List.getLast?_cons_cons] using h)]
    rfl
theorem apart_mid {a b : List Gl} {g : Gl} (ha : apart a = true) (hb : apart b = true) (hg : g.isName = false) : apart (a ++ g :: b) = true := by
  refine apart_app ha ?_ (by simp [headName, hg])
  cases b with
  | nil => rfl
  | cons y r =>
    show (!(g.isName && y.isName) && apart (y :: r)) = true
    rw [hg, hb]
    rfl
theorem apart_end {a : List Gl} {g : Gl} (ha : apart a = true) (hg : g.isName = false) : apart (a ++ [g]) = true := apart_mid ha rfl hg
theorem apart_cons {a : List Gl} {g : Gl} (ha : apart a = true) (hg : g.isName = false) : apart (g :: a) = true := apart_mid (a := []) rfl ha hg
theorem sg_name (c : UInt8) : (sg c).isName = false := rfl
theorem apart_par {a b : UInt8} {l : List Gl} (h : apart l = true) : apart (par a l b) = true := apart_cons (apart_end h (sg_name b)) (sg_name a)
theorem apart_join {s : Gl} (hs : s.isName = false) : ∀ {ls : List (List Gl)}, (∀ l ∈ ls, apart l = true) → apart (joinG s ls) = true
  | [], _ => rfl
  | a :: r, h => by
    unfold joinG
    have key : ∀ {r : List (List Gl)} {a : List Gl}, apart a = true → (∀ l ∈ r, apart l = true) → apart (a ++ r.flatMap fun b => s :: b) = true := by
      intro r
      induction r with
      | nil => intro a ha _; simpa using ha
      | cons b r ih =>
        intro a ha h
        have h1 := ih (a := a ++ s :: b) (apart_mid ha (h b List.mem_cons_self) hs) (fun l hl => h l (List.mem_cons_of_mem _ hl))
        simpa [List.append_assoc] using h1
    exact key (h a List.mem_cons_self) (fun l hl => h l (List.mem_cons_of_mem _ hl))
def En.apart (e : En) : Prop := Fmt.apart e.put = true ∧ Fmt.apart e.atom = true
theorem En.item_apart {e : En} (h : e.apart) : Fmt.apart e.item = true := by unfold En.item; split <;> first | exact apart_par h.1 | exact h.1
theorem En.row_apart {e : En} (h : e.apart) : Fmt.apart e.row = true := by unfold En.row; split <;> first | exact apart_par h.1 | exact h.1
theorem hdE_apart {es : List En} (h : ∀ e ∈ es, e.apart) : (hdE es).apart := by
  cases es with
  | nil => exact ⟨rfl, rfl⟩
  | cons e r => exact h e List.mem_cons_self
theorem again_apart {e : En} (h : e.apart) (a b c : UInt8) : Fmt.apart (e.again a b c) = true := by unfold En.again; split <;> first | exact apart_end h.2 (sg_name b) | exact apart_par h.1
theorem putE_apart (k : Nat) (t : List UInt8) {es : List En} (h : ∀ e ∈ es, e.apart) : apart (putE k t es) = true := by
  have hd := hdE_apart h
  unfold putE
  split
  · rfl
  · split
    · exact apart_join rfl (fun l hl => by obtain ⟨e, he, rfl⟩ := List.mem_map.1 hl; exact En.item_apart (h e he))
    · split
      · exact apart_join (sg_name _) (fun l hl => by obtain ⟨e, he, rfl⟩ := List.mem_map.1 hl; exact En.row_apart (h e he))
      · split
        · exact again_apart hd _ _ _
        · split
          · exact again_apart hd _ _ _
          · split
            · exact apart_end hd.2 (sg_name _)
            · rfl
theorem atomE_apart (k : Nat) (t : List UInt8) {es : List En} (h : ∀ e ∈ es, e.apart) : apart (atomE k t es) = true := by
  have hd := hdE_apart h
  unfold atomE
  split
  · rfl
  · split
    · exact apart_par hd.1
    · split
      · exact apart_par hd.1
      · exact apart_par (putE_apart k t h)
theorem ens_apart : ∀ f : Nd, ∀ e ∈ ens f, e.apart
  | .nil, e, h => by cases h
  | .cons k t kids r, e, h => by
    rw [ens] at h
    rcases List.mem_cons.1 h with rfl | h
    · exact ⟨putE_apart k t (ens_apart kids), atomE_apart k t (ens_apart kids)⟩
    · exact ens_apart r e h
theorem en_apart (n : Nod) : (en n).apart := ens_apart n.row _ (by rw [ens_row]; exact List.mem_singleton.2 rfl)

/-- Tokens as they may be scanned, blanks as such. -/
def Gl.ok : Gl → Prop
  | .tok k t => (⟨k, t, 0, 0⟩ : Tok).ok
  | .bl b => Lex.isBlank b = true
theorem sg_ok {c : UInt8} (h : c ∈ Lex.signs) : (sg c).ok := by
  refine .inr (.inr ⟨rfl, c, rfl, ?_, ?_, ?_, ?_⟩)
  · exact List.contains_iff_mem.2 h
  all_goals (simp only [Lex.signs, List.mem_cons, List.not_mem_nil, or_false] at h; rcases h with rfl | rfl | rfl | rfl | rfl | rfl | rfl | rfl | rfl | rfl | rfl | rfl | rfl <;> decide)
def okG (l : List Gl) : Prop := ∀ g ∈ l, g.ok
theorem okG_app {a b : List Gl} (ha : okG a) (hb : okG b) : okG (a ++ b) := fun g hg => (List.mem_append.1 hg).elim (ha g) (hb g)
theorem okG_cons {a : Gl} {b : List Gl} (ha : a.ok) (hb : okG b) : okG (a :: b) := fun g hg => by
  rcases List.mem_cons.1 hg with rfl | hg
  · exact ha
  · exact hb g hg
theorem okG_nil : okG [] := fun g hg => by cases hg
theorem okG_par {a b : UInt8} {l : List Gl} (ha : a ∈ Lex.signs) (hb : b ∈ Lex.signs) (h : okG l) : okG (par a l b) := okG_cons (sg_ok ha) (okG_app h (okG_cons (sg_ok hb) okG_nil))
theorem okG_join {s : Gl} (hs : s.ok) : ∀ {ls : List (List Gl)}, (∀ l ∈ ls, okG l) → okG (joinG s ls)
  | [], _ => okG_nil
  | a :: r, h => by
    refine okG_app (h a List.mem_cons_self) (fun g hg => ?_)
    obtain ⟨b, hb, hg⟩ := List.mem_flatMap.1 hg
    exact okG_cons hs (h b (List.mem_cons_of_mem _ hb)) g hg
theorem name_ok {t : List UInt8} (h : Syn.goodL t = true) : (⟨1, t, 0, 0⟩ : Tok).ok := by
  unfold Syn.goodL at h
  simp only [Bool.and_eq_true, decide_eq_true_eq] at h
  obtain ⟨⟨h1, h2⟩, h3, h4⟩ := h
  refine .inl ⟨rfl, h2, fun c hc => (List.all_eq_true.1 h4) c hc, ?_⟩
  cases t with
  | nil => simp at h1
  | cons c r => exact ⟨c, r, rfl, by simpa using h3⟩
theorem sign_notRest {c : UInt8} (h : Lex.isSign c = true) : Lex.isRest c = false := by
  have h : c ∈ Lex.signs := List.contains_iff_mem.1 h
  simp only [Lex.signs, List.mem_cons, List.not_mem_nil, or_false] at h
  rcases h with rfl | rfl | rfl | rfl | rfl | rfl | rfl | rfl | rfl | rfl | rfl | rfl | rfl <;> decide
theorem quote_notRest (t : List UInt8) : Lex.isRest (Lex.quoteQ t) = false := by
  rcases Lex.quoteQ_or t with h | h <;> rw [h] <;> decide
/-- A token's text behind which no name goes on. -/
theorem tokS_glyph {t : Tok} (h : t.ok) (rest : List UInt8) (hr : t.kind = 1 → rest.takeWhile Lex.isRest = [] ∧ rest.dropWhile Lex.isRest = rest) :
    ∃ c r, Lex.shape t ++ rest = c :: r ∧ Lex.isBlank c = false ∧ c ≠ 35 ∧ ∀ li co, ∃ t' li' co', Lex.tokS c r li co = .good t' rest li' co' ∧ Lex.key t' = Lex.key t := by
  rcases h with ⟨hk, hl, hall, c, r, hc, hlet⟩ | ⟨hk, h0, hl⟩ | ⟨hk, c, hc, hs, hnl, h39, h34⟩
  · have hrest := hr hk
    have hsh : Lex.shape t = c :: r := by unfold Lex.shape; rw [if_neg (by omega), hc]
    refine ⟨c, r ++ rest, by rw [hsh]; rfl, ?_, ?_, fun li co => ?_⟩
    · rw [Bool.eq_false_iff]; intro hb
      simp only [Lex.isBlank, Bool.or_eq_true, beq_iff_eq] at hb
      rcases hb with ((rfl | rfl) | rfl) | rfl <;> exact absurd hlet (by decide)
    · rintro rfl; exact absurd hlet (by decide)
    · have hp := Lex.takeWhile_pre Lex.isRest rest hrest t.text hall
      rw [hc] at hp hl
      refine ⟨⟨1, c :: r, li, co⟩, li, co + (c :: r).length, ?_, ?_⟩
      · unfold Lex.tokS
        rw [if_pos hlet]
        rw [List.cons_append] at hp
        rw [hp.1, hp.2, if_neg (by omega)]
      · simp [Lex.key, hk, hc]
  · have hsh : Lex.shape t = Lex.quoteS t.text := by unfold Lex.shape; rw [if_pos hk]
    refine ⟨Lex.quoteQ t.text, t.text.flatMap (Lex.quoteB (Lex.quoteQ t.text)) ++ Lex.quoteQ t.text :: rest, by rw [hsh, Lex.quoteS]; simp, ?_, ?_, fun li co => ⟨_, _, _, Lex.tokS_quote t.text rest li co h0 hl, by simp [Lex.key, hk]⟩⟩
    · rcases Lex.quoteQ_or t.text with h | h <;> rw [h] <;> decide
    · rcases Lex.quoteQ_or t.text with h | h <;> rw [h] <;> decide
  · have hsh : Lex.shape t = [c] := by unfold Lex.shape; rw [if_neg (by omega), hc]
    refine ⟨c, rest, by rw [hsh]; rfl, ?_, ?_, fun li co => ⟨⟨3, [c], li, co⟩, li, co + 1, ?_, by simp [Lex.key, hk, hc]⟩⟩
    · rw [Bool.eq_false_iff]; intro hb
      simp only [Lex.isBlank, Bool.or_eq_true, beq_iff_eq] at hb
      rcases hb with ((rfl | rfl) | rfl) | rfl <;> exact absurd hs (by decide)
    · rintro rfl; exact absurd hs (by decide)
    · unfold Lex.tokS
      rw [if_neg (by simp [hnl]), if_neg (by simp [h39, h34]), if_pos hs]
/-- What stands behind a name begins with no byte of a name. -/
theorem rest_after : ∀ (l : List Gl), okG l → headName l = false → (bytesG l).takeWhile Lex.isRest = [] ∧ (bytesG l).dropWhile Lex.isRest = bytesG l
  | [], _, _ => ⟨rfl, rfl⟩
  | g :: r, h, hn => by
    have hg := h g List.mem_cons_self
    obtain ⟨c, q, hc, hcr⟩ : ∃ c q, bytesG (g :: r) = c :: q ∧ Lex.isRest c = false := by
      rw [bytesG_cons]
      cases g with
      | bl b => exact ⟨b, bytesG r, rfl, Lex.blank_notRest hg⟩
      | tok k t =>
        rcases hg with ⟨hk, _⟩ | ⟨hk, _⟩ | ⟨hk, c, hc, hs, _⟩
        · have hk : k = 1 := hk
          subst hk
          simp [headName, Gl.isName] at hn
        · have hk : k = 2 := hk
          subst hk
          exact ⟨Lex.quoteQ t, _, rfl, quote_notRest t⟩
        · have hk : k = 3 := hk
          have hc : t = [c] := hc
          subst hk
          subst hc
          exact ⟨c, bytesG r, rfl, sign_notRest hs⟩
    rw [hc, List.takeWhile_cons, List.dropWhile_cons, hcr]
    exact ⟨rfl, rfl⟩
theorem skip_blank {b : UInt8} (h : Lex.isBlank b = true) (r : List UInt8) (li co : Nat) : ∃ li' co', Lex.scanS (b :: r) li co = Lex.scanS r li' co' := by
  refine ⟨Lex.advL b li, Lex.advC b co, ?_⟩
  rw [Lex.scanS_eq, Lex.scanS_eq]
  have e : Lex.skipS false (b :: r) li co = Lex.skipS false r (Lex.advL b li) (Lex.advC b co) := by
    rw [Lex.skipS]
    simp [h]
  rw [e]
theorem scanS_gl : ∀ (l : List Gl) (li co : Nat), okG l → apart l = true → ∃ m, Lex.scanS (bytesG l) li co = .good m ∧ m.map Lex.key = keysG l ++ [(4, [])]
  | [], li, co, _, _ => ⟨[⟨4, [], li, co⟩], by rw [Lex.scanS_eq]; rfl, rfl⟩
  | g :: r, li, co, h, ha => by
    have hg := h g List.mem_cons_self
    have hr : okG r := fun x hx => h x (List.mem_cons_of_mem _ hx)
    have har : apart r = true := by
      cases r with
      | nil => rfl
      | cons y r =>
        have ha : (!(g.isName && y.isName) && apart (y :: r)) = true := ha
        rw [Bool.and_eq_true] at ha
        exact ha.2
    cases g with
    | bl b =>
      obtain ⟨li', co', e⟩ := skip_blank hg (bytesG r) li co
      obtain ⟨m, h1, h2⟩ := scanS_gl r li' co' hr har
      exact ⟨m, by rw [bytesG_cons]; exact e.trans h1, by rw [keysG_cons]; exact h2⟩
    | tok k t =>
      have hrest : k = 1 → (bytesG r).takeWhile Lex.isRest = [] ∧ (bytesG r).dropWhile Lex.isRest = bytesG r := fun e => by
        refine rest_after r hr ?_
        cases r with
        | nil => rfl
        | cons y r =>
          have ha : (!((Gl.tok k t).isName && y.isName) && apart (y :: r)) = true := ha
          rw [Bool.and_eq_true, e] at ha
          have ha := ha.1
          simp [Gl.isName] at ha
          simp [headName]
          exact ha
      obtain ⟨c, q, hc, hb, h35, htok⟩ := tokS_glyph hg (bytesG r) hrest
      obtain ⟨t', li2, co2, ht, hkey⟩ := htok li co
      obtain ⟨m, hm, hmk⟩ := scanS_gl r li2 co2 hr har
      have hsk : Lex.skipS false (c :: q) li co = (c :: q, li, co) := by
        rw [Lex.skipS]
        simp [hb, h35]
      refine ⟨t' :: m, ?_, ?_⟩
      · rw [bytesG_cons]
        show Lex.scanS (Lex.shape ⟨k, t, 0, 0⟩ ++ bytesG r) li co = _
        rw [hc, Lex.scanS_eq, hsk]
        simp only [Lex.contS]
        rw [ht]
        simp only []
        rw [hm]
        rfl
      · rw [List.map_cons, hkey, hmk, keysG_cons]
        rfl
theorem scan_gl {l : List Gl} (h : okG l) (ha : apart l = true) (hl : (bytesG l).length ≤ 65536) : ∃ m, Lex.scan (bytesG l) = .good m ∧ m.map Lex.key = keysG l ++ [(4, [])] := by
  unfold Lex.scan
  rw [if_neg (by omega)]
  exact scanS_gl l 1 1 h ha
end Go.Proofs.Ytjaampgpihicmaa.Fmt
