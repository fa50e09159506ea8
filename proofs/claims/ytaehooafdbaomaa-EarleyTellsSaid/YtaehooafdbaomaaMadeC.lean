/- 'made': a sound grammar of raw numbers, twice. -/
import Derived.Test.YtaehooafdbaomaaMadeSpec
import Derived.Test.YtaehooafdbaomaaGrow
import Derived.Test.YtaehooafdbaomaaFresh
import Derived.Test.YtaehooafdbaomaaOrders
namespace Go.Proofs.Ytaehooafdbaomaa
open Go.RowKit
attribute [local go_sem ↓] Go.wp_at_zero Go.wp_at_succ
attribute [local go_sem] frozen_alloc_lt

theorem ggTyR : GgTy Try.prog 9 103 3 27 31 :=
  ⟨Try.underlying27, Try.underlying31, strInfo, by kernel_rfl, by decide, by decide, by decide⟩
theorem ggTyP : GgTy Try.prog 9 97 3 27 28 :=
  ⟨Try.underlying27, Try.underlying28, strInfo, prodInfo, by decide, by decide, by decide⟩

/-- What 'made' hands back: the same grammar twice. -/
def MadePost (w : World) (G : Gr) (e : Ending) (w' : World) : Prop :=
  ∃ (gn gt gp gn' gt' gp' : Option Addr) (cn ct cp cn' ct' cp' : Nat), e = .returned (.tuple #[gramV G gn gt gp cn ct cp, gramV G gn' gt' gp' cn' ct' cp']) ∧ GIn w' G gn gt gp ∧ GIn w' G gn' gt' gp' ∧ Below w.heap.size w w'

/-- The names, up to i. -/
def MadeN (w1 : World) (b N : Nat) (st : Int) (k : Nat) (v7 : Value) (w : World) : Prop :=
  ∃ (i : Nat) (vn : Value), v7 = .int .i64 i ∧ i ≤ N ∧ Gg w b 33 9 103 3 ⟨st, N, Mk.letters 65 i, [], []⟩ vn (.slice none 0 0) (.slice none 0 0) ∧ k = N - i ∧ Below w1.heap.size w1 w

/-- The terminals, up to i. -/
def MadeT (w1 : World) (b N T : Nat) (st : Int) (vn : Value) (k : Nat) (v8 : Value) (w : World) : Prop :=
  ∃ (i : Nat) (vt : Value), v8 = .int .i64 i ∧ i ≤ T ∧ Gg w b 33 9 103 3 ⟨st, N, Mk.letters 65 N, Mk.letters 97 i, []⟩ vn vt (.slice none 0 0) ∧ k = T - i ∧ Below w1.heap.size w1 w
/-- The productions of the nonterminals before l. -/
def MadeL (w1 : World) (b N T c m : Nat) (st : Int) (vn vt : Value) (x : RawD) (k : Nat) (v9 : Value) (w : World) : Prop :=
  ∃ (l : Nat) (vp : Value), v9 = .int .i64 l ∧ l ≤ N ∧ Gg w b 33 9 103 3 ⟨st, N, Mk.letters 65 N, Mk.letters 97 T, Mk.prodsL N T c m x l⟩ vn vt vp ∧ k = N - l ∧ Below w1.heap.size w1 w
def MadeI (w1 : World) (b N T c m : Nat) (st : Int) (vn vt : Value) (x : RawD) (l : Nat) (k : Nat) (v10 : Value) (w : World) : Prop :=
  ∃ (i : Nat) (vp : Value), v10 = .int .i64 i ∧ i ≤ Mk.cnt c x ∧ Gg w b 33 9 103 3 ⟨st, N, Mk.letters 65 N, Mk.letters 97 T, Mk.prodsL N T c m x l ++ Mk.prodsI N T m x l i⟩ vn vt vp ∧ k = Mk.cnt c x - i ∧ Below w1.heap.size w1 w
/-- A right side's symbols. -/
def MadeR (w1 : World) (N T m : Nat) (zs : List Int) (k : Nat) (v11 v12 : Value) (w : World) : Prop :=
  ∃ (j : Nat) (vr : Value), vr = v11 ∧ v12 = .int .i64 j ∧ j ≤ min zs.length m ∧ w.ownsRow w1.heap.size 3 1 vr (Mk.rowS N T j zs).length ((Mk.rowS N T j zs).map (Value.int .i64)) ∧ k = min zs.length m - j ∧ Below w1.heap.size w1 w

/-- Strings in blocks of type e. -/
def CpRow (w : World) (e : TypeId) (ga : Option Addr) (ss : List ByteArray) : Prop := CellsD w (fun k => k < w.heap.size ∧ ∃ cs, w.heap[k]? = some (.cells cs e)) ga (ss.map Value.string).length (fun i u => (ss.map Value.string)[i]? = some u)
theorem CpRow.kp {w w' : World} {e : TypeId} {ga : Option Addr} {ss : List ByteArray} {S : Nat → Prop} (h : CpRow w e ga ss) (hk : Kp S w w') (hs : ∀ k cs, S k → w.heap[k]? ≠ some (.cells cs e)) : CpRow w' e ga ss :=
  (CellsD.kp h hk (fun k ⟨_, cs, h2⟩ h3 => hs k cs h3 h2) (fun _ _ _ h => h)).mono (fun k ⟨h1, cs, h2⟩ => ⟨Nat.lt_of_lt_of_le h1 hk.size, cs, by rw [hk.block k h1 (fun h3 => hs k cs h3 h2)]; exact h2⟩) (fun _ _ _ h => h)
theorem CpRow.rows {w : World} {e : TypeId} {ga : Option Addr} {ss : List ByteArray} (h : CpRow w e ga ss) : RowS w w.heap.size ga ss :=
  RowS.intro fun i x hx => by
    obtain ⟨g, off, u, e1, e2, e3, e4⟩ := h i (by simpa using (List.getElem?_eq_some_iff.1 hx).1)
    simp [hx] at e4
    subst e4
    exact ⟨g, off, e1, e2.1, e3⟩

/-- What each operation of the copy gives. -/
def CpG (b N T : Nat) (st : Int) (gn gt : Option Addr) (cn ct : Nat) (TS TG : TypeId) (B : Nat) (ns ts : List ByteArray) : Nat → Value → World → Prop
  | 0, u, _ => u = .pointer (some ⟨b, 0, none⟩)
  | 1, u, _ => u = .int .i64 st
  | 2, u, _ => u = .int .i64 N
  | 3, u, _ => ∃ ad, u = .slice (some ad) 0 0
  | 4, u, _ => u = .pointer (some ⟨b, 2, none⟩)
  | 5, u, _ => u = .slice gn N cn
  | 6, u, w => ∃ gv cap, u = .slice gv N cap ∧ CpRow w TS gv ns
  | 7, u, _ => ∃ ad, u = .slice (some ad) 0 0
  | 8, u, _ => u = .pointer (some ⟨b, 3, none⟩)
  | 9, u, _ => u = .slice gt T ct
  | 10, u, w => ∃ gv cap, u = .slice gv T cap ∧ CpRow w TS gv ts
  | 11, u, w => ∃ g1 c1 g2 c2, u = .agg #[.int .i64 st, .int .i64 N, .slice g1 N c1, .slice g2 T c2, .slice none 0 0] ∧ CpRow w TS g1 ns ∧ CpRow w TS g2 ts
  | 12, u, w => ∃ b', u = .pointer (some ⟨b', 0, none⟩) ∧ B ≤ b' ∧ ∃ x0 x1 x2 x3 x4, Bk w b' TG [x0, x1, x2, x3, x4]
  | _, _, _ => True
/-- The copy, made. -/
def CpFin (N T : Nat) (st : Int) (TS TG : TypeId) (B : Nat) (ns ts : List ByteArray) (u : Value) (w : World) : Prop :=
  ∃ b' g1 c1 g2 c2, u = .pointer (some ⟨b', 0, none⟩) ∧ B ≤ b' ∧ Bk w b' TG [.int .i64 st, .int .i64 N, .slice g1 N c1, .slice g2 T c2, .slice none 0 0] ∧ CpRow w TS g1 ns ∧ CpRow w TS g2 ts
def CpW (wr : World) (N T : Nat) (st : Int) (TS TG : TypeId) (ns ts : List ByteArray) (L : Nat → Bool) (f : Nat → Value) (w : World) : Prop :=
  Kp (fun _ => False) wr w ∧ (L 13 = true → L 12 = true ∧ CpFin N T st TS TG wr.heap.size ns ts (f 13) w)
section
variable {wr w w' : World} {b N T : Nat} {st : Int} {gn gt : Option Addr} {cn ct : Nat} {TS TG : TypeId} {B : Nat} {ns ts : List ByteArray}
theorem CpG.stay (hk : Kp (fun _ => False) w w') : ∀ j u, CpG b N T st gn gt cn ct TS TG B ns ts j u w → CpG b N T st gn gt cn ct TS TG B ns ts j u w'
  | 0, _, h | 1, _, h | 2, _, h | 3, _, h | 4, _, h | 5, _, h | 7, _, h | 8, _, h | 9, _, h | _ + 13, _, h => h
  | 6, _, ⟨gv, cap, h1, h2⟩ => ⟨gv, cap, h1, h2.kp hk fun _ _ h => h.elim⟩
  | 10, _, ⟨gv, cap, h1, h2⟩ => ⟨gv, cap, h1, h2.kp hk fun _ _ h => h.elim⟩
  | 11, _, ⟨g1, c1, g2, c2, h1, h2, h3⟩ => ⟨g1, c1, g2, c2, h1, h2.kp hk fun _ _ h => h.elim, h3.kp hk fun _ _ h => h.elim⟩
  | 12, _, ⟨b', h1, h2, x0, x1, x2, x3, x4, h3⟩ => ⟨b', h1, h2, x0, x1, x2, x3, x4, h3.kp hk fun h => h⟩
theorem CpFin.stay {u : Value} (hk : Kp (fun _ => False) w w') : CpFin N T st TS TG B ns ts u w → CpFin N T st TS TG B ns ts u w'
  | ⟨b', g1, c1, g2, c2, h1, h2, h3, h4, h5⟩ => ⟨b', g1, c1, g2, c2, h1, h2, h3.kp hk fun h => h, h4.kp hk fun _ _ h => h.elim, h5.kp hk fun _ _ h => h.elim⟩
theorem CpW.next {L : Nat → Bool} {f : Nat → Value} {i d : Nat} {v : Value} (h : CpW wr N T st TS TG ns ts L f w) (hk : Kp (fun _ => False) w w') (hi : i ≠ 13) (hd : d ≠ 13 ∨ (i = 12 ∧ L 12 = false)) : CpW wr N T st TS TG ns ts (updL L i) (updF f d v) w' := by
  refine ⟨h.1.trans hk, fun hL => ?_⟩
  have h13 : L 13 = true := by
    unfold updL at hL
    rwa [if_neg (fun e => hi e.symm)] at hL
  obtain ⟨h1, h2⟩ := h.2 h13
  rcases hd with hd | ⟨_, h3⟩
  · refine ⟨by unfold updL; split <;> simp [h1], ?_⟩
    have : updF f d v 13 = f 13 := by unfold updF; rw [if_neg (fun e => hd e.symm)]
    rw [this]
    exact h2.stay hk
  · rw [h1] at h3
    cases h3
theorem CpG.store {b' : Nat} {y0 y1 y2 y3 y4 : Value} {cs : List Value} (hk : Kp (fun k => k = b') w w') (kb : Bk w b' TG cs) (kb' : Bk w' b' TG [y0, y1, y2, y3, y4]) (hne : TS ≠ TG) : ∀ j u, CpG b N T st gn gt cn ct TS TG B ns ts j u w → CpG b N T st gn gt cn ct TS TG B ns ts j u w' := by
  have hs : ∀ (k : Nat) (c : Array Value), k = b' → w.heap[k]? ≠ some (.cells c TS) := by
    rintro k c rfl e
    rw [kb] at e
    injection e with e
    injection e with _ e
    exact hne e.symm
  intro j u h
  match j, h with
  | 0, h | 1, h | 2, h | 3, h | 4, h | 5, h | 7, h | 8, h | 9, h | _ + 13, h => exact h
  | 6, ⟨gv, cap, h1, h2⟩ => exact ⟨gv, cap, h1, h2.kp hk hs⟩
  | 10, ⟨gv, cap, h1, h2⟩ => exact ⟨gv, cap, h1, h2.kp hk hs⟩
  | 11, ⟨g1, c1, g2, c2, h1, h2, h3⟩ => exact ⟨g1, c1, g2, c2, h1, h2.kp hk hs, h3.kp hk hs⟩
  | 12, ⟨b2, h1, h2, x0, x1, x2, x3, x4, h3⟩ =>
    by_cases e : b2 = b'
    · subst e
      exact ⟨b2, h1, h2, _, _, _, _, _, kb'⟩
    · exact ⟨b2, h1, h2, _, _, _, _, _, h3.kp hk e⟩
end
/-- Five cells stored. -/
def set5 (w : World) (b : Nat) (v0 v1 v2 v3 v4 : Value) : World := ((((w.setCell ⟨b, 0, none⟩ v0).setCell ⟨b, 1, none⟩ v1).setCell ⟨b, 2, none⟩ v2).setCell ⟨b, 3, none⟩ v3).setCell ⟨b, 4, none⟩ v4
theorem set5_bk {w : World} {b : Nat} {t : TypeId} {x0 x1 x2 x3 x4 v0 v1 v2 v3 v4 : Value} (h : Bk w b t [x0, x1, x2, x3, x4]) : Bk (set5 w b v0 v1 v2 v3 v4) b t [v0, v1, v2, v3, v4] := by
  have k := ((((h.set 0 v0).set 1 v1).set 2 v2).set 3 v3).set 4 v4
  simp only [List.set_cons_zero, List.set_cons_succ] at k
  exact k
theorem set5_kp {w : World} {b : Nat} (v0 v1 v2 v3 v4 : Value) : Kp (fun k => k = b) w (set5 w b v0 v1 v2 v3 v4) :=
  Kp.set (S := fun k => k = b) (p := ⟨b, 4, none⟩) (Kp.set (S := fun k => k = b) (p := ⟨b, 3, none⟩) (Kp.set (S := fun k => k = b) (p := ⟨b, 2, none⟩) (Kp.set (S := fun k => k = b) (p := ⟨b, 1, none⟩) (Kp.set (S := fun k => k = b) (p := ⟨b, 0, none⟩) (Kp.refl _ w) (.inl rfl) v0) (.inl rfl) v1) (.inl rfl) v2) (.inl rfl) v3) (.inl rfl) v4

/-- The productions before i, copied. -/
def MadeC (wc : World) (b' : Nat) (y0 y1 y2 y3 : Value) (ps : List (Int × List Int)) (k : Nat) (v14 : Value) (w : World) : Prop :=
  ∃ (i : Nat) (vp : Value), v14 = .int .i64 i ∧ i ≤ ps.length ∧ Bk w b' 30 [y0, y1, y2, y3, vp] ∧ PrOwn w wc.heap.size 97 3 vp (ps.take i) ∧ k = ps.length - i ∧ Kp (fun k => k = b') wc w
def ccD (i : Nat) : Nat := [164, 165, 166, 167, 168, 169, 170, 171, 172, 173, 174, 175, 176, 177, 178, 179, 180, 181, 182, 183, 1000].getD i 0
theorem bk_drew {w : World} {b : Nat} {t : TypeId} {cs : List Value} (h : Bk w b t cs) : Bk w.drew b t cs := h
theorem bk_ty {w : World} {b : Nat} {t t' : TypeId} {cs : List Value} {cs' : Array Value} (h : Bk w b t cs) (hne : t ≠ t') : w.heap[b]? ≠ some (.cells cs' t') := fun e => by
  rw [h] at e
  injection e with e
  injection e with _ e
  exact hne e

def cpD (i : Nat) : Nat := [145, 146, 147, 148, 149, 150, 151, 152, 153, 154, 155, 156, 13, 1000].getD i 0
end Go.Proofs.Ytaehooafdbaomaa
