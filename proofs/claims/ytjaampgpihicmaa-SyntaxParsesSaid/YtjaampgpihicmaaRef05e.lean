/- Chapter 5, the document's Parse: its state, its rules' row. -/
import Derived.Test.YtjaampgpihicmaaRef05d
import Derived.Test.YtjaampgpihicmaaSyn14
namespace Go.Proofs.Ytjaampgpihicmaa
open Go.RowKit
open Syn (Nd Nod)

theorem rruleInfo : (Try.prog.info? 94).map (fun i => (i.zero, i.size, i.bytes)) = some (some (.agg #[.string ⟨#[]⟩, .int .i64 0, .string ⟨#[]⟩, .slice none 0 0]), 4, 64) := by kernel_rfl
/-- A rule's four cells, its body's kids in blocks of which P holds. -/
def RuleH (P : Nat → Prop) (w : World) (D : Nat → Prop) (x : List UInt8 × Nod) (cs : List Value) : Prop := RuleR w (fun k => D k ∧ P k) x cs
theorem RuleH.fit (P : Nat → Prop) : FitA (RuleH P) 4 where
  len := fun h => RuleR.fit.len h
  mono := fun hd h => RuleR.fit.mono (fun k hk => ⟨hd k hk.1, hk.2⟩) h
  kp := fun hk hd h => RuleR.fit.kp hk (fun k hk' => hd k hk'.1) h
  one := fun h => RuleR.fit.one h
theorem own_rrules {P : Nat → Prop} {w : World} {b : Nat} {v : Value} {rs : List (List UInt8 × Nod)} (h : OwnA (RuleH P) 4 w b 94 v rs) : ∃ ga cap, v = .slice ga rs.length cap ∧ RulesM w (From b w) ga rs := by
  obtain ⟨ga, cap, hv, hc⟩ := h.lies (RuleH.fit P)
  refine ⟨ga, cap, hv, fun i x hx => ?_⟩
  obtain ⟨g, y, e, h1, h2, ⟨gk, ck, rfl, hn⟩, h4⟩ := hc i x hx
  exact ⟨g, 0, gk, ck, e, ⟨h1, h2⟩, by rw [Nat.zero_add]; exact h4 0 _ rfl, by rw [Nat.zero_add]; exact h4 1 _ rfl, by rw [Nat.zero_add]; exact h4 2 _ rfl, by rw [Nat.zero_add]; exact h4 3 _ rfl, hn.mono fun k hk => hk.1⟩
/-- In Parse: the results' blocks b, b + 1, the parser's bp, the grammar's bg, its rules' row v. -/
structure RGr (w0 : World) (B bp : Nat) (gT : Option Addr) (cT : Nat) (T : List Lex.Tok) (b bg : Nat) (st : List UInt8) (v : Value) (rs : List (List UInt8 × Nod)) (i o : Nat) (f : Lex.Flt) (H : Nat) (w : World) : Prop where
  res : Bk w b 33 [.string ⟨#[]⟩, .slice none 0 0]
  flt : Bk w (b + 1) 35 [.int .i64 0, .int .i64 0, .int .i64 0]
  g : Bk w bg 33 [.string ⟨st.toArray⟩, v]
  own : OwnA (RuleH (fun k => k < H)) 4 w (bg + 1) 94 v rs
  row : ∀ k, v.ownBlock = some k → k < H
  sta : Sta w B bp gT cT T i o f
  bel : Below b w0 w
  bb : b = w0.heap.size ∧ b + 1 < bp ∧ bp < bg ∧ bg < H ∧ H ≤ w.heap.size
section
variable {w0 : World} {B bp : Nat} {gT : Option Addr} {cT : Nat} {T : List Lex.Tok} {b bg : Nat} {st : List UInt8} {v : Value} {rs : List (List UInt8 × Nod)} {i o : Nat} {f : Lex.Flt} {H : Nat} {w : World}
theorem RGr.grown (h : RGr w0 B bp gT cT T b bg st v rs i o f H w) {w' : World} (hg : w.grownBy w' (some bp)) {j p : Nat} {f' : Lex.Flt} (hs : Sta w' B bp gT cT T j p f') : RGr w0 B bp gT cT T b bg st v rs j p f' H w' := by
  obtain ⟨b1, b2, b3, b4, b5⟩ := h.bb
  have := hg.size
  exact ⟨h.res.grown hg (by intro e; injection e with e; omega), h.flt.grown hg (by intro e; injection e with e; omega), h.g.grown hg (by intro e; injection e with e; omega), h.own.gb (RuleH.fit _) hg (by omega), h.row, hs, h.bel.grown hg (by omega) (fun k hk => by cases hk; omega), b1, b2, b3, b4, by omega⟩
/-- Blocks from H on may change. -/
theorem RGr.kp {S : Nat → Prop} (h : RGr w0 B bp gT cT T b bg st v rs i o f H w) {w' : World} (hk : Kp S w w') (hs : ∀ k, S k → H ≤ k) : RGr w0 B bp gT cT T b bg st v rs i o f H w' := by
  obtain ⟨b1, b2, b3, b4, b5⟩ := h.bb
  have := hk.size
  refine ⟨h.res.kp hk (fun e => by have := hs _ e; omega), h.flt.kp hk (fun e => by have := hs _ e; omega), h.g.kp hk (fun e => by have := hs _ e; omega), ?_, h.row, h.sta.kp hk (fun k e => by have := hs k e; omega), h.bel.trans (hk.to_below (by omega) (fun k e => by have := hs k e; omega)), b1, b2, b3, b4, by omega⟩
  obtain ⟨xs, h1, h2⟩ := h.own
  refine ⟨xs, own_kp h1 hk (fun g hg e => by have := h.row g hg; have := hs _ e; omega), AllA.map (fun a x hx => ?_) h2⟩
  exact RuleR.fit.mono (fun k hk' => ⟨⟨hk'.1.1, Nat.lt_of_lt_of_le hk'.1.2.1 hk.size, hk'.1.2.2⟩, hk'.2⟩) (RuleR.fit.kp hk (fun k hk' e => by have := hk'.2; have := hs _ e; omega) hx)
theorem RGr.up (h : RGr w0 B bp gT cT T b bg st v rs i o f H w) {H' : Nat} (h1 : H ≤ H') (h2 : H' ≤ w.heap.size) : RGr w0 B bp gT cT T b bg st v rs i o f H' w := by
  obtain ⟨b1, b2, b3, b4, b5⟩ := h.bb
  refine ⟨h.res, h.flt, h.g, ?_, fun g hg => Nat.lt_of_lt_of_le (h.row g hg) h1, h.sta, h.bel, b1, b2, b3, by omega, h2⟩
  obtain ⟨xs, h3, h4⟩ := h.own
  refine ⟨xs, h3, AllA.map (fun a x hx => ?_) h4⟩
  exact RuleR.fit.mono (fun k hk' => ⟨hk'.1, Nat.lt_of_lt_of_le hk'.2 h1⟩) hx
theorem RGr.at (h : RGr w0 B bp gT cT T b bg st v rs i o f H w) (j : Nat) (hj : j < T.length) : RGr w0 B bp gT cT T b bg st v rs j o f H (w.setCell ⟨bp, 1, none⟩ (.int .i64 j)) :=
  h.grown (gb_setb (World.grownBy.refl w (some bp))) (h.sta.at j hj)
/-- The start is set. -/
theorem RGr.start (h : RGr w0 B bp gT cT T b bg st v rs i o f H w) (nm : List UInt8) : RGr w0 B bp gT cT T b bg nm v rs i o f H (w.setCell ⟨bg, 0, none⟩ (.string ⟨nm.toArray⟩)) := by
  obtain ⟨b1, b2, b3, b4, b5⟩ := h.bb
  have hk : Kp (fun k => k = bg) w (w.setCell ⟨bg, 0, none⟩ (.string ⟨nm.toArray⟩)) := (Kp.refl (fun k => k = bg) w).set (p := ⟨bg, 0, none⟩) (.inl rfl) _
  refine ⟨h.res.kp hk (fun e => by omega), h.flt.kp hk (fun e => by omega), h.g.set 0 _, h.own.kp (RuleH.fit _) hk (fun k h1 _ e => by omega), h.row, h.sta.kp hk (fun k e => by omega), h.bel.trans (hk.to_below (by omega) (fun k e => by omega)), b1, b2, b3, b4, by simpa [World.setCell] using b5⟩
/-- A rule is appended. -/
theorem RGr.app (h : RGr w0 B bp gT cT T b bg st v rs i o f H w) {x : List UInt8 × Nod} {gk : Option Addr} {ck : Nat} (hk : NdAt w (fun q => H ≤ q ∧ q < w.heap.size) gk x.2.kids 0) (hl : rs.length ≤ 1000000) (ty : TypeId) (q : Nat) {N : Nat} (hN : w.heap.size = N) :
    ∃ g2 cap2 w5, (Builtin.append_ #[31, 31] ty #[v, .slice (some ⟨N, 0, none⟩) 1 1]).run Try.prog ((w.alloc (.cells #[.string ⟨x.1.toArray⟩, .int .i64 x.2.kind, .string ⟨x.2.text.toArray⟩, .slice gk x.2.kids.len ck] 94)).drewN q) = .ok (.slice (some ⟨g2, 0, none⟩) (rs.length + 1) cap2) w5 ∧
      (w5.cell? ⟨bg, 1, none⟩ = some v ∧ w5.frozen? ⟨bg, 1, none⟩ = false ∧ bg < w5.heap.size) ∧
      RGr w0 B bp gT cT T b bg st (.slice (some ⟨g2, 0, none⟩) (rs.length + 1) cap2) (rs ++ [x]) i o f w5.heap.size (w5.setCell ⟨bg, 1, none⟩ (.slice (some ⟨g2, 0, none⟩) (rs.length + 1) cap2)) := by
  subst hN
  obtain ⟨b1, b2, b3, b4, b5⟩ := h.bb
  obtain ⟨i0, hi0, y0, y1, y2⟩ := info_parts rruleInfo
  have hown' : OwnA RuleR 4 w (bg + 1) 94 v rs := by
    obtain ⟨xs, h3, h4⟩ := h.own
    refine ⟨xs, h3, AllA.map (fun a x hx => ?_) h4⟩
    exact RuleR.fit.mono (fun k hk' => hk'.1) hx
  obtain ⟨g2, cap2, w5, hrun, h2, h3, h4, h5⟩ := hown'.app (P := Try.prog) RuleR.fit 31 ty i0 _ 64 Try.underlying31 hi0 y0 y1 y2 rfl (by omega) (by omega) (by omega) hl x [.string ⟨x.1.toArray⟩, .int .i64 x.2.kind, .string ⟨x.2.text.toArray⟩, .slice gk x.2.kids.len ck] ⟨gk, ck, rfl, hk.mono fun k hk' => ⟨by omega, hk'.2, fun e => by have := h.row k e; omega⟩⟩ q
  have hs : ∀ k, v.ownBlock = some k → bg + 1 ≤ k := fun k hk => (hown'.lt k hk).1
  have hn5 := h.g.kp h3 (fun e => by have := hs _ e; omega)
  have hsz := h3.size
  have c1 := hn5.cell 1
  have f1 := hn5.free 1
  simp only [List.getElem?_cons_zero, List.getElem?_cons_succ] at c1
  refine ⟨g2, cap2, w5, hrun, ⟨c1, f1, hn5.lt⟩, ?_⟩
  have hkn : Kp (fun k => k = bg) w5 (w5.setCell ⟨bg, 1, none⟩ (.slice (some ⟨g2, 0, none⟩) (rs.length + 1) cap2)) := (Kp.refl (fun k => k = bg) w5).set (p := ⟨bg, 1, none⟩) (.inl rfl) _
  refine ⟨(h.res.kp h3 (fun e => by have := hs _ e; omega)).kp hkn (fun e => by omega), (h.flt.kp h3 (fun e => by have := hs _ e; omega)).kp hkn (fun e => by omega), hn5.set 1 _, ?_, ?_, (h.sta.kp h3 (fun k e => by have := hs k e; omega)).kp hkn (fun k e => by omega), (h.bel.trans (h3.to_below (by omega) (fun k e => by have := hs k e; omega))).trans (hkn.to_below (by omega) (fun k e => by omega)), b1, b2, b3, hn5.lt, by simp [World.setCell]⟩
  · have h6 := h2.kp RuleR.fit hkn (fun k h1 _ e => by omega)
    obtain ⟨xs, e1, e2⟩ := h6
    refine ⟨xs, by simpa using e1, AllA.map (fun a x hx => ?_) e2⟩
    refine RuleR.fit.mono (fun k hk' => ⟨hk', ?_⟩) hx
    have := hk'.2.1
    simpa [World.setCell] using this
  · intro g hg
    have hg' : g2 = g := by simpa [Value.ownBlock] using hg
    subst hg'
    exact h5
end
/-- A rule in a block of its own, its body's kids in new blocks. -/
structure RRu (H br : Nat) (x : List UInt8 × Nod) (gk : Option Addr) (ck : Nat) (w : World) : Prop where
  blk : Bk w br 94 [.string ⟨x.1.toArray⟩, .int .i64 x.2.kind, .string ⟨x.2.text.toArray⟩, .slice gk x.2.kids.len ck]
  ge : H ≤ br
  kids : NdAt w (fun q => H ≤ q ∧ q < w.heap.size ∧ q ≠ br) gk x.2.kids 0
theorem RRu.grown {H br : Nat} {x : List UInt8 × Nod} {gk : Option Addr} {ck : Nat} {w : World} {bp : Nat} (h : RRu H br x gk ck w) {w' : World} (hg : w.grownBy w' (some bp)) (hb : bp < H) : RRu H br x gk ck w' := by
  have hge := h.ge
  exact ⟨h.blk.grown hg (by intro e; injection e with e; omega), hge, (h.kids.kp (gb_kp hg) (fun k hk e => by omega)).mono fun k hk => ⟨hk.1, Nat.lt_of_lt_of_le hk.2.1 hg.size, hk.2.2⟩⟩
/-- The body is set. -/
theorem RRu.put {H br b1 : Nat} {nm : List UInt8} {u1 u2 u3 : Value} {m : Nod} {gm : Option Addr} {cm : Nat} {w : World} (hx : Bk w br 94 [.string ⟨nm.toArray⟩, u1, u2, u3]) (hH : H ≤ br) (hb : br < b1) (hn : NdAt w (From b1 w) gm m.kids 0) :
    RRu H br (nm, m) gm cm (((w.setCell ⟨br, 1, none⟩ (.int .i64 m.kind)).setCell ⟨br, 2, none⟩ (.string ⟨m.text.toArray⟩)).setCell ⟨br, 3, none⟩ (.slice gm m.kids.len cm)) ∧
    Kp (fun k => k = br) w (((w.setCell ⟨br, 1, none⟩ (.int .i64 m.kind)).setCell ⟨br, 2, none⟩ (.string ⟨m.text.toArray⟩)).setCell ⟨br, 3, none⟩ (.slice gm m.kids.len cm)) := by
  have hkp : Kp (fun k => k = br) w (((w.setCell ⟨br, 1, none⟩ (.int .i64 m.kind)).setCell ⟨br, 2, none⟩ (.string ⟨m.text.toArray⟩)).setCell ⟨br, 3, none⟩ (.slice gm m.kids.len cm)) :=
    (((Kp.refl (fun k => k = br) w).set (p := ⟨br, 1, none⟩) (.inl rfl) _).set (p := ⟨br, 2, none⟩) (.inl rfl) _).set (p := ⟨br, 3, none⟩) (.inl rfl) _
  refine ⟨⟨((hx.set 1 _).set 2 _).set 3 _, hH, ?_⟩, hkp⟩
  exact (hn.kp hkp (fun k hk e => by have := hk.1; omega)).mono fun k hk => ⟨by have := hk.1; omega, Nat.lt_of_lt_of_le hk.2 hkp.size, by have := hk.1; omega⟩
def K5 (T : List Lex.Tok) (f : Nat) (rs : List (List UInt8 × Nod)) (R : Syn.Res (List (List UInt8 × Nod))) (nm : List UInt8) (b : Nod) (i : Nat) : Prop := Syn.rulesF T f (rs ++ [(nm, b)]) i 0 = some R
def K4 (T : List Lex.Tok) (f : Nat) (rs : List (List UInt8 × Nod)) (R : Syn.Res (List (List UInt8 × Nod))) (nm : List UInt8) (b : Nod) (i : Nat) : Prop := ((Syn.takeS T [59] i 0).bind fun _ i4 o4 => Syn.rulesF T f (rs ++ [(nm, b)]) i4 o4) = some R
def K3 (T : List Lex.Tok) (f : Nat) (rs : List (List UInt8 × Nod)) (R : Syn.Res (List (List UInt8 × Nod))) (nm : List UInt8) (i : Nat) : Prop := ((Syn.altF T f i 0).bind fun r => r.bind fun b i3 o3 => (Syn.takeS T [59] i3 o3).bind fun _ i4 o4 => Syn.rulesF T f (rs ++ [(nm, b)]) i4 o4) = some R
def K2 (T : List Lex.Tok) (f : Nat) (rs : List (List UInt8 × Nod)) (R : Syn.Res (List (List UInt8 × Nod))) (nm : List UInt8) (i : Nat) : Prop := ((Syn.takeS T [58] i 0).bind fun _ i2 o2 => (Syn.altF T f i2 o2).bind fun r => r.bind fun b i3 o3 => (Syn.takeS T [59] i3 o3).bind fun _ i4 o4 => Syn.rulesF T f (rs ++ [(nm, b)]) i4 o4) = some R
def K1 (T : List Lex.Tok) (f : Nat) (rs : List (List UInt8 × Nod)) (R : Syn.Res (List (List UInt8 × Nod))) (i : Nat) : Prop := ((Syn.nameS T i 0).bind fun nm i1 o1 => (Syn.takeS T [58] i1 o1).bind fun _ i2 o2 => (Syn.altF T f i2 o2).bind fun r => r.bind fun b i3 o3 => (Syn.takeS T [59] i3 o3).bind fun _ i4 o4 => Syn.rulesF T f (rs ++ [(nm, b)]) i4 o4) = some R
end Go.Proofs.Ytjaampgpihicmaa
