/- Chapter 5 (syntax): a grammar's rules in memory; the parser's state in grammar. -/
import Derived.Test.YtjaampgpihicmaaSyn10
namespace Go.Proofs.Ytjaampgpihicmaa
open Go.RowKit
open Syn (Nd Nod)

/-- A rule's four cells. -/
def RuleR (w : World) (D : Nat → Prop) (x : List UInt8 × Nod) (cs : List Value) : Prop := ∃ gk ck, cs = [.string ⟨x.1.toArray⟩, .int .i64 x.2.kind, .string ⟨x.2.text.toArray⟩, .slice gk x.2.kids.len ck] ∧ NdAt w D gk x.2.kids 0
theorem RuleR.fit : FitA RuleR 4 where
  len := by rintro w D a x ⟨_, _, rfl, _⟩; rfl
  mono := by
    rintro w D D' a x hd ⟨gk, ck, rfl, h⟩
    exact ⟨gk, ck, rfl, h.mono hd⟩
  kp := by
    rintro w w' D S a x hk hd ⟨gk, ck, rfl, h⟩
    exact ⟨gk, ck, rfl, h.kp hk hd⟩
  one := by
    rintro w D a x ⟨_, _, rfl, _⟩ u hu
    simp at hu
    rcases hu with rfl | rfl | rfl | rfl <;> rfl
/-- Rules lie in blocks of which D holds. -/
def RulesM (w : World) (D : Nat → Prop) (ga : Option Addr) (rs : List (List UInt8 × Nod)) : Prop := ∀ (i : Nat) x, rs[i]? = some x → ∃ (g off : Nat) (gk : Option Addr) (ck : Nat), ga = some ⟨g, off, none⟩ ∧ D g ∧ w.cell? ⟨g, off + i * 4, none⟩ = some (.string ⟨x.1.toArray⟩) ∧
  w.cell? ⟨g, off + i * 4 + 1, none⟩ = some (.int .i64 x.2.kind) ∧ w.cell? ⟨g, off + i * 4 + 2, none⟩ = some (.string ⟨x.2.text.toArray⟩) ∧ w.cell? ⟨g, off + i * 4 + 3, none⟩ = some (.slice gk x.2.kids.len ck) ∧ NdAt w D gk x.2.kids 0
theorem RulesM.mono {w : World} {D D' : Nat → Prop} {ga : Option Addr} {rs : List (List UInt8 × Nod)} (h : RulesM w D ga rs) (hd : ∀ k, D k → D' k) : RulesM w D' ga rs := by
  intro i x hx
  obtain ⟨g, off, gk, ck, h1, h2, h3, h4, h5, h6, h7⟩ := h i x hx
  exact ⟨g, off, gk, ck, h1, hd g h2, h3, h4, h5, h6, h7.mono hd⟩
theorem RulesM.kp {w w' : World} {D S : Nat → Prop} {ga : Option Addr} {rs : List (List UInt8 × Nod)} (h : RulesM w D ga rs) (hk : Kp S w w') (hd : ∀ k, D k → ¬ S k) : RulesM w' D ga rs := by
  intro i x hx
  obtain ⟨g, off, gk, ck, h1, h2, h3, h4, h5, h6, h7⟩ := h i x hx
  exact ⟨g, off, gk, ck, h1, h2, hk.cell h3 (hd g h2), hk.cell h4 (hd g h2), hk.cell h5 (hd g h2), hk.cell h6 (hd g h2), h7.kp hk hd⟩
theorem own_rules {w : World} {b : Nat} {v : Value} {rs : List (List UInt8 × Nod)} (h : OwnA RuleR 4 w b 51 v rs) : ∃ ga cap, v = .slice ga rs.length cap ∧ RulesM w (From b w) ga rs := by
  obtain ⟨ga, cap, hv, hc⟩ := h.lies RuleR.fit
  refine ⟨ga, cap, hv, fun i x hx => ?_⟩
  obtain ⟨g, y, e, h1, h2, ⟨gk, ck, rfl, hn⟩, h4⟩ := hc i x hx
  exact ⟨g, 0, gk, ck, e, ⟨h1, h2⟩, by rw [Nat.zero_add]; exact h4 0 _ rfl, by rw [Nat.zero_add]; exact h4 1 _ rfl, by rw [Nat.zero_add]; exact h4 2 _ rfl, by rw [Nat.zero_add]; exact h4 3 _ rfl, hn⟩
/-- A grammar as a value: its start, its rules. -/
def isGram (b : Nat) (a : List UInt8 × List (List UInt8 × Nod)) (v : Value) (w : World) : Prop := ∃ ga ca, v = .agg #[.string ⟨a.1.toArray⟩, .slice ga a.2.length ca] ∧ RulesM w (From b w) ga a.2
theorem ruleInfo : (Try.prog.info? 51).map (fun i => (i.zero, i.size, i.bytes)) = some (some (.agg #[.string ⟨#[]⟩, .int .i64 0, .string ⟨#[]⟩, .slice none 0 0]), 4, 64) := by kernel_rfl
/-- In grammar: but for the rules read. -/
structure GrSt (w0 : World) (B bp : Nat) (gT : Option Addr) (cT : Nat) (T : List Lex.Tok) (b : Nat) (st : List UInt8) (v : Value) (i : Nat) (w : World) : Prop where
  g : Bk w (b + 1) 25 [.string ⟨st.toArray⟩, v]
  res : Bk w b 25 [.string ⟨#[]⟩, .slice none 0 0]
  par : Par w B bp gT cT T i 0
  gb : w0.grownBy w (some bp)
  bb : bp < b
section
variable {w0 : World} {B bp : Nat} {gT : Option Addr} {cT : Nat} {T : List Lex.Tok} {b : Nat} {st : List UInt8} {v : Value} {i : Nat} {w : World}
theorem GrSt.grown (h : GrSt w0 B bp gT cT T b st v i w) {w' : World} (hg : w.grownBy w' (some bp)) {j : Nat} (hp : Par w' B bp gT cT T j 0) : GrSt w0 B bp gT cT T b st v j w' := by
  have := h.bb
  exact ⟨h.g.grown hg (by intro e; injection e with e; omega), h.res.grown hg (by intro e; injection e with e; omega), hp, gb_trans h.gb hg, h.bb⟩
theorem GrSt.later (h : GrSt w0 B bp gT cT T b st v i w) {w' : World} (hb : Below w.heap.size w w') : GrSt w0 B bp gT cT T b st v i w' := h.grown (below_gb hb _) (h.par.below hb)
theorem GrSt.start (h : GrSt w0 B bp gT cT T b st v i w) (hb : b = w0.heap.size) (nm : List UInt8) : GrSt w0 B bp gT cT T b nm v i (w.setCell ⟨b + 1, 0, none⟩ (.string ⟨nm.toArray⟩)) := by
  have := h.bb
  refine ⟨h.g.set 0 _, h.res.far (by show b ≠ b + 1; omega) _, h.par.kp (S := fun k => k = b + 1) ((Kp.refl (fun k => k = b + 1) w).set (p := ⟨b + 1, 0, none⟩) (.inl rfl) _) (fun k e => by omega), gb_set h.gb (.inr (by show _ ≤ b + 1; omega)) _, h.bb⟩
theorem GrSt.put (h : GrSt w0 B bp gT cT T b st v i w) (hb : b = w0.heap.size) (u : Value) : GrSt w0 B bp gT cT T b st u i (w.setCell ⟨b + 1, 1, none⟩ u) := by
  have := h.bb
  refine ⟨h.g.set 1 _, h.res.far (by show b ≠ b + 1; omega) _, h.par.kp (S := fun k => k = b + 1) ((Kp.refl (fun k => k = b + 1) w).set (p := ⟨b + 1, 1, none⟩) (.inl rfl) _) (fun k e => by omega), gb_set h.gb (.inr (by show _ ≤ b + 1; omega)) _, h.bb⟩
/-- Blocks behind the grammar's may change. -/
theorem GrSt.kp {S : Nat → Prop} (h : GrSt w0 B bp gT cT T b st v i w) (hb : b = w0.heap.size) {w' : World} (hk : Kp S w w') (hs : ∀ k, S k → b + 2 ≤ k) : GrSt w0 B bp gT cT T b st v i w' := by
  have := h.bb
  exact ⟨h.g.kp hk (fun e => by have := hs _ e; omega), h.res.kp hk (fun e => by have := hs _ e; omega), h.par.kp hk (fun k e => by have := hs k e; omega), gb_then_kp h.gb hk (fun k e => by have := hs k e; omega), h.bb⟩
end
/-- The rules, an append ahead. -/
theorem rules_app {w : World} {b : Nat} {v : Value} {rs : List (List UInt8 × Nod)} {x : List UInt8 × Nod} {gk : Option Addr} {ck : Nat} (hown : OwnA RuleR 4 w b 51 v rs) (hk : NdAt w (fun q => b ≤ q ∧ q < w.heap.size ∧ v.ownBlock ≠ some q) gk x.2.kids 0) (hl : rs.length ≤ 1000000) (hB : b ≤ w.heap.size) (ty : TypeId) (q : Nat) {H : Nat} (hH : w.heap.size = H) :
    ∃ g2 cap2 w2, (Builtin.append_ #[23, 23] ty #[v, .slice (some ⟨H, 0, none⟩) 1 1]).run Try.prog ((w.alloc (.cells #[.string ⟨x.1.toArray⟩, .int .i64 x.2.kind, .string ⟨x.2.text.toArray⟩, .slice gk x.2.kids.len ck] 51)).drewN q) = .ok (.slice (some ⟨g2, 0, none⟩) (rs.length + 1) cap2) w2 ∧
      OwnA RuleR 4 w2 b 51 (.slice (some ⟨g2, 0, none⟩) (rs.length + 1) cap2) (rs ++ [x]) ∧ Kp (fun k => v.ownBlock = some k) w w2 := by
  subst hH
  obtain ⟨i0, hi0, y0, y1, y2⟩ := info_parts ruleInfo
  obtain ⟨g2, cap2, w2, h1, h2, h3, h4, h5⟩ := hown.app (P := Try.prog) RuleR.fit 23 ty i0 _ 64 Try.underlying23 hi0 y0 y1 y2 rfl (by omega) (by omega) hB hl x _ ⟨gk, ck, rfl, hk⟩ q
  exact ⟨g2, cap2, w2, h1, h2, h3⟩
/-- A rule's body is filled in. -/
theorem gram_fill {w0 : World} {B bp : Nat} {gT : Option Addr} {cT : Nat} {T : List Lex.Tok} {b : Nat} {st : List UInt8} {v : Value} {j : Nat} {rs : List (List UInt8 × Nod)} {nm : List UInt8} {n : Nod} {kg : Option Addr} {kc : Nat} {wr w2 w3 w4 w5 : World} {R0 : Obj} (hb : b = w0.heap.size)
    (hown : OwnA RuleR 4 wr (b + 2) 51 v rs) (hbw : b + 1 < wr.heap.size) (hb2 : Below wr.heap.size wr w2) (hg3 : w2.grownBy w3 (some bp)) (hg4 : (w3.alloc R0).grownBy w4 (some bp)) (hg5 : w4.grownBy w5 (some bp)) (hst : GrSt w0 B bp gT cT T b st v j w5)
    (hbr : Bk w5 w3.heap.size 51 [.string ⟨nm.toArray⟩, .int .i64 0, .string ⟨#[]⟩, .slice none 0 0]) (hn : NdAt w5 (From w4.heap.size w5) kg n.kids 0) :
    GrSt w0 B bp gT cT T b st v j (((w5.setCell ⟨w3.heap.size, 1, none⟩ (.int .i64 n.kind)).setCell ⟨w3.heap.size, 2, none⟩ (.string ⟨n.text.toArray⟩)).setCell ⟨w3.heap.size, 3, none⟩ (.slice kg n.kids.len kc)) ∧
    Bk (((w5.setCell ⟨w3.heap.size, 1, none⟩ (.int .i64 n.kind)).setCell ⟨w3.heap.size, 2, none⟩ (.string ⟨n.text.toArray⟩)).setCell ⟨w3.heap.size, 3, none⟩ (.slice kg n.kids.len kc)) w3.heap.size 51 [.string ⟨nm.toArray⟩, .int .i64 n.kind, .string ⟨n.text.toArray⟩, .slice kg n.kids.len kc] ∧
    NdAt (((w5.setCell ⟨w3.heap.size, 1, none⟩ (.int .i64 n.kind)).setCell ⟨w3.heap.size, 2, none⟩ (.string ⟨n.text.toArray⟩)).setCell ⟨w3.heap.size, 3, none⟩ (.slice kg n.kids.len kc)) (fun q => b + 2 ≤ q ∧ q < (((w5.setCell ⟨w3.heap.size, 1, none⟩ (.int .i64 n.kind)).setCell ⟨w3.heap.size, 2, none⟩ (.string ⟨n.text.toArray⟩)).setCell ⟨w3.heap.size, 3, none⟩ (.slice kg n.kids.len kc)).heap.size ∧ v.ownBlock ≠ some q) kg n.kids 0 ∧
    OwnA RuleR 4 (((w5.setCell ⟨w3.heap.size, 1, none⟩ (.int .i64 n.kind)).setCell ⟨w3.heap.size, 2, none⟩ (.string ⟨n.text.toArray⟩)).setCell ⟨w3.heap.size, 3, none⟩ (.slice kg n.kids.len kc)) (b + 2) 51 v rs := by
  have hbb := hst.bb
  have s2 := hb2.size
  have s3 := hg3.size
  have s4 := hg4.size
  have s5 := hg5.size
  have s4' : w3.heap.size + 1 ≤ w4.heap.size := by simpa using s4
  have hk6 : Kp (fun k => k = w3.heap.size) w5 (((w5.setCell ⟨w3.heap.size, 1, none⟩ (.int .i64 n.kind)).setCell ⟨w3.heap.size, 2, none⟩ (.string ⟨n.text.toArray⟩)).setCell ⟨w3.heap.size, 3, none⟩ (.slice kg n.kids.len kc)) :=
    (((Kp.refl (fun k => k = w3.heap.size) w5).set (p := ⟨w3.heap.size, 1, none⟩) (.inl rfl) _).set (p := ⟨w3.heap.size, 2, none⟩) (.inl rfl) _).set (p := ⟨w3.heap.size, 3, none⟩) (.inl rfl) _
  have hk5 : Kp (fun k => k = bp ∨ k = w3.heap.size) wr w5 := by
    have h1 : Kp (fun k => k = bp ∨ k = w3.heap.size) wr w2 := (below_kp hb2).mono (fun _ _ e => e.elim)
    have h2 := h1.grown hg3 (fun k hk _ => by injection hk with hk; exact .inl hk.symm)
    have h3 := (h2.alloc R0).grown hg4 (fun k hk _ => by injection hk with hk; exact .inl hk.symm)
    exact h3.grown hg5 (fun k hk _ => by injection hk with hk; exact .inl hk.symm)
  have hkall := hk5.trans (hk6.mono (S' := fun k => k = bp ∨ k = w3.heap.size) (fun _ _ e => .inr e))
  refine ⟨hst.kp hb hk6 (fun k e => by omega), ((hbr.set 1 _).set 2 _).set 3 _, ?_, hown.kp RuleR.fit hkall (fun k h1 h2 e => by omega)⟩
  exact (hn.kp hk6 (fun k hk e => by have := hk.1; omega)).mono fun k hk => ⟨by have := hk.1; omega, Nat.lt_of_lt_of_le hk.2 hk6.size, fun e => by have := (hown.lt k e).2; have := hk.1; omega⟩
/-- A rule is appended. -/
theorem gram_app {w0 : World} {B bp : Nat} {gT : Option Addr} {cT : Nat} {T : List Lex.Tok} {b : Nat} {st : List UInt8} {v : Value} {j j' : Nat} {rs : List (List UInt8 × Nod)} {x : List UInt8 × Nod} {kg : Option Addr} {kc br : Nat} {w6 w7 : World} (hb : b = w0.heap.size) (hl : rs.length ≤ 64)
    (hst : GrSt w0 B bp gT cT T b st v j w6) (hg7 : w6.grownBy w7 (some bp)) (hq7 : Par w7 B bp gT cT T j' 0) (hbr : Bk w6 br 51 [.string ⟨x.1.toArray⟩, .int .i64 x.2.kind, .string ⟨x.2.text.toArray⟩, .slice kg x.2.kids.len kc])
    (hn : NdAt w6 (fun q => b + 2 ≤ q ∧ q < w6.heap.size ∧ v.ownBlock ≠ some q) kg x.2.kids 0) (hown : OwnA RuleR 4 w6 (b + 2) 51 v rs) (hne : br ≠ bp) (ty : TypeId) :
    GrSt w0 B bp gT cT T b st v j' w7 ∧ Bk w7 br 51 [.string ⟨x.1.toArray⟩, .int .i64 x.2.kind, .string ⟨x.2.text.toArray⟩, .slice kg x.2.kids.len kc] ∧
    ∃ g2 cap2 w8, (Builtin.append_ #[23, 23] ty #[v, .slice (some ⟨w7.heap.size, 0, none⟩) 1 1]).run Try.prog ((w7.alloc (.cells #[.string ⟨x.1.toArray⟩, .int .i64 x.2.kind, .string ⟨x.2.text.toArray⟩, .slice kg x.2.kids.len kc] 51)).drewN 0) = .ok (.slice (some ⟨g2, 0, none⟩) (rs.length + 1) cap2) w8 ∧
      OwnA RuleR 4 (w8.setCell ⟨b + 1, 1, none⟩ (.slice (some ⟨g2, 0, none⟩) (rs.length + 1) cap2)) (b + 2) 51 (.slice (some ⟨g2, 0, none⟩) (rs.length + 1) cap2) (rs ++ [x]) ∧ GrSt w0 B bp gT cT T b st v j' w8 := by
  have hbb := hst.bb
  have hst7 := hst.grown hg7 hq7
  have hgl := hst7.g.lt
  have hk7 := gb_kp hg7
  have hown7 := hown.gb RuleR.fit hg7 (by omega)
  have hn7 := (hn.kp hk7 (fun k hk e => by have := hk.1; omega)).mono (D' := fun q => b + 2 ≤ q ∧ q < w7.heap.size ∧ v.ownBlock ≠ some q) fun k hk => ⟨hk.1, Nat.lt_of_lt_of_le hk.2.1 hk7.size, hk.2.2⟩
  obtain ⟨g2, cap2, w8, h1, h2, h3⟩ := rules_app (x := x) (ck := kc) hown7 hn7 (by omega) (by omega) ty 0 rfl
  have hs : ∀ k, v.ownBlock = some k → b + 2 ≤ k := fun k hk => (hown7.lt k hk).1
  refine ⟨hst7, hbr.grown hg7 (by intro e; injection e with e; exact hne e), g2, cap2, w8, h1, ?_, hst7.kp hb h3 hs⟩
  exact h2.kp RuleR.fit ((Kp.refl (fun k => k = b + 1) w8).set (p := ⟨b + 1, 1, none⟩) (.inl rfl) _) (fun k h4 _ e => by omega)
/-- The grammar is handed back. -/
theorem gram_back {w0 : World} {B bp : Nat} {gT : Option Addr} {cT : Nat} {T : List Lex.Tok} {b : Nat} {st : List UInt8} {v : Value} {i : Nat} {rs : List (List UInt8 × Nod)} {ga : Option Addr} {ca : Nat} {wz : World} (hb : b = w0.heap.size) (hst : GrSt w0 B bp gT cT T b st v i wz)
    (hown : OwnA RuleR 4 wz (b + 2) 51 (.slice ga rs.length ca) rs) (s : List UInt8) (x y : Value) :
    PEnd (isGram w0.heap.size) w0 B bp gT cT T (.ok (s, rs) i 0) (.returned (.agg #[.string ⟨s.toArray⟩, .slice ga rs.length ca])) ((wz.setCell ⟨b, 0, none⟩ x).setCell ⟨b, 1, none⟩ y) := by
  have hbb := hst.bb
  have hkp : Kp (fun k => k = b) wz ((wz.setCell ⟨b, 0, none⟩ x).setCell ⟨b, 1, none⟩ y) := ((Kp.refl (fun k => k = b) wz).set (p := ⟨b, 0, none⟩) (.inl rfl) x).set (p := ⟨b, 1, none⟩) (.inl rfl) y
  obtain ⟨ga2, ca2, e, hr⟩ := own_rules hown
  injection e with e1 e2 e3
  subst e1
  refine PEnd.isOk rfl ?_ ⟨_, _, rfl, (hr.kp hkp (fun k hk e => by have := hk.1; omega)).mono fun k hk => ⟨by have := hk.1; omega, Nat.lt_of_lt_of_le hk.2 hkp.size⟩⟩ (hst.par.kp hkp (fun k e => by omega))
  refine gb_set ?_ (.inr (by show _ ≤ b; omega)) _
  refine gb_set ?_ (.inr (by show _ ≤ b; omega)) _
  exact hst.gb
/-- What grammar answers. -/
def gramF (T : List Lex.Tok) (F : Nat) : Option (Syn.Res (List UInt8 × List (List UInt8 × Nod))) :=
  match Syn.headS T with
  | .bad f => some (.bad f)
  | .ok st i _ => match Syn.rulesF T F [] i 0 with
    | some (.ok rs j p) => some (.ok (Syn.startOr st rs, rs) j p)
    | some (.bad f) => some (.bad f)
    | none => none
def GramRel (T : List Lex.Tok) (F : Nat) (r : Syn.Res (List (List UInt8 × Nod))) (w0 : World) (B bp : Nat) (gT : Option Addr) (cT b : Nat) (st : List UInt8) (k : Nat) (v4 : Value) (w : World) : Prop :=
  ∃ (m : Nat) (rs : List (List UInt8 × Nod)) (i : Nat) (v : Value), k = m ∧ m ≤ F ∧ Syn.rulesF T m rs i 0 = some r ∧ v4 = .bool rs.isEmpty ∧ rs.length ≤ 64 ∧ OwnA RuleR 4 w (b + 2) 51 v rs ∧ GrSt w0 B bp gT cT T b st v i w
end Go.Proofs.Ytjaampgpihicmaa
