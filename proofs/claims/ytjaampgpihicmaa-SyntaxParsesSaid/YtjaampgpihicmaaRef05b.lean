/- Chapter 5, the document's parser: rows of nodes of its own, the state in row and alt. -/
import Derived.Test.YtjaampgpihicmaaRef05a
import Derived.Test.YtjaampgpihicmaaSynLaw6
import Derived.Test.YtjaampgpihicmaaSyn10
namespace Go.Proofs.Ytjaampgpihicmaa
open Go.RowKit
open Syn (Nd Nod)

theorem far_no {T : List Lex.Tok} (hT : T.length ≤ 4096) {i : Nat} (hi : i < T.length) : Syn.far T i = false := by
  unfold Syn.far
  rw [decide_eq_false (by omega), Bool.false_and]
section
variable {w : World} {B bp : Nat} {gT : Option Addr} {cT : Nat} {T : List Lex.Tok} {i o : Nat} {f : Lex.Flt}
theorem rlook_ok (hT : T.length ≤ 4096) (h : Sta w B bp gT cT T i o no) :
    Calls Try.prog 56 #[.pointer (some ⟨bp, 0, none⟩)] w fun e w' => e = .returned (.tuple #[.int .i64 (Syn.tk T i).kind, .string ⟨(Syn.tk T i).text.toArray⟩]) ∧ w.grownBy w' (some bp) ∧ Sta w' B bp gT cT T i o no := by
  have h1 := rlook_calls h
  rw [look_no, far_no hT h.lt, if_neg (by decide)] at h1
  exact h1
theorem ris_ok (hT : T.length ≤ 4096) (h : Sta w B bp gT cT T i o no) (s : List UInt8) :
    Calls Try.prog 53 #[.pointer (some ⟨bp, 0, none⟩), .string ⟨s.toArray⟩] w fun e w' => e = .returned (.bool (Syn.isS T i s)) ∧ w.grownBy w' (some bp) ∧ Sta w' B bp gT cT T i o no := by
  have h1 := ris_calls h s
  rw [isF_no, look_no, far_no hT h.lt, if_neg (by decide), Bool.not_false, Bool.true_and] at h1
  exact h1
theorem ris_bad (h : Sta w B bp gT cT T i o f) (hf : f.code ≠ 0) (s : List UInt8) :
    Calls Try.prog 53 #[.pointer (some ⟨bp, 0, none⟩), .string ⟨s.toArray⟩] w fun e w' => e = .returned (.bool false) ∧ w.grownBy w' (some bp) ∧ Sta w' B bp gT cT T i o f := by
  have h1 := ris_calls h s
  rw [isF_bad T i hf, look_bad T i hf] at h1
  exact h1
end
theorem SEnd.whenOk {α : Type} {V : α → Value → World → Prop} {w w' : World} {B bp : Nat} {gT : Option Addr} {cT : Nat} {T : List Lex.Tok} {r : Syn.Res α} {e : Ending} {a : α} {j o : Nat} (h : SEnd V w B bp gT cT T r e w') (hr : r = .ok a j o) : (∃ v, e = .returned v ∧ V a v w') ∧ Sta w' B bp gT cT T j o no ∧ w.grownBy w' (some bp) := by
  subst hr
  exact ⟨h.2.1, h.2.2, h.1⟩
theorem SEnd.whenBad {α : Type} {V : α → Value → World → Prop} {w w' : World} {B bp : Nat} {gT : Option Addr} {cT : Nat} {T : List Lex.Tok} {r : Syn.Res α} {e : Ending} {f : Lex.Flt} (h : SEnd V w B bp gT cT T r e w') (hr : r = .bad f) : ∃ a v j o, e = .returned v ∧ V a v w' ∧ Sta w' B bp gT cT T j o f ∧ w.grownBy w' (some bp) := by
  subst hr
  obtain ⟨h1, ⟨a, v, h2, h3⟩, j, o, h4⟩ := h
  exact ⟨a, v, j, o, h2, h3, h4, h1⟩
theorem SEnd.isOk {α : Type} {V : α → Value → World → Prop} {w w' : World} {B bp : Nat} {gT : Option Addr} {cT : Nat} {T : List Lex.Tok} {r : Syn.Res α} {a : α} {j o : Nat} {v : Value} (hr : r = .ok a j o) (hg : w.grownBy w' (some bp)) (hv : V a v w') (hp : Sta w' B bp gT cT T j o no) : SEnd V w B bp gT cT T r (.returned v) w' := by
  subst hr
  exact ⟨hg, ⟨v, rfl, hv⟩, hp⟩
theorem SEnd.isBad {α : Type} {V : α → Value → World → Prop} {w w' : World} {B bp : Nat} {gT : Option Addr} {cT : Nat} {T : List Lex.Tok} {r : Syn.Res α} {a : α} {j o : Nat} {v : Value} {f : Lex.Flt} (hr : r = .bad f) (hg : w.grownBy w' (some bp)) (hv : V a v w') (hp : Sta w' B bp gT cT T j o f) : SEnd V w B bp gT cT T r (.returned v) w' := by
  subst hr
  exact ⟨hg, ⟨a, v, rfl, hv⟩, j, o, hp⟩
theorem rnodeInfo : (Try.prog.info? 85).map (fun i => (i.zero, i.size, i.bytes)) = some (some (.agg #[.int .i64 0, .string ⟨#[]⟩, .slice none 0 0]), 3, 48) := by kernel_rfl
/-- A node's three cells, its kids in blocks of which P holds. -/
def NodH (P : Nat → Prop) (w : World) (D : Nat → Prop) (n : Nod) (x : List Value) : Prop := NodR w (fun k => D k ∧ P k) n x
theorem NodH.fit (P : Nat → Prop) : FitA (NodH P) 3 where
  len := fun h => NodR.fit.len h
  mono := fun hd h => NodR.fit.mono (fun k hk => ⟨hd k hk.1, hk.2⟩) h
  kp := fun hk hd h => NodR.fit.kp hk (fun k hk' => hd k hk'.1) h
  one := fun h => NodR.fit.one h
theorem AllA.map {α : Type} {R R' : World → (Nat → Prop) → α → List Value → Prop} {w w' : World} {D D' : Nat → Prop} (h : ∀ a x, R w D a x → R' w' D' a x) : ∀ {ls : List α} {xs : List (List Value)}, AllA R w D ls xs → AllA R' w' D' ls xs
  | [], _, e => e
  | _ :: _, _, ⟨x, ys, e, h1, h2⟩ => ⟨x, ys, e, h _ _ h1, AllA.map h h2⟩
theorem NdAt.row' {w : World} {D : Nat → Prop} {ga : Option Addr} {P : Nat → Prop} {l : List Nod} {j : Nat} (h : ∀ (i : Nat) (n : Nod), l[i]? = some n → ∃ g x, ga = some ⟨g, 0, none⟩ ∧ D g ∧ NodH P w D n x ∧ ∀ k u, x[k]? = some u → w.cell? ⟨g, (j + i) * 3 + k, none⟩ = some u) : NdAt w D ga (Nd.ofList l) j :=
  NdAt.row fun i n hn => by
    obtain ⟨g, x, h1, h2, h3, h4⟩ := h i n hn
    exact ⟨g, x, h1, h2, NodR.fit.mono (fun k hk => hk.1) h3, h4⟩
/-- Own nodes, read as a row. -/
theorem own_rnodes {P : Nat → Prop} {w : World} {b : Nat} {v : Value} {l : List Nod} (h : OwnA (NodH P) 3 w b 85 v l) : ∃ ga cap, v = .slice ga l.length cap ∧ NdAt w (From b w) ga (Nd.ofList l) 0 := by
  obtain ⟨ga, cap, hv, hc⟩ := h.lies (NodH.fit P)
  refine ⟨ga, cap, hv, NdAt.row' (P := P) fun i n hn => ?_⟩
  obtain ⟨g, x, e, h1, h2, h3, h4⟩ := hc i n hn
  exact ⟨g, x, e, ⟨h1, h2⟩, h3, fun k u hu => by rw [Nat.zero_add]; exact h4 k u hu⟩
/-- In row and alt: the result's block b, the node's block bn, its kids' row v; all of it lies below H. -/
structure RwSt (w0 : World) (B bp : Nat) (gT : Option Addr) (cT : Nat) (T : List Lex.Tok) (b bn knd : Nat) (v : Value) (ls : List Nod) (i o : Nat) (f : Lex.Flt) (H : Nat) (w : World) : Prop where
  res : Bk w b 85 [.int .i64 0, .string ⟨#[]⟩, .slice none 0 0]
  n : Bk w bn 85 [.int .i64 knd, .string ⟨#[]⟩, v]
  own : OwnA (NodH (fun k => k ≠ bn ∧ k < H)) 3 w (b + 1) 85 v ls
  row : ∀ g, v.ownBlock = some g → g ≠ bn ∧ g < H
  sta : Sta w B bp gT cT T i o f
  gb : w0.grownBy w (some bp)
  bb : bp < b ∧ b = w0.heap.size ∧ b < bn ∧ bn < H ∧ H ≤ w.heap.size
section
variable {w0 : World} {B bp : Nat} {gT : Option Addr} {cT : Nat} {T : List Lex.Tok} {b bn knd : Nat} {v : Value} {ls : List Nod} {i o : Nat} {f : Lex.Flt} {H : Nat} {w : World}
theorem RwSt.grown (h : RwSt w0 B bp gT cT T b bn knd v ls i o f H w) {w' : World} (hg : w.grownBy w' (some bp)) {j p : Nat} {f' : Lex.Flt} (hs : Sta w' B bp gT cT T j p f') : RwSt w0 B bp gT cT T b bn knd v ls j p f' H w' := by
  obtain ⟨b1, b2, b3, b4, b5⟩ := h.bb
  have := hg.size
  exact ⟨h.res.grown hg (by intro e; injection e with e; omega), h.n.grown hg (by intro e; injection e with e; omega), h.own.gb (NodH.fit _) hg (by omega), h.row, hs, gb_trans h.gb hg, b1, b2, b3, b4, by omega⟩
/-- Blocks from H on may change. -/
theorem RwSt.kp {S : Nat → Prop} (h : RwSt w0 B bp gT cT T b bn knd v ls i o f H w) {w' : World} (hk : Kp S w w') (hs : ∀ k, S k → H ≤ k) : RwSt w0 B bp gT cT T b bn knd v ls i o f H w' := by
  obtain ⟨b1, b2, b3, b4, b5⟩ := h.bb
  have := hk.size
  refine ⟨h.res.kp hk (fun e => by have := hs _ e; omega), h.n.kp hk (fun e => by have := hs _ e; omega), ?_, h.row, h.sta.kp hk (fun k e => by have := hs k e; omega), gb_then_kp h.gb hk (fun k e => by have := hs k e; omega), b1, b2, b3, b4, by omega⟩
  obtain ⟨xs, h1, h2⟩ := h.own
  refine ⟨xs, own_kp h1 hk (fun g hg e => by have := (h.row g hg).2; have := hs _ e; omega), AllA.map (fun a x hx => ?_) h2⟩
  exact NodR.fit.mono (fun k hk' => ⟨⟨hk'.1.1, Nat.lt_of_lt_of_le hk'.1.2.1 hk.size, hk'.1.2.2⟩, hk'.2⟩) (NodR.fit.kp hk (fun k hk' e => by have := hk'.2.2; have := hs _ e; omega) hx)
theorem RwSt.up (h : RwSt w0 B bp gT cT T b bn knd v ls i o f H w) {H' : Nat} (h1 : H ≤ H') (h2 : H' ≤ w.heap.size) : RwSt w0 B bp gT cT T b bn knd v ls i o f H' w := by
  obtain ⟨b1, b2, b3, b4, b5⟩ := h.bb
  refine ⟨h.res, h.n, ?_, fun g hg => ⟨(h.row g hg).1, Nat.lt_of_lt_of_le (h.row g hg).2 h1⟩, h.sta, h.gb, b1, b2, b3, by omega, h2⟩
  obtain ⟨xs, h3, h4⟩ := h.own
  refine ⟨xs, h3, AllA.map (fun a x hx => ?_) h4⟩
  exact NodR.fit.mono (fun k hk' => ⟨hk'.1, hk'.2.1, Nat.lt_of_lt_of_le hk'.2.2 h1⟩) hx
/-- The place is set. -/
theorem RwSt.at (h : RwSt w0 B bp gT cT T b bn knd v ls i o f H w) (j : Nat) (hj : j < T.length) : RwSt w0 B bp gT cT T b bn knd v ls j o f H (w.setCell ⟨bp, 1, none⟩ (.int .i64 j)) :=
  h.grown (gb_setb (World.grownBy.refl w (some bp))) (h.sta.at j hj)
/-- The brackets that are open are set. -/
theorem RwSt.opens (h : RwSt w0 B bp gT cT T b bn knd v ls i o f H w) (p : Nat) : RwSt w0 B bp gT cT T b bn knd v ls i p f H (w.setCell ⟨bp, 5, none⟩ (.int .i64 p)) :=
  h.grown (gb_setb (World.grownBy.refl w (some bp))) (h.sta.opens p)
end
/-- A node in a block bx of its own, its kids in new blocks. -/
structure RX (H bx : Nat) (n : Nod) (gk : Option Addr) (ck : Nat) (w : World) : Prop where
  blk : Bk w bx 85 [.int .i64 n.kind, .string ⟨n.text.toArray⟩, .slice gk n.kids.len ck]
  ge : H ≤ bx
  kids : NdAt w (fun q => H ≤ q ∧ q < w.heap.size ∧ q ≠ bx) gk n.kids 0
section
variable {H bx : Nat} {n : Nod} {gk : Option Addr} {ck : Nat} {w : World} {bp : Nat}
theorem RX.grown (h : RX H bx n gk ck w) {w' : World} (hg : w.grownBy w' (some bp)) (hb : bp < H) : RX H bx n gk ck w' := by
  have hge := h.ge
  exact ⟨h.blk.grown hg (by intro e; injection e with e; omega), hge, (h.kids.kp (gb_kp hg) (fun k hk e => by omega)).mono fun k hk => ⟨hk.1, Nat.lt_of_lt_of_le hk.2.1 hg.size, hk.2.2⟩⟩
/-- It becomes the one kid of another. -/
theorem RX.wrap (h : RX H bx n gk ck w) (c : Nat) {N : Nat} (hN : w.heap.size = N) :
    RX H bx ⟨c, [], n.row⟩ (some ⟨N, 0, none⟩) 1 ((((w.setCell ⟨bx, 0, none⟩ (.int .i64 c)).setCell ⟨bx, 1, none⟩ (.string ⟨#[]⟩)).setCell ⟨bx, 2, none⟩ (.slice (some ⟨N, 0, none⟩) 1 1)).alloc (.cells #[.int .i64 n.kind, .string ⟨n.text.toArray⟩, .slice gk n.kids.len ck] 85)) ∧
    Kp (fun k => k = bx) w ((((w.setCell ⟨bx, 0, none⟩ (.int .i64 c)).setCell ⟨bx, 1, none⟩ (.string ⟨#[]⟩)).setCell ⟨bx, 2, none⟩ (.slice (some ⟨N, 0, none⟩) 1 1)).alloc (.cells #[.int .i64 n.kind, .string ⟨n.text.toArray⟩, .slice gk n.kids.len ck] 85)) := by
  subst hN
  have hge := h.ge
  have hbl := h.blk.lt
  have hkp := (kp_set3 w bx (.int .i64 c) (.string ⟨#[]⟩) (.slice (some ⟨w.heap.size, 0, none⟩) 1 1)).alloc (.cells #[.int .i64 n.kind, .string ⟨n.text.toArray⟩, .slice gk n.kids.len ck] 85)
  have hnw := Bk.new (((w.setCell ⟨bx, 0, none⟩ (.int .i64 c)).setCell ⟨bx, 1, none⟩ (.string ⟨#[]⟩)).setCell ⟨bx, 2, none⟩ (.slice (some ⟨w.heap.size, 0, none⟩) 1 1)) 85 [.int .i64 n.kind, .string ⟨n.text.toArray⟩, .slice gk n.kids.len ck]
  have hs : (((w.setCell ⟨bx, 0, none⟩ (.int .i64 c)).setCell ⟨bx, 1, none⟩ (.string ⟨#[]⟩)).setCell ⟨bx, 2, none⟩ (.slice (some ⟨w.heap.size, 0, none⟩) 1 1)).heap.size = w.heap.size := by simp [World.setCell]
  rw [hs] at hnw
  refine ⟨⟨(((h.blk.set 0 _).set 1 _).set 2 _).alloc _, hge, ?_⟩, hkp⟩
  refine NdAt.one (ck := ck) hnw ⟨by omega, by simp [World.setCell], by omega⟩ ?_
  exact (h.kids.kp hkp (fun k hk e => by omega)).mono fun k hk => ⟨hk.1, Nat.lt_of_lt_of_le hk.2.1 hkp.size, hk.2.2⟩
/-- A node that a call has made is put into the block. -/
theorem RX.put {ob : List Value} {m : Nod} {gm : Option Addr} {cm b1 : Nat} (hx : Bk w bx 85 ob) (hl : ob.length = 3) (hH : H ≤ bx) (hb : bx < b1) (hn : NdAt w (From b1 w) gm m.kids 0) :
    RX H bx m gm cm (((w.setCell ⟨bx, 0, none⟩ (.int .i64 m.kind)).setCell ⟨bx, 1, none⟩ (.string ⟨m.text.toArray⟩)).setCell ⟨bx, 2, none⟩ (.slice gm m.kids.len cm)) ∧
    Kp (fun k => k = bx) w (((w.setCell ⟨bx, 0, none⟩ (.int .i64 m.kind)).setCell ⟨bx, 1, none⟩ (.string ⟨m.text.toArray⟩)).setCell ⟨bx, 2, none⟩ (.slice gm m.kids.len cm)) := by
  have hkp := kp_set3 w bx (.int .i64 m.kind) (.string ⟨m.text.toArray⟩) (.slice gm m.kids.len cm)
  match ob, hl with
  | [x, y, z], _ =>
    refine ⟨⟨((hx.set 0 _).set 1 _).set 2 _, hH, ?_⟩, hkp⟩
    exact (hn.kp hkp (fun k hk e => by have := hk.1; omega)).mono fun k hk => ⟨by have := hk.1; omega, Nat.lt_of_lt_of_le hk.2 hkp.size, by have := hk.1; omega⟩
end
section
variable {w0 : World} {B bp : Nat} {gT : Option Addr} {cT : Nat} {T : List Lex.Tok} {b bn knd : Nat} {v : Value} {ls : List Nod} {i o : Nat} {f : Lex.Flt} {H : Nat} {w : World}
/-- A node is appended. -/
theorem RwSt.app (h : RwSt w0 B bp gT cT T b bn knd v ls i o f H w) {nn : Nod} {gk : Option Addr} {ck : Nat} (hk : NdAt w (fun q => H ≤ q ∧ q < w.heap.size) gk nn.kids 0) (hl : ls.length ≤ 1000000) (ty : TypeId) (q : Nat) {N : Nat} (hN : w.heap.size = N) :
    ∃ g2 cap2 w5, (Builtin.append_ #[83, 83] ty #[v, .slice (some ⟨N, 0, none⟩) 1 1]).run Try.prog ((w.alloc (.cells #[.int .i64 nn.kind, .string ⟨nn.text.toArray⟩, .slice gk nn.kids.len ck] 85)).drewN q) = .ok (.slice (some ⟨g2, 0, none⟩) (ls.length + 1) cap2) w5 ∧
      (w5.cell? ⟨bn, 0, none⟩ = some (.int .i64 knd) ∧ w5.cell? ⟨bn, 1, none⟩ = some (.string ⟨#[]⟩) ∧ w5.cell? ⟨bn, 2, none⟩ = some v ∧ w5.frozen? ⟨bn, 2, none⟩ = false ∧ bn < w5.heap.size) ∧
      RwSt w0 B bp gT cT T b bn knd (.slice (some ⟨g2, 0, none⟩) (ls.length + 1) cap2) (ls ++ [nn]) i o f w5.heap.size (w5.setCell ⟨bn, 2, none⟩ (.slice (some ⟨g2, 0, none⟩) (ls.length + 1) cap2)) := by
  subst hN
  obtain ⟨b1, b2, b3, b4, b5⟩ := h.bb
  obtain ⟨i0, hi0, y0, y1, y2⟩ := info_parts rnodeInfo
  have hown := h.own
  have hown' : OwnA (NodH (fun k => k ≠ bn)) 3 w (b + 1) 85 v ls := by
    obtain ⟨xs, h3, h4⟩ := hown
    refine ⟨xs, h3, AllA.map (fun a x hx => ?_) h4⟩
    exact NodR.fit.mono (fun k hk' => ⟨hk'.1, hk'.2.1⟩) hx
  obtain ⟨g2, cap2, w5, hrun, h2, h3, h4, h5⟩ := hown'.app (P := Try.prog) (NodH.fit _) 83 ty i0 _ 48 Try.underlying83 hi0 y0 y1 y2 rfl (by omega) (by omega) (by omega) hl nn [.int .i64 nn.kind, .string ⟨nn.text.toArray⟩, .slice gk nn.kids.len ck] ⟨gk, ck, rfl, hk.mono fun k hk' => ⟨⟨by omega, hk'.2, fun e => by have := (h.row k e).2; omega⟩, by omega⟩⟩ q
  have hs : ∀ k, v.ownBlock = some k → b + 1 ≤ k ∧ k ≠ bn := fun k hk => ⟨(hown'.lt k hk).1, (h.row k hk).1⟩
  have hn5 := h.n.kp h3 (fun e => (hs _ e).2 rfl)
  have hg2 : g2 ≠ bn := by
    rcases h4 with h4 | h4
    · exact (h.row _ h4).1
    · omega
  have hsz := h3.size
  have c0 := hn5.cell 0
  have c1 := hn5.cell 1
  have c2 := hn5.cell 2
  have f2 := hn5.free 2
  simp only [List.getElem?_cons_zero, List.getElem?_cons_succ] at c0 c1 c2
  refine ⟨g2, cap2, w5, hrun, ⟨c0, c1, c2, f2, hn5.lt⟩, ?_⟩
  have hkn : Kp (fun k => k = bn) w5 (w5.setCell ⟨bn, 2, none⟩ (.slice (some ⟨g2, 0, none⟩) (ls.length + 1) cap2)) := (Kp.refl (fun k => k = bn) w5).set (p := ⟨bn, 2, none⟩) (.inl rfl) _
  refine ⟨(h.res.kp h3 (fun e => by have := (hs _ e).1; omega)).far (by show b ≠ bn; omega) _, hn5.set 2 _, ?_, ?_, (h.sta.kp h3 (fun k e => by have := (hs k e).1; omega)).kp hkn (fun k e => by omega), ?_, b1, b2, b3, hn5.lt, by simp [World.setCell]⟩
  · obtain ⟨xs, e1, e2⟩ := h2
    refine ⟨xs, by simpa using own_kp e1 hkn (fun g hg e => by (have hg' : g2 = g := by simpa [Value.ownBlock] using hg); omega), AllA.map (fun a x hx => ?_) (by simpa using e2)⟩
    refine NodR.fit.mono (fun k hk' => ?_) (NodR.fit.kp hkn (fun k hk' e => hk'.2 e) hx)
    exact ⟨⟨hk'.1.1, Nat.lt_of_lt_of_le hk'.1.2.1 hkn.size, hk'.1.2.2⟩, hk'.2, hk'.1.2.1⟩
  · intro g hg
    have hg' : g2 = g := by simpa [Value.ownBlock] using hg
    subst hg'
    exact ⟨hg2, h5⟩
  · refine gb_set (gb_then_kp h.gb h3 (fun k e => by have := (hs k e).1; omega)) (.inr (by show _ ≤ bn; omega)) _
/-- A node is handed back. -/
theorem RwSt.fin (h : RwSt w0 B bp gT cT T b bn knd v ls i o f H w) {n : Nod} {gk : Option Addr} {ck : Nat} (hn : NdAt w (From (b + 1) w) gk n.kids 0) {r : Syn.Res Nod} (hr : (f = no ∧ r = .ok n i o) ∨ r = .bad f) :
    SEnd (isNode w0.heap.size) w0 B bp gT cT T r (.returned (nodeV n gk ck)) (((w.setCell ⟨b, 0, none⟩ (.int .i64 n.kind)).setCell ⟨b, 1, none⟩ (.string ⟨n.text.toArray⟩)).setCell ⟨b, 2, none⟩ (.slice gk n.kids.len ck)) := by
  obtain ⟨b1, b2, b3, b4, b5⟩ := h.bb
  have hkp := kp_set3 w b (.int .i64 n.kind) (.string ⟨n.text.toArray⟩) (.slice gk n.kids.len ck)
  have hn2 := (hn.kp hkp (fun k hk e => by have := hk.1; omega)).mono (D' := From w0.heap.size _) fun k hk => ⟨by have := hk.1; omega, Nat.lt_of_lt_of_le hk.2 hkp.size⟩
  have hg : w0.grownBy (((w.setCell ⟨b, 0, none⟩ (.int .i64 n.kind)).setCell ⟨b, 1, none⟩ (.string ⟨n.text.toArray⟩)).setCell ⟨b, 2, none⟩ (.slice gk n.kids.len ck)) (some bp) := gb_then_kp h.gb hkp (fun k e => by omega)
  have hs := h.sta.kp hkp (fun k e => by omega)
  rcases hr with ⟨rfl, rfl⟩ | rfl
  · exact SEnd.isOk rfl hg ⟨gk, ck, rfl, hn2⟩ hs
  · exact SEnd.isBad (a := n) rfl hg ⟨gk, ck, rfl, hn2⟩ hs
end
end Go.Proofs.Ytjaampgpihicmaa
