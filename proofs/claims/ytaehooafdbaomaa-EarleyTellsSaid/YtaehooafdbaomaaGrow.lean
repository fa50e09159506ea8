/- A grammar of the call's own, grown piece by piece: names, terminals, productions. No program but its types' numbers. -/
import Derived.Test.YtaehooafdbaomaaProds
namespace Go.Proofs.Ytaehooafdbaomaa
open Go.RowKit

theorem kp_of_below {B : Nat} {w w' : World} (h : Below B w w') : Kp (fun k => B ≤ k) w w' :=
  ⟨h.os, h.tape, h.output, h.size, fun k _ hn => h.block k (by omega)⟩

/-- Block b holds the five cells of a grammar whose parts are the call's own. -/
structure Gg (w : World) (b : Nat) (T TS TP TI : TypeId) (G : Gr) (vn vt vp : Value) : Prop where
  k : Bk w b T [.int .i64 G.start, .int .i64 G.rules, vn, vt, vp]
  n : w.ownsRow (b + 1) TS 1 vn G.names.length (G.names.map Value.string)
  t : w.ownsRow (b + 1) TS 1 vt G.terms.length (G.terms.map Value.string)
  p : PrOwn w (b + 1) TP TI vp G.prods
  a : ∀ g, vn.ownBlock = some g → vt.ownBlock ≠ some g

/-- The types that a grammar's parts have. -/
structure GgTy (P : Program) (TS TP TI LS LP : TypeId) : Prop where
  ls : P.underlying LS = some (.slice TS)
  lp : P.underlying LP = some (.slice TP)
  is : (P.info? TS).map (fun i => (i.zero, i.size, i.bytes)) = some (some (.string ⟨#[]⟩), 1, 16)
  ip : (P.info? TP).map (fun i => (i.zero, i.size, i.bytes)) = some (some (.agg #[.int .i64 0, .slice none 0 0]), 2, 32)
  n1 : TS ≠ TI
  n2 : TP ≠ TI
  n3 : TS ≠ TP

section
variable {w w' wa : World} {b : Nat} {T TS TP TI LS LP : TypeId} {G : Gr} {vn vt vp : Value}

theorem PrOwn.below {v : Value} {B : Nat} {ps : List (Int × List Int)} (h : PrOwn w B TP TI v ps) (hb : Below w.heap.size w w') : PrOwn w' B TP TI v ps := by
  obtain ⟨rs, h1, h2, h3⟩ := h
  exact ⟨rs, h1, own_below h2 hb, fun i x rv hx hr => own_below (h3 i x rv hx hr) hb⟩

theorem Gg.later (h : Gg w b T TS TP TI G vn vt vp) (hb : Below w.heap.size w w') : Gg w' b T TS TP TI G vn vt vp :=
  ⟨h.k.below hb h.k.lt, own_below h.n hb, own_below h.t hb, h.p.below hb, h.a⟩

theorem Gg.slices (h : Gg w b T TS TP TI G vn vt vp) : ∃ gn gt gp cn ct cp, vn = .slice gn G.names.length cn ∧ vt = .slice gt G.terms.length ct ∧ vp = .slice gp G.prods.length cp ∧
    RowS w w.heap.size gn G.names ∧ RowS w w.heap.size gt G.terms ∧ RowP w w.heap.size gp G.prods := by
  obtain ⟨gn, cn, h1, h2⟩ := own_rowS h.n
  obtain ⟨gt, ct, h3, h4⟩ := own_rowS h.t
  obtain ⟨gp, cp, h5, h6⟩ := h.p.rows
  exact ⟨gn, gt, gp, cn, ct, cp, h1, h3, h5, h2, h4, h6⟩

theorem own_n3 {w : World} {B : Nat} {e : TypeId} {s n : Nat} {u : Value} {xs : List Value} (h : w.ownsRow B e s u n xs) {g : Nat} (hg : u.ownBlock = some g) : B ≤ g ∧ g < w.heap.size := World.ownsRow.lt h g hg

/-- What a store into one of the five cells leaves. -/
theorem own_cell {w : World} {e : TypeId} {s n : Nat} {u x : Value} {xs : List Value} {j : Nat} (h : w.ownsRow (b + 1) e s u n xs) : (w.setCell ⟨b, j, none⟩ x).ownsRow (b + 1) e s u n xs :=
  own_set h (fun e => by have := (own_n3 h e).1; simp at this; omega) x
theorem pr_cell {w : World} {u x : Value} {ps : List (Int × List Int)} {j : Nat} (h : PrOwn w (b + 1) TP TI u ps) : PrOwn (w.setCell ⟨b, j, none⟩ x) (b + 1) TP TI u ps := by
  obtain ⟨rs, h1, h2, h3⟩ := h
  exact ⟨rs, h1, own_cell h2, fun i y rv hy hr => own_cell (h3 i y rv hy hr)⟩

theorem Gg.name {P : Program} (y : GgTy P TS TP TI LS LP) (h : Gg w b T TS TP TI G vn vt vp) (hba : Below w.heap.size w wa) (hl : G.names.length ≤ 1000) (s : ByteArray) :
    ∃ g2 cap2 w2, (Builtin.append_ #[LS, LS] LS #[vn, .slice (some ⟨wa.heap.size, 0, none⟩) 1 1]).run P (wa.alloc (.cells #[.string s] TS)) = .ok (.slice (some ⟨g2, 0, none⟩) (G.names.length + 1) cap2) w2 ∧ w2.cell? ⟨b, 2, none⟩ = some vn ∧ w2.frozen? ⟨b, 2, none⟩ = false ∧
      Gg (w2.setCell ⟨b, 2, none⟩ (.slice (some ⟨g2, 0, none⟩) (G.names.length + 1) cap2)) b T TS TP TI { G with names := G.names ++ [s] } (.slice (some ⟨g2, 0, none⟩) (G.names.length + 1) cap2) vt vp ∧ Below b w (w2.setCell ⟨b, 2, none⟩ (.slice (some ⟨g2, 0, none⟩) (G.names.length + 1) cap2)) ∧ b < (w2.setCell ⟨b, 2, none⟩ (.slice (some ⟨g2, 0, none⟩) (G.names.length + 1) cap2)).heap.size := by
  obtain ⟨is, his, s0, s1, s2⟩ := info_parts y.is
  have ha := h.later hba
  have hlt := ha.k.lt
  obtain ⟨g2, cap2, w2, hrun, hon2, hk2, hg2, hl2⟩ := str_app (P := P) ha.n LS LS is y.ls his s0 s1 s2 (by omega) (by omega) s 0
  have hnb : ∀ g, vn.ownBlock = some g → b + 1 ≤ g := fun g hg => (own_n3 ha.n hg).1
  have hkb2 := ha.k.kp hk2 (fun e => by have := hnb b e; omega)
  refine ⟨g2, cap2, w2, hrun, by rw [hkb2.cell]; rfl, hkb2.free 2, ⟨hkb2.set 2 _, own_cell hon2, own_cell (own_kp ha.t hk2 fun g hg e => ha.a g e hg), pr_cell (ha.p.kp hk2 (fun g hg e => ?_) (fun u n' xs hu g hg e => own_apart hu ha.n (Ne.symm y.n1) hg e)), fun g hg => ?_⟩, ?_, ?_⟩
  · obtain ⟨xs, hx⟩ := ha.p.own
    exact own_apart hx ha.n (Ne.symm y.n3) hg e
  · simp only [Value.ownBlock, Option.some.injEq] at hg
    subst hg
    rcases hg2 with h5 | h5
    · exact ha.a _ h5
    · intro e
      have := (own_n3 ha.t e).2
      omega
  · exact ((hba.mono (by have := h.k.lt; omega)).trans (hk2.to_below (B := b) (by omega) (fun k e => by have := hnb k e; omega))).setCell (p := ⟨b, 2, none⟩) (Nat.le_refl b) _
  · exact (hkb2.set 2 _).lt

theorem Gg.term {P : Program} (y : GgTy P TS TP TI LS LP) (h : Gg w b T TS TP TI G vn vt vp) (hba : Below w.heap.size w wa) (hl : G.terms.length ≤ 1000) (s : ByteArray) :
    ∃ g2 cap2 w2, (Builtin.append_ #[LS, LS] LS #[vt, .slice (some ⟨wa.heap.size, 0, none⟩) 1 1]).run P (wa.alloc (.cells #[.string s] TS)) = .ok (.slice (some ⟨g2, 0, none⟩) (G.terms.length + 1) cap2) w2 ∧ w2.cell? ⟨b, 3, none⟩ = some vt ∧ w2.frozen? ⟨b, 3, none⟩ = false ∧
      Gg (w2.setCell ⟨b, 3, none⟩ (.slice (some ⟨g2, 0, none⟩) (G.terms.length + 1) cap2)) b T TS TP TI { G with terms := G.terms ++ [s] } vn (.slice (some ⟨g2, 0, none⟩) (G.terms.length + 1) cap2) vp ∧ Below b w (w2.setCell ⟨b, 3, none⟩ (.slice (some ⟨g2, 0, none⟩) (G.terms.length + 1) cap2)) ∧ b < (w2.setCell ⟨b, 3, none⟩ (.slice (some ⟨g2, 0, none⟩) (G.terms.length + 1) cap2)).heap.size := by
  obtain ⟨is, his, s0, s1, s2⟩ := info_parts y.is
  have ha := h.later hba
  have hlt := ha.k.lt
  obtain ⟨g2, cap2, w2, hrun, hon2, hk2, hg2, hl2⟩ := str_app (P := P) ha.t LS LS is y.ls his s0 s1 s2 (by omega) (by omega) s 0
  have hnb : ∀ g, vt.ownBlock = some g → b + 1 ≤ g := fun g hg => (own_n3 ha.t hg).1
  have hkb2 := ha.k.kp hk2 (fun e => by have := hnb b e; omega)
  refine ⟨g2, cap2, w2, hrun, by rw [hkb2.cell]; rfl, hkb2.free 3, ⟨hkb2.set 3 _, own_cell (own_kp ha.n hk2 fun g hg e => ha.a g hg e), own_cell hon2, pr_cell (ha.p.kp hk2 (fun g hg e => ?_) (fun u n' xs hu g hg e => own_apart hu ha.t (Ne.symm y.n1) hg e)), fun g hg => ?_⟩, ?_, ?_⟩
  · obtain ⟨xs, hx⟩ := ha.p.own
    exact own_apart hx ha.t (Ne.symm y.n3) hg e
  · simp only [Value.ownBlock, Option.some.injEq, ne_eq]
    rintro rfl
    rcases hg2 with h5 | h5
    · exact ha.a _ hg h5
    · have := (own_n3 ha.n hg).2
      omega
  · exact ((hba.mono (by have := h.k.lt; omega)).trans (hk2.to_below (B := b) (by omega) (fun k e => by have := hnb k e; omega))).setCell (p := ⟨b, 3, none⟩) (Nat.le_refl b) _
  · exact (hkb2.set 3 _).lt

theorem Gg.prod {P : Program} (y : GgTy P TS TP TI LS LP) (h : Gg w b T TS TP TI G vn vt vp) (hba : Below w.heap.size w wa) (hl : G.prods.length ≤ 1000) (x : Int × List Int) (rv : Value) (hrv : wa.ownsRow (b + 1) TI 1 rv x.2.length (x.2.map (Value.int .i64))) :
    ∃ g2 cap2 w2, (Builtin.append_ #[LP, LP] LP #[vp, .slice (some ⟨wa.heap.size, 0, none⟩) 1 1]).run P (wa.alloc (.cells #[.int .i64 x.1, rv] TP)) = .ok (.slice (some ⟨g2, 0, none⟩) (G.prods.length + 1) cap2) w2 ∧ w2.cell? ⟨b, 4, none⟩ = some vp ∧ w2.frozen? ⟨b, 4, none⟩ = false ∧
      Gg (w2.setCell ⟨b, 4, none⟩ (.slice (some ⟨g2, 0, none⟩) (G.prods.length + 1) cap2)) b T TS TP TI { G with prods := G.prods ++ [x] } vn vt (.slice (some ⟨g2, 0, none⟩) (G.prods.length + 1) cap2) ∧ Below b w (w2.setCell ⟨b, 4, none⟩ (.slice (some ⟨g2, 0, none⟩) (G.prods.length + 1) cap2)) ∧ b < (w2.setCell ⟨b, 4, none⟩ (.slice (some ⟨g2, 0, none⟩) (G.prods.length + 1) cap2)).heap.size := by
  obtain ⟨ip, hip, p0, p1, p2⟩ := info_parts y.ip
  have ha := h.later hba
  have hlt := ha.k.lt
  obtain ⟨g2, cap2, w2, hrun, hop2, hk2, hg2, hl2⟩ := ha.p.app (P := P) LP LP ip y.lp hip p0 p1 p2 y.n2 (by omega) (by omega) x rv hrv 0
  obtain ⟨xs, hx⟩ := ha.p.own
  have hnb : ∀ g, vp.ownBlock = some g → b + 1 ≤ g := fun g hg => (own_n3 hx hg).1
  have hkb2 := ha.k.kp hk2 (fun e => by have := hnb b e; omega)
  refine ⟨g2, cap2, w2, hrun, by rw [hkb2.cell]; rfl, hkb2.free 4, ⟨hkb2.set 4 _, own_cell (own_kp ha.n hk2 fun g hg e => own_apart ha.n hx y.n3 hg e), own_cell (own_kp ha.t hk2 fun g hg e => own_apart ha.t hx y.n3 hg e), ?_, ha.a⟩, ?_, ?_⟩
  · rw [show ({ G with prods := G.prods ++ [x] } : Gr).prods = G.prods ++ [x] from rfl]
    exact pr_cell hop2
  · exact ((hba.mono (by have := h.k.lt; omega)).trans (hk2.to_below (B := b) (by omega) (fun k e => by have := hnb k e; omega))).setCell (p := ⟨b, 4, none⟩) (Nat.le_refl b) _
  · exact (hkb2.set 4 _).lt
end
/-- Ints of the call's own. -/
theorem int_app {P : Program} {w : World} {B : Nat} {TI : TypeId} {v : Value} {zs : List Int} (h : w.ownsRow B TI 1 v zs.length (zs.map (Value.int .i64))) (t ty : TypeId) (i : TypeInfo) (ht : P.underlying t = some (.slice TI)) (hi : P.info? TI = some i)
    (hz : i.zero = some (.int .i64 0)) (hsize : i.size = 1) (hby : i.bytes = 8) (hB : B ≤ w.heap.size) (hl : zs.length ≤ 1000000) (s : Int) (q : Nat) :
    ∃ g2 cap2 w2, (Builtin.append_ #[t, t] ty #[v, .slice (some ⟨w.heap.size, 0, none⟩) 1 1]).run P ((w.alloc (.cells #[.int .i64 s] TI)).drewN q) = .ok (.slice (some ⟨g2, 0, none⟩) (zs.length + 1) cap2) w2 ∧
      w2.ownsRow B TI 1 (.slice (some ⟨g2, 0, none⟩) (zs.length + 1) cap2) (zs ++ [s]).length ((zs ++ [s]).map (Value.int .i64)) ∧ Kp (fun k => v.ownBlock = some k) w w2 ∧ (v.ownBlock = some g2 ∨ w.heap.size < g2) ∧ g2 < w2.heap.size := by
  obtain ⟨g2, cap2, w2, hrun, h5, h6, h7, h8⟩ := run_append_lies (P := P) ((w.alloc (.cells #[.int .i64 s] TI)).drewN q) t ty B TI i (.int .i64 0) 1 8 ht hi hz hsize hby rfl (by omega) v zs.length (zs.map (Value.int .i64)) (own_drewN (h.alloc _) q) ⟨w.heap.size, 0, none⟩ 1 1 [.int .i64 s] rfl
    (fun j u hj => by
      have hb := Bk.new w TI [.int .i64 s]
      rw [add_off0 _ rfl]
      simp only [Nat.zero_add]
      exact (hb.cell j).trans hj) (fun u hu => by simp at hu; subst hu; rfl) (by omega) (by unfold maxLen; omega) (by omega) (by show B ≤ (w.alloc (.cells #[.int .i64 s] TI)).heap.size; simp; omega) (w.heap.size + 1) (by show (w.alloc (.cells #[.int .i64 s] TI)).heap.size = _; simp)
  refine ⟨g2, cap2, w2, hrun, ?_, (((Kp.refl _ w).alloc _).drewN q).grown h6 (fun k hk _ => hk), h7.imp id (fun e => by omega), h8⟩
  rw [List.map_append, List.length_append]
  exact h5
end Go.Proofs.Ytaehooafdbaomaa
