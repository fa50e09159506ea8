/- The row of a law whose arguments are only read, of whatever types; arguments of ints, of rows of ints, of raw grammars, read. No program but its types' numbers. -/
import Derived.Test.YtaehooafdbaomaaLawRow
import Derived.Test.YtaehooafdbaomaaRep
import Derived.Carry
import Derived.Deep.Matrix
import Derived.Deep.Fields
import Derived.Lib.SmallJoins
namespace Go.Proofs.Ytaehooafdbaomaa
open Go.ChangeShapes Go.WideShapes Go.ChangeAt Go.RowKit

section
variable {H : Type} {enc : TypeId × Value → H} {P : Program} {W W' : World}

theorem stays_all (hl : laidOutB P = true) (hb : Below W.heap.size W W') (sp : Nat → Bool) : ∀ (ts : List TypeId) (vs : List Value) (ds : List (DataW H)) (ps : List MemPlace), (∀ t ∈ ts, P.readableRec t = true ∧ t < P.types.size) →
    DataW.TrodAll enc P W 0 (fun _ => true) true ts vs ds ps → (∀ p ∈ ps, p.block < W.heap.size) → (∀ p ∈ ps, sp p.block = true) → DataW.TrodAll enc P W' 0 sp true ts vs ds ps
  | [], vs, ds, ps, _, h, _, _ => by
    obtain ⟨rfl, rfl, rfl⟩ := trodAll_nil h
    exact trodAll_mk0
  | t :: ts, vs, ds, ps, ht, h, hlt, hs => by
    obtain ⟨v, vs', d, ds', p, q, rfl, rfl, rfl, h0, r0⟩ := trodAll_cons h
    obtain ⟨h1, h2⟩ := ht t (List.mem_cons_self ..)
    have hrest := stays_all hl hb sp ts vs' ds' q (fun t' h' => ht t' (List.mem_cons_of_mem _ h')) r0 (fun x hx => hlt x (List.mem_append_right _ hx)) (fun x hx => hs x (List.mem_append_right _ hx))
    exact trodAll_cons_mk (WideElems.Trod_stays hl h1 h2 h0 (fun x hx => hb.same (hlt x (List.mem_append_left _ hx))) (fun x hx => hs x (List.mem_append_left _ hx))) hrest

theorem law_any {f : Func} {s : ChangeSpec} {apart fresh handsOn again : Bool} {args : Array Value} {v : Value} {ds gs : List (DataW H)} {before : List MemPlace} (hl : laidOutB P = true)
    (hp : ∀ t ∈ f.params.toList, P.readableRec t = true ∧ t < P.types.size) (hW : DataW.Whole enc P f.params.toList s.vars apart W args.toList ds gs before) (hsv : s.vars = []) (hfa : (s.fn H (ds ++ gs)).args = ds)
    (hfv : (s.fn H (ds ++ gs)).vars = [])
    (hres : ∀ (b : Nat) (sp : Nat → Bool) (hd : Bool), DataW.TrodAll enc P W' b sp hd f.resultTypes.toList (v.resultList f.resultTypes.size) (s.fn H (ds ++ gs)).results [])
    (hb : Below W.heap.size W W')
    (hok : ∀ (j : Nat) (t : TypeId) (r : Value), f.resultTypes[j]? = some t → (v.resultList f.resultTypes.size)[j]? = some r → Value.okWide P W' .any 0 t r) :
    s.post enc P f apart fresh handsOn again W args v W' := by
  have hW' := hW
  obtain ⟨p, q, hA0, hV, rfl, hfz, hnd⟩ := hW
  have hA : DataW.TrodAll enc P W 0 (fun _ => true) true f.params.toList args.toList ds p := hA0
  rw [hsv] at hV
  obtain ⟨rfl, rfl⟩ := trodVars_none hV
  refine law_post (pa := p) (pv := []) hW' hres (fun sp hsp => ?_) (fun sp hsp => ?_) rfl hb hok
  · rw [hfa]
    exact stays_all hl hb sp _ _ _ _ hp hA (fun x hx => hW'.lt x (List.mem_append_left _ hx)) (fun x hx => hsp x (List.mem_append_left _ hx))
  · rw [hfv, hsv]
    rfl

theorem array5 {α : Type} {a : Array α} (h : a.size = 5) : ∃ x0 x1 x2 x3 x4, a = #[x0, x1, x2, x3, x4] := by
  obtain ⟨l⟩ := a
  match l, h with
  | [x0, x1, x2, x3, x4], _ => exact ⟨x0, x1, x2, x3, x4, rfl⟩

open Go.Deep in
theorem open_agg5 {base : Nat} {spare : Nat → Bool} {held : Bool} {w : World} {r : Reach} {b0 : Nat} {t : TypeId} {f0 f1 f2 f3 f4 : Field} {v : Value} {d : DataW H} {p : List MemPlace} (hs : P.underlying t = some (.struct #[f0, f1, f2, f3, f4])) (hone : oneCellFields P #[f0, f1, f2, f3, f4] = true) (hC : P.cellsOf t = 5)
    (hv : Value.okWide P w r b0 t v) (h : DataW.Trod enc P w base spare held t v d p) :
    ∃ (v0 v1 v2 v3 v4 : Value) (y0 y1 y2 y3 y4 : DataW H × List MemPlace) (n : Nat), v = .agg #[v0, v1, v2, v3, v4] ∧
      DataW.trod enc P w base spare held n f0.type [v0] = some y0 ∧ DataW.trod enc P w base spare held n f1.type [v1] = some y1 ∧ DataW.trod enc P w base spare held n f2.type [v2] = some y2 ∧ DataW.trod enc P w base spare held n f3.type [v3] = some y3 ∧ DataW.trod enc P w base spare held n f4.type [v4] = some y4 := by
  obtain ⟨cs, rfl, hsz⟩ := okWide_struct hs hv
  obtain ⟨c0, c1, c2, c3, c4, rfl⟩ := array5 (hsz.trans hC)
  obtain ⟨fuel, hf⟩ := h
  obtain ⟨xs, n, _, hx, _, hlen, hf⟩ := DataW.trod_struct hs hf
  obtain ⟨o0, k0⟩ := hone_of hone 0 f0 rfl
  obtain ⟨o1, k1⟩ := hone_of hone 1 f1 rfl
  obtain ⟨o2, k2⟩ := hone_of hone 2 f2 rfl
  obtain ⟨o3, k3⟩ := hone_of hone 3 f3 rfl
  obtain ⟨o4, k4⟩ := hone_of hone 4 f4 rfl
  match xs, hlen with
  | [y0, y1, y2, y3, y4], _ =>
    have g0 := hf 0 f0 rfl
    have g1 := hf 1 f1 rfl
    have g2 := hf 2 f2 rfl
    have g3 := hf 3 f3 rfl
    have g4 := hf 4 f4 rfl
    exact ⟨c0, c1, c2, c3, c4, y0, y1, y2, y3, y4, n, rfl, by simpa [Value.cells, o0, k0] using g0, by simpa [Value.cells, o1, k1] using g1, by simpa [Value.cells, o2, k2] using g2, by simpa [Value.cells, o3, k3] using g3, by simpa [Value.cells, o4, k4] using g4⟩

/-- An argument's reading of ints. -/
theorem rowI_arg {n : Nat} {t e : TypeId} {c : Value} {y : DataW H × List MemPlace} (ht : P.underlying t = some (.slice e)) (he : P.underlying e = some (.int .i64)) (hc : P.cellsOf e = 1) (h : DataW.trod enc P W 0 (fun _ => true) true n t [c] = some y) :
    ∃ (ga : Option Addr) (cap : Nat) (zs : List Int), c = .slice ga zs.length cap ∧ RowI W W.heap.size ga zs ∧ zs.length ≤ 9223372036854775807 := by
  rcases open_ints ht he hc h with ⟨hcs, _⟩ | ⟨a, len, cap, zs, hcs, _, hl, hm, hz, _, hcell, _⟩
  · simp at hcs
    subst hcs
    exact ⟨none, 0, [], rfl, fun i hi => by simp at hi, by simp⟩
  · simp at hcs
    subst hcs
    simp only [if_true] at hz
    refine ⟨some a, cap, zs.take len, by rw [List.length_take, Nat.min_eq_left (by omega)], RowI.intro fun i x hx => ?_, by unfold maxLen at hm; simp; omega⟩
    have hi : i < zs.length := by
      have := (List.getElem?_eq_some_iff.1 hx).1
      simp at this; omega
    have hcl := hcell i hi
    obtain ⟨b, off, spot⟩ := a
    have hspot : spot = none := by
      have h0 := hcell 0 (by omega)
      simpa [Addr.add] using World.cell?_spot h0
    subst hspot
    have hx' : zs[i]? = some x := by
      rw [List.getElem?_take] at hx
      split at hx
      · exact hx
      · cases hx
    have hv : zs.getD i 0 = x := by simp [List.getD, hx']
    have hadd : (⟨b, off, none⟩ : Addr).add i = ⟨b, off + i, none⟩ := by unfold Addr.add; split <;> simp_all
    rw [hadd, hv] at hcl
    exact ⟨b, off, rfl, World.block_lt_of_cell? W _ hcl, hcl⟩

theorem rowII_arg {n : Nat} {t e q : TypeId} {c : Value} {y : DataW H × List MemPlace} (ht : P.underlying t = some (.slice e)) (he : P.underlying e = some (.slice q)) (hq : P.underlying q = some (.int .i64)) (ce : P.cellsOf e = 1) (cq : P.cellsOf q = 1) (h : DataW.trod enc P W 0 (fun _ => true) true n t [c] = some y) :
    ∃ (ga : Option Addr) (cap : Nat) (zss : List (List Int)), c = .slice ga zss.length cap ∧ RowII W W.heap.size ga zss ∧ zss.length ≤ 9223372036854775807 ∧ ∀ zs ∈ zss, zs.length ≤ 9223372036854775807 := by
  rcases Go.Deep.open_int_rows ht he hq ce cq h with ⟨hcs, _⟩ | ⟨a, len, cap, A, L, C, Z, hcs, _, hl, hm, _, hrows⟩
  · simp at hcs
    subst hcs
    exact ⟨none, 0, [], rfl, fun i hi => by simp at hi, by simp, by simp⟩
  · simp at hcs
    subst hcs
    obtain ⟨zss, hzss⟩ : ∃ zss, zss = (List.range len).map fun r => (Z r).take (L r) := ⟨_, rfl⟩
    have hlen : zss.length = len := by rw [hzss]; simp
    refine ⟨some a, cap, zss, by rw [hlen], RowII.intro fun i x hx => ?_, by unfold maxLen at hm; omega, fun zs hz => ?_⟩
    · have hi : i < len := by
        have := (List.getElem?_eq_some_iff.1 hx).1
        omega
      obtain ⟨h1, h2, h3, h4, _, h6, h7⟩ := hrows i (by omega)
      have hxe : x = (Z i).take (L i) := by
        rw [hzss, List.getElem?_map, List.getElem?_range hi] at hx
        simpa using hx.symm
      have hxl : x.length = L i := by rw [hxe, List.length_take]; omega
      obtain ⟨b, off, spot⟩ := a
      have hspot : spot = none := by
        have h0 := (hrows 0 (by omega)).1
        simpa [Addr.add] using World.cell?_spot h0
      subst hspot
      have hadd : (⟨b, off, none⟩ : Addr).add i = ⟨b, off + i, none⟩ := by unfold Addr.add; split <;> simp_all
      rw [hadd] at h1
      refine ⟨b, off, A i, C i, rfl, World.block_lt_of_cell? W _ h1, by rw [h1, hxl], RowI.intro fun j z hz => ?_⟩
      have hj : j < L i := by
        have := (List.getElem?_eq_some_iff.1 hz).1
        omega
      have hA : A i ≠ none := fun e => by have := h6 e; omega
      obtain ⟨a', ha'⟩ := Option.ne_none_iff_exists'.1 hA
      obtain ⟨_, hcell⟩ := h7 a' ha'
      have hcl := hcell j (by omega)
      obtain ⟨b', off', spot'⟩ := a'
      have hspot' : spot' = none := by
        have h0 := hcell 0 (by omega)
        simpa [Addr.add] using World.cell?_spot h0
      subst hspot'
      have hadd' : (⟨b', off', none⟩ : Addr).add j = ⟨b', off' + j, none⟩ := by unfold Addr.add; split <;> simp_all
      have hz' : (Z i)[j]? = some z := by
        rw [hxe, List.getElem?_take, if_pos hj] at hz
        exact hz
      have hv : (Z i).getD j 0 = z := by simp [List.getD, hz']
      rw [hadd', hv] at hcl
      exact ⟨b', off', ha', World.block_lt_of_cell? W _ hcl, hcl⟩
    · rw [hzss] at hz
      obtain ⟨r, hr, rfl⟩ := List.mem_map.1 hz
      obtain ⟨_, h2, h3, h4, _⟩ := hrows r (by have := List.mem_range.1 hr; omega)
      unfold maxLen at h3
      rw [List.length_take]
      omega

/-- A raw grammar, as plain data. -/
structure RawD where
  n : Int
  t : Int
  start : Int
  left : List Int
  right : List (List Int)

/-- .. read in a world. -/
def RawAt (W : World) (x : RawD) (v : Value) : Prop :=
  ∃ (gl gr : Option Addr) (cl cr : Nat), v = .agg #[.int .i64 x.n, .int .i64 x.t, .int .i64 x.start, .slice gl x.left.length cl, .slice gr x.right.length cr] ∧ RowI W W.heap.size gl x.left ∧ RowII W W.heap.size gr x.right ∧
    x.left.length ≤ 9223372036854775807 ∧ x.right.length ≤ 9223372036854775807 ∧ ∀ zs ∈ x.right, zs.length ≤ 9223372036854775807

theorem raw_arg {r : Reach} {b0 : Nat} {t ti tl tr : TypeId} {f0 f1 f2 f3 f4 : Field} {v : Value} {d : DataW H} {p : List MemPlace} (hs : P.underlying t = some (.struct #[f0, f1, f2, f3, f4])) (hone : Go.Deep.oneCellFields P #[f0, f1, f2, f3, f4] = true) (hC : P.cellsOf t = 5)
    (e0 : f0.type = ti) (e1 : f1.type = ti) (e2 : f2.type = ti) (e3 : f3.type = tl) (e4 : f4.type = tr) (hi : P.underlying ti = some (.int .i64)) (hl : P.underlying tl = some (.slice ti)) (hr : P.underlying tr = some (.slice tl)) (ci : P.cellsOf ti = 1) (cl : P.cellsOf tl = 1)
    (hv : Value.okWide P W r b0 t v) (h : DataW.Trod enc P W 0 (fun _ => true) true t v d p) : ∃ x, RawAt W x v := by
  obtain ⟨v0, v1, v2, v3, v4, y0, y1, y2, y3, y4, n, rfl, h0, h1, h2, h3, h4⟩ := open_agg5 hs hone hC hv h
  rw [e0] at h0
  rw [e1] at h1
  rw [e2] at h2
  rw [e3] at h3
  rw [e4] at h4
  obtain ⟨n0, hn0, _⟩ := DataW.trod_int hi h0
  obtain ⟨n1, hn1, _⟩ := DataW.trod_int hi h1
  obtain ⟨n2, hn2, _⟩ := DataW.trod_int hi h2
  simp at hn0 hn1 hn2
  subst hn0 hn1 hn2
  obtain ⟨gl, cl', zs, rfl, k1, k2⟩ := rowI_arg hl hi ci h3
  obtain ⟨gr, cr', zss, rfl, k3, k4, k5⟩ := rowII_arg hr hl hi cl ci h4
  exact ⟨⟨n0, n1, n2, zs, zss⟩, gl, gr, cl', cr', rfl, k1, k3, k2, k4, k5⟩
end
end Go.Proofs.Ytaehooafdbaomaa
