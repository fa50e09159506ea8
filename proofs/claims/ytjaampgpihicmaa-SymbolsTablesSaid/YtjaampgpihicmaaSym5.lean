/- Chapter 7 (symbols): Check of any grammar. -/
import Derived.Test.YtjaampgpihicmaaSym3
import Derived.Test.YtjaampgpihicmaaSynLaw7
import Derived.Deep.CutBlock
namespace Go.Proofs.Ytjaampgpihicmaa.Syn
/-- Names that F does not know, each once. -/
def newN (F : List UInt8 → Bool) : List (List UInt8) → List (List UInt8) → List (List UInt8)
  | [], _ => []
  | t :: r, told => if (!F t && !told.contains t) = true then t :: newN F r (t :: told) else newN F r told
theorem newN_len (F : List UInt8 → Bool) : ∀ (l told : List (List UInt8)), (newN F l told).length ≤ l.length
  | [], _ => Nat.le_refl _
  | t :: r, told => by
    unfold newN
    split
    · have := newN_len F r (t :: told)
      simp
      omega
    · have := newN_len F r told
      simp
      omega
end Go.Proofs.Ytjaampgpihicmaa.Syn
namespace Go.Proofs.Ytjaampgpihicmaa
open Go.RowKit
attribute [local go_sem ↓] Go.wp_at_zero Go.wp_at_succ
attribute [local go_sem] frozen_alloc_lt
open Syn (Nd Nod)

/-- A problem: its code, its rule, its name. -/
structure Prob where
  code : Nat
  rule : Int
  name : List UInt8
def ProbR (_ : World) (_ : Nat → Prop) (p : Prob) (x : List Value) : Prop := x = [.int .i64 p.code, .int .i64 p.rule, .string ⟨p.name.toArray⟩]
theorem ProbR.fit : FitA ProbR 3 where
  len := by rintro w D a x rfl; rfl
  mono := fun _ h => h
  kp := fun _ _ h => h
  one := by
    rintro w D a x rfl u hu
    simp at hu
    rcases hu with rfl | rfl | rfl <;> rfl
theorem probInfo : (Try.prog.info? 64).map (fun i => (i.zero, i.size, i.bytes)) = some (some (.agg #[.int .i64 0, .int .i64 0, .string ⟨#[]⟩]), 3, 32) := by kernel_rfl
/-- A rule's problems. -/
def probsOf (all : List (List UInt8 × Nod)) (i : Nat) (x : List UInt8 × Nod) : List Prob :=
  (if firstAt all 0 x.1 = some i then [] else [⟨9, i, x.1⟩]) ++ (Syn.newN (fun t => (firstAt all 0 t).isSome) x.2.refs []).map fun t => ⟨10, i, t⟩
def probsFrom (all : List (List UInt8 × Nod)) : Nat → List (List UInt8 × Nod) → List Prob
  | _, [] => []
  | i, x :: r => probsOf all i x ++ probsFrom all (i + 1) r
def checkS (st : List UInt8) (rs : List (List UInt8 × Nod)) : List Prob := probsFrom rs 0 rs ++ if (firstAt rs 0 st).isSome then [] else [⟨19, -1, st⟩]
theorem own_ne_map {w : World} {B : Nat} {T : TypeId} {c n : Nat} {v : Value} {xs : List Value} (h : w.ownsRow B T c v n xs) {b m : Nat} {f : List UInt8 → Option Value} (hm : MapS w b m f) : v.ownBlock ≠ some b := by
  obtain ⟨es, k, hb⟩ := hm.block
  rcases h.2 with ⟨rfl, _⟩ | ⟨g, cap, cur, rfl, _, hh, _⟩
  · simp [Value.ownBlock]
  · intro e
    have e : g = b := by simpa [Value.ownBlock] using e
    subst e
    rw [hb] at hh
    injection hh with hh
    cases hh
theorem OwnA.flat {α : Type} {R : World → (Nat → Prop) → α → List Value → Prop} {c : Nat} {w w' : World} {B : Nat} {T : TypeId} {v : Value} {ls : List α} {S : Nat → Prop} (hR : ∀ w w' D D' a x, R w D a x → R w' D' a x) (h : OwnA R c w B T v ls) (hk : Kp S w w') (hs : ∀ g, v.ownBlock = some g → ¬ S g) : OwnA R c w' B T v ls := by
  obtain ⟨xs, h1, h2⟩ := h
  exact ⟨xs, own_kp h1 hk hs, AllA.mapS (fun a x hx => hR _ _ _ _ a x hx) h2⟩
theorem ProbR.flat : ∀ w w' D D' a x, ProbR w D a x → ProbR w' D' a x := fun _ _ _ _ _ _ h => h
theorem prob_app {w : World} {B : Nat} {v : Value} {ls : List Prob} (h : OwnA ProbR 3 w B 64 v ls) (p : Prob) (hl : ls.length ≤ 1000000) (hB : B ≤ w.heap.size) (ty : TypeId) (q : Nat) {N : Nat} (hN : w.heap.size = N) :
    ∃ g2 cap2 w5, (Builtin.append_ #[59, 59] ty #[v, .slice (some ⟨N, 0, none⟩) 1 1]).run Try.prog ((w.alloc (.cells #[.int .i64 p.code, .int .i64 p.rule, .string ⟨p.name.toArray⟩] 64)).drewN q) = .ok (.slice (some ⟨g2, 0, none⟩) (ls.length + 1) cap2) w5 ∧
      OwnA ProbR 3 w5 B 64 (.slice (some ⟨g2, 0, none⟩) (ls.length + 1) cap2) (ls ++ [p]) ∧ Kp (fun k => v.ownBlock = some k) w w5 ∧ (v.ownBlock = some g2 ∨ w.heap.size < g2) := by
  subst hN
  obtain ⟨i0, hi0, y0, y1, y2⟩ := info_parts probInfo
  obtain ⟨g2, cap2, w5, h1, h2, h3, h4, _⟩ := h.app (P := Try.prog) ProbR.fit 59 ty i0 _ 32 Try.underlying59 hi0 y0 y1 y2 rfl (by omega) (by omega) hB hl p [.int .i64 p.code, .int .i64 p.rule, .string ⟨p.name.toArray⟩] rfl q
  exact ⟨g2, cap2, w5, h1, h2, h3, h4⟩
/-- The map of the names' first rules. -/
def firstF (rs : List (List UInt8 × Nod)) (t : List UInt8) : Option Value := (firstAt rs 0 t).map fun (i : Nat) => Value.int .i64 (i : Int)
def toldF (told : List (List UInt8)) (t : List UInt8) : Option Value := if told.contains t = true then some (.bool true) else none
/-- In Check: out is v. -/
structure CkSt (w0 : World) (bq bm B : Nat) (st : List UInt8) (rs : List (List UInt8 × Nod)) (ga : Option Addr) (ca : Nat) (v : Value) (ls : List Prob) (w : World) : Prop where
  arg : Bk w bq 25 [.string ⟨st.toArray⟩, .slice ga rs.length ca]
  map : MapS w bm rs.length (firstF rs)
  own : OwnA ProbR 3 w B 64 v ls
  bel : Below w0.heap.size w0 w
  bb : bq = w0.heap.size ∧ bq < B ∧ bm < B ∧ w0.heap.size ≤ bm ∧ bm ≠ bq ∧ B ≤ w.heap.size
section
variable {w0 : World} {bq bm B : Nat} {st : List UInt8} {rs : List (List UInt8 × Nod)} {ga : Option Addr} {ca : Nat} {v : Value} {ls : List Prob} {w : World}
theorem CkSt.kp {S : Nat → Prop} (h : CkSt w0 bq bm B st rs ga ca v ls w) {w' : World} (hk : Kp S w w') (hs : ∀ k, S k → B ≤ k) (hv : ∀ g, v.ownBlock = some g → ¬ S g) : CkSt w0 bq bm B st rs ga ca v ls w' := by
  obtain ⟨b1, b2, b3, b4, b5, b6⟩ := h.bb
  have := hk.size
  exact ⟨h.arg.kp hk (fun e => by have := hs _ e; omega), h.map.kp hk (fun e => by have := hs _ e; omega), h.own.flat ProbR.flat hk hv, h.bel.trans (hk.to_below (by omega) (fun k e => by have := hs k e; omega)), b1, b2, b3, b4, b5, by omega⟩
theorem CkSt.later (h : CkSt w0 bq bm B st rs ga ca v ls w) {w' : World} (hb : Below w.heap.size w w') : CkSt w0 bq bm B st rs ga ca v ls w' := h.kp (below_kp hb) (fun _ e => e.elim) (fun _ _ e => e)
theorem CkSt.app (h : CkSt w0 bq bm B st rs ga ca v ls w) (p : Prob) (hl : ls.length ≤ 1000000) (ty : TypeId) (q : Nat) {N : Nat} (hN : w.heap.size = N) :
    ∃ g2 cap2 w5, (Builtin.append_ #[59, 59] ty #[v, .slice (some ⟨N, 0, none⟩) 1 1]).run Try.prog ((w.alloc (.cells #[.int .i64 p.code, .int .i64 p.rule, .string ⟨p.name.toArray⟩] 64)).drewN q) = .ok (.slice (some ⟨g2, 0, none⟩) (ls.length + 1) cap2) w5 ∧
      CkSt w0 bq bm B st rs ga ca (.slice (some ⟨g2, 0, none⟩) (ls.length + 1) cap2) (ls ++ [p]) w5 ∧ Kp (fun k => v.ownBlock = some k) w w5 ∧ (v.ownBlock = some g2 ∨ w.heap.size < g2) := by
  obtain ⟨b1, b2, b3, b4, b5, b6⟩ := h.bb
  obtain ⟨g2, cap2, w5, h1, h2, h3, h4⟩ := prob_app h.own p hl b6 ty q hN
  have hs : ∀ k, v.ownBlock = some k → B ≤ k := fun k e => (h.own.lt k e).1
  have := h3.size
  exact ⟨g2, cap2, w5, h1, ⟨h.arg.kp h3 (fun e => by have := hs _ e; omega), h.map.kp h3 (fun e => by have := hs _ e; omega), h2, h.bel.trans (h3.to_below (by omega) (fun k e => by have := hs k e; omega)), b1, b2, b3, b4, b5, by omega⟩, h3, h4⟩
end
def CkRel (w0 : World) (bq bm B : Nat) (st : List UInt8) (rs : List (List UInt8 × Nod)) (ga : Option Addr) (ca : Nat) (k : Nat) (v3 v19 : Value) (w : World) : Prop :=
  ∃ (i : Nat) (ls : List Prob), v19 = .int .i64 i ∧ k = rs.length - i ∧ i ≤ rs.length ∧ CkSt w0 bq bm B st rs ga ca v3 ls w ∧ ls ++ probsFrom rs i (rs.drop i) = probsFrom rs 0 rs ∧ ls.length + Syn.bodies (rs.drop i) ≤ 900000
def TlRel (w0 : World) (bq bm B : Nat) (st : List UInt8) (rs : List (List UInt8 × Nod)) (ga : Option Addr) (ca bt g i : Nat) (ns : List (List UInt8)) (fin : List Prob) (most : Nat) (wt : World) (k : Nat) (v3 v42 : Value) (w : World) : Prop :=
  ∃ (j : Nat) (ls : List Prob) (told : List (List UInt8)) (m : Nat), v42 = .int .i64 j ∧ k = ns.length - j ∧ j ≤ ns.length ∧ CkSt w0 bq bm B st rs ga ca v3 ls w ∧ MapS w bt m (toldF told) ∧ m ≤ j ∧ ls ++ (Syn.newN (fun t => (firstAt rs 0 t).isSome) (ns.drop j) told).map (fun t => (⟨10, i, t⟩ : Prob)) = fin ∧ ls.length + (ns.length - j) + most ≤ 900000 ∧ Kp (fun q => B ≤ q ∧ q ≠ g) wt w ∧ ∀ q, v3.ownBlock = some q → q ≠ g
end Go.Proofs.Ytjaampgpihicmaa
/- Chapter 7 (symbols): Check of any grammar: the walk. -/
namespace Go.Proofs.Ytjaampgpihicmaa
open Go.RowKit
attribute [local go_sem ↓] Go.wp_at_zero Go.wp_at_succ
attribute [local go_sem] frozen_alloc_lt
open Syn (Nd Nod)

/-- From an earlier block on. -/
theorem OwnA.base {w : World} {B B' : Nat} {T : TypeId} {v : Value} {ls : List Prob} (h : OwnA ProbR 3 w B T v ls) (hb : B' ≤ B) : OwnA ProbR 3 w B' T v ls := by
  obtain ⟨xs, ⟨e1, e2⟩, e3⟩ := h
  refine ⟨xs, ⟨e1, ?_⟩, AllA.mapS (R' := ProbR) (fun a x (hx : x = _) => hx) e3⟩
  rcases e2 with e2 | ⟨g, cap, cur, f1, f2, f3⟩
  · exact .inl e2
  · exact .inr ⟨g, cap, cur, f1, by omega, f3⟩
theorem zero_int (w : World) : (zeroValue 3).run Try.prog w = .ok (.int .i64 0) w := by
  exact Try.zeroValue3 w
theorem zero_bool (w : World) : (zeroValue 4).run Try.prog w = .ok (.bool false) w := by
  exact Try.zeroValue4 w
theorem firstAt_some' : ∀ {rs : List (List UInt8 × Nod)} {i k : Nat} (h : i < rs.length), ∃ f, firstAt rs k (rs[i]).1 = some f
  | [], _, _, h => by simp at h
  | x :: r, i, k, h => by
    unfold firstAt
    by_cases e : ((x :: r)[i]).1 = x.1
    · exact ⟨k, if_pos e⟩
    · rw [if_neg e]
      cases i with
      | zero => exact absurd rfl e
      | succ i => exact firstAt_some' (rs := r) (i := i) (by simpa using h)
theorem firstAt_some {rs : List (List UInt8 × Nod)} {i : Nat} (h : i < rs.length) : ∃ f, firstAt rs 0 (rs[i]).1 = some f := firstAt_some' h
theorem nd_refs_short : ∀ {f : Nd}, f.short → ∀ t ∈ f.refs, t.length ≤ 1000000
  | .nil, _, t, h => by simp [Syn.Nd.refs] at h
  | .cons k u kids r, hs, t, h => by
    simp only [Syn.Nd.short] at hs
    unfold Syn.Nd.refs at h
    rw [List.mem_append] at h
    rcases h with h | h
    · split at h
      · simp at h
        subst h
        exact hs.1
      · exact nd_refs_short hs.2.1 t h
    · exact nd_refs_short hs.2.2 t h
theorem refs_short {n : Nod} (h : n.short) : ∀ t ∈ n.refs, t.length ≤ 1000000 := by
  intro t ht
  unfold Syn.Nod.refs at ht
  split at ht
  · simp at ht
    subst ht
    exact h.1
  · exact nd_refs_short h.2 t ht
set_option maxRecDepth 8000 in
set_option maxHeartbeats 8000000 in
theorem check_calls (w : World) (st : List UInt8) (rs : List (List UInt8 × Nod)) (ga : Option Addr) (ca : Nat) (hin : RulesIn w ga rs) (hl : rs.length ≤ 100000) (hst : st.length ≤ 1000000) (hnm : ∀ x ∈ rs, x.1.length ≤ 1000000) (hfit : ∀ x ∈ rs, x.2.fits 100000) (hsh : ∀ x ∈ rs, x.2.short) (hmost : Syn.bodies rs ≤ 900000) :
    Calls Try.prog 27 #[.agg #[.string ⟨st.toArray⟩, .slice ga rs.length ca]] w fun e w' => ∃ v, e = .returned v ∧ OwnA ProbR 3 w' w.heap.size 64 v (checkS st rs) ∧ Below w.heap.size w w' := by
  have hmm := @run_makeMap Try.prog
  obtain ⟨L, hL⟩ : ∃ L, L = rs.length := ⟨_, rfl⟩
  have HL := hid hL
  have Hin := hid hin
  have Hp := hid (And.intro (And.intro hst hnm) (And.intro hfit hsh))
  have Hmost := hid hmost
  have hbx := Bk.new w 25 [.string ⟨st.toArray⟩, .slice ga rs.length ca]
  have hbn := bel_new w (.cells #[.string ⟨st.toArray⟩, .slice ga rs.length ca] 25)
  have hfc := firsts_calls (w.alloc (.cells #[.string ⟨st.toArray⟩, .slice ga rs.length ca] 25)) st rs ga ca (hin.later hbn) hl hnm
  rw [← hL] at hbx hbn hfc hl ⊢
  have Hbx := hid hbx
  have Hbn := hid hbn
  clear hL hin hst hnm hfit hsh hmost hbx hbn
  go_enter Try.func27, Try.ntmps27
  go_upto_block 0 with (go_at_call 74; refine hfc.mono ?_; rintro e w1 ⟨bm, rfl, hbm, hm1, hb1⟩; have hq1 := Hbx.out.below hb1 Hbx.out.lt; have q1 := hq1.cell 1; simp only [List.getElem?_cons_zero, List.getElem?_cons_succ] at q1)
  have hbl := Hbx.out.lt
  have hml := hm1.lt
  have hsz1 := hb1.size
  have hbm' : w.heap.size + 1 ≤ bm := by simpa using hbm
  have hst0 : CkSt w w.heap.size bm w1.heap.size st rs ga ca (.slice none 0 0) [] w1 :=
    ⟨by rw [← HL.out]; exact hq1, by rw [← HL.out]; exact hm1, OwnA.nil _ _ _ _ _, bel_trans Hbn.out hb1, rfl, by omega, hml, by omega, by omega, Nat.le_refl _⟩
  obtain ⟨B, hB⟩ : ∃ B, B = w1.heap.size := ⟨_, rfl⟩
  obtain ⟨bq, hbq⟩ : ∃ bq, bq = w.heap.size := ⟨_, rfl⟩
  rw [← hB, ← hbq] at hst0
  rw [← hbq]
  have Hst0 := hid hst0
  have Hbq := hid hbq
  clear hst0 hB hbq hq1 q1 hm1 hb1 hbm hbm' hbl hml hsz1 Hbx hmm
  go_cut [3] (fun v3 wx => ∃ ls, ls = probsFrom rs 0 rs ∧ ls.length ≤ 900000 ∧ CkSt w bq bm B st rs ga ca v3 ls wx)
  case first =>
    go_wp2_with fail
    go_loopg [3, 19] L (fun k v3 v19 wr => CkRel w bq bm B st rs ga ca k v3 v19 wr)
    case atStart => exact ⟨0, [], rfl, by rw [HL.out]; rfl, Nat.zero_le _, Hst0.out, by simp, by simpa using Hmost.out⟩
    case round =>
      obtain ⟨i, ls, rfl, hk, hil, hs1, hall, hmost⟩ := hrel
      rcases Nat.lt_or_ge i rs.length with hlt | hge
      · have hltL : (i : Int) < (L : Int) := by have := HL.out; omega
        have hi0 : (0 : Int) ≤ (i : Int) := by omega
        obtain ⟨x, hxx⟩ : ∃ x, x = rs[i] := ⟨_, rfl⟩
        have hxm : x ∈ rs := by rw [hxx]; exact List.getElem_mem hlt
        obtain ⟨g1, o1, gk1, ck1, hga, hg1, a0, a1, a2, a3, hk1⟩ := Hin.out i x (by rw [hxx]; exact List.getElem?_eq_getElem hlt)
        have c0 := (hs1.bel.cell (p := ⟨g1, _, none⟩) hg1).trans a0
        have c1 := (hs1.bel.cell (p := ⟨g1, _, none⟩) hg1).trans a1
        have c2 := (hs1.bel.cell (p := ⟨g1, _, none⟩) hg1).trans a2
        have c3 := (hs1.bel.cell (p := ⟨g1, _, none⟩) hg1).trans a3
        have hl1 : g1 < wr.heap.size := Nat.lt_of_lt_of_le hg1 hs1.bel.size
        have hdrop : rs.drop i = x :: rs.drop (i + 1) := by rw [hxx]; exact List.drop_eq_getElem_cons hlt
        rw [hdrop] at hall hmost
        obtain ⟨kx, hkx⟩ : ∃ kx : Int, kx = x.2.kind := ⟨_, rfl⟩
        obtain ⟨tx, htx⟩ : ∃ tx, tx = x.2.text := ⟨_, rfl⟩
        obtain ⟨nx, hnx⟩ : ∃ nx, nx = x.1 := ⟨_, rfl⟩
        obtain ⟨Lx, hLx⟩ : ∃ Lx, Lx = x.2.kids.len := ⟨_, rfl⟩
        rw [← hkx] at c1
        rw [← htx] at c2
        rw [← hnx] at c0
        rw [← hLx] at c3
        have hs2 := hs1.later (bel_new wr (.cells #[.string ⟨nx.toArray⟩, .int .i64 kx, .string ⟨tx.toArray⟩, .slice gk1 Lx ck1] 51))
        have hbx := Bk.new wr 51 [.string ⟨nx.toArray⟩, .int .i64 kx, .string ⟨tx.toArray⟩, .slice gk1 Lx ck1]
        have hget := hs2.map.get nx (by rw [hnx]; have := Hp.out.1.2 x hxm; unfold maxLen; omega) 128 3 Try.underlying128 (zero_int _)
        have hfs : ∃ f : Nat, firstAt rs 0 nx = some f := by
          rw [hnx, hxx]
          exact firstAt_some hlt
        obtain ⟨f, hf⟩ := hfs
        have hfF : (firstF rs nx).getD (.int .i64 0) = .int .i64 (f : Int) := by unfold firstF; rw [hf]; rfl
        rw [hfF] at hget
        subst hga
        have HX := hid (And.intro (And.intro hkx htx) (And.intro hnx hLx))
        have Hxm := hid hxm
        have Hk := hid hk
        have Hall := hid hall
        have Hmo := hid hmost
        have Hf := hid hf
        have Hk1 := hid hk1
        have Hlt := hid hlt
        have hB6 := hs1.bb.2.2.2.2.2
        have hbxl := hbx.lt
        obtain ⟨wb, hwb⟩ : ∃ wb, wb = wr.alloc (.cells #[.string ⟨nx.toArray⟩, .int .i64 kx, .string ⟨tx.toArray⟩, .slice gk1 Lx ck1] 51) := ⟨_, rfl⟩
        obtain ⟨bx, hbx2⟩ : ∃ bx, bx = wr.heap.size := ⟨_, rfl⟩
        rw [← hwb] at hs2 hbx hget hbxl
        rw [← hbx2] at hbx hbxl
        have hBbx : B ≤ bx := by omega
        have Hs2 := hid hs2
        have Hbx := hid hbx
        have Hvb := hid (show ∀ q, u3.ownBlock = some q → q < bx from fun q e => by have := (hs1.own.lt q e).2; omega)
        have HWB := hid hwb
        have hkw : Below wr.heap.size wr wb := by rw [hwb]; exact bel_new _ _
        have Hkw := hid hkw
        clear hkw
        have Hbx2 := hid hbx2
        clear hkx htx hnx hLx hxx hxm hk hil hs1 hall hmost hf hfF a0 a1 a2 a3 hk1 hlt hdrop hs2 hbx hwb hbx2 hB6
        go_upto_region 6 with fail
        rw [← HWB.out, ← Hbx2.out]
        have x0 := Hbx.out.cell 0
        simp only [List.getElem?_cons_zero] at x0
        go_upto_if 29 with fail
        go_cut [3] (fun v3 wx => ∃ v2 ls2, v3 = v2 ∧ CkSt w bq bm B st rs (some ⟨g1, o1, none⟩) ca v2 ls2 wx ∧ ls2 = ls ++ (if firstAt rs 0 nx = some i then [] else [⟨9, i, nx⟩]) ∧ Bk wx bx 51 [.string ⟨nx.toArray⟩, .int .i64 kx, .string ⟨tx.toArray⟩, .slice gk1 Lx ck1])
        case first =>
          by_cases hfi : (f : Int) = (i : Int)
          · have hb : ((f : Int) != (i : Int)) = false := by simp [hfi]
            have e : firstAt rs 0 nx = some i := by rw [Hf.out]; congr 1; omega
            have He := hid e
            clear e hfi
            go_wp2_with fail
            go_meet
            exact ⟨_, ls, rfl, Hs2.out, by rw [if_pos He.out, List.append_nil], Hbx.out⟩
          · have hb : ((f : Int) != (i : Int)) = true := by simp [hfi]
            have e : ¬ firstAt rs 0 nx = some i := by rw [Hf.out]; intro e; injection e with e; omega
            have He := hid e
            obtain ⟨g2, cap2, w5, hrun, hs5, hk5, _⟩ := Hs2.out.app ⟨9, i, nx⟩ (by have := Hmo.out; simp only [Syn.bodies] at this; omega) 59 0 (N := wb.heap.size) rfl
            have Hs5 := hid hs5
            have Hk5 := hid hk5
            have Hrun := hid hrun
            clear e hfi hs5 hk5 hrun
            go_wp2_with (at_builtin; refine wpList_app rfl _ _ _ rfl u3 (.slice (some ⟨wb.heap.size, 0, none⟩) 1 1) _ w5 (by go_simp) (by go_simp) (by exact Hrun.out) ?_)
            go_meet
            exact ⟨_, _, rfl, Hs5.out, by rw [if_neg He.out], Hbx.out.kp Hk5.out (fun e => by have := Hvb.out bx e; omega)⟩
        case rest =>
          obtain ⟨v2, ls2, h3, hs3, hls2, hbx3⟩ := hcut
          subst h3
          have hmm := @run_makeMap Try.prog
          have hvl : ∀ q, u3.ownBlock = some q → q < wc.heap.size := fun q e => (hs3.own.lt q e).2
          have hbl3 := hbx3.lt
          have hB3 := hs3.bb.2.2.2.2.2
          have hs4 := hs3.later (bel_new wc (.map #[] 0))
          have hbx4 := hbx3.alloc (.map #[] 0)
          have hmt := MapS.made wc
          have hrc := refs_calls (wc.alloc (.map #[] 0)) x.2 gk1 ck1 (by
            have h1 : NdIn w gk1 x.2.kids 0 := Hk1.out
            exact h1.later hs4.bel) (Hp.out.2.1 x Hxm.out) (Hp.out.2.2 x Hxm.out) (by have := Hmo.out; simp only [Syn.bodies] at this; omega)
          have y1 := hbx4.cell 1
          have y2 := hbx4.cell 2
          have y3 := hbx4.cell 3
          simp only [List.getElem?_cons_zero, List.getElem?_cons_succ] at y1 y2 y3
          simp only [nodeV] at hrc
          rw [← HX.out.1.1, ← HX.out.1.2, ← HX.out.2.2] at hrc
          obtain ⟨M, hM⟩ : ∃ M, M = x.2.refs.length := ⟨_, rfl⟩
          have hMn : M ≤ x.2.kids.nodes + 1 := by
            rw [hM]
            unfold Syn.Nod.refs
            have := Nd.refs_len x.2.kids
            split <;> simp <;> omega
          obtain ⟨wd, hwd⟩ : ∃ wd, wd = wc.alloc (.map #[] 0) := ⟨_, rfl⟩
          obtain ⟨bt, hbt⟩ : ∃ bt, bt = wc.heap.size := ⟨_, rfl⟩
          have hwds : wd.heap.size = wc.heap.size + 1 := by rw [hwd]; simp
          rw [← hwd] at hs4 hmt hrc y1 y2 y3
          rw [← hbt] at hmt hvl hB3 hbl3 hwds
          have HWD := hid hwd
          have HBT := hid hbt
          have HM := hid hM
          have HMn := hid hMn
          have Hs4 := hid hs4
          have Hmt := hid hmt
          have Hvl := hid hvl
          have Hls2 := hid hls2
          have Hwds := hid hwds
          clear hs3 hbx3 hbx4 hs4 hmt hwd hbt hM hMn hvl hls2 hwds x0 hget Hs2 Hbx
          go_upto_region 9 with fail
          rw [← HWD.out, ← HBT.out]
          clear hmm
          obtain ⟨ns, hns⟩ : ∃ ns, ns = x.2.refs := ⟨_, rfl⟩
          rw [← hns] at hrc
          have hnsM : ns.length = M := by rw [hns, HM.out]
          have hnsl : ∀ t ∈ ns, t.length ≤ 1000000 := by rw [hns]; exact refs_short (Hp.out.2.2 x Hxm.out)
          have Hns := hid hns
          have HnsM := hid hnsM
          have Hnsl := hid hnsl
          clear hns hnsM hnsl
          go_upto_block 2 with (go_at_call 75; refine hrc.mono ?_; rintro e w2 ⟨rv, rfl, hown, hb2⟩; obtain ⟨gr, cr, hrv, hls⟩ := hown.lies StrR.fit; rw [HnsM.out] at hrv; subst hrv; clear hown)
          have hread : ∃ g, wd.heap.size ≤ g ∧ g ≤ w2.heap.size ∧ ∀ j t, ns[j]? = some t → gr = some ⟨g, 0, none⟩ ∧ g < w2.heap.size ∧ w2.cell? ⟨g, 0 + j * 1, none⟩ = some (.string ⟨t.toArray⟩) := by
            cases ns with
            | nil => exact ⟨w2.heap.size, hb2.size, Nat.le_refl _, fun j t h => by simp at h⟩
            | cons t0 r =>
              obtain ⟨g, xx, hg, hg1, hg2, _, _⟩ := hls 0 t0 rfl
              refine ⟨g, hg1, by omega, fun j t h => ?_⟩
              obtain ⟨g', x', hg', _, hg2', hx', hc'⟩ := hls j t h
              rw [hg] at hg'
              injection hg' with e
              injection e with e
              subst e
              refine ⟨hg, hg2', ?_⟩
              have := hc' 0 (.string ⟨t.toArray⟩) (by rw [hx']; rfl)
              simpa using this
          obtain ⟨g, hg1, hg2, hrd⟩ := hread
          have hs6 := Hs4.out.later hb2
          have hmt6 := (Hmt.out.kp (below_kp hb2) (fun e => e)).same (g := toldF []) (fun t => by simp [toldF])
          have hw2 := hb2.size
          obtain ⟨fin, hfin⟩ : ∃ fin, fin = ls2 ++ (Syn.newN (fun t => (firstAt rs 0 t).isSome) ns []).map (fun t => (⟨10, i, t⟩ : Prob)) := ⟨_, rfl⟩
          have Hrd := hid hrd
          have Hg := hid (And.intro hg1 hg2)
          have Hs6 := hid hs6
          have Hmt6 := hid hmt6
          have Hfin := hid hfin
          have Hw2 := hid hw2
          clear hrd hg1 hg2 hs6 hmt6 hfin hw2 hls hb2 y1 y2 y3 hrc
          obtain ⟨wo, hwo⟩ : ∃ wo : World, wo = wr := ⟨_, rfl⟩
          go_wp2_with fail
          go_loopg [3, 42] M (fun k v3 v42 wx => TlRel w bq bm B st rs (some ⟨g1, o1, none⟩) ca bt g i ns fin (Syn.bodies (rs.drop (i + 1))) w2 k v3 v42 wx)
          case atStart =>
            refine ⟨0, ls2, [], 0, rfl, by rw [HnsM.out]; rfl, Nat.zero_le _, Hs6.out, Hmt6.out, Nat.le_refl _, Hfin.out.symm, ?_, Kp.refl _ _, fun q e => by have := Hvl.out q e; have := Hg.out.1; have := Hwds.out; omega⟩
            have h1 := Hmo.out
            simp only [Syn.bodies] at h1
            have h2 := HMn.out
            have h3 : ls2.length ≤ ls.length + 1 := by rw [Hls2.out, List.length_append]; split <;> simp
            have h4 := HnsM.out
            omega
          case round =>
            obtain ⟨j, ls3, told, m, rfl, hk3, hj, hs8, hm8, hmj, hf8, hmo8, hkp8, hvg8⟩ := hrel
            rcases Nat.lt_or_ge j ns.length with hjl | hjge
            · have hjM : (j : Int) < (M : Int) := by have := HnsM.out; omega
              have hj0 : (0 : Int) ≤ (j : Int) := by omega
              have hMb : (M : Int) ≤ 1000000 := by have := HMn.out; have := Hmo.out; simp only [Syn.bodies] at this; omega
              obtain ⟨t, ht⟩ : ∃ t, t = ns[j] := ⟨_, rfl⟩
              obtain ⟨hgr, hgl, hct⟩ := Hrd.out j t (by rw [ht]; exact List.getElem?_eq_getElem hjl)
              have htl := Hnsl.out t (by rw [ht]; exact List.getElem_mem hjl)
              have hdr : ns.drop j = t :: ns.drop (j + 1) := by rw [ht]; exact List.drop_eq_getElem_cons hjl
              rw [hdr, Syn.newN] at hf8
              have hc8 := hkp8.cell hct (fun e => e.2 rfl)
              rw [Nat.zero_add, Nat.mul_one] at hc8
              have hgl8 : g < wr.heap.size := Nat.lt_of_lt_of_le hgl hkp8.size
              have hkl : t.length ≤ maxLen := by unfold maxLen; omega
              have hlook := hs8.map.look t hkl 128 3 Try.underlying128 (zero_int _)
              have hget := hm8.get t hkl 130 4 Try.underlying130 (zero_bool _)
              have hgt : (toldF told t).getD (.bool false) = .bool (told.contains t) := by
                unfold toldF
                cases told.contains t <;> rfl
              rw [hgt] at hget
              have hsm : (firstF rs t).isSome = (firstAt rs 0 t).isSome := by unfold firstF; cases firstAt rs 0 t <;> rfl
              rw [hsm] at hlook
              obtain ⟨fv, hfv⟩ : ∃ fv, fv = (firstF rs t).getD (.int .i64 0) := ⟨_, rfl⟩
              rw [← hfv] at hlook
              subst hgr
              have Hs8 := hid hs8
              have Hm8 := hid hm8
              have Hk3 := hid hk3
              have Hj := hid (And.intro hj hjl)
              have Hmj := hid hmj
              have Hf8 := hid hf8
              have Hmo8 := hid hmo8
              have Hkp8 := hid hkp8
              have Hvg8 := hid hvg8
              have hbt8 : B ≤ bt := hB3
              have Hkl := hid hkl
              clear hs8 hm8 hk3 hj hjl hmj hf8 hmo8 hkp8 hvg8 ht htl hdr hct hgl hgt hsm hfv hkl
              cases hfs : (firstAt rs 0 t).isSome with
              | true =>
                rw [hfs] at hlook
                have Hfs := hid hfs
                clear hfs
                go_wp2_with fail
                go_roundg (M - (j + 1))
                case measure => have := Hk3.out; have := Hj.out.2; have := HnsM.out; omega
                case rel =>
                  refine ⟨j + 1, ls3, told, m, by go_num, by rw [HnsM.out], Hj.out.2, Hs8.out, Hm8.out, by have := Hmj.out; omega, ?_, by have := Hmo8.out; have := Hj.out.2; omega, Hkp8.out, Hvg8.out⟩
                  have := Hf8.out
                  rw [Hfs.out, Bool.not_true, Bool.false_and, if_neg (by decide)] at this
                  exact this
              | false =>
                rw [hfs] at hlook
                have Hfs := hid hfs
                clear hfs
                cases htc : told.contains t with
                | true =>
                  rw [htc] at hget
                  have Htc := hid htc
                  clear htc
                  go_wp2_with fail
                  go_roundg (M - (j + 1))
                  case measure => have := Hk3.out; have := Hj.out.2; have := HnsM.out; omega
                  case rel =>
                    refine ⟨j + 1, ls3, told, m, by go_num, by rw [HnsM.out], Hj.out.2, Hs8.out, Hm8.out, by have := Hmj.out; omega, ?_, by have := Hmo8.out; have := Hj.out.2; omega, Hkp8.out, Hvg8.out⟩
                    have := Hf8.out
                    rw [Hfs.out, Htc.out, Bool.not_true, Bool.and_false, if_neg (by decide)] at this
                    exact this
                | false =>
                  rw [htc] at hget
                  have Htc := hid htc
                  clear htc
                  have hMl : M ≤ 1000000 := by have := HMn.out; have := Hmo.out; simp only [Syn.bodies] at this; omega
                  obtain ⟨w5, hput, hm5, hg5⟩ := Hm8.out.put t (.bool true) Hkl.out (by have := Hmj.out; have := Hj.out.2; have := HnsM.out; unfold maxLen; omega) 130 4 Try.underlying130
                  have hk5 := gb_kp hg5
                  have hne5 : ∀ q, u3.ownBlock = some q → ¬ q = bt := fun q e e2 => by
                    obtain ⟨xs, h1, _⟩ := Hs8.out.own
                    subst e2
                    exact own_ne_map h1 Hm8.out e
                  have hs9 := Hs8.out.kp hk5 (fun q e => by omega) hne5
                  obtain ⟨g2', cap2, w6, hrun, hs10, hk6, hnew⟩ := hs9.app ⟨10, i, t⟩ (by have := Hmo8.out; omega) 59 0 (N := w5.heap.size) rfl
                  have hm6 : MapS w6 bt (m + 1) (toldF (t :: told)) := by
                    refine (hm5.kp hk6 (fun e => hne5 bt e rfl)).same fun z => ?_
                    unfold toldF
                    rw [List.contains_cons]
                    by_cases e : z = t
                    · simp [e]
                    · simp [e]
                  have hkp9 : Kp (fun q => B ≤ q ∧ q ≠ g) w2 w6 := by
                    refine (Hkp8.out.trans (hk5.mono fun q _ e => ?_)).trans (hk6.mono fun q _ e => ⟨(hs9.own.lt q e).1, Hvg8.out q e⟩)
                    subst e
                    exact ⟨hbt8, by have := Hg.out.1; have := Hwds.out; omega⟩
                  have hvg9 : ∀ q, (Value.slice (some ⟨g2', 0, none⟩) (ls3.length + 1) cap2).ownBlock = some q → q ≠ g := fun q e => by
                    have e : g2' = q := by simpa [Value.ownBlock] using e
                    subst e
                    rcases hnew with h | h
                    · exact Hvg8.out _ h
                    · have := hk5.size
                      omega
                  have Hs10 := hid hs10
                  have Hrun := hid hrun
                  have Hm6 := hid hm6
                  have Hkp9 := hid hkp9
                  have Hvg9 := hid hvg9
                  clear hs9 hs10 hk6 hnew hrun hm5 hg5 hm6 hkp9 hvg9 hne5 hk5 hMl
                  go_wp2_with (at_builtin; refine wpList_app rfl _ _ _ rfl u3 (.slice (some ⟨w5.heap.size, 0, none⟩) 1 1) _ w6 (by go_simp) (by go_simp) (by exact Hrun.out) ?_)
                  go_roundg (M - (j + 1))
                  case measure => have := Hk3.out; have := Hj.out.2; have := HnsM.out; omega
                  case rel =>
                    refine ⟨j + 1, ls3 ++ [⟨10, i, t⟩], t :: told, m + 1, by go_num, by rw [HnsM.out], Hj.out.2, Hs10.out, Hm6.out, by have := Hmj.out; omega, ?_, by have := Hmo8.out; have := Hj.out.2; simp; omega, Hkp9.out, Hvg9.out⟩
                    have := Hf8.out
                    rw [Hfs.out, Htc.out, if_pos (by decide), List.map_cons] at this
                    rw [← this]
                    simp
            · have hjM : ¬ (j : Int) < (M : Int) := by have := HnsM.out; omega
              rw [List.drop_eq_nil_of_le hjge] at hf8
              have hfe : ls3 = fin := by simpa [Syn.newN] using hf8
              subst hfe
              have Hs7 := hid hs8
              have Hm7 := hid hmo8
              clear hs8 hm8 hk3 hj hjge hmj hf8 hmo8 hkp8 hvg8
              go_wp2_with fail
              go_roundg (L - (i + 1))
              case measure => have := Hk.out; have := HL.out; have := Hlt.out; omega
              case rel =>
                refine ⟨i + 1, ls3, by go_num, by rw [HL.out], Hlt.out, Hs7.out, ?_, by have := Hm7.out; omega⟩
                have h1 := Hall.out
                rw [Hfin.out, Hls2.out, HX.out.2.1, Hns.out, ← h1]
                simp only [probsFrom, probsOf, List.append_assoc]
      · have hgeL : ¬ (i : Int) < (L : Int) := by have := HL.out; omega
        have hie : i = rs.length := by omega
        rw [hie, List.drop_length] at hall hmost
        have Hs1 := hid hs1
        have Hall := hid hall
        have Hmo := hid hmost
        clear hs1 hall hmost hk hil hge hie
        go_wp2_with fail
        go_meet
        exact ⟨ls, by simpa [probsFrom] using Hall.out, by have := Hmo.out; simp [Syn.bodies] at this; omega, Hs1.out⟩
  case rest =>
    obtain ⟨ls, hls, hlen, hs1⟩ := hcut
    have q0 := hs1.arg.cell 0
    simp only [List.getElem?_cons_zero] at q0
    have hlq := hs1.arg.lt
    have hlook := hs1.map.look st (by have := Hp.out.1.1; unfold maxLen; omega) 128 3 Try.underlying128 (zero_int _)
    have hsm : (firstF rs st).isSome = (firstAt rs 0 st).isSome := by unfold firstF; cases firstAt rs 0 st <;> rfl
    rw [hsm] at hlook
    obtain ⟨fv, hfv⟩ : ∃ fv, fv = (firstF rs st).getD (.int .i64 0) := ⟨_, rfl⟩
    rw [← hfv] at hlook
    have Hs1 := hid hs1
    have Hls := hid hls
    have Hbe := hid (show w.heap.size ≤ B from by have := hs1.bb; have := Hbq.out; omega)
    clear hs1 hls hsm hfv
    cases hfs : (firstAt rs 0 st).isSome with
    | true =>
      rw [hfs] at hlook
      have Hfs := hid hfs
      clear hfs
      go_wp2_with fail
      go_ret
      refine ⟨_, rfl, ?_, Hs1.out.bel⟩
      have h1 := (Hs1.out.own).base Hbe.out
      unfold checkS
      rw [Hfs.out, if_pos rfl, List.append_nil, ← Hls.out]
      exact h1
    | false =>
      rw [hfs] at hlook
      obtain ⟨g2, cap2, w5, hrun, hs5, hk5, _⟩ := Hs1.out.app ⟨19, -1, st⟩ (by omega) 59 0 (N := wc.heap.size) rfl
      have Hfs := hid hfs
      have Hs5 := hid hs5
      have Hrun := hid hrun
      clear hfs hs5 hk5 hrun
      go_wp2_with (at_builtin; refine wpList_app rfl _ _ _ rfl u3 (.slice (some ⟨wc.heap.size, 0, none⟩) 1 1) _ w5 (by go_simp) (by go_simp) (by exact Hrun.out) ?_)
      go_ret
      refine ⟨_, rfl, ?_, Hs5.out.bel⟩
      have h1 := (Hs5.out.own).base Hbe.out
      unfold checkS
      rw [Hfs.out, if_neg (by decide), ← Hls.out]
      exact h1
end Go.Proofs.Ytjaampgpihicmaa
