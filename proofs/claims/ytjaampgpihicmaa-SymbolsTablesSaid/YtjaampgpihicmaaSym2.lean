/- Chapter 7 (symbols): the copy of a text; the names that a node has (syntax.Refs). -/
import Derived.Test.YtjaampgpihicmaaSyn16
import Derived.Lib.Strings
import Derived.Lib.Walk
import Derived.Lib.BufferWrite
import Derived.Lib.UnsafeStr
import Derived.Laws.MakeOwn
import Derived.Test.YtjaampgpihicmaaSyn18
namespace Go.Proofs.Ytjaampgpihicmaa.Syn
/-- The names that nodes have, in order. -/
def Nd.refs : Nd → List (List UInt8)
  | .nil => []
  | .cons k t kids r => (if k = 1 then [t] else kids.refs) ++ r.refs
def Nod.refs (n : Nod) : List (List UInt8) := if n.kind = 1 then [n.text] else n.kids.refs
end Go.Proofs.Ytjaampgpihicmaa.Syn
namespace Go.Proofs.Ytjaampgpihicmaa
open Go.RowKit
attribute [local go_sem ↓] Go.wp_at_zero Go.wp_at_succ
attribute [local go_sem] frozen_alloc_lt
open Syn (Nd Nod)

set_option maxHeartbeats 4000000 in
set_option maxRecDepth 100000 in
/-- The copy of a text is the text. -/
theorem slClone_calls (s : ByteArray) (w : World) (hlim : s.size ≤ 281474976710656) : Calls Try.prog 135 #[.string s] w fun e w' => e = .returned (.string s) ∧ Below w.heap.size w w' := by
  by_cases h0 : s.size = 0
  · have hs : s = ⟨#[]⟩ := by
      apply ByteArray.ext
      exact Array.eq_empty_of_size_eq_zero h0
    subst hs
    go_enter Try.func135, Try.ntmps135
    go_wp2
    go_ret
    exact ⟨rfl, Below.refl _ _⟩
  · have hib : (Try.prog.info? 5).map (fun i => (i.zero, i.size, i.bytes)) = some (some (.int .u8 0), 1, 1) := by kernel_rfl
    obtain ⟨i0, hi, hz0, hz1, hz2⟩ := info_parts hib
    have hinfo : (Try.prog.info? 5).map (·.size) = some 1 := by rw [hi]; simp [hz1]
    have hco : Try.prog.cellsOf 5 = 1 := by simp [Program.cellsOf, hi, hz1]
    obtain ⟨M, hM⟩ : ∃ M, M = madeCells (Value.int .u8 0).cells (((s.size : Nat) : Int).toNat * i0.size) := ⟨_, rfl⟩
    have hMs : M.size = s.size := by rw [hM, size_madeCells, hz1]; simp
    have hmk : ∀ W : World, (Instr.makeSlice 54 (.int .i64 (s.size : Int)) (.int .i64 (s.size : Int))).run Try.prog W = .ok (.slice (some ⟨W.heap.size, 0, none⟩) s.size s.size) (W.alloc (.cells M 5)) := fun W => by
      have h := run_make (P := Try.prog) W 54 5 i0 (.int .u8 0) Try.underlying54 hi hz0 .i64 .i64 (s.size : Int) (s.size : Int) (by omega) (by omega) (by rw [hz2]; omega) (by omega)
      rw [← hM] at h
      simpa using h
    clear hM
    have hcp := Lib.run_copy_row_string (P := Try.prog) (w.alloc (.cells M 5)) 54 9 3 5 w.heap.size 0 s.size s.size s M 5 Try.underlying54 hinfo (heap_alloc_new w _) (Nat.le_refl _) (by omega)
    obtain ⟨Y, hY⟩ : ∃ Y, Y = (M.toList.take 0 ++ Lib.byteCells s.data.toList ++ M.toList.drop (0 + s.size)).toArray := ⟨_, rfl⟩
    rw [← hY] at hcp
    have hYl : Y.toList = Lib.byteCells s.data.toList := by
      rw [hY, List.toList_toArray, List.take_zero, List.nil_append, List.drop_of_length_le (by rw [Array.length_toList]; omega), List.append_nil]
    have hYs : Y.size = s.size := by rw [← Array.length_toList, hYl, Lib.byteCells_length, ← Lib.size_eq]
    have hgY : ((w.alloc (.cells M 5)).setRow w.heap.size Y).heap[w.heap.size]? = some (.cells Y 5 (0, 0)) := setRow_heap _ _ M _ 5 (0, 0) (heap_alloc_new w _)
    have hne : s.data.toList ≠ [] := fun e => h0 (by rw [Lib.size_eq, e]; rfl)
    have hUS := Lib.run_unsafeString_row (P := Try.prog) ((w.alloc (.cells M 5)).setRow w.heap.size Y) 172 3 9 5 Try.underlying172 hco w.heap.size Y.size (by unfold World.shape?; rw [hgY]) s.data.toList hne (by rw [← Lib.size_eq]; omega) (by rw [← Lib.size_eq]; omega)
      (fun j x hx => Lib.cells_of_row hgY Y.size j _ (by rw [List.take_of_length_le (by rw [Array.length_toList]; exact Nat.le_refl _), hYl]; simp [Lib.byteCells, hx]))
    rw [← Lib.size_eq] at hUS
    clear hY
    go_enter Try.func135, Try.ntmps135
    go_wp2
    go_ret
    have hb1 : Below w.heap.size w (w.alloc (.cells M 5)) := (Below.refl _ w).alloc (Nat.le_refl _) _
    have hb2 : Below w.heap.size (w.alloc (.cells M 5)) ((w.alloc (.cells M 5)).setRow w.heap.size Y) := ⟨rfl, rfl, rfl, by simp, fun k hk => setRow_other _ _ _ _ (by omega)⟩
    exact ⟨rfl, Lib.below_freeze (hb1.trans hb2) (p := ⟨w.heap.size, 0, none⟩) (Nat.le_refl _) _⟩
theorem clone_calls (s : ByteArray) (w : World) (hlim : s.size ≤ 281474976710656) : Calls Try.prog 116 #[.string s] w fun e w' => e = .returned (.string s) ∧ Below w.heap.size w w' := by
  go_enter Try.func116, Try.ntmps116
  go_wp2_with (go_at_call 135; refine (slClone_calls s _ hlim).mono ?_; rintro e w2 ⟨rfl, hb2⟩)
  go_ret
  exact ⟨rfl, hb2⟩
/-- A text's one cell. -/
def StrR (_ : World) (_ : Nat → Prop) (s : List UInt8) (x : List Value) : Prop := x = [.string ⟨s.toArray⟩]
theorem StrR.fit : FitA StrR 1 where
  len := by rintro w D a x rfl; rfl
  mono := fun _ h => h
  kp := fun _ _ h => h
  one := by
    rintro w D a x rfl u hu
    simp at hu
    subst hu
    rfl
theorem strInfoA : (Try.prog.info? 9).map (fun i => (i.zero, i.size, i.bytes)) = some (some (.string ⟨#[]⟩), 1, 16) := by kernel_rfl
/-- The list that is being gathered, in a cell of block bo. -/
structure Gat (w0 : World) (bo : Nat) (B : Nat) (v : Value) (ls : List (List UInt8)) (w : World) : Prop where
  box : Bk w bo 71 [v]
  own : OwnA StrR 1 w B 9 v ls
  lt : bo < B
  kp : Kp (fun k => k = bo ∨ B ≤ k) w0 w
  le : B ≤ w.heap.size
theorem Gat.later {w0 : World} {bo B : Nat} {v : Value} {ls : List (List UInt8)} {w w' : World} (h : Gat w0 bo B v ls w) (hb : Below w.heap.size w w') : Gat w0 bo B v ls w' :=
  ⟨h.box.below hb h.box.lt, h.own.later StrR.fit hb, h.lt, h.kp.trans ((below_kp hb).mono fun _ _ e => e.elim), Nat.le_trans h.le hb.size⟩
theorem Gat.app {w0 : World} {bo B : Nat} {v : Value} {ls : List (List UInt8)} {w : World} (h : Gat w0 bo B v ls w) (s : List UInt8) (hl : ls.length ≤ 1000000) (ty : TypeId) (q : Nat) {N : Nat} (hN : w.heap.size = N) :
    ∃ g2 cap2 w5, (Builtin.append_ #[71, 71] ty #[v, .slice (some ⟨N, 0, none⟩) 1 1]).run Try.prog ((w.alloc (.cells #[.string ⟨s.toArray⟩] 9)).drewN q) = .ok (.slice (some ⟨g2, 0, none⟩) (ls.length + 1) cap2) w5 ∧
      (w5.cell? ⟨bo, 0, none⟩ = some v ∧ w5.frozen? ⟨bo, 0, none⟩ = false ∧ bo < w5.heap.size) ∧
      Gat w0 bo B (.slice (some ⟨g2, 0, none⟩) (ls.length + 1) cap2) (ls ++ [s]) (w5.setCell ⟨bo, 0, none⟩ (.slice (some ⟨g2, 0, none⟩) (ls.length + 1) cap2)) := by
  subst hN
  obtain ⟨i0, hi0, y0, y1, y2⟩ := info_parts strInfoA
  obtain ⟨g2, cap2, w5, hrun, h2, h3, h4, h5⟩ := h.own.app (P := Try.prog) StrR.fit 71 ty i0 _ 16 Try.underlying71 hi0 y0 y1 y2 rfl (by omega) (by omega) h.le hl s [.string ⟨s.toArray⟩] rfl q
  have hlt := h.lt
  have hs : ∀ k, v.ownBlock = some k → B ≤ k := fun k hk => (h.own.lt k hk).1
  have hb5 := h.box.kp h3 (fun e => by have := hs _ e; omega)
  have c0 := hb5.cell 0
  have f0 := hb5.free 0
  simp only [List.getElem?_cons_zero] at c0
  have hkn : Kp (fun k => k = bo) w5 (w5.setCell ⟨bo, 0, none⟩ (.slice (some ⟨g2, 0, none⟩) (ls.length + 1) cap2)) := (Kp.refl (fun k => k = bo) w5).set (p := ⟨bo, 0, none⟩) (.inl rfl) _
  refine ⟨g2, cap2, w5, hrun, ⟨c0, f0, hb5.lt⟩, hb5.set 0 _, h2.kp StrR.fit hkn (fun k h1 _ e => by omega), hlt, ?_, ?_⟩
  · exact (h.kp.trans (h3.mono fun k _ e => .inr (hs k e))).trans (hkn.mono fun k _ e => .inl e)
  · have := h3.size
    have := h.le
    have e : (w5.setCell ⟨bo, 0, none⟩ (.slice (some ⟨g2, 0, none⟩) (ls.length + 1) cap2)).heap.size = w5.heap.size := by simp [World.setCell]
    omega
set_option maxRecDepth 8000 in
set_option maxHeartbeats 4000000 in
/-- What Refs hands to the walk of a node: a text more. -/
theorem push_calls {w0 w : World} {bo B : Nat} {v : Value} {ls : List (List UInt8)} (h : Gat w0 bo B v ls w) (s : List UInt8) (hs : s.length ≤ 1000000) (hl : ls.length ≤ 1000000) :
    Calls Try.prog 115 #[.string ⟨s.toArray⟩, .pointer (some ⟨bo, 0, none⟩)] w fun e w' => e = .returned (.bool true) ∧ ∃ v', Gat w0 bo B v' (ls ++ [s]) w' := by
  have hd := (Below.refl w.heap.size w).drew
  have hc := clone_calls ⟨s.toArray⟩ w.drew (by show s.toArray.size ≤ _; simp; omega)
  have hcall : Calls Try.prog 116 #[.string ⟨s.toArray⟩] w.drew fun e w3 => e = .returned (.string ⟨s.toArray⟩) ∧ w3.cell? ⟨bo, 0, none⟩ = some v ∧ bo < w3.heap.size ∧
      ∃ g2 cap2 w5, (Builtin.append_ #[71, 71] 71 #[v, .slice (some ⟨w3.heap.size, 0, none⟩) 1 1]).run Try.prog ((w3.alloc (.cells #[.string ⟨s.toArray⟩] 9)).drewN 0) = .ok (.slice (some ⟨g2, 0, none⟩) (ls.length + 1) cap2) w5 ∧
      w5.cell? ⟨bo, 0, none⟩ = some v ∧ w5.frozen? ⟨bo, 0, none⟩ = false ∧ bo < w5.heap.size ∧ Gat w0 bo B (.slice (some ⟨g2, 0, none⟩) (ls.length + 1) cap2) (ls ++ [s]) (w5.setCell ⟨bo, 0, none⟩ (.slice (some ⟨g2, 0, none⟩) (ls.length + 1) cap2)) := by
    refine hc.mono ?_
    rintro e w3 ⟨rfl, hb3⟩
    have h3 := h.later (hd.trans hb3)
    obtain ⟨g2, cap2, w5, hrun, ⟨m0, mf, ml⟩, h6⟩ := h3.app s hl 71 0 (N := w3.heap.size) rfl
    have c0 := h3.box.cell 0
    simp only [List.getElem?_cons_zero] at c0
    exact ⟨rfl, c0, h3.box.lt, g2, cap2, w5, hrun, m0, mf, ml, h6⟩
  have c0 := h.box.cell 0
  simp only [List.getElem?_cons_zero] at c0
  have hlb := h.box.lt
  clear h hc hd
  go_enter Try.func115, Try.ntmps115
  go_upto_region 1 with fail
  go_region_law
    (first
      | (have hrun0 := hrun; refine step_app (by rfl) _ _ _ (by rfl) v (.slice (some ⟨w3.heap.size, 0, none⟩) 1 1) _ w5 (by go_simp) (by go_simp) (by exact hrun) ?_)
      | (go_simp; go_at_call 116; refine hcall.mono ?_; rintro e w3 ⟨rfl, n3, hln3, g2, cap2, w5, hrun, m0, mf, ml, h6⟩; have H6 := hid h6; clear h6))
  all_goals
    go_wp2_with fail
    go_ret
    exact ⟨rfl, _, H6.out⟩
end Go.Proofs.Ytjaampgpihicmaa
/- Chapter 7 (symbols): syntax.Refs of any node. -/
namespace Go.Proofs.Ytjaampgpihicmaa.Syn
theorem Nd.refs_len : ∀ f : Nd, f.refs.length ≤ f.nodes
  | .nil => Nat.le_refl _
  | .cons k t kids r => by
    have h1 := Nd.refs_len kids
    have h2 := Nd.refs_len r
    unfold Nd.refs Nd.nodes
    rw [List.length_append]
    split <;> simp <;> omega
end Go.Proofs.Ytjaampgpihicmaa.Syn
namespace Go.Proofs.Ytjaampgpihicmaa
open Go.RowKit
attribute [local go_sem ↓] Go.wp_at_zero Go.wp_at_succ
attribute [local go_sem] frozen_alloc_lt
open Syn (Nd Nod)

theorem AllA.mapS {α : Type} {R R' : World → (Nat → Prop) → α → List Value → Prop} {w w' : World} {D D' : Nat → Prop} (h : ∀ a x, R w D a x → R' w' D' a x) : ∀ {ls : List α} {xs : List (List Value)}, AllA R w D ls xs → AllA R' w' D' ls xs
  | [], _, e => e
  | _ :: _, _, ⟨x, ys, e, h1, h2⟩ => ⟨x, ys, e, h _ _ h1, AllA.mapS h h2⟩
def RefsSays (m : Nat) : Prop := ∀ (w0 w : World) (bo B : Nat) (v : Value) (ls : List (List UInt8)) (n : Nod) (ga : Option Addr) (ca : Nat), n.kids.nodes = m → NdAt w0 (fun k => k < bo ∧ k < w0.heap.size) ga n.kids 0 → n.fits 100000 → n.short → ls.length + n.kids.nodes + 1 ≤ 1000000 → Gat w0 bo B v ls w →
  Calls Try.prog 114 #[nodeV n ga ca, .func (.func 115) #[] #[.pointer (some ⟨bo, 0, none⟩)]] w fun e w' => e = .returned (.bool true) ∧ ∃ v', Gat w0 bo B v' (ls ++ n.refs) w'
def RfRel (w0 : World) (bo B : Nat) (ga : Option Addr) (L : Nat) (all : List (List UInt8)) (N : Nat) (_wa : World) (k : Nat) (v17 : Value) (w : World) : Prop :=
  ∃ (i : Nat) (r : Nd) (v : Value) (ls : List (List UInt8)), v17 = .int .i64 i ∧ i + r.len = L ∧ NdAt w0 (fun k => k < bo ∧ k < w0.heap.size) ga r i ∧ r.fits 100000 ∧ r.short ∧ Gat w0 bo B v ls w ∧ ls ++ r.refs = all ∧ ls.length + r.nodes + 1 ≤ 1000000 ∧ r.nodes ≤ N ∧ k = r.len
theorem Gat.nodes {w0 : World} {bo B : Nat} {v : Value} {ls : List (List UInt8)} {w : World} (h : Gat w0 bo B v ls w) {f : Nd} {ga : Option Addr} {i : Nat} (hn : NdAt w0 (fun k => k < bo ∧ k < w0.heap.size) ga f i) : NdAt w (fun k => k < bo ∧ k < w0.heap.size) ga f i :=
  hn.kp h.kp (fun k hk e => by have := h.lt; omega)
set_option maxRecDepth 8000 in
set_option maxHeartbeats 4000000 in
theorem refs_step (m : Nat) (ih : ∀ m', m' < m → RefsSays m') : RefsSays m := by
  intro w0 w bo B v ls n ga ca hm hin hfit hsh hlen h
  obtain ⟨kn, hkn⟩ : ∃ kn : Int, kn = n.kind := ⟨_, rfl⟩
  obtain ⟨L, hL⟩ : ∃ L, L = n.kids.len := ⟨_, rfl⟩
  simp only [nodeV, ← hkn, ← hL]
  have hbx := Bk.new w 49 [.int .i64 kn, .string ⟨n.text.toArray⟩, .slice ga L ca]
  have hg := h.later (bel_new w (.cells #[.int .i64 kn, .string ⟨n.text.toArray⟩, .slice ga L ca] 49))
  by_cases h1 : n.kind = 1
  · have hp := push_calls hg n.text hsh.1 (by omega)
    have e : n.refs = [n.text] := by unfold Syn.Nod.refs; rw [if_pos h1]
    rw [e]
    have hk1 : kn = 1 := by omega
    subst hk1
    clear hkn hL h hbx hg e h1 hm hin hfit hsh hlen ih
    go_enter Try.func114, Try.ntmps114
    go_wp2_with (go_at_call 115; refine hp.mono ?_; rintro e w2 ⟨rfl, v', hg2⟩; have Hg2 := hid hg2; clear hg2)
    go_ret
    exact ⟨rfl, v', Hg2.out⟩
  · have e : n.refs = n.kids.refs := by unfold Syn.Nod.refs; rw [if_neg h1]
    rw [e]
    have hk1 : ¬ kn = 1 := by omega
    have hkb : (kn == 1) = false := by simpa using hk1
    have hL1 : L ≤ 100000 := by have := hfit.1; omega
    obtain ⟨wa, hwa⟩ : ∃ wa, wa = w.alloc (.cells #[.int .i64 kn, .string ⟨n.text.toArray⟩, .slice ga L ca] 49) := ⟨_, rfl⟩
    obtain ⟨all, hall⟩ : ∃ all, all = ls ++ n.kids.refs := ⟨_, rfl⟩
    rw [← hall]
    rw [← hwa] at hg
    have HW := hid hwa
    have Hall := hid hall
    have Hg := hid hg
    have Hin := hid hin
    have Hfit := hid (And.intro hfit.2 hsh.2)
    have Hlen := hid hlen
    have Hm := hid hm
    have Hih := hid ih
    have HL := hid hL
    clear hkn hL h hbx hg e h1 hm hin hfit hsh hlen ih hwa hall
    go_enter Try.func114, Try.ntmps114
    go_upto_block 0 with fail
    rw [← HW.out]
    go_wp2_with fail
    go_loopg [17] L (fun k v17 wr => RfRel w0 bo B ga L all n.kids.nodes wa k v17 wr)
    case atStart => exact ⟨0, n.kids, v, ls, rfl, by rw [HL.out]; omega, Hin.out, Hfit.out.1, Hfit.out.2, Hg.out, Hall.out.symm, Hlen.out, Nat.le_refl _, HL.out⟩
    case round =>
      obtain ⟨i, r, v1, ls1, rfl, hi, hn, hf, hsh, hg1, hall1, hlen1, hnd, hk⟩ := hrel
      have Hk := hid hk
      have Hi := hid hi
      have Hg1 := hid hg1
      clear hk hi hg1
      cases r with
      | nil =>
        have hge : ¬ (i : Int) < (L : Int) := by have h1 := Hi.out; simp only [Nd.len] at h1; omega
        have e : ls1 = all := by simpa [Syn.Nd.refs] using hall1
        have He := hid e
        clear hall1 e hn hf hsh hlen1 hnd
        go_wp2_with fail
        go_ret
        exact ⟨rfl, v1, He.out ▸ Hg1.out⟩
      | cons a t kids r1 =>
        have hlt : (i : Int) < (L : Int) := by have h1 := Hi.out; simp only [Nd.len] at h1; omega
        have hi0 : (0 : Int) ≤ (i : Int) := by omega
        have hn' := Hg1.out.nodes hn
        unfold NdAt at hn hn'
        obtain ⟨⟨g1, o1, gm, cm, hga, hg1, a0, a1, a2, hk1⟩, hr1⟩ := hn'
        obtain ⟨⟨g1', o1', gm', cm', hga', -, -, -, a2', hk1'⟩, hr1'⟩ := hn
        simp only [Nd.nodes] at hnd hlen1
        simp only [Syn.Nd.fits] at hf
        simp only [Syn.Nd.short] at hsh
        have hgl : g1 < wr.heap.size := by have := Hg1.out.lt; have := Hg1.out.le; omega
        rw [hga] at hga'
        injection hga' with hga'
        injection hga' with e1 e2
        subst e1 e2
        have a2w := Hg1.out.kp.cell a2' (fun e => by have := Hg1.out.lt; omega)
        rw [a2] at a2w
        injection a2w with a2w
        injection a2w with e3 e4 e5
        subst e3 e5
        have hpc := Hih.out kids.nodes (by have := Hm.out; omega) w0 (wr.alloc (.cells #[.int .i64 a, .string ⟨t.toArray⟩, .slice gm kids.len cm] 49)) bo B v1 ls1 ⟨a, t, kids⟩ gm cm rfl hk1' ⟨hf.1, hf.2.1⟩ ⟨hsh.1, hsh.2.1⟩ (by show ls1.length + kids.nodes + 1 ≤ 1000000; omega) (Hg1.out.later (bel_new _ _))
        simp only [nodeV] at hpc
        have hall2 : (ls1 ++ Nod.refs ⟨a, t, kids⟩) ++ r1.refs = all := by
          rw [← hall1]
          unfold Syn.Nod.refs
          rw [Syn.Nd.refs, List.append_assoc]
        have hlen2 : (ls1 ++ Nod.refs ⟨a, t, kids⟩).length + r1.nodes + 1 ≤ 1000000 := by
          have h1 : (Nod.refs ⟨a, t, kids⟩).length ≤ 1 + kids.nodes := by
            unfold Syn.Nod.refs
            have := Nd.refs_len kids
            split <;> simp <;> omega
          rw [List.length_append]
          omega
        have Hr := hid (And.intro hr1' (And.intro hf.2.2 hsh.2.2))
        have Hall2 := hid (And.intro hall2 hlen2)
        have hnd2 : r1.nodes ≤ n.kids.nodes := by omega
        have Hnd2 := hid hnd2
        subst hga
        clear hall1 hall2 hlen1 hlen2 hnd hnd2 hf hsh hr1 hr1' hk1 hk1' a2'
        go_wp2_with (go_at_call 114; refine hpc.mono ?_; rintro e w2 ⟨rfl, v', hg2⟩; have Hg2 := hid hg2; clear hg2)
        go_roundg r1.len
        case measure => have := Hk.out; simp only [Nd.len] at this; omega
        case rel => exact ⟨i + 1, r1, v', _, by go_num, by have := Hi.out; simp only [Nd.len] at this; omega, Hr.out.1, Hr.out.2.1, Hr.out.2.2, Hg2.out, Hall2.out.1, Hall2.out.2, Hnd2.out, rfl⟩
theorem refs_all (m : Nat) : RefsSays m := by
  induction m using Nat.strongRecOn with
  | ind m ih => exact refs_step m ih
set_option maxRecDepth 8000 in
set_option maxHeartbeats 4000000 in
/-- The names of a node. -/
theorem refs_calls (w : World) (n : Nod) (ga : Option Addr) (ca : Nat) (hin : NdIn w ga n.kids 0) (hfit : n.fits 100000) (hsh : n.short) (hlen : n.kids.nodes + 1 ≤ 1000000) :
    Calls Try.prog 75 #[nodeV n ga ca] w fun e w' => ∃ v, e = .returned v ∧ OwnA StrR 1 w' w.heap.size 9 v n.refs ∧ Below w.heap.size w w' := by
  obtain ⟨kn, hkn⟩ : ∃ kn : Int, kn = n.kind := ⟨_, rfl⟩
  obtain ⟨L, hL⟩ : ∃ L, L = n.kids.len := ⟨_, rfl⟩
  have hb0 := bel_trans (bel_new w (.cells #[.int .i64 kn, .string ⟨n.text.toArray⟩, .slice ga L ca] 49)) (bel_new _ (.cells #[.slice none 0 0] 71))
  have k0 := (Bk.new w 49 [.int .i64 kn, .string ⟨n.text.toArray⟩, .slice ga L ca]).alloc (.cells #[.slice none 0 0] 71)
  have k1 := Bk.new (w.alloc (.cells #[.int .i64 kn, .string ⟨n.text.toArray⟩, .slice ga L ca] 49)) 71 [.slice none 0 0]
  rw [show (w.alloc (.cells #[.int .i64 kn, .string ⟨n.text.toArray⟩, .slice ga L ca] 49)).heap.size = w.heap.size + 1 by simp] at k1
  obtain ⟨wa, hwa⟩ : ∃ wa, wa = (w.alloc (.cells #[.int .i64 kn, .string ⟨n.text.toArray⟩, .slice ga L ca] 49)).alloc (.cells #[.slice none 0 0] 71) := ⟨_, rfl⟩
  have hwas : wa.heap.size = w.heap.size + 2 := by rw [hwa]; simp
  rw [← hwa] at hb0 k0 k1
  have hg : Gat wa (w.heap.size + 1) (w.heap.size + 2) (.slice none 0 0) [] wa := ⟨k1, OwnA.nil _ _ _ _ _, by omega, Kp.refl _ _, by omega⟩
  have hin2 : NdAt wa (fun k => k < w.heap.size + 1 ∧ k < wa.heap.size) ga n.kids 0 := (NdAt.kp (below_kp hb0) (fun _ _ e => e) hin).mono fun k (hk : k < w.heap.size) => ⟨by omega, by omega⟩
  have hc := refs_all n.kids.nodes wa wa (w.heap.size + 1) (w.heap.size + 2) _ [] n ga ca rfl hin2 hfit hsh (by simp; omega) hg
  simp only [nodeV, ← hkn, ← hL, List.nil_append] at hc
  simp only [nodeV, ← hkn, ← hL]
  have c0 := k0.cell 0
  have c1 := k0.cell 1
  have c2 := k0.cell 2
  simp only [List.getElem?_cons_zero, List.getElem?_cons_succ] at c0 c1 c2
  have HW := hid hwa
  have Hwas := hid hwas
  have Hb0 := hid hb0
  clear hkn hL hwa hwas hb0 k0 k1 hg hin hin2 hfit hsh hlen
  go_enter Try.func75, Try.ntmps75
  go_upto_region 2 with fail
  rw [← HW.out]
  go_wp2_with (go_at_call 114; refine hc.mono ?_; rintro e w2 ⟨rfl, v', hg2⟩; have q0 := hg2.box.cell 0; simp only [List.getElem?_cons_zero] at q0; have Hg2 := hid hg2; clear hg2)
  go_ret
  have hs := Hwas.out
  have hown : OwnA StrR 1 w2 w.heap.size 9 v' n.refs := by
    obtain ⟨xs, ⟨e1, e2⟩, e3⟩ := Hg2.out.own
    refine ⟨xs, ⟨e1, ?_⟩, AllA.mapS (R' := StrR) (fun a x (hx : x = _) => hx) e3⟩
    rcases e2 with e2 | ⟨g, cap, cur, f1, f2, f3⟩
    · exact .inl e2
    · exact .inr ⟨g, cap, cur, f1, by omega, f3⟩
  refine ⟨v', rfl, hown, Hb0.out.trans (Hg2.out.kp.to_below (by omega) (fun k e => by omega))⟩
end Go.Proofs.Ytjaampgpihicmaa
