/- Chapter 6 (format): a writer (a struct about a strings.Builder) in a block of its own: what is written to it. -/
import Derived.Test.YtjaampgpihicmaaLexQ0
import Derived.Test.YtjaampgpihicmaaRep
import Derived.Lib.OthersKept
import Derived.Test.YtjaampgpihicmaaLexQuote1
import Derived.Lib.FrozenHead
import Derived.Shelf.Strings.BuilderK
namespace Go.Proofs.Ytjaampgpihicmaa
open Go.RowKit
attribute [local go_sem ↓] Go.wp_at_zero Go.wp_at_succ
attribute [local go_sem] frozen_alloc_lt

/-- A writer in block b; it holds these bytes. -/
def WrAt (B b : Nat) (p : Value) (l : List UInt8) (w : World) : Prop := B ≤ b ∧ ∃ v, w.heap[b]? = some (.cells #[p, v] 140 (0, 0)) ∧ w.ownsRowF B 5 1 v l.length (Lib.byteCells l) ∧ v.ownBlock ≠ some b ∧ (l = [] → v = .slice none 0 0)
def WrIs (B b : Nat) (l : List UInt8) (w : World) : Prop := WrAt B b (.pointer none) l w ∨ WrAt B b (.pointer (some ⟨b, 0, none⟩)) l w
/-- What a writer's call changes: the writer's block, rows of bytes. -/
def WrKp (b : Nat) (w w' : World) : Prop := Lib.OthersKept 5 (some b) w w'
theorem WrAt.at_ {B b : Nat} {p : Value} {l : List UInt8} {w : World} (h : WrAt B b p l w) : Lib.BuilderAtF 140 5 B b p (Lib.byteCells l) w := by
  obtain ⟨hB, v, h1, h2, h3, _⟩ := h
  exact ⟨hB, v, h1, by rw [Lib.byteCells_length]; exact h2, h3⟩
theorem WrIs.new (w : World) : WrIs w.heap.size w.heap.size [] (w.alloc (.cells #[.pointer none, .slice none 0 0] 140)) :=
  .inl ⟨Nat.le_refl _, .slice none 0 0, heap_alloc_new _ _, World.ownsRowF_nil _ _ _ _, by simp [Value.ownBlock], fun _ => rfl⟩
theorem WrIs.le {B b : Nat} {l : List UInt8} {w : World} (h : WrIs B b l w) : B ≤ b := by rcases h with h | h <;> exact h.1
theorem WrIs.lt {B b : Nat} {l : List UInt8} {w : World} (h : WrIs B b l w) : b < w.heap.size := by rcases h with h | h <;> exact h.at_.lt
theorem WrAt.grown {B b : Nat} {p : Value} {l : List UInt8} {w w' : World} (h : WrAt B b p l w) (hb : Below w.heap.size w w') : WrAt B b p l w' := by
  have hlt := h.at_.lt
  obtain ⟨hB, v, h1, h2, h3, h4⟩ := h
  refine ⟨hB, v, (hb.block b hlt).trans h1, h2.kept (row := none) ⟨hb.os, hb.tape, hb.output, hb.size, fun k hk _ => hb.block k hk⟩ ?_, h3, h4⟩
  cases hv : v.ownBlock <;> simp
theorem WrIs.below {B b : Nat} {l : List UInt8} {w w' : World} (h : WrIs B b l w) (hb : Below w.heap.size w w') : WrIs B b l w' := h.imp (fun h => h.grown hb) (fun h => h.grown hb)
theorem WrKp.refl (b : Nat) (w : World) : WrKp b w w := Lib.OthersKept.refl _ _ w
theorem WrKp.trans {b : Nat} {w w' w'' : World} (h : WrKp b w w') (k : WrKp b w' w'') : WrKp b w w'' := Lib.OthersKept.trans h k
theorem WrKp.alloc {b : Nat} {w w' : World} (h : WrKp b w w') (o : Obj) : WrKp b w (w'.alloc o) := Lib.OthersKept.alloc h o
theorem WrKp.drew {b : Nat} {w w' : World} (h : WrKp b w w') : WrKp b w w'.drew := Lib.OthersKept.drew h
theorem WrKp.below {b : Nat} {w w' : World} (hb : Below w.heap.size w w') : WrKp b w w' := fun k _o hk _ _ => (hb.block k (Array.getElem?_eq_some_iff.1 hk).1).trans hk
theorem Bk.wrt {b k : Nat} {w w' : World} {T : TypeId} {cs : List Value} (h : Bk w k T cs) (hk : WrKp b w w') (hkb : k ≠ b) (hT : T ≠ 5) : Bk w' k T cs :=
  hk k _ h (by simpa using hkb) (fun c fz e => by injection e with _ e2; exact hT e2)
/-- What is written. -/
def Wrote (B b : Nat) (l : List UInt8) (w w' : World) : Prop := WrIs B b l w' ∧ Below B w w' ∧ WrKp b w w'
set_option maxHeartbeats 2000000 in
set_option maxRecDepth 100000 in
theorem wcheck_calls (B b : Nat) (l : List UInt8) (w : World) (h : WrIs B b l w) :
    Calls Try.prog 117 #[.pointer (some ⟨b, 0, none⟩)] w fun e w' => e = .returned (.tuple #[]) ∧ WrAt B b (.pointer (some ⟨b, 0, none⟩)) l w' ∧ Below B w w' ∧ WrKp b w w' := by
  rcases h with h | h
  · have c0 := h.at_.cell0
    have f0 := h.at_.frozen0
    have hput : WrAt B b (.pointer (some ⟨b, 0, none⟩)) l (w.setCell ⟨b, 0, none⟩ (.pointer (some ⟨b, 0, none⟩))) := by
      obtain ⟨hB, v, h1, h2, h3, h4⟩ := h
      refine ⟨hB, v, by simp [World.setCell, Array.getElem?_modify, h1], ?_, h3, h4⟩
      refine h2.kept (row := some b) ⟨rfl, rfl, rfl, by simp [World.setCell], fun k _ hk => Below.heap_setCell _ _ _ _ (fun e => hk (by simp [e]))⟩ (.inr h3)
    obtain ⟨j, hj, hjs⟩ : ∃ j, Try.prog.info? 138 = some j ∧ j.size = 2 := Option.map_eq_some_iff.1 (show (Try.prog.info? 138).map (·.size) = some 2 by kernel_rfl)
    have hsh := h.at_.shape
    have hlies : liesAt Try.prog Try.prog.depth 140 (2 / Try.prog.cellsOf 140) 0 138 1 = true := by kernel_rfl
    have Hput := hid (And.intro hput (And.intro ((Below.refl B w).setCell (p := ⟨b, 0, none⟩) h.1 (.pointer (some ⟨b, 0, none⟩))) ((Lib.OthersKept.refl 5 (some b) w).setCell ⟨b, 0, none⟩ rfl (.pointer (some ⟨b, 0, none⟩)))))
    clear hput h
    go_enter Try.func117, Try.ntmps117
    go_wp2_with fail
    rw [Lib.run_to_unsafe w ⟨b, 0, none⟩ Try.underlying136 Try.underlying185 hj (by rw [hjs]; decide) hsh (Nat.zero_lt_succ 1)]
    simp only [Result.andThen]
    rw [Oper.upon_value]
    go_wp2_with fail
    rw [run_callFunc_extern Try.func136 (by kernel_rfl) (by kernel_rfl) (by kernel_rfl) (e := Extern.AbiNoEscape.same) (by kernel_rfl)]
    rw [Lib.run_noEscape]
    simp only [Result.andThen]
    rw [Oper.upon_value]
    go_wp2_with fail
    rw [Lib.run_from_unsafe w ⟨b, 0, none⟩ Try.underlying185 Try.underlying136 hj hsh hlies]
    simp only [Result.andThen]
    rw [Oper.upon_value]
    go_wp2
    go_end0
    exact ⟨rfl, Hput.out.1, Hput.out.2.1, Hput.out.2.2⟩
  · have c0 := h.at_.cell0
    obtain ⟨j, hj, hjs⟩ : ∃ j, Try.prog.info? 138 = some j ∧ j.size = 2 := Option.map_eq_some_iff.1 (show (Try.prog.info? 138).map (·.size) = some 2 by kernel_rfl)
    have H := hid h
    clear h
    go_enter Try.func117, Try.ntmps117
    go_wp2
    rw [Lib.run_neq_ptr_same w _ Try.underlying136 hj]
    go_wp2
    go_end0
    exact ⟨rfl, H.out, Below.refl _ _, WrKp.refl _ _⟩
theorem wr_put {B b : Nat} {p v v' : Value} {l : List UInt8} {w : World} (hB : B ≤ b) (hb : w.heap[b]? = some (.cells #[p, v] 140 (0, 0))) (hown : w.ownsRowF B 5 1 v' l.length (Lib.byteCells l)) (h0 : l = [] → v' = .slice none 0 0) : WrAt B b p l (w.setCell ⟨b, 1, none⟩ v') := by
  obtain ⟨hB', u, h1, h2, h3⟩ := Lib.BuilderAtF.put (T := 140) (e := 5) (bs' := Lib.byteCells l) hB hb (by rw [Lib.byteCells_length]; exact hown) (by decide)
  have e : u = v' := by
    have h4 : (w.setCell ⟨b, 1, none⟩ v').heap[b]? = some (.cells #[p, v'] 140 (0, 0)) := by simp [World.setCell, Array.getElem?_modify, hb]
    rw [h4] at h1
    injection h1 with h1
    injection h1 with h1
    simpa using h1.symm
  subst e
  exact ⟨hB', u, h1, by rw [Lib.byteCells_length] at h2; exact h2, h3, h0⟩
set_option maxHeartbeats 2000000 in
set_option maxRecDepth 100000 in
theorem wrString_calls (B b : Nat) (l m : List UInt8) (w : World) (h : WrIs B b l w) (hlen : l.length + m.length ≤ 140737488355328) (hB : B ≤ w.heap.size) :
    Calls Try.prog 82 #[.pointer (some ⟨b, 0, none⟩), .string ⟨m.toArray⟩] w fun e w' => e = .returned (.tuple #[.int .i64 m.length, .nilIface]) ∧ Wrote B b (l ++ m) w w' := by
  obtain ⟨i0, hi, hz0, hz1, hz2⟩ := info_parts u8Info
  have hc : (⟨m.toArray⟩ : ByteArray).size = m.length := by rw [Lib.size_eq]
  obtain ⟨s, hs⟩ : ∃ s : ByteArray, s = ⟨m.toArray⟩ := ⟨_, rfl⟩
  rw [← hs] at hc ⊢
  have Hs := hid hs
  have Hc := hid hc
  have Hch := hid (wcheck_calls B b l w h)
  have HB := hid hB
  have Hlen := hid hlen
  clear h hs hc hB hlen
  go_enter Try.func82, Try.ntmps82
  go_upto_region 2 with (go_at_call 117; refine Hch.out.mono ?_; rintro e w1 ⟨rfl, ⟨hBb, v, hbk, hown, hne, hv0⟩, hb1, hk1⟩; have Hv0 := hid hv0; clear hv0)
  have c0 : w1.cell? ⟨b, 0, none⟩ = some (.pointer (some ⟨b, 0, none⟩)) := by rw [Lib.cell_of_heap hbk]; rfl
  have c1 : w1.cell? ⟨b, 1, none⟩ = some v := by rw [Lib.cell_of_heap hbk]; rfl
  go_wp2_with (at_builtin; refine Lib.wpList_append_own_stringF _ rfl _ _ 54 9 rfl B 5 i0 Try.underlying54 Try.underlying9 hi hz0 hz1 hz2 _ _ _ rfl hown s rfl ?c3 ?c4 ?c5 ?_)
  case c3 => have := Hlen.out; have := Hc.out; unfold maxLen; omega
  case c4 => have := Hlen.out; have := Hc.out; omega
  case c5 => have := hb1.size; have := HB.out; omega
  intro v' w2 hown' hgrow hnil
  have hlt : b < w1.heap.size := (Array.getElem?_eq_some_iff.1 hbk).1
  have hb2 : w2.heap[b]? = some (.cells #[.pointer (some ⟨b, 0, none⟩), v] 140 (0, 0)) := by
    rw [hgrow.block b hlt (fun e => hne e.symm)]
    exact hbk
  have d0 : w2.cell? ⟨b, 0, none⟩ = some (.pointer (some ⟨b, 0, none⟩)) := by rw [Lib.cell_of_heap hb2]; rfl
  have d1 : w2.cell? ⟨b, 1, none⟩ = some v := by rw [Lib.cell_of_heap hb2]; rfl
  have f1 : w2.frozen? ⟨b, 1, none⟩ = false := Lib.frozen_of_heap hb2 1
  obtain ⟨ao, n', cap, rfl⟩ : ∃ ao n' cap, v' = .slice ao n' cap := by
    rcases hown'.2 with ⟨hv, _⟩ | ⟨g, cap, cur, fz, hv, _⟩
    · exact ⟨_, _, _, hv⟩
    · exact ⟨_, _, _, hv⟩
  have hown2 : w2.ownsRowF B 5 1 (.slice ao n' cap) (l ++ m).length (Lib.byteCells (l ++ m)) := by
    have e : Lib.byteCells l ++ Lib.strCells s = Lib.byteCells (l ++ m) := by rw [Hs.out]; simp [Lib.byteCells, Lib.strCells]
    rw [e, Hc.out] at hown'
    rw [List.length_append]
    exact hown'
  have hn2 : l ++ m = [] → (.slice ao n' cap : Value) = .slice none 0 0 := fun e => by
    obtain ⟨e1, e2⟩ := List.append_eq_nil_iff.1 e
    exact hnil.2 ⟨Hv0.out e1, by rw [Hs.out, e2]; rfl⟩
  have Hw := hid (And.intro (wr_put hBb hb2 hown2 hn2) (And.intro ((hb1.grown hgrow (by have := hb1.size; have := HB.out; omega) (fun k hk => (hown.lt k hk).1)).setCell (p := ⟨b, 1, none⟩) hBb (.slice ao n' cap)) ((Lib.OthersKept.grown hk1 hgrow (Lib.ownsRowF_kind hown)).setCell ⟨b, 1, none⟩ rfl (.slice ao n' cap))))
  clear hown hown' hgrow hnil hown2 hn2 hbk hb2 hne hb1 hk1 hBb
  go_wp2
  go_ret2
  exact ⟨by first | rfl | (rw [← Hc.out]; rfl), .inr Hw.out.1, Hw.out.2.1, Hw.out.2.2⟩
set_option maxHeartbeats 2000000 in
set_option maxRecDepth 100000 in
theorem wrByte_calls (B b : Nat) (l : List UInt8) (c : UInt8) (w : World) (h : WrIs B b l w) (hlen : l.length + 1 ≤ 140737488355328) (hB : B ≤ w.heap.size) :
    Calls Try.prog 119 #[.pointer (some ⟨b, 0, none⟩), .int .u8 c.toNat] w fun e w' => e = .returned .nilIface ∧ Wrote B b (l ++ [c]) w w' := by
  obtain ⟨i0, hi, hz0, hz1, hz2⟩ := info_parts u8Info
  have Hch := hid (wcheck_calls B b l w h)
  have HB := hid hB
  have Hlen := hid hlen
  obtain ⟨z, hz⟩ : ∃ z : Int, z = c.toNat := ⟨_, rfl⟩
  have Hz := hid hz
  rw [← hz]
  clear h hB hlen hz
  go_enter Try.func119, Try.ntmps119
  go_upto_region 2 with (go_at_call 117; refine Hch.out.mono ?_; rintro e w1 ⟨rfl, ⟨hBb, v, hbk, hown, hne, hv0⟩, hb1, hk1⟩; clear hv0)
  have c0 : w1.cell? ⟨b, 0, none⟩ = some (.pointer (some ⟨b, 0, none⟩)) := by rw [Lib.cell_of_heap hbk]; rfl
  have c1 : w1.cell? ⟨b, 1, none⟩ = some v := by rw [Lib.cell_of_heap hbk]; rfl
  have hownA := hown.kept (w' := w1.alloc (.cells #[.int .u8 z] 5)) (row := none) (World.grownBy_alloc w1 _ none) (by cases hv : v.ownBlock <;> simp)
  go_wp2_with (at_builtin; refine wpList_append_ownF _ rfl _ _ 54 rfl B 5 i0 (.int .u8 0) 1 1 Try.underlying54 hi hz0 hz1 hz2 rfl (by decide) _ _ _ rfl hownA ⟨w1.heap.size, 0, none⟩ 1 1 [.int .u8 z] rfl rfl ?c1 ?c2 ?c3 ?c4 ?c5 ?_)
  case c1 =>
    intro j u hj
    match j, hj with
    | 0, hj => simp at hj; subst hj; simp [Addr.add]
  case c2 => intro u hu; simp at hu; subst hu; rfl
  case c3 => have := Hlen.out; unfold maxLen; omega
  case c4 => have := Hlen.out; omega
  case c5 => have := hb1.size; have := HB.out; simp; omega
  intro v' w2 hown' hgrow _
  have hlt : b < w1.heap.size := (Array.getElem?_eq_some_iff.1 hbk).1
  have hb2 : w2.heap[b]? = some (.cells #[.pointer (some ⟨b, 0, none⟩), v] 140 (0, 0)) := by
    rw [hgrow.block b (by simp; omega) (fun e => hne e.symm), Lib.alloc_old w1 _ b hlt]
    exact hbk
  have d0 : w2.cell? ⟨b, 0, none⟩ = some (.pointer (some ⟨b, 0, none⟩)) := by rw [Lib.cell_of_heap hb2]; rfl
  have d1 : w2.cell? ⟨b, 1, none⟩ = some v := by rw [Lib.cell_of_heap hb2]; rfl
  have f1 : w2.frozen? ⟨b, 1, none⟩ = false := Lib.frozen_of_heap hb2 1
  obtain ⟨g, cap, rfl⟩ : ∃ g cap, v' = .slice (some ⟨g, 0, none⟩) (l.length + 1) cap := by
    rcases hown'.2 with ⟨_, h0⟩ | ⟨g, cap, cur, fz, hv, _⟩
    · omega
    · exact ⟨g, cap, hv⟩
  have hown2 : w2.ownsRowF B 5 1 (.slice (some ⟨g, 0, none⟩) (l.length + 1) cap) (l ++ [c]).length (Lib.byteCells (l ++ [c])) := by
    have e : Lib.byteCells l ++ [.int .u8 z] = Lib.byteCells (l ++ [c]) := by rw [Hz.out]; simp [Lib.byteCells]
    rw [e] at hown'
    rw [List.length_append]
    exact hown'
  have Hw := hid (And.intro (wr_put hBb hb2 hown2 (fun e => by simp at e)) (And.intro (((hb1.alloc (by have := hb1.size; have := HB.out; omega) (.cells #[.int .u8 z] 5)).grown hgrow (by have := hb1.size; have := HB.out; simp; omega) (fun k hk => (hown.lt k hk).1)).setCell (p := ⟨b, 1, none⟩) hBb (.slice (some ⟨g, 0, none⟩) (l.length + 1) cap)) ((Lib.OthersKept.grown (Lib.OthersKept.alloc hk1 (.cells #[.int .u8 z] 5)) hgrow (Lib.ownsRowF_kind hownA)).setCell ⟨b, 1, none⟩ rfl (.slice (some ⟨g, 0, none⟩) (l.length + 1) cap))))
  clear hown hownA hown' hgrow hown2 hbk hb2 hne hb1 hk1 hBb
  go_wp2
  go_ret
  exact ⟨by first | rfl | (rw [← Hc.out]; rfl), .inr Hw.out.1, Hw.out.2.1, Hw.out.2.2⟩
theorem wr_of {B b : Nat} {p : Value} {l : List UInt8} {w : World} (h : Lib.BuilderAtF 140 5 B b p (Lib.byteCells l) w) (h0 : l ≠ []) : WrAt B b p l w := by
  obtain ⟨hB, v, h1, h2, h3⟩ := h
  exact ⟨hB, v, h1, by rw [Lib.byteCells_length] at h2; exact h2, h3, fun e => absurd e h0⟩
theorem byteCells1 : Try.prog.cellsOf 5 = 1 := by kernel_rfl
set_option maxHeartbeats 2000000 in
set_option maxRecDepth 100000 in
theorem wrText_calls (B b : Nat) (l : List UInt8) (w : World) (h : WrIs B b l w) (_hBw : B ≤ w.heap.size) :
    Calls Try.prog 84 #[.pointer (some ⟨b, 0, none⟩)] w fun e w' => e = .returned (.string ⟨l.toArray⟩) ∧ Wrote B b l w w' := by
  obtain ⟨p, hp, hAt⟩ : ∃ p, (p = .pointer none ∨ p = .pointer (some ⟨b, 0, none⟩)) ∧ WrAt B b p l w := by
    rcases h with h | h
    · exact ⟨_, .inl rfl, h⟩
    · exact ⟨_, .inr rfl, h⟩
  have hA := hAt.at_
  obtain ⟨hB, v, hbk, hown, hne, hv0⟩ := hAt
  by_cases h0 : l = []
  · subst h0
    obtain rfl := hv0 rfl
    have c1 : w.drew.cell? ⟨b, 1, none⟩ = some (.slice none 0 0) := by
      have : w.drew.heap[b]? = some (.cells #[p, .slice none 0 0] 140 (0, 0)) := hbk
      rw [Lib.cell_of_heap this]
      rfl
    have hSD : (Builtin.unsafeSliceData_ #[54] 172 #[.slice none 0 0]).run Try.prog w.drew = .ok (.pointer none) w.drew := rfl
    have hUS : (Builtin.unsafeString_ #[172, 3] 9 #[.pointer none, .int .i64 0]).run Try.prog w.drew = .ok (.string .empty) w.drew := Lib.run_unsafeString_none w.drew _ _ _ none
    have H := hid (show Wrote B b [] w w.drew from ⟨by
      have hd : WrAt B b p [] w.drew := ⟨hB, _, hbk, hown, hne, fun _ => rfl⟩
      rcases hp with rfl | rfl
      · exact .inl hd
      · exact .inr hd, Below.drew (Below.refl B w), (WrKp.refl b w).drew⟩)
    clear hown hne hv0 hp hA h
    go_enter Try.func84, Try.ntmps84
    go_wp2
    go_region
    all_goals (go_wp2; go_ret; exact ⟨rfl, H.out⟩)
  · have hl0 : l.length ≠ 0 := by simpa using h0
    obtain ⟨g, cap, cur, fz, rfl, hbg, hg, hfz, hnc, hcm, hcs, htake⟩ : ∃ g cap cur fz, v = .slice (some ⟨g, 0, none⟩) l.length cap ∧ B ≤ g ∧ w.heap[g]? = some (.cells cur 5 fz) ∧ fz.2 ≤ l.length * 1 ∧ l.length ≤ cap ∧ cap ≤ maxLen ∧ cur.size = cap * 1 ∧ cur.toList.take (l.length * 1) = Lib.byteCells l := by
      rcases hown.2 with ⟨_, hz⟩ | ⟨g, cap, cur, fz, hv, r⟩
      · exact absurd hz hl0
      · exact ⟨g, cap, cur, fz, hv, r⟩
    have c1 : w.drew.cell? ⟨b, 1, none⟩ = some (.slice (some ⟨g, 0, none⟩) l.length cap) := by
      have : w.drew.heap[b]? = some (.cells #[p, .slice (some ⟨g, 0, none⟩) l.length cap] 140 (0, 0)) := hbk
      rw [Lib.cell_of_heap this]
      rfl
    have hSD : (Builtin.unsafeSliceData_ #[54] 172 #[.slice (some ⟨g, 0, none⟩) l.length cap]).run Try.prog w.drew = .ok (.pointer (some ⟨g, 0, none⟩)) w.drew := Lib.run_unsafeSliceData_row _ _ _ _ _ _ (by omega)
    have hUS : (Builtin.unsafeString_ #[172, 3] 9 #[.pointer (some ⟨g, 0, none⟩), .int .i64 l.length]).run Try.prog w.drew = .ok (.string ⟨l.toArray⟩) (w.drew.freeze ⟨g, 0, none⟩ l.length) := by
      refine Lib.run_unsafeString_row w.drew 172 3 9 5 Try.underlying172 byteCells1 g cur.size (by have hg' : w.drew.heap[g]? = some (.cells cur 5 fz) := hg; simp [World.shape?, hg']) l h0 (by omega) (by unfold maxLen at hcm; omega) ?_
      intro j x hx
      exact hown.cells (g := g) rfl j (.int .u8 x.toNat) (by simp [Lib.byteCells, hx])
    have hF : Lib.BuilderAtF 140 5 B b p (Lib.byteCells l) (w.drew.freeze ⟨g, 0, none⟩ l.length) := by
      have := (show Lib.BuilderAtF 140 5 B b p (Lib.byteCells l) w.drew from hA).froze (g := g) (cap := cap) (by rw [Lib.byteCells_length]; exact c1)
      rwa [Lib.byteCells_length] at this
    have H := hid (show Wrote B b l w (w.drew.freeze ⟨g, 0, none⟩ l.length) from ⟨by
      rcases hp with rfl | rfl
      · exact .inl (wr_of hF h0)
      · exact .inr (wr_of hF h0), Lib.below_freeze (Below.drew (Below.refl B w)) (p := ⟨g, 0, none⟩) hbg _, ((Lib.OthersKept.refl _ _ w).drew).freeze ⟨g, 0, none⟩ _ ⟨cur, fz, hg⟩⟩)
    clear hown hne hv0 hp hA h hF htake hcs hfz hg
    go_enter Try.func84, Try.ntmps84
    go_wp2
    go_region
    all_goals (go_wp2; go_ret; exact ⟨rfl, H.out⟩)
end Go.Proofs.Ytjaampgpihicmaa
