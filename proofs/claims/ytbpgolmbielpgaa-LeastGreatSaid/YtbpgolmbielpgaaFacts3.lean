/- Chapter 9 (facts): the closure add. -/
import Derived.Test.YtbpgolmbielpgaaFacts2
import Derived.Test.YtbpgolmbielpgaaFactsLaw1
namespace Go.Proofs.Ytbpgolmbielpgaa
open Go.RowKit
attribute [local go_sem ↓] Go.wp_at_zero Go.wp_at_succ
attribute [local go_sem] frozen_alloc_lt

/-- The memory that close and its closure share: the set's box and row, the work list's box and row. -/
structure AddSt (w : World) (bi ba bw B n : Nat) (bs : List Bool) (work : List Int) (v : Value) : Prop where
  ki : Bk w bi 61 [.slice (some ⟨ba, 0, none⟩) n n]
  ka : Bk w ba 4 (bs.map Value.bool)
  kw : Bk w bw 23 [v]
  own : w.ownsRow B 3 1 v work.length (work.map (Value.int .i64))
  li : bi < B
  la : ba < B
  lw : bw < B
  ia : bi ≠ ba
  iw : bi ≠ bw
  aw : ba ≠ bw

def AddPost (w : World) (bi ba bw B n : Nat) (bs : List Bool) (work : List Int) (v : Value) (e : Ending) (w' : World) : Prop :=
  e = .returned (.tuple #[]) ∧ ∃ v', AddSt w' bi ba bw B n bs work v' ∧ Kp (fun k => k = ba ∨ k = bw ∨ v.ownBlock = some k) w w' ∧ (∀ g, v'.ownBlock = some g → v.ownBlock = some g ∨ w.heap.size ≤ g)

theorem AddSt.kp {w w' : World} {bi ba bw B n : Nat} {bs : List Bool} {work : List Int} {v : Value} {S : Nat → Prop} (h : AddSt w bi ba bw B n bs work v) (hk : Kp S w w') (hi : ¬ S bi) (ha : ¬ S ba) (hw : ¬ S bw) (hv : ∀ g, v.ownBlock = some g → ¬ S g) :
    AddSt w' bi ba bw B n bs work v := ⟨h.ki.kp hk hi, h.ka.kp hk ha, h.kw.kp hk hw, own_kp h.own hk hv, h.li, h.la, h.lw, h.ia, h.iw, h.aw⟩

set_option maxHeartbeats 2000000 in
set_option maxRecDepth 8000 in
theorem add_calls (w : World) (bi ba bw B n : Nat) (bs : List Bool) (work : List Int) (v : Value) (h : AddSt w bi ba bw B n bs work v) (hB : B ≤ w.heap.size) (l : Int) (h0 : 0 ≤ l) (h1 : l < n) (hbs : bs.length = n) (_hn : n ≤ 256) (hwk : work.length ≤ 1000000) :
    Calls Try.prog 77 #[.int .i64 l, .pointer (some ⟨bi, 0, none⟩), .pointer (some ⟨bw, 0, none⟩)] w (AddPost w bi ba bw B n (Facts.addB bs l) (Facts.addW bs work l) v) := by
  obtain ⟨i3, hi3, z0, z1, z2⟩ := info_parts intInfo
  obtain ⟨a, rfl⟩ := Int.eq_ofNat_of_zero_le h0
  have ha : a < bs.length := by omega
  have ha' : (a : Int) < (n : Int) := h1
  have c0 := h.ki.cell 0
  have ca := h.ka.cell a
  have cw := h.kw.cell 0
  have fa := h.ka.free a
  have fw := h.kw.free 0
  simp only [List.getElem?_cons_zero, List.getElem?_map, List.getElem?_eq_getElem ha, Option.map_some] at c0 ca cw
  have hbs' : Facts.inB bs a = bs[a] := by simp [Facts.inB, List.getD, List.getElem?_eq_getElem ha]
  have lw := h.kw.lt
  have law := h.aw
  have hne := World.new_ne w _ c0
  have hvw : some bw ≠ v.ownBlock := by
    intro e
    have := (h.own.lt bw e.symm).1
    have := h.lw
    omega
  have hva : some ba ≠ v.ownBlock := by
    intro e
    have := (h.own.lt ba e.symm).1
    have := h.la
    omega
  have hvi : some bi ≠ v.ownBlock := by
    intro e
    have := (h.own.lt bi e.symm).1
    have := h.li
    omega
  unfold Facts.addB Facts.addW
  rw [hbs']
  cases hb : bs[a] with
  | true =>
    rw [hb] at ca
    rw [if_pos rfl, if_pos rfl]
    clear hb hbs' hbs ha
    go_enter Try.func77, Try.ntmps77
    go_wp2_with fail
    go_end0
    exact ⟨rfl, v, h, Kp.refl _ w, fun g hg => .inl hg⟩
  | false =>
    rw [hb] at ca
    rw [if_neg (by simp), if_neg (by simp)]
    clear hb hbs' hbs ha
    go_enter Try.func77, Try.ntmps77
    go_upto_region 2 with fail
    have hka1 := h.ka.set a (.bool true)
    have hkw1 := h.kw.far (p := ⟨ba, a, none⟩) (Ne.symm law) (.bool true)
    have hki1 := h.ki.far (p := ⟨ba, a, none⟩) h.ia (.bool true)
    have hown1 := own_set h.own (p := ⟨ba, a, none⟩) (fun e => hva e.symm) (.bool true)
    have hk1 : Kp (fun k => k = ba) w (w.setCell ⟨ba, a, none⟩ (.bool true)) := Kp.set (S := fun k => k = ba) (Kp.refl _ w) (.inl rfl) _
    have hz1 : (w.setCell ⟨ba, a, none⟩ (.bool true)).heap.size = w.heap.size := by simp [World.setCell]
    obtain ⟨w1, hw1⟩ : ∃ w1, w1 = w.setCell ⟨ba, a, none⟩ (.bool true) := ⟨_, rfl⟩
    rw [← hw1] at hka1 hkw1 hki1 hown1 hk1 hz1 ⊢
    have hB1 : B ≤ w1.heap.size := by omega
    have hz0 : w.heap.size ≤ w1.heap.size := by omega
    have Hz1 := hid hz1
    clear hw1 c0 ca cw fa fw hne hz1
    have cw := hkw1.cell 0
    have fw := hkw1.free 0
    have hlw1 := hkw1.lt
    simp only [List.getElem?_cons_zero] at cw
    go_wp2_with (at_builtin; go_loud (refine wpList_append_one _ rfl _ _ _ rfl B 3 i3 _ Try.underlying23 hi3 z0 z1 (by rw [z2]; omega) rfl v work.length _ rfl (hown1.alloc _) ⟨w1.heap.size, 0, none⟩ (.int .i64 a) rfl (by simp) rfl (by omega) (by simp; omega) (w1.heap.size + 1) (by simp) ?_); intro g2 cap2 w2 hown2 hgr2 hat2 hlt2; have hbk2 := (hkw1.alloc (.cells #[.int .i64 a] 3)).grown hgr2 hvw; have hc2 := hbk2.cell 0; have hf2 := hbk2.free 0; simp only [List.getElem?_cons_zero] at hc2)
    go_end0
    refine ⟨rfl, _, ⟨?_, ?_, hbk2.set 0 _, ?_, h.li, h.la, h.lw, h.ia, h.iw, h.aw⟩, ?_, fun g hg => ?_⟩
    · exact (((hki1.alloc _).grown hgr2 hvi).far (p := ⟨bw, 0, none⟩) h.iw _)
    · refine (((hka1.alloc _).grown hgr2 hva).far (p := ⟨bw, 0, none⟩) h.aw _).of ?_
      simp
    · have := own_set hown2 (p := ⟨bw, 0, none⟩) (fun e => by have e1 := (hown2.lt bw e).1; have e2 := h.lw; omega) (.slice (some ⟨g2, 0, none⟩) (work.length + 1) cap2)
      simpa using this
    · exact (Kp.set (S := fun k => k = ba ∨ k = bw ∨ v.ownBlock = some k) (((hk1.mono (fun k _ e => .inl e)).alloc _).grown hgr2 (fun k hk _ => .inr (.inr hk))) (.inl (.inr (.inl rfl))) _)
    · simp only [Value.ownBlock, Option.some.injEq] at hg
      subst hg
      rcases hat2 with h | h
      · exact .inl h
      · exact .inr (by omega)
end Go.Proofs.Ytbpgolmbielpgaa
