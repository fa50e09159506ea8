/- Chapter 9 (facts): the first line of each statement: a grammar that loops. -/
import Derived.Test.YtbpgolmbielpgaaFacts9
import Derived.Test.YtbpgolmbielpgaaFactsLaw2
import Derived.Test.YtbpgolmbielpgaaProds
namespace Go.Proofs.Ytbpgolmbielpgaa
open Go.RowKit
attribute [local go_sem ↓] Go.wp_at_zero Go.wp_at_succ
attribute [local go_sem] frozen_alloc_lt

/-- A grammar's box that came in, and a world above it. -/
structure GAt (wd : World) (b : Nat) (G : Gr) (gn gt gp : Option Addr) (cn ct cp : Nat) (W : World) : Prop where
  g : GIn W G gn gt gp
  k : Bk W b 41 [.int .i64 G.start, .int .i64 G.rules, .slice gn G.names.length cn, .slice gt G.terms.length ct, .slice gp G.prods.length cp]
  b : Below wd.heap.size wd W
theorem GAt.later {wd W W' : World} {b : Nat} {G : Gr} {gn gt gp : Option Addr} {cn ct cp : Nat} (h : GAt wd b G gn gt gp cn ct cp W) (hb : Below W.heap.size W W') : GAt wd b G gn gt gp cn ct cp W' :=
  ⟨h.g.later hb, h.k.below hb h.k.lt, h.b.trans (hb.mono h.b.size)⟩
theorem GAt.drew {wd W : World} {b : Nat} {G : Gr} {gn gt gp : Option Addr} {cn ct cp : Nat} (h : GAt wd b G gn gt gp cn ct cp W) : GAt wd b G gn gt gp cn ct cp W.drew :=
  ⟨⟨h.g.n, h.g.t, h.g.p, h.g.h1, h.g.h2, h.g.h3, h.g.h4⟩, h.k, below_drewN h.b 1⟩

/-- One cell of a bool that is true, or of an int that is nought. -/
def OneAt (u : Value) (w : World) (e : Ending) (w' : World) : Prop := ∃ (g cap : Nat), e = .returned (.slice (some ⟨g, 0, none⟩) 1 cap) ∧ w'.cell? ⟨g, 0, none⟩ = some u ∧ g < w'.heap.size ∧ Below w.heap.size w w'

section
variable (W : World) (gn gt gp : Option Addr) (cn ct cp : Nat) (h : GIn W spG gn gt gp)
include h
theorem null_sp : Calls Try.prog 33 #[.agg #[.int .i64 0, .int .i64 1, .slice gn 1 cn, .slice gt 1 ct, .slice gp 3 cp]] W fun e w' => ∃ (g off cap : Nat), e = .returned (.slice (some ⟨g, off, none⟩) 1 cap) ∧ w'.cell? ⟨g, off, none⟩ = some (.bool true) ∧ g < w'.heap.size ∧ Below W.heap.size W w' :=
  (null_yes W spG gn gt gp cn ct cp h spG_sound).mono fun e w' ⟨ga, cap, bs, he, hl, hr, hg, hb⟩ => by
    have hbs := one_true hl hg spG_null
    subst hbs
    obtain ⟨g, off, rfl, hlt, hc⟩ := hr.at (i := 0) (by simp)
    exact ⟨g, off, cap, he, by simpa using hc, hlt, hb⟩
theorem short_sp : Calls Try.prog 28 #[.agg #[.int .i64 0, .int .i64 1, .slice gn 1 cn, .slice gt 1 ct, .slice gp 3 cp]] W fun e w' => ∃ (g cap : Nat), e = .returned (.slice (some ⟨g, 0, none⟩) 1 cap) ∧ w'.cell? ⟨g, 0, none⟩ = some (.int .i64 0) ∧ g < w'.heap.size ∧ Below W.heap.size W w' :=
  (short_yes W spG gn gt gp cn ct cp h spG_sound).mono fun e w' ⟨g, cap, ks, he, _, hk, hs, hf, hb⟩ => by
    have hks := spG_short hs hf
    subst hks
    exact ⟨g, cap, he, by simpa using hk.cell 0, hk.lt, hb⟩
theorem loops_sp : Calls Try.prog 46 #[.agg #[.int .i64 0, .int .i64 1, .slice gn 1 cn, .slice gt 1 ct, .slice gp 3 cp]] W fun e w' => ∃ (g off cap : Nat), e = .returned (.slice (some ⟨g, off, none⟩) 1 cap) ∧ w'.cell? ⟨g, off, none⟩ = some (.bool true) ∧ g < w'.heap.size ∧ Below W.heap.size W w' :=
  (loops_yes W spG gn gt gp cn ct cp h spG_sound).mono fun e w' ⟨ga, cap, bs, nb, lss, he, hl, hr, hn, hlss, hcm, hb⟩ => by
    have h0 : Facts.inB nb 0 = true := (hn 0 (by omega)).2 spG_null
    have hm : (0 : Int) ∈ lss.getD 0 [] := by
      rw [hlss]
      refine (Facts.allT_mem _ 0 0 spG.prods _ (by decide)).2 (.inr ⟨(0, [0, 0]), by decide, rfl, ?_⟩)
      simp [Facts.loopF, Facts.firmP, h0]
    have h1 : Facts.inB bs 0 = true := (hcm 0 (by decide)).2 (.base 0 hm)
    have hbs : bs = [true] := by
      match bs, hl with
      | [x], _ =>
        simp [Facts.inB] at h1
        rw [h1]
    subst hbs
    obtain ⟨g, off, rfl, hlt, hc⟩ := hr.at (i := 0) (by simp)
    exact ⟨g, off, cap, he, by simpa using hc, hlt, hb⟩
end

theorem bk_at {w : World} {b b' : Nat} {t : TypeId} {cs : List Value} (h : Bk w b t cs) (e : b = b') : Bk w b' t cs := e ▸ h

theorem sp_made (w : World) : GAt w (w.heap.size + 1 + 1 + 1 + 1 + 1) spG (some ⟨w.heap.size, 0, none⟩) (some ⟨w.heap.size + 1, 0, none⟩) (some ⟨w.heap.size + 1 + 1 + 1 + 1, 0, none⟩) 1 1 3 ((((((w.alloc (.cells #[.string ⟨#[83]⟩] 9)).alloc (.cells #[.string ⟨#[120]⟩] 9)).alloc (.cells #[.int .i64 0, .int .i64 0] 3)).alloc (.cells #[.int .i64 (-1)] 3)).alloc (.cells #[.int .i64 0, .slice (some ⟨w.heap.size + 1 + 1, 0, none⟩) 2 2, .int .i64 0, .slice (some ⟨w.heap.size + 1 + 1 + 1, 0, none⟩) 1 1, .int .i64 0, .slice none 0 0] 35)).alloc (.cells #[.int .i64 0, .int .i64 1, .slice (some ⟨w.heap.size, 0, none⟩) 1 1, .slice (some ⟨w.heap.size + 1, 0, none⟩) 1 1, .slice (some ⟨w.heap.size + 1 + 1 + 1 + 1, 0, none⟩) 3 3] 41)) := by
  have k0 : Bk ((((((w.alloc (.cells #[.string ⟨#[83]⟩] 9)).alloc (.cells #[.string ⟨#[120]⟩] 9)).alloc (.cells #[.int .i64 0, .int .i64 0] 3)).alloc (.cells #[.int .i64 (-1)] 3)).alloc (.cells #[.int .i64 0, .slice (some ⟨w.heap.size + 1 + 1, 0, none⟩) 2 2, .int .i64 0, .slice (some ⟨w.heap.size + 1 + 1 + 1, 0, none⟩) 1 1, .int .i64 0, .slice none 0 0] 35)).alloc (.cells #[.int .i64 0, .int .i64 1, .slice (some ⟨w.heap.size, 0, none⟩) 1 1, .slice (some ⟨w.heap.size + 1, 0, none⟩) 1 1, .slice (some ⟨w.heap.size + 1 + 1 + 1 + 1, 0, none⟩) 3 3] 41)) w.heap.size 9 ([⟨#[83]⟩].map Value.string) := (((((Bk.new w 9 [.string ⟨#[83]⟩]).alloc _).alloc _).alloc _).alloc _).alloc _
  have k1 : Bk ((((((w.alloc (.cells #[.string ⟨#[83]⟩] 9)).alloc (.cells #[.string ⟨#[120]⟩] 9)).alloc (.cells #[.int .i64 0, .int .i64 0] 3)).alloc (.cells #[.int .i64 (-1)] 3)).alloc (.cells #[.int .i64 0, .slice (some ⟨w.heap.size + 1 + 1, 0, none⟩) 2 2, .int .i64 0, .slice (some ⟨w.heap.size + 1 + 1 + 1, 0, none⟩) 1 1, .int .i64 0, .slice none 0 0] 35)).alloc (.cells #[.int .i64 0, .int .i64 1, .slice (some ⟨w.heap.size, 0, none⟩) 1 1, .slice (some ⟨w.heap.size + 1, 0, none⟩) 1 1, .slice (some ⟨w.heap.size + 1 + 1 + 1 + 1, 0, none⟩) 3 3] 41)) (w.heap.size + 1) 9 ([⟨#[120]⟩].map Value.string) := bk_at (((((Bk.new (w.alloc (.cells #[.string ⟨#[83]⟩] 9)) 9 [.string ⟨#[120]⟩]).alloc _).alloc _).alloc _).alloc _) (by simp)
  have k2 : Bk ((((((w.alloc (.cells #[.string ⟨#[83]⟩] 9)).alloc (.cells #[.string ⟨#[120]⟩] 9)).alloc (.cells #[.int .i64 0, .int .i64 0] 3)).alloc (.cells #[.int .i64 (-1)] 3)).alloc (.cells #[.int .i64 0, .slice (some ⟨w.heap.size + 1 + 1, 0, none⟩) 2 2, .int .i64 0, .slice (some ⟨w.heap.size + 1 + 1 + 1, 0, none⟩) 1 1, .int .i64 0, .slice none 0 0] 35)).alloc (.cells #[.int .i64 0, .int .i64 1, .slice (some ⟨w.heap.size, 0, none⟩) 1 1, .slice (some ⟨w.heap.size + 1, 0, none⟩) 1 1, .slice (some ⟨w.heap.size + 1 + 1 + 1 + 1, 0, none⟩) 3 3] 41)) (w.heap.size + 1 + 1) 3 ([0, 0].map (Value.int .i64)) := bk_at ((((Bk.new ((w.alloc (.cells #[.string ⟨#[83]⟩] 9)).alloc (.cells #[.string ⟨#[120]⟩] 9)) 3 [.int .i64 0, .int .i64 0]).alloc _).alloc _).alloc _) (by simp)
  have k3 : Bk ((((((w.alloc (.cells #[.string ⟨#[83]⟩] 9)).alloc (.cells #[.string ⟨#[120]⟩] 9)).alloc (.cells #[.int .i64 0, .int .i64 0] 3)).alloc (.cells #[.int .i64 (-1)] 3)).alloc (.cells #[.int .i64 0, .slice (some ⟨w.heap.size + 1 + 1, 0, none⟩) 2 2, .int .i64 0, .slice (some ⟨w.heap.size + 1 + 1 + 1, 0, none⟩) 1 1, .int .i64 0, .slice none 0 0] 35)).alloc (.cells #[.int .i64 0, .int .i64 1, .slice (some ⟨w.heap.size, 0, none⟩) 1 1, .slice (some ⟨w.heap.size + 1, 0, none⟩) 1 1, .slice (some ⟨w.heap.size + 1 + 1 + 1 + 1, 0, none⟩) 3 3] 41)) (w.heap.size + 1 + 1 + 1) 3 ([-1].map (Value.int .i64)) := bk_at (((Bk.new (((w.alloc (.cells #[.string ⟨#[83]⟩] 9)).alloc (.cells #[.string ⟨#[120]⟩] 9)).alloc (.cells #[.int .i64 0, .int .i64 0] 3)) 3 [.int .i64 (-1)]).alloc _).alloc _) (by simp)
  have k4 : Bk ((((((w.alloc (.cells #[.string ⟨#[83]⟩] 9)).alloc (.cells #[.string ⟨#[120]⟩] 9)).alloc (.cells #[.int .i64 0, .int .i64 0] 3)).alloc (.cells #[.int .i64 (-1)] 3)).alloc (.cells #[.int .i64 0, .slice (some ⟨w.heap.size + 1 + 1, 0, none⟩) 2 2, .int .i64 0, .slice (some ⟨w.heap.size + 1 + 1 + 1, 0, none⟩) 1 1, .int .i64 0, .slice none 0 0] 35)).alloc (.cells #[.int .i64 0, .int .i64 1, .slice (some ⟨w.heap.size, 0, none⟩) 1 1, .slice (some ⟨w.heap.size + 1, 0, none⟩) 1 1, .slice (some ⟨w.heap.size + 1 + 1 + 1 + 1, 0, none⟩) 3 3] 41)) (w.heap.size + 1 + 1 + 1 + 1) 35 [.int .i64 0, .slice (some ⟨w.heap.size + 1 + 1, 0, none⟩) 2 2, .int .i64 0, .slice (some ⟨w.heap.size + 1 + 1 + 1, 0, none⟩) 1 1, .int .i64 0, .slice none 0 0] := bk_at ((Bk.new ((((w.alloc (.cells #[.string ⟨#[83]⟩] 9)).alloc (.cells #[.string ⟨#[120]⟩] 9)).alloc (.cells #[.int .i64 0, .int .i64 0] 3)).alloc (.cells #[.int .i64 (-1)] 3)) 35 [.int .i64 0, .slice (some ⟨w.heap.size + 1 + 1, 0, none⟩) 2 2, .int .i64 0, .slice (some ⟨w.heap.size + 1 + 1 + 1, 0, none⟩) 1 1, .int .i64 0, .slice none 0 0]).alloc _) (by simp)
  have k5 : Bk ((((((w.alloc (.cells #[.string ⟨#[83]⟩] 9)).alloc (.cells #[.string ⟨#[120]⟩] 9)).alloc (.cells #[.int .i64 0, .int .i64 0] 3)).alloc (.cells #[.int .i64 (-1)] 3)).alloc (.cells #[.int .i64 0, .slice (some ⟨w.heap.size + 1 + 1, 0, none⟩) 2 2, .int .i64 0, .slice (some ⟨w.heap.size + 1 + 1 + 1, 0, none⟩) 1 1, .int .i64 0, .slice none 0 0] 35)).alloc (.cells #[.int .i64 0, .int .i64 1, .slice (some ⟨w.heap.size, 0, none⟩) 1 1, .slice (some ⟨w.heap.size + 1, 0, none⟩) 1 1, .slice (some ⟨w.heap.size + 1 + 1 + 1 + 1, 0, none⟩) 3 3] 41)) (w.heap.size + 1 + 1 + 1 + 1 + 1) 41 [.int .i64 0, .int .i64 1, .slice (some ⟨w.heap.size, 0, none⟩) 1 1, .slice (some ⟨w.heap.size + 1, 0, none⟩) 1 1, .slice (some ⟨w.heap.size + 1 + 1 + 1 + 1, 0, none⟩) 3 3] := bk_at (Bk.new (((((w.alloc (.cells #[.string ⟨#[83]⟩] 9)).alloc (.cells #[.string ⟨#[120]⟩] 9)).alloc (.cells #[.int .i64 0, .int .i64 0] 3)).alloc (.cells #[.int .i64 (-1)] 3)).alloc (.cells #[.int .i64 0, .slice (some ⟨w.heap.size + 1 + 1, 0, none⟩) 2 2, .int .i64 0, .slice (some ⟨w.heap.size + 1 + 1 + 1, 0, none⟩) 1 1, .int .i64 0, .slice none 0 0] 35)) 41 [.int .i64 0, .int .i64 1, .slice (some ⟨w.heap.size, 0, none⟩) 1 1, .slice (some ⟨w.heap.size + 1, 0, none⟩) 1 1, .slice (some ⟨w.heap.size + 1 + 1 + 1 + 1, 0, none⟩) 3 3]) (by simp)
  have hb : Below w.heap.size w ((((((w.alloc (.cells #[.string ⟨#[83]⟩] 9)).alloc (.cells #[.string ⟨#[120]⟩] 9)).alloc (.cells #[.int .i64 0, .int .i64 0] 3)).alloc (.cells #[.int .i64 (-1)] 3)).alloc (.cells #[.int .i64 0, .slice (some ⟨w.heap.size + 1 + 1, 0, none⟩) 2 2, .int .i64 0, .slice (some ⟨w.heap.size + 1 + 1 + 1, 0, none⟩) 1 1, .int .i64 0, .slice none 0 0] 35)).alloc (.cells #[.int .i64 0, .int .i64 1, .slice (some ⟨w.heap.size, 0, none⟩) 1 1, .slice (some ⟨w.heap.size + 1, 0, none⟩) 1 1, .slice (some ⟨w.heap.size + 1 + 1 + 1 + 1, 0, none⟩) 3 3] 41)) := ((((((Below.refl _ w).alloc (Nat.le_refl _) _).alloc (by simp) _).alloc (by simp; omega) _).alloc (by simp; omega) _).alloc (by simp; omega) _).alloc (by simp; omega) _
  obtain ⟨W, hW⟩ : ∃ W, W = ((((((w.alloc (.cells #[.string ⟨#[83]⟩] 9)).alloc (.cells #[.string ⟨#[120]⟩] 9)).alloc (.cells #[.int .i64 0, .int .i64 0] 3)).alloc (.cells #[.int .i64 (-1)] 3)).alloc (.cells #[.int .i64 0, .slice (some ⟨w.heap.size + 1 + 1, 0, none⟩) 2 2, .int .i64 0, .slice (some ⟨w.heap.size + 1 + 1 + 1, 0, none⟩) 1 1, .int .i64 0, .slice none 0 0] 35)).alloc (.cells #[.int .i64 0, .int .i64 1, .slice (some ⟨w.heap.size, 0, none⟩) 1 1, .slice (some ⟨w.heap.size + 1, 0, none⟩) 1 1, .slice (some ⟨w.heap.size + 1 + 1 + 1 + 1, 0, none⟩) 3 3] 41)) := ⟨_, rfl⟩
  rw [← hW] at k0 k1 k2 k3 k4 k5 hb ⊢
  clear hW
  refine ⟨⟨bk_rowS k0, bk_rowS k1, fun i x hx => ?_, by decide, by decide, by decide, by decide⟩, k5, hb⟩
  match i, hx with
  | 0, hx =>
    cases hx
    exact ⟨_, 0, _, _, rfl, k4.lt, k4.cell 0, k4.cell 1, bk_rowI k2⟩
  | 1, hx =>
    cases hx
    exact ⟨_, 0, _, _, rfl, k4.lt, k4.cell 2, k4.cell 3, bk_rowI k3⟩
  | 2, hx =>
    cases hx
    exact ⟨_, 0, none, 0, rfl, k4.lt, k4.cell 4, k4.cell 5, fun j hj => by simp at hj⟩
  | i + 3, hx => simp [spG] at hx

set_option maxHeartbeats 4000000 in
theorem speaks09_calls (w : World) : Calls Try.prog 27 #[] w fun e w' => e = .returned (.bool true) ∧ Below w.heap.size w w' := by
  have hm := sp_made w
  go_enter Try.func27, Try.ntmps27
  go_upto_region 2 with fail
  obtain ⟨wd, hwd⟩ : ∃ wd, wd = ((((((w.alloc (.cells #[.string ⟨#[83]⟩] 9)).alloc (.cells #[.string ⟨#[120]⟩] 9)).alloc (.cells #[.int .i64 0, .int .i64 0] 3)).alloc (.cells #[.int .i64 (-1)] 3)).alloc (.cells #[.int .i64 0, .slice (some ⟨w.heap.size + 1 + 1, 0, none⟩) 2 2, .int .i64 0, .slice (some ⟨w.heap.size + 1 + 1 + 1, 0, none⟩) 1 1, .int .i64 0, .slice none 0 0] 35)).alloc (.cells #[.int .i64 0, .int .i64 1, .slice (some ⟨w.heap.size, 0, none⟩) 1 1, .slice (some ⟨w.heap.size + 1, 0, none⟩) 1 1, .slice (some ⟨w.heap.size + 1 + 1 + 1 + 1, 0, none⟩) 3 3] 41)) := ⟨_, rfl⟩
  obtain ⟨b, hb⟩ : ∃ b, b = w.heap.size + 1 + 1 + 1 + 1 + 1 := ⟨_, rfl⟩
  obtain ⟨gn, hgn⟩ : ∃ gn : Option Addr, gn = some ⟨w.heap.size, 0, none⟩ := ⟨_, rfl⟩
  obtain ⟨gt, hgt⟩ : ∃ gt : Option Addr, gt = some ⟨w.heap.size + 1, 0, none⟩ := ⟨_, rfl⟩
  obtain ⟨gp, hgp⟩ : ∃ gp : Option Addr, gp = some ⟨w.heap.size + 1 + 1 + 1 + 1, 0, none⟩ := ⟨_, rfl⟩
  rw [← hwd, ← hgn, ← hgt, ← hgp, ← hb] at hm
  rw [← hwd, ← hgn, ← hgt, ← hgp, ← hb]
  clear hwd hb hgn hgt hgp
  have c0 := hm.k.cell 0
  have c1 := hm.k.cell 1
  have c2 := hm.k.cell 2
  have c3 := hm.k.cell 3
  have c4 := hm.k.cell 4
  have Hm := hid hm
  simp only [List.getElem?_cons_zero, List.getElem?_cons_succ, spG, List.length_cons, List.length_nil, Nat.reduceAdd] at c0 c1 c2 c3 c4
  clear hm
  have Hm2 := hid (GAt.drew (Hid.out Hm))
  go_region_held3 (fun w' => w'.cell? ⟨b, 0, none⟩ = some (.int .i64 0) ∧ w'.cell? ⟨b, 1, none⟩ = some (.int .i64 1) ∧ w'.cell? ⟨b, 2, none⟩ = some (.slice gn 1 1) ∧ w'.cell? ⟨b, 3, none⟩ = some (.slice gt 1 1) ∧ w'.cell? ⟨b, 4, none⟩ = some (.slice gp 3 3) ∧ Hid (GAt w b spG gn gt gp 1 1 3 w'))
    (first | exact ⟨‹_›, ‹_›, ‹_›, ‹_›, ‹_›, ‹_›⟩ | exact ⟨c0, c1, c2, c3, c4, Hm2⟩)
    (first | (go_at_call 33; refine (null_sp _ gn gt gp 1 1 3 ?_).mono ?_; (exact GAt.g (Hid.out Hm2)); rintro e w1 ⟨g1, o1, cap1, rfl, hc1, hl1, hb1⟩; have Hg1 : Hid (GAt w b spG gn gt gp 1 1 3 w1) := hid (GAt.later (Hid.out Hm2) hb1); have d10 := (GAt.k (Hid.out Hg1)).cell 0; have d11 := (GAt.k (Hid.out Hg1)).cell 1; have d12 := (GAt.k (Hid.out Hg1)).cell 2; have d13 := (GAt.k (Hid.out Hg1)).cell 3; have d14 := (GAt.k (Hid.out Hg1)).cell 4; simp only [List.getElem?_cons_zero, List.getElem?_cons_succ, spG, List.length_cons, List.length_nil, Nat.reduceAdd] at d10 d11 d12 d13 d14) | (go_at_call 28; refine (short_sp _ gn gt gp 1 1 3 ?_).mono ?_; (exact GAt.g (Hid.out Hg1)); rintro e w2 ⟨g2, cap2, rfl, hc2, hl2, hb2⟩; have Hg2 : Hid (GAt w b spG gn gt gp 1 1 3 w2) := hid (GAt.later (Hid.out Hg1) hb2); have d20 := (GAt.k (Hid.out Hg2)).cell 0; have d21 := (GAt.k (Hid.out Hg2)).cell 1; have d22 := (GAt.k (Hid.out Hg2)).cell 2; have d23 := (GAt.k (Hid.out Hg2)).cell 3; have d24 := (GAt.k (Hid.out Hg2)).cell 4; simp only [List.getElem?_cons_zero, List.getElem?_cons_succ, spG, List.length_cons, List.length_nil, Nat.reduceAdd] at d20 d21 d22 d23 d24) | (go_at_call 46; refine (loops_sp _ gn gt gp 1 1 3 ?_).mono ?_; (exact GAt.g (Hid.out Hg2)); rintro e w3 ⟨g3, o3, cap3, rfl, hc3, hl3, hb3⟩; have Hg3 : Hid (GAt w b spG gn gt gp 1 1 3 w3) := hid (GAt.later (Hid.out Hg2) hb3); have d30 := (GAt.k (Hid.out Hg3)).cell 0; have d31 := (GAt.k (Hid.out Hg3)).cell 1; have d32 := (GAt.k (Hid.out Hg3)).cell 2; have d33 := (GAt.k (Hid.out Hg3)).cell 3; have d34 := (GAt.k (Hid.out Hg3)).cell 4; simp only [List.getElem?_cons_zero, List.getElem?_cons_succ, spG, List.length_cons, List.length_nil, Nat.reduceAdd] at d30 d31 d32 d33 d34))
  have e1 : w3.cell? ⟨g1, o1, none⟩ = some (.bool true) := (hb3.cell (p := ⟨g1, o1, none⟩) (Nat.lt_of_lt_of_le hl1 hb2.size)).trans ((hb2.cell (p := ⟨g1, o1, none⟩) hl1).trans hc1)
  have e2 : w3.cell? ⟨g2, 0, none⟩ = some (.int .i64 0) := (hb3.cell (p := ⟨g2, 0, none⟩) hl2).trans hc2
  have hbw := (GAt.b (Hid.out Hg3))
  clear hc1 hc2 hb1 hb2 hb3 Hg1 Hg2
  go_wp2_with fail
  go_ret
  exact ⟨rfl, hbw⟩
end Go.Proofs.Ytbpgolmbielpgaa
