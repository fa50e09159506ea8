/- Chapter 10 (lang): what Words answers of a small grammar. -/
import Derived.Test.YtaehooafdbaomaaRefWords
import Derived.Test.YtaehooafdbaomaaLangDbl
namespace Go.Proofs.Ytaehooafdbaomaa
open Go.RowKit
attribute [local go_sem ↓] Go.wp_at_zero Go.wp_at_succ
attribute [local go_sem] frozen_alloc_lt

open Classical in
/-- Whether a text is derived. -/
noncomputable def derB (G : Gr) (z : List UInt8) : Bool := decide (Lg.Der G.prods [G.start] z)
theorem derB_iff (G : Gr) (z : List UInt8) : derB G z = true ↔ Lg.Der G.prods [G.start] z := by simp [derB]
theorem derB_fo {G : Gr} (hs : Pl.soundB G = true) (z : List UInt8) : derB G z = true ↔ ∃ f, Fo.Of G.prods (toI z) f [G.start] 0 (toI z).length := by
  have hsn := sndG hs
  rw [derB_iff]
  have h := Lg.der_iff (ps := G.prods) (fun x hx s hs => by have := hsn.r0 x hx s hs; have := hsn.t1; omega) G.start.toNat z
  have h0 := hsn.s0
  rwa [show ((G.start.toNat : Nat) : Int) = G.start by omega] at h
/-- Words of a small grammar. -/
theorem words_small (w : World) (G : Gr) (gn gt gp : Option Addr) (cn ct cp : Nat) (most : Nat) (hm : most ≤ 4) (ht : G.terms.length ≤ 3) (hs : Pl.soundB G = true) (hg : GIn w G gn gt gp) (hc : CapP w gp G.prods) :
    Calls Try.prog 53 #[.agg #[.int .i64 G.start, .int .i64 G.rules, .slice gn G.names.length cn, .slice gt G.terms.length ct, .slice gp G.prods.length cp], .int .i64 (most : Int)] w fun e w' =>
      ∃ (ga : Option Addr) (ca : Nat), e = .returned (.tuple #[.slice ga (wordsB G.terms.length (derB G) (most + 1)).length ca, .int .i64 0]) ∧ OwnA WdR 1 w' w.heap.size 22 (.slice ga (wordsB G.terms.length (derB G) (most + 1)).length ca) (wordsB G.terms.length (derB G) (most + 1)) ∧ Below w.heap.size w w' := by
  have hsn := sndG hs
  refine (words_calls w G gn gt gp cn ct cp most (by omega) hs hg hc).mono ?_
  rintro e w' ⟨h1 | ⟨-, ks, live, -, -, h2⟩, hb⟩
  · obtain ⟨v, ss, rfl, hp, hz, -, ho⟩ := h1
    have e1 := words_same (t := G.terms.length) hsn.s0 hsn.t1 hsn.r0 hp hz (d := derB G) (fun z _ => derB_iff G z)
    rw [e1] at ho
    obtain ⟨ga, ca, hv⟩ := ho.slice
    rw [hv] at ho ⊢
    exact ⟨ga, ca, rfl, ho, hb⟩
  · exact (Lg.few_fit ht hsn.r0 hm h2).elim
/-- The document's. -/
theorem rwords_small (w : World) (G : Gr) (gn gt gp : Option Addr) (cn ct cp : Nat) (h : GIn w G gn gt gp) (hs : Pl.soundB G = true) (most : Nat) (hm : most ≤ 4) (ht : G.terms.length ≤ 3) :
    Calls Try.prog 54 #[.agg #[.int .i64 G.start, .int .i64 G.rules, .slice gn G.names.length cn, .slice gt G.terms.length ct, .slice gp G.prods.length cp], .int .i64 (most : Int)] w fun e w' =>
      ∃ (ga : Option Addr) (ca : Nat), e = .returned (.slice ga (wordsB G.terms.length (derB G) (most + 1)).length ca) ∧ OwnA WdR 1 w' w.heap.size 22 (.slice ga (wordsB G.terms.length (derB G) (most + 1)).length ca) (wordsB G.terms.length (derB G) (most + 1)) ∧ Below w.heap.size w w' := by
  refine (rwords_calls w G gn gt gp cn ct cp h hs most hm ht (derB G) (derB_fo hs)).mono ?_
  rintro e w' ⟨v, rfl, ho, hb⟩
  obtain ⟨ga, ca, hv⟩ := ho.slice
  rw [hv] at ho ⊢
  exact ⟨ga, ca, rfl, ho, hb⟩
/-- An element of a row of words, read later. -/
theorem wd_at {w w' : World} {B : Nat} {ga : Option Addr} {n ca : Nat} {l : List (List UInt8)} (h : OwnA WdR 1 w B 22 (.slice ga n ca) l) (hb : Below w.heap.size w w') {i : Nat} {z : List UInt8} (hi : l[i]? = some z) :
    ∃ (g : Nat) (gx : Option Addr) (cx : Nat), ga = some ⟨g, 0, none⟩ ∧ g < w.heap.size ∧ w'.cell? ⟨g, i, none⟩ = some (.slice gx z.length cx) ∧ RowI w' w'.heap.size gx (toI z) := by
  obtain ⟨ga', cap, hv, hl⟩ := h.lies WdR.fit
  injection hv with h1 h2 h3
  subst h1
  obtain ⟨g, x, rfl, -, hg, ⟨gx, cx, rfl, hr⟩, hx⟩ := hl i z hi
  have hc := hx 0 _ rfl
  rw [Nat.mul_one, Nat.add_zero] at hc
  exact ⟨g, gx, cx, rfl, hg, (hb.cell (p := ⟨g, i, none⟩) hg).trans hc, (RowI.below (B := w.heap.size) (hr.mono fun k hk => hk.2) hb).mono hb.size⟩
end Go.Proofs.Ytaehooafdbaomaa
