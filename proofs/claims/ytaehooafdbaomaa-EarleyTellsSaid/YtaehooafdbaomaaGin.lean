/- A grammar that came in; small words on worlds. No program but its types' numbers. -/
import Derived.Test.YtaehooafdbaomaaPlain2
import Derived.Test.YtaehooafdbaomaaOwnII
import Derived.Test.YtaehooafdbaomaaMake
import Derived.Deep.RegionLaw
import Derived.Lib.Bytealg
namespace Go.Proofs.Ytaehooafdbaomaa
open Go.RowKit

theorem bk_at {w : World} {b b' : Nat} {t : TypeId} {cs : List Value} (h : Bk w b t cs) (e : b = b') : Bk w b' t cs := e ▸ h
theorem belw {a b c : World} (h : Below a.heap.size a b) (k : Below b.heap.size b c) : Below a.heap.size a c := h.trans (k.mono h.size)
theorem bcellT {W w1 : World} (hb : Below W.heap.size W w1) : (∀ b o, b < W.heap.size → w1.cell? ⟨b, o, none⟩ = W.cell? ⟨b, o, none⟩) ∧ (∀ b o, b < W.heap.size → w1.frozen? ⟨b, o, none⟩ = W.frozen? ⟨b, o, none⟩) :=
  ⟨fun b o h => hb.cell (p := ⟨b, o, none⟩) h, fun b o h => hb.frozen (p := ⟨b, o, none⟩) h⟩
theorem bel_al {a b : World} (h : Below a.heap.size a b) (o : Obj) : Below a.heap.size a (b.alloc o) := h.alloc h.size o
theorem bel_id (a : World) : Below a.heap.size a a := Below.refl _ _
theorem bk_own {w : World} {B g n : Nat} {e : TypeId} {xs : List Value} (h : Bk w g e xs) (hB : B ≤ g) (hn : xs.length = n) (hs : n ≤ 9223372036854775807) : w.ownsRow B e 1 (.slice (some ⟨g, 0, none⟩) n n) n xs := by
  subst hn
  exact ⟨by omega, .inr ⟨g, xs.length, xs.toArray, rfl, hB, h, Nat.le_refl _, by unfold maxLen; omega, by simp, by simp⟩⟩

theorem intInfo : (Try.prog.info? 3).map (fun i => (i.zero, i.size, i.bytes)) = some (some (.int .i64 0), 1, 8) := by kernel_rfl
theorem intsInfo : (Try.prog.info? 22).map (fun i => (i.zero, i.size, i.bytes)) = some (some (.slice none 0 0), 1, 24) := by kernel_rfl
theorem strInfo : (Try.prog.info? 9).map (fun i => (i.zero, i.size, i.bytes)) = some (some (.string ⟨#[]⟩), 1, 16) := by kernel_rfl
theorem prodInfo : (Try.prog.info? 97).map (fun i => (i.zero, i.size, i.bytes)) = some (some (.agg #[.int .i64 0, .slice none 0 0]), 2, 32) := by kernel_rfl

theorem and7 (n : Int) : ∃ m : Nat, m ≤ 7 ∧ bits .and .i64 n 7 = (m : Int) := by
  have h : (BitVec.ofInt 64 n &&& BitVec.ofInt 64 7).toNat ≤ 7 := by
    rw [BitVec.toNat_and]
    exact Nat.and_le_right
  refine ⟨(BitVec.ofInt 64 n &&& BitVec.ofInt 64 7).toNat, h, ?_⟩
  show IntKind.i64.wrap ((BitVec.ofInt 64 n &&& BitVec.ofInt 64 7).toNat : Int) = _
  rw [IntKind.wrap_i64]
  omega

theorem and3 (n : Int) : ∃ m : Nat, m ≤ 3 ∧ bits .and .i64 n 3 = (m : Int) := by
  have h : (BitVec.ofInt 64 n &&& BitVec.ofInt 64 3).toNat ≤ 3 := by
    rw [BitVec.toNat_and]
    exact Nat.and_le_right
  refine ⟨(BitVec.ofInt 64 n &&& BitVec.ofInt 64 3).toNat, h, ?_⟩
  show IntKind.i64.wrap ((BitVec.ofInt 64 n &&& BitVec.ofInt 64 3).toNat : Int) = _
  rw [IntKind.wrap_i64]
  omega

/-- What Sound says of a grammar, as inequalities. -/
structure SndG (G : Gr) : Prop where
  n0 : 1 ≤ G.names.length
  n1 : G.names.length ≤ 256
  t1 : G.terms.length ≤ 256
  p1 : G.prods.length ≤ 256
  s0 : 0 ≤ G.start
  s1 : G.start < G.names.length
  l0 : ∀ x ∈ G.prods, 0 ≤ x.1
  l1 : ∀ x ∈ G.prods, x.1 < G.names.length
  r16 : ∀ x ∈ G.prods, x.2.length ≤ 16
  r0 : ∀ x ∈ G.prods, ∀ s ∈ x.2, -(G.terms.length : Int) ≤ s
  r1 : ∀ x ∈ G.prods, ∀ s ∈ x.2, s < G.names.length

theorem Pl.prodsS_true {n t : Int} : ∀ (ps : List (Int × List Int)) (prev : Int), Pl.prodsS n t prev ps = true → ∀ x ∈ ps, 0 ≤ x.1 ∧ x.1 < n ∧ x.2.length ≤ 16 ∧ ∀ s ∈ x.2, -t ≤ s ∧ s < n
  | [], _, _, _, hx => by simp at hx
  | y :: r, prev, h, x, hx => by
    unfold Pl.prodsS at h
    split at h
    · cases h
    · rename_i h1
      split at h
      · cases h
      · rename_i h2
        simp only [not_or] at h1
        rcases List.mem_cons.1 hx with rfl | hx
        · refine ⟨by omega, by omega, by omega, fun s hs => ?_⟩
          have h3 : Pl.strange n t s = false := by
            cases h3 : Pl.strange n t s
            · rfl
            · exact absurd (List.any_eq_true.2 ⟨s, hs, h3⟩) h2
          simp [Pl.strange] at h3
          omega
        · exact prodsS_true r _ h x hx

theorem sndG {G : Gr} (h : Pl.soundB G = true) : SndG G := by
  unfold Pl.soundB at h
  split at h
  · cases h
  · rename_i h1
    split at h
    · cases h
    · rename_i h2
      simp only [not_or] at h1 h2
      have hp := Pl.prodsS_true _ _ h
      exact ⟨by omega, by omega, by omega, by omega, by omega, by omega, fun x hx => (hp x hx).1, fun x hx => (hp x hx).2.1, fun x hx => (hp x hx).2.2.1,
        fun x hx s hs => ((hp x hx).2.2.2 s hs).1, fun x hx s hs => ((hp x hx).2.2.2 s hs).2⟩

/-- A grammar that came in, as far as the walks look at it. -/
structure GIn (w : World) (G : Gr) (gn gt gp : Option Addr) : Prop where
  n : RowS w w.heap.size gn G.names
  t : RowS w w.heap.size gt G.terms
  p : RowP w w.heap.size gp G.prods
  h1 : G.names.length ≤ 9223372036854775807
  h2 : G.terms.length ≤ 9223372036854775807
  h3 : G.prods.length ≤ 9223372036854775807
  h4 : ∀ x ∈ G.prods, x.2.length ≤ 9223372036854775807

theorem GIn.later {w w' : World} {G : Gr} {gn gt gp : Option Addr} (h : GIn w G gn gt gp) (hb : Below w.heap.size w w') : GIn w' G gn gt gp :=
  ⟨(h.n.below hb).mono hb.size, (h.t.below hb).mono hb.size, (h.p.below hb).mono hb.size, h.h1, h.h2, h.h3, h.h4⟩

def gramV (G : Gr) (gn gt gp : Option Addr) (cn ct cp : Nat) : Value := .agg #[.int .i64 G.start, .int .i64 G.rules, .slice gn G.names.length cn, .slice gt G.terms.length ct, .slice gp G.prods.length cp]
def gramO (G : Gr) (gn gt gp : Option Addr) (cn ct cp : Nat) : Obj := .cells #[.int .i64 G.start, .int .i64 G.rules, .slice gn G.names.length cn, .slice gt G.terms.length ct, .slice gp G.prods.length cp] 30

end Go.Proofs.Ytaehooafdbaomaa
