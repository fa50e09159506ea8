/- Chapter 5 (syntax): alternation, row, atom of any fuel. -/
import Derived.Test.YtjaampgpihicmaaSyn9
namespace Go.Proofs.Ytjaampgpihicmaa
open Go.RowKit
open Syn (Nd Nod)

theorem arnd_all {T : List Lex.Tok} {f : Nat} (ha : ∀ g, g < f → AltSays T g) {e : List UInt8} {i o : Nat} {r : Syn.Res Nod} (hr : Syn.arndF T f e i o = some r) (ho : o ≤ 16) (hk : (Syn.tk T i).kind ≠ 4) {B bp : Nat} {gT : Option Addr} {cT : Nat} :
    ∀ w, Par w B bp gT cT T i o → Calls Try.prog 148 #[.pointer (some ⟨bp, 0, none⟩), .string ⟨e.toArray⟩] w (PEnd (isNode w.heap.size) w B bp gT cT T r) := by
  intro w h
  cases f with
  | zero => simp [Syn.arndF] at hr
  | succ f =>
    rw [Syn.arndF] at hr
    by_cases h16 : o = 16
    · rw [if_pos h16, Option.some.injEq] at hr
      subst hr h16
      exact around_deep h e
    · rw [if_neg h16] at hr
      cases hx : Syn.altF T f (i + 1) (o + 1) with
      | none => rw [hx] at hr; simp at hr
      | some x =>
        rw [hx] at hr
        have hr2 : r = arndOf T e x := by
          cases x with
          | bad fl =>
            simp only [Option.bind_some, Syn.Res.bind, Option.some.injEq] at hr
            rw [← hr]; rfl
          | ok n j p =>
            simp only [Option.bind_some, Syn.Res.bind] at hr
            cases ht : Syn.takeS T e j p with
            | bad fl => rw [ht] at hr; simp only [Option.some.injEq] at hr; rw [← hr]; simp [arndOf, ht]
            | ok u j2 p2 =>
              rw [ht] at hr
              simp only [Option.some.injEq] at hr
              rw [← hr]
              simp [arndOf, ht]
        rw [hr2]
        refine around_calls h e (by omega) hk (fun n j p hxe => ?_) (fun w' h' => ha f (by omega) (i + 1) (o + 1) x hx (by omega) w' B bp gT cT h')
        subst hxe
        exact (Syn.same_o T f).1 _ _ _ _ _ hx
theorem atom_all {T : List Lex.Tok} {f : Nat} (ha : ∀ g, g < f → AltSays T g) : AtomSays T f := by
  intro i o x hx ho w B bp gT cT h
  cases f with
  | zero => simp [Syn.atomF] at hx
  | succ f =>
    rw [Syn.atomF] at hx
    cases hf : Syn.far T i with
    | true =>
      rw [hf, if_pos rfl, Option.some.injEq] at hx
      subst hx
      exact atom_far h hf
    | false =>
      rw [hf, if_neg (by decide)] at hx
      have brk : ∀ {s e : UInt8}, Syn.isS T i [s] = true → ∀ r, Syn.arndF T f [e] i o = some r → ∀ w', Par w' B bp gT cT T i o → Calls Try.prog 148 #[.pointer (some ⟨bp, 0, none⟩), .string ⟨#[e]⟩] w' (PEnd (isNode w'.heap.size) w' B bp gT cT T r) := fun {s e} hs r hr => arnd_all (fun g hg => ha g (by omega)) hr ho (by unfold Syn.isS at hs; simp at hs; omega)
      by_cases k1 : (Syn.tk T i).kind = 1
      · rw [if_pos k1, Option.some.injEq] at hx
        subst hx
        exact atom_ref h k1 hf
      rw [if_neg k1] at hx
      by_cases k2 : (Syn.tk T i).kind = 2
      · rw [if_pos k2, Option.some.injEq] at hx
        subst hx
        exact atom_lit h k2 hf
      rw [if_neg k2] at hx
      cases s1 : Syn.isS T i [40] with
      | true =>
        rw [s1, if_pos rfl] at hx
        cases hr : Syn.arndF T f [41] i o with
        | none => rw [hr] at hx; simp at hx
        | some r =>
          rw [hr] at hx
          have e : x = atomOf 0 r := by cases r <;> (simp only [Option.bind_some, Syn.Res.bind, Option.some.injEq] at hx; rw [← hx]; rfl)
          rw [e]
          exact atom_round h s1 hf (brk s1 r hr)
      | false =>
        rw [s1, if_neg (by decide)] at hx
        cases s2 : Syn.isS T i [91] with
        | true =>
          rw [s2, if_pos rfl] at hx
          cases hr : Syn.arndF T f [93] i o with
          | none => rw [hr] at hx; simp at hx
          | some r =>
            rw [hr] at hx
            have e : x = atomOf 5 r := by cases r <;> (simp only [Option.bind_some, Syn.Res.bind, Option.some.injEq] at hx; rw [← hx]; rfl)
            rw [e]
            exact atom_square h s2 hf (brk s2 r hr)
        | false =>
          rw [s2, if_neg (by decide)] at hx
          cases s3 : Syn.isS T i [123] with
          | true =>
            rw [s3, if_pos rfl] at hx
            cases hr : Syn.arndF T f [125] i o with
            | none => rw [hr] at hx; simp at hx
            | some r =>
              rw [hr] at hx
              have e : x = atomOf 6 r := by cases r <;> (simp only [Option.bind_some, Syn.Res.bind, Option.some.injEq] at hx; rw [← hx]; rfl)
              rw [e]
              exact atom_curly h s3 hf (brk s3 r hr)
          | false =>
            rw [s3, if_neg (by decide), Option.some.injEq] at hx
            subst hx
            exact atom_none h k1 k2 s1 s2 s3 hf
theorem alt_all (T : List Lex.Tok) (f : Nat) : AltSays T f := by
  induction f using Nat.strongRecOn with
  | ind f ih =>
    refine alt_calls fun g hg => row_calls fun g' hg' => atom_all fun g2 hg2 => ih g2 (by omega)
end Go.Proofs.Ytjaampgpihicmaa
