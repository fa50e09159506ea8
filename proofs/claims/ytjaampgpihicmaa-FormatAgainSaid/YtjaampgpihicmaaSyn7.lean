/- Chapter 5 (syntax): rows of nodes of the call's own. -/
import Derived.Test.YtjaampgpihicmaaSyn6
import Derived.Test.YtjaampgpihicmaaOwnA
import Derived.Test.YtjaampgpihicmaaSynLaw2
namespace Go.Proofs.Ytjaampgpihicmaa.Syn
def Nd.ofList : List Nod → Nd
  | [] => .nil
  | n :: r => .cons n.kind n.text n.kids (Nd.ofList r)
theorem Nd.ofList_len : ∀ l : List Nod, (Nd.ofList l).len = l.length
  | [] => rfl
  | _ :: r => by rw [Nd.ofList, Nd.len, Nd.ofList_len r, List.length_cons]
theorem Nd.ofList_snoc (n : Nod) : ∀ l : List Nod, Nd.ofList (l ++ [n]) = (Nd.ofList l).app n.row
  | [] => rfl
  | a :: r => by rw [List.cons_append, Nd.ofList, Nd.ofList_snoc n r, Nd.ofList, Nd.app]
theorem pack_one (k : Nat) (n : Nod) : pack k (Nd.ofList [n]) = n := rfl
theorem pack_more (k : Nat) {l : List Nod} (h : l.length ≠ 1) : pack k (Nd.ofList l) = ⟨k, [], Nd.ofList l⟩ := by
  match l, h with
  | [], _ => rfl
  | [_], h => exact absurd rfl h
  | _ :: _ :: _, _ => rfl
theorem atom_moves {T : List Lex.Tok} {f i o j p : Nat} {n : Nod} (h : atomF T f i o = some (.ok (some n) j p)) : i < j := by
  have arnd : ∀ {f : Nat} {e : List UInt8} {n : Nod} {j p : Nat}, arndF T f e i o = some (.ok n j p) → i < j := by
    intro f e n j p h
    cases f with
    | zero => simp [arndF] at h
    | succ f =>
      rw [arndF] at h
      split at h
      · cases h
      obtain ⟨a, i', o', e1, e2⟩ := bind_ok h
      obtain ⟨u, i2, o2, e3, e4⟩ := bind_ok' e2
      cases e4
      have := ((agree_all T T 0 f).1 _ _ _ _ _ e1).1
      have := (takeS_ok e3).2.1
      omega
  cases f with
  | zero => simp [atomF] at h
  | succ f =>
    rw [atomF] at h
    split at h
    · cases h
    split at h
    · cases h; omega
    split at h
    · cases h; omega
    split at h
    · obtain ⟨a, i', o', e1, e2⟩ := bind_ok h
      cases e2
      exact arnd e1
    split at h
    · obtain ⟨a, i', o', e1, e2⟩ := bind_ok h
      cases e2
      exact arnd e1
    split at h
    · obtain ⟨a, i', o', e1, e2⟩ := bind_ok h
      cases e2
      exact arnd e1
    · cases h
end Go.Proofs.Ytjaampgpihicmaa.Syn
namespace Go.Proofs.Ytjaampgpihicmaa
open Go.RowKit
attribute [local go_sem ↓] Go.wp_at_zero Go.wp_at_succ
attribute [local go_sem] frozen_alloc_lt
open Syn (Nd Nod)

/-- A node's three cells. -/
def NodR (w : World) (D : Nat → Prop) (n : Nod) (x : List Value) : Prop := ∃ gk ck, x = [.int .i64 n.kind, .string ⟨n.text.toArray⟩, .slice gk n.kids.len ck] ∧ NdAt w D gk n.kids 0
theorem NodR.fit : FitA NodR 3 where
  len := by rintro w D a x ⟨_, _, rfl, _⟩; rfl
  mono := by
    rintro w D D' a x hd ⟨gk, ck, rfl, h⟩
    exact ⟨gk, ck, rfl, h.mono hd⟩
  kp := by
    rintro w w' D S a x hk hd ⟨gk, ck, rfl, h⟩
    exact ⟨gk, ck, rfl, h.kp hk hd⟩
  one := by
    rintro w D a x ⟨_, _, rfl, _⟩ u hu
    simp at hu
    rcases hu with rfl | rfl | rfl <;> rfl
theorem NdAt.row {w : World} {D : Nat → Prop} {ga : Option Addr} : ∀ {l : List Nod} {j : Nat}, (∀ (i : Nat) (n : Nod), l[i]? = some n → ∃ g x, ga = some ⟨g, 0, none⟩ ∧ D g ∧ NodR w D n x ∧ ∀ k u, x[k]? = some u → w.cell? ⟨g, (j + i) * 3 + k, none⟩ = some u) → NdAt w D ga (Nd.ofList l) j
  | [], _, _ => trivial
  | n :: r, j, h => by
    rw [Nd.ofList]
    unfold NdAt
    refine ⟨?_, NdAt.row (fun i m hm => ?_)⟩
    · obtain ⟨g, x, e, hg, ⟨gk, ck, rfl, hn⟩, hc⟩ := h 0 n rfl
      rw [Nat.add_zero] at hc
      have c0 := hc 0 _ rfl
      have c1 := hc 1 _ rfl
      have c2 := hc 2 _ rfl
      exact ⟨g, 0, gk, ck, e, hg, by rw [Nat.zero_add]; exact c0, by rw [Nat.zero_add]; exact c1, by rw [Nat.zero_add]; exact c2, hn⟩
    · obtain ⟨g, x, e, hg, hn, hc⟩ := h (i + 1) m (by simpa using hm)
      exact ⟨g, x, e, hg, hn, fun k u hu => by rw [show j + 1 + i = j + (i + 1) by omega]; exact hc k u hu⟩
/-- Own nodes, read as a row. -/
theorem own_nodes {w : World} {b : Nat} {v : Value} {l : List Nod} (h : OwnA NodR 3 w b 49 v l) : ∃ ga cap, v = .slice ga l.length cap ∧ NdAt w (From b w) ga (Nd.ofList l) 0 := by
  obtain ⟨ga, cap, hv, hc⟩ := h.lies NodR.fit
  refine ⟨ga, cap, hv, NdAt.row fun i n hn => ?_⟩
  obtain ⟨g, x, e, h1, h2, h3, h4⟩ := hc i n hn
  exact ⟨g, x, e, ⟨h1, h2⟩, h3, fun k u hu => by rw [Nat.zero_add]; exact h4 k u hu⟩
end Go.Proofs.Ytjaampgpihicmaa
