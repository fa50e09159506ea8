/- Chapter 5 (syntax): nodes in memory; around, given alternation. -/
import Derived.Test.YtjaampgpihicmaaSyn2
namespace Go.Proofs.Ytjaampgpihicmaa
open Go.RowKit
attribute [local go_sem ↓] Go.wp_at_zero Go.wp_at_succ
attribute [local go_sem] frozen_alloc_lt
open Syn (Nd Nod)

/-- Nodes lie in blocks of which D holds, from place i of a row on. -/
def NdAt (w : World) (D : Nat → Prop) (ga : Option Addr) : Nd → Nat → Prop
  | .nil, _ => True
  | .cons a t k r, i => (∃ (g off : Nat) (gk : Option Addr) (ck : Nat), ga = some ⟨g, off, none⟩ ∧ D g ∧ w.cell? ⟨g, off + i * 3, none⟩ = some (.int .i64 a) ∧ w.cell? ⟨g, off + i * 3 + 1, none⟩ = some (.string ⟨t.toArray⟩) ∧ w.cell? ⟨g, off + i * 3 + 2, none⟩ = some (.slice gk k.len ck) ∧ NdAt w D gk k 0) ∧ NdAt w D ga r (i + 1)
theorem NdAt.mono {w : World} {D D' : Nat → Prop} (hd : ∀ k, D k → D' k) : ∀ {f : Nd} {ga : Option Addr} {i : Nat}, NdAt w D ga f i → NdAt w D' ga f i
  | .nil, _, _, _ => trivial
  | .cons a t k r, ga, i, h => by
    unfold NdAt at h ⊢
    obtain ⟨⟨g, off, gk, ck, h1, h2, h3, h4, h5, h6⟩, h7⟩ := h
    exact ⟨⟨g, off, gk, ck, h1, hd g h2, h3, h4, h5, NdAt.mono hd h6⟩, NdAt.mono hd h7⟩
theorem NdAt.kp {w w' : World} {D S : Nat → Prop} (hk : Kp S w w') (hd : ∀ k, D k → ¬ S k) : ∀ {f : Nd} {ga : Option Addr} {i : Nat}, NdAt w D ga f i → NdAt w' D ga f i
  | .nil, _, _, _ => trivial
  | .cons a t k r, ga, i, h => by
    unfold NdAt at h ⊢
    obtain ⟨⟨g, off, gk, ck, h1, h2, h3, h4, h5, h6⟩, h7⟩ := h
    exact ⟨⟨g, off, gk, ck, h1, h2, hk.cell h3 (hd g h2), hk.cell h4 (hd g h2), hk.cell h5 (hd g h2), NdAt.kp hk hd h6⟩, NdAt.kp hk hd h7⟩
/-- Blocks from b on. -/
def From (b : Nat) (w : World) (k : Nat) : Prop := b ≤ k ∧ k < w.heap.size
theorem gb_kp {w w' : World} {b : Nat} (hg : w.grownBy w' (some b)) : Kp (fun k => k = b) w w' := (Kp.refl _ w).grown hg (fun k hk _ => by injection hk with hk; exact hk.symm)
def nodeV (n : Nod) (gk : Option Addr) (ck : Nat) : Value := .agg #[.int .i64 n.kind, .string ⟨n.text.toArray⟩, .slice gk n.kids.len ck]
/-- A value is a node, in blocks from b on. -/
def isNode (b : Nat) (n : Nod) (v : Value) (w : World) : Prop := ∃ gk ck, v = nodeV n gk ck ∧ NdAt w (From b w) gk n.kids 0
theorem isNode.mono {w : World} {b b' : Nat} (hb : b' ≤ b) {n : Nod} {v : Value} (h : isNode b n v w) : isNode b' n v w := by
  obtain ⟨gk, ck, h1, h2⟩ := h
  exact ⟨gk, ck, h1, h2.mono fun k hk => ⟨Nat.le_trans hb hk.1, hk.2⟩⟩
theorem isNode.kp {w w' : World} {b : Nat} {S : Nat → Prop} (hk : Kp S w w') (hs : ∀ k, b ≤ k → k < w.heap.size → ¬ S k) {n : Nod} {v : Value} (h : isNode b n v w) : isNode b n v w' := by
  obtain ⟨gk, ck, h1, h2⟩ := h
  exact ⟨gk, ck, h1, (h2.kp hk (fun k hk' => hs k hk'.1 hk'.2)).mono fun k hk' => ⟨hk'.1, Nat.lt_of_lt_of_le hk'.2 hk.size⟩⟩
/-- What lies behind the parser's block may change. -/
theorem Par.kp {S : Nat → Prop} {w w' : World} {B bp : Nat} {gT : Option Addr} {cT : Nat} {T : List Lex.Tok} {i o : Nat} (h : Par w B bp gT cT T i o) (hk : Kp S w w') (hs : ∀ k, S k → bp < k) : Par w' B bp gT cT T i o := by
  have hlt := h.k.lt
  have hb : Below (bp + 1) w w' := hk.to_below (by omega) (fun k e => hs k e)
  exact ⟨h.t.below (hb.mono (by have := h.hB; omega)), h.k.below hb (by omega), h.hB, h.len, h.lt, h.last⟩
/-- The brackets that are open are set. -/
theorem Par.opens {w : World} {B bp : Nat} {gT : Option Addr} {cT : Nat} {T : List Lex.Tok} {i o : Nat} (h : Par w B bp gT cT T i o) (p : Nat) : Par (w.setCell ⟨bp, 2, none⟩ (.int .i64 p)) B bp gT cT T i p :=
  ⟨h.t.below ((Below.refl B w).setCell h.hB _), h.k.set 2 _, h.hB, h.len, h.lt, h.last⟩
/-- What around answers, when its alternation answers. -/
def arndOf (T : List Lex.Tok) (e : List UInt8) (r : Syn.Res Nod) : Syn.Res Nod := match r with
  | .bad f => .bad f
  | .ok n i o => match Syn.takeS T e i o with
    | .bad f => .bad f
    | .ok _ j p => .ok n j (p - 1)
theorem take_o {T : List Lex.Tok} {e : List UInt8} {i o j p : Nat} {u : Unit} (h : Syn.takeS T e i o = .ok u j p) : p = o := by
  unfold Syn.takeS at h
  split at h
  · cases h
  · split at h
    · cases h; rfl
    · cases h
set_option maxRecDepth 8000 in
set_option maxHeartbeats 2000000 in
theorem around_deep {w : World} {B bp : Nat} {gT : Option Addr} {cT : Nat} {T : List Lex.Tok} {i : Nat} (h : Par w B bp gT cT T i 16) (s : List UInt8) :
    Calls Try.prog 148 #[.pointer (some ⟨bp, 0, none⟩), .string ⟨s.toArray⟩] w (PEnd (isNode w.heap.size) w B bp gT cT T (.bad (Syn.flt T i 11))) := by
  have k2 := h.k.cell 2
  simp only [List.getElem?_cons_zero, List.getElem?_cons_succ] at k2
  have hlt := h.k.lt
  go_enter Try.func148, Try.ntmps148
  go_wp2_with (go_at_call 97; refine (sfail_calls (h.below ((Below.refl _ _).alloc (Nat.le_refl _) _)) 11).mono ?_; rintro e w2 ⟨rfl, hb2⟩)
  refine ⟨rfl, PEnd.isBad rfl (below_gb (((Below.refl _ _).alloc (Nat.le_refl _) _).trans (hb2.mono (by simp))) _)⟩
end Go.Proofs.Ytjaampgpihicmaa
