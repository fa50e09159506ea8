/- Chapter 7 (symbols): the rules of a grammar, copied into a row of one's own. -/
import Derived.Test.YtjaampgpihicmaaSyn16
namespace Go.Proofs.Ytjaampgpihicmaa
open Go.RowKit
open Syn (Nd Nod)

theorem addr_addo (g o i : Nat) : ((⟨g, o, none⟩ : Addr).add i) = ⟨g, o + i, none⟩ := by unfold Addr.add; split <;> simp_all
theorem AllA.mapS2 {α : Type} {R R' : World → (Nat → Prop) → α → List Value → Prop} {w w' : World} {D D' : Nat → Prop} (h : ∀ a x, R w D a x → R' w' D' a x) : ∀ {ls : List α} {xs : List (List Value)}, AllA R w D ls xs → AllA R' w' D' ls xs
  | [], _, e => e
  | _ :: _, _, ⟨x, ys, e, h1, h2⟩ => ⟨x, ys, e, h _ _ h1, AllA.mapS2 h h2⟩
/-- Rules in memory, as a row of cells. -/
theorem rules_row {w : World} {D : Nat → Prop} {g : Nat} : ∀ (rs : List (List UInt8 × Nod)) (off : Nat), RulesM w D (some ⟨g, off, none⟩) rs → ∃ xs, AllA RuleR w D rs xs ∧ ∀ j u, xs.flatten[j]? = some u → w.cell? ⟨g, off + j, none⟩ = some u
  | [], _, _ => ⟨[], rfl, fun j u h => by simp at h⟩
  | x :: r, off, h => by
    obtain ⟨g', o', gk, ck, e, _, c0, c1, c2, c3, hn⟩ := h 0 x rfl
    injection e with e
    injection e with e1 e2
    subst e1 e2
    obtain ⟨xs, h1, h2⟩ := rules_row r (off + 4) (fun i y hy => by
      obtain ⟨g', o', gk', ck', e, hd, d0, d1, d2, d3, hn'⟩ := h (i + 1) y (by simpa using hy)
      injection e with e
      injection e with e1 e2
      subst e1 e2
      rw [Nat.succ_mul, show off + (i * 4 + 4) = off + 4 + i * 4 by omega] at d0 d1 d2 d3
      exact ⟨_, _, gk', ck', rfl, hd, d0, d1, d2, d3, hn'⟩)
    refine ⟨_, ⟨_, xs, rfl, ⟨gk, ck, rfl, hn⟩, h1⟩, fun j u hj => ?_⟩
    rw [List.flatten_cons] at hj
    rw [Nat.zero_mul] at c0 c1 c2 c3
    rcases Nat.lt_or_ge j 4 with hj4 | hj4
    · rw [List.getElem?_append_left (by simpa using hj4)] at hj
      match j, hj4 with
      | 0, _ => simp at hj; rw [← hj]; exact c0
      | 1, _ => simp at hj; rw [← hj]; exact c1
      | 2, _ => simp at hj; rw [← hj]; exact c2
      | 3, _ => simp at hj; rw [← hj]; exact c3
    · rw [List.getElem?_append_right (by simpa using hj4)] at hj
      have := h2 (j - 4) u (by simpa using hj)
      rw [show off + 4 + (j - 4) = off + j by omega] at this
      exact this
theorem AllA.one {α : Type} {R : World → (Nat → Prop) → α → List Value → Prop} {c : Nat} {w : World} {D : Nat → Prop} (hR : FitA R c) : ∀ {ls : List α} {xs : List (List Value)}, AllA R w D ls xs → ∀ u ∈ xs.flatten, u.oneCell' = true
  | [], _, h, u, hu => by
    unfold AllA at h
    subst h
    simp at hu
  | _ :: _, _, ⟨y, ys, e, h1, h2⟩, u, hu => by
    subst e
    rw [List.flatten_cons, List.mem_append] at hu
    rcases hu with hu | hu
    · exact hR.one h1 u hu
    · exact AllA.one hR h2 u hu
/-- A rule whose nodes lie below block H. -/
def RuleP (H : Nat) (w : World) (D : Nat → Prop) (x : List UInt8 × Nod) (cs : List Value) : Prop := RuleR w (fun k => D k ∧ k < H) x cs
theorem RuleP.fit (H : Nat) : FitA (RuleP H) 4 where
  len := fun h => RuleR.fit.len h
  mono := fun hD h => RuleR.fit.mono (fun k hk => ⟨hD k hk.1, hk.2⟩) h
  kp := fun hk hd h => RuleR.fit.kp hk (fun k h2 => hd k h2.1) h
  one := fun h => RuleR.fit.one h
theorem OwnA.kpP {H B : Nat} {w w' : World} {S : Nat → Prop} {T : TypeId} {v : Value} {rs : List (List UInt8 × Nod)} (h : OwnA (RuleP H) 4 w B T v rs) (hk : Kp S w w') (hs : ∀ k, S k → H ≤ k) (hv : ∀ g, v.ownBlock = some g → ¬ S g) : OwnA (RuleP H) 4 w' B T v rs := by
  obtain ⟨xs, h1, h2⟩ := h
  refine ⟨xs, own_kp h1 hk hv, AllA.mapS2 (R' := RuleP H) (fun a x hx => ?_) h2⟩
  have h3 : RuleR w' (fun k => (B ≤ k ∧ k < w.heap.size ∧ v.ownBlock ≠ some k) ∧ k < H) a x := RuleR.fit.kp hk (fun k hk' e => by have := hs k e; omega) hx
  exact RuleR.fit.mono (fun k hk' => ⟨⟨hk'.1.1, by have := hk.size; omega, hk'.1.2.2⟩, hk'.2⟩) h3
/-- 'append([]Rule{}, rules...)'. -/
theorem copy_rules (w : World) (D : Nat → Prop) (B H : Nat) (ga : Option Addr) (ca : Nat) (rs : List (List UInt8 × Nod)) (h : RulesM w D ga rs) (hD : ∀ k, D k → B ≤ k ∧ k < H) (hH : H ≤ w.heap.size) (hne : rs ≠ []) (hl : rs.length ≤ 1000000) (hB : B ≤ w.heap.size) (ad : Addr) (ty : TypeId) :
    ∃ g2 cap2 w2, (Builtin.append_ #[23, 23] ty #[.slice (some ad) 0 0, .slice ga rs.length ca]).run Try.prog w = .ok (.slice (some ⟨g2, 0, none⟩) rs.length cap2) w2 ∧ OwnA (RuleP H) 4 w2 B 51 (.slice (some ⟨g2, 0, none⟩) rs.length cap2) rs ∧ Kp (fun _ => False) w w2 ∧ g2 = w.heap.size ∧ g2 < w2.heap.size := by
  obtain ⟨i0, hi0, y0, y1, y2⟩ := info_parts ruleInfo
  have hpos : 0 < rs.length := by cases rs with
    | nil => exact absurd rfl hne
    | cons x r => simp
  obtain ⟨g, off, rfl⟩ : ∃ g off, ga = some ⟨g, off, none⟩ := by
    cases rs with
    | nil => exact absurd rfl hne
    | cons x r =>
      obtain ⟨g', o', _, _, e, _⟩ := h 0 x rfl
      exact ⟨g', o', e⟩
  obtain ⟨xs, h1, h2⟩ := rules_row rs off h
  have hfl := h1.flat RuleR.fit
  obtain ⟨g2, cap2, w2, hrun, hown, hgr, hg2, hlt⟩ := run_append_lies (P := Try.prog) w 23 ty B 51 i0 _ 4 64 Try.underlying23 hi0 y0 y1 y2 rfl (by omega) (.slice none 0 0) 0 [] (World.ownsRow_nil _ _ _ _) ⟨g, off, none⟩ rs.length ca xs.flatten (by rw [hfl])
    (fun j u hj => by rw [addr_addo]; exact h2 j u hj) (AllA.one RuleR.fit h1) hpos (by unfold maxLen; omega) (by omega) hB w.heap.size rfl
  have hk : Kp (fun _ => False) w w2 := (Kp.refl _ w).grown hgr (fun k hk => by simp [Value.ownBlock] at hk)
  have hg2 : g2 = w.heap.size := by rcases hg2 with e | e; simp [Value.ownBlock] at e; exact e
  rw [Nat.zero_add] at hrun hown
  rw [List.nil_append] at hown
  refine ⟨g2, cap2, w2, ?_, ⟨xs, hown, ?_⟩, hk, hg2, hlt⟩
  · have heq : (Builtin.append_ #[23, 23] ty #[.slice (some ad) 0 0, .slice (some ⟨g, off, none⟩) rs.length ca]).run Try.prog w = (Builtin.append_ #[23, 23] ty #[.slice none 0 0, .slice (some ⟨g, off, none⟩) rs.length ca]).run Try.prog w := by
      have hl0 : ∀ (a : Addr) (w : World), (loadCells a 0).run Try.prog w = .ok #[] w := fun a w => rfl
      have h2 : ¬ rs.length = 0 := by omega
      have hb : Builtin.nextslicecap rs.length 0 * 64 ≤ 2 ^ 48 := by
        unfold Builtin.nextslicecap
        rw [if_pos (by omega)]
        omega
      have hb'' : ¬ 281474976710656 < Builtin.nextslicecap rs.length 0 * 64 := by omega
      simp [Builtin.append_, run_underlying Try.underlying23, sizeOf, typeInfo, hi0, Builtin.lenOf, Builtin.firstCells, y1, y2, h2, hb'', hl0]
    exact heq.trans hrun
  · refine AllA.mapS2 (R' := RuleP H) (fun a x hx => RuleR.fit.mono (fun k hk' => ?_) (RuleR.fit.kp hk (fun _ _ e => e) hx)) h1
    have := hD k hk'
    refine ⟨⟨this.1, by have := hk.size; omega, fun e => ?_⟩, this.2⟩
    have e : g2 = k := by simpa [Value.ownBlock] using e
    omega
end Go.Proofs.Ytjaampgpihicmaa
