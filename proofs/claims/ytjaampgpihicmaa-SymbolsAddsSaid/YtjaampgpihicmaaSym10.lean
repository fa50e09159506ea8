/- Chapter 7 (symbols): a grammar of one's own, that grows by rules without items. -/
import Derived.Test.YtjaampgpihicmaaSym9
import Derived.Test.YtjaampgpihicmaaSymLaw1
import Derived.Test.YtjaampgpihicmaaLaw07a
namespace Go.Proofs.Ytjaampgpihicmaa.Syn
theorem parse_bodies_len {l st : List UInt8} {rs : List (List UInt8 × Nod)} (h : parseS l = .ok st rs) : bodies rs ≤ 2 * l.length + 2 := by
  unfold parseS at h
  cases hs : Lex.scan l with
  | bad f => rw [hs] at h; cases h
  | good T =>
    rw [hs] at h
    simp only [] at h
    obtain ⟨ts, e, h1, h2, h3, h4⟩ := Lex.scan_ok hs
    obtain ⟨st0, i, j, hr, rfl⟩ := parseT_read h
    have h5 := rules_all hr.rules
    have hj : j ≤ T.length := by
      have h6 := lt_of_isS ((RulesAt.le hr.rules).2 hr.some).2
      omega
    have hT : T.length ≤ l.length + 1 := by rw [h1]; simp; omega
    omega
theorem bodies_app : ∀ a b : List (List UInt8 × Nod), bodies (a ++ b) = bodies a + bodies b
  | [], b => by simp [bodies]
  | x :: r, b => by rw [List.cons_append, bodies, bodies, bodies_app r b]; omega
end Go.Proofs.Ytjaampgpihicmaa.Syn
namespace Go.Proofs.Ytjaampgpihicmaa
open Go.RowKit
open Syn (Nd Nod)

/-- The grammar of one's own: its block bh, its rules' row v; the world was wr, of C + 1 blocks. -/
structure HSt (wr : World) (C B bh : Nat) (st : List UInt8) (v : Value) (hs : List (List UInt8 × Nod)) (w : World) : Prop where
  lt : C < bh
  out : Bk w bh 25 [.string ⟨st.toArray⟩, v]
  own : OwnA (RuleP C) 4 w B 51 v hs
  kp : Kp (fun k => C < k) wr w
  vb : ∀ q, v.ownBlock = some q → C < q ∧ q ≠ bh
  sz : wr.heap.size = C + 1
  bb : B ≤ C
theorem sruleInfo : (Try.prog.info? 51).map (fun i => (i.zero, i.size, i.bytes)) = some (some (.agg #[.string ⟨#[]⟩, .int .i64 0, .string ⟨#[]⟩, .slice none 0 0]), 4, 64) := by kernel_rfl
section
variable {wr w5 w w' : World} {bh B C : Nat} {st : List UInt8} {v : Value} {hs : List (List UInt8 × Nod)}
theorem HSt.old (h : HSt wr C B bh st v hs w) : Kp (fun _ => False) wr w := h.kp.mono fun k hk e => by have := h.sz; omega
theorem HSt.upon {S : Nat → Prop} (h : HSt wr C B bh st v hs w) (hk : Kp S w w') (hS : ∀ k, S k → C < k) (hb : ¬ S bh) (hv : ∀ q, v.ownBlock = some q → ¬ S q) : HSt wr C B bh st v hs w' :=
  ⟨h.lt, h.out.kp hk hb, h.own.kpP hk (fun k e => by have := hS k e; omega) hv, h.kp.trans (hk.mono fun k _ e => hS k e), h.vb, h.sz, h.bb⟩
theorem HSt.later (h : HSt wr C B bh st v hs w) (hb : Below w.heap.size w w') : HSt wr C B bh st v hs w' := h.upon (below_kp hb) (fun _ e => e.elim) (fun e => e) (fun _ _ e => e)
/-- Its block's two cells are stored. -/
theorem h_done {x y : Value} (hb : Bk w5 bh 25 [x, y]) (hC : C < bh) (hown : OwnA (RuleP C) 4 w5 B 51 v hs) (hk : Kp (fun _ => False) wr w5) (hv : ∀ q, v.ownBlock = some q → C < q ∧ q ≠ bh) (hsz : wr.heap.size = C + 1) (hB : B ≤ C) (st : List UInt8) :
    HSt wr C B bh st v hs ((w5.setCell ⟨bh, 0, none⟩ (.string ⟨st.toArray⟩)).setCell ⟨bh, 1, none⟩ v) := by
  have hk2 : Kp (fun k => k = bh) w5 ((w5.setCell ⟨bh, 0, none⟩ (.string ⟨st.toArray⟩)).setCell ⟨bh, 1, none⟩ v) := ((Kp.refl (fun k => k = bh) w5).set (p := ⟨bh, 0, none⟩) (.inl rfl) _).set (p := ⟨bh, 1, none⟩) (.inl rfl) _
  exact ⟨hC, (hb.set 0 _).set 1 _, hown.kpP hk2 (fun k e => by omega) (fun q e f => (hv q e).2 f), (hk.mono fun k _ e => e.elim).trans (hk2.mono fun k _ e => by omega), hv, hsz, hB⟩
/-- Its block is made whole. -/
theorem h_done2 (hown : OwnA (RuleP C) 4 w5 B 51 v hs) (hk : Kp (fun _ => False) wr w5) (hv : ∀ q, v.ownBlock = some q → C < q) (hsz : wr.heap.size = C + 1) (hB : B ≤ C) (st : List UInt8) :
    HSt wr C B w5.heap.size st v hs (w5.alloc (.cells #[.string ⟨st.toArray⟩, v] 25)) := by
  have hk2 : Kp (fun _ => False) w5 (w5.alloc (.cells #[.string ⟨st.toArray⟩, v] 25)) := (Kp.refl _ w5).alloc _
  have := hk.size
  exact ⟨by omega, Bk.new w5 _ _, hown.kpP hk2 (fun k e => e.elim) (fun q e f => f), (hk.trans hk2).mono fun k _ e => e.elim, fun q e => ⟨hv q e, by have := (hown.lt q e).2; omega⟩, hsz, hB⟩
/-- A rule more, without items. -/
theorem HSt.app (h : HSt wr C B bh st v hs w) (t : List UInt8) (hl : hs.length ≤ 1000000) (ty : TypeId) (q : Nat) {N : Nat} (hN : w.heap.size = N) :
    ∃ g2 cap2 w5, (Builtin.append_ #[23, 23] ty #[v, .slice (some ⟨N, 0, none⟩) 1 1]).run Try.prog ((w.alloc (.cells #[.string ⟨t.toArray⟩, .int .i64 3, .string ⟨#[]⟩, .slice none 0 0] 51)).drewN q) = .ok (.slice (some ⟨g2, 0, none⟩) (hs.length + 1) cap2) w5 ∧
      (w5.cell? ⟨bh, 1, none⟩ = some v ∧ w5.frozen? ⟨bh, 1, none⟩ = false ∧ bh < w5.heap.size) ∧
      HSt wr C B bh st (.slice (some ⟨g2, 0, none⟩) (hs.length + 1) cap2) (hs ++ [seqR t]) (w5.setCell ⟨bh, 1, none⟩ (.slice (some ⟨g2, 0, none⟩) (hs.length + 1) cap2)) ∧
      Kp (fun k => k = bh ∨ v.ownBlock = some k) w (w5.setCell ⟨bh, 1, none⟩ (.slice (some ⟨g2, 0, none⟩) (hs.length + 1) cap2)) ∧ (v.ownBlock = some g2 ∨ w.heap.size < g2) := by
  subst hN
  obtain ⟨i0, hi0, y0, y1, y2⟩ := info_parts sruleInfo
  have hsz := h.kp.size
  have hss := h.sz
  have hbb := h.bb
  obtain ⟨g2, cap2, w5, hrun, h2, h3, h4, h5⟩ := h.own.app (P := Try.prog) (RuleP.fit C) 23 ty i0 _ 64 Try.underlying23 hi0 y0 y1 y2 rfl (by omega) (by omega) (by omega) hl (seqR t) [.string ⟨t.toArray⟩, .int .i64 3, .string ⟨#[]⟩, .slice none 0 0] ⟨none, 0, rfl, trivial⟩ q
  have hv := h.vb
  have hb5 := h.out.kp h3 (fun e => (hv _ e).2 rfl)
  have c1 := hb5.cell 1
  have f1 := hb5.free 1
  simp only [List.getElem?_cons_zero, List.getElem?_cons_succ] at c1
  have hlt := h.lt
  have hbl := h.out.lt
  have hkn : Kp (fun k => k = bh) w5 (w5.setCell ⟨bh, 1, none⟩ (.slice (some ⟨g2, 0, none⟩) (hs.length + 1) cap2)) := (Kp.refl (fun k => k = bh) w5).set (p := ⟨bh, 1, none⟩) (.inl rfl) _
  have hg2 : C < g2 ∧ g2 ≠ bh := by
    rcases h4 with h4 | h4
    · exact hv _ h4
    · constructor <;> omega
  have hall : Kp (fun k => k = bh ∨ v.ownBlock = some k) w (w5.setCell ⟨bh, 1, none⟩ (.slice (some ⟨g2, 0, none⟩) (hs.length + 1) cap2)) := (h3.mono fun k _ e => .inr e).trans (hkn.mono fun k _ e => .inl e)
  refine ⟨g2, cap2, w5, hrun, ⟨c1, f1, hb5.lt⟩, ⟨hlt, hb5.set 1 _, h2.kpP hkn (fun k e => by omega) (fun q e f => ?_), h.kp.trans (hall.mono fun k _ e => ?_), fun q e => ?_, h.sz, h.bb⟩, hall, h4⟩
  · have e : g2 = q := by simpa [Value.ownBlock] using e
    omega
  · rcases e with e | e
    · omega
    · exact (hv _ e).1
  · have e : g2 = q := by simpa [Value.ownBlock] using e
    subst e
    exact hg2
theorem own_rulesP {H B : Nat} {w : World} {v : Value} {rs : List (List UInt8 × Nod)} (h : OwnA (RuleP H) 4 w B 51 v rs) : ∃ ga cap, v = .slice ga rs.length cap ∧ RulesIn w ga rs := by
  obtain ⟨xs, h1, h2⟩ := h
  obtain ⟨ga, cap, h3, h4⟩ := own_rules (w := w) (b := B) (v := v) (rs := rs) ⟨xs, h1, AllA.mapS2 (R := RuleP H) (R' := RuleR) (D' := fun k => B ≤ k ∧ k < w.heap.size ∧ v.ownBlock ≠ some k) (fun a x (hx : RuleR _ _ a x) => RuleR.fit.mono (fun k hk => hk.1) hx) h2⟩
  exact ⟨ga, cap, h3, RulesIn.of h4⟩
theorem added_keeps {l st : List UInt8} {rs : List (List UInt8 × Nod)} (h : Syn.parseS l = .ok st rs) (hl : l.length ≤ 1000) :
    (addedS st rs).length ≤ 100000 ∧ st.length ≤ 1000000 ∧ (∀ x ∈ addedS st rs, x.1.length ≤ 1000000) ∧ (∀ x ∈ addedS st rs, x.2.fits 100000) ∧ (∀ x ∈ addedS st rs, x.2.short) ∧ Syn.bodies (addedS st rs) ≤ 900000 := by
  obtain ⟨k1, k2, k3, k4, k5⟩ := parse_keeps h
  have hb := Syn.parse_bodies_len h
  have ht := table_len rs
  have hm : ∀ x ∈ (lackS (tableS rs) ++ if startIn st (tableS rs) = true then [] else [seqR st]), (x.1 ∈ (tableS rs).map Sym.name ∨ x.1 = st) ∧ x.2 = ⟨3, [], .nil⟩ := by
    intro x hx
    refine ⟨?_, (more_new st rs x hx).2⟩
    rcases List.mem_append.1 hx with hx | hx
    · unfold lackS at hx
      obtain ⟨s, hs, rfl⟩ := List.mem_map.1 hx
      exact .inl (List.mem_map.2 ⟨s, (List.mem_filter.1 hs).1, rfl⟩)
    · split at hx
      · simp at hx
      · simp at hx
        subst hx
        exact .inr rfl
  have hmn : ∀ x ∈ (lackS (tableS rs) ++ if startIn st (tableS rs) = true then [] else [seqR st]), x.1.length ≤ 1000000 := by
    intro x hx
    rcases (hm x hx).1 with h1 | h1
    · rw [table_names, foldA_mem] at h1
      rcases h1 with h1 | h1
      · simp at h1
      · rcases List.mem_append.1 h1 with h1 | h1
        · obtain ⟨y, hy, e⟩ := List.mem_map.1 h1
          rw [← e]
          have := k3 y hy
          omega
        · obtain ⟨y, hy, e⟩ := List.mem_flatMap.1 h1
          exact refs_short (k5 y hy) _ e
    · rw [h1]; omega
  have hml : (lackS (tableS rs) ++ if startIn st (tableS rs) = true then [] else [seqR st]).length ≤ (tableS rs).length + 1 := by
    rw [List.length_append]
    unfold lackS
    rw [List.length_map]
    have h5 := List.length_filter_le (fun s : Sym => decide (s.rule < 0)) (tableS rs)
    split <;> simp <;> omega
  have hmb : ∀ m : List (List UInt8 × Nod), (∀ x ∈ m, x.2 = ⟨3, [], .nil⟩) → Syn.bodies m = 2 * m.length := by
    intro m
    induction m with
    | nil => intro _; rfl
    | cons x r ih =>
      intro hm
      rw [Syn.bodies, ih fun y hy => hm y (List.mem_cons_of_mem _ hy), hm x (List.mem_cons_self ..), List.length_cons]
      simp [Syn.Nd.nodes]
      omega
  have hbb := hmb _ fun x hx => (hm x hx).2
  refine ⟨?_, by omega, fun x hx => ?_, fun x hx => ?_, fun x hx => ?_, ?_⟩
  · unfold addedS
    rw [List.length_append]
    omega
  · rcases List.mem_append.1 hx with hx | hx
    · have := k3 x hx; omega
    · exact hmn x hx
  · rcases List.mem_append.1 hx with hx | hx
    · exact k4 x hx
    · rw [(hm x hx).2]; exact ⟨by simp [Syn.Nd.len], trivial⟩
  · rcases List.mem_append.1 hx with hx | hx
    · exact k5 x hx
    · rw [(hm x hx).2]; exact ⟨by simp, trivial⟩
  · unfold addedS
    rw [Syn.bodies_app, hbb]
    omega
end
end Go.Proofs.Ytjaampgpihicmaa
