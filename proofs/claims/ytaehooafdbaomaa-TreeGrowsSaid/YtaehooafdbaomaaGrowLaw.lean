/- Chapter 14 (tree), in plain Lean: a tree of a grammar's comes back from its bytes; its productions, replayed, are its terminals. No program. -/
import Derived.Test.YtaehooafdbaomaaTreePut
import Derived.Test.YtaehooafdbaomaaTreeText
import Derived.Test.YtaehooafdbaomaaTreeSame
import Derived.Test.YtaehooafdbaomaaTreeLeft
import Derived.Test.YtaehooafdbaomaaTreeRep
import Derived.Test.YtaehooafdbaomaaGrown14
namespace Go.Proofs.Ytaehooafdbaomaa
theorem Fo.Dv.len_eq {ps : List (Int × List Int)} : ∀ {f : Fo} {xs : List Int}, Fo.Dv ps f xs → f.len = xs.length
  | .nil, xs, h => by
    unfold Fo.Dv at h
    rw [h]; rfl
  | .cons p k r, xs, h => by
    unfold Fo.Dv at h
    obtain ⟨s, ys, rfl, _, h2⟩ := h
    rw [Fo.len, Fo.Dv.len_eq h2, List.length_cons]
theorem Fo.Dv.nodes_eq {ps : List (Int × List Int)} : ∀ {f : Fo} {xs : List Int}, Fo.Dv ps f xs → f.nodes = f.yield.length + f.lm.length
  | .nil, xs, h => rfl
  | .cons p k r, xs, h => by
    unfold Fo.Dv at h
    obtain ⟨s, ys, rfl, h1, h2⟩ := h
    have hr := Fo.Dv.nodes_eq h2
    rw [Fo.nodes, Fo.yield, Fo.lm]
    rcases h1 with ⟨hs, rfl, rfl⟩ | ⟨hs, q, R, rfl, hq, hk⟩
    · rw [if_pos hs]
      simp only [Fo.own, if_pos hs, Fo.nodes, Fo.lm, List.length_append, List.length_cons, List.length_nil]
      omega
    · have := Fo.Dv.nodes_eq hk
      rw [if_neg (by omega)]
      simp only [Fo.own, if_neg (show ¬ (q : Int) < 0 by omega), List.length_append, List.length_cons, List.length_nil]
      omega
theorem Fo.Dv.yield_pos {ps : List (Int × List Int)} : ∀ {f : Fo} {xs : List Int}, Fo.Dv ps f xs → ∀ y ∈ f.yield, 0 ≤ y
  | .nil, xs, h, y, hy => by simp [Fo.yield] at hy
  | .cons p k r, xs, h, y, hy => by
    unfold Fo.Dv at h
    obtain ⟨s, ys, rfl, h1, h2⟩ := h
    rw [Fo.yield, List.mem_append] at hy
    rcases hy with hy | hy
    · rcases h1 with ⟨hs, rfl, rfl⟩ | ⟨hs, q, R, rfl, hq, hk⟩
      · rw [if_pos hs] at hy
        simp at hy
        omega
      · rw [if_neg (by omega)] at hy
        exact Fo.Dv.yield_pos hk y hy
    · exact Fo.Dv.yield_pos h2 y hy
/-- A grammar's, as far as trees ask. -/
structure Tr.OkG (G : Gr) : Prop where
  p : G.prods.length ≤ 256
  r : ∀ x ∈ G.prods, ∀ s ∈ x.2, -(G.terms.length : Int) ≤ s
  t : G.terms.length ≤ 256
  r16 : ∀ x ∈ G.prods, x.2.length ≤ 16
theorem Tr.OkG.of {G : Gr} (h : SndG G) : Tr.OkG G := ⟨h.p1, h.r0, h.t1, h.r16⟩
section
variable {G : Gr} (hG : Tr.OkG G)
include hG
theorem Tr.there_of {s p : Int} {k : Fo} (hs : -(G.terms.length : Int) ≤ s) (h : (s < 0 ∧ p = s ∧ k = .nil) ∨ (0 ≤ s ∧ ∃ (q : Nat) (R : List Int), p = (q : Int) ∧ G.prods[q]? = some (s, R) ∧ Fo.Dv G.prods k R)) :
    Tr.thereB G p = true ∧ Tr.rootS G p = s ∧ Fo.Dv G.prods k (Tr.rightS G p) ∧ (∀ x ∈ Tr.rightS G p, -(G.terms.length : Int) ≤ x) ∧ p.natAbs ≤ 256 := by
  have ht := hG.t
  have hp := hG.p
  rcases h with ⟨hs0, rfl, rfl⟩ | ⟨hs0, q, R, rfl, hq, hk⟩
  · refine ⟨?_, by unfold Tr.rootS; rw [if_pos hs0], ?_, ?_, by omega⟩
    · unfold Tr.thereB
      simp
      omega
    · unfold Tr.rightS
      rw [if_pos hs0]
      rfl
    · unfold Tr.rightS
      rw [if_pos hs0]
      simp
  · have hql := (List.getElem?_eq_some_iff.1 hq).1
    have hgd : G.prods.getD ((q : Int).toNat) (0, []) = (s, R) := by rw [Int.toNat_natCast, List.getD, hq]; rfl
    refine ⟨?_, by unfold Tr.rootS; rw [if_neg (by omega), hgd], ?_, ?_, by omega⟩
    · unfold Tr.thereB
      simp
      omega
    · unfold Tr.rightS
      rw [if_neg (by omega), hgd]
      exact hk
    · unfold Tr.rightS
      rw [if_neg (by omega), hgd]
      exact hG.r _ (List.mem_of_getElem? hq)
theorem Tr.put_ge : ∀ {f : Fo} {xs : List Int}, Fo.Dv G.prods f xs → (∀ x ∈ xs, -(G.terms.length : Int) ≤ x) → f.nodes ≤ f.put.length
  | .nil, xs, h, hx => by simp [Fo.nodes]
  | .cons p k r, xs, h, hx => by
    unfold Fo.Dv at h
    obtain ⟨s, ys, rfl, h1, h2⟩ := h
    obtain ⟨_, _, hd, hr, hb⟩ := Tr.there_of hG (hx s (by simp)) h1
    have ih1 := Tr.put_ge hd hr
    have ih2 := Tr.put_ge h2 (fun x h => hx x (by simp [h]))
    have h3 := (Oct.getS_put (n := p) (by unfold Oct.most; omega) []).2.1
    simp only [Fo.nodes, Fo.put, List.length_append]
    omega
/-- The trees of a row of symbols come back from their bytes. -/
theorem Tr.readK_put : ∀ {f : Fo} {xs : List Int} (n c : Nat) (rest : List UInt8), Fo.Dv G.prods f xs → (∀ x ∈ xs, -(G.terms.length : Int) ≤ x) → f.deep ≤ n → c + f.nodes ≤ 65536 → Tr.readK (Tr.readT G n) xs (f.put ++ rest) c = .ok f rest (c + f.nodes)
  | .nil, xs, n, c, rest, h, hx, hd, hn => by
    unfold Fo.Dv at h
    subst h
    rfl
  | .cons p k r, xs, n, c, rest, h, hx, hd, hn => by
    unfold Fo.Dv at h
    obtain ⟨s, ys, rfl, h1, h2⟩ := h
    obtain ⟨ht, hrt, hdv, hr, hb⟩ := Tr.there_of hG (hx s (by simp)) h1
    rw [Fo.deep] at hd
    rw [Fo.nodes] at hn
    cases n with
    | zero => omega
    | succ n =>
      have ih1 := Tr.readK_put n (c + 1) (r.put ++ rest) hdv hr (by omega) (by omega)
      have ih2 := Tr.readK_put (n + 1) (c + 1 + k.nodes) rest h2 (fun x h => hx x (by simp [h])) (by omega) (by omega)
      have hg := (Oct.getS_put (n := p) (by unfold Oct.most; omega) (k.put ++ (r.put ++ rest))).1
      rw [Tr.readK, Tr.readT, Fo.put, List.append_assoc, List.append_assoc, hg]
      simp only [ht, Tr.kindOk, hrt, beq_self_eq_true, Bool.true_eq_false, if_false, List.drop_left]
      rw [if_neg (by omega), ih1]
      simp only
      rw [ih2, Fo.nodes]
      simp only [RR.ok.injEq, true_and]
      omega
theorem Tr.getT_put {p s : Int} {k : Fo} (h : Fo.Dv G.prods (.cons p k .nil) [s]) (hs : -(G.terms.length : Int) ≤ s) (hn : 1 + k.nodes ≤ 65536) : Tr.getT G (Oct.putS p ++ k.put) = (0, p, k) := by
  unfold Fo.Dv at h
  obtain ⟨s', ys, e, h1, _⟩ := h
  injection e with e1 e2
  subst e1
  obtain ⟨ht, hrt, hdv, hr, hb⟩ := Tr.there_of hG hs h1
  have hlen : k.deep ≤ (Oct.putS p ++ k.put).length := by
    have h2 := Fo.deep_le k
    have h3 := Tr.put_ge hG hdv hr
    rw [List.length_append]
    omega
  have ih := Tr.readK_put hG (Oct.putS p ++ k.put).length 1 [] hdv hr hlen hn
  have hg := (Oct.getS_put (n := p) (by unfold Oct.most; omega) k.put).1
  unfold Tr.getT
  rw [Tr.readT, hg]
  simp only [ht, Tr.kindOk, Bool.true_eq_false, if_false, List.drop_left, List.append_nil] at ih ⊢
  rw [if_neg (by omega), ih]
end
theorem idxS_at (T : List Int) (s : Int) (r : List Int) (hT : ∀ x ∈ T, x < 0) (hs : 0 ≤ s) : ∀ i : Int, idxS ntB (T ++ s :: r) i = i + T.length := by
  induction T with
  | nil => intro i; simp [idxS, ntB, hs]
  | cons a T ih =>
    intro i
    have ha := hT a (by simp)
    rw [List.cons_append, idxS, if_neg (by simp [ntB]; omega), ih (fun x h => hT x (by simp [h]))]
    simp
    omega
def negS (l : List Int) : List Int := l.map fun y => -1 - y
theorem negS_neg {l : List Int} (h : ∀ y ∈ l, 0 ≤ y) : ∀ x ∈ negS l, x < 0 := by
  intro x hx
  obtain ⟨y, hy, rfl⟩ := List.mem_map.1 hx
  have := h y hy
  omega
/-- Productions replayed, from the left. -/
theorem Tr.repF_dv {G : Gr} (h16 : ∀ x ∈ G.prods, x.2.length ≤ 16) : ∀ {f : Fo} {xs : List Int} (T post l : List Int), Fo.Dv G.prods f xs → (∀ x ∈ T, x < 0) → T.length + post.length + f.nodes ≤ 65536 →
    Tr.repF G (f.lm ++ l) (T ++ (xs ++ post)) = Tr.repF G l (T ++ (negS f.yield ++ post))
  | .nil, xs, T, post, l, h, hT, hn => by
    unfold Fo.Dv at h
    subst h
    rfl
  | .cons p k r, xs, T, post, l, h, hT, hn => by
    unfold Fo.Dv at h
    obtain ⟨s, ys, rfl, h1, h2⟩ := h
    have hyl := Fo.Dv.len_eq h2
    have hrn := Fo.len_le r
    rw [Fo.nodes] at hn
    rcases h1 with ⟨hs, rfl, rfl⟩ | ⟨hs, q, R, rfl, hq, hk⟩
    · have e1 : Fo.lm (.cons p .nil r) = r.lm := by simp [Fo.lm, Fo.own, hs]
      have e2 : Fo.yield (.cons p .nil r) = (-1 - p) :: r.yield := by simp [Fo.yield, hs]
      have ih := Tr.repF_dv h16 (T ++ [p]) post l h2 (by
        intro x hx
        rcases List.mem_append.1 hx with hx | hx
        · exact hT x hx
        · simp at hx; omega) (by simp only [List.length_append, List.length_singleton]; omega)
      rw [e1, e2]
      have e3 : negS ((-1 - p) :: r.yield) = p :: negS r.yield := by
        simp only [negS, List.map_cons, List.cons.injEq, and_true]
        omega
      rw [e3]
      simpa only [List.append_assoc, List.cons_append, List.nil_append] using ih
    · have hkl := Fo.Dv.len_eq hk
      have hkn := Fo.len_le k
      have hyl2 := Fo.yield_le k
      have hql := (List.getElem?_eq_some_iff.1 hq).1
      have hR := h16 _ (List.mem_of_getElem? hq)
      have hgd : G.prods.getD ((q : Int).toNat) (0, []) = (s, R) := by rw [Int.toNat_natCast, List.getD, hq]; rfl
      have e1 : Fo.lm (.cons (q : Int) k r) ++ l = (q : Int) :: (k.lm ++ (r.lm ++ l)) := by simp [Fo.lm, Fo.own, show ¬ (q : Int) < 0 by omega]
      have e2 : Fo.yield (.cons (q : Int) k r) = k.yield ++ r.yield := by simp [Fo.yield, show ¬ (q : Int) < 0 by omega]
      have hidx := idxS_at T s (ys ++ post) hT hs 0
      rw [Int.zero_add] at hidx
      have hgn : (T ++ (s :: (ys ++ post))).getD T.length 0 = s := by simp [List.getD]
      have ih1 := Tr.repF_dv h16 T (ys ++ post) (r.lm ++ l) hk hT (by rw [List.length_append]; omega)
      have ih2 := Tr.repF_dv h16 (T ++ negS k.yield) post l h2 (by
        intro x hx
        rcases List.mem_append.1 hx with hx | hx
        · exact hT x hx
        · exact negS_neg (Fo.Dv.yield_pos hk) x hx) (by rw [List.length_append, negS, List.length_map]; omega)
      rw [e1, e2, List.cons_append, Tr.repF, if_neg (by omega), hidx, if_neg (by omega), hgd, Int.toNat_natCast, hgn, if_neg (by simp), if_neg (by
        simp only [List.length_append, List.length_cons]
        simp only at hR hkl
        omega)]
      have e3 : (T ++ (s :: (ys ++ post))).take T.length = T := by simp
      rw [e3]
      simp only
      rw [show (T ++ (s :: (ys ++ post))).drop (T.length + 1) = ys ++ post by
        rw [← List.drop_drop, List.drop_left]; rfl]
      rw [ih1]
      have e5 : negS (k.yield ++ r.yield) = negS k.yield ++ negS r.yield := by simp [negS]
      rw [e5]
      simpa only [List.append_assoc] using ih2
end Go.Proofs.Ytaehooafdbaomaa
