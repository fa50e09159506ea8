/- Derivations of a word's parts, by a table of bools: plain law, and the table in memory. -/
import Derived.Test.YtaehooafdbaomaaRowApp
import Derived.Test.YtaehooafdbaomaaTree0
import Derived.Test.YtaehooafdbaomaaGin
namespace Go.Proofs.Ytaehooafdbaomaa
open Go.RowKit

namespace Dr
/-- A table of bools. -/
def tb (F : List (List Bool)) (a z : Nat) : Bool := (F.getD a []).getD z false
def gB (l : List Bool) (v : Nat) : Bool := l.getD v false
def cntT (F : List (List Bool)) : Nat := (F.map (List.count false)).sum
theorem count_set : ∀ (bs : List Bool) (a : Nat), bs[a]? = some false → (bs.set a true).count false + 1 = bs.count false
  | [], a, h => by simp at h
  | b :: r, 0, h => by simp at h; subst h; simp
  | b :: r, a + 1, h => by
    have := count_set r a (by simpa using h)
    rw [List.set_cons_succ, List.count_cons, List.count_cons]
    omega
theorem tb_set {F : List (List Bool)} {a z : Nat} {l : List Bool} (hl : F[a]? = some l) (hz : z < l.length) (a' z' : Nat) : tb (F.set a (l.set z true)) a' z' = ((a' == a && z' == z) || tb F a' z') := by
  have ha : a < F.length := (List.getElem?_eq_some_iff.1 hl).1
  unfold tb
  by_cases e : a' = a
  · subst e
    have e1 : (F.set a' (l.set z true)).getD a' [] = l.set z true := by rw [List.getD, List.getElem?_set_self ha]; rfl
    have e2 : F.getD a' [] = l := by rw [List.getD, hl]; rfl
    rw [e1, e2]
    simp only [beq_self_eq_true, Bool.true_and]
    by_cases e3 : z' = z
    · subst e3
      rw [List.getD, List.getElem?_set_self hz]
      simp
    · rw [List.getD, List.getElem?_set_ne (fun h => e3 h.symm)]
      simp [List.getD, e3]
  · have e1 : (F.set a (l.set z true)).getD a' [] = F.getD a' [] := by rw [List.getD, List.getElem?_set_ne (fun h => e h.symm)]; rfl
    rw [e1]
    simp [e]
theorem cntT_set : ∀ {F : List (List Bool)} {a z : Nat} {l : List Bool}, F[a]? = some l → l[z]? = some false → cntT (F.set a (l.set z true)) + 1 = cntT F
  | [], a, z, l, h, _ => by simp at h
  | f :: r, 0, z, l, h, hz => by
    simp only [List.getElem?_cons_zero, Option.some.injEq] at h
    subst h
    have := count_set f z hz
    simp only [cntT, List.set_cons_zero, List.map_cons, List.sum_cons]
    omega
  | f :: r, a + 1, z, l, h, hz => by
    simp only [List.getElem?_cons_succ] at h
    have := cntT_set (F := r) h hz
    simp only [cntT, List.set_cons_succ, List.map_cons, List.sum_cons] at this ⊢
    omega
theorem gB_set {l : List Bool} {d c : Nat} (hd : d < l.length) : gB (l.set d true) c = (c == d || gB l c) := by
  unfold gB
  by_cases e : c = d
  · subst e
    rw [List.getD, List.getElem?_set_self hd]
    simp
  · rw [List.getD, List.getElem?_set_ne (fun h => e h.symm)]
    simp [List.getD, e]
theorem gB_get {l : List Bool} {c : Nat} (h : c < l.length) : l[c]? = some (gB l c) := by simp [gB, List.getD, List.getElem?_eq_getElem h]
theorem gB_rep (n c : Nat) : gB (List.replicate n false) c = false := by
  unfold gB
  rcases Nat.lt_or_ge c n with h | h <;> simp [List.getD, h]
theorem tb_rep (n t a z : Nat) : tb (List.replicate n (List.replicate t false)) a z = false := by
  unfold tb
  rcases Nat.lt_or_ge a n with h | h
  · have e : (List.replicate n (List.replicate t false)).getD a [] = List.replicate t false := by simp [List.getD, h]
    rw [e]
    rcases Nat.lt_or_ge z t with h2 | h2 <;> simp [List.getD, h2]
  · have e : (List.replicate n (List.replicate t false)).getD a [] = [] := by simp [List.getD, h]
    rw [e]
    rfl
/-- One symbol from u to v. -/
def Ed (F : List (List Bool)) (word : List Int) (s : Int) (u v : Nat) : Prop :=
  (s < 0 ∧ u < word.length ∧ word.getD u 0 = -1 - s ∧ v = u + 1) ∨ (0 ≤ s ∧ u ≤ v ∧ v ≤ word.length ∧ tb F s.toNat (u * (word.length + 1) + v) = true)
/-- The places come to by the first k symbols. -/
def PS (F : List (List Bool)) (word : List Int) (r : List Int) (i : Nat) : Nat → Nat → Prop
  | 0, v => v = i
  | k + 1, v => ∃ u, PS F word r i k u ∧ Ed F word (r.getD k 0) u v
theorem Ed.le {F : List (List Bool)} {word : List Int} {s : Int} {u v : Nat} (h : Ed F word s u v) : v ≤ word.length := by
  rcases h with ⟨_, h, _, rfl⟩ | ⟨_, _, h, _⟩ <;> omega
theorem PS.le {F : List (List Bool)} {word : List Int} {r : List Int} {i : Nat} (hi : i ≤ word.length) : ∀ {k v : Nat}, PS F word r i k v → v ≤ word.length
  | 0, v, h => by
    unfold PS at h
    omega
  | k + 1, v, h => by
    unfold PS at h
    obtain ⟨u, _, h2⟩ := h
    exact h2.le
structure TabD (ps : List (Int × List Int)) (word : List Int) (K : Nat) (F : List (List Bool)) : Prop where
  len : F.length = K
  rl : ∀ l ∈ F, l.length = (word.length + 1) * (word.length + 1)
  snd : ∀ a i j : Nat, i ≤ word.length → j ≤ word.length → tb F a (i * (word.length + 1) + j) = true → ∃ f, Fo.Of ps word f [(a : Int)] i j
def Cl (F : List (List Bool)) (word : List Int) (l : Nat) (r : List Int) (i : Nat) : Prop := ∀ v, v ≤ word.length → PS F word r i r.length v → tb F l (i * (word.length + 1) + v) = true
def FixD (ps : List (Int × List Int)) (word : List Int) (F : List (List Bool)) (m : Nat) : Prop := ∀ (q : Nat) y, q < m → ps[q]? = some y → ∀ i, i ≤ word.length → Cl F word y.1.toNat y.2 i
theorem TabD.start (ps : List (Int × List Int)) (word : List Int) (K : Nat) : TabD ps word K (List.replicate K (List.replicate ((word.length + 1) * (word.length + 1)) false)) :=
  ⟨by simp, fun l hl => by rw [(List.mem_replicate.1 hl).2]; simp, fun a i j _ _ h => by rw [tb_rep] at h; cases h⟩
theorem TabD.path {ps : List (Int × List Int)} {word : List Int} {K : Nat} {F : List (List Bool)} (h : TabD ps word K F) {r : List Int} {i : Nat} (hi : i ≤ word.length) : ∀ {k u : Nat}, k ≤ r.length → PS F word r i k u → ∃ f, Fo.Of ps word f (r.take k) i u
  | 0, u, _, hp => by
    unfold PS at hp
    exact ⟨.nil, by rw [List.take_zero], hp.symm⟩
  | k + 1, v, hk, hp => by
    unfold PS at hp
    obtain ⟨u, h1, h2⟩ := hp
    obtain ⟨f, hf⟩ := h.path hi (k := k) (by omega) h1
    have hu := PS.le hi h1
    have e : r.take (k + 1) = r.take k ++ [r.getD k 0] := by rw [List.take_add_one, List.getD, List.getElem?_eq_getElem (by omega)]; rfl
    rw [e]
    rcases h2 with ⟨hs, hu1, hw, rfl⟩ | ⟨hs, huv, hv, ht⟩
    · refine ⟨f.app (.cons (r.getD k 0) .nil .nil), hf.app ⟨r.getD k 0, [], u + 1, rfl, .inl ⟨hs, rfl, rfl, rfl, ?_⟩, rfl, rfl⟩⟩
      rw [← hw, List.getD, List.getElem?_eq_getElem hu1]
      rfl
    · obtain ⟨g, hg⟩ := h.snd _ u v hu hv ht
      rw [show (((r.getD k 0).toNat : Nat) : Int) = r.getD k 0 by omega] at hg
      exact ⟨f.app g, hf.app hg⟩
theorem idx {n i j i' j' : Nat} (hj : j < n) (hj' : j' < n) (e : i * n + j = i' * n + j') : i = i' ∧ j = j' := by
  have h1 : (i * n + j) % n = j := by rw [Nat.mul_comm, Nat.mul_add_mod, Nat.mod_eq_of_lt hj]
  have h2 : (i' * n + j') % n = j' := by rw [Nat.mul_comm, Nat.mul_add_mod, Nat.mod_eq_of_lt hj']
  have h3 : j = j' := by rw [← h1, e, h2]
  subst h3
  exact ⟨Nat.eq_of_mul_eq_mul_right (by omega) (Nat.add_right_cancel e), rfl⟩
theorem idx_lt {n i j : Nat} (hi : i < n) (hj : j < n) : i * n + j < n * n := by
  have : (i + 1) * n ≤ n * n := Nat.mul_le_mul_right n hi
  rw [Nat.add_mul, Nat.one_mul] at this
  omega
theorem TabD.put {ps : List (Int × List Int)} {word : List Int} {K : Nat} {F : List (List Bool)} (h : TabD ps word K F) {l i v : Nat} {row : List Bool} (hr : F[l]? = some row) (hi : i ≤ word.length) (hv : v ≤ word.length) (hf : ∃ f, Fo.Of ps word f [(l : Int)] i v) :
    TabD ps word K (F.set l (row.set (i * (word.length + 1) + v) true)) := by
  have hrl := h.rl row (List.mem_of_getElem? hr)
  have hlt : i * (word.length + 1) + v < row.length := by rw [hrl]; exact idx_lt (by omega) (by omega)
  refine ⟨by rw [List.length_set]; exact h.len, fun l' hl' => ?_, fun a i' j' hi' hj' ht => ?_⟩
  · rcases List.mem_or_eq_of_mem_set hl' with h1 | h1
    · exact h.rl l' h1
    · rw [h1, List.length_set]; exact hrl
  · rw [tb_set hr hlt] at ht
    simp only [Bool.or_eq_true, Bool.and_eq_true, beq_iff_eq] at ht
    rcases ht with ⟨rfl, e⟩ | ht
    · obtain ⟨rfl, rfl⟩ := idx (by omega) (by omega) e
      exact hf
    · exact h.snd a i' j' hi' hj' ht
/-- What is derived is told. -/
theorem FixD.comp {ps : List (Int × List Int)} {word : List Int} {F : List (List Bool)} (h : FixD ps word F ps.length) : ∀ {f : Fo} {xs : List Int} {i j : Nat}, Fo.Of ps word f xs i j → j ≤ word.length → ∀ (r : List Int) (i0 k : Nat), k ≤ r.length → r.drop k = xs → PS F word r i0 k i → PS F word r i0 r.length j
  | .nil, xs, i, j, hf, hj, r, i0, k, hk, hd, hp => by
    unfold Fo.Of at hf
    obtain ⟨rfl, rfl⟩ := hf
    have : r.length ≤ k := List.drop_eq_nil_iff.1 hd
    have : k = r.length := by omega
    rwa [this] at hp
  | .cons p k' rest, xs, i, j, hf, hj, r, i0, k, hk, hd, hp => by
    unfold Fo.Of at hf
    obtain ⟨s, ys, m, rfl, h1, h2⟩ := hf
    have hkl : k < r.length := by
      rcases Nat.lt_or_ge k r.length with h3 | h3
      · exact h3
      · rw [List.drop_eq_nil_iff.2 h3] at hd; cases hd
    rw [List.drop_eq_getElem_cons hkl] at hd
    injection hd with e1 e2
    have hg : r.getD k 0 = s := by rw [List.getD, List.getElem?_eq_getElem hkl, e1]; rfl
    have hmj := h2.le
    refine h.comp h2 hj r i0 (k + 1) hkl e2 ⟨i, hp, ?_⟩
    rw [hg]
    rcases h1 with ⟨hs, _, _, rfl, hw⟩ | ⟨hs, q, R, _, hq, hkk⟩
    · obtain ⟨hlt, e⟩ := List.getElem?_eq_some_iff.1 hw
      exact .inl ⟨hs, hlt, by rw [List.getD, hw]; rfl, rfl⟩
    · have hq' := (List.getElem?_eq_some_iff.1 hq).1
      have him := hkk.le
      refine .inr ⟨hs, him, by omega, ?_⟩
      exact h q (s, R) hq' hq i (by omega) m (by omega) (h.comp hkk (by omega) R i 0 (Nat.zero_le _) rfl rfl)
theorem told {ps : List (Int × List Int)} {word : List Int} {K : Nat} {F : List (List Bool)} (ht : TabD ps word K F) (hf : FixD ps word F ps.length) (a : Nat) : tb F a word.length = true ↔ ∃ f, Fo.Of ps word f [(a : Int)] 0 word.length := by
  constructor
  · intro h
    exact ht.snd a 0 word.length (Nat.zero_le _) (Nat.le_refl _) (by rw [Nat.zero_mul, Nat.zero_add]; exact h)
  · rintro ⟨f, h⟩
    have := hf.comp h (Nat.le_refl _) [(a : Int)] 0 0 (Nat.zero_le _) rfl rfl
    obtain ⟨u, h1, h2⟩ := this
    unfold PS at h1
    subst h1
    rcases h2 with ⟨h3, _⟩ | ⟨_, _, _, h3⟩
    · simp at h3; omega
    · simpa using h3
end Dr

/-- A row of the table as a value. -/
def drV (t : Nat) (g : Nat) : Value := .slice (some ⟨g, 0, none⟩) t t
/-- The rows of the table. -/
structure DB (w : World) (B bo t : Nat) (gs : List Nat) (F : List (List Bool)) : Prop where
  len : gs.length = F.length
  out : ∀ (a : Nat) g, gs[a]? = some g → w.cell? ⟨bo, a, none⟩ = some (drV t g)
  row : ∀ (a : Nat) g l, gs[a]? = some g → F[a]? = some l → Bk w g 4 (l.map Value.bool)
  nd : gs.Nodup
  ne : ∀ g ∈ gs, B ≤ g ∧ g ≠ bo
  bl : bo < w.heap.size
theorem DB.below {w w' : World} {B bo t : Nat} {gs : List Nat} {F : List (List Bool)} (h : DB w B bo t gs F) (hb : Below w.heap.size w w') : DB w' B bo t gs F :=
  ⟨h.len, fun a g hg => (hb.cell (p := ⟨bo, a, none⟩) h.bl).trans (h.out a g hg), fun a g l hg hl => (h.row a g l hg hl).below hb (h.row a g l hg hl).lt, h.nd, h.ne, Nat.lt_of_lt_of_le h.bl hb.size⟩
theorem DB.put {w : World} {B bo t : Nat} {gs : List Nat} {F : List (List Bool)} (h : DB w B bo t gs F) {a z g : Nat} {l : List Bool} (hg : gs[a]? = some g) (hl : F[a]? = some l) :
    DB (w.setCell ⟨g, z, none⟩ (.bool true)) B bo t gs (F.set a (l.set z true)) := by
  have ha : a < F.length := (List.getElem?_eq_some_iff.1 hl).1
  have hgm := List.mem_of_getElem? hg
  refine ⟨by rw [List.length_set]; exact h.len, fun b g' hb => ?_, fun b g' l' hb hl' => ?_, h.nd, h.ne, by simpa [World.setCell] using h.bl⟩
  · exact ((Kp.refl (fun k => k = g) w).set (p := ⟨g, z, none⟩) (.inl rfl) _).cell (h.out b g' hb) (fun e => (h.ne g hgm).2 e.symm)
  · by_cases e : b = a
    · subst e
      rw [List.getElem?_set_self ha] at hl'
      rw [hg] at hb
      cases hl'
      cases hb
      exact ((h.row b g l hg hl).set z (.bool true)).of (by rw [List.map_set])
    · rw [List.getElem?_set_ne (fun h => e h.symm)] at hl'
      refine (h.row b g' l' hb hl').far (fun h2 => e ?_) _
      have h2 : g' = g := h2
      subst h2
      exact (List.getElem?_inj (List.getElem?_eq_some_iff.1 hb).1 h.nd).1 (hb.trans hg.symm)
theorem DB.at {w : World} {B bo t n : Nat} {gs : List Nat} {F : List (List Bool)} (h : DB w B bo t gs F) (hn : F.length = n) (hrl : ∀ l ∈ F, l.length = t) {d z : Nat} (hd : d < n) (hz : z < t) :
    ∃ g row, gs[d]? = some g ∧ F[d]? = some row ∧ w.cell? ⟨bo, d, none⟩ = some (.slice (some ⟨g, 0, none⟩) t t) ∧ w.cell? ⟨g, z, none⟩ = some (.bool (Dr.tb F d z)) ∧ w.frozen? ⟨g, z, none⟩ = false ∧ row[z]? = some (Dr.tb F d z) ∧ B ≤ g := by
  have hF : d < F.length := by rw [hn]; exact hd
  have hg : d < gs.length := by rw [h.len]; exact hF
  have h1 : gs[d]? = some gs[d] := List.getElem?_eq_getElem hg
  have h2 : F[d]? = some F[d] := List.getElem?_eq_getElem hF
  have hrl' := hrl F[d] (List.getElem_mem hF)
  have e : F[d][z]? = some (Dr.tb F d z) := by
    have e2 : F.getD d [] = F[d] := by simp [List.getD, h2]
    unfold Dr.tb
    rw [e2]
    simp [List.getD, List.getElem?_eq_getElem (show z < F[d].length by omega)]
  have hb := h.row d _ _ h1 h2
  refine ⟨_, _, h1, h2, h.out d _ h1, ?_, hb.free z, e, (h.ne _ (List.getElem_mem hg)).1⟩
  rw [hb.cell, List.getElem?_map, e]
  rfl
theorem boolInfoD : (Try.prog.info? 4).map (fun i => (i.zero, i.size, i.bytes)) = some (some (.bool false), 1, 1) := by kernel_rfl
theorem boolsInfoD : (Try.prog.info? 133).map (fun i => (i.zero, i.size, i.bytes)) = some (some (.slice none 0 0), 1, 24) := by kernel_rfl
end Go.Proofs.Ytaehooafdbaomaa
