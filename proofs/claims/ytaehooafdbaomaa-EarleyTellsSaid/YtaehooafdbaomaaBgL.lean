/- The document's answer, chapter 17: beginnings: plain law; Parts: walk; what the loops of Begins keep. -/
import Derived.Test.YtaehooafdbaomaaEdW
import Derived.Test.YtaehooafdbaomaaDer1
import Derived.Test.YtaehooafdbaomaaDer2
import Derived.IntWalk
import Derived.Test.YtaehooafdbaomaaRef9b
namespace Go.Proofs.Ytaehooafdbaomaa
open Go.RowKit
namespace Ed

def seg (word : List Int) (i v : Nat) : List Int := (word.drop i).take (v - i)
theorem seg_cut {word : List Int} {i m j : Nat} (h1 : i ≤ m) (h2 : m ≤ j) : seg word i j = seg word i m ++ seg word m j := cut h1 h2
theorem seg_len {word : List Int} {i j : Nat} (h : j ≤ word.length) : (seg word i j).length = j - i := by
  unfold seg
  rw [List.length_take, List.length_drop]
  omega
theorem seg_end {word : List Int} {i : Nat} : seg word i word.length = word.drop i := by
  unfold seg
  rw [List.take_of_length_le (by rw [List.length_drop]; omega)]
theorem seg_self {word : List Int} {i : Nat} : seg word i i = [] := by unfold seg; rw [Nat.sub_self, List.take_zero]
theorem seg_one {word : List Int} {i : Nat} {x : Int} (h : word[i]? = some x) : seg word i (i + 1) = [x] := by
  obtain ⟨hlt, e⟩ := List.getElem?_eq_some_iff.1 h
  unfold seg
  rw [show i + 1 - i = 1 by omega, List.drop_eq_getElem_cons hlt, e]
  rfl
section
variable {ps : List (Int × List Int)} {word : List Int}
theorem Dw.split {ys : List Int} : ∀ {xs z : List Int}, Dw ps (xs ++ ys) z → ∃ z1 z2, z = z1 ++ z2 ∧ Dw ps xs z1 ∧ Dw ps ys z2
  | [], z, h => ⟨[], z, rfl, .nil, h⟩
  | s :: xs, z, h => by
    rw [List.cons_append] at h
    generalize he : s :: (xs ++ ys) = l at h
    cases h with
    | nil => cases he
    | term hs h1 =>
      injection he with e1 e2
      subst e1
      subst e2
      obtain ⟨z1, z2, rfl, h2, h3⟩ := Dw.split h1
      exact ⟨_ :: z1, z2, rfl, .term hs h2, h3⟩
    | prod h0 hp h1 h2 =>
      injection he with e1 e2
      subst e1
      subst e2
      obtain ⟨z1, z2, rfl, h3, h4⟩ := Dw.split h2
      exact ⟨_ ++ z1, z2, by rw [List.append_assoc], .prod h0 hp h1 h3, h4⟩
/-- One symbol from u to v. -/
def Ew (ps : List (Int × List Int)) (word : List Int) (s : Int) (u v : Nat) : Prop := u ≤ v ∧ v ≤ word.length ∧ Dw ps [s] (seg word u v)
theorem Ew.term {s : Int} {u v : Nat} (hs : s < 0) (hu : u < word.length) : Ew ps word s u v ↔ v = u + 1 ∧ word[u]? = some (-1 - s) := by
  constructor
  · rintro ⟨h1, h2, h3⟩
    have hl := seg_len (i := u) h2
    generalize he : seg word u v = l at h3 hl
    cases h3 with
    | prod h0 => omega
    | term _ h4 =>
      cases h4
      simp at hl
      have hv : v = u + 1 := by omega
      subst hv
      have hx : word[u]? = some word[u] := List.getElem?_eq_getElem hu
      rw [seg_one hx] at he
      injection he with e1 _
      exact ⟨rfl, by rw [hx, e1]⟩
  · rintro ⟨rfl, h⟩
    exact ⟨by omega, hu, by rw [seg_one h]; exact .term hs .nil⟩
/-- The places come to by the first q symbols of a right side. -/
def Nw (ps : List (Int × List Int)) (word : List Int) (R : List Int) (i q v : Nat) : Prop := i ≤ v ∧ v ≤ word.length ∧ Dw ps (R.take q) (seg word i v)
theorem Nw.zero {R : List Int} {i v : Nat} (hi : i ≤ word.length) : Nw ps word R i 0 v ↔ v = i := by
  constructor
  · rintro ⟨h1, h2, h3⟩
    have hl := seg_len (i := i) h2
    rw [List.take_zero] at h3
    cases he : seg word i v with
    | nil => rw [he] at hl; simp at hl; omega
    | cons x r =>
      rw [he] at h3
      cases h3
  · rintro rfl
    exact ⟨Nat.le_refl _, hi, by rw [seg_self, List.take_zero]; exact .nil⟩
theorem Nw.step {R : List Int} {i q v : Nat} {s : Int} (hq : R[q]? = some s) : Nw ps word R i (q + 1) v ↔ ∃ u, Nw ps word R i q u ∧ Ew ps word s u v := by
  constructor
  · rintro ⟨h1, h2, h3⟩
    rw [take_snoc hq] at h3
    obtain ⟨z1, z2, h4, h5, h6⟩ := h3.split
    have hl := seg_len (i := i) h2
    have hl2 := congrArg List.length h4
    rw [List.length_append, hl] at hl2
    have hc := seg_cut (word := word) (i := i) (m := i + z1.length) (j := v) (by omega) (by omega)
    rw [hc] at h4
    have hs1 : (seg word i (i + z1.length)).length = z1.length := by rw [seg_len (by omega)]; omega
    obtain ⟨e1, e2⟩ := List.append_inj h4 hs1
    exact ⟨i + z1.length, ⟨by omega, by omega, by rw [e1]; exact h5⟩, by omega, h2, by rw [e2]; exact h6⟩
  · rintro ⟨u, ⟨h1, h2, h3⟩, h4, h5, h6⟩
    exact ⟨by omega, h5, by rw [take_snoc hq, seg_cut h1 h4]; exact h3.app h6⟩
/-- A place from which all that is left may come. -/
def Ht (ps : List (Int × List Int)) (word : List Int) (F : List (List Bool)) (R : List Int) (i q u : Nat) : Prop := ∃ s, R[q]? = some s ∧ Nw ps word R i q u ∧ (u = word.length ∨ (0 ≤ s ∧ Dr.tb F s.toNat u = true))
def Pf (ps : List (Int × List Int)) (word : List Int) (F : List (List Bool)) (R : List Int) (i : Nat) : Prop := (∃ q u, Ht ps word F R i q u) ∨ Nw ps word R i R.length word.length
structure TabB (ps : List (Int × List Int)) (word : List Int) (K : Nat) (F : List (List Bool)) : Prop where
  len : F.length = K
  rl : ∀ l ∈ F, l.length = word.length + 1
  snd : ∀ a i, Dr.tb F a i = true → i ≤ word.length ∧ Pre ps [(a : Int)] (word.drop i)
  last : ∀ a : Nat, a < K → Pre ps [(a : Int)] [] → Dr.tb F a word.length = true
def FixB (ps : List (Int × List Int)) (word : List Int) (F : List (List Bool)) (m : Nat) : Prop := ∀ (q : Nat) y, q < m → ps[q]? = some y → Fine ps y.2 → ∀ i, i < word.length → Dr.tb F y.1.toNat i = true ∨ ¬ Pf ps word F y.2 i
theorem Fine.drop {R : List Int} (h : Fine ps R) (k : Nat) : Fine ps (R.drop k) := fun s hs => h s (List.mem_of_mem_drop hs)
theorem Pf.sound {K : Nat} {F : List (List Bool)} (h : TabB ps word K F) {R : List Int} (hf : Fine ps R) {i : Nat} (hp : Pf ps word F R i) : Pre ps R (word.drop i) := by
  rcases hp with ⟨q, u, s, hq, ⟨h1, h2, h3⟩, h4⟩ | ⟨h1, h2, h3⟩
  · rcases h4 with rfl | ⟨h5, h6⟩
    · obtain ⟨y, hy⟩ := Dw.all (hf.drop q)
      rw [seg_end] at h3
      exact ⟨y, by have := h3.app hy; rwa [List.take_append_drop] at this⟩
    · obtain ⟨_, y1, hy1⟩ := h.snd _ _ h6
      rw [Int.toNat_of_nonneg h5] at hy1
      obtain ⟨y2, hy2⟩ := Dw.all (hf.drop (q + 1))
      have hd : R = R.take q ++ (s :: R.drop (q + 1)) := by rw [← drop_cons hq, List.take_append_drop]
      have hc : word.drop i = seg word i u ++ word.drop u := by rw [← seg_end, ← seg_end]; exact seg_cut h1 h2
      refine ⟨y1 ++ y2, ?_⟩
      rw [hd, hc]
      have := h3.app (hy1.app hy2)
      simpa [List.append_assoc] using this
  · rw [List.take_length, seg_end] at h3
    exact Pre.of h3
theorem TabB.put {K : Nat} {F : List (List Bool)} (h : TabB ps word K F) {a i : Nat} {l : List Bool} (hl : F[a]? = some l) (hi : i ≤ word.length) (hp : Pre ps [(a : Int)] (word.drop i)) : TabB ps word K (F.set a (l.set i true)) := by
  have hll := h.rl l (List.mem_of_getElem? hl)
  refine ⟨by rw [List.length_set]; exact h.len, fun m hm => ?_, fun b j hb => ?_, fun b hb hb2 => ?_⟩
  · rcases List.mem_or_eq_of_mem_set hm with hm | rfl
    · exact h.rl m hm
    · rw [List.length_set]; exact hll
  · rw [Dr.tb_set hl (by omega)] at hb
    rcases Bool.or_eq_true_iff.1 hb with hb | hb
    · simp at hb
      obtain ⟨rfl, rfl⟩ := hb
      exact ⟨hi, hp⟩
    · exact h.snd b j hb
  · rw [Dr.tb_set hl (by omega), h.last b hb hb2, Bool.or_true]
theorem Ht.shift {F : List (List Bool)} {R : List Int} {s : Int} {i v q u : Nat} (he : Ew ps word s i v) (h : Ht ps word F R v q u) : Ht ps word F (s :: R) i (q + 1) u := by
  obtain ⟨t, hq, ⟨h1, h2, h3⟩, h4⟩ := h
  refine ⟨t, by simpa using hq, ⟨by have := he.1; omega, h2, ?_⟩, h4⟩
  rw [List.take_succ_cons, seg_cut he.1 h1]
  exact he.2.2.app h3
theorem Pf.shift {F : List (List Bool)} {R : List Int} {s : Int} {i v : Nat} (he : Ew ps word s i v) (h : Pf ps word F R v) : Pf ps word F (s :: R) i := by
  rcases h with ⟨q, u, h⟩ | ⟨h1, h2, h3⟩
  · exact .inl ⟨q + 1, u, h.shift he⟩
  · refine .inr ⟨by have := he.1; omega, h2, ?_⟩
    rw [List.length_cons, List.take_succ_cons, seg_cut he.1 h1]
    exact he.2.2.app h3
/-- At the end nothing is missing. -/
theorem Pf.full {K : Nat} {F : List (List Bool)} (_h : TabB ps word K F) (hx : FixB ps word F ps.length) (hK : ∀ x ∈ ps, ∀ s ∈ x.2, s < (K : Int)) {xs z : List Int} (hd : Dw ps xs z) :
    (∀ s ∈ xs, s < (K : Int)) → ∀ i y, i ≤ word.length → z = word.drop i ++ y → Pf ps word F xs i := by
  induction hd with
  | nil =>
    intro _ i y hi hz
    obtain ⟨h1, _⟩ := List.append_eq_nil_iff.1 hz.symm
    have := congrArg List.length h1
    rw [List.length_drop] at this
    have e : i = word.length := by simp at this; omega
    subst e
    exact .inr ⟨Nat.le_refl _, Nat.le_refl _, by rw [seg_self]; exact .nil⟩
  | @term s xs z hs hd ih =>
    intro hxs i y hi hz
    by_cases e : i = word.length
    · subst e
      exact .inl ⟨0, word.length, s, rfl, (Nw.zero hi).2 rfl, .inl rfl⟩
    · have hlt : i < word.length := by omega
      rw [List.drop_eq_getElem_cons hlt, List.cons_append] at hz
      injection hz with e1 e2
      have hw : word[i]? = some (-1 - s) := by rw [List.getElem?_eq_getElem hlt, e1]
      exact (ih (fun t ht => hxs t (List.mem_cons_of_mem _ ht)) (i + 1) y hlt e2).shift ((Ew.term hs hlt).2 ⟨rfl, hw⟩)
  | @prod s R xs z1 z2 h0 hp hd1 hd2 ih1 ih2 =>
    intro hxs i y hi hz
    by_cases e : i = word.length
    · subst e
      exact .inl ⟨0, word.length, s, rfl, (Nw.zero hi).2 rfl, .inl rfl⟩
    · have hlt : i < word.length := by omega
      rcases Nat.lt_or_ge (word.length - i) z1.length with hl | hl
      · -- what is left ends within the first one
        obtain ⟨y1, hy1⟩ : ∃ y1, z1 = word.drop i ++ y1 := by
          refine ⟨z1.drop (word.length - i), ?_⟩
          have h1 := congrArg (List.take (word.length - i)) hz
          rw [List.take_append_of_le_length (by omega), List.take_append_of_le_length (by rw [List.length_drop]; omega), List.take_of_length_le (l := word.drop i) (by rw [List.length_drop]; omega)] at h1
          rw [← h1, List.take_append_drop]
        have hpf := ih1 (hK _ hp) i y1 hi hy1
        obtain ⟨q, hq⟩ := List.mem_iff_getElem?.1 hp
        have hfine : Fine ps R := fun t ht => hd1.each t ht
        have htb := (hx q (s, R) (List.getElem?_eq_some_iff.1 hq).1 hq hfine i hlt).resolve_right (fun k => k hpf)
        exact .inl ⟨0, i, s, rfl, (Nw.zero hi).2 rfl, .inr ⟨h0, htb⟩⟩
      · have h1 := congrArg (List.take z1.length) hz
        rw [List.take_left, List.take_append_of_le_length (by rw [List.length_drop]; omega)] at h1
        have h2 := congrArg (List.drop z1.length) hz
        rw [List.drop_left, List.drop_append_of_le_length (by rw [List.length_drop]; omega), List.drop_drop] at h2
        have hseg : seg word i (i + z1.length) = z1 := by
          unfold seg
          rw [Nat.add_sub_cancel_left, ← h1]
        exact (ih2 (fun t ht => hxs t (List.mem_cons_of_mem _ ht)) (i + z1.length) y (by omega) h2).shift ⟨by omega, by omega, by rw [hseg]; exact Dw.one h0 hp hd1⟩
/-- What the table tells at its end. -/
theorem TabB.told {K : Nat} {F : List (List Bool)} (h : TabB ps word K F) (hx : FixB ps word F ps.length) (hK : ∀ x ∈ ps, ∀ s ∈ x.2, s < (K : Int)) {a : Nat} (ha : a < K) {i : Nat} (hi : i ≤ word.length) : Dr.tb F a i = true ↔ Pre ps [(a : Int)] (word.drop i) := by
  refine ⟨fun hb => (h.snd a i hb).2, fun hp => ?_⟩
  by_cases e : i = word.length
  · subst e
    rw [List.drop_length] at hp
    exact h.last a ha hp
  · obtain ⟨y, hy⟩ := hp
    obtain ⟨R, hR, hd⟩ := hy.inv (by omega)
    have hpf := Pf.full h hx hK hd (hK _ hR) i y hi rfl
    obtain ⟨q, hq⟩ := List.mem_iff_getElem?.1 hR
    have := (hx q _ (List.getElem?_eq_some_iff.1 hq).1 hq (fun t ht => hd.each t ht) i (by omega)).resolve_right (fun k => k hpf)
    simpa using this
end
end Ed
end Go.Proofs.Ytaehooafdbaomaa
/- The document's answer, chapter 17: Parts: walk. -/
namespace Go.Proofs.Ytaehooafdbaomaa
open Go.RowKit
attribute [local go_sem ↓] Go.wp_at_zero Go.wp_at_succ
attribute [local go_sem] frozen_alloc_lt
namespace Ed

theorem sound_at {G : Gr} (h : Pl.soundB G = true) {a : Nat} (ha : a < G.names.length) : Pl.soundB { G with start := (a : Int) } = true := by
  unfold Pl.soundB at h ⊢
  split at h
  · cases h
  · rename_i h1
    rw [if_neg h1]
    split at h
    · cases h
    · rename_i h2
      rw [if_neg (fun k => h2 (by
        rcases k with k | k | k | k | k
        · exact .inl k
        · exact .inr (.inl k)
        · exact .inr (.inr (.inl k))
        · have k : (a : Int) < 0 := k
          omega
        · have k : (G.names.length : Int) ≤ (a : Int) := k
          omega))]
      exact h
theorem GIn.at_ {w : World} {G : Gr} {gn gt gp : Option Addr} (h : GIn w G gn gt gp) (a : Int) : GIn w { G with start := a } gn gt gp := ⟨h.n, h.t, h.p, h.h1, h.h2, h.h3, h.h4⟩
theorem row_dropB {W : World} {B : Nat} {ga ga3 : Option Addr} {R : List Int} {k cap : Nat} (h : RowI W B ga R) (hc : R.length ≤ cap) (he : (if cap = k then ga else Option.map (fun x => Addr.add x k) ga) = ga3) : RowI W B ga3 (R.drop k) := fun i hi => by
  rw [List.length_drop] at hi
  obtain ⟨g, off, h1, h2, h3⟩ := h.at (i := k + i) (by omega)
  subst h1
  rw [if_neg (by omega), Option.map_some, add_off0 _ rfl] at he
  subst he
  refine ⟨g, off + k, _, rfl, h2, by rw [Nat.add_assoc]; exact h3, ?_⟩
  simp [List.getD, List.getElem?_drop, List.getElem?_eq_getElem (show k + i < R.length by omega)]
theorem row_takeB {w : World} {B : Nat} {ga : Option Addr} {zs : List Int} (h : RowI w B ga zs) (k : Nat) : RowI w B ga (zs.take k) := fun i hi => by
  have hi2 : i < zs.length := by rw [List.length_take] at hi; omega
  obtain ⟨g, o, h1, h2, h3⟩ := h.at hi2
  refine ⟨g, o, .int .i64 zs[i], h1, h2, h3, ?_⟩
  simp [List.getD, List.getElem?_eq_getElem hi, List.getElem_take]
theorem row_seg {W : World} {B : Nat} {ga ga3 : Option Addr} {zs : List Int} {i j cap : Nat} (h : RowI W B ga zs) (hc : zs.length ≤ cap) (he : (if cap = i then ga else Option.map (fun x => Addr.add x i) ga) = ga3) : RowI W B ga3 (seg zs i j) :=
  row_takeB (row_dropB h hc he) (j - i)
/-- The parts' table, as far as it is filled. -/
def PtOk (ps : List (Int × List Int)) (word : List Int) (N a : Nat) (l : List Bool) (u v : Nat) : Prop :=
  l.length = N * N ∧ ∀ i j, i ≤ j → j < N → (i < u ∨ i = u ∧ j < v) → (Dr.gB l (i * N + j) = true ↔ Dw ps [(a : Int)] (seg word i j))
def PtAll (ps : List (Int × List Int)) (word : List Int) (N m : Nat) (F : List (List Bool)) : Prop :=
  F.length = m ∧ ∀ (a : Nat) l, F[a]? = some l → PtOk ps word N a l N 0
def PL1 (wd : World) (B N K : Nat) (ps : List (Int × List Int)) (word : List Int) (k : Nat) (v6 v7 : Value) (w : World) : Prop :=
  ∃ (i : Nat) (gs : List Nat) (F : List (List Bool)) (vr : Value), vr = v6 ∧ v7 = .int .i64 i ∧ i ≤ K ∧ w.ownsRow B 133 1 vr i (gs.map (drV (N * N))) ∧ gs.length = i ∧ PtAll ps word N i F ∧ (∀ (a : Nat) g l, gs[a]? = some g → F[a]? = some l → Bk w g 4 (l.map Value.bool)) ∧ (∀ g ∈ gs, B ≤ g ∧ vr.ownBlock ≠ some g) ∧ gs.Nodup ∧ k = K - i ∧ Below B wd w
/-- What Parts answers. -/
def PartsSaid (w : World) (K : Nat) (ps : List (Int × List Int)) (word : List Int) (e : Ending) (w' : World) : Prop :=
  ∃ (bo cap : Nat) (gs : List Nat) (F : List (List Bool)), e = .returned (.slice (some ⟨bo, 0, none⟩) K cap) ∧ DB w' w.heap.size bo ((word.length + 1) * (word.length + 1)) gs F ∧ PtAll ps word (word.length + 1) K F ∧ Below w.heap.size w w'
theorem idx_inj {N i j u v : Nat} (hj : j < N) (hv : v < N) (h : i * N + j = u * N + v) : i = u ∧ j = v := by
  have h1 : (i * N + j) / N = i := by rw [Nat.mul_comm, Nat.mul_add_div (by omega), Nat.div_eq_of_lt hj, Nat.add_zero]
  have h2 : (u * N + v) / N = u := by rw [Nat.mul_comm, Nat.mul_add_div (by omega), Nat.div_eq_of_lt hv, Nat.add_zero]
  have e : i = u := by rw [← h1, h, h2]
  subst e
  exact ⟨rfl, by omega⟩
/-- The places that are done already stay as they are. -/
theorem PtOk.put {ps : List (Int × List Int)} {word : List Int} {N a : Nat} {l : List Bool} {u v : Nat} (h : PtOk ps word N a l u v) (huv : u ≤ v) (hv : v < N) (hidx : u * N + v < N * N) {b : Bool} (hb : b = true ↔ Dw ps [(a : Int)] (seg word u v)) : PtOk ps word N a (l.set (u * N + v) b) u (v + 1) := by
  refine ⟨by rw [List.length_set]; exact h.1, fun i j hij hj hd => ?_⟩
  by_cases e : i = u ∧ j = v
  · obtain ⟨rfl, rfl⟩ := e
    rw [show Dr.gB (l.set (i * N + j) b) (i * N + j) = b by unfold Dr.gB; rw [List.getD, List.getElem?_set_self (by rw [h.1]; exact hidx)]; rfl]
    exact hb
  · have hne : i * N + j ≠ u * N + v := fun e2 => e (idx_inj hj hv e2)
    rw [show Dr.gB (l.set (u * N + v) b) (i * N + j) = Dr.gB l (i * N + j) by unfold Dr.gB; rw [List.getD, List.getElem?_set_ne (fun h => hne h.symm)]; rfl]
    exact h.2 i j hij hj (by omega)
theorem PtOk.start {ps : List (Int × List Int)} {word : List Int} {N a : Nat} : PtOk ps word N a (List.replicate (N * N) false) 0 0 := ⟨by simp, fun i j _ _ hd => by omega⟩
theorem PtOk.turn {ps : List (Int × List Int)} {word : List Int} {N a : Nat} {l : List Bool} {u v : Nat} (h : PtOk ps word N a l u v) (hv : N ≤ v) : PtOk ps word N a l (u + 1) 0 := ⟨h.1, fun i j hij hj hd => h.2 i j hij hj (by omega)⟩
theorem PtOk.line {ps : List (Int × List Int)} {word : List Int} {N a : Nat} {l : List Bool} {u : Nat} (h : PtOk ps word N a l u 0) : PtOk ps word N a l u u := ⟨h.1, fun i j hij hj hd => h.2 i j hij hj (by omega)⟩
def PL2 (w5 : World) (gl N a : Nat) (ps : List (Int × List Int)) (word : List Int) (k : Nat) (v10 : Value) (w : World) : Prop :=
  ∃ (i : Nat) (l : List Bool), v10 = .int .i64 i ∧ i ≤ N ∧ Bk w gl 4 (l.map Value.bool) ∧ PtOk ps word N a l i 0 ∧ k = N - i ∧ Below gl w5 w
def PL3 (w5 : World) (gl N a i : Nat) (ps : List (Int × List Int)) (word : List Int) (k : Nat) (v11 : Value) (w : World) : Prop :=
  ∃ (j : Nat) (l : List Bool), v11 = .int .i64 j ∧ i ≤ j ∧ j ≤ N ∧ Bk w gl 4 (l.map Value.bool) ∧ PtOk ps word N a l i j ∧ k = N - j ∧ Below gl w5 w
set_option maxHeartbeats 16000000 in
set_option maxRecDepth 100000 in
theorem parts_calls (w : World) (G : Gr) (gn gt gp : Option Addr) (cn ct cp : Nat) (h : GIn w G gn gt gp) (hs : Pl.soundB G = true) (gw : Option Addr) (cw : Nat) (word : List Int) (hw : RowI w w.heap.size gw word) (hwl : word.length ≤ 64) (hcw : word.length ≤ cw) (hnil : gw = none → cw = 0) :
    Calls Try.prog 88 #[.agg #[.int .i64 G.start, .int .i64 G.rules, .slice gn G.names.length cn, .slice gt G.terms.length ct, .slice gp G.prods.length cp], .slice gw word.length cw] w (PartsSaid w G.names.length G.prods word) := by
  obtain ⟨i4, hi4, z0, z1, z2⟩ := info_parts boolInfoD
  obtain ⟨i5, hi5, y0, y1, y2⟩ := info_parts boolsInfoD
  have Hs := hid hs
  have Hsg := hid (sndG hs)
  have hn0 := Hsg.out.n0
  have hn1 := Hsg.out.n1
  have hb0 : Below w.heap.size w (w.alloc (.cells #[.int .i64 G.start, .int .i64 G.rules, .slice gn G.names.length cn, .slice gt G.terms.length ct, .slice gp G.prods.length cp] 33)) := (Below.refl _ _).alloc (Nat.le_refl _) _
  have hbk : Bk (w.alloc (.cells #[.int .i64 G.start, .int .i64 G.rules, .slice gn G.names.length cn, .slice gt G.terms.length ct, .slice gp G.prods.length cp] 33)) w.heap.size 33 [.int .i64 G.start, .int .i64 G.rules, .slice gn G.names.length cn, .slice gt G.terms.length ct, .slice gp G.prods.length cp] := Bk.new w _ _
  have hw0 := (hw.below hb0).mono hb0.size
  have hG0 := h.later hb0
  go_enter Try.func88, Try.ntmps88
  go_upto_region 1 with (fail)
  obtain ⟨wd, hwd⟩ : ∃ wd, wd = (w.alloc (.cells #[.int .i64 G.start, .int .i64 G.rules, .slice gn G.names.length cn, .slice gt G.terms.length ct, .slice gp G.prods.length cp] 33)) := ⟨_, rfl⟩
  obtain ⟨bb, hbb⟩ : ∃ bb, bb = w.heap.size := ⟨_, rfl⟩
  rw [← hwd] at hb0 hbk hw0 hG0 ⊢
  rw [← hbb] at hbk ⊢
  obtain ⟨K, hK⟩ : ∃ K, K = G.names.length := ⟨_, rfl⟩
  obtain ⟨n, hn⟩ : ∃ n, n = word.length := ⟨_, rfl⟩
  obtain ⟨N, hN⟩ : ∃ N, N = n + 1 := ⟨_, rfl⟩
  obtain ⟨t, ht⟩ : ∃ t, t = N * N := ⟨_, rfl⟩
  have hN65 : N ≤ 65 := by omega
  have hN1 : 1 ≤ N := by omega
  have htm : t ≤ 4225 := by rw [ht]; exact Nat.mul_le_mul hN65 hN65
  have hNt : N ≤ t := by rw [ht]; exact Nat.le_mul_of_pos_left N hN1
  have hn64 : n ≤ 64 := by omega
  have hcd : ∀ W, Below wd.heap.size wd W → W.cell? ⟨bb, 0, none⟩ = some (.int .i64 G.start) ∧ W.cell? ⟨bb, 1, none⟩ = some (.int .i64 G.rules) ∧ W.cell? ⟨bb, 2, none⟩ = some (.slice gn K cn) ∧ W.cell? ⟨bb, 3, none⟩ = some (.slice gt G.terms.length ct) ∧ W.cell? ⟨bb, 4, none⟩ = some (.slice gp G.prods.length cp) := fun W hW => by
    have k := hbk.below hW hbk.lt
    exact ⟨k.cell 0, k.cell 1, by rw [hK]; exact k.cell 2, k.cell 3, k.cell 4⟩
  have HC := hid hcd
  have H0 := hid (And.intro hw0 (And.intro hG0 hb0))
  have HK := hid hK
  have Hn := hid hn
  have HNn := hid hN
  have Ht := hid ht
  have Hnil := hid hnil
  have hnc : (n : Int) + 1 = (N : Int) := by omega
  have hNN : (N : Int) * (N : Int) = (t : Int) := by rw [ht]; exact (Int.natCast_mul N N).symm
  have hcw' : n ≤ cw := by omega
  rw [← hK] at hn0 hn1
  rw [← hn]
  clear hwd hcd hbk h hw hn hN ht hw0 hG0 hs hnil hwl hcw hb0 hbb hK
  go_wp2_with fail
  go_loopg [6, 7] K (fun k v6 v7 wr => PL1 wd wd.heap.size N K G.prods word k v6 v7 wr)
  case atStart => exact ⟨0, [], [], _, rfl, rfl, by omega, World.ownsRow_nil _ _ _ _, rfl, ⟨rfl, fun a l h => by simp at h⟩, (fun a g l h => by simp at h), (fun g hg => by simp at hg), List.nodup_nil, rfl, Below.refl _ _⟩
  case round =>
    obtain ⟨a, gs, F, v5, rfl, rfl, ha, hown, hgl, hpt, hrow, hgs, hnd, hk, hb⟩ := hrel
    have HR := hid (And.intro hown (And.intro hgl (And.intro hpt (And.intro hrow (And.intro hgs (And.intro hnd (And.intro hk hb)))))))
    obtain ⟨q0, q1, q2, q3, q4⟩ := HC.out wr hb
    clear hown hgl hpt hrow hgs hnd hk hb
    by_cases hlt : a < K
    · have hlt' : (a : Int) < (K : Int) := by omega
      obtain ⟨wo, rfl⟩ : ∃ wo : World, wo = wr := ⟨_, rfl⟩
      have haK : a < G.names.length := by rw [← HK.out]; exact hlt
      go_upto_region 7 with fail
      obtain ⟨qb, hqb⟩ : ∃ qb, qb = wo.heap.size := ⟨_, rfl⟩
      have hbq := Bk.new wo 33 [.int .i64 G.start, .int .i64 G.rules, .slice gn K cn, .slice gt G.terms.length ct, .slice gp G.prods.length cp]
      have hal : Below wo.heap.size wo (wo.alloc (.cells #[.int .i64 G.start, .int .i64 G.rules, .slice gn K cn, .slice gt G.terms.length ct, .slice gp G.prods.length cp] 33)) := bel_al (bel_id wo) _
      rw [← hqb] at hbq ⊢
      have c0 := hbq.cell 0
      simp only [List.getElem?_cons_zero] at c0
      have f0 := hbq.free 0
      have hbq2 := hbq.set 0 (.int .i64 (a : Int))
      simp only [List.set_cons_zero] at hbq2
      have hal2 : Below wo.heap.size wo ((wo.alloc (.cells #[.int .i64 G.start, .int .i64 G.rules, .slice gn K cn, .slice gt G.terms.length ct, .slice gp G.prods.length cp] 33)).setCell ⟨qb, 0, none⟩ (.int .i64 (a : Int))) := hal.setCell (p := ⟨qb, 0, none⟩) (by rw [hqb]; exact Nat.le_refl _) _
      have Hbq2 := hid hbq2
      have Hal2 := hid hal2
      have Hqb := hid hqb
      clear hbq hal hbq2 hal2 hqb q0 q1 q2 q3 q4
      go_upto_region 8 with fail
      clear c0 f0
      obtain ⟨w4, hw4⟩ : ∃ w4, w4 = ((wo.alloc (.cells #[.int .i64 G.start, .int .i64 G.rules, .slice gn K cn, .slice gt G.terms.length ct, .slice gp G.prods.length cp] 33)).setCell ⟨qb, 0, none⟩ (.int .i64 (a : Int))) := ⟨_, rfl⟩
      rw [← hw4] at Hbq2 Hal2 ⊢
      clear hw4
      go_upto_region 9 with (at_make; refine wpList_make_bk _ rfl _ _ _ rfl 4 i4 _ Try.underlying133 hi4 z0 z1 rfl _ _ t rfl rfl rfl rfl (by rw [z2]; omega) (by omega) ?_; intro w5 hbl hk5)
      obtain ⟨gl, hgl⟩ : ∃ gl, gl = w4.heap.size := ⟨_, rfl⟩
      rw [← hgl] at hbl ⊢
      have hqg : qb < gl := by rw [hgl]; exact Hbq2.out.lt
      have hbl1 : Bk w5 gl 4 ((List.replicate (N * N) false).map Value.bool) := hbl.of (by rw [Ht.out]; simp)
      have hb45 : Below gl w4 w5 := hk5.to_below (by rw [hgl]; exact Nat.le_refl _) (fun k e => e.elim)
      have Hbl5 := hid (And.intro hbl1 (And.intro hb45 hgl))
      clear hbl hbl1 hb45 hk5 hgl
      go_wp2_with fail
      go_loopg [10] N (fun k v10 wr => PL2 w5 gl N a G.prods word k v10 wr)
      case atStart => exact ⟨0, _, rfl, by omega, Hbl5.out.1, PtOk.start, rfl, Below.refl _ _⟩
      case round =>
        obtain ⟨i, l2, rfl, hi, hbl, hpt, hk, hb⟩ := hrel
        have H2 := hid (And.intro hbl (And.intro hpt (And.intro hk hb)))
        clear hbl hpt hk hb
        by_cases hlti : i < N
        · have hlti' : (i : Int) ≤ (n : Int) := by omega
          obtain ⟨w6, rfl⟩ : ∃ w6 : World, w6 = wr := ⟨_, rfl⟩
          go_wp2_with fail
          go_loopg [11] (N - i) (fun k v11 wr => PL3 w5 gl N a i G.prods word k v11 wr)
          case atStart => exact ⟨i, l2, rfl, Nat.le_refl _, hi, H2.out.1, H2.out.2.1.line, rfl, H2.out.2.2.2⟩
          case round =>
            obtain ⟨j, l, rfl, hij, hj, hbl, hPt, hk, hb⟩ := hrel
            have Hbl := hid hbl
            have HPt := hid hPt
            have Hk := hid (And.intro hk hb)
            have Hij := hid hij
            clear hbl hPt hk hb hij
            by_cases hltj : j < N
            · have hltj' : (j : Int) ≤ (n : Int) := by omega
              have hijI : (i : Int) ≤ (j : Int) := by have := Hij.out; omega
              have hij' : i ≤ j := Hij.out
              have hi0 : (0 : Int) ≤ (i : Int) := by omega
              have hj0 : (0 : Int) ≤ (j : Int) := by omega
              obtain ⟨un, hun⟩ : ∃ un, un = i * N := ⟨_, rfl⟩
              have hz := Dr.idx_lt hlti hltj
              rw [← Ht.out, ← hun] at hz
              have hunI : (i : Int) * (N : Int) = (un : Int) := by rw [hun]; exact (Int.natCast_mul i N).symm
              obtain ⟨ix, hix⟩ : ∃ ix, ix = un + j := ⟨_, rfl⟩
              have hzi : (ix : Int) < (t : Int) := by omega
              have hz0 : (0 : Int) ≤ (ix : Int) := by omega
              have Hidx := hid (show ix < l.length by rw [HPt.out.1, ← Ht.out, hix]; exact hz)
              have hww := And.intro (IntWalk.i64_in (N : Int) (by omega)) (And.intro (IntWalk.i64_in (un : Int) (by omega)) (IntWalk.i64_in ((un : Int) + (j : Int)) (by omega)))
              rw [show (un : Int) + (j : Int) = (ix : Int) by omega] at hww
              have Hww := hid hww
              have hjx : (un : Int) + (j : Int) = (ix : Int) := by omega
              have Hjx := hid hjx
              have Hix := hid hix
              clear hww hjx hix
              have Hun := hid hun
              obtain ⟨ga3, hga3⟩ : ∃ ga3, (if cw = i then gw else Option.map (fun x => Addr.add x i) gw) = ga3 := ⟨_, rfl⟩
              obtain ⟨c3, hc3⟩ : ∃ c3, c3 = cw - i := ⟨_, rfl⟩
              obtain ⟨m, hm⟩ : ∃ m, m = j - i := ⟨_, rfl⟩
              have hbW : Below wd.heap.size wd wr := by
                have h1 := HR.out.2.2.2.2.2.2.2
                have h2 : Below wo.heap.size wo wr := Hal2.out.trans ((Hbl5.out.2.1.trans Hk.out.2).mono (by have := Hal2.out.size; have := Hbl5.out.2.2; omega))
                exact h1.trans (h2.mono h1.size)
              have hbqr : Bk wr qb 33 [.int .i64 (a : Int), .int .i64 G.rules, .slice gn K cn, .slice gt G.terms.length ct, .slice gp G.prods.length cp] := (Hbq2.out.below Hbl5.out.2.1 hqg).below Hk.out.2 hqg
              have hQ : ∀ W, Below wr.heap.size wr W → W.cell? ⟨qb, 0, none⟩ = some (.int .i64 (a : Int)) ∧ W.cell? ⟨qb, 1, none⟩ = some (.int .i64 G.rules) ∧ W.cell? ⟨qb, 2, none⟩ = some (.slice gn K cn) ∧ W.cell? ⟨qb, 3, none⟩ = some (.slice gt G.terms.length ct) ∧ W.cell? ⟨qb, 4, none⟩ = some (.slice gp G.prods.length cp) := fun W hW => by
                have k := hbqr.below hW hbqr.lt
                exact ⟨k.cell 0, k.cell 1, k.cell 2, k.cell 3, k.cell 4⟩
              have hQ2 : ∀ W (v : Value), Below wr.heap.size wr W → (W.setCell ⟨gl, ix, none⟩ v).cell? ⟨qb, 0, none⟩ = some (.int .i64 (a : Int)) ∧ (W.setCell ⟨gl, ix, none⟩ v).cell? ⟨qb, 1, none⟩ = some (.int .i64 G.rules) ∧ (W.setCell ⟨gl, ix, none⟩ v).cell? ⟨qb, 2, none⟩ = some (.slice gn K cn) ∧ (W.setCell ⟨gl, ix, none⟩ v).cell? ⟨qb, 3, none⟩ = some (.slice gt G.terms.length ct) ∧ (W.setCell ⟨gl, ix, none⟩ v).cell? ⟨qb, 4, none⟩ = some (.slice gp G.prods.length cp) := fun W v hW => by
                have k := (hbqr.below hW hbqr.lt).far (p := ⟨gl, ix, none⟩) (by show qb ≠ gl; omega) v
                exact ⟨k.cell 0, k.cell 1, k.cell 2, k.cell 3, k.cell 4⟩
              have hder : ∀ W, Below wr.heap.size wr W → Calls Try.prog 46 #[.agg #[.int .i64 (a : Int), .int .i64 G.rules, .slice gn K cn, .slice gt G.terms.length ct, .slice gp G.prods.length cp], .slice ga3 m c3] W (DerSaid W G.prods (a : Int) (seg word i j)) := fun W hW => by
                have hWd : Below wd.heap.size wd W := belw hbW hW
                have hsl : (seg word i j).length = m := by rw [seg_len (by have := Hn.out; omega), hm]
                have hGW := GIn.at_ (H0.out.2.1.later hWd) (a : Int)
                have h1 := derives_calls W { G with start := (a : Int) } gn gt gp cn ct cp hGW (sound_at Hs.out haK) ga3 c3 (seg word i j) (row_seg ((H0.out.1.below hWd).mono hWd.size) (by rw [← Hn.out]; exact hcw') hga3) (by omega)
                rw [hsl] at h1
                rw [HK.out]
                exact h1
              have hslI : (j : Int) ≤ (cw : Int) := by omega
              have HQ := hid hQ
              have HQ2 := hid hQ2
              have Hder := hid hder
              have HbW := hid hbW
              clear hQ hQ2 hder hbW hbqr hun
              have hgag : ∀ g off, gw = some ⟨g, off, none⟩ → (if cw = i then (some ⟨g, off, none⟩ : Option Addr) else some ⟨g, off + i, none⟩) = ga3 := fun g off e => by
                subst e
                rw [← hga3, Option.map_some, add_off0 _ rfl]
              have Hga := hid hgag
              have Hga3 := hid hga3
              have hc3' := hc3.symm
              have hm' := hm.symm
              clear hgag hga3 hc3 hm
              go_upto_region 15 with fail
              have e1 := Hww.out.1
              have e2 := Hww.out.2.1
              have e3 := Hww.out.2.2
              have e4 := Hjx.out
              -- R15
              refine wp_region_held_drew (S := fun W : World => W.cell? ⟨qb, 0, none⟩ = some (.int .i64 (a : Int)) ∧ W.cell? ⟨qb, 1, none⟩ = some (.int .i64 G.rules) ∧ W.cell? ⟨qb, 2, none⟩ = some (.slice gn K cn) ∧ W.cell? ⟨qb, 3, none⟩ = some (.slice gt G.terms.length ct) ∧ W.cell? ⟨qb, 4, none⟩ = some (.slice gp G.prods.length cp)) (by kernel_rfl) (by exact HQ.out _ (below_drewN (Below.refl _ _) 1)) (fun hHeld => ?_)
              refine wpAnyH_take (i := 0) (oi := ({ dst := some 41, op := Op.move (Operand.tmp 9), type := 133, pos := "ref.go:80", after := #[], guard := none } : Oper)) (v := ?_) rfl (by kernel_rfl) (by kernel_rfl) (by kernel_rfl) (fun _ _ _ h => h) (Or.inl ⟨by kernel_rfl, ?_⟩) (by assumption) ?_
              rotate_left
              · intro w hSw
                try dsimp only at hSw
                go_simp
                try with_reducible rfl
              try simp only [Act.put, List.setIfInBounds_toArray, List.set_cons_zero, List.set_cons_succ]
              refine wpAnyH_take (i := 1) (oi := ({ dst := some 42, op := Op.move (Operand.tmp 10), type := 3, pos := "ref.go:80", after := #[], guard := none } : Oper)) (v := ?_) rfl (by kernel_rfl) (by kernel_rfl) (by kernel_rfl) (fun _ _ _ h => h) (Or.inl ⟨by kernel_rfl, ?_⟩) (by assumption) ?_
              rotate_left
              · intro w hSw
                try dsimp only at hSw
                go_simp
                try with_reducible rfl
              try simp only [Act.put, List.setIfInBounds_toArray, List.set_cons_zero, List.set_cons_succ]
              refine wpAnyH_take (i := 2) (oi := ({ dst := some 43, op := Op.move (Operand.tmp 5), type := 3, pos := "ref.go:80", after := #[], guard := none } : Oper)) (v := ?_) rfl (by kernel_rfl) (by kernel_rfl) (by kernel_rfl) (fun _ _ _ h => h) (Or.inl ⟨by kernel_rfl, ?_⟩) (by assumption) ?_
              rotate_left
              · intro w hSw
                try dsimp only at hSw
                go_simp
                try with_reducible rfl
              try simp only [Act.put, List.setIfInBounds_toArray, List.set_cons_zero, List.set_cons_succ]
              refine wpAnyH_take (i := 3) (oi := ({ dst := some 44, op := Op.binOp BinOp.add 3 (Operand.tmp 43) (Operand.const (Value.int IntKind.i64 1)) 3, type := 3, pos := "ref.go:80", after := #[{ on := 2, ground := Ground.data }], guard := none } : Oper)) (v := ?_) rfl (by kernel_rfl) (by kernel_rfl) (by kernel_rfl) (fun _ _ _ h => h) (Or.inl ⟨by kernel_rfl, ?_⟩) (by assumption) ?_
              rotate_left
              · intro w hSw
                try dsimp only at hSw
                go_simp
                try with_reducible rfl
              try simp only [Act.put, List.setIfInBounds_toArray, List.set_cons_zero, List.set_cons_succ]
              refine wpAnyH_take (i := 4) (oi := ({ dst := some 45, op := Op.binOp BinOp.mul 3 (Operand.tmp 42) (Operand.tmp 44) 3, type := 3, pos := "ref.go:80", after := #[{ on := 1, ground := Ground.data }, { on := 3, ground := Ground.data }], guard := none } : Oper)) (v := ?_) rfl (by kernel_rfl) (by kernel_rfl) (by kernel_rfl) (fun _ _ _ h => h) (Or.inl ⟨by kernel_rfl, ?_⟩) (by assumption) ?_
              rotate_left
              · intro w hSw
                try dsimp only at hSw
                go_simp
                try with_reducible rfl
              try simp only [Act.put, List.setIfInBounds_toArray, List.set_cons_zero, List.set_cons_succ]
              refine wpAnyH_take (i := 5) (oi := ({ dst := some 46, op := Op.move (Operand.tmp 11), type := 3, pos := "ref.go:80", after := #[], guard := none } : Oper)) (v := ?_) rfl (by kernel_rfl) (by kernel_rfl) (by kernel_rfl) (fun _ _ _ h => h) (Or.inl ⟨by kernel_rfl, ?_⟩) (by assumption) ?_
              rotate_left
              · intro w hSw
                try dsimp only at hSw
                go_simp
                try with_reducible rfl
              try simp only [Act.put, List.setIfInBounds_toArray, List.set_cons_zero, List.set_cons_succ]
              refine wpAnyH_take (i := 6) (oi := ({ dst := some 47, op := Op.binOp BinOp.add 3 (Operand.tmp 45) (Operand.tmp 46) 3, type := 3, pos := "ref.go:80", after := #[{ on := 4, ground := Ground.data }, { on := 5, ground := Ground.data }], guard := none } : Oper)) (v := ?_) rfl (by kernel_rfl) (by kernel_rfl) (by kernel_rfl) (fun _ _ _ h => h) (Or.inl ⟨by kernel_rfl, ?_⟩) (by assumption) ?_
              rotate_left
              · intro w hSw
                try dsimp only at hSw
                go_simp
                try with_reducible rfl
              try simp only [Act.put, List.setIfInBounds_toArray, List.set_cons_zero, List.set_cons_succ]
              refine wpAnyH_take (i := 7) (oi := ({ dst := some 48, op := Op.load 33 (Operand.tmp 8), type := 33, pos := "ref.go:80", after := #[], guard := none } : Oper)) (v := ?_) rfl (by kernel_rfl) (by kernel_rfl) (by kernel_rfl) (fun _ _ _ h => h) (Or.inl ⟨by kernel_rfl, ?_⟩) (by assumption) ?_
              rotate_left
              · intro w hSw
                try dsimp only at hSw
                go_simp
                try with_reducible rfl
              try simp only [Act.put, List.setIfInBounds_toArray, List.set_cons_zero, List.set_cons_succ]
              refine wpAnyH_take (i := 8) (oi := ({ dst := some 49, op := Op.move (Operand.tmp 1), type := 22, pos := "ref.go:80", after := #[], guard := none } : Oper)) (v := ?_) rfl (by kernel_rfl) (by kernel_rfl) (by kernel_rfl) (fun _ _ _ h => h) (Or.inl ⟨by kernel_rfl, ?_⟩) (by assumption) ?_
              rotate_left
              · intro w hSw
                try dsimp only at hSw
                go_simp
                try with_reducible rfl
              try simp only [Act.put, List.setIfInBounds_toArray, List.set_cons_zero, List.set_cons_succ]
              refine wpAnyH_take (i := 9) (oi := ({ dst := some 50, op := Op.move (Operand.tmp 10), type := 3, pos := "ref.go:80", after := #[], guard := none } : Oper)) (v := ?_) rfl (by kernel_rfl) (by kernel_rfl) (by kernel_rfl) (fun _ _ _ h => h) (Or.inl ⟨by kernel_rfl, ?_⟩) (by assumption) ?_
              rotate_left
              · intro w hSw
                try dsimp only at hSw
                go_simp
                try with_reducible rfl
              try simp only [Act.put, List.setIfInBounds_toArray, List.set_cons_zero, List.set_cons_succ]
              refine wpAnyH_take (i := 10) (oi := ({ dst := some 51, op := Op.move (Operand.tmp 11), type := 3, pos := "ref.go:80", after := #[], guard := none } : Oper)) (v := ?_) rfl (by kernel_rfl) (by kernel_rfl) (by kernel_rfl) (fun _ _ _ h => h) (Or.inl ⟨by kernel_rfl, ?_⟩) (by assumption) ?_
              rotate_left
              · intro w hSw
                try dsimp only at hSw
                go_simp
                try with_reducible rfl
              try simp only [Act.put, List.setIfInBounds_toArray, List.set_cons_zero, List.set_cons_succ]
              refine wpAnyH_take (i := 11) (oi := ({ dst := some 52, op := Op.slice 22 (Operand.tmp 49) (some (Operand.tmp 50)) (some (Operand.tmp 51)) none, type := 22, pos := "ref.go:80", after := #[{ on := 8, ground := Ground.data }, { on := 9, ground := Ground.data }, { on := 10, ground := Ground.data }], guard := none } : Oper)) (v := ?_) rfl (by kernel_rfl) (by kernel_rfl) (by kernel_rfl) (fun _ _ _ h => h) (Or.inl ⟨by kernel_rfl, ?_⟩) (by assumption) ?_
              rotate_left
              · intro w hSw
                try dsimp only at hSw
                go_simp
                try with_reducible rfl
              try simp only [Act.put, List.setIfInBounds_toArray, List.set_cons_zero, List.set_cons_succ]
              refine wpAnyH_ready (rs := [12]) (by kernel_rfl) (by simp) ?_
              refine AllReadyH.cons (o := ({ dst := some 53, op := Op.call { callee := Callee.value (Operand.func 46), args := #[Operand.tmp 48, Operand.tmp 52], argTypes := #[33, 22] }, type := 4, pos := "ref.go:80", after := #[{ on := 7, ground := Ground.data }, { on := 11, ground := Ground.data }], guard := none } : Oper)) rfl (fun K hK => ?_) AllReadyH.nil
              go_simp
              rw [Hga3.out]
              go_at_call 46
              refine (Hder.out _ (by exact below_drewN (Below.refl _ _) 1)).mono ?_
              rintro e wD ⟨b, rfl, hbe, hbD⟩
              have HbD := hid (And.intro hbe ((show Below wr.heap.size wr wr.drew from below_drewN (Below.refl _ _) 1).trans hbD))
              have cx := (Hbl.out.below HbD.out.2 Hbl.out.lt).cell ix
              have fx := (Hbl.out.below HbD.out.2 Hbl.out.lt).free ix
              rw [List.getElem?_map, Dr.gB_get Hidx.out] at cx
              simp only [Option.map_some] at cx
              clear hbe hbD
              refine hK.out _ _ (HQ.out _ HbD.out.2) (fun hH2 => ?_)
              clear hK K hHeld
              have hHeld := hH2
              clear hH2
              try simp only [Act.put, List.setIfInBounds_toArray, List.set_cons_zero, List.set_cons_succ]
              refine wpAnyH_take (i := 13) (oi := ({ dst := some 54, op := Op.indexAddr 133 (Operand.tmp 41) (Operand.tmp 47), type := 0, pos := "ref.go:80", after := #[{ on := 0, ground := Ground.data }, { on := 6, ground := Ground.data }, { on := 0, ground := Ground.phase }, { on := 1, ground := Ground.phase }, { on := 2, ground := Ground.phase }, { on := 3, ground := Ground.phase }, { on := 4, ground := Ground.phase }, { on := 5, ground := Ground.phase }, { on := 6, ground := Ground.phase }, { on := 7, ground := Ground.phase }, { on := 8, ground := Ground.phase }, { on := 9, ground := Ground.phase }, { on := 10, ground := Ground.phase }, { on := 11, ground := Ground.phase }, { on := 12, ground := Ground.phase }], guard := none } : Oper)) (v := ?_) rfl (by kernel_rfl) (by kernel_rfl) (by kernel_rfl) (fun _ _ _ h => h) (Or.inl ⟨by kernel_rfl, ?_⟩) (by assumption) ?_
              rotate_left
              · intro w hSw
                try dsimp only at hSw
                go_simp
                try with_reducible rfl
              try simp only [Act.put, List.setIfInBounds_toArray, List.set_cons_zero, List.set_cons_succ]
              refine wpAnyH_ready (rs := [14]) (by kernel_rfl) (by simp) ?_
              refine AllReadyH.cons (o := ({ dst := none, op := Op.store 4 (Operand.tmp 54) (Operand.tmp 53), type := 0, pos := "ref.go:80", after := #[{ on := 13, ground := Ground.data }, { on := 12, ground := Ground.data }, { on := 12, ground := Ground.chain }, { on := 0, ground := Ground.phase }, { on := 1, ground := Ground.phase }, { on := 2, ground := Ground.phase }, { on := 3, ground := Ground.phase }, { on := 4, ground := Ground.phase }, { on := 5, ground := Ground.phase }, { on := 6, ground := Ground.phase }, { on := 7, ground := Ground.phase }, { on := 8, ground := Ground.phase }, { on := 9, ground := Ground.phase }, { on := 10, ground := Ground.phase }, { on := 11, ground := Ground.phase }, { on := 12, ground := Ground.phase }], guard := none } : Oper)) rfl (fun K hK => ?_) AllReadyH.nil
              go_simp
              refine hK.out _ _ (HQ2.out _ _ HbD.out.2) (fun hH2 => ?_)
              clear hK K hHeld
              have hHeld := hH2
              clear hH2
              try simp only [Act.put, List.setIfInBounds_toArray, List.set_cons_zero, List.set_cons_succ]
              refine wpAnyH_done (by kernel_rfl) ?_ _
              -- E15
              clear e1 e2 e3 e4
              go_wp2_with fail
              go_roundg (N - (j + 1))
              case measure => have := Hk.out.1; omega
              case rel =>
                refine ⟨j + 1, l.set ix b, by go_num, by have := Hij.out; omega, by omega, ?_, ?_, rfl, ?_⟩
                · rw [List.map_set]
                  exact (Hbl.out.below HbD.out.2 Hbl.out.lt).set ix (.bool b)
                · rw [Hix.out, Hun.out]
                  exact HPt.out.put Hij.out hltj (by rw [← Hun.out, ← Ht.out]; exact hz) (HbD.out.1.trans (by rw [dw_iff]))
                · exact (Hk.out.2.trans (HbD.out.2.mono (by have := Hbl.out.lt; omega))).setCell (p := ⟨gl, ix, none⟩) (Nat.le_refl _) _
            · have hgej : ¬ (j : Int) ≤ (n : Int) := by omega
              go_wp2_with fail
              go_roundg (N - (i + 1))
              case measure => have := H2.out.2.2.1; omega
              case rel => exact ⟨i + 1, l, by go_num, by omega, Hbl.out, HPt.out.turn (by omega), rfl, Hk.out.2⟩
        · have hgei : ¬ (i : Int) ≤ (n : Int) := by omega
          have hiN : i = N := by omega
          have hbo : Below wo.heap.size wo wr := Hal2.out.trans ((Hbl5.out.2.1.trans H2.out.2.2.2).mono (by have := Hal2.out.size; have := Hbl5.out.2.2; omega))
          have hrun := row_app (P := Try.prog) (own_below HR.out.1 hbo) 150 150 i5 (.slice none 0 0) 24 Try.underlying150 hi5 y0 y1 y2 rfl (by omega) (by have := HR.out.2.2.2.2.2.2.2.size; have := hbo.size; omega) (by omega) (.slice (some ⟨gl, 0, none⟩) t t) rfl 0
          obtain ⟨g2, cap2, w9, hrun, hon2, hk9, hg2, hl2⟩ := hrun
          have HiN := hid hiN
          have H9 := hid (And.intro hon2 (And.intro hk9 (And.intro hg2 (And.intro hl2 hbo))))
          clear hiN hon2 hk9 hg2 hl2 hbo
          go_wp2_with (at_builtin; refine wpList_append_run rfl _ _ _ rfl v5 (.slice (some ⟨wr.heap.size, 0, none⟩) 1 1) (.slice (some ⟨g2, 0, none⟩) (a + 1) cap2) w9 (by rfl) (by rfl) (by exact hrun) ?_)
          go_roundg (K - (a + 1))
          case measure => have := HR.out.2.2.2.2.2.2.1; omega
          case rel =>
            have hptl : PtOk G.prods word N a l2 N 0 := by
              have h1 := H2.out.2.1
              rw [HiN.out] at h1
              exact h1
            have hglo : wo.heap.size ≤ gl := by have := Hal2.out.size; have := Hbl5.out.2.2; omega
            have hown := HR.out.1
            have hvg : v5.ownBlock ≠ some gl := fun e => by
              have := (World.ownsRow.lt hown gl e).2
              omega
            have hbB : wd.heap.size ≤ wo.heap.size := HR.out.2.2.2.2.2.2.2.size
            refine ⟨a + 1, gs ++ [gl], F ++ [l2], _, rfl, by go_num, by omega, ?_, by simp [HR.out.2.1], ⟨by simp [HR.out.2.2.1.1], fun b l hl => ?_⟩, fun b g l hg hl => ?_, fun g hg => ?_, ?_, rfl, ?_⟩
            · rw [List.map_append]
              have h1 := H9.out.1
              rw [Ht.out] at h1
              exact h1
            · rcases get_snoc hl with ⟨_, h1⟩ | ⟨rfl, rfl⟩
              · exact HR.out.2.2.1.2 b l h1
              · rw [HR.out.2.2.1.1]
                exact hptl
            · rcases get_snoc hl with ⟨h0, h1⟩ | ⟨e1, rfl⟩
              · have hg' : gs[b]? = some g := by
                  rw [List.getElem?_append_left (by rw [HR.out.2.1, ← HR.out.2.2.1.1]; exact h0)] at hg
                  exact hg
                have k := HR.out.2.2.2.1 b g l hg' h1
                exact (k.below H9.out.2.2.2.2 k.lt).kp H9.out.2.1 (HR.out.2.2.2.2.1 g (List.mem_of_getElem? hg')).2
              · have e2 : g = gl := by
                  rw [e1, HR.out.2.2.1.1, ← HR.out.2.1] at hg
                  simpa using hg.symm
                subst e2
                exact H2.out.1.kp H9.out.2.1 hvg
            · rcases List.mem_append.1 hg with hg | hg
              · obtain ⟨h1, h2⟩ := HR.out.2.2.2.2.1 g hg
                refine ⟨h1, fun e => ?_⟩
                have e : g2 = g := by simpa [Value.ownBlock] using e
                subst e
                rcases H9.out.2.2.1 with h3 | h3
                · exact h2 h3
                · obtain ⟨b, hb⟩ := List.getElem?_of_mem hg
                  have hbF : b < F.length := by rw [HR.out.2.2.1.1, ← HR.out.2.1]; exact (List.getElem?_eq_some_iff.1 hb).1
                  have k := HR.out.2.2.2.1 b g2 _ hb (List.getElem?_eq_getElem hbF)
                  have := (k.below H9.out.2.2.2.2 k.lt).lt
                  omega
              · have e : g = gl := by simpa using hg
                subst e
                refine ⟨by omega, fun e => ?_⟩
                have e : g2 = g := by simpa [Value.ownBlock] using e
                subst e
                rcases H9.out.2.2.1 with h3 | h3
                · exact hvg h3
                · have := H2.out.1.lt
                  omega
            · rw [List.nodup_append]
              refine ⟨HR.out.2.2.2.2.2.1, by simp, fun g hg g' hg' e => ?_⟩
              have e2 : g' = gl := by simpa using hg'
              obtain ⟨b, hb⟩ := List.getElem?_of_mem hg
              have hbF : b < F.length := by rw [HR.out.2.2.1.1, ← HR.out.2.1]; exact (List.getElem?_eq_some_iff.1 hb).1
              have := (HR.out.2.2.2.1 b g _ hb (List.getElem?_eq_getElem hbF)).lt
              omega
            · exact (HR.out.2.2.2.2.2.2.2.trans (H9.out.2.2.2.2.mono hbB)).trans (H9.out.2.1.to_below (by have := H9.out.2.2.2.2.size; omega) (fun k e => (World.ownsRow.lt hown k e).1))
    · have hge : ¬ (a : Int) < (K : Int) := by omega
      have haK : K = a := by omega
      subst haK
      rcases HR.out.1.2 with ⟨-, h0⟩ | ⟨bo, cap, cur, rfl, hbo, hh, hr⟩
      · omega
      go_wp2_with fail
      go_ret
      have e : (word.length + 1) * (word.length + 1) = N * N := by rw [HNn.out, Hn.out]
      refine ⟨bo, cap, gs, F, by rw [HK.out]; rfl, ?_, ?_, ?_⟩
      · rw [e]
        refine ⟨by rw [HR.out.2.1, HR.out.2.2.1.1], fun b g hg => ?_, HR.out.2.2.2.1, HR.out.2.2.2.2.2.1, fun g hg => ⟨?_, ?_⟩, ?_⟩
        · have h1 := HR.out.1.cells (g := bo) rfl b (drV (N * N) g) (by rw [List.getElem?_map, hg]; rfl)
          rwa [show ((⟨bo, 0, none⟩ : Addr).add b) = ⟨bo, b, none⟩ by unfold Addr.add; split <;> simp_all] at h1
        · have := (HR.out.2.2.2.2.1 g hg).1
          have := H0.out.2.2.size
          omega
        · exact fun e => (HR.out.2.2.2.2.1 g hg).2 (by rw [e]; rfl)
        · exact (Array.getElem?_eq_some_iff.1 hh).1
      · rw [show word.length + 1 = N by rw [HNn.out, Hn.out], ← HK.out]
        exact HR.out.2.2.1
      · exact H0.out.2.2.trans (HR.out.2.2.2.2.2.2.2.mono H0.out.2.2.size)
end Ed
end Go.Proofs.Ytaehooafdbaomaa
/- The document's answer, chapter 17: Begins: what its loops keep. No walk. -/
namespace Go.Proofs.Ytaehooafdbaomaa
open Go.RowKit
namespace Ed

/-- A length is known just where something is derived. -/
theorem lens_dw {ps : List (Int × List Int)} (h0 : ∀ x ∈ ps, 0 ≤ x.1) {a m : Int} (h : Facts.Lens ps a m) : ∃ y, Dw ps [a] y := by
  induction h with
  | mk x hx f _ ih =>
    obtain ⟨z, hz⟩ := Dw.all (ps := ps) (xs := x.2) (fun s hs => by
      by_cases e : 0 ≤ s
      · exact ih s hs e
      · exact ⟨[-1 - s], .term (by omega) .nil⟩)
    exact ⟨z, Dw.one (h0 x hx) hx hz⟩
theorem gen_lens {ps : List (Int × List Int)} {a : Int} (h : Facts.Gen ps true a) : ∃ m, Facts.Lens ps a m := by
  induction h with
  | mk x hx _ _ ih =>
    classical
    refine ⟨_, Facts.Lens.mk x hx (fun s => if e : ∃ m, Facts.Lens ps s m then e.choose else 0) (fun s hs h0 => ?_)⟩
    have e := ih s hs h0
    rw [dif_pos e]
    exact e.choose_spec
theorem sho_dw {ps : List (Int × List Int)} {n : Nat} {ks : List Int} (h : Facts.Sho ps n ks) (hf : Facts.fixS ps ks) (h0 : ∀ x ∈ ps, 0 ≤ x.1) {a : Int} (ha : 0 ≤ a) (hn : a < n) : 0 ≤ Facts.atK ks a ↔ ∃ y, Dw ps [a] y := by
  constructor
  · exact fun hk => lens_dw h0 (h.fnd a ha hn hk)
  · intro hd
    obtain ⟨m, hm⟩ := gen_lens ((gen_iff h0 ha).2 hd)
    exact (Facts.fixS_le hf hm).1
def rowB0 (ks : List Int) (n a : Nat) : List Bool := (List.replicate (n + 1) false).set n (decide (0 ≤ Facts.atK ks (a : Int)))
theorem rowB0_len {ks : List Int} {n a : Nat} : (rowB0 ks n a).length = n + 1 := by unfold rowB0; simp
def tabB0 (ks : List Int) (n K : Nat) : List (List Bool) := (List.range K).map (rowB0 ks n)
theorem tabB0_get {ks : List Int} {n K a : Nat} {l : List Bool} (h : (tabB0 ks n K)[a]? = some l) : a < K ∧ l = rowB0 ks n a := by
  unfold tabB0 at h
  obtain ⟨hlt, e⟩ := List.getElem?_eq_some_iff.1 h
  rw [List.length_map, List.length_range] at hlt
  rw [List.getElem_map, List.getElem_range] at e
  exact ⟨hlt, e.symm⟩
theorem tabB0_tb {ks : List Int} {n K a i : Nat} (ha : a < K) : Dr.tb (tabB0 ks n K) a i = (decide (i = n) && decide (0 ≤ Facts.atK ks (a : Int))) := by
  unfold Dr.tb
  have e : (tabB0 ks n K).getD a [] = rowB0 ks n a := by
    unfold tabB0
    rw [List.getD, List.getElem?_map, List.getElem?_range ha]
    rfl
  rw [e]
  unfold rowB0
  by_cases h : i = n
  · subst h
    rw [List.getD, List.getElem?_set_self (by simp)]
    simp
  · rw [List.getD, List.getElem?_set_ne (fun k => h k.symm)]
    rcases Nat.lt_or_ge i (n + 1) with h1 | h1 <;> simp [h, h1]
theorem TabB.start {ps : List (Int × List Int)} {word ks : List Int} {K : Nat} (h : Facts.Sho ps K ks) (hf : Facts.fixS ps ks) (h0 : ∀ x ∈ ps, 0 ≤ x.1) : TabB ps word K (tabB0 ks word.length K) := by
  refine ⟨by simp [tabB0], fun l hl => ?_, fun a i hb => ?_, fun a ha hp => ?_⟩
  · obtain ⟨a, ha⟩ := List.getElem?_of_mem hl
    rw [(tabB0_get ha).2, rowB0_len]
  · have ha : a < K := by
      by_cases e : a < K
      · exact e
      · have e2 : (tabB0 ks word.length K).getD a [] = [] := by
          rw [List.getD, List.getElem?_eq_none (by simp [tabB0]; omega)]
          rfl
        unfold Dr.tb at hb
        rw [e2] at hb
        simp at hb
    rw [tabB0_tb ha] at hb
    simp at hb
    obtain ⟨rfl, hk⟩ := hb
    obtain ⟨y, hy⟩ := (sho_dw h hf h0 (by omega) (by omega)).1 hk
    exact ⟨Nat.le_refl _, y, by rwa [List.drop_length]⟩
  · rw [tabB0_tb ha]
    obtain ⟨y, hy⟩ := hp
    have := (sho_dw h hf h0 (a := (a : Int)) (by omega) (by omega)).2 ⟨y, hy⟩
    simp [this]
theorem PtAll.tb {ps : List (Int × List Int)} {word : List Int} {N K : Nat} {D : List (List Bool)} (h : PtAll ps word N K D) {a u v : Nat} (ha : a < K) (huv : u ≤ v) (hv : v < N) : Dr.tb D a (u * N + v) = true ↔ Dw ps [(a : Int)] (seg word u v) := by
  obtain ⟨l, hl⟩ : ∃ l, D[a]? = some l := ⟨_, List.getElem?_eq_getElem (by rw [h.1]; exact ha)⟩
  have e : D.getD a [] = l := by rw [List.getD, hl]; rfl
  have := (h.2 a l hl).2 u v huv hv (.inl (by omega))
  unfold Dr.tb
  rw [e]
  exact this
theorem PtAll.rl {ps : List (Int × List Int)} {word : List Int} {N K : Nat} {D : List (List Bool)} (h : PtAll ps word N K D) : ∀ l ∈ D, l.length = N * N := fun l hl => by
  obtain ⟨a, ha⟩ := List.getElem?_of_mem hl
  exact (h.2 a l ha).1
/-- Left sides and places that are closed. -/
def ClB (ps : List (Int × List Int)) (word : List Int) (F : List (List Bool)) (a : Nat) (r : List Int) (i : Nat) : Prop := Dr.tb F a i = true ∨ ¬ Pf ps word F r i
theorem FixB.next {ps : List (Int × List Int)} {word : List Int} {F : List (List Bool)} {x a : Nat} {r : List Int} (h : FixB ps word F x) (hx : ps[x]? = some ((a : Int), r)) (hc : Fine ps r → ∀ i, i < word.length → ClB ps word F a r i) : FixB ps word F (x + 1) := fun q y hq hy hf i hi => by
  by_cases e : q < x
  · exact h q y e hy hf i hi
  · obtain rfl : q = x := by omega
    rw [hx] at hy
    cases hy
    rw [Int.toNat_natCast]
    exact hc hf i hi
/-- A symbol from which something comes. -/
def gdB (ks : List Int) (s : Int) : Bool := decide (s < 0) || decide (0 ≤ Facts.atK ks s)
theorem fine_gd {ps : List (Int × List Int)} {K : Nat} {ks : List Int} (h : Facts.Sho ps K ks) (hf : Facts.fixS ps ks) (h0 : ∀ x ∈ ps, 0 ≤ x.1) {r : List Int} (hr : ∀ s ∈ r, s < (K : Int)) : r.all (gdB ks) = true ↔ Fine ps r := by
  rw [List.all_eq_true]
  constructor
  · intro h1 s hs
    have h2 := h1 s hs
    unfold gdB at h2
    rcases Bool.or_eq_true_iff.1 h2 with h3 | h3
    · exact ⟨[-1 - s], .term (by simpa using h3) .nil⟩
    · by_cases e : 0 ≤ s
      · exact (sho_dw h hf h0 e (hr s hs)).1 (by simpa using h3)
      · exact ⟨[-1 - s], .term (by omega) .nil⟩
  · intro h1 s hs
    unfold gdB
    by_cases e : s < 0
    · simp [e]
    · rw [Bool.or_eq_true_iff]
      exact .inr (by simpa using (sho_dw h hf h0 (by omega) (hr s hs)).2 (h1 s hs))
def BL1 (w2 : World) (B N n K : Nat) (ks : List Int) (k : Nat) (v8 v9 : Value) (w : World) : Prop :=
  ∃ (i : Nat) (gs : List Nat) (vr : Value), vr = v8 ∧ v9 = .int .i64 i ∧ i ≤ K ∧ w.ownsRow B 133 1 vr i (gs.map (drV N)) ∧ gs.length = i ∧ (∀ (j : Nat) g, gs[j]? = some g → B ≤ g ∧ Bk w g 4 ((rowB0 ks n j).map Value.bool) ∧ vr.ownBlock ≠ some g) ∧ gs.Nodup ∧ k = K - i ∧ Below B w2 w
def BL2 (w2 : World) (B bo N K : Nat) (gs : List Nat) (ps : List (Int × List Int)) (word : List Int) (k : Nat) (v11 : Value) (w : World) : Prop :=
  ∃ (F : List (List Bool)) (more : Bool), v11 = .bool more ∧ DB w B bo N gs F ∧ TabB ps word K F ∧ (more = false → FixB ps word F ps.length) ∧ k = 2 * Dr.cntT F + (if more then 1 else 0) ∧ Below B w2 w
def BL3 (w2 : World) (B bo N K : Nat) (gs : List Nat) (ps : List (Int × List Int)) (word : List Int) (P k : Nat) (v11 v12 : Value) (w : World) : Prop :=
  ∃ (x : Nat) (F : List (List Bool)) (more : Bool), v12 = .int .i64 x ∧ v11 = .bool more ∧ x ≤ ps.length ∧ DB w B bo N gs F ∧ TabB ps word K F ∧ (more = false → FixB ps word F x) ∧ (if more then Dr.cntT F < P else Dr.cntT F ≤ P) ∧ k = ps.length - x ∧ Below B w2 w
def BL4 (w3 : World) (ks r : List Int) (k : Nat) (v14 v15 : Value) (w : World) : Prop := ∃ (j : Nat) (ok : Bool), v15 = .int .i64 j ∧ v14 = .bool ok ∧ j ≤ r.length ∧ ok = (r.take j).all (gdB ks) ∧ k = r.length - j ∧ w3 = w
def BL5 (w2 : World) (B bo N n K : Nat) (gs : List Nat) (ps : List (Int × List Int)) (word : List Int) (P x a : Nat) (r : List Int) (k : Nat) (v11 v16 : Value) (w : World) : Prop :=
  ∃ (i : Nat) (F : List (List Bool)) (more : Bool), v16 = .int .i64 i ∧ v11 = .bool more ∧ i ≤ n ∧ DB w B bo N gs F ∧ TabB ps word K F ∧ (more = false → FixB ps word F x ∧ ∀ i', i' < i → ClB ps word F a r i') ∧ (if more then Dr.cntT F < P else Dr.cntT F ≤ P) ∧ k = n - i ∧ Below B w2 w
theorem set_same {α : Type} : ∀ {l : List α} {i : Nat} {a : α}, l[i]? = some a → l.set i a = l
  | [], _, _, h => by cases h
  | x :: r, 0, a, h => by
    have e : x = a := by simpa using h
    rw [List.set_cons_zero, e]
  | x :: r, i + 1, a, h => by rw [List.set_cons_succ, set_same (l := r) (by simpa using h)]
/-- The places come to by q symbols, and whether all that is left may come already. -/
def BL6 (w4 : World) (N : Nat) (F : List (List Bool)) (ps : List (Int × List Int)) (word r : List Int) (i : Nat) (k : Nat) (v17 v18 v19 : Value) (w : World) : Prop :=
  ∃ (q gn : Nat) (nw : List Bool) (yes : Bool), v19 = .int .i64 q ∧ v17 = .slice (some ⟨gn, 0, none⟩) N N ∧ v18 = .bool yes ∧ q ≤ r.length ∧ Bk w gn 4 (nw.map Value.bool) ∧ w4.heap.size ≤ gn ∧ nw.length = N ∧
    (∀ v, v < N → Dr.gB nw v = true → Nw ps word r i q v) ∧ (yes = true → ∃ q' u, Ht ps word F r i q' u) ∧ (yes = false → (∀ q' u, q' < q → ¬ Ht ps word F r i q' u) ∧ ∀ v, v < N → Nw ps word r i q v → Dr.gB nw v = true) ∧ k = r.length - q ∧ Below w4.heap.size w4 w
def BL7 (w6 : World) (gx N : Nat) (F : List (List Bool)) (ps : List (Int × List Int)) (word r : List Int) (i q : Nat) (s : Int) (y0 : Bool) (k : Nat) (v18 v21 : Value) (w : World) : Prop :=
  ∃ (u : Nat) (nx : List Bool) (yes : Bool), v21 = .int .i64 u ∧ v18 = .bool yes ∧ u ≤ N ∧ Bk w gx 4 (nx.map Value.bool) ∧ nx.length = N ∧
    (∀ v, v < N → Dr.gB nx v = true → Nw ps word r i (q + 1) v) ∧ (yes = true → ∃ q' u, Ht ps word F r i q' u) ∧
    (yes = false → y0 = false ∧ (∀ q' u', q' < q → ¬ Ht ps word F r i q' u') ∧ (∀ u', u' < u → ¬ Ht ps word F r i q u') ∧ ∀ v, v < N → ∀ u', u' < u → Nw ps word r i q u' → Ew ps word s u' v → Dr.gB nx v = true) ∧ k = N - u ∧ Below gx w6 w
def BL8 (w6 : World) (gx N : Nat) (ps : List (Int × List Int)) (word r : List Int) (i q : Nat) (s : Int) (u : Nat) (yes : Bool) (k : Nat) (v22 : Value) (w : World) : Prop :=
  ∃ (y : Nat) (nx : List Bool), v22 = .int .i64 y ∧ u ≤ y ∧ y ≤ N ∧ Bk w gx 4 (nx.map Value.bool) ∧ nx.length = N ∧
    (∀ v, v < N → Dr.gB nx v = true → Nw ps word r i (q + 1) v) ∧
    (yes = false → (∀ v, v < N → ∀ u', u' < u → Nw ps word r i q u' → Ew ps word s u' v → Dr.gB nx v = true) ∧ ∀ v, v < y → Ew ps word s u v → Dr.gB nx v = true) ∧ k = N - y ∧ Below gx w6 w
def BegSaid (w : World) (ps : List (Int × List Int)) (st : Int) (word : List Int) (e : Ending) (w' : World) : Prop := ∃ b : Bool, e = .returned (.bool b) ∧ (b = true ↔ Pre ps [st] word) ∧ Below w.heap.size w w'
end Ed
end Go.Proofs.Ytaehooafdbaomaa
