/- Chapter 10 (lang): texts that are derived, and forests over words. Plain lists. -/
import Derived.Test.YtaehooafdbaomaaLang8
import Derived.Test.YtaehooafdbaomaaTree0
import Derived.Test.YtaehooafdbaomaaDbl10
namespace Go.Proofs.Ytaehooafdbaomaa
namespace Lg

theorem tb_toNat {s : Int} (h : s < 0) (hl : -256 ≤ s) : ((tb s).toNat : Int) = -1 - s := by
  unfold tb
  rw [UInt8.toNat_ofNat_of_lt' (by show (-1 - s).toNat < 256; omega)]
  omega
theorem Der.of {ps : List (Int × List Int)} (hlo : ∀ x ∈ ps, ∀ s ∈ x.2, -256 ≤ s) {xs : List Int} {z : List UInt8} (h : Der ps xs z) : (∀ s ∈ xs, -256 ≤ s) → ∀ pre post : List Int, ∃ f, Fo.Of ps (pre ++ toI z ++ post) f xs pre.length (pre.length + z.length) := by
  induction h with
  | nil => intro _ pre post; exact ⟨.nil, by unfold Fo.Of; simp⟩
  | @term s xs z hs _ ih =>
    intro hx pre post
    obtain ⟨f, hf⟩ := ih (fun s hs => hx s (List.mem_cons_of_mem _ hs)) (pre ++ [-1 - s]) post
    have e1 : pre ++ toI (tb s :: z) ++ post = pre ++ [-1 - s] ++ toI z ++ post := by
      simp only [toI, List.map_cons, List.append_assoc, List.cons_append, List.nil_append]
      rw [tb_toNat hs (hx s (List.mem_cons_self ..))]
    rw [e1]
    have e2 : (pre ++ [-1 - s]).length = pre.length + 1 := by simp
    have e3 : pre.length + (tb s :: z).length = pre.length + 1 + z.length := by rw [List.length_cons]; omega
    rw [e2] at hf
    rw [e3]
    refine ⟨.cons s .nil f, ?_⟩
    unfold Fo.Of
    exact ⟨s, xs, pre.length + 1, rfl, .inl ⟨hs, rfl, rfl, rfl, by simp⟩, hf⟩
  | @prod s R xs z1 z2 h0 hp _ _ ih1 ih2 =>
    intro hx pre post
    obtain ⟨q, hq⟩ := List.mem_iff_getElem?.1 hp
    obtain ⟨f1, hf1⟩ := ih1 (hlo _ hp) pre (toI z2 ++ post)
    obtain ⟨f2, hf2⟩ := ih2 (fun s hs => hx s (List.mem_cons_of_mem _ hs)) (pre ++ toI z1) post
    have e1 : pre ++ toI (z1 ++ z2) ++ post = pre ++ toI z1 ++ toI z2 ++ post := by simp [toI]
    have e2 : (pre ++ toI z1).length = pre.length + z1.length := by simp [toI]
    have e3 : pre.length + (z1 ++ z2).length = pre.length + z1.length + z2.length := by rw [List.length_append]; omega
    rw [e2] at hf2
    rw [← List.append_assoc] at hf1
    rw [e1, e3]
    refine ⟨.cons (q : Int) f1 f2, ?_⟩
    unfold Fo.Of
    exact ⟨s, xs, pre.length + z1.length, rfl, .inr ⟨h0, q, R, rfl, hq, hf1⟩, hf2⟩
def toB (l : List Int) : List UInt8 := l.map fun t => UInt8.ofNat t.toNat
theorem toB_toI (z : List UInt8) : toB (toI z) = z := by
  unfold toB toI
  rw [List.map_map]
  conv => rhs; rw [← List.map_id z]
  refine List.map_congr_left fun b _ => ?_
  simp
theorem cut (word : List Int) {i m j : Nat} (h1 : i ≤ m) (h2 : m ≤ j) : (word.drop i).take (j - i) = (word.drop i).take (m - i) ++ (word.drop m).take (j - m) := by
  rw [show j - i = (m - i) + (j - m) by omega, List.take_add, List.drop_drop, show i + (m - i) = m by omega]
theorem der_of_fo {ps : List (Int × List Int)} {word : List Int} : ∀ {f : Fo} {xs : List Int} {i j : Nat}, Fo.Of ps word f xs i j → Der ps xs (toB ((word.drop i).take (j - i)))
  | .nil, xs, i, j, h => by
    unfold Fo.Of at h
    obtain ⟨rfl, rfl⟩ := h
    rw [Nat.sub_self]
    exact .nil
  | .cons p k r, xs, i, j, h => by
    unfold Fo.Of at h
    obtain ⟨s, ys, m, rfl, h1, h2⟩ := h
    have hr := der_of_fo h2
    have hmj := h2.le
    rcases h1 with ⟨hs, _, _, rfl, hw⟩ | ⟨hs, q, R, _, hq, hk⟩
    · rw [cut word (Nat.le_succ i) hmj]
      obtain ⟨hlt, e⟩ := List.getElem?_eq_some_iff.1 hw
      rw [show i + 1 - i = 1 by omega, List.drop_eq_getElem_cons hlt, e]
      exact .term hs hr
    · have hk' := der_of_fo hk
      rw [cut word hk.le hmj]
      unfold toB at hk' hr ⊢
      rw [List.map_append]
      exact .prod hs (List.mem_of_getElem? hq) hk' hr
theorem der_iff {ps : List (Int × List Int)} (hlo : ∀ x ∈ ps, ∀ s ∈ x.2, -256 ≤ s) (a : Nat) (z : List UInt8) : Der ps [(a : Int)] z ↔ ∃ f, Fo.Of ps (toI z) f [(a : Int)] 0 (toI z).length := by
  constructor
  · intro h
    obtain ⟨f, hf⟩ := h.of hlo (fun s hs => by rw [List.mem_singleton] at hs; omega) [] []
    simp only [List.nil_append, List.append_nil, List.length_nil, Nat.zero_add] at hf
    exact ⟨f, by rw [toI_len]; exact hf⟩
  · rintro ⟨f, hf⟩
    have := der_of_fo hf
    rw [List.drop_zero, Nat.sub_zero, List.take_length, toB_toI] at this
    exact this
end Lg
end Go.Proofs.Ytaehooafdbaomaa
/- Chapter 10: what the doubling grammar derives. Plain lists. -/
namespace Go.Proofs.Ytaehooafdbaomaa

def zs0 (k : Nat) : List UInt8 := List.replicate k 0
theorem dbl_ps {x : Int × List Int} (h : x ∈ dbl10.prods) : x = (0, [0, 0]) ∨ x = (0, [-1]) := by simpa [dbl10] using h
theorem dbl_fwd {xs : List Int} {z : List UInt8} (h : Lg.Der dbl10.prods xs z) : (∀ s ∈ xs, s = 0 ∨ s = -1) → z = zs0 z.length ∧ xs.length ≤ z.length := by
  induction h with
  | nil => intro _; exact ⟨rfl, Nat.le_refl _⟩
  | @term s xs z hs _ ih =>
    intro hx
    obtain ⟨h1, h2⟩ := ih (fun t ht => hx t (List.mem_cons_of_mem _ ht))
    have e : s = -1 := by have := hx s (List.mem_cons_self ..); omega
    subst e
    have e2 : Lg.tb (-1) = 0 := by decide
    refine ⟨?_, by simp; exact h2⟩
    rw [e2, List.length_cons]
    show 0 :: z = List.replicate (z.length + 1) 0
    rw [List.replicate_succ]
    congr 1
  | @prod s R xs z1 z2 _ hp _ _ ih1 ih2 =>
    intro hx
    have hR : ∀ t ∈ R, t = 0 ∨ t = -1 := by
      rcases dbl_ps hp with e | e <;> (injection e with _ e; subst e; simp)
    have hRl : 1 ≤ R.length := by
      rcases dbl_ps hp with e | e <;> (injection e with _ e; subst e; simp)
    obtain ⟨h1, h2⟩ := ih1 hR
    obtain ⟨h3, h4⟩ := ih2 (fun t ht => hx t (List.mem_cons_of_mem _ ht))
    refine ⟨?_, by simp only [List.length_cons, List.length_append]; omega⟩
    rw [List.length_append]
    show z1 ++ z2 = List.replicate (z1.length + z2.length) 0
    rw [← List.replicate_append_replicate]
    show z1 ++ z2 = zs0 z1.length ++ zs0 z2.length
    rw [← h1, ← h3]
theorem dbl_bwd : ∀ k : Nat, Lg.Der dbl10.prods [0] (zs0 (k + 1))
  | 0 => Lg.Der.one (R := [-1]) (by decide) (by simp [dbl10]) (by have := Lg.Der.term (ps := dbl10.prods) (s := -1) (xs := []) (by decide) .nil; exact this)
  | k + 1 => by
    have h1 := dbl_bwd k
    have h0 : Lg.Der dbl10.prods [0] (zs0 1) := dbl_bwd 0
    have h2 := h1.app h0
    have e : zs0 (k + 1) ++ zs0 1 = zs0 (k + 1 + 1) := List.replicate_append_replicate
    rw [e] at h2
    exact Lg.Der.one (R := [0, 0]) (by decide) (by simp [dbl10]) h2
theorem dbl_iff (z : List UInt8) : Lg.Der dbl10.prods [0] z ↔ z = zs0 z.length ∧ 1 ≤ z.length := by
  constructor
  · intro h
    exact dbl_fwd h (by simp)
  · rintro ⟨h1, h2⟩
    rw [h1, show z.length = z.length - 1 + 1 by omega]
    exact dbl_bwd _
theorem dbl_words {ss : List (List UInt8)} (h1 : ss.Pairwise WLt) (h2 : ∀ z, z ∈ ss ↔ Lg.Der dbl10.prods [dbl10.start] z ∧ z.length ≤ 3) : ss = [zs0 1, zs0 2, zs0 3] := by
  refine rise_eq h1 ?_ fun z => ?_
  · have f : ∀ a b, a < b → WLt (zs0 a) (zs0 b) := fun a b h => .inl (by simpa [zs0] using h)
    simp only [List.pairwise_cons, List.mem_cons, List.not_mem_nil, or_false]
    refine ⟨?_, ?_, ?_, .nil⟩
    · rintro y (rfl | rfl) <;> exact f _ _ (by decide)
    · rintro y rfl; exact f _ _ (by decide)
    · rintro y hy; exact hy.elim
  · rw [h2, show dbl10.start = 0 from rfl, dbl_iff]
    simp only [List.mem_cons, List.not_mem_nil, or_false]
    constructor
    · rintro ⟨⟨e, h3⟩, h4⟩
      rw [e]
      have : z.length = 1 ∨ z.length = 2 ∨ z.length = 3 := by omega
      rcases this with h | h | h <;> simp [h]
    · rintro (rfl | rfl | rfl) <;> decide
theorem dbl_short {H : List (List UInt8)} (hn : H.Nodup) (h : ∀ z ∈ H, z = zs0 z.length ∧ z.length ≤ 3) : H.length ≤ 4 := by
  have := nodup_sub (m := (List.range 4).map zs0) hn (fun z hz => by
    obtain ⟨e, hl⟩ := h z hz
    rw [e]
    exact List.mem_map.2 ⟨z.length, List.mem_range.2 (by omega), rfl⟩)
  simpa using this
theorem dbl_fit {live : Int → Prop} {ks : List Int} (h : Lg.Over dbl10.prods live ks 3) : False := by
  rcases h with ⟨a, H, _, hn, hl, hz⟩ | ⟨x, hx, hu, i, H, hi, hn, hl, hz⟩
  · have := dbl_short hn fun z hm => by
      obtain ⟨h1, h2⟩ := hz z hm
      obtain ⟨R, h3, h4⟩ := h1.inv (by omega)
      refine ⟨(dbl_fwd h4 ?_).1, by omega⟩
      rcases dbl_ps h3 with e | e <;> (injection e with _ e; subst e; simp)
    omega
  · have hR : ∀ t ∈ x.2, t = 0 ∨ t = -1 := by
      rcases dbl_ps hx with e | e <;> (subst e; simp)
    have := dbl_short hn fun z hm => by
      obtain ⟨h1, h2⟩ := hz z hm
      have h3 := Lg.tot_pos (ks := ks) (xs := x.2.drop i) (fun s hs => Lg.aliveS_iff.1 hu.2.1 s (List.mem_of_mem_drop hs))
      exact ⟨(dbl_fwd h1 (fun t ht => hR t (List.mem_of_mem_take ht))).1, by omega⟩
    omega
theorem dbl_sound : Pl.soundB dbl10 = true := by kernel_rfl
theorem dbl_two : ∃ f, Fo.Of dbl10.prods [0, 0] f [0] 0 2 := by
  have h := (Lg.der_iff (ps := dbl10.prods) (by intro x hx s hs; rcases dbl_ps hx with e | e <;> (subst e; simp at hs; omega)) 0 (zs0 2)).1 (dbl_bwd 1)
  exact h
theorem dbl_none : ¬ ∃ f, Fo.Of dbl10.prods [] f [0] 0 0 := by
  rintro ⟨f, hf⟩
  have := Lg.der_of_fo hf
  have h2 := (dbl_iff _).1 this
  simp [Lg.toB] at h2
end Go.Proofs.Ytaehooafdbaomaa
