/- Chapter 10: all words of few terminals, in order. Plain lists. -/
import Derived.Test.YtaehooafdbaomaaLangDbl
import Derived.Test.YtaehooafdbaomaaProds
import Derived.Test.YtaehooafdbaomaaDer2
namespace Go.Proofs.Ytaehooafdbaomaa

/-- All words that go on with one more terminal. -/
def nextB (t : Nat) (l : List (List UInt8)) : List (List UInt8) := l.flatMap fun z => (List.range t).map fun c => z ++ [UInt8.ofNat c]
/-- All words of n terminals. -/
def allB (t : Nat) : Nat → List (List UInt8)
  | 0 => [[]]
  | n + 1 => nextB t (allB t n)
theorem nextB_app (t : Nat) (l m : List (List UInt8)) : nextB t (l ++ m) = nextB t l ++ nextB t m := by simp [nextB]
theorem nextB_len (t : Nat) (l : List (List UInt8)) : (nextB t l).length = l.length * t := by
  induction l with
  | nil => simp [nextB]
  | cons z l ih =>
    have h : nextB t (z :: l) = (List.range t).map (fun c => z ++ [UInt8.ofNat c]) ++ nextB t l := by simp [nextB]
    rw [h, List.length_append, ih, List.length_map, List.length_range, List.length_cons, Nat.succ_mul, Nat.add_comm]
theorem allB_len (t : Nat) : ∀ n, (allB t n).length = t ^ n
  | 0 => rfl
  | n + 1 => by unfold allB; rw [nextB_len, allB_len t n, Nat.pow_succ]
theorem ofNat_toNat {c : Nat} (h : c < 256) : (UInt8.ofNat c).toNat = c := UInt8.toNat_ofNat_of_lt' h
theorem allB_mem {t : Nat} (ht : t ≤ 256) : ∀ (n : Nat) (z : List UInt8), z ∈ allB t n ↔ z.length = n ∧ ∀ b ∈ z, b.toNat < t
  | 0, z => by
    unfold allB
    rw [List.mem_singleton]
    constructor
    · rintro rfl; simp
    · rintro ⟨h, -⟩; exact List.eq_nil_of_length_eq_zero h
  | n + 1, z => by
    unfold allB nextB
    simp only [List.mem_flatMap, List.mem_map, List.mem_range]
    constructor
    · rintro ⟨y, hy, c, hc, rfl⟩
      obtain ⟨h1, h2⟩ := (allB_mem ht n y).1 hy
      refine ⟨by simp [h1], fun b hb => ?_⟩
      rcases List.mem_append.1 hb with hb | hb
      · exact h2 b hb
      · rw [List.mem_singleton] at hb
        subst hb
        rw [ofNat_toNat (by omega)]; exact hc
    · rintro ⟨h1, h2⟩
      have hz : z ≠ [] := fun e => by rw [e] at h1; simp at h1
      refine ⟨z.dropLast, (allB_mem ht n _).2 ⟨by rw [List.length_dropLast, h1]; rfl, fun b hb => h2 b (List.dropLast_subset z hb)⟩, (z.getLast hz).toNat, h2 _ (List.getLast_mem hz), ?_⟩
      rw [UInt8.ofNat_toNat]
      exact List.dropLast_concat_getLast hz
theorem cb_app : ∀ {a b : List UInt8} (c d : List UInt8), a.length = b.length → Lib.compareBytes a b < 0 → Lib.compareBytes (a ++ c) (b ++ d) < 0
  | [], [], _, _, _, h => by simp [Lib.compareBytes] at h
  | [], _ :: _, _, _, hl, _ => by simp at hl
  | _ :: _, [], _, _, hl, _ => by simp at hl
  | x :: a, y :: b, c, d, hl, h => by
    rw [List.cons_append, List.cons_append]
    unfold Lib.compareBytes at h ⊢
    by_cases h1 : x < y
    · rw [if_pos h1]; omega
    · by_cases h2 : y < x
      · rw [if_neg h1, if_pos h2] at h; omega
      · rw [if_neg h1, if_neg h2] at h ⊢
        exact cb_app c d (by simpa using hl) h
theorem cb_pre : ∀ (a c d : List UInt8), Lib.compareBytes (a ++ c) (a ++ d) = Lib.compareBytes c d
  | [], _, _ => rfl
  | x :: a, c, d => by
    rw [List.cons_append, List.cons_append]
    have h : ¬ x < x := fun h => by rw [UInt8.lt_iff_toNat_lt] at h; omega
    have e : ∀ p q : List UInt8, Lib.compareBytes (x :: p) (x :: q) = Lib.compareBytes p q := fun p q => by
      show (if x < x then (-1 : Int) else if x < x then 1 else Lib.compareBytes p q) = _
      rw [if_neg h, if_neg h]
    rw [e]
    exact cb_pre a c d
theorem nextB_rise {t n : Nat} (ht : t ≤ 256) : ∀ {l : List (List UInt8)}, (∀ z ∈ l, z.length = n) → l.Pairwise WLt → (nextB t l).Pairwise WLt
  | [], _, _ => by simp [nextB]
  | z :: l, hl, hp => by
    obtain ⟨h1, h2⟩ := List.pairwise_cons.1 hp
    have h : nextB t (z :: l) = (List.range t).map (fun c => z ++ [UInt8.ofNat c]) ++ nextB t l := by simp [nextB]
    rw [h, List.pairwise_append]
    refine ⟨?_, nextB_rise ht (fun y hy => hl y (List.mem_cons_of_mem _ hy)) h2, fun x hx y hy => ?_⟩
    · rw [List.pairwise_map]
      refine List.Pairwise.imp_of_mem ?_ List.pairwise_lt_range
      intro a b ha hb hab
      rw [List.mem_range] at ha hb
      refine .inr ⟨by simp, ?_⟩
      rw [cb_pre]
      unfold Lib.compareBytes
      rw [if_pos (by rw [UInt8.lt_iff_toNat_lt, ofNat_toNat (by omega), ofNat_toNat (by omega)]; exact hab)]
      omega
    · obtain ⟨c, _, rfl⟩ := List.mem_map.1 hx
      unfold nextB at hy
      obtain ⟨y', hy', hy2⟩ := List.mem_flatMap.1 hy
      obtain ⟨d, _, rfl⟩ := List.mem_map.1 hy2
      have e1 := hl z (List.mem_cons_self ..)
      have e2 := hl y' (List.mem_cons_of_mem _ hy')
      rcases h1 y' hy' with h3 | ⟨h3, h4⟩
      · omega
      · exact .inr ⟨by simp [h3], cb_app _ _ h3 h4⟩
theorem allB_rise {t : Nat} (ht : t ≤ 256) : ∀ n, (allB t n).Pairwise WLt
  | 0 => by unfold allB; exact List.pairwise_singleton _ _
  | n + 1 => by unfold allB; exact nextB_rise ht (fun z hz => ((allB_mem ht n z).1 hz).1) (allB_rise ht n)
/-- The words of less than m terminals of which d holds. -/
def wordsB (t : Nat) (d : List UInt8 → Bool) : Nat → List (List UInt8)
  | 0 => []
  | m + 1 => wordsB t d m ++ (allB t m).filter d
theorem wordsB_mem {t : Nat} (ht : t ≤ 256) (d : List UInt8 → Bool) : ∀ (m : Nat) (z : List UInt8), z ∈ wordsB t d m ↔ d z = true ∧ z.length < m ∧ ∀ b ∈ z, b.toNat < t
  | 0, z => by simp [wordsB]
  | m + 1, z => by
    unfold wordsB
    rw [List.mem_append, wordsB_mem ht d m z, List.mem_filter, allB_mem ht]
    constructor
    · rintro (⟨h1, h2, h3⟩ | ⟨⟨h1, h2⟩, h3⟩)
      · exact ⟨h1, by omega, h3⟩
      · exact ⟨h3, by omega, h2⟩
    · rintro ⟨h1, h2, h3⟩
      by_cases h : z.length < m
      · exact .inl ⟨h1, h, h3⟩
      · exact .inr ⟨⟨by omega, h3⟩, h1⟩
theorem wordsB_rise {t : Nat} (ht : t ≤ 256) (d : List UInt8 → Bool) : ∀ m, (wordsB t d m).Pairwise WLt
  | 0 => .nil
  | m + 1 => by
    unfold wordsB
    rw [List.pairwise_append]
    refine ⟨wordsB_rise ht d m, (allB_rise ht m).sublist List.filter_sublist, fun x hx y hy => .inl ?_⟩
    have h1 := ((wordsB_mem ht d m x).1 hx).2.1
    have h2 := ((allB_mem ht m y).1 (List.mem_filter.1 hy).1).1
    omega
theorem wordsB_le (t : Nat) (d : List UInt8 → Bool) : ∀ m, (wordsB t d m).length ≤ (wordsB t (fun _ => true) m).length
  | 0 => Nat.le_refl _
  | m + 1 => by
    unfold wordsB
    rw [List.length_append, List.length_append]
    have h1 := wordsB_le t d m
    have h2 := List.length_filter_le d (allB t m)
    have h3 : ((allB t m).filter fun _ => true) = allB t m := List.filter_eq_self.2 fun _ _ => rfl
    rw [h3]
    omega
theorem wordsB_few {t m : Nat} (ht : t ≤ 3) (hm : m ≤ 5) (d : List UInt8 → Bool) : (wordsB t d m).length ≤ 121 := by
  refine Nat.le_trans (wordsB_le t d m) ?_
  have hc : t = 0 ∨ t = 1 ∨ t = 2 ∨ t = 3 := by omega
  have hd : m = 0 ∨ m = 1 ∨ m = 2 ∨ m = 3 ∨ m = 4 ∨ m = 5 := by omega
  rcases hc with rfl | rfl | rfl | rfl <;> rcases hd with rfl | rfl | rfl | rfl | rfl | rfl <;> decide +kernel
namespace Lg
/-- The bytes of what is derived are terminals. -/
theorem Der.letters {ps : List (Int × List Int)} {t : Nat} (ht : t ≤ 256) (hps : ∀ x ∈ ps, ∀ s ∈ x.2, -(t : Int) ≤ s) {xs : List Int} {z : List UInt8} (h : Der ps xs z) : (∀ s ∈ xs, -(t : Int) ≤ s) → ∀ b ∈ z, b.toNat < t := by
  induction h with
  | nil => intro _ b hb; cases hb
  | @term s xs z hs _ ih =>
    intro hx b hb
    rcases List.mem_cons.1 hb with rfl | hb
    · have h1 := hx s (List.mem_cons_self ..)
      have := tb_toNat hs (by omega)
      omega
    · exact ih (fun t ht => hx t (List.mem_cons_of_mem _ ht)) b hb
  | @prod s R xs z1 z2 h0 hp _ _ ih1 ih2 =>
    intro hx b hb
    rcases List.mem_append.1 hb with hb | hb
    · exact ih1 (hps _ hp) b hb
    · exact ih2 (fun t ht => hx t (List.mem_cons_of_mem _ ht)) b hb
/-- Few words cannot be too many. -/
theorem few_fit {ps : List (Int × List Int)} {t : Nat} (ht : t ≤ 3) (hps : ∀ x ∈ ps, ∀ s ∈ x.2, -(t : Int) ≤ s) {live : Int → Prop} {ks : List Int} {most : Nat} (hm : most ≤ 4) (h : Over ps live ks most) : False := by
  have hfew : ∀ H : List (List UInt8), H.Nodup → (∀ z ∈ H, z.length ≤ most ∧ ∀ b ∈ z, b.toNat < t) → H.length ≤ 121 := fun H hn hz =>
    Nat.le_trans (nodup_sub hn (m := wordsB t (fun _ => true) (most + 1)) fun z hz' => (wordsB_mem (by omega) _ _ z).2 ⟨rfl, by have := (hz z hz').1; omega, (hz z hz').2⟩) (wordsB_few ht (by omega) _)
  rcases h with ⟨a, H, _, hn, hl, hz⟩ | ⟨x, hx, hu, i, H, hi, hn, hl, hz⟩
  · have := hfew H hn fun z hz' => ⟨by have := (hz z hz').2; omega, (hz z hz').1.letters (by omega) hps fun s hs => by rw [List.mem_singleton] at hs; omega⟩
    omega
  · have := hfew H hn fun z hz' => ⟨by
      have h1 := (hz z hz').2
      have h3 := tot_pos (ks := ks) (xs := x.2.drop i) (fun s hs => aliveS_iff.1 hu.2.1 s (List.mem_of_mem_drop hs))
      omega, (hz z hz').1.letters (by omega) hps fun s hs => hps x hx s (List.mem_of_mem_take hs)⟩
    omega
end Lg
/-- What Words answers is what the document's way finds. -/
theorem words_same {ps : List (Int × List Int)} {t : Nat} {a : Int} (h0 : 0 ≤ a) (ht : t ≤ 256) (hps : ∀ x ∈ ps, ∀ s ∈ x.2, -(t : Int) ≤ s) {ss : List (List UInt8)} {most : Nat} {d : List UInt8 → Bool} (hp : ss.Pairwise WLt)
    (hm : ∀ z, z ∈ ss ↔ Lg.Der ps [a] z ∧ z.length ≤ most) (hd : ∀ z, (∀ b ∈ z, b.toNat < t) → (d z = true ↔ Lg.Der ps [a] z)) : ss = wordsB t d (most + 1) := by
  refine rise_eq hp (wordsB_rise ht d _) fun z => ?_
  rw [hm, wordsB_mem ht]
  constructor
  · rintro ⟨h1, h2⟩
    have h3 := h1.letters ht hps (fun s hs => by rw [List.mem_singleton] at hs; omega)
    exact ⟨(hd z h3).2 h1, by omega, h3⟩
  · rintro ⟨h1, h2, h3⟩
    exact ⟨(hd z h3).1 h1, by omega⟩
end Go.Proofs.Ytaehooafdbaomaa
/- The document's chapter 10: All: walk. -/
namespace Go.Proofs.Ytaehooafdbaomaa
open Go.RowKit
attribute [local go_sem ↓] Go.wp_at_zero Go.wp_at_succ
attribute [local go_sem] frozen_alloc_lt

theorem slInfoA : (Try.prog.info? 22).map (fun i => (i.zero, i.size, i.bytes)) = some (some (.slice none 0 0), 1, 24) := by kernel_rfl
theorem own_emptyA (w : World) : (w.alloc (.cells #[] 3)).ownsRow w.heap.size 3 1 (.slice (some ⟨w.heap.size, 0, none⟩) 0 0) 0 [] :=
  ⟨rfl, .inr ⟨w.heap.size, 0, #[], rfl, Nat.le_refl _, heap_alloc_new _ _, Nat.le_refl _, by unfold maxLen; omega, by simp, by simp⟩⟩
theorem rowID_cellsA {w : World} {D : Nat → Prop} {ga : Option Addr} {ys : List Int} (h : RowID w D ga ys) : CellsD w D ga (ys.map (Value.int .i64)).length fun i u => (ys.map (Value.int .i64))[i]? = some u := by
  intro i hi
  rw [List.length_map] at hi
  obtain ⟨g, o, h1, h2, h3⟩ := h.at hi
  exact ⟨g, o, _, h1, h2, h3, by show (ys.map (Value.int .i64))[i]? = _; rw [List.getElem?_map, List.getElem?_eq_getElem hi]; rfl⟩
/-- append(append([]int{}, z...), c): a new row. -/
theorem copy_one (wr : World) {D : Nat → Prop} {ga : Option Addr} (ca : Nat) {zs : List Int} (hz : RowID wr D ga zs) (hl : zs.length ≤ 1000000) (c : Int) :
    ∃ (g1 : Option Addr) (c1 : Nat) (wb : World) (g2 c2 : Nat) (wc : World),
      (Builtin.append_ #[22, 22] 22 #[.slice (some ⟨wr.heap.size, 0, none⟩) 0 0, .slice ga zs.length ca]).run Try.prog (wr.alloc (.cells #[] 3)) = .ok (.slice g1 zs.length c1) wb ∧
      (Builtin.append_ #[22, 22] 22 #[.slice g1 zs.length c1, .slice (some ⟨wb.heap.size, 0, none⟩) 1 1]).run Try.prog (wb.alloc (.cells #[.int .i64 c] 3)) = .ok (.slice (some ⟨g2, 0, none⟩) (zs.length + 1) c2) wc ∧
      wc.ownsRow wr.heap.size 3 1 (.slice (some ⟨g2, 0, none⟩) (zs.length + 1) c2) (zs.length + 1) ((zs ++ [c]).map (Value.int .i64)) ∧ Kp (fun _ => False) wr wc := by
  obtain ⟨i3, hi3, z0, z1, z2⟩ := info_parts intInfo
  have hk1 : Kp (fun _ => False) wr (wr.alloc (.cells #[] 3)) := (Kp.refl _ wr).alloc _
  obtain ⟨g1, c1, wb, r1, o1, gr1, -⟩ := run_append_cells (P := Try.prog) (wr.alloc (.cells #[] 3)) wr.heap.size 22 22 3 i3 (.int .i64 0) Try.underlying22 hi3 z0 z1 (by omega) rfl _ 0 [] (own_emptyA wr) D ga ca (zs.map (Value.int .i64)) (rowID_cellsA (hz.kp hk1 (fun _ _ h => h))) (fun u hu => by obtain ⟨x, _, rfl⟩ := List.mem_map.1 hu; rfl) (by rw [List.length_map]; omega) hk1.size
  rw [List.length_map, Nat.zero_add] at r1 o1
  have hk2 : Kp (fun _ => False) wr wb := hk1.grown gr1 (fun k hk hlt => by
    have e : wr.heap.size = k := by simpa [Value.ownBlock] using hk
    omega)
  obtain ⟨g2, c2, wc, r2, o2, gr2, -, -⟩ := run_append_lies (P := Try.prog) (wb.alloc (.cells #[.int .i64 c] 3)) 22 22 wr.heap.size 3 i3 (.int .i64 0) 1 8 Try.underlying22 hi3 z0 z1 z2 rfl (by omega) _ zs.length _ (o1.alloc _) ⟨wb.heap.size, 0, none⟩ 1 1 [.int .i64 c] rfl
    (fun j u hj => by
      rw [addr_add0]
      exact ((Bk.new wb 3 [.int .i64 c]).cell j).trans hj) (fun u hu => by simp at hu; subst hu; rfl) (by omega) (by unfold maxLen; omega) (by omega) (by have := hk2.size; simp; omega) (wb.heap.size + 1) (by simp)
  refine ⟨g1, c1, wb, g2, c2, wc, r1, r2, ?_, (hk2.alloc _).grown gr2 fun k hk hlt => ?_⟩
  · rw [List.map_append]; simpa using o2
  · have := (World.ownsRow.lt o1 k hk).1
    omega
/-- next = append(next, append(append([]int{}, z...), c)). -/
theorem all_step {wr : World} {B : Nat} {vn : Value} {acc : List (List UInt8)} (h : OwnA WdR 1 wr B 22 vn acc) (hB : B ≤ wr.heap.size) {D : Nat → Prop} {ga : Option Addr} (ca : Nat) {z : List UInt8} (hz : RowID wr D ga (toI z)) (hl : z.length ≤ 1000) (ha : acc.length ≤ 100000) (c : Nat) (hc : c < 256) :
    ∃ (g1 : Option Addr) (c1 : Nat) (wb : World) (g2 c2 : Nat) (wc : World) (g3 c3 : Nat) (wd : World),
      (Builtin.append_ #[22, 22] 22 #[.slice (some ⟨wr.heap.size, 0, none⟩) 0 0, .slice ga z.length ca]).run Try.prog (wr.alloc (.cells #[] 3)) = .ok (.slice g1 z.length c1) wb ∧
      (Builtin.append_ #[22, 22] 22 #[.slice g1 z.length c1, .slice (some ⟨wb.heap.size, 0, none⟩) 1 1]).run Try.prog (wb.alloc (.cells #[.int .i64 (c : Int)] 3)) = .ok (.slice (some ⟨g2, 0, none⟩) (z.length + 1) c2) wc ∧
      (Builtin.append_ #[23, 23] 23 #[vn, .slice (some ⟨wc.heap.size, 0, none⟩) 1 1]).run Try.prog (wc.alloc (.cells #[.slice (some ⟨g2, 0, none⟩) (z.length + 1) c2] 22)) = .ok (.slice (some ⟨g3, 0, none⟩) (acc.length + 1) c3) wd ∧
      OwnA WdR 1 wd B 22 (.slice (some ⟨g3, 0, none⟩) (acc.length + 1) c3) (acc ++ [z ++ [UInt8.ofNat c]]) ∧ Kp (fun k => vn.ownBlock = some k) wr wd := by
  obtain ⟨i4, hi4, y0, y1, y2⟩ := info_parts slInfoA
  obtain ⟨g1, c1, wb, g2, c2, wc, r1, r2, o2, hk⟩ := copy_one wr ca hz (by rw [toI_len]; omega) (c : Int)
  rw [toI_len] at r1 r2 o2
  have hlt := h.lt
  have h2 := h.kp WdR.fit hk (fun _ _ _ e => e)
  have e1 : toI z ++ [(c : Int)] = toI (z ++ [UInt8.ofNat c]) := by
    unfold toI
    rw [List.map_append, List.map_singleton, ofNat_toNat hc]
  rw [e1] at o2
  have hle : (z ++ [UInt8.ofNat c]).length = z.length + 1 := by simp
  obtain ⟨ga', cap', hv, hrow⟩ := own_rowID o2
  injection hv with hv1 hv2 hv3
  have hx : WdR wc (fun q => B ≤ q ∧ q < wc.heap.size ∧ vn.ownBlock ≠ some q) (z ++ [UInt8.ofNat c]) [.slice (some ⟨g2, 0, none⟩) (z.length + 1) c2] := ⟨some ⟨g2, 0, none⟩, c2, by rw [hle], by
    rw [hv1]
    exact hrow.mono fun k hk' => ⟨by omega, hk'.2, fun e => by have := (hlt k e).2; omega⟩⟩
  obtain ⟨g3, c3, wd, r3, o3, hk3, -, -⟩ := h2.app (P := Try.prog) WdR.fit 23 23 i4 (.slice none 0 0) 24 Try.underlying23 hi4 y0 y1 y2 rfl (by omega) (by omega) (by have := hk.size; omega) (by omega) _ _ hx 0
  exact ⟨g1, c1, wb, g2, c2, wc, g3, c3, wd, r1, r2, r3, o3, (hk.mono fun _ _ e => e.elim).trans hk3⟩
def A1 (w0 : World) (t n : Nat) (k : Nat) (v5 v6 : Value) (w : World) : Prop :=
  ∃ (i : Nat) (vo : Value), vo = v5 ∧ v6 = .int .i64 i ∧ i ≤ n ∧ k = n - i ∧ OwnA WdR 1 w w0.heap.size 22 vo (allB t i) ∧ Below w0.heap.size w0 w
def A2 (w1 : World) (t : Nat) (L : List (List UInt8)) (k : Nat) (v7 v8 : Value) (w : World) : Prop :=
  ∃ (j : Nat) (vn : Value), vn = v7 ∧ v8 = .int .i64 j ∧ j ≤ L.length ∧ k = L.length - j ∧ OwnA WdR 1 w w1.heap.size 22 vn (nextB t (L.take j)) ∧ Below w1.heap.size w1 w
def A3 (w1 : World) (t : Nat) (L : List (List UInt8)) (z : List UInt8) (j : Nat) (k : Nat) (v7 v9 : Value) (w : World) : Prop :=
  ∃ (c : Nat) (vn : Value), vn = v7 ∧ v9 = .int .i64 c ∧ c ≤ t ∧ k = t - c ∧ OwnA WdR 1 w w1.heap.size 22 vn (nextB t (L.take j) ++ (List.range c).map fun c => z ++ [UInt8.ofNat c]) ∧ Below w1.heap.size w1 w
theorem OwnA.base {α : Type} {R : World → (Nat → Prop) → α → List Value → Prop} {c : Nat} {w : World} {B B' : Nat} {T : TypeId} {v : Value} {ls : List α} (hR : FitA R c) (h : OwnA R c w B T v ls) (hB : B' ≤ B) : OwnA R c w B' T v ls := by
  obtain ⟨xs, h1, h2⟩ := h
  exact ⟨xs, own_mono h1 hB, h2.mono hR (fun k hk => ⟨Nat.le_trans hB hk.1, hk.2⟩)⟩
set_option maxHeartbeats 8000000 in
set_option maxRecDepth 8000 in
theorem allw_calls (w : World) (t n : Nat) (ht : t ≤ 3) (hn : n ≤ 4) : Calls Try.prog 96 #[.int .i64 (t : Int), .int .i64 (n : Int)] w fun e w' => ∃ v, e = .returned v ∧ OwnA WdR 1 w' w.heap.size 22 v (allB t n) ∧ Below w.heap.size w w' := by
  have hpow : ∀ i, i ≤ n + 1 → (allB t i).length ≤ 243 := fun i hi => by
    rw [allB_len]
    exact Nat.le_trans (Nat.pow_le_pow_left ht i) (Nat.le_trans (Nat.pow_le_pow_right (by omega) (show i ≤ 5 by omega)) (by decide))
  have hone : OwnA WdR 1 (w.alloc (.cells #[.slice none 0 0] 22)) w.heap.size 22 (.slice (some ⟨w.heap.size, 0, none⟩) 1 1) (allB t 0) :=
    OwnA.one (x := [.slice none 0 0]) (a := []) WdR.fit ⟨none, 0, rfl, fun i hi => by simp [toI] at hi⟩ (Nat.le_refl _)
  have hb0 : Below w.heap.size w (w.alloc (.cells #[.slice none 0 0] 22)) := (Below.refl _ _).alloc (Nat.le_refl _) _
  have Hone := hid (And.intro hone hb0)
  have Hpow := hid hpow
  have Ht := hid (And.intro ht hn)
  have hnI : (n : Int) ≤ 4 := by omega
  have htI : (t : Int) ≤ 3 := by omega
  clear hone hb0 hpow ht hn
  go_enter Try.func96, Try.ntmps96
  go_wp2_with fail
  go_loopg [5, 6] n (fun k v5 v6 wr => A1 w t n k v5 v6 wr)
  case atStart => exact ⟨0, _, rfl, rfl, Nat.zero_le _, rfl, Hone.out.1, Hone.out.2⟩
  case round =>
    obtain ⟨i, vo, rfl, rfl, hi, hk, hout, hb⟩ := hrel
    have Hk := hid hk
    have Hb := hid hb
    by_cases hlt : i < n
    · have hlt' : (i : Int) < (n : Int) := by omega
      have hi0 : (0 : Int) ≤ (i : Int) := by omega
      obtain ⟨L, hL⟩ : ∃ L, L = allB t i := ⟨_, rfl⟩
      have hLlen : L.length ≤ 243 := by rw [hL]; exact Hpow.out i (by omega)
      have hLz : ∀ z ∈ L, z.length = i := fun z hz => by rw [hL] at hz; exact ((allB_mem (by have := Ht.out.1; omega) i z).1 hz).1
      have hLn : (nextB t L).length ≤ 243 := by rw [hL]; exact Hpow.out (i + 1) (by omega)
      rw [← hL] at hout
      obtain ⟨go, co, hvo, hlies⟩ := hout.lies WdR.fit
      obtain ⟨M, hM⟩ : ∃ M, M = L.length := ⟨_, rfl⟩
      rw [← hM] at hvo
      have hMI : (M : Int) ≤ 243 := by omega
      have HL := hid (And.intro hL (And.intro hLlen (And.intro hLz (And.intro hLn hM))))
      have Hlies := hid hlies
      have Hlt := hid hlt
      subst hvo
      obtain ⟨w1, rfl⟩ : ∃ w1 : World, w1 = wr := ⟨_, rfl⟩
      clear hk hb hout hlies hL hLlen hLz hLn hM hlt hi
      go_wp2_with fail
      go_loopg [7, 8] M (fun k v7 v8 wr => A2 w1 t L k v7 v8 wr)
      case atStart => exact ⟨0, _, rfl, rfl, Nat.zero_le _, HL.out.2.2.2.2, OwnA.nil _ _ _ _ _, Below.refl _ _⟩
      case round =>
        obtain ⟨j, vn, rfl, rfl, hj, hk2, hnx, hb2⟩ := hrel
        have Hk2 := hid hk2
        have Hb2 := hid hb2
        by_cases hlj : j < M
        · have hlj' : (j : Int) < (M : Int) := by omega
          have hj0 : (0 : Int) ≤ (j : Int) := by omega
          have hjL : j < L.length := by rw [← HL.out.2.2.2.2]; exact hlj
          obtain ⟨z, hz⟩ : ∃ z, z = L[j] := ⟨_, rfl⟩
          have hzL : L[j]? = some z := by rw [hz]; exact List.getElem?_eq_getElem hjL
          obtain ⟨g0, x0, rfl, hg1, hg2, ⟨gz, cz, rfl, hrz⟩, hx0⟩ := Hlies.out j z hzL
          have hcz := hx0 0 _ rfl
          rw [Nat.mul_one, Nat.add_zero] at hcz
          have HZ := hid (And.intro hzL (And.intro hg2 (And.intro hrz hcz)))
          have Hlj := hid hlj
          have Hnx := hid hnx
          obtain ⟨lz, hlz⟩ : ∃ lz, lz = z.length := ⟨_, rfl⟩
          have Hlz := hid hlz
          clear hk2 hb2 hlj hjL hz hzL hrz hx0 hcz hnx hg1 hg2 hlz
          go_wp2_with fail
          go_loopg [7, 9] t (fun k v7 v9 wr => A3 w1 t L z j k v7 v9 wr)
          case atStart => exact ⟨0, _, rfl, rfl, Nat.zero_le _, rfl, by simpa using Hnx.out, Hb2.out⟩
          case round =>
            obtain ⟨c, vm, rfl, rfl, hc, hk3, hnm, hb3⟩ := hrel
            have Hk3 := hid hk3
            have Hb3 := hid hb3
            by_cases hlc : c < t
            · have hlc' : (c : Int) < (t : Int) := by omega
              have hc0 : (0 : Int) ≤ (c : Int) := by omega
              have hcz := (hb3.cell (p := ⟨g0, j, none⟩) HZ.out.2.1).trans HZ.out.2.2.2
              have hrz := HZ.out.2.2.1.kp (S := fun k => w1.heap.size ≤ k) ⟨hb3.os, hb3.tape, hb3.output, hb3.size, fun k hk hn => hb3.block k hk⟩ (fun k hk h => by have := hk.2; omega)
              have hjL := (List.getElem?_eq_some_iff.1 HZ.out.1).1
              have hzj := (List.getElem?_eq_some_iff.1 HZ.out.1).2
              have hzl : z.length = i := HL.out.2.2.1 z (List.mem_of_getElem? HZ.out.1)
              have hacc : (nextB t (L.take j) ++ (List.range c).map fun c => z ++ [UInt8.ofNat c]).length ≤ 100000 := by
                rw [List.length_append, nextB_len, List.length_map, List.length_range, List.length_take]
                have h1 : min j L.length * t ≤ L.length * t := Nat.mul_le_mul_right _ (Nat.min_le_right _ _)
                have h2 := HL.out.2.2.2.1
                rw [nextB_len] at h2
                have := Ht.out.1
                omega
              obtain ⟨g1, c1, wb, g2, c2, wc, g3, c3, wd, r1, r2, r3, o3, hk⟩ := all_step hnm hb3.size cz hrz (by have := Ht.out.2; have := Hlt.out; omega) hacc c (by have := Ht.out.1; omega)
              obtain ⟨nn, hnn⟩ : ∃ nn, nn = (nextB t (L.take j) ++ (List.range c).map fun c => z ++ [UInt8.ofNat c]).length := ⟨_, rfl⟩
              rw [← hnn] at r3 o3
              clear hnn
              rw [← Hlz.out] at r1 r2 r3 hcz
              have hcz2 : (wr.alloc (.cells #[] 3)).cell? ⟨g0, j, none⟩ = some (.slice gz lz cz) := (((Below.refl wr.heap.size wr).alloc (Nat.le_refl _) _).cell (p := ⟨g0, j, none⟩) (Nat.lt_of_lt_of_le HZ.out.2.1 hb3.size)).trans hcz
              have hbd : Below w1.heap.size w1 wd := hb3.trans (hk.to_below hb3.size (fun k e => (hnm.lt k e).1))
              have Hres := hid (And.intro o3 hbd)
              have Hlc := hid hlc
              clear hk3 hb3 hlc hrz hjL hzj hzl hacc o3 hk hbd hc hnm
              go_wp2_with (first
                | (at_builtin; refine wpList_append_run rfl _ _ _ rfl (.slice (some ⟨wr.heap.size, 0, none⟩) 0 0) (.slice gz lz cz) (.slice g1 lz c1) wb (by rfl) (by rfl) (by exact r1) ?_; clear r1)
                | (at_builtin; refine wpList_append_run rfl _ _ _ rfl (.slice g1 lz c1) (.slice (some ⟨wb.heap.size, 0, none⟩) 1 1) (.slice (some ⟨g2, 0, none⟩) (lz + 1) c2) wc (by rfl) (by rfl) (by exact r2) ?_; clear r2)
                | (at_builtin; refine wpList_append_run rfl _ _ _ rfl vm (.slice (some ⟨wc.heap.size, 0, none⟩) 1 1) _ wd (by rfl) (by rfl) (by exact r3) ?_; clear r3))
              go_roundg (t - (c + 1))
              case measure => have := Hk3.out; have := Hlc.out; omega
              case rel => exact ⟨c + 1, _, rfl, by go_num, Hlc.out, rfl, by rw [List.range_succ, List.map_append, ← List.append_assoc]; exact Hres.out.1, Hres.out.2⟩
            · have hge : ¬ (c : Int) < (t : Int) := by omega
              have hct : c = t := by omega
              have hfin : nextB t (L.take j) ++ ((List.range c).map fun c => z ++ [UInt8.ofNat c]) = nextB t (L.take (j + 1)) := by
                rw [List.take_add_one, HZ.out.1, nextB_app, hct]
                simp [nextB]
              rw [hfin] at hnm
              have Hnm := hid hnm
              clear hk3 hb3 hlc hc hct hfin hnm
              go_wp2_with fail
              go_roundg (M - (j + 1))
              case measure => have := Hk2.out; have := Hlj.out; have := HL.out.2.2.2.2; omega
              case rel => exact ⟨j + 1, _, rfl, by go_num, by have := Hlj.out; have := HL.out.2.2.2.2; omega, by have := HL.out.2.2.2.2; omega, Hnm.out, Hb3.out⟩
        · have hge : ¬ (j : Int) < (M : Int) := by omega
          have hjM : L.take j = L := List.take_of_length_le (by have := HL.out.2.2.2.2; omega)
          rw [hjM] at hnx
          have Hnx := hid hnx
          clear hk2 hb2 hlj hj hjM hnx
          go_wp2_with fail
          go_roundg (n - (i + 1))
          case measure => have := Hk.out; have := Hlt.out; omega
          case rel => exact ⟨i + 1, _, rfl, by go_num, Hlt.out, rfl, by
            have h := Hnx.out
            rw [HL.out.1] at h
            exact h.base WdR.fit Hb.out.size, Hb.out.trans (Hb2.out.mono Hb.out.size)⟩
    · have hge : ¬ (i : Int) < (n : Int) := by omega
      have hin : i = n := by omega
      rw [hin] at hout
      have Hout := hid hout
      clear hk hb hlt hi hin hout
      go_wp2_with fail
      go_ret
      exact ⟨_, rfl, Hout.out, Hb.out⟩
end Go.Proofs.Ytaehooafdbaomaa
/- The document's chapter 10: Words: walk. -/
namespace Go.Proofs.Ytaehooafdbaomaa
open Go.RowKit
attribute [local go_sem ↓] Go.wp_at_zero Go.wp_at_succ
attribute [local go_sem] frozen_alloc_lt

/-- What lies from block a on, below block b, stays; and all that is older than block B. -/
def Away (B a b : Nat) (k : Nat) : Prop := B ≤ k ∧ ¬ (a ≤ k ∧ k < b)
def W1 (w0 : World) (t most : Nat) (d : List UInt8 → Bool) (k : Nat) (v5 v6 : Value) (w : World) : Prop :=
  ∃ (m : Nat) (vo : Value), vo = v5 ∧ v6 = .int .i64 m ∧ m ≤ most + 1 ∧ k = most + 1 - m ∧ OwnA WdR 1 w w0.heap.size 22 vo (wordsB t d m) ∧ Below w0.heap.size w0 w
def W2 (w0 w1 w2 : World) (t m : Nat) (d : List UInt8 → Bool) (L : List (List UInt8)) (k : Nat) (v5 v8 : Value) (w : World) : Prop :=
  ∃ (i : Nat) (vo : Value), vo = v5 ∧ v8 = .int .i64 i ∧ i ≤ L.length ∧ k = L.length - i ∧ OwnA WdR 1 w w0.heap.size 22 vo (wordsB t d m ++ (L.take i).filter d) ∧
    (∀ g, vo.ownBlock = some g → g < w1.heap.size ∨ w2.heap.size ≤ g) ∧ Kp (Away w0.heap.size w1.heap.size w2.heap.size) w2 w
theorem kpAny {w w' : World} (h : Below w.heap.size w w') (S : Nat → Prop) : Kp S w w' := ⟨h.os, h.tape, h.output, h.size, fun k hk _ => h.block k hk⟩
set_option maxHeartbeats 8000000 in
set_option maxRecDepth 8000 in
theorem rwords_calls (w : World) (G : Gr) (gn gt gp : Option Addr) (cn ct cp : Nat) (h : GIn w G gn gt gp) (hs : Pl.soundB G = true) (most : Nat) (hm : most ≤ 4) (ht : G.terms.length ≤ 3) (d : List UInt8 → Bool)
    (hd : ∀ z : List UInt8, d z = true ↔ ∃ f, Fo.Of G.prods (toI z) f [G.start] 0 (toI z).length) :
    Calls Try.prog 54 #[.agg #[.int .i64 G.start, .int .i64 G.rules, .slice gn G.names.length cn, .slice gt G.terms.length ct, .slice gp G.prods.length cp], .int .i64 (most : Int)] w fun e w' =>
      ∃ v, e = .returned v ∧ OwnA WdR 1 w' w.heap.size 22 v (wordsB G.terms.length d (most + 1)) ∧ Below w.heap.size w w' := by
  obtain ⟨i4, hi4, y0, y1, y2⟩ := info_parts slInfoA
  obtain ⟨T, hT⟩ : ∃ T, T = G.terms.length := ⟨_, rfl⟩
  have hder : ∀ W, Below w.heap.size w W → ∀ (ga : Option Addr) (ca : Nat) (z : List UInt8), RowI W W.heap.size ga (toI z) → z.length ≤ 64 → Calls Try.prog 46 #[.agg #[.int .i64 G.start, .int .i64 G.rules, .slice gn G.names.length cn, .slice gt T ct, .slice gp G.prods.length cp], .slice ga z.length ca] W fun e w' => e = .returned (.bool (d z)) ∧ Below W.heap.size W w' := fun W hW ga ca z hz hzl => by
    have := derives_calls W G gn gt gp cn ct cp (h.later hW) hs ga ca (toI z) hz (by rw [toI_len]; exact hzl)
    rw [toI_len] at this
    rw [hT]
    refine this.mono ?_
    rintro e w' ⟨b, rfl, hb, hbw⟩
    have e1 : b = d z := by rw [Bool.eq_iff_iff, hb, hd, toI_len]
    subst e1
    exact ⟨rfl, hbw⟩
  have hk0 := Bk.new w 33 [.int .i64 G.start, .int .i64 G.rules, .slice gn G.names.length cn, .slice gt T ct, .slice gp G.prods.length cp]
  have hb0 : Below w.heap.size w (w.alloc (.cells #[.int .i64 G.start, .int .i64 G.rules, .slice gn G.names.length cn, .slice gt T ct, .slice gp G.prods.length cp] 33)) := (Below.refl _ w).alloc (Nat.le_refl _) _
  rw [← hT] at ht ⊢
  have Hder := hid hder
  have htI : (T : Int) ≤ 3 := by omega
  have hmI : (most : Int) ≤ 4 := by omega
  have hm1 : (most : Int) + 1 ≤ 5 := by omega
  have Ht := hid (And.intro ht hm)
  clear hder h hs hd hT ht hm hm1
  go_enter Try.func54, Try.ntmps54
  go_upto_region 2 with fail
  obtain ⟨w0, hw0⟩ : ∃ w0, w0 = (w.alloc (.cells #[.int .i64 G.start, .int .i64 G.rules, .slice gn G.names.length cn, .slice gt T ct, .slice gp G.prods.length cp] 33)) := ⟨_, rfl⟩
  obtain ⟨bq, hbq⟩ : ∃ bq, bq = w.heap.size := ⟨_, rfl⟩
  rw [← hw0] at hk0 hb0 ⊢
  rw [← hbq] at hk0 ⊢
  have Hk0 := hid (And.intro hk0 hb0)
  clear hk0 hb0 hw0 hbq
  go_wp2_with fail
  go_loopg [5, 6] (most + 1) (fun k v5 v6 wr => W1 w0 T most d k v5 v6 wr)
  case atStart => exact ⟨0, _, rfl, rfl, Nat.zero_le _, rfl, OwnA.nil _ _ _ _ _, Below.refl _ _⟩
  case round =>
    obtain ⟨m, vo, rfl, rfl, hm, hk, hout, hb⟩ := hrel
    have Hk := hid hk
    have Hb := hid hb
    have Hout := hid hout
    by_cases hlt : m ≤ most
    · have hle : (m : Int) ≤ (most : Int) := by omega
      have hm0 : (0 : Int) ≤ (m : Int) := by omega
      have hm4 : m ≤ 4 := by have := Ht.out.2; omega
      have hk1 := Hk0.out.1.below hb Hk0.out.1.lt
      have c3 := hk1.cell 3
      simp only [List.getElem?_cons_zero, List.getElem?_cons_succ] at c3
      have hall := allw_calls wr T m Ht.out.1 hm4
      have Hall := hid hall
      have Hlt := hid hlt
      obtain ⟨w1, rfl⟩ : ∃ w1 : World, w1 = wr := ⟨_, rfl⟩
      clear hk hb hout hlt hm4 hk1 hall hm
      go_upto_region 6 with (go_at_call 96; refine Hall.out.mono ?_; rintro e w2 ⟨vl, rfl, hvl, hb2⟩)
      obtain ⟨L, hL⟩ : ∃ L, L = allB T m := ⟨_, rfl⟩
      have hLz : ∀ z ∈ L, z.length = m := fun z hz => by rw [hL] at hz; exact ((allB_mem (by have := Ht.out.1; omega) m z).1 hz).1
      have hLn : L.length ≤ 81 := by
        rw [hL, allB_len]
        exact Nat.le_trans (Nat.pow_le_pow_left Ht.out.1 m) (Nat.le_trans (Nat.pow_le_pow_right (by omega) (show m ≤ 4 by have := Ht.out.2; have := Hlt.out; omega)) (by decide))
      rw [← hL] at hvl
      obtain ⟨gl, cl, hvl2, hlies⟩ := hvl.lies WdR.fit
      obtain ⟨M, hM⟩ : ∃ M, M = L.length := ⟨_, rfl⟩
      rw [← hM] at hvl2
      subst hvl2
      have hM81 : (M : Int) ≤ 81 := by omega
      have HL := hid (And.intro hL (And.intro hLz (And.intro hLn hM)))
      have Hlies := hid hlies
      have Hb2 := hid hb2
      clear hL hLz hLn hM hvl hlies c3 hb2
      go_wp2_with fail
      go_loopg [5, 8] M (fun k v5 v8 wr => W2 w0 w1 w2 T m d L k v5 v8 wr)
      case atStart => exact ⟨0, _, rfl, rfl, Nat.zero_le _, HL.out.2.2.2, by simpa using Hout.out.later WdR.fit Hb2.out, fun g hg => .inl (Hout.out.lt g hg).2, Kp.refl _ _⟩
      case round =>
        obtain ⟨i, vm, rfl, rfl, hi, hk2, hom, haw, hkp⟩ := hrel
        have Hk2 := hid hk2
        have Hkp := hid hkp
        have Hom := hid hom
        have Haw := hid haw
        have hbw2 : Below w0.heap.size w0 wr := (Hb.out.trans (Hb2.out.mono Hb.out.size)).trans (hkp.to_below (Nat.le_trans Hb.out.size Hb2.out.size) (fun k hk => hk.1))
        have Hbw2 := hid hbw2
        by_cases hlj : i < M
        · have hlj' : (i : Int) < (M : Int) := by omega
          have hj0 : (0 : Int) ≤ (i : Int) := by omega
          have hjL : i < L.length := by rw [← HL.out.2.2.2]; exact hlj
          obtain ⟨z, hz⟩ : ∃ z, z = L[i] := ⟨_, rfl⟩
          have hzL : L[i]? = some z := by rw [hz]; exact List.getElem?_eq_getElem hjL
          obtain ⟨g0, x0, rfl, hg1, hg2, ⟨gz, cz, rfl, hrz⟩, hx0⟩ := Hlies.out i z hzL
          have hcz := hx0 0 _ rfl
          rw [Nat.mul_one, Nat.add_zero] at hcz
          have hnaw : ∀ k, (w1.heap.size ≤ k ∧ k < w2.heap.size) → ¬ Away w0.heap.size w1.heap.size w2.heap.size k := fun k hk hn => hn.2 hk
          have hcr := hkp.cell hcz (hnaw g0 ⟨hg1, hg2⟩)
          have hrr := hrz.kp hkp hnaw
          have hrI : RowI wr wr.heap.size gz (toI z) := hrr.mono fun k hk => Nat.lt_of_lt_of_le hk.2 hkp.size
          have hzl : z.length = m := HL.out.2.1 z (List.mem_of_getElem? hzL)
          have hz64 : z.length ≤ 64 := by have := Ht.out.2; have := Hlt.out; omega
          obtain ⟨lz, hlz⟩ : ∃ lz, lz = z.length := ⟨_, rfl⟩
          have hdr := Hder.out wr.drew ((Hk0.out.2.trans (hbw2.mono Hk0.out.2.size)).trans (below_drewN (Below.refl _ _) 1)) gz cz z hrI hz64
          obtain ⟨bz, hbz⟩ : ∃ bz, bz = d z := ⟨_, rfl⟩
          rw [← hbz, ← hlz] at hdr
          rw [← hlz] at hcr
          have kb := Hk0.out.1.below hbw2 Hk0.out.1.lt
          have HZ := hid (And.intro hzL (And.intro hrr (And.intro hlz (And.intro hbz (And.intro hg2 hg1)))))
          have hS : ∀ W, Below wr.heap.size wr W → (W.cell? ⟨bq, 0, none⟩ = some (.int .i64 G.start) ∧ W.cell? ⟨bq, 1, none⟩ = some (.int .i64 G.rules) ∧ W.cell? ⟨bq, 2, none⟩ = some (.slice gn G.names.length cn) ∧ W.cell? ⟨bq, 3, none⟩ = some (.slice gt T ct) ∧ W.cell? ⟨bq, 4, none⟩ = some (.slice gp G.prods.length cp) ∧ W.cell? ⟨g0, i, none⟩ = some (.slice gz lz cz) ∧ Hid (Below wr.heap.size wr W)) := fun W hW => by
            have k2 := kb.below hW kb.lt
            exact ⟨k2.cell 0, k2.cell 1, k2.cell 2, k2.cell 3, k2.cell 4, (hW.cell (p := ⟨g0, i, none⟩) (Nat.lt_of_lt_of_le hg2 hkp.size)).trans hcr, hid hW⟩
          have HS := hid hS
          obtain ⟨a0, a1, a2, a3, a4, a5, Hw0⟩ := hS wr.drew (below_drewN (Below.refl _ _) 1)
          have Hdr := hid hdr
          have Hlj := hid hlj
          clear hk2 hkp hom haw hbw2 hlj hjL hz hzL hrz hx0 hcz hnaw hrr hrI hzl hz64 hlz hbz hdr kb hS hg1 hg2 hcr hi
          go_upto_region 9 with fail
          go_region_held3 (fun W => W.cell? ⟨bq, 0, none⟩ = some (.int .i64 G.start) ∧ W.cell? ⟨bq, 1, none⟩ = some (.int .i64 G.rules) ∧ W.cell? ⟨bq, 2, none⟩ = some (.slice gn G.names.length cn) ∧ W.cell? ⟨bq, 3, none⟩ = some (.slice gt T ct) ∧ W.cell? ⟨bq, 4, none⟩ = some (.slice gp G.prods.length cp) ∧ W.cell? ⟨g0, i, none⟩ = some (.slice gz lz cz) ∧ Hid (Below wr.heap.size wr W))
            (first | exact ⟨‹_›, ‹_›, ‹_›, ‹_›, ‹_›, ‹_›, ‹_›⟩)
            (first
              | (go_at_call 46; refine Hdr.out.mono ?_; rintro e w3 ⟨rfl, hb3⟩; obtain ⟨d0, d1, d2, d3, d4, d5, Hw3⟩ := HS.out w3 (belw Hw0.out hb3)))
          cases bz with
          | true =>
            have hkpA : Kp (fun _ => False) wr w3 := kpAny Hw3.out _
            have hom3 := Hom.out.kp WdR.fit hkpA (fun _ _ _ e => e)
            have hzz := HZ.out.2.2.1
            have hx : WdR w3 (fun q => w0.heap.size ≤ q ∧ q < w3.heap.size ∧ vm.ownBlock ≠ some q) z [.slice gz lz cz] := ⟨gz, cz, by rw [hzz], by
              refine (HZ.out.2.1.kp hkpA (fun _ _ e => e)).mono fun k hk => ⟨by have := Hb.out.size; omega, by have := Hkp.out.size; have := Hw3.out.size; omega, fun e => ?_⟩
              rcases Haw.out k e with h | h <;> omega⟩
            obtain ⟨gA, capA, wA, hrun, hownA, hkA, hgA, hlA⟩ := hom3.app (P := Try.prog) WdR.fit 23 23 i4 (.slice none 0 0) 24 Try.underlying23 hi4 y0 y1 y2 rfl (by omega) (by omega) (by have := Hw3.out.size; have := Hbw2.out.size; omega) (by
              have h1 := wordsB_few (t := T) (m := m) Ht.out.1 (by have := Ht.out.2; have := Hlt.out; omega) d
              have h2 := List.length_filter_le d (L.take i)
              rw [List.length_take] at h2
              rw [List.length_append]
              have := HL.out.2.2.1
              omega) z _ hx 0
            obtain ⟨nn, hnn⟩ : ∃ nn, nn = (wordsB T d m ++ (L.take i).filter d).length := ⟨_, rfl⟩
            rw [← hnn] at hrun hownA
            have hnew : wordsB T d m ++ (L.take i).filter d ++ [z] = wordsB T d m ++ (L.take (i + 1)).filter d := by
              rw [List.take_add_one, HZ.out.1, List.append_assoc, List.filter_append]
              have : d z = true := HZ.out.2.2.2.1.symm
              simp [this]
            rw [hnew] at hownA
            have hkw : Kp (Away w0.heap.size w1.heap.size w2.heap.size) w2 wA := (Hkp.out.trans (kpAny Hw3.out _)).trans (hkA.mono fun k _ e => ⟨(hom3.lt k e).1, fun hh => by rcases Haw.out k e with h | h <;> omega⟩)
            have hnaw : ∀ g, (Value.slice (some ⟨gA, 0, none⟩) (nn + 1) capA).ownBlock = some g → g < w1.heap.size ∨ w2.heap.size ≤ g := fun g hg => by
              have e : gA = g := by simpa [Value.ownBlock] using hg
              subst e
              rcases hgA with h | h
              · exact Haw.out gA h
              · have := Hkp.out.size
                have := Hw3.out.size
                exact .inr (by omega)
            have hrun' : (Builtin.append_ #[23, 23] 23 #[vm, .slice (some ⟨w3.heap.size, 0, none⟩) 1 1]).run Try.prog (w3.alloc (.cells #[.slice gz lz cz] 22)) = .ok (.slice (some ⟨gA, 0, none⟩) (nn + 1) capA) wA := hrun
            have Hfin := hid (And.intro hownA (And.intro hnaw hkw))
            clear hkpA hom3 hzz hx hrun hownA hkA hgA hlA hnn hnew hkw hnaw
            go_wp2_with (at_builtin; refine wpList_append_run rfl _ _ _ rfl vm (.slice (some ⟨w3.heap.size, 0, none⟩) 1 1) (.slice (some ⟨gA, 0, none⟩) (nn + 1) capA) wA (by rfl) (by rfl) (by exact hrun') ?_)
            go_roundg (M - (i + 1))
            case measure => have := Hk2.out; have := Hlj.out; have := HL.out.2.2.2; omega
            case rel => exact ⟨i + 1, _, rfl, by go_num, by have := Hlj.out; have := HL.out.2.2.2; omega, by have := HL.out.2.2.2; omega, Hfin.out.1, Hfin.out.2.1, Hfin.out.2.2⟩
          | false =>
            have hnew : wordsB T d m ++ (L.take (i + 1)).filter d = wordsB T d m ++ (L.take i).filter d := by
              rw [List.take_add_one, HZ.out.1, List.filter_append]
              have : d z = false := HZ.out.2.2.2.1.symm
              simp [this]
            have Hnew := hid hnew
            clear hnew
            go_wp2_with fail
            go_roundg (M - (i + 1))
            case measure => have := Hk2.out; have := Hlj.out; have := HL.out.2.2.2; omega
            case rel => exact ⟨i + 1, _, rfl, by go_num, by have := Hlj.out; have := HL.out.2.2.2; omega, by have := HL.out.2.2.2; omega, by rw [Hnew.out]; exact Hom.out.later WdR.fit Hw3.out, Haw.out, Hkp.out.trans (kpAny Hw3.out _)⟩
        · have hge : ¬ (i : Int) < (M : Int) := by omega
          have hiM : L.take i = L := List.take_of_length_le (by have := HL.out.2.2.2; omega)
          rw [hiM, HL.out.1] at hom
          have Hom2 := hid hom
          clear hk2 hkp hom haw hbw2 hlj hiM hi
          go_wp2_with fail
          go_roundg (most + 1 - (m + 1))
          case measure => have := Hk.out; have := Hlt.out; omega
          case rel => exact ⟨m + 1, _, rfl, by go_num, by have := Hlt.out; omega, rfl, Hom2.out, Hbw2.out⟩
    · have hge : ¬ (m : Int) ≤ (most : Int) := by omega
      have hme : m = most + 1 := by omega
      rw [hme] at hout
      have Hout2 := hid hout
      clear hk hb hlt hm hme hout
      go_wp2_with fail
      go_ret
      exact ⟨_, rfl, Hout2.out.base WdR.fit Hk0.out.2.size, belw Hk0.out.2 Hb.out⟩
end Go.Proofs.Ytaehooafdbaomaa
