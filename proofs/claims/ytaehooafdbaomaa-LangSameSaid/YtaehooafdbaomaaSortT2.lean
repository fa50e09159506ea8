/- Texts in an order of a function's: slices.SortedFunc of a set's keys, by lang.order. -/
import Derived.Test.YtaehooafdbaomaaSortT
import Derived.Sort.OwnSorted
import Derived.Test.YtaehooafdbaomaaLang2
namespace Go.Proofs.Ytaehooafdbaomaa
open Go.RowKit Go.Shelf Go.Sort
attribute [local go_sem ↓] Go.wp_at_zero Go.wp_at_succ
attribute [local go_sem] frozen_alloc_lt

theorem strKeys_list {H : Type} {w : World} {b n : Nat} {D : DataW H} {R : Value → Option (DataW H × List MemPlace)} (h : w.ownsMap Try.prog 9 R b n D) : (strKeys D).Nodup ∧ ∀ z, z ∈ strKeys D ↔ Maps.has D (.string z) = true := by
  obtain ⟨es, hD, hpw, _⟩ := h.entries (Maps.string_keyed Try.underlying9)
  obtain ⟨es', hD', hko⟩ := h.keysOf
  obtain rfl : es = es' := by rw [hD] at hD'; simpa using hD'
  subst hD
  have hk : ∀ p ∈ es, ∃ x, p.1 = .string x := fun p hp => by
    obtain ⟨v, hv⟩ := hko p hp
    obtain ⟨x, _, hx, _⟩ := keyT_inv hv
    exact ⟨_, hx⟩
  refine ⟨?_, fun x => ?_⟩
  · show (es.map fun p => Go.strOf p.1).Nodup
    refine List.pairwise_map.2 (hpw.imp_of_mem fun {p q} hp' hq' hne e => hne ?_)
    obtain ⟨a, ha⟩ := hk p hp'
    obtain ⟨c, hc⟩ := hk q hq'
    rw [ha, hc] at e ⊢
    exact congrArg _ e
  · rw [Maps.has_eq, List.any_eq_true]
    show x ∈ (es.map fun p => Go.strOf p.1) ↔ _
    rw [List.mem_map]
    constructor
    · rintro ⟨p, hp', rfl⟩
      obtain ⟨a, ha⟩ := hk p hp'
      exact ⟨p, hp', by rw [ha]; simp [Lit.sameKey, Go.strOf]⟩
    · rintro ⟨p, hp', hs⟩
      obtain ⟨a, ha⟩ := hk p hp'
      rw [ha] at hs
      exact ⟨p, hp', by rw [ha]; simpa [Lit.sameKey, Go.strOf] using hs⟩
theorem lays_order (enc : List UInt8 → Value) (he : enc = encStr) (blk off size : Nat) (w : World) : CmpLays1 Try.prog 129 #[] enc ordT blk off size w := by
  subst he
  intro m os dk _ x y
  refine (lorder_calls (sortWorld encStr w blk off m dk os) x y).mono ?_
  rintro e w' ⟨rfl, rfl⟩
  exact ⟨rfl, 0, #[.cells #[.int .i64 (cmpI (x.length : Int) (y.length : Int)), .int .i64 (Lib.compareBytes x y)] 3], by rw [alloc_eq_grow]; rfl⟩
theorem keysT_calls (b : Nat) (w : World) : Calls Try.prog 128 #[.map (some b)] w fun e w' => e = .returned (.func (.func 145) #[] #[.pointer (some ⟨w.heap.size, 0, none⟩)]) ∧ w' = w.alloc (.cells #[.map (some b)] 201) := by
  have cK : CallsIn Fence.wide 5 Try.prog 128 #[.map (some b)] w fun e w' => e = .returned (.func (.func 145) #[] #[.pointer (some ⟨w.heap.size, 0, none⟩)]) ∧ w' = w.alloc (.cells #[.map (some b)] 201) := AnyZ.keys_in keysTs Fence.wide 5 trivial rfl (some b) w
  exact callsIn_wide.1 cK
set_option maxHeartbeats 2000000 in
theorem sortedT_calls (w : World) (b : Nat) (l : List (List UInt8)) (h : SetX w b l) (hn : l.length ≤ 1000000) :
    Calls Try.prog 127 #[.func (.func 145) #[] #[.pointer (some ⟨w.heap.size, 0, none⟩)], .func (.func 129) #[] #[]] (w.alloc (.cells #[.map (some b)] 201)) fun e w' => ∃ (v : Value) (ss : List (List UInt8)), e = .returned v ∧ RiseT l ss ∧
      w'.ownsRow w.heap.size 9 1 v ss.length (ss.map encStr) ∧ Below w.heap.size w w' := by
  obtain ⟨hnd, D0, hown, hhas⟩ := h
  have hsz := hown.size_le
  have hbl := hown.lt
  obtain ⟨hkn, hmem⟩ := strKeys_list hown
  have hseq : SeqGives Fence.wide 3 Try.prog 145 #[.pointer (some ⟨w.heap.size, 0, none⟩)] encStr (fun ss => ss.Perm (strKeys D0)) (Maps.size D0) (w.alloc (.cells #[.map (some b)] 201)) :=
    AnyZ.keys_gives (ρ := keysTs_ren) { keysTs with } Fence.wide _ trivial rfl (by omega) w.heap.size b l.length D0 _ (by simp) (by simp) (by
      obtain ⟨es, clock, hb, Ft, hs, hD⟩ := hown
      exact ⟨es, clock, (Below.heap_alloc _ _ b hbl).trans hb, Ft, hs, hD⟩)
  have cC := AnyZ.collect_in collTs Fence.wide 5 trivial trivial rfl (by omega) 145 #[.pointer (some ⟨w.heap.size, 0, none⟩)] trivial (enters_of Try.func145 (by kernel_rfl) rfl) _ _ (by unfold maxLen; omega) (by omega) _ hseq
  change CallsIn _ _ Try.prog 143 _ _ _ at cC
  have Hc := hid (callsIn_wide.1 cC)
  have Hf := hid (And.intro hkn (And.intro hmem hhas))
  have Hsz := hid (And.intro hsz hn)
  clear cC hseq hown hhas hsz hbl hkn hmem hnd
  obtain ⟨w1, hw1⟩ : ∃ w1, w1 = w.alloc (.cells #[.map (some b)] 201) := ⟨_, rfl⟩
  have hb1 : Below w.heap.size w w1 := by rw [hw1]; exact bel_al (bel_id w) _
  rw [← hw1] at Hc ⊢
  have Hb1 := hid hb1
  clear hw1 hb1
  go_enter Try.func127, Try.ntmps127
  go_upto_region 2 with (go_at_call 143; refine Hc.out.mono ?_; rintro e w2 ⟨v, ss, rfl, hS, hrow, hnil, hb⟩)
  have hbw : Below w.heap.size w w2 := Hb1.out.trans (hb.mono Hb1.out.size)
  have hmemS : ∀ z, z ∈ ss ↔ z ∈ l := fun z => by rw [hS.mem_iff, Hf.out.2.1 z, Hf.out.2.2 z]; simp
  have hndS : ss.Nodup := hS.nodup_iff.2 Hf.out.1
  have hssl : ss.length ≤ 1000000 := by
    have := nodup_sub (m := l) hndS (fun z hz => (hmemS z).1 hz)
    have := Hsz.out.2
    omega
  rcases hrow.2 with ⟨rfl, h0⟩ | ⟨g, cap, cur, rfl, hbase, hgb, r1, r2, r3, r4⟩
  · have hs0 : ss = [] := List.eq_nil_of_length_eq_zero h0
    subst hs0
    have cS := AnyF.slices_SortFunc_none (P := Try.prog) (ρ := sortTs_ren) { sortTs with } none 0 (.func (.func 129) #[] #[]) w2
    change Calls Try.prog 144 _ _ _ at cS
    have HcS := hid cS
    have Hfin := hid (And.intro hmemS (And.intro hrow hbw))
    clear cS hmemS hrow hbw hnil hb hndS hssl hS
    go_wp2_with (go_at_call 144; refine HcS.out.mono ?_; rintro e w3 ⟨rfl, rfl⟩)
    go_ret
    exact ⟨_, [], rfl, ⟨List.Pairwise.nil, Hfin.out.1⟩, own_mono Hfin.out.2.1 Hb1.out.size, Hfin.out.2.2⟩
  · have hH : Holds encStr w2 g 0 ss.toArray := holds_of_block hgb (by simpa using r4)
    have hgl : g < w2.heap.size := (Array.getElem?_eq_some_iff.1 hgb).1
    have cS := Any.slices_SortFunc_total (P := Try.prog) (ρ := sortTs_ren) sortTs encStr (fun _ => rfl) ordT swoT 129 #[] g 0 cap ss.toArray w2 (enters_of Try.func129 (by kernel_rfl) rfl) (lays_order _ rfl _ _ _ _) hH hgl (by simp; omega) ordT_part
    simp only [List.size_toArray] at cS
    change Calls Try.prog 144 _ _ _ at cS
    have HcS := hid cS
    obtain ⟨ts, hts⟩ : ∃ ts, ts = ss.mergeSort fun x y => !(ltOf ordT) y x := ⟨_, rfl⟩
    have htl : ts.length = ss.length := by rw [hts, List.length_mergeSort]
    have htm : ∀ z, z ∈ ts ↔ z ∈ l := fun z => by rw [hts, List.mem_mergeSort, hmemS z]
    have hlf : ∀ x y, ltOf ordT x y = true ↔ WLt x y := fun x y => by unfold ltOf; rw [decide_eq_true_eq, ordT_lt]
    have hpw : ts.Pairwise WLt := by
      have tr : ∀ a b c : List UInt8, (!(ltOf ordT) b a) = true → (!(ltOf ordT) c b) = true → (!(ltOf ordT) c a) = true := fun a b c h1 h2 => by
        simp only [Bool.not_eq_true'] at *
        exact swoT.ntrans c b a h2 h1
      have tt : ∀ a b : List UInt8, ((!(ltOf ordT) b a) || (!(ltOf ordT) a b)) = true := fun a b => by
        rw [Bool.or_eq_true]
        by_cases h : ltOf ordT b a = true
        · right
          have h1 := (hlf b a).1 h
          have : ¬ ltOf ordT a b = true := fun h2 => WLt.irrefl a (((hlf a b).1 h2).trans h1)
          simpa using this
        · left; simpa using h
      have hsort := List.pairwise_mergeSort tr tt ss
      rw [← hts] at hsort
      have hnd2 : ts.Nodup := by rw [hts]; exact (List.mergeSort_perm ss _).nodup_iff.2 hndS
      refine (hsort.and hnd2).imp fun {x y} hxy => ?_
      have h1 : ¬ WLt y x := fun h => by have := hxy.1; rw [(hlf y x).2 h] at this; cases this
      rcases WLt.total x y with h2 | h2 | h2
      · exact h2
      · exact absurd h2 hxy.2
      · exact absurd h2 h1
    have hown : ∀ n os, (sortWorld encStr w2 g 0 n ts.toArray os).ownsRow w1.heap.size 9 1 (.slice (some ⟨g, 0, none⟩) ss.length cap) ss.length (ts.map encStr) := fun n os => by
      exact ownsRow_sorted (n := n) (os := os) htl hbase hgb r1 r2 r3
    have hbb : ∀ n os, Below w.heap.size w (sortWorld encStr w2 g 0 n ts.toArray os) := fun n os => hbw.grown (grownBy_sorted _) hbw.size (fun j hj => by cases hj; have := Hb1.out.size; omega)
    rw [← hts] at HcS
    have Hfin := hid (And.intro htl (And.intro hpw (And.intro htm (And.intro hown hbb))))
    clear cS hts htl htm hlf hpw hown hbb hmemS hrow hbw hnil hb hndS hssl hS hH hgl hgb r1 r2 r3 r4
    go_wp2_with (go_at_call 144; refine HcS.out.mono ?_; rintro e w3 ⟨rfl, nn, os, rfl⟩)
    go_ret
    refine ⟨_, ts, rfl, ⟨Hfin.out.2.1, Hfin.out.2.2.1⟩, own_mono (by rw [Hfin.out.1]; exact Hfin.out.2.2.2.1 nn os) Hb1.out.size, Hfin.out.2.2.2.2 nn os⟩
end Go.Proofs.Ytaehooafdbaomaa
