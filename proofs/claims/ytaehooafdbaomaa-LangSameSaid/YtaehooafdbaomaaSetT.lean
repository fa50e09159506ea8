/- Maps from strings to bools that hold a set of texts: put, len, range, copy. -/
import Derived.Test.YtaehooafdbaomaaRep
import Derived.Maps.OwnOps
import Derived.Maps.OwnSet
import Derived.Maps.Views
import Derived.Maps.Keyed
import Derived.Maps.RangeWalk
import Derived.StringKeys
import Derived.Lib.SlMapMerge
import Derived.Shelf.SlMaps.Copy
import Derived.Lib.SlKeysI
namespace Go.Proofs.Ytaehooafdbaomaa
open Go.RowKit Go.Shelf

/-- The map in block b has the texts of l as its keys. -/
def SetT (w : World) (b n : Nat) (l : List (List UInt8)) : Prop :=
  ∃ D : DataW Unit, w.ownsMap Try.prog 9 (plainElem Try.prog 4) b n D ∧ ∀ z : List UInt8, Maps.has D (.string z) = decide (z ∈ l)
def RangeT (w : World) (b r n : Nat) (l : List (List UInt8)) (left : List UInt8 → Bool) (cnt : Nat) : Prop :=
  ∃ (D : DataW Unit) (lf : Lit → Bool), w.ranges Try.prog 9 (plainElem Try.prog 4) b r n D lf cnt ∧ (∀ z : List UInt8, Maps.has D (.string z) = decide (z ∈ l)) ∧ ∀ z : List UInt8, left z = lf (.string z)
theorem keyT {z : List UInt8} (h : z.length ≤ maxLen) : keyOf Try.prog 9 (.string ⟨z.toArray⟩) = some (.string z) := by
  have := Go.WideMaps.keyOf_string_mk (P := Try.prog) Try.underlying9 (s := ⟨z.toArray⟩) (by show z.toArray.size ≤ maxLen; simpa using h)
  simpa using this
theorem keyT_inv {key : Value} {kl : Lit} (h : keyOf Try.prog 9 key = some kl) : ∃ z : List UInt8, key = .string ⟨z.toArray⟩ ∧ kl = .string z ∧ z.length ≤ maxLen := by
  have hk := Try.underlying9
  cases key <;> simp [keyOf, hk, mapKey] at h
  rename_i s
  obtain ⟨h1, h2⟩ := h
  exact ⟨s.data.toList, by simp, h2.symm, by show s.data.toList.length ≤ maxLen; rw [Array.length_toList]; exact h1⟩
section
variable {w w' : World} {b n : Nat} {l : List (List UInt8)}
theorem SetT.made (w : World) : SetT (w.alloc (.map #[] 0)) w.heap.size 0 [] := ⟨.map [], World.ownsMap_made _ _ _ _, fun s => by simp [Maps.has]⟩
theorem SetT.lt (h : SetT w b n l) : b < w.heap.size := by
  obtain ⟨D, h1, h2⟩ := h
  exact h1.lt
theorem SetT.mono (h : SetT w b n l) {n' : Nat} (hn : n ≤ n') : SetT w b n' l := by
  obtain ⟨D, h1, h2⟩ := h
  exact ⟨D, h1.mono hn, h2⟩
theorem SetT.same (h : SetT w b n l) {l' : List (List UInt8)} (hl : ∀ z, z ∈ l ↔ z ∈ l') : SetT w b n l' := by
  obtain ⟨D, h1, h2⟩ := h
  exact ⟨D, h1, fun z => by rw [h2 z]; simp [hl z]⟩
theorem SetT.block (h : SetT w b n l) : ∃ es c, w.heap[b]? = some (.map es c) := by
  obtain ⟨D, ⟨es, c, hb, _⟩, _⟩ := h
  exact ⟨es, c, hb⟩
theorem SetT.at (h : SetT w b n l) (hb : w'.heap[b]? = w.heap[b]?) : SetT w' b n l := by
  obtain ⟨D, ⟨es, c, h1, h3⟩, h2⟩ := h
  exact ⟨D, ⟨es, c, hb.trans h1, h3⟩, h2⟩
theorem SetT.kp {S : Nat → Prop} (h : SetT w b n l) (hk : Kp S w w') (hn : ¬ S b) : SetT w' b n l := h.at (hk.block b h.lt hn)
theorem SetT.kept {row : Option Nat} (h : SetT w b n l) (hg : w.grownBy w' row) (hn : some b ≠ row) : SetT w' b n l := by
  obtain ⟨D, h1, h2⟩ := h
  exact ⟨D, h1.kept hg hn, h2⟩
theorem SetT.put (h : SetT w b n l) (z : List UInt8) (hz0 : z.length ≤ maxLen) (hn : n < maxLen) (T : TypeId) (hT : Try.prog.underlying T = some (.map 9 4)) :
    ∃ w', (Instr.mapUpdate T (.map (some b)) (.string ⟨z.toArray⟩) (.bool true)).run Try.prog w = .ok () w' ∧ SetT w' b (n + 1) (z :: l) ∧ w.grownBy w' (some b) := by
  obtain ⟨D, h2, h3⟩ := h
  have hm := h2.isMap
  obtain ⟨w', hrun, h4, hg⟩ := h2.update (Maps.string_keyed Try.underlying9) hT hn (keyT hz0) (plainElem_bool Try.underlying4 true)
  refine ⟨w', hrun, ⟨_, h4, fun t => ?_⟩, hg⟩
  by_cases ht : t = z
  · subst ht
    rw [Maps.has_put_same hm (by trivial)]
    simp
  · rw [Maps.has_put_other (fun e => ht (by injection e)), h3 t]
    simp [ht]
/-- The keys, as a list. -/
def textOf : Lit → List UInt8
  | .string s => s
  | _ => []
theorem texts_list {H : Type} {D : DataW H} {R : Value → Option (DataW H × List MemPlace)} (h : w.ownsMap Try.prog 9 R b n D) : ∃ ks : List (List UInt8), ks.Nodup ∧ (∀ z, z ∈ ks ↔ Maps.has D (.string z) = true) ∧ ks.length = Maps.size D := by
  obtain ⟨es, hD, hpw, _⟩ := h.entries (Maps.string_keyed Try.underlying9)
  obtain ⟨es', hD', hko⟩ := h.keysOf
  obtain rfl : es = es' := by rw [hD] at hD'; simpa using hD'
  subst hD
  have hk : ∀ p ∈ es, ∃ x, p.1 = .string x := fun p hp => by
    obtain ⟨v, hv⟩ := hko p hp
    obtain ⟨x, _, hx, _⟩ := keyT_inv hv
    exact ⟨_, hx⟩
  refine ⟨es.map fun p => textOf p.1, ?_, fun x => ?_, ?_⟩
  · refine List.pairwise_map.2 (hpw.imp_of_mem fun {p q} hp' hq' hne e => hne ?_)
    obtain ⟨a, ha⟩ := hk p hp'
    obtain ⟨c, hc⟩ := hk q hq'
    rw [ha, hc] at e ⊢
    exact congrArg _ e
  · rw [Maps.has_eq, List.any_eq_true, List.mem_map]
    constructor
    · rintro ⟨p, hp', rfl⟩
      obtain ⟨a, ha⟩ := hk p hp'
      exact ⟨p, hp', by rw [ha]; simp [Lit.sameKey, textOf]⟩
    · rintro ⟨p, hp', hs⟩
      obtain ⟨a, ha⟩ := hk p hp'
      rw [ha] at hs
      exact ⟨p, hp', by rw [ha]; simpa [Lit.sameKey, textOf] using hs⟩
  · rw [List.length_map, Maps.size_eq]
theorem nodup_len {ks l : List (List UInt8)} (h1 : ks.Nodup) (h2 : l.Nodup) (h : ∀ z, z ∈ ks ↔ z ∈ l) : ks.length = l.length :=
  (List.perm_ext_iff_of_nodup h1 h2 |>.2 h).length_eq
theorem SetT.len (h : SetT w b n l) (hl : l.Nodup) (T : TypeId) (hT : Try.prog.underlying T = some (.map 9 4)) (ty : TypeId) : (Builtin.len_ #[T] ty #[.map (some b)]).run Try.prog w = .ok (.int .i64 (l.length : Int)) w := by
  obtain ⟨D, h1, h2⟩ := h
  obtain ⟨ks, k1, k2, k3⟩ := texts_list h1
  rw [h1.len hT ty, ← k3, nodup_len k1 hl (fun z => by rw [k2 z, h2 z]; simp)]
theorem SetT.len_le (h : SetT w b n l) (hl : l.Nodup) : l.length ≤ n := by
  obtain ⟨D, h1, h2⟩ := h
  obtain ⟨ks, k1, k2, k3⟩ := texts_list h1
  have := h1.size_le
  rw [← nodup_len k1 hl (fun z => by rw [k2 z, h2 z]; simp)]
  omega
theorem SetT.range (h : SetT w b n l) (T : TypeId) (hT : Try.prog.underlying T = some (.map 9 4)) :
    ∃ w' cnt, (Instr.range T (.map (some b))).run Try.prog w = .ok (.pointer (some ⟨w.heap.size, 0, none⟩)) w' ∧ RangeT w' b w.heap.size n l (fun z => decide (z ∈ l)) cnt ∧ w.grownBy w' none ∧ w'.heap.size = w.heap.size + 1 := by
  obtain ⟨D, h2, h3⟩ := h
  obtain ⟨w', hrun, hr, hg, hs⟩ := h2.range (Maps.string_keyed Try.underlying9) hT
  exact ⟨w', _, hrun, ⟨D, _, hr, h3, fun z => (h3 z).symm⟩, hg, hs⟩
end
section
variable {w w' : World} {b r n cnt : Nat} {l : List (List UInt8)} {left : List UInt8 → Bool}
theorem RangeT.owns (h : RangeT w b r n l left cnt) : SetT w b n l := by
  obtain ⟨D, lf, h1, h2, -⟩ := h
  exact ⟨D, h1.owns, h2⟩
theorem RangeT.kept {row : Option Nat} (h : RangeT w b r n l left cnt) (hg : w.grownBy w' row) (hb : some b ≠ row) (hr : some r ≠ row) : RangeT w' b r n l left cnt := by
  obtain ⟨D, lf, h1, h2⟩ := h
  exact ⟨D, lf, h1.kept hg hb hr, h2⟩
theorem RangeT.lt (h : RangeT w b r n l left cnt) : r < w.heap.size := by
  obtain ⟨D, lf, h1, h2⟩ := h
  exact h1.lt
theorem RangeT.next (h : RangeT w b r n l left cnt) (ty : TypeId) :
    (cnt = 0 ∧ (∀ z, left z = false) ∧ (Instr.next (.pointer (some ⟨r, 0, none⟩)) false ty).run Try.prog w = .ok (.tuple #[.bool false]) w) ∨
    ∃ z v w' cnt', z.length ≤ maxLen ∧ left z = true ∧ z ∈ l ∧ (Instr.next (.pointer (some ⟨r, 0, none⟩)) false ty).run Try.prog w = .ok (.tuple #[.bool true, .string ⟨z.toArray⟩, v]) w' ∧
      RangeT w' b r n l (fun x => left x && !(x == z)) cnt' ∧ cnt' < cnt ∧ w.grownBy w' (some r) ∧ w'.heap.size = w.heap.size ∧ (Instr.entry (.pointer (some ⟨r, 0, none⟩))).run Try.prog w' = .ok (.tuple #[.string ⟨z.toArray⟩, v]) w' := by
  obtain ⟨D, lf, h1, h2, h3⟩ := h
  rcases h1.next (Maps.string_keyed Try.underlying9) ty with ⟨h4, h5, h6⟩ | ⟨key, v, kl, y, w', cnt', hkey, hl, hv, hat, hrun, hrg, hlt, hg, hs, hen⟩
  · exact .inl ⟨h4, fun z => (h3 z).trans (h5 _), h6⟩
  · obtain ⟨x, rfl, rfl, hw⟩ := keyT_inv hkey
    have hhas := Maps.has_true_of_atKey hat
    rw [h2 x] at hhas
    refine .inr ⟨x, v, w', cnt', hw, (h3 x).trans hl, by simpa using hhas, hrun, ⟨D, _, hrg, h2, fun z => ?_⟩, hlt, hg, hs, hen⟩
    have e2 : (Lit.string z).sameKey (Lit.string x) = (z == x) := by
      rw [Bool.eq_iff_iff]; simp [Lit.sameKey]
    show (left z && !(z == x)) = _
    rw [h3 z, e2]
end

theorem has_merge_foldT {H : Type} (k : Lit) : ∀ (es : List (Lit × DataW H)) (D : DataW H), Maps.IsMap D → (∀ p ∈ es, WideAt.IsKeyLit p.1) → Maps.has (es.foldl (fun D p => D.put p.1 p.2) D) k = (Maps.has D k || es.any (fun p => p.1.sameKey k))
  | [], D, _, _ => by simp
  | p :: es, D, hm, hk => by
    rw [List.foldl_cons, has_merge_foldT k es _ (hm.put p.1 p.2) (fun q hq => hk q (List.mem_cons_of_mem _ hq)), List.any_cons]
    have hp := hk p (List.mem_cons_self ..)
    by_cases e : k = p.1
    · subst e
      have h1 := Maps.has_put_same hm hp p.2
      rw [h1]
      have h2 : p.1.sameKey p.1 = true := by
        have := Maps.has_put_same (D := (.map [] : DataW H)) Maps.isMap_empty hp p.2
        simpa [Maps.has, DataW.put, DataW.insert] using this
      simp [h2]
    · rw [Maps.has_put_other e, Maps.sameKey_ne (fun h => e h.symm)]
      simp
def copyTRen : Ren := ⟨fun | 5 => 169 | n => n, fun | 23 => 201 | 24 => 201 | 26 => 9 | 27 => 4 | n => n, fun n => n⟩
theorem copyTLaid : SlLaysX.n5 Try.prog copyTRen := {
  mixed := by kernel_rfl
  f5 := ⟨Try.f169.name, by decide, Try.func169.trans (by kernel_rfl)⟩
  t0 := Try.underlying0
  a0 := Try.isAgg0
  z0 := Try.sizeOf0
  v0 := Try.zeroValue0
  t4 := Try.underlying4
  a4 := Try.isAgg4
  z4 := Try.sizeOf4
  v4 := Try.zeroValue4
  t23 := Try.underlying201
  a23 := Try.isAgg201
  z23 := Try.sizeOf201
  v23 := Try.zeroValue201
  t24 := Try.underlying201
  a24 := Try.isAgg201
  z24 := Try.sizeOf201
  v24 := Try.zeroValue201
  a26 := Try.isAgg9
  z26 := Try.sizeOf9
  a27 := Try.isAgg4
  z27 := Try.sizeOf4 }

/-- A set of texts, each once. -/
def SetX (w : World) (b : Nat) (l : List (List UInt8)) : Prop := l.Nodup ∧ SetT w b l.length l
def insT (z : List UInt8) (l : List (List UInt8)) : List (List UInt8) := if z ∈ l then l else z :: l
def mrgT (a l : List (List UInt8)) : List (List UInt8) := a.foldr insT l
theorem mem_insT {z x : List UInt8} {l : List (List UInt8)} : x ∈ insT z l ↔ x = z ∨ x ∈ l := by
  unfold insT
  split
  · constructor
    · exact .inr
    · rintro (rfl | h) <;> assumption
  · simp
theorem nodup_insT {z : List UInt8} {l : List (List UInt8)} (h : l.Nodup) : (insT z l).Nodup := by
  unfold insT
  split
  · exact h
  · exact List.nodup_cons.2 ⟨‹_›, h⟩
theorem mem_mrgT {x : List UInt8} {l : List (List UInt8)} : ∀ {a : List (List UInt8)}, x ∈ mrgT a l ↔ x ∈ a ∨ x ∈ l
  | [] => by simp [mrgT]
  | z :: a => by
    show x ∈ insT z (mrgT a l) ↔ _
    rw [mem_insT, mem_mrgT (a := a), List.mem_cons, or_assoc]
theorem nodup_mrgT {l : List (List UInt8)} (h : l.Nodup) : ∀ {a : List (List UInt8)}, (mrgT a l).Nodup
  | [] => h
  | _ :: a => nodup_insT (nodup_mrgT h (a := a))
section
variable {w w' : World} {b n : Nat} {l : List (List UInt8)}
theorem SetT.tight (h : SetT w b n l) (hl : l.Nodup) : SetX w b l := by
  refine ⟨hl, ?_⟩
  obtain ⟨D, h1, h2⟩ := h
  obtain ⟨ks, k1, k2, k3⟩ := texts_list h1
  have hn := nodup_len k1 hl (fun z => by rw [k2 z, h2 z]; simp)
  obtain ⟨es, clock, hb, Ft, hs, hD⟩ := h1
  refine ⟨D, ⟨es, clock, hb, Ft, ?_, hD⟩, h2⟩
  rw [← hn, k3, hD, Maps.size_eq, length_sorted, List.length_map, Array.length_toList]
  exact Nat.le_refl _
theorem SetX.made (w : World) : SetX (w.alloc (.map #[] 0)) w.heap.size [] := ⟨List.nodup_nil, SetT.made w⟩
theorem SetX.lt (h : SetX w b l) : b < w.heap.size := h.2.lt
theorem SetX.kp {S : Nat → Prop} (h : SetX w b l) (hk : Kp S w w') (hn : ¬ S b) : SetX w' b l := ⟨h.1, h.2.kp hk hn⟩
theorem SetX.at (h : SetX w b l) (hb : w'.heap[b]? = w.heap[b]?) : SetX w' b l := ⟨h.1, h.2.at hb⟩
theorem SetX.kept {row : Option Nat} (h : SetX w b l) (hg : w.grownBy w' row) (hn : some b ≠ row) : SetX w' b l := ⟨h.1, h.2.kept hg hn⟩
theorem SetX.same (h : SetX w b l) {l' : List (List UInt8)} (hd : l'.Nodup) (hl : ∀ z, z ∈ l ↔ z ∈ l') : SetX w b l' := (h.2.same hl).tight hd
theorem SetX.block (h : SetX w b l) : ∃ es c, w.heap[b]? = some (.map es c) := h.2.block
theorem SetX.put (h : SetX w b l) (z : List UInt8) (hz0 : z.length ≤ maxLen) (hn : l.length < maxLen) (T : TypeId) (hT : Try.prog.underlying T = some (.map 9 4)) :
    ∃ w', (Instr.mapUpdate T (.map (some b)) (.string ⟨z.toArray⟩) (.bool true)).run Try.prog w = .ok () w' ∧ SetX w' b (insT z l) ∧ w.grownBy w' (some b) := by
  obtain ⟨w', h1, h2, h3⟩ := h.2.put z hz0 hn T hT
  exact ⟨w', h1, (h2.same (l' := insT z l) (fun x => by rw [mem_insT, List.mem_cons])).tight (nodup_insT h.1), h3⟩
theorem SetX.len (h : SetX w b l) (T : TypeId) (hT : Try.prog.underlying T = some (.map 9 4)) (ty : TypeId) : (Builtin.len_ #[T] ty #[.map (some b)]).run Try.prog w = .ok (.int .i64 (l.length : Int)) w := h.2.len h.1 T hT ty
end
theorem copyT_calls (w : World) (bd bs : Nat) (ld ls : List (List UInt8)) (hd : SetX w bd ld) (hs : SetX w bs ls) (hne : bs ≠ bd) (hroom : ld.length + ls.length ≤ 1000000000000) :
    Calls Try.prog 169 #[.map (some bd), .map (some bs)] w fun e w' => e = .returned (.tuple #[]) ∧ SetX w' bd (mrgT ls ld) ∧ w.grownBy w' (some bd) := by
  have hdn := hd.1
  obtain ⟨Dd, h1, h2⟩ := hd.2
  obtain ⟨Ds, h3, h4⟩ := hs.2
  have hsz := h3.size_le
  refine (AnyX.maps_Copy_opt copyTLaid (Maps.string_keyed Try.underlying9) _ bd ld.length (some bs) Dd Ds w h1 (.inr ⟨bs, ls.length, rfl, h3⟩) (by simpa using hne) (by unfold maxLen; omega)).mono ?_
  rintro e w' ⟨rfl, h5, h6⟩
  refine ⟨rfl, ?_, h6⟩
  have hT : SetT w' bd (ld.length + ls.length) (ls ++ ld) := by
    refine ⟨_, h5.mono (by omega), fun z => ?_⟩
    obtain ⟨es, rfl, _, hk⟩ := h3.entries (Maps.string_keyed Try.underlying9)
    have h7 := has_merge_foldT (.string z) es Dd h1.isMap hk
    have h8 := h4 z
    rw [Maps.has_eq] at h8
    rw [h8, h2 z] at h7
    refine h7.trans ?_
    simp [Bool.or_comm]
  exact (hT.same (l' := mrgT ls ld) (fun z => by rw [mem_mrgT, List.mem_append])).tight (nodup_mrgT hdn)
end Go.Proofs.Ytaehooafdbaomaa
