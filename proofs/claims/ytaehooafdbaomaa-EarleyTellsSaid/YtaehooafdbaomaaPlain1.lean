/- Chapter 8 (plain): distinct, Sound. -/
import Derived.Test.YtaehooafdbaomaaRep
import Derived.RegionTactic
import Derived.BigRegion
import Derived.ChangeAlike
import Derived.Deep.QuietTactic
import Derived.BigQuiet
import Derived.Deep.RegionHeld3
import Derived.Deep.DrawnRows
import Derived.Deep.LoopGhost
import Derived.Deep.DeepCutAuto
import Derived.Deep.CutBlock
import Derived.Maps.OwnOps
import Derived.Maps.OwnSet
import Derived.Maps.Views
import Derived.StringKeys
import Derived.Shelf.Abstract
namespace Go.Proofs.Ytaehooafdbaomaa
open Go.RowKit
attribute [local go_sem ↓] Go.wp_at_zero Go.wp_at_succ
attribute [local go_sem] frozen_alloc_lt

/-! A map from strings to bools that holds a set of strings. -/
def SetS (w : World) (b n : Nat) (l : List (List UInt8)) : Prop :=
  ∃ D : DataW Unit, w.ownsMap Try.prog 9 (plainElem Try.prog 4) b n D ∧ ∀ s : List UInt8, D.atKey (.string s) (.lit (.bool false)) = .lit (.bool (decide (s ∈ l)))

theorem plain_bool_inv {P : Program} {e : TypeId} {v : Value} {x : Bool} {ps : List MemPlace} (he : P.underlying e = some .bool) (h : plainElem (H := Unit) P e v = some (.lit (.bool x), ps)) : v = .bool x := by
  unfold plainElem at h
  rw [he] at h
  cases v <;> simp at h
  exact congrArg Value.bool h.1

theorem SetS.made (w : World) : SetS (w.alloc (.map #[] 0)) w.heap.size 0 [] := ⟨.map [], World.ownsMap_made _ _ _ _, fun s => by simp [DataW.atKey]⟩
theorem SetS.lt {w : World} {b n : Nat} {l : List (List UInt8)} (h : SetS w b n l) : b < w.heap.size := by
  obtain ⟨D, h1, h2⟩ := h
  exact h1.lt
theorem SetS.look {w : World} {b n : Nat} {l : List (List UInt8)} (h : SetS w b n l) (s : ByteArray) (hs : s.size ≤ maxLen) (T : TypeId) (hT : Try.prog.underlying T = some (.map 9 4)) :
    (Instr.lookup T (.map (some b)) (.string s) false).run Try.prog w = .ok (.bool (decide (s.data.toList ∈ l))) w := by
  obtain ⟨D, h1, h2⟩ := h
  have hz : (zeroValue 4).run Try.prog w = .ok (.bool false) w := by kernel_rfl
  obtain ⟨v, ps, hrun, hv⟩ := h1.lookup (Maps.string_keyed Try.underlying9) hT hz (plainElem_bool Try.underlying4 false) (WideMaps.keyOf_string_mk Try.underlying9 hs)
  rw [h2 s.data.toList] at hv
  rw [hrun, plain_bool_inv Try.underlying4 hv]
theorem SetS.put {w : World} {b n : Nat} {l : List (List UInt8)} (h : SetS w b n l) (s : ByteArray) (hs : s.size ≤ maxLen) (hn : n < maxLen) (T : TypeId) (hT : Try.prog.underlying T = some (.map 9 4)) :
    ∃ w', (Instr.mapUpdate T (.map (some b)) (.string s) (.bool true)).run Try.prog w = .ok () w' ∧ SetS w' b (n + 1) (s.data.toList :: l) ∧ w.grownBy w' (some b) := by
  obtain ⟨D, h1, h2⟩ := h
  have hm := h1.isMap
  obtain ⟨w', hrun, h3, hg⟩ := h1.update (Maps.string_keyed Try.underlying9) hT hn (WideMaps.keyOf_string_mk Try.underlying9 hs) (plainElem_bool Try.underlying4 true)
  refine ⟨w', hrun, ⟨_, h3, fun t => ?_⟩, hg⟩
  by_cases hts : t = s.data.toList
  · subst hts
    rw [Maps.atKey_put_same hm (by trivial)]
    simp
  · rw [Maps.atKey_put_other (fun e => hts (by injection e)), h2 t]
    simp [hts]

theorem str_nil {s : ByteArray} (h : s.size = 0) : s.toList = [] := by
  rw [ByteArray.toList_eq]
  exact List.eq_nil_of_length_eq_zero (by simpa using h)
theorem str_cons' {s : ByteArray} (h : ¬ s.size = 0) : s.toList ≠ [] := by
  rw [ByteArray.toList_eq]
  intro e
  have := congrArg List.length e
  simp at this
  exact h (by simpa using this)
theorem str_cons {s : ByteArray} (h : ¬ s.size = 0) : s.toList.isEmpty = false := by
  have := str_cons' h
  simpa using this

namespace Pl
/-- Apart, none empty, none longer than may be. -/
def apartS (most : Int) : List (List UInt8) → List ByteArray → Bool
  | _, [] => true
  | known, s :: r => if s.size = 0 ∨ most < s.size ∨ s.data.toList ∈ known then false else apartS most (s.data.toList :: known) r
end Pl

/-- Where distinct stands. -/
def DistAt (w0 : World) (b : Nat) (ss : List ByteArray) (most : Int) (res : Bool) (k : Nat) (v11 : Value) (w : World) : Prop :=
  ∃ (i : Nat) (known : List (List UInt8)), v11 = .int .i64 i ∧ i ≤ ss.length ∧ SetS w b i known ∧ Pl.apartS most known (ss.drop i) = res ∧ k = ss.length - i ∧ Below w0.heap.size w0 w

set_option maxHeartbeats 1000000 in
theorem distinct_calls (w : World) (ga : Option Addr) (cap : Nat) (ss : List ByteArray) (most : Int) (hr : RowS w w.heap.size ga ss) (hl : ss.length ≤ 9223372036854775807) (hm0 : 0 ≤ most) (hm : most ≤ 70000) :
    Calls Try.prog 103 #[.slice ga ss.length cap, .int .i64 most] w fun e w' => e = .returned (.bool (Pl.apartS most [] ss)) ∧ Below w.heap.size w w' := by
  generalize hres : Pl.apartS most [] ss = res
  have Hres := hid hres
  clear hres
  have hT : Try.prog.underlying 201 = some (.map 9 4) := Try.underlying201
  have HT := hid hT
  clear hT
  have hmm := @run_makeMap Try.prog
  go_enter Try.func103, Try.ntmps103
  go_wp2_with fail
  have hset := SetS.made w
  have hb : Below w.heap.size w (w.alloc (.map #[] 0)) := (Below.refl _ _).alloc (Nat.le_refl _) _
  obtain ⟨b, hbb⟩ : ∃ b, b = w.heap.size := ⟨_, rfl⟩
  rw [← hbb] at hset hb ⊢
  obtain ⟨wd, hwd⟩ : ∃ wd, wd = w.alloc (.map #[] 0) := ⟨_, rfl⟩
  rw [← hwd] at hset hb ⊢
  have hbz : w.heap.size ≤ b := by omega
  clear hwd hmm
  have Hbb := hid hbb
  clear hbb
  go_loopg [11] ss.length (fun k v11 wr => DistAt w b ss most res k v11 wr)
  case atStart => exact ⟨0, [], rfl, Nat.zero_le _, hset, by rw [List.drop_zero]; exact Hres.out, rfl, by rw [← Hbb.out]; exact hb⟩
  case round =>
    clear hset hb
    obtain ⟨i, known, rfl, hi, hset, hap, hk, hb⟩ := hrel
    have Hk := hid hk
    have Hap := hid hap
    clear hk hap
    by_cases hlt : i < ss.length
    · have hlt' : (i : Int) < (ss.length : Int) := by omega
      obtain ⟨g, off, rfl, hg, hc⟩ := (hr.below hb).at hlt
      obtain ⟨s, hs⟩ : ∃ s, s = ss[i] := ⟨_, rfl⟩
      rw [← hs] at hc
      have hap := Hap.out
      rw [List.drop_eq_getElem_cons hlt, ← hs, Pl.apartS] at hap
      have Hs := hid hs
      clear hs Hap
      by_cases c1 : s.size = 0
      · rw [if_pos (.inl c1)] at hap
        have Hap := hid hap
        have e1 : s.toList = [] := str_nil c1
        clear hap c1
        go_wp2_with fail
        go_ret
        rw [← Hap.out]
        exact ⟨rfl, hb⟩
      · have e1 : s.toList.isEmpty = false := str_cons c1
        have e2 : s.toList ≠ [] := str_cons' c1
        by_cases c2 : most < s.size
        · rw [if_pos (.inr (.inl c2))] at hap
          have Hap := hid hap
          clear hap c1
          go_wp2_with fail
          go_ret
          rw [← Hap.out]
          exact ⟨rfl, hb⟩
        · have hsz : s.size ≤ maxLen := by unfold maxLen; omega
          have hrun := hset.look s hsz 201 HT.out
          by_cases c3 : s.data.toList ∈ known
          · rw [if_pos (.inr (.inr c3))] at hap
            have Hap := hid hap
            rw [show decide (s.data.toList ∈ known) = true by simpa using c3] at hrun
            clear hap c1 c3
            go_wp2_with fail
            go_ret
            rw [← Hap.out]
            exact ⟨rfl, hb⟩
          · rw [if_neg (by simp only [not_or]; exact ⟨c1, c2, c3⟩)] at hap
            have Hap := hid hap
            rw [show decide (s.data.toList ∈ known) = false by simpa using c3] at hrun
            obtain ⟨w1, hrun1, hset1, hg1⟩ := hset.put s hsz (by unfold maxLen; omega) 201 HT.out
            clear hap c1 c3
            go_wp2_with fail
            go_roundg (ss.length - (i + 1))
            case measure => have hk := Hk.out; omega
            case rel => exact ⟨i + 1, _, by go_num, by omega, hset1, Hap.out, rfl, hb.grown hg1 hb.size (fun k hk => by cases hk; exact hbz)⟩
    · have hge : ¬ (i : Int) < (ss.length : Int) := by omega
      have hap := Hap.out
      rw [List.drop_eq_nil_of_le (by omega), Pl.apartS] at hap
      have Hap := hid hap
      clear hap
      go_wp2_with fail
      go_ret
      rw [← Hap.out]
      exact ⟨rfl, hb⟩

/-! slices.IndexFunc, ContainsFunc on ints, at a closure that leaves the world alone. -/
def idxS (f : Int → Bool) : List Int → Int → Int
  | [], _ => -1
  | z :: r, i => if f z then i else idxS f r (i + 1)
theorem idxS_any (f : Int → Bool) : ∀ (zs : List Int) (i : Int), 0 ≤ i → decide (0 ≤ idxS f zs i) = zs.any f
  | [], i, _ => by simp [idxS]
  | z :: r, i, hi => by
    unfold idxS
    by_cases h : f z = true
    · simp [h, hi]
    · simp only [h, if_false, List.any_cons, Bool.false_or, Bool.false_eq_true]
      simp only [Bool.not_eq_true] at h
      exact idxS_any f r (i + 1) (by omega)

def IdxAt (f : Int → Bool) (zs : List Int) (res : Int) (w0 : World) (k : Nat) (v8 : Value) (w : World) : Prop :=
  ∃ i : Nat, v8 = .int .i64 i ∧ i ≤ zs.length ∧ idxS f (zs.drop i) i = res ∧ k = zs.length - i ∧ w0 = w

set_option maxHeartbeats 1000000 in
theorem indexFunc_calls (w : World) (ga : Option Addr) (cap : Nat) (zs : List Int) (F : Nat) (c : Value) (f : Int → Bool) (hr : RowI w w.heap.size ga zs) (hl : zs.length ≤ 9223372036854775807)
    (eg : ∀ args w, (callFunc F args).run Try.prog w = .ok (.enter F args) w) (hp : ∀ z ∈ zs, Calls Try.prog F #[.int .i64 z, c] w fun e w' => e = .returned (.bool (f z)) ∧ w = w') :
    Calls Try.prog 62 #[.slice ga zs.length cap, .func (.func F) #[] #[c]] w fun e w' => e = .returned (.int .i64 (idxS f zs 0)) ∧ w = w' := by
  generalize hres : idxS f zs 0 = res
  have Hres := hid hres
  have Hp := hid hp
  clear hres hp
  go_enter Try.func62, Try.ntmps62
  go_wp2_with fail
  go_loopg [8] zs.length (fun k v8 wr => IdxAt f zs res w k v8 wr)
  case atStart => exact ⟨0, rfl, Nat.zero_le _, by rw [List.drop_zero]; exact Hres.out, rfl, rfl⟩
  case round =>
    obtain ⟨i, rfl, hi, hx, hk, rfl⟩ := hrel
    have Hk := hid hk
    have Hx := hid hx
    clear hk hx
    by_cases hlt : i < zs.length
    · have hlt' : (i : Int) < (zs.length : Int) := by omega
      obtain ⟨g, off, rfl, hg, hc⟩ := hr.at hlt
      have hpz := Hid.out Hp zs[i] (List.getElem_mem hlt)
      have hx := Hx.out
      rw [List.drop_eq_getElem_cons hlt, idxS] at hx
      obtain ⟨z, hz⟩ : ∃ z, z = zs[i] := ⟨_, rfl⟩
      rw [← hz] at hc hpz hx
      have Hpz := hid hpz
      clear hz Hx hpz
      by_cases hf : f z = true
      · rw [if_pos hf] at hx
        have Hx := hid hx
        rw [hf] at Hpz
        clear hx
        go_wp2_with ((with_reducible refine (Hid.out Hpz).mono ?_); rintro e w1 ⟨rfl, rfl⟩)
        go_ret
        rw [← Hx.out]
        exact ⟨rfl, rfl⟩
      · rw [if_neg hf] at hx
        have Hx := hid hx
        rw [show f z = false by simpa using hf] at Hpz
        clear hx
        go_wp2_with ((with_reducible refine (Hid.out Hpz).mono ?_); rintro e w1 ⟨rfl, rfl⟩)
        go_roundg (zs.length - (i + 1))
        case measure => have hk := Hk.out; omega
        case rel => exact ⟨i + 1, by go_num, by omega, by rw [Int.natCast_add]; exact Hx.out, rfl, rfl⟩
    · have hge : ¬ (i : Int) < (zs.length : Int) := by omega
      have hx := Hx.out
      rw [List.drop_eq_nil_of_le (by omega), idxS] at hx
      have Hx := hid hx
      clear hx
      go_wp2_with fail
      go_ret
      rw [← Hx.out]
      exact ⟨rfl, rfl⟩

set_option maxHeartbeats 1000000 in
theorem containsFunc_calls (w : World) (ga : Option Addr) (cap : Nat) (zs : List Int) (F : Nat) (c : Value) (f : Int → Bool) (hr : RowI w w.heap.size ga zs) (hl : zs.length ≤ 9223372036854775807)
    (eg : ∀ args w, (callFunc F args).run Try.prog w = .ok (.enter F args) w) (hp : ∀ z ∈ zs, Calls Try.prog F #[.int .i64 z, c] w fun e w' => e = .returned (.bool (f z)) ∧ w = w') :
    Calls Try.prog 78 #[.slice ga zs.length cap, .func (.func F) #[] #[c]] w fun e w' => e = .returned (.bool (zs.any f)) ∧ w = w' := by
  have Hres := hid (idxS_any f zs 0 (by omega))
  have Hp := hid hp
  have Heg := hid eg
  clear hp eg
  go_enter Try.func78, Try.ntmps78
  go_wp2_with (go_at_call 62; refine (indexFunc_calls w ga cap zs F c f hr hl Heg.out Hp.out).mono ?_; rintro e w1 ⟨rfl, rfl⟩)
  go_ret
  rw [← Hres.out]
  exact ⟨rfl, rfl⟩

/-- A symbol that a grammar of n nonterminals and t terminals has not. -/
def Pl.strange (n t : Int) (s : Int) : Bool := decide (n ≤ s) || decide (s < -t)

set_option maxHeartbeats 1000000 in
theorem strange_calls (w : World) (b : Nat) (n t : Nat) (gn gt : Option Addr) (cn ct : Nat) (z : Int) (hn : w.cell? ⟨b, 2, none⟩ = some (.slice gn n cn)) (ht : w.cell? ⟨b, 3, none⟩ = some (.slice gt t ct)) (_h1 : n ≤ 256) (h2 : t ≤ 256) :
    Calls Try.prog 104 #[.int .i64 z, .pointer (some ⟨b, 0, none⟩)] w fun e w' => e = .returned (.bool (Pl.strange n t z)) ∧ w = w' := by
  by_cases c1 : (n : Int) ≤ z
  · have e1 : Pl.strange n t z = true := by simp [Pl.strange, c1]
    have E1 := hid e1
    clear e1
    go_enter Try.func104, Try.ntmps104
    go_wp2_with fail
    all_goals go_ret
    all_goals (rw [E1.out]; exact ⟨rfl, rfl⟩)
  · have c1' : z < (n : Int) := by omega
    by_cases c2 : z < -(t : Int)
    · have e1 : Pl.strange n t z = true := by simp [Pl.strange, c2]
      have E1 := hid e1
      clear e1
      go_enter Try.func104, Try.ntmps104
      go_wp2_with fail
      all_goals go_ret
      all_goals (rw [E1.out]; exact ⟨rfl, rfl⟩)
    · have e1 : Pl.strange n t z = false := by simp [Pl.strange, c1']; omega
      have E1 := hid e1
      clear e1
      go_enter Try.func104, Try.ntmps104
      go_wp2_with fail
      all_goals go_ret
      all_goals (rw [E1.out]; exact ⟨rfl, rfl⟩)
end Go.Proofs.Ytaehooafdbaomaa
