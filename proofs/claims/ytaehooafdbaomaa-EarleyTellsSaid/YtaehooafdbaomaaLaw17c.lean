/- Chapter 17 (earley): EarleyTells: walk. -/
import Derived.Test.YtaehooafdbaomaaSpk17
import Derived.Test.YtaehooafdbaomaaEdW
import Derived.Test.YtaehooafdbaomaaBgW
import Derived.Test.YtaehooafdbaomaaWord17
import Derived.Test.YtaehooafdbaomaaMade17
import Derived.Test.YtaehooafdbaomaaLawArr
import Derived.IntWalk
namespace Go.Proofs.Ytaehooafdbaomaa
open Go.RowKit
attribute [local go_sem ↓] Go.wp_at_zero Go.wp_at_succ
attribute [local go_sem] frozen_alloc_lt
namespace Ed

theorem make_any (w : World) (G : Gr) (gn gt gp : Option Addr) (cn ct cp : Nat) (h : GIn w G gn gt gp) (hs : Pl.soundB G = true) (gw : Option Addr) (cw : Nat) (word : List Int) (hw : RowI w w.heap.size gw word) (hwl : word.length ≤ 64) (hbad : word.any (badT G.terms.length) = false) (hnil : gw = none → cw = 0) (m : Nat) (hm : word.length = m) :
    Calls Try.prog 43 #[.agg #[.int .i64 G.start, .int .i64 G.rules, .slice gn G.names.length cn, .slice gt G.terms.length ct, .slice gp G.prods.length cp], .slice gw m cw] w (MkYes w G word) := by
  subst hm
  exact make_yes w G gn gt gp cn ct cp h hs gw cw word hw hwl hbad hnil
theorem pairwise_lo {a : Int} : ∀ {ss : List Int} {n : Nat}, ss.Pairwise (· < ·) → (∀ z ∈ ss, a ≤ z ∧ z < a + n) → ss.length ≤ n
  | [], n, _, _ => Nat.zero_le _
  | x :: r, n, hp, h => by
    rw [List.pairwise_cons] at hp
    have hx := h x List.mem_cons_self
    have := pairwise_lo (a := x + 1) (ss := r) (n := (a + n - x - 1).toNat) hp.2 (fun z hz => ⟨by have := hp.1 z hz; omega, by have := (h z (List.mem_cons_of_mem _ hz)).2; have := hp.1 z hz; omega⟩)
    rw [List.length_cons]
    omega
theorem pairwise_len {ss : List Int} (hp : ss.Pairwise (· < ·)) (h : ∀ z ∈ ss, 0 ≤ z ∧ z < 256) : ss.length ≤ 256 := pairwise_lo (a := 0) (n := 256) hp (fun z hz => ⟨(h z hz).1, by have := (h z hz).2; omega⟩)
theorem bool_iff {a b : Bool} (h : a = true ↔ b = true) : a = b := by
  cases a <;> cases b <;> simp at h ⊢
/-- How far the word was a beginning. -/
def TL1 (w5 : World) (ps : List (Int × List Int)) (st : Int) (l : List Int) (L : Nat) (k : Nat) (v9 v10 : Value) (w : World) : Prop :=
  ∃ (i : Nat) (g : Int), v10 = .int .i64 i ∧ v9 = .int .i64 g ∧ i ≤ L + 1 ∧ -1 ≤ g ∧ g < i ∧ (∀ n : Nat, n < i → (Pre ps [st] (l.take n) ↔ (n : Int) ≤ g)) ∧ k = L + 1 - i ∧ Below w5.heap.size w5 w
def TL2 (w5 : World) (g : Int) (L : Nat) (k : Nat) (v11 : Value) (w : World) : Prop := ∃ i : Nat, v11 = .int .i64 i ∧ (i : Int) ≤ g + 1 ∧ k = L + 1 - i ∧ Below w5.heap.size w5 w
def TL3 (w6 : World) (ss : List Int) (S T : Nat) (k : Nat) (v13 v14 : Value) (w : World) : Prop :=
  ∃ (t at' : Nat), v14 = .int .i64 t ∧ v13 = .int .i64 at' ∧ t ≤ T ∧ at' ≤ S ∧ (∀ (j : Nat) z, j < at' → ss[j]? = some z → z < (t : Int)) ∧ (∀ (j : Nat) z, at' ≤ j → ss[j]? = some z → (t : Int) ≤ z) ∧ k = T - t ∧ Below w6.heap.size w6 w
section
variable {ps : List (Int × List Int)} {st g g1 : Int} {l ss : List Int} {L S i t at' : Nat} {b : Bool}
theorem take_front2 {n m : Nat} (h : n ≤ m) : l.take m = l.take n ++ (l.take m).drop n := by
  conv => lhs; rw [← List.take_append_drop n (l.take m)]
  rw [List.take_take, Nat.min_eq_left h]
theorem TL1_yes (h : Pre ps [st] (l.take i)) : ∀ n : Nat, n < i + 1 → (Pre ps [st] (l.take n) ↔ (n : Int) ≤ (i : Int)) := fun n hn =>
  ⟨fun _ => by omega, fun _ => by rw [take_front2 (show n ≤ i by omega)] at h; exact h.front⟩
theorem TL1_no (h : ∀ n : Nat, n < i → (Pre ps [st] (l.take n) ↔ (n : Int) ≤ g)) (hn : ¬ Pre ps [st] (l.take i)) (hg : g < i) : ∀ n : Nat, n < i + 1 → (Pre ps [st] (l.take n) ↔ (n : Int) ≤ g) := fun n hlt => by
  by_cases e : n < i
  · exact h n e
  · obtain rfl : n = i := by omega
    exact ⟨fun k => absurd k hn, fun k => by omega⟩
theorem xs_len {Xs : List (List Itm)} (h : SetsAre ps st l Xs) (h0 : ∀ x ∈ ps, 0 ≤ x.1) (hst : 0 ≤ st) (hL : L = l.length) (hg : ∀ n : Nat, n ≤ L → (Pre ps [st] (l.take n) ↔ (n : Int) ≤ g)) (hg0 : -1 ≤ g) (hgL : g ≤ L) : (Xs.length : Int) = g + 1 := by
  have hl := h.len
  have key : ∀ n : Nat, n ≤ L → (n < Xs.length ↔ (n : Int) ≤ g) := fun n hn => (h.at_ h0 hst (by omega)).trans (hg n hn)
  obtain ⟨m, hm⟩ : ∃ m : Nat, g + 1 = m := ⟨(g + 1).toNat, by omega⟩
  have h1 : m ≤ Xs.length := by
    by_cases e : m = 0
    · omega
    · have := (key (m - 1) (by omega)).2 (by omega)
      omega
  have h2 : Xs.length ≤ m := by
    by_cases e : m ≤ L
    · have := key m e
      omega
    · omega
  omega
theorem next_none (hmem : ∀ z, z ∈ ss ↔ 0 ≤ z ∧ ∃ m : Nat, g1 = m ∧ m ≤ l.length ∧ Pre ps [st] (l.take m ++ [z])) (hg : ∀ n : Nat, n ≤ L → (Pre ps [st] (l.take n) ↔ (n : Int) ≤ g)) (hg1 : g1 = g + 1) (hL : L = l.length) : ss = [] := by
  cases ss with
  | nil => rfl
  | cons z r =>
    obtain ⟨_, m, h1, h2, h3⟩ := (hmem z).1 List.mem_cons_self
    have := (hg m (by omega)).1 h3.front
    omega
theorem next_neg (hmem : ∀ z, z ∈ ss ↔ 0 ≤ z ∧ ∃ m : Nat, (-1 : Int) = m ∧ m ≤ l.length ∧ Pre ps [st] (l.take m ++ [z])) : ss = [] := by
  cases ss with
  | nil => rfl
  | cons z r =>
    obtain ⟨_, m, h1, _⟩ := (hmem z).1 List.mem_cons_self
    omega
theorem ends_neg (h : b = true ↔ ∃ m : Nat, (-1 : Int) = m ∧ m ≤ l.length ∧ Dw ps [st] (l.take m)) : b = false := by
  cases b with
  | false => rfl
  | true =>
    obtain ⟨m, h1, _⟩ := h.1 rfl
    omega
theorem ends_far (h : b = true ↔ ∃ m : Nat, (L : Int) + 1 = m ∧ m ≤ l.length ∧ Dw ps [st] (l.take m)) (hL : L = l.length) : b = false := by
  cases b with
  | false => rfl
  | true =>
    obtain ⟨m, h1, h2, _⟩ := h.1 rfl
    omega
theorem ends_at (h : b = true ↔ ∃ m : Nat, (i : Int) = m ∧ m ≤ l.length ∧ Dw ps [st] (l.take m)) (hi : i ≤ L) (hL : L = l.length) : b = true ↔ Dw ps [st] (l.take i) :=
  h.trans ⟨fun ⟨m, h1, _, h2⟩ => by rwa [show i = m by omega], fun h2 => ⟨i, rfl, by omega, h2⟩⟩
theorem next_yes (hp : ss.Pairwise (· < ·)) (ht : (t : Int) ∈ ss) (hlo : ∀ (j : Nat) z, j < at' → ss[j]? = some z → z < (t : Int)) (hhi : ∀ (j : Nat) z, at' ≤ j → ss[j]? = some z → (t : Int) ≤ z) (_hat : at' ≤ S) (hS : S = ss.length) : at' < S ∧ ss[at']? = some (t : Int) := by
  obtain ⟨j, hj⟩ := List.getElem?_of_mem ht
  have hjl := (List.getElem?_eq_some_iff.1 hj).1
  rcases Nat.lt_trichotomy j at' with h | h | h
  · have := hlo j _ h hj
    omega
  · subst h
    exact ⟨by omega, hj⟩
  · have hz : ss[at']? = some ss[at'] := List.getElem?_eq_getElem (by omega)
    have h1 := hhi at' _ (Nat.le_refl _) hz
    have h2 : ss[at'] < ss[j] := List.pairwise_iff_getElem.1 hp at' j (by omega) hjl h
    have h3 : ss[j] = (t : Int) := (List.getElem?_eq_some_iff.1 hj).2
    omega
theorem next_cell {W : World} {a : Addr} {h : at' < ss.length} (hc : W.cell? a = some (.int .i64 ss[at'])) (hs : ss[at']? = some (t : Int)) : W.cell? a = some (.int .i64 (t : Int)) := by
  rw [hc, (List.getElem?_eq_some_iff.1 hs).2]
theorem next_lo (hlo : ∀ (j : Nat) z, j < at' → ss[j]? = some z → z < (t : Int)) (hs : ss[at']? = some (t : Int)) : ∀ (j : Nat) z, j < at' + 1 → ss[j]? = some z → z < ((t + 1 : Nat) : Int) := fun j z hj hz => by
  by_cases e : j < at'
  · have := hlo j z e hz
    omega
  · obtain rfl : j = at' := by omega
    rw [hs] at hz
    cases hz
    omega
theorem next_hi (_hhi : ∀ (j : Nat) z, at' ≤ j → ss[j]? = some z → (t : Int) ≤ z) (hp : ss.Pairwise (· < ·)) (hs : ss[at']? = some (t : Int)) : ∀ (j : Nat) z, at' + 1 ≤ j → ss[j]? = some z → ((t + 1 : Nat) : Int) ≤ z := fun j z hj hz => by
  obtain ⟨h1, h2⟩ := List.getElem?_eq_some_iff.1 hs
  obtain ⟨h3, h4⟩ := List.getElem?_eq_some_iff.1 hz
  have := List.pairwise_iff_getElem.1 hp at' j h1 h3 (by omega)
  omega
theorem next_no (hhi : ∀ (j : Nat) z, at' ≤ j → ss[j]? = some z → (t : Int) ≤ z) (hn : ¬ (t : Int) ∈ ss) : ∀ (j : Nat) z, at' ≤ j → ss[j]? = some z → ((t + 1 : Nat) : Int) ≤ z := fun j z hj hz => by
  have h1 := hhi j z hj hz
  have h2 : z ≠ (t : Int) := fun e => hn (by rw [← e]; exact List.mem_of_getElem? hz)
  omega
theorem next_end (hhi : ∀ (j : Nat) z, at' ≤ j → ss[j]? = some z → (t : Int) ≤ z) (hat : at' ≤ S) (hS : S = ss.length) (h : ∀ z ∈ ss, z < (t : Int)) : at' = S := by
  by_cases e : at' = S
  · exact e
  · have hz : ss[at']? = some ss[at'] := List.getElem?_eq_getElem (by omega)
    have h1 := hhi at' _ (Nat.le_refl _) hz
    have h2 := h _ (List.mem_of_getElem? hz)
    omega
end
theorem emptyE {W0 W wE : World} {b1 : Nat} (hwE : wE = W.alloc (.cells #[] 3)) (hb1 : b1 = W.heap.size) (h : Below W0.heap.size W0 W) :
    wE.ownsRow W0.heap.size 3 1 (.slice (some ⟨b1, 0, none⟩) 0 0) 0 [] ∧ Below W0.heap.size W0 wE ∧ b1 = W.heap.size ∧ Below W.heap.size W wE ∧ b1 < wE.heap.size := by
  subst hwE
  subst hb1
  exact ⟨World.ownsRow_made W #[] 0 h.size (by unfold maxLen; omega) rfl, belw h (bel_al (bel_id W) _), rfl, bel_al (bel_id W) _, by simp⟩
theorem oneX {W0 W wX : World} {b2 : Nat} {t : Int} (hwX : wX = W.alloc (.cells #[.int .i64 t] 3)) (hb2 : b2 = W.heap.size) (h : Below W0.heap.size W0 W) :
    Bk wX b2 3 [.int .i64 t] ∧ Below W.heap.size W wX ∧ Below W0.heap.size W0 wX ∧ b2 = W.heap.size := by
  subst hwX
  subst hb2
  exact ⟨Bk.new W 3 [.int .i64 t], bel_al (bel_id W) _, belw h (bel_al (bel_id W) _), rfl⟩
theorem app5 {W0 W : World} {b1 : Nat} {ga : Option Addr} {cap : Nat} {l : List Int} (hown : W.ownsRow W0.heap.size 3 1 (.slice (some ⟨b1, 0, none⟩) 0 0) 0 []) (hb : Below W0.heap.size W0 W) (hrow : RowI W0 W0.heap.size ga l) (i : Nat) {L : Nat} (hi : i ≤ L) (hL : L = l.length) (hL4 : L ≤ 1000) :
    ∃ (gA : Option Addr) (cA : Nat) (wA : World), (Builtin.append_ #[22, 22] 22 #[.slice (some ⟨b1, 0, none⟩) 0 0, .slice ga i cap]).run Try.prog W = .ok (.slice gA i cA) wA ∧
      wA.ownsRow W0.heap.size 3 1 (.slice gA i cA) i ((l.take i).map (Value.int .i64)) ∧ Kp (fun k => k = b1) W wA ∧ Below W0.heap.size W0 wA := by
  obtain ⟨i3, hi3, z0, z1, z2⟩ := info_parts intInfo
  have hlt : (l.take i).length = i := by rw [List.length_take]; omega
  obtain ⟨gA, cA, wA, r1, o1, gr1, -⟩ := run_append_cells (P := Try.prog) W W0.heap.size 22 22 3 i3 (.int .i64 0) Try.underlying22 hi3 z0 z1 (by omega) rfl _ 0 [] hown (fun k => k < W.heap.size) ga cap ((l.take i).map (Value.int .i64)) (ints_cells (row_takeB ((hrow.below hb).mono hb.size) i)) (fun u hu => by obtain ⟨x, _, rfl⟩ := List.mem_map.1 hu; rfl) (by rw [List.length_map]; omega) hb.size
  rw [List.length_map, hlt, Nat.zero_add] at r1 o1
  have hk : Kp (fun k => k = b1) W wA := (Kp.refl _ W).grown gr1 (fun k hk _ => by
    have e : b1 = k := by simpa [Value.ownBlock] using hk
    exact e.symm)
  have hb1 : W0.heap.size ≤ b1 := (World.ownsRow.lt hown b1 rfl).1
  exact ⟨gA, cA, wA, r1, by simpa using o1, hk, hb.trans (hk.to_below hb.size (fun k e => by rw [e]; exact hb1))⟩
theorem app8 {W0 W : World} {b2 : Nat} {gA : Option Addr} {cA i : Nat} {zs : List Int} {t : Int} (hown : W.ownsRow W0.heap.size 3 1 (.slice gA i cA) i (zs.map (Value.int .i64))) (hbk : Bk W b2 3 [.int .i64 t]) (hb : Below W0.heap.size W0 W) (hi : i ≤ 1000) :
    ∃ (gC cC : Nat) (wC : World), (Builtin.append_ #[22, 22] 22 #[.slice gA i cA, .slice (some ⟨b2, 0, none⟩) 1 1]).run Try.prog W = .ok (.slice (some ⟨gC, 0, none⟩) (i + 1) cC) wC ∧
      wC.ownsRow W0.heap.size 3 1 (.slice (some ⟨gC, 0, none⟩) (i + 1) cC) (i + 1) ((zs ++ [t]).map (Value.int .i64)) ∧ Below W0.heap.size W0 wC := by
  obtain ⟨i3, hi3, z0, z1, z2⟩ := info_parts intInfo
  obtain ⟨gC, cC, wC, r2, o2, gr2, -, -⟩ := run_append_lies (P := Try.prog) W 22 22 W0.heap.size 3 i3 (.int .i64 0) 1 8 Try.underlying22 hi3 z0 z1 z2 rfl (by omega) _ i _ hown ⟨b2, 0, none⟩ 1 1 [.int .i64 t] rfl
    (fun j u hj => by
      rw [add_off0 _ rfl]
      simp only [Nat.zero_add]
      exact (hbk.cell j).trans hj) (fun u hu => by simp at hu; subst hu; rfl) (by omega) (by unfold maxLen; omega) (by omega) hb.size W.heap.size rfl
  refine ⟨gC, cC, wC, r2, by rw [List.map_append]; exact o2, hb.trans ?_⟩
  have hk : Kp (fun k => (Value.slice gA i cA).ownBlock = some k) W wC := (Kp.refl _ W).grown gr2 fun k hk _ => hk
  exact hk.to_below hb.size (fun k e => (World.ownsRow.lt hown k e).1)
theorem keepX {W0 wE wX wA : World} {b1 b2 : Nat} {t : Int} (hE : wE.ownsRow W0.heap.size 3 1 (.slice (some ⟨b1, 0, none⟩) 0 0) 0 [] ∧ Below W0.heap.size W0 wE ∧ b1 = W0.heap.size ∧ Below W0.heap.size W0 wE ∧ b1 < wE.heap.size) (hX : Bk wX b2 3 [.int .i64 t] ∧ Below wE.heap.size wE wX ∧ Below W0.heap.size W0 wX ∧ b2 = wE.heap.size) (hk : Kp (fun k => k = b1) wX wA) : Bk wA b2 3 [.int .i64 t] :=
  hX.1.kp hk (fun e => by have := hE.2.2.2.2; have := hX.2.2.2; omega)
theorem keepX3 {W0 wE wX wA : World} {b1 b2 : Nat} {t : Int} (hX : Bk wX b2 3 [.int .i64 t] ∧ Below W0.heap.size W0 wX ∧ Below W0.heap.size W0 wX ∧ b2 = W0.heap.size) (hE : wE.ownsRow W0.heap.size 3 1 (.slice (some ⟨b1, 0, none⟩) 0 0) 0 [] ∧ Below W0.heap.size W0 wE ∧ b1 = wX.heap.size ∧ Below wX.heap.size wX wE ∧ b1 < wE.heap.size) (hk : Kp (fun k => k = b1) wE wA) : Bk wA b2 3 [.int .i64 t] :=
  (hX.1.below hE.2.2.2.1 hX.1.lt).kp hk (fun e => by have := hX.1.lt; have := hE.2.2.1; omega)
set_option maxHeartbeats 16000000 in
set_option maxRecDepth 100000 in
theorem tells17_calls (x : RawD) (v : Value) (rw0 : List Int) (v1 : Value) (w : World) (hx : RawAt w x v) (hz : IntsV w rw0 v1) : Calls Try.prog 7 #[v, v1] w fun e w' => e = .returned (.bool true) ∧ Below w.heap.size w w' := by
  obtain ⟨gl, gr, cl, cr, rfl, hl, hr, hl1, hr1, hr2⟩ := hx
  obtain ⟨gc, cc, rfl, hc, hc1, hc2, hc3n⟩ := hz
  have hk0 := Bk.new w 75 [.int .i64 x.n, .int .i64 x.t, .int .i64 x.start, .slice gl x.left.length cl, .slice gr x.right.length cr]
  have hb0 : Below w.heap.size w (w.alloc (.cells #[.int .i64 x.n, .int .i64 x.t, .int .i64 x.start, .slice gl x.left.length cl, .slice gr x.right.length cr] 75)) := (Below.refl _ w).alloc (Nat.le_refl _) _
  go_enter Try.func7, Try.ntmps7
  go_upto_region 1 with fail
  obtain ⟨wa, hwa⟩ : ∃ wa, wa = (w.alloc (.cells #[.int .i64 x.n, .int .i64 x.t, .int .i64 x.start, .slice gl x.left.length cl, .slice gr x.right.length cr] 75)) := ⟨_, rfl⟩
  rw [← hwa] at hk0 hb0 ⊢
  clear hwa
  go_upto_region 3 with (go_at_call 40; refine (speaks17_calls _).mono ?_; rintro e w1 ⟨rfl, hb1⟩)
  have hk1 := hk0.below hb1 hk0.lt
  have hbw1 : Below w.heap.size w w1 := hb0.trans (hb1.mono hb0.size)
  have hl2 : RowI w1 w1.heap.size gl x.left := (hl.below hbw1).mono hbw1.size
  have hrr2 : RowII w1 w1.heap.size gr x.right := (hr.below hbw1).mono hbw1.size
  have hc2' : RowI w1 w1.heap.size gc rw0 := (hc.below hbw1).mono hbw1.size
  have c0 := hk1.cell 0
  have c1 := hk1.cell 1
  have c2 := hk1.cell 2
  have c3 := hk1.cell 3
  have c4 := hk1.cell 4
  simp only [List.getElem?_cons_zero, List.getElem?_cons_succ] at c0 c1 c2 c3 c4
  clear hk0 hb0 hb1 hl hr hc
  go_upto_region 4 with (go_at_call 41; refine (made17_calls x gl gr cl cr _ hl2 hrr2 hl1 hr1 hr2).mono ?_; rintro e w2 ⟨N, T, hN1, hN8, hT3, gn, gt, gp, gn', gt', gp', cn, ct, cp, cn', ct', cp', rfl, hg, hg', hb2⟩; unfold gramV)
  obtain ⟨G, hG⟩ : ∃ G, G = Mk.gram N T 12 4 x := ⟨_, rfl⟩
  have hsd : Pl.soundB G = true := by rw [hG]; exact Mk.gram_sound x hN1 (by omega) (by omega) (by omega) (by omega)
  rw [← hG] at hg hg' ⊢
  have hbw2 : Below w.heap.size w w2 := hbw1.trans (hb2.mono hbw1.size)
  have hc3 : RowI w2 w2.heap.size gc rw0 := (hc2'.below hb2).mono hb2.size
  have hTl : G.terms.length = T := by rw [hG]; exact Mk.letters_length 97 T
  have hT1000 : T ≤ 1000 := by omega
  clear hG hN1 hT3 hl2 hrr2 hl1 hr1 hr2 c0 c1 c2 c3 c4 hk1 hbw1 hb2 hc2'
  have hb3 : Below w2.heap.size w2 ((w2.alloc (.cells #[.int .i64 G.start, .int .i64 G.rules, .slice gn G.names.length cn, .slice gt G.terms.length ct, .slice gp G.prods.length cp] 30)).alloc (.cells #[.int .i64 G.start, .int .i64 G.rules, .slice gn' G.names.length cn', .slice gt' G.terms.length ct', .slice gp' G.prods.length cp'] 33)) := bel_al (bel_al (bel_id w2) _) _
  have kp1 := (Bk.new w2 30 [.int .i64 G.start, .int .i64 G.rules, .slice gn G.names.length cn, .slice gt G.terms.length ct, .slice gp G.prods.length cp]).alloc (.cells #[.int .i64 G.start, .int .i64 G.rules, .slice gn' G.names.length cn', .slice gt' G.terms.length ct', .slice gp' G.prods.length cp'] 33)
  have kq1 := bk_at (Bk.new (w2.alloc (.cells #[.int .i64 G.start, .int .i64 G.rules, .slice gn G.names.length cn, .slice gt G.terms.length ct, .slice gp G.prods.length cp] 30)) 33 [.int .i64 G.start, .int .i64 G.rules, .slice gn' G.names.length cn', .slice gt' G.terms.length ct', .slice gp' G.prods.length cp']) (show _ = w2.heap.size + 1 by simp)
  obtain ⟨w3, hw3⟩ : ∃ w3, w3 = ((w2.alloc (.cells #[.int .i64 G.start, .int .i64 G.rules, .slice gn G.names.length cn, .slice gt G.terms.length ct, .slice gp G.prods.length cp] 30)).alloc (.cells #[.int .i64 G.start, .int .i64 G.rules, .slice gn' G.names.length cn', .slice gt' G.terms.length ct', .slice gp' G.prods.length cp'] 33)) := ⟨_, rfl⟩
  obtain ⟨bp, hbp⟩ : ∃ bp, bp = w2.heap.size := ⟨_, rfl⟩
  obtain ⟨bq, hbq⟩ : ∃ bq, bq = bp + 1 := ⟨_, rfl⟩
  rw [← hw3] at kp1 kq1 hb3 ⊢
  rw [← hbp] at kp1 kq1 ⊢
  rw [← hbq] at kq1 ⊢
  have hg3 := hg.later hb3
  have hg3' := hg'.later hb3
  have hc4 : RowI w3 w3.heap.size gc rw0 := (hc3.below hb3).mono hb3.size
  have hbw3 := belw hbw2 hb3
  have q3 := kq1.cell 3
  simp only [List.getElem?_cons_zero, List.getElem?_cons_succ] at q3
  rw [hTl] at q3
  have hwc : Calls Try.prog 42 #[.slice gc rw0.length cc, .int .i64 T, .int .i64 4] w3 (WordSaid w3 4 T) := word17_calls w3 gc cc rw0 hc4 (by omega) T 4 hT1000 (by omega)
  have Hwc := hid hwc
  have Hsd := hid hsd
  have Hsn := hid (sndG hsd)
  have HT := hid hTl
  have H3 := hid (And.intro kp1 (And.intro kq1 (And.intro hg3 (And.intro hg3' hbw3))))
  clear hw3 hbp hbq hg hg' hc3 hb3 hbw2 hwc hsd hTl kp1 kq1 hg3 hg3' hbw3 hc4 hc1 hc2 hc3n
  go_upto_region 5 with (go_at_call 42; refine Hwc.out.mono ?_; rintro e w4 ⟨ga, cap, l, rfl, hrow, hcap, hnil, hl4, hlz, hb4⟩)
  clear q3
  have kp4 := H3.out.1.below hb4 H3.out.1.lt
  have hgood : l.any (badT G.terms.length) = false := by
    rw [List.any_eq_false]
    intro z hz
    have := hlz z hz
    have := HT.out
    simp [badT]
    omega
  have hE : Env G.prods l := ⟨Hsn.out.l0, Hsn.out.r16, Hsn.out.p1, by omega⟩
  have hmk := make_any w4 G gn gt gp cn ct cp (H3.out.2.2.1.later hb4) Hsd.out ga cap l hrow (by omega) hgood hnil l.length rfl
  have Hmk := hid hmk
  have HE0 := hid hE
  have H4 := hid (And.intro hb4 (And.intro hrow (And.intro hcap (And.intro hnil hlz))))
  have c0 := kp4.cell 0
  have c1 := kp4.cell 1
  have c2 := kp4.cell 2
  have c3 := kp4.cell 3
  have c4 := kp4.cell 4
  simp only [List.getElem?_cons_zero, List.getElem?_cons_succ] at c0 c1 c2 c3 c4
  clear hb4 hrow hcap hnil hlz hgood hE hmk kp4 Hwc
  go_upto_region 6 with (go_at_call 43; refine Hmk.out.mono ?_; rintro e w5 ⟨c, Xs, rfl, hch, hsets, hb5⟩)
  obtain ⟨L, hL⟩ : ∃ L, L = l.length := ⟨_, rfl⟩
  have hL4 : L ≤ 4 := by omega
  have hLcap : L ≤ cap := by rw [hL]; exact H4.out.2.2.1
  have hb35 := belw H4.out.1 hb5
  have hbw5 := belw H3.out.2.2.2.2 hb35
  have kq5 := H3.out.2.1.below hb35 H3.out.2.1.lt
  have hG5 := H3.out.2.2.2.1.later hb35
  have hl5 := (H4.out.2.1.below hb5).mono hb5.size
  have hQ : ∀ W, Below w5.heap.size w5 W → W.cell? ⟨bq, 0, none⟩ = some (.int .i64 G.start) ∧ W.cell? ⟨bq, 1, none⟩ = some (.int .i64 G.rules) ∧ W.cell? ⟨bq, 2, none⟩ = some (.slice gn' G.names.length cn') ∧ W.cell? ⟨bq, 3, none⟩ = some (.slice gt' G.terms.length ct') ∧ W.cell? ⟨bq, 4, none⟩ = some (.slice gp' G.prods.length cp') := fun W hW => by
    have k := kq5.below hW kq5.lt
    exact ⟨k.cell 0, k.cell 1, k.cell 2, k.cell 3, k.cell 4⟩
  have hbegin : ∀ W, Below w5.heap.size w5 W → ∀ n, n ≤ L → Calls Try.prog 44 #[.agg #[.int .i64 G.start, .int .i64 G.rules, .slice gn' G.names.length cn', .slice gt' G.terms.length ct', .slice gp' G.prods.length cp'], .slice ga n cap] W (BegSaid W G.prods G.start (l.take n)) := fun W hW n hn => by
    have hln : (l.take n).length = n := by rw [List.length_take]; omega
    have h := begins_calls W G gn' gt' gp' cn' ct' cp' (hG5.later hW) Hsd.out ga cap (l.take n) (row_takeB ((hl5.below hW).mono hW.size) n) (by omega) (by omega) H4.out.2.2.2.1
    rwa [hln] at h
  have hbeg2 : ∀ W, Below w5.heap.size w5 W → ∀ (gC cC n t B0 : Nat), n ≤ L → W.ownsRow B0 3 1 (.slice (some ⟨gC, 0, none⟩) (n + 1) cC) (n + 1) ((l.take n ++ [(t : Int)]).map (Value.int .i64)) → Calls Try.prog 44 #[.agg #[.int .i64 G.start, .int .i64 G.rules, .slice gn' G.names.length cn', .slice gt' G.terms.length ct', .slice gp' G.prods.length cp'], .slice (some ⟨gC, 0, none⟩) (n + 1) cC] W (BegSaid W G.prods G.start (l.take n ++ [(t : Int)])) := fun W hW gC cC n t B0 hn ho => by
    have hln : (l.take n ++ [(t : Int)]).length = n + 1 := by rw [List.length_append, List.length_take, List.length_singleton]; omega
    have hr := own_room ho _ _ _ rfl
    obtain ⟨ga', ca', hv, hrow⟩ := own_rowI (zs := l.take n ++ [(t : Int)]) ho
    injection hv with e1 e2 e3
    have h := begins_calls W G gn' gt' gp' cn' ct' cp' (hG5.later hW) Hsd.out (some ⟨gC, 0, none⟩) cC (l.take n ++ [(t : Int)]) (by rw [e1]; exact hrow) (by omega) (by rw [hln]; exact hr.1) hr.2
    rwa [hln] at h
  have hder : ∀ W, Below w5.heap.size w5 W → ∀ n, n ≤ L → Calls Try.prog 46 #[.agg #[.int .i64 G.start, .int .i64 G.rules, .slice gn' G.names.length cn', .slice gt' G.terms.length ct', .slice gp' G.prods.length cp'], .slice ga n cap] W (DerSaid W G.prods G.start (l.take n)) := fun W hW n hn => by
    have hln : (l.take n).length = n := by rw [List.length_take]; omega
    have h := derives_calls W G gn' gt' gp' cn' ct' cp' (hG5.later hW) Hsd.out ga cap (l.take n) (row_takeB ((hl5.below hW).mono hW.size) n) (by omega)
    rwa [hln] at h
  have hderL : ∀ W, Below w5.heap.size w5 W → Calls Try.prog 46 #[.agg #[.int .i64 G.start, .int .i64 G.rules, .slice gn' G.names.length cn', .slice gt' G.terms.length ct', .slice gp' G.prods.length cp'], .slice ga L cap] W (DerSaid W G.prods G.start l) := fun W hW => by
    have h := hder W hW L (Nat.le_refl _)
    rwa [hL, List.take_length, ← hL] at h
  have hends : ∀ W, Below w5.heap.size w5 W → ∀ n : Int, Calls Try.prog 45 #[.pointer (some ⟨c, 0, none⟩), .int .i64 n] W (EndsSaid W G.prods G.start l n) := fun W hW n => ends_some W c G l Xs n (hch.later hW) hsets HE0.out Hsn.out.s0
  have hnext : ∀ W, Below w5.heap.size w5 W → ∀ n : Int, Calls Try.prog 49 #[.pointer (some ⟨c, 0, none⟩), .int .i64 n] W (NextSaid W G.prods G.start l n) := fun W hW n => nexts_some W c G l Xs n (hch.later hW) hsets HE0.out Hsn.out.s0 (fun y hy s hs => by have := Hsn.out.r0 y hy s hs; have := Hsn.out.t1; omega)
  have hyes : ∀ W, Below w5.heap.size w5 W → Calls Try.prog 48 #[.pointer (some ⟨c, 0, none⟩)] W (YesSaid W G.prods G.start l) := fun W hW => yes_some W c G l Xs (hch.later hW) hsets HE0.out Hsn.out.s0
  have HQ := hid hQ
  have Hbeg := hid hbegin
  have Hbeg2 := hid hbeg2
  have Hder := hid hder
  have HderL := hid hderL
  have Hends := hid hends
  have Hnext := hid hnext
  have Hyes := hid hyes
  have H5 := hid (And.intro hl5 (And.intro hch (And.intro hsets hbw5)))
  have HL := hid hL
  rw [← hL]
  clear hQ hbegin hbeg2 hder hderL hends hnext hyes hb35 hbw5 kq5 hG5 hl5 hch hsets hb5 hL c0 c1 c2 c3 c4 Hmk
  go_wp2_with fail
  go_loopg [9, 10] (L + 1) (fun k v9 v10 wr => TL1 w5 G.prods G.start l L k v9 v10 wr)
  case atStart => exact ⟨0, -1, rfl, rfl, by omega, by omega, by omega, fun n hn => by omega, rfl, Below.refl _ _⟩
  case round =>
    obtain ⟨i, g, rfl, rfl, hi, hg0, hgi, hg, hk, hb⟩ := hrel
    have H1 := hid (And.intro hg (And.intro hk hb))
    clear hg hk hb
    have hb00 : Below w5.heap.size w5 wr.drew := below_drewN H1.out.2.2 1
    have Hb0 := hid hb00
    clear hb00
    by_cases hiL : i ≤ L
    · have hiLI : (i : Int) ≤ (L : Int) := by omega
      have hicap : (i : Int) ≤ (cap : Int) := by omega
      have hi0 : (0 : Int) ≤ (i : Int) := by omega
      go_upto_region 10 with fail
      obtain ⟨W0, hW0⟩ : ∃ W0, W0 = wr.drew := ⟨_, rfl⟩
      have HW0 := hid hW0
      have H00 := hid (show Below w5.heap.size w5 W0 by rw [hW0]; exact Hb0.out)
      clear hW0
      refine wp_region_held_drew (S := fun W : World => W.cell? ⟨bq, 0, none⟩ = some (.int .i64 G.start) ∧ W.cell? ⟨bq, 1, none⟩ = some (.int .i64 G.rules) ∧ W.cell? ⟨bq, 2, none⟩ = some (.slice gn' G.names.length cn') ∧ W.cell? ⟨bq, 3, none⟩ = some (.slice gt' G.terms.length ct') ∧ W.cell? ⟨bq, 4, none⟩ = some (.slice gp' G.prods.length cp')) (by kernel_rfl) (by rw [← HW0.out]; exact HQ.out _ H00.out) (fun hHeld => ?_)
      rw [← HW0.out] at hHeld ⊢
      refine wpAnyH_take (i := 0) (oi := ({ dst := some 36, op := Op.load 33 (Operand.tmp 6), type := 33, pos := "law.go:81", after := #[], guard := none } : Oper)) (v := ?_) rfl (by kernel_rfl) (by kernel_rfl) (by kernel_rfl) (fun _ _ _ h => h) (Or.inl ⟨by kernel_rfl, ?_⟩) (by assumption) ?_
      rotate_left
      · intro w hSw
        try dsimp only at hSw
        go_simp
        try with_reducible rfl
      try simp only [Act.put, List.setIfInBounds_toArray, List.set_cons_zero, List.set_cons_succ]
      refine wpAnyH_take (i := 1) (oi := ({ dst := some 37, op := Op.move (Operand.tmp 7), type := 22, pos := "law.go:81", after := #[], guard := none } : Oper)) (v := ?_) rfl (by kernel_rfl) (by kernel_rfl) (by kernel_rfl) (fun _ _ _ h => h) (Or.inl ⟨by kernel_rfl, ?_⟩) (by assumption) ?_
      rotate_left
      · intro w hSw
        try dsimp only at hSw
        go_simp
        try with_reducible rfl
      try simp only [Act.put, List.setIfInBounds_toArray, List.set_cons_zero, List.set_cons_succ]
      refine wpAnyH_take (i := 2) (oi := ({ dst := some 38, op := Op.move (Operand.tmp 10), type := 3, pos := "law.go:81", after := #[], guard := none } : Oper)) (v := ?_) rfl (by kernel_rfl) (by kernel_rfl) (by kernel_rfl) (fun _ _ _ h => h) (Or.inl ⟨by kernel_rfl, ?_⟩) (by assumption) ?_
      rotate_left
      · intro w hSw
        try dsimp only at hSw
        go_simp
        try with_reducible rfl
      try simp only [Act.put, List.setIfInBounds_toArray, List.set_cons_zero, List.set_cons_succ]
      refine wpAnyH_take (i := 3) (oi := ({ dst := some 39, op := Op.slice 22 (Operand.tmp 37) none (some (Operand.tmp 38)) none, type := 22, pos := "law.go:81", after := #[{ on := 1, ground := Ground.data }, { on := 2, ground := Ground.data }], guard := none } : Oper)) (v := ?_) rfl (by kernel_rfl) (by kernel_rfl) (by kernel_rfl) (fun _ _ _ h => h) (Or.inl ⟨by kernel_rfl, ?_⟩) (by assumption) ?_
      rotate_left
      · intro w hSw
        try dsimp only at hSw
        go_simp
        try with_reducible rfl
      try simp only [Act.put, List.setIfInBounds_toArray, List.set_cons_zero, List.set_cons_succ]
      refine wpAnyH_ready (rs := [4]) (by kernel_rfl) (by simp) ?_
      refine AllReadyH.cons (o := ({ dst := some 40, op := Op.call { callee := Callee.value (Operand.func 44), args := #[Operand.tmp 36, Operand.tmp 39], argTypes := #[33, 22] }, type := 4, pos := "law.go:81", after := #[{ on := 0, ground := Ground.data }, { on := 3, ground := Ground.data }], guard := none } : Oper)) rfl (fun K hK => ?_) AllReadyH.nil
      go_simp
      go_at_call 44
      refine (Hbeg.out _ H00.out i hiL).mono ?_
      rintro e wB ⟨b, rfl, hbp, hbB⟩
      have HbB := hid (And.intro hbp (belw H00.out hbB))
      clear hbp hbB
      refine hK.out _ _ (HQ.out _ HbB.out.2) (fun hH2 => ?_)
      clear hK K hHeld
      have hHeld := hH2
      clear hH2
      try simp only [Act.put, List.setIfInBounds_toArray, List.set_cons_zero, List.set_cons_succ]
      refine wpAnyH_done (by kernel_rfl) ?_ _
      by_cases hP : Pre G.prods [G.start] (l.take i)
      · have hbt := HbB.out.1.2 hP
        subst hbt
        have HP := hid hP
        clear hP
        go_upto_region 12 with fail
        obtain ⟨W0, hW0⟩ : ∃ W0, W0 = wB.drew := ⟨_, rfl⟩
        have HW0 := hid hW0
        have H00 := hid (show Below w5.heap.size w5 W0 by rw [hW0]; exact (below_drewN HbB.out.2 1))
        clear hW0
        refine wp_region_held_drew (S := fun W : World => W.cell? ⟨bq, 0, none⟩ = some (.int .i64 G.start) ∧ W.cell? ⟨bq, 1, none⟩ = some (.int .i64 G.rules) ∧ W.cell? ⟨bq, 2, none⟩ = some (.slice gn' G.names.length cn') ∧ W.cell? ⟨bq, 3, none⟩ = some (.slice gt' G.terms.length ct') ∧ W.cell? ⟨bq, 4, none⟩ = some (.slice gp' G.prods.length cp')) (by kernel_rfl) (by rw [← HW0.out]; exact HQ.out _ H00.out) (fun hHeld => ?_)
        rw [← HW0.out] at hHeld ⊢
        refine wpAnyH_take (i := 0) (oi := ({ dst := some 42, op := Op.move (Operand.tmp 8), type := 78, pos := "law.go:84", after := #[], guard := none } : Oper)) (v := ?_) rfl (by kernel_rfl) (by kernel_rfl) (by kernel_rfl) (fun _ _ _ h => h) (Or.inl ⟨by kernel_rfl, ?_⟩) (by assumption) ?_
        rotate_left
        · intro w hSw
          try dsimp only at hSw
          go_simp
          try with_reducible rfl
        try simp only [Act.put, List.setIfInBounds_toArray, List.set_cons_zero, List.set_cons_succ]
        refine wpAnyH_take (i := 1) (oi := ({ dst := some 43, op := Op.move (Operand.tmp 10), type := 3, pos := "law.go:84", after := #[], guard := none } : Oper)) (v := ?_) rfl (by kernel_rfl) (by kernel_rfl) (by kernel_rfl) (fun _ _ _ h => h) (Or.inl ⟨by kernel_rfl, ?_⟩) (by assumption) ?_
        rotate_left
        · intro w hSw
          try dsimp only at hSw
          go_simp
          try with_reducible rfl
        try simp only [Act.put, List.setIfInBounds_toArray, List.set_cons_zero, List.set_cons_succ]
        refine wpAnyH_take (i := 3) (oi := ({ dst := some 45, op := Op.load 33 (Operand.tmp 6), type := 33, pos := "law.go:84", after := #[], guard := none } : Oper)) (v := ?_) rfl (by kernel_rfl) (by kernel_rfl) (by kernel_rfl) (fun _ _ _ h => h) (Or.inl ⟨by kernel_rfl, ?_⟩) (by assumption) ?_
        rotate_left
        · intro w hSw
          try dsimp only at hSw
          go_simp
          try with_reducible rfl
        try simp only [Act.put, List.setIfInBounds_toArray, List.set_cons_zero, List.set_cons_succ]
        refine wpAnyH_take (i := 4) (oi := ({ dst := some 46, op := Op.move (Operand.tmp 7), type := 22, pos := "law.go:84", after := #[], guard := none } : Oper)) (v := ?_) rfl (by kernel_rfl) (by kernel_rfl) (by kernel_rfl) (fun _ _ _ h => h) (Or.inl ⟨by kernel_rfl, ?_⟩) (by assumption) ?_
        rotate_left
        · intro w hSw
          try dsimp only at hSw
          go_simp
          try with_reducible rfl
        try simp only [Act.put, List.setIfInBounds_toArray, List.set_cons_zero, List.set_cons_succ]
        refine wpAnyH_take (i := 5) (oi := ({ dst := some 47, op := Op.move (Operand.tmp 10), type := 3, pos := "law.go:84", after := #[], guard := none } : Oper)) (v := ?_) rfl (by kernel_rfl) (by kernel_rfl) (by kernel_rfl) (fun _ _ _ h => h) (Or.inl ⟨by kernel_rfl, ?_⟩) (by assumption) ?_
        rotate_left
        · intro w hSw
          try dsimp only at hSw
          go_simp
          try with_reducible rfl
        try simp only [Act.put, List.setIfInBounds_toArray, List.set_cons_zero, List.set_cons_succ]
        refine wpAnyH_take (i := 6) (oi := ({ dst := some 48, op := Op.slice 22 (Operand.tmp 46) none (some (Operand.tmp 47)) none, type := 22, pos := "law.go:84", after := #[{ on := 4, ground := Ground.data }, { on := 5, ground := Ground.data }], guard := none } : Oper)) (v := ?_) rfl (by kernel_rfl) (by kernel_rfl) (by kernel_rfl) (fun _ _ _ h => h) (Or.inl ⟨by kernel_rfl, ?_⟩) (by assumption) ?_
        rotate_left
        · intro w hSw
          try dsimp only at hSw
          go_simp
          try with_reducible rfl
        try simp only [Act.put, List.setIfInBounds_toArray, List.set_cons_zero, List.set_cons_succ]
        refine wpAnyH_ready (rs := [2]) (by kernel_rfl) (by simp) ?_
        refine AllReadyH.cons (o := ({ dst := some 44, op := Op.call { callee := Callee.value (Operand.func 45), args := #[Operand.tmp 42, Operand.tmp 43], argTypes := #[78, 3] }, type := 4, pos := "law.go:84", after := #[{ on := 0, ground := Ground.data }, { on := 1, ground := Ground.data }], guard := none } : Oper)) rfl (fun K hK => ?_) AllReadyH.nil
        go_simp
        go_at_call 45
        refine (Hends.out _ H00.out (i : Int)).mono ?_
        rintro e wE ⟨b1, rfl, hb1, hbE⟩
        have HbE := hid (And.intro hb1 (belw H00.out hbE))
        clear hb1 hbE
        refine hK.out _ _ (HQ.out _ HbE.out.2) (fun hH2 => ?_)
        clear hK K hHeld
        have hHeld := hH2
        clear hH2
        try simp only [Act.put, List.setIfInBounds_toArray, List.set_cons_zero, List.set_cons_succ]
        refine wpAnyH_ready (rs := [7]) (by kernel_rfl) (by simp) ?_
        refine AllReadyH.cons (o := ({ dst := some 49, op := Op.call { callee := Callee.value (Operand.func 46), args := #[Operand.tmp 45, Operand.tmp 48], argTypes := #[33, 22] }, type := 4, pos := "law.go:84", after := #[{ on := 3, ground := Ground.data }, { on := 6, ground := Ground.data }, { on := 2, ground := Ground.chain }], guard := none } : Oper)) rfl (fun K hK => ?_) AllReadyH.nil
        go_simp
        go_at_call 46
        refine (Hder.out _ HbE.out.2 i hiL).mono ?_
        rintro e wD ⟨b2, rfl, hb2, hbD⟩
        have hbb : b2 = b1 := bool_iff (hb2.trans (dw_iff.symm.trans (ends_at HbE.out.1 hiL HL.out).symm))
        subst hbb
        have HbD := hid (belw HbE.out.2 hbD)
        clear hb2 hbD
        refine hK.out _ _ (HQ.out _ HbD.out) (fun hH2 => ?_)
        clear hK K hHeld
        have hHeld := hH2
        clear hH2
        try simp only [Act.put, List.setIfInBounds_toArray, List.set_cons_zero, List.set_cons_succ]
        refine wpAnyH_take (i := 8) (oi := ({ dst := some 50, op := Op.binOp BinOp.neq 4 (Operand.tmp 44) (Operand.tmp 49) 4, type := 4, pos := "law.go:84", after := #[{ on := 2, ground := Ground.data }, { on := 7, ground := Ground.data }], guard := none } : Oper)) (v := ?_) rfl (by kernel_rfl) (by kernel_rfl) (by kernel_rfl) (fun _ _ _ h => h) (Or.inl ⟨by kernel_rfl, ?_⟩) (by assumption) ?_
        rotate_left
        · intro w hSw
          try dsimp only at hSw
          go_simp
          try with_reducible rfl
        try simp only [Act.put, List.setIfInBounds_toArray, List.set_cons_zero, List.set_cons_succ]
        refine wpAnyH_done (by kernel_rfl) ?_ _
        go_wp2_with fail
        go_roundg (L + 1 - (i + 1))
        case measure => have := H1.out.2.1; omega
        case rel => exact ⟨i + 1, (i : Int), by go_num, rfl, by omega, by omega, by omega, TL1_yes HP.out, rfl, HbD.out⟩
      · have hbt : b = false := by
          cases b with
          | false => rfl
          | true => exact absurd (HbB.out.1.1 rfl) hP
        subst hbt
        have HP := hid hP
        clear hP
        go_upto_region 12 with fail
        obtain ⟨W0, hW0⟩ : ∃ W0, W0 = wB.drew := ⟨_, rfl⟩
        have HW0 := hid hW0
        have H00 := hid (show Below w5.heap.size w5 W0 by rw [hW0]; exact (below_drewN HbB.out.2 1))
        clear hW0
        refine wp_region_held_drew (S := fun W : World => W.cell? ⟨bq, 0, none⟩ = some (.int .i64 G.start) ∧ W.cell? ⟨bq, 1, none⟩ = some (.int .i64 G.rules) ∧ W.cell? ⟨bq, 2, none⟩ = some (.slice gn' G.names.length cn') ∧ W.cell? ⟨bq, 3, none⟩ = some (.slice gt' G.terms.length ct') ∧ W.cell? ⟨bq, 4, none⟩ = some (.slice gp' G.prods.length cp')) (by kernel_rfl) (by rw [← HW0.out]; exact HQ.out _ H00.out) (fun hHeld => ?_)
        rw [← HW0.out] at hHeld ⊢
        refine wpAnyH_take (i := 0) (oi := ({ dst := some 42, op := Op.move (Operand.tmp 8), type := 78, pos := "law.go:84", after := #[], guard := none } : Oper)) (v := ?_) rfl (by kernel_rfl) (by kernel_rfl) (by kernel_rfl) (fun _ _ _ h => h) (Or.inl ⟨by kernel_rfl, ?_⟩) (by assumption) ?_
        rotate_left
        · intro w hSw
          try dsimp only at hSw
          go_simp
          try with_reducible rfl
        try simp only [Act.put, List.setIfInBounds_toArray, List.set_cons_zero, List.set_cons_succ]
        refine wpAnyH_take (i := 1) (oi := ({ dst := some 43, op := Op.move (Operand.tmp 10), type := 3, pos := "law.go:84", after := #[], guard := none } : Oper)) (v := ?_) rfl (by kernel_rfl) (by kernel_rfl) (by kernel_rfl) (fun _ _ _ h => h) (Or.inl ⟨by kernel_rfl, ?_⟩) (by assumption) ?_
        rotate_left
        · intro w hSw
          try dsimp only at hSw
          go_simp
          try with_reducible rfl
        try simp only [Act.put, List.setIfInBounds_toArray, List.set_cons_zero, List.set_cons_succ]
        refine wpAnyH_take (i := 3) (oi := ({ dst := some 45, op := Op.load 33 (Operand.tmp 6), type := 33, pos := "law.go:84", after := #[], guard := none } : Oper)) (v := ?_) rfl (by kernel_rfl) (by kernel_rfl) (by kernel_rfl) (fun _ _ _ h => h) (Or.inl ⟨by kernel_rfl, ?_⟩) (by assumption) ?_
        rotate_left
        · intro w hSw
          try dsimp only at hSw
          go_simp
          try with_reducible rfl
        try simp only [Act.put, List.setIfInBounds_toArray, List.set_cons_zero, List.set_cons_succ]
        refine wpAnyH_take (i := 4) (oi := ({ dst := some 46, op := Op.move (Operand.tmp 7), type := 22, pos := "law.go:84", after := #[], guard := none } : Oper)) (v := ?_) rfl (by kernel_rfl) (by kernel_rfl) (by kernel_rfl) (fun _ _ _ h => h) (Or.inl ⟨by kernel_rfl, ?_⟩) (by assumption) ?_
        rotate_left
        · intro w hSw
          try dsimp only at hSw
          go_simp
          try with_reducible rfl
        try simp only [Act.put, List.setIfInBounds_toArray, List.set_cons_zero, List.set_cons_succ]
        refine wpAnyH_take (i := 5) (oi := ({ dst := some 47, op := Op.move (Operand.tmp 10), type := 3, pos := "law.go:84", after := #[], guard := none } : Oper)) (v := ?_) rfl (by kernel_rfl) (by kernel_rfl) (by kernel_rfl) (fun _ _ _ h => h) (Or.inl ⟨by kernel_rfl, ?_⟩) (by assumption) ?_
        rotate_left
        · intro w hSw
          try dsimp only at hSw
          go_simp
          try with_reducible rfl
        try simp only [Act.put, List.setIfInBounds_toArray, List.set_cons_zero, List.set_cons_succ]
        refine wpAnyH_take (i := 6) (oi := ({ dst := some 48, op := Op.slice 22 (Operand.tmp 46) none (some (Operand.tmp 47)) none, type := 22, pos := "law.go:84", after := #[{ on := 4, ground := Ground.data }, { on := 5, ground := Ground.data }], guard := none } : Oper)) (v := ?_) rfl (by kernel_rfl) (by kernel_rfl) (by kernel_rfl) (fun _ _ _ h => h) (Or.inl ⟨by kernel_rfl, ?_⟩) (by assumption) ?_
        rotate_left
        · intro w hSw
          try dsimp only at hSw
          go_simp
          try with_reducible rfl
        try simp only [Act.put, List.setIfInBounds_toArray, List.set_cons_zero, List.set_cons_succ]
        refine wpAnyH_ready (rs := [2]) (by kernel_rfl) (by simp) ?_
        refine AllReadyH.cons (o := ({ dst := some 44, op := Op.call { callee := Callee.value (Operand.func 45), args := #[Operand.tmp 42, Operand.tmp 43], argTypes := #[78, 3] }, type := 4, pos := "law.go:84", after := #[{ on := 0, ground := Ground.data }, { on := 1, ground := Ground.data }], guard := none } : Oper)) rfl (fun K hK => ?_) AllReadyH.nil
        go_simp
        go_at_call 45
        refine (Hends.out _ H00.out (i : Int)).mono ?_
        rintro e wE ⟨b1, rfl, hb1, hbE⟩
        have HbE := hid (And.intro hb1 (belw H00.out hbE))
        clear hb1 hbE
        refine hK.out _ _ (HQ.out _ HbE.out.2) (fun hH2 => ?_)
        clear hK K hHeld
        have hHeld := hH2
        clear hH2
        try simp only [Act.put, List.setIfInBounds_toArray, List.set_cons_zero, List.set_cons_succ]
        refine wpAnyH_ready (rs := [7]) (by kernel_rfl) (by simp) ?_
        refine AllReadyH.cons (o := ({ dst := some 49, op := Op.call { callee := Callee.value (Operand.func 46), args := #[Operand.tmp 45, Operand.tmp 48], argTypes := #[33, 22] }, type := 4, pos := "law.go:84", after := #[{ on := 3, ground := Ground.data }, { on := 6, ground := Ground.data }, { on := 2, ground := Ground.chain }], guard := none } : Oper)) rfl (fun K hK => ?_) AllReadyH.nil
        go_simp
        go_at_call 46
        refine (Hder.out _ HbE.out.2 i hiL).mono ?_
        rintro e wD ⟨b2, rfl, hb2, hbD⟩
        have hbb : b2 = b1 := bool_iff (hb2.trans (dw_iff.symm.trans (ends_at HbE.out.1 hiL HL.out).symm))
        subst hbb
        have HbD := hid (belw HbE.out.2 hbD)
        clear hb2 hbD
        refine hK.out _ _ (HQ.out _ HbD.out) (fun hH2 => ?_)
        clear hK K hHeld
        have hHeld := hH2
        clear hH2
        try simp only [Act.put, List.setIfInBounds_toArray, List.set_cons_zero, List.set_cons_succ]
        refine wpAnyH_take (i := 8) (oi := ({ dst := some 50, op := Op.binOp BinOp.neq 4 (Operand.tmp 44) (Operand.tmp 49) 4, type := 4, pos := "law.go:84", after := #[{ on := 2, ground := Ground.data }, { on := 7, ground := Ground.data }], guard := none } : Oper)) (v := ?_) rfl (by kernel_rfl) (by kernel_rfl) (by kernel_rfl) (fun _ _ _ h => h) (Or.inl ⟨by kernel_rfl, ?_⟩) (by assumption) ?_
        rotate_left
        · intro w hSw
          try dsimp only at hSw
          go_simp
          try with_reducible rfl
        try simp only [Act.put, List.setIfInBounds_toArray, List.set_cons_zero, List.set_cons_succ]
        refine wpAnyH_done (by kernel_rfl) ?_ _
        go_wp2_with fail
        go_roundg (L + 1 - (i + 1))
        case measure => have := H1.out.2.1; omega
        case rel => exact ⟨i + 1, g, by go_num, rfl, by omega, by omega, by omega, TL1_no H1.out.1 HP.out hgi, rfl, HbD.out⟩
    · have hiLI : ¬ (i : Int) ≤ (L : Int) := by omega
      have hXg : (Xs.length : Int) = g + 1 := xs_len H5.out.2.2.1 Hsn.out.l0 Hsn.out.s0 HL.out (fun n hn => H1.out.1 n (by omega)) hg0 (by omega)
      have hgd : ∀ W, Below w5.heap.size w5 W → Calls Try.prog 47 #[.pointer (some ⟨c, 0, none⟩)] W fun e w' => e = .returned (.int .i64 g) ∧ W = w' := fun W hW => by
        have h := good_some W c G l Xs (H5.out.2.1.later hW) (by omega)
        rwa [hXg, Int.add_sub_cancel] at h
      have Hgood := hid hgd
      obtain ⟨g1, hg1⟩ : ∃ g1, g1 = g + 1 := ⟨_, rfl⟩
      have Hg := hid (And.intro (show ∀ n : Nat, n ≤ L → (Pre G.prods [G.start] (l.take n) ↔ (n : Int) ≤ g) from fun n hn => H1.out.1 n (by omega)) hg1)
      have hww := IntWalk.i64_in (g + 1) (by omega)
      have hww2 := IntWalk.i64_in ((L : Int) + 1) (by omega)
      rw [← hg1] at hww
      have Hww := hid (And.intro hww hww2)
      have hg1' := hg1.symm
      have Hg1 := hid hg1'
      clear hXg hgd hww hww2 hg1 hg1'
      go_upto_region 14 with fail
      have e1 := Hww.out.1
      have e2 := Hww.out.2
      have e3 := Hg1.out
      obtain ⟨W0, hW0⟩ : ∃ W0, W0 = wr.drew := ⟨_, rfl⟩
      have HW0 := hid hW0
      have H00 := hid (show Below w5.heap.size w5 W0 by rw [hW0]; exact Hb0.out)
      clear hW0
      refine wp_region_held_drew (S := fun W : World => W.cell? ⟨bq, 0, none⟩ = some (.int .i64 G.start) ∧ W.cell? ⟨bq, 1, none⟩ = some (.int .i64 G.rules) ∧ W.cell? ⟨bq, 2, none⟩ = some (.slice gn' G.names.length cn') ∧ W.cell? ⟨bq, 3, none⟩ = some (.slice gt' G.terms.length ct') ∧ W.cell? ⟨bq, 4, none⟩ = some (.slice gp' G.prods.length cp')) (by kernel_rfl) (by rw [← HW0.out]; exact HQ.out _ H00.out) (fun hHeld => ?_)
      rw [← HW0.out] at hHeld ⊢
      refine wpAnyH_take (i := 0) (oi := ({ dst := some 51, op := Op.move (Operand.tmp 8), type := 78, pos := "law.go:88", after := #[], guard := none } : Oper)) (v := ?_) rfl (by kernel_rfl) (by kernel_rfl) (by kernel_rfl) (fun _ _ _ h => h) (Or.inl ⟨by kernel_rfl, ?_⟩) (by assumption) ?_
      rotate_left
      · intro w hSw
        try dsimp only at hSw
        go_simp
        try with_reducible rfl
      try simp only [Act.put, List.setIfInBounds_toArray, List.set_cons_zero, List.set_cons_succ]
      refine wpAnyH_take (i := 2) (oi := ({ dst := some 53, op := Op.move (Operand.tmp 9), type := 3, pos := "law.go:88", after := #[], guard := none } : Oper)) (v := ?_) rfl (by kernel_rfl) (by kernel_rfl) (by kernel_rfl) (fun _ _ _ h => h) (Or.inl ⟨by kernel_rfl, ?_⟩) (by assumption) ?_
      rotate_left
      · intro w hSw
        try dsimp only at hSw
        go_simp
        try with_reducible rfl
      try simp only [Act.put, List.setIfInBounds_toArray, List.set_cons_zero, List.set_cons_succ]
      refine wpAnyH_ready (rs := [1]) (by kernel_rfl) (by simp) ?_
      refine AllReadyH.cons (o := ({ dst := some 52, op := Op.call { callee := Callee.value (Operand.func 47), args := #[Operand.tmp 51], argTypes := #[78] }, type := 3, pos := "law.go:88", after := #[{ on := 0, ground := Ground.data }], guard := none } : Oper)) rfl (fun K hK => ?_) AllReadyH.nil
      go_simp
      go_at_call 47
      refine (Hgood.out _ H00.out).mono ?_
      rintro e wg ⟨rfl, rfl⟩
      refine hK.out _ _ (HQ.out _ H00.out) (fun hH2 => ?_)
      clear hK K hHeld
      have hHeld := hH2
      clear hH2
      try simp only [Act.put, List.setIfInBounds_toArray, List.set_cons_zero, List.set_cons_succ]
      refine wpAnyH_take (i := 3) (oi := ({ dst := some 54, op := Op.binOp BinOp.neq 3 (Operand.tmp 52) (Operand.tmp 53) 3, type := 4, pos := "law.go:88", after := #[{ on := 1, ground := Ground.data }, { on := 2, ground := Ground.data }], guard := none } : Oper)) (v := ?_) rfl (by kernel_rfl) (by kernel_rfl) (by kernel_rfl) (fun _ _ _ h => h) (Or.inl ⟨by kernel_rfl, ?_⟩) (by assumption) ?_
      rotate_left
      · intro w hSw
        try dsimp only at hSw
        go_simp
        try with_reducible rfl
      try simp only [Act.put, List.setIfInBounds_toArray, List.set_cons_zero, List.set_cons_succ]
      refine wpAnyH_take (i := 4) (oi := ({ dst := some 55, op := Op.move (Operand.tmp 54), type := 4, pos := "law.go:88", after := #[{ on := 3, ground := Ground.data }, { on := 1, ground := Ground.chain }], guard := none } : Oper)) (v := ?_) rfl (by kernel_rfl) (by kernel_rfl) (by kernel_rfl) (fun _ _ _ h => h) (Or.inl ⟨by kernel_rfl, ?_⟩) (by assumption) ?_
      rotate_left
      · intro w hSw
        try dsimp only at hSw
        go_simp
        try with_reducible rfl
      try simp only [Act.put, List.setIfInBounds_toArray, List.set_cons_zero, List.set_cons_succ]
      refine wpAnyH_take (i := 5) (oi := ({ dst := some 56, op := Op.move (Operand.tmp 8), type := 78, pos := "law.go:88", after := #[{ on := 4, ground := Ground.guard }], guard := some (4, false) } : Oper)) (v := ?_) rfl (by kernel_rfl) (by kernel_rfl) (by kernel_rfl) (fun _ _ _ h => h) (Or.inl ⟨by kernel_rfl, ?_⟩) (by assumption) ?_
      rotate_left
      · intro w hSw
        try dsimp only at hSw
        go_simp
        try with_reducible rfl
      try simp only [Act.put, List.setIfInBounds_toArray, List.set_cons_zero, List.set_cons_succ]
      refine wpAnyH_take (i := 7) (oi := ({ dst := some 58, op := Op.load 33 (Operand.tmp 6), type := 33, pos := "law.go:88", after := #[{ on := 4, ground := Ground.guard }], guard := some (4, false) } : Oper)) (v := ?_) rfl (by kernel_rfl) (by kernel_rfl) (by kernel_rfl) (fun _ _ _ h => h) (Or.inl ⟨by kernel_rfl, ?_⟩) (by assumption) ?_
      rotate_left
      · intro w hSw
        try dsimp only at hSw
        go_simp
        try with_reducible rfl
      try simp only [Act.put, List.setIfInBounds_toArray, List.set_cons_zero, List.set_cons_succ]
      refine wpAnyH_take (i := 8) (oi := ({ dst := some 59, op := Op.move (Operand.tmp 7), type := 22, pos := "law.go:88", after := #[{ on := 4, ground := Ground.guard }], guard := some (4, false) } : Oper)) (v := ?_) rfl (by kernel_rfl) (by kernel_rfl) (by kernel_rfl) (fun _ _ _ h => h) (Or.inl ⟨by kernel_rfl, ?_⟩) (by assumption) ?_
      rotate_left
      · intro w hSw
        try dsimp only at hSw
        go_simp
        try with_reducible rfl
      try simp only [Act.put, List.setIfInBounds_toArray, List.set_cons_zero, List.set_cons_succ]
      refine wpAnyH_ready (rs := [6]) (by kernel_rfl) (by simp) ?_
      refine AllReadyH.cons (o := ({ dst := some 57, op := Op.call { callee := Callee.value (Operand.func 48), args := #[Operand.tmp 56], argTypes := #[78] }, type := 4, pos := "law.go:88", after := #[{ on := 5, ground := Ground.data }, { on := 4, ground := Ground.chain }, { on := 4, ground := Ground.guard }], guard := some (4, false) } : Oper)) rfl (fun K hK => ?_) AllReadyH.nil
      go_simp
      go_at_call 48
      refine (Hyes.out _ H00.out).mono ?_
      rintro e wY ⟨b1, rfl, hb1, hbY⟩
      have HbY := hid (And.intro hb1 (belw H00.out hbY))
      clear hb1 hbY
      refine hK.out _ _ (HQ.out _ HbY.out.2) (fun hH2 => ?_)
      clear hK K hHeld
      have hHeld := hH2
      clear hH2
      try simp only [Act.put, List.setIfInBounds_toArray, List.set_cons_zero, List.set_cons_succ]
      refine wpAnyH_ready (rs := [9]) (by kernel_rfl) (by simp) ?_
      refine AllReadyH.cons (o := ({ dst := some 60, op := Op.call { callee := Callee.value (Operand.func 46), args := #[Operand.tmp 58, Operand.tmp 59], argTypes := #[33, 22] }, type := 4, pos := "law.go:88", after := #[{ on := 7, ground := Ground.data }, { on := 8, ground := Ground.data }, { on := 6, ground := Ground.chain }, { on := 4, ground := Ground.guard }], guard := some (4, false) } : Oper)) rfl (fun K hK => ?_) AllReadyH.nil
      go_simp
      go_at_call 46
      refine (HderL.out _ HbY.out.2).mono ?_
      rintro e wD ⟨b2, rfl, hb2, hbD⟩
      have hbb : b2 = b1 := bool_iff (hb2.trans (dw_iff.symm.trans HbY.out.1.symm))
      subst hbb
      have HbD := hid (belw HbY.out.2 hbD)
      clear hb2 hbD
      refine hK.out _ _ (HQ.out _ HbD.out) (fun hH2 => ?_)
      clear hK K hHeld
      have hHeld := hH2
      clear hH2
      try simp only [Act.put, List.setIfInBounds_toArray, List.set_cons_zero, List.set_cons_succ]
      refine wpAnyH_take (i := 10) (oi := ({ dst := some 61, op := Op.binOp BinOp.neq 4 (Operand.tmp 57) (Operand.tmp 60) 4, type := 4, pos := "law.go:88", after := #[{ on := 6, ground := Ground.data }, { on := 9, ground := Ground.data }, { on := 4, ground := Ground.guard }], guard := some (4, false) } : Oper)) (v := ?_) rfl (by kernel_rfl) (by kernel_rfl) (by kernel_rfl) (fun _ _ _ h => h) (Or.inl ⟨by kernel_rfl, ?_⟩) (by assumption) ?_
      rotate_left
      · intro w hSw
        try dsimp only at hSw
        go_simp
        try with_reducible rfl
      try simp only [Act.put, List.setIfInBounds_toArray, List.set_cons_zero, List.set_cons_succ]
      refine wpAnyH_take (i := 11) (oi := ({ dst := some 62, op := Op.pick (Operand.tmp 55) (Operand.const (Value.bool true)) (Operand.tmp 61), type := 4, pos := "law.go:88", after := #[{ on := 4, ground := Ground.data }, { on := 10, ground := Ground.data }], guard := none } : Oper)) (v := ?_) rfl (by kernel_rfl) (by kernel_rfl) (by kernel_rfl) (fun _ _ _ h => h) (Or.inl ⟨by kernel_rfl, ?_⟩) (by assumption) ?_
      rotate_left
      · intro w hSw
        try dsimp only at hSw
        go_simp
        try with_reducible rfl
      try simp only [Act.put, List.setIfInBounds_toArray, List.set_cons_zero, List.set_cons_succ]
      refine wpAnyH_take (i := 12) (oi := ({ dst := some 63, op := Op.move (Operand.tmp 62), type := 4, pos := "law.go:88", after := #[{ on := 11, ground := Ground.data }, { on := 9, ground := Ground.chain }], guard := none } : Oper)) (v := ?_) rfl (by kernel_rfl) (by kernel_rfl) (by kernel_rfl) (fun _ _ _ h => h) (Or.inl ⟨by kernel_rfl, ?_⟩) (by assumption) ?_
      rotate_left
      · intro w hSw
        try dsimp only at hSw
        go_simp
        try with_reducible rfl
      try simp only [Act.put, List.setIfInBounds_toArray, List.set_cons_zero, List.set_cons_succ]
      refine wpAnyH_take (i := 13) (oi := ({ dst := some 64, op := Op.move (Operand.tmp 8), type := 78, pos := "law.go:88", after := #[{ on := 12, ground := Ground.guard }], guard := some (12, false) } : Oper)) (v := ?_) rfl (by kernel_rfl) (by kernel_rfl) (by kernel_rfl) (fun _ _ _ h => h) (Or.inl ⟨by kernel_rfl, ?_⟩) (by assumption) ?_
      rotate_left
      · intro w hSw
        try dsimp only at hSw
        go_simp
        try with_reducible rfl
      try simp only [Act.put, List.setIfInBounds_toArray, List.set_cons_zero, List.set_cons_succ]
      refine wpAnyH_take (i := 14) (oi := ({ dst := some 65, op := Op.move (Operand.tmp 9), type := 3, pos := "law.go:88", after := #[{ on := 12, ground := Ground.guard }], guard := some (12, false) } : Oper)) (v := ?_) rfl (by kernel_rfl) (by kernel_rfl) (by kernel_rfl) (fun _ _ _ h => h) (Or.inl ⟨by kernel_rfl, ?_⟩) (by assumption) ?_
      rotate_left
      · intro w hSw
        try dsimp only at hSw
        go_simp
        try with_reducible rfl
      try simp only [Act.put, List.setIfInBounds_toArray, List.set_cons_zero, List.set_cons_succ]
      refine wpAnyH_take (i := 15) (oi := ({ dst := some 66, op := Op.binOp BinOp.add 3 (Operand.tmp 65) (Operand.const (Value.int IntKind.i64 1)) 3, type := 3, pos := "law.go:88", after := #[{ on := 14, ground := Ground.data }, { on := 12, ground := Ground.guard }], guard := some (12, false) } : Oper)) (v := ?_) rfl (by kernel_rfl) (by kernel_rfl) (by kernel_rfl) (fun _ _ _ h => h) (Or.inl ⟨by kernel_rfl, ?_⟩) (by assumption) ?_
      rotate_left
      · intro w hSw
        try dsimp only at hSw
        go_simp
        try with_reducible rfl
      try simp only [Act.put, List.setIfInBounds_toArray, List.set_cons_zero, List.set_cons_succ]
      refine wpAnyH_ready (rs := [16]) (by kernel_rfl) (by simp) ?_
      refine AllReadyH.cons (o := ({ dst := some 67, op := Op.call { callee := Callee.value (Operand.func 49), args := #[Operand.tmp 64, Operand.tmp 66], argTypes := #[78, 3] }, type := 22, pos := "law.go:88", after := #[{ on := 13, ground := Ground.data }, { on := 15, ground := Ground.data }, { on := 12, ground := Ground.chain }, { on := 12, ground := Ground.guard }], guard := some (12, false) } : Oper)) rfl (fun K hK => ?_) AllReadyH.nil
      go_simp
      go_at_call 49
      refine (Hnext.out _ HbD.out g1).mono ?_
      rintro e wN ⟨vn, ss, rfl, hon, hpw, hmem, hbN⟩
      have hse := next_none hmem Hg.out.1 Hg.out.2 HL.out
      subst hse
      obtain ⟨gs16, cs16, rfl, hss⟩ := own_rowI hon
      have HbN := hid (belw HbD.out hbN)
      clear hon hpw hmem hbN hss
      refine hK.out _ _ (HQ.out _ HbN.out) (fun hH2 => ?_)
      clear hK K hHeld
      have hHeld := hH2
      clear hH2
      try simp only [Act.put, List.setIfInBounds_toArray, List.set_cons_zero, List.set_cons_succ]
      refine wpAnyH_take (i := 17) (oi := ({ dst := some 68, op := Op.call { callee := Callee.builtin Builtin.len, args := #[Operand.tmp 67], argTypes := #[22] }, type := 3, pos := "law.go:88", after := #[{ on := 16, ground := Ground.data }, { on := 12, ground := Ground.guard }], guard := some (12, false) } : Oper)) (v := ?_) rfl (by kernel_rfl) (by kernel_rfl) (by kernel_rfl) (fun _ _ _ h => h) (Or.inl ⟨by kernel_rfl, ?_⟩) (by assumption) ?_
      rotate_left
      · intro w hSw
        try dsimp only at hSw
        go_simp
        try with_reducible rfl
      try simp only [Act.put, List.setIfInBounds_toArray, List.set_cons_zero, List.set_cons_succ]
      refine wpAnyH_take (i := 18) (oi := ({ dst := some 69, op := Op.binOp BinOp.neq 3 (Operand.tmp 68) (Operand.const (Value.int IntKind.i64 0)) 3, type := 4, pos := "law.go:88", after := #[{ on := 17, ground := Ground.data }, { on := 12, ground := Ground.guard }], guard := some (12, false) } : Oper)) (v := ?_) rfl (by kernel_rfl) (by kernel_rfl) (by kernel_rfl) (fun _ _ _ h => h) (Or.inl ⟨by kernel_rfl, ?_⟩) (by assumption) ?_
      rotate_left
      · intro w hSw
        try dsimp only at hSw
        go_simp
        try with_reducible rfl
      try simp only [Act.put, List.setIfInBounds_toArray, List.set_cons_zero, List.set_cons_succ]
      refine wpAnyH_take (i := 19) (oi := ({ dst := some 70, op := Op.pick (Operand.tmp 63) (Operand.const (Value.bool true)) (Operand.tmp 69), type := 4, pos := "law.go:88", after := #[{ on := 12, ground := Ground.data }, { on := 18, ground := Ground.data }], guard := none } : Oper)) (v := ?_) rfl (by kernel_rfl) (by kernel_rfl) (by kernel_rfl) (fun _ _ _ h => h) (Or.inl ⟨by kernel_rfl, ?_⟩) (by assumption) ?_
      rotate_left
      · intro w hSw
        try dsimp only at hSw
        go_simp
        try with_reducible rfl
      try simp only [Act.put, List.setIfInBounds_toArray, List.set_cons_zero, List.set_cons_succ]
      refine wpAnyH_take (i := 20) (oi := ({ dst := some 71, op := Op.move (Operand.tmp 70), type := 4, pos := "law.go:88", after := #[{ on := 19, ground := Ground.data }, { on := 16, ground := Ground.chain }], guard := none } : Oper)) (v := ?_) rfl (by kernel_rfl) (by kernel_rfl) (by kernel_rfl) (fun _ _ _ h => h) (Or.inl ⟨by kernel_rfl, ?_⟩) (by assumption) ?_
      rotate_left
      · intro w hSw
        try dsimp only at hSw
        go_simp
        try with_reducible rfl
      try simp only [Act.put, List.setIfInBounds_toArray, List.set_cons_zero, List.set_cons_succ]
      refine wpAnyH_take (i := 21) (oi := ({ dst := some 72, op := Op.move (Operand.tmp 8), type := 78, pos := "law.go:88", after := #[{ on := 20, ground := Ground.guard }], guard := some (20, false) } : Oper)) (v := ?_) rfl (by kernel_rfl) (by kernel_rfl) (by kernel_rfl) (fun _ _ _ h => h) (Or.inl ⟨by kernel_rfl, ?_⟩) (by assumption) ?_
      rotate_left
      · intro w hSw
        try dsimp only at hSw
        go_simp
        try with_reducible rfl
      try simp only [Act.put, List.setIfInBounds_toArray, List.set_cons_zero, List.set_cons_succ]
      refine wpAnyH_ready (rs := [22]) (by kernel_rfl) (by simp) ?_
      refine AllReadyH.cons (o := ({ dst := some 73, op := Op.call { callee := Callee.value (Operand.func 49), args := #[Operand.tmp 72, Operand.const (Value.int IntKind.i64 (-1))], argTypes := #[78, 3] }, type := 22, pos := "law.go:88", after := #[{ on := 21, ground := Ground.data }, { on := 20, ground := Ground.chain }, { on := 20, ground := Ground.guard }], guard := some (20, false) } : Oper)) rfl (fun K hK => ?_) AllReadyH.nil
      go_simp
      go_at_call 49
      refine (Hnext.out _ HbN.out (-1)).mono ?_
      rintro e wN ⟨vn, ss, rfl, hon, hpw, hmem, hbN⟩
      have hse := next_neg hmem
      subst hse
      obtain ⟨gs22, cs22, rfl, hss⟩ := own_rowI hon
      have HbM := hid (belw HbN.out hbN)
      clear hon hpw hmem hbN hss
      refine hK.out _ _ (HQ.out _ HbM.out) (fun hH2 => ?_)
      clear hK K hHeld
      have hHeld := hH2
      clear hH2
      try simp only [Act.put, List.setIfInBounds_toArray, List.set_cons_zero, List.set_cons_succ]
      refine wpAnyH_take (i := 23) (oi := ({ dst := some 74, op := Op.call { callee := Callee.builtin Builtin.len, args := #[Operand.tmp 73], argTypes := #[22] }, type := 3, pos := "law.go:88", after := #[{ on := 22, ground := Ground.data }, { on := 20, ground := Ground.guard }], guard := some (20, false) } : Oper)) (v := ?_) rfl (by kernel_rfl) (by kernel_rfl) (by kernel_rfl) (fun _ _ _ h => h) (Or.inl ⟨by kernel_rfl, ?_⟩) (by assumption) ?_
      rotate_left
      · intro w hSw
        try dsimp only at hSw
        go_simp
        try with_reducible rfl
      try simp only [Act.put, List.setIfInBounds_toArray, List.set_cons_zero, List.set_cons_succ]
      refine wpAnyH_take (i := 24) (oi := ({ dst := some 75, op := Op.binOp BinOp.neq 3 (Operand.tmp 74) (Operand.const (Value.int IntKind.i64 0)) 3, type := 4, pos := "law.go:88", after := #[{ on := 23, ground := Ground.data }, { on := 20, ground := Ground.guard }], guard := some (20, false) } : Oper)) (v := ?_) rfl (by kernel_rfl) (by kernel_rfl) (by kernel_rfl) (fun _ _ _ h => h) (Or.inl ⟨by kernel_rfl, ?_⟩) (by assumption) ?_
      rotate_left
      · intro w hSw
        try dsimp only at hSw
        go_simp
        try with_reducible rfl
      try simp only [Act.put, List.setIfInBounds_toArray, List.set_cons_zero, List.set_cons_succ]
      refine wpAnyH_take (i := 25) (oi := ({ dst := some 76, op := Op.pick (Operand.tmp 71) (Operand.const (Value.bool true)) (Operand.tmp 75), type := 4, pos := "law.go:88", after := #[{ on := 20, ground := Ground.data }, { on := 24, ground := Ground.data }], guard := none } : Oper)) (v := ?_) rfl (by kernel_rfl) (by kernel_rfl) (by kernel_rfl) (fun _ _ _ h => h) (Or.inl ⟨by kernel_rfl, ?_⟩) (by assumption) ?_
      rotate_left
      · intro w hSw
        try dsimp only at hSw
        go_simp
        try with_reducible rfl
      try simp only [Act.put, List.setIfInBounds_toArray, List.set_cons_zero, List.set_cons_succ]
      refine wpAnyH_take (i := 26) (oi := ({ dst := some 77, op := Op.move (Operand.tmp 76), type := 4, pos := "law.go:88", after := #[{ on := 25, ground := Ground.data }, { on := 22, ground := Ground.chain }], guard := none } : Oper)) (v := ?_) rfl (by kernel_rfl) (by kernel_rfl) (by kernel_rfl) (fun _ _ _ h => h) (Or.inl ⟨by kernel_rfl, ?_⟩) (by assumption) ?_
      rotate_left
      · intro w hSw
        try dsimp only at hSw
        go_simp
        try with_reducible rfl
      try simp only [Act.put, List.setIfInBounds_toArray, List.set_cons_zero, List.set_cons_succ]
      refine wpAnyH_take (i := 27) (oi := ({ dst := some 78, op := Op.move (Operand.tmp 8), type := 78, pos := "law.go:88", after := #[{ on := 26, ground := Ground.guard }], guard := some (26, false) } : Oper)) (v := ?_) rfl (by kernel_rfl) (by kernel_rfl) (by kernel_rfl) (fun _ _ _ h => h) (Or.inl ⟨by kernel_rfl, ?_⟩) (by assumption) ?_
      rotate_left
      · intro w hSw
        try dsimp only at hSw
        go_simp
        try with_reducible rfl
      try simp only [Act.put, List.setIfInBounds_toArray, List.set_cons_zero, List.set_cons_succ]
      refine wpAnyH_ready (rs := [28]) (by kernel_rfl) (by simp) ?_
      refine AllReadyH.cons (o := ({ dst := some 79, op := Op.call { callee := Callee.value (Operand.func 45), args := #[Operand.tmp 78, Operand.const (Value.int IntKind.i64 (-1))], argTypes := #[78, 3] }, type := 4, pos := "law.go:88", after := #[{ on := 27, ground := Ground.data }, { on := 26, ground := Ground.chain }, { on := 26, ground := Ground.guard }], guard := some (26, false) } : Oper)) rfl (fun K hK => ?_) AllReadyH.nil
      go_simp
      go_at_call 45
      refine (Hends.out _ HbM.out (-1)).mono ?_
      rintro e wF ⟨b3, rfl, hb3, hbF⟩
      have hbf : b3 = false := ends_neg hb3
      subst hbf
      have HbF := hid (belw HbM.out hbF)
      clear hb3 hbF
      refine hK.out _ _ (HQ.out _ HbF.out) (fun hH2 => ?_)
      clear hK K hHeld
      have hHeld := hH2
      clear hH2
      try simp only [Act.put, List.setIfInBounds_toArray, List.set_cons_zero, List.set_cons_succ]
      refine wpAnyH_take (i := 29) (oi := ({ dst := some 80, op := Op.pick (Operand.tmp 77) (Operand.const (Value.bool true)) (Operand.tmp 79), type := 4, pos := "law.go:88", after := #[{ on := 26, ground := Ground.data }, { on := 28, ground := Ground.data }], guard := none } : Oper)) (v := ?_) rfl (by kernel_rfl) (by kernel_rfl) (by kernel_rfl) (fun _ _ _ h => h) (Or.inl ⟨by kernel_rfl, ?_⟩) (by assumption) ?_
      rotate_left
      · intro w hSw
        try dsimp only at hSw
        go_simp
        try with_reducible rfl
      try simp only [Act.put, List.setIfInBounds_toArray, List.set_cons_zero, List.set_cons_succ]
      refine wpAnyH_take (i := 30) (oi := ({ dst := some 81, op := Op.move (Operand.tmp 80), type := 4, pos := "law.go:88", after := #[{ on := 29, ground := Ground.data }, { on := 28, ground := Ground.chain }], guard := none } : Oper)) (v := ?_) rfl (by kernel_rfl) (by kernel_rfl) (by kernel_rfl) (fun _ _ _ h => h) (Or.inl ⟨by kernel_rfl, ?_⟩) (by assumption) ?_
      rotate_left
      · intro w hSw
        try dsimp only at hSw
        go_simp
        try with_reducible rfl
      try simp only [Act.put, List.setIfInBounds_toArray, List.set_cons_zero, List.set_cons_succ]
      refine wpAnyH_take (i := 31) (oi := ({ dst := some 82, op := Op.move (Operand.tmp 8), type := 78, pos := "law.go:88", after := #[{ on := 30, ground := Ground.guard }], guard := some (30, false) } : Oper)) (v := ?_) rfl (by kernel_rfl) (by kernel_rfl) (by kernel_rfl) (fun _ _ _ h => h) (Or.inl ⟨by kernel_rfl, ?_⟩) (by assumption) ?_
      rotate_left
      · intro w hSw
        try dsimp only at hSw
        go_simp
        try with_reducible rfl
      try simp only [Act.put, List.setIfInBounds_toArray, List.set_cons_zero, List.set_cons_succ]
      refine wpAnyH_take (i := 32) (oi := ({ dst := some 83, op := Op.move (Operand.tmp 7), type := 22, pos := "law.go:88", after := #[{ on := 30, ground := Ground.guard }], guard := some (30, false) } : Oper)) (v := ?_) rfl (by kernel_rfl) (by kernel_rfl) (by kernel_rfl) (fun _ _ _ h => h) (Or.inl ⟨by kernel_rfl, ?_⟩) (by assumption) ?_
      rotate_left
      · intro w hSw
        try dsimp only at hSw
        go_simp
        try with_reducible rfl
      try simp only [Act.put, List.setIfInBounds_toArray, List.set_cons_zero, List.set_cons_succ]
      refine wpAnyH_take (i := 33) (oi := ({ dst := some 84, op := Op.call { callee := Callee.builtin Builtin.len, args := #[Operand.tmp 83], argTypes := #[22] }, type := 3, pos := "law.go:88", after := #[{ on := 32, ground := Ground.data }, { on := 30, ground := Ground.guard }], guard := some (30, false) } : Oper)) (v := ?_) rfl (by kernel_rfl) (by kernel_rfl) (by kernel_rfl) (fun _ _ _ h => h) (Or.inl ⟨by kernel_rfl, ?_⟩) (by assumption) ?_
      rotate_left
      · intro w hSw
        try dsimp only at hSw
        go_simp
        try with_reducible rfl
      try simp only [Act.put, List.setIfInBounds_toArray, List.set_cons_zero, List.set_cons_succ]
      refine wpAnyH_take (i := 34) (oi := ({ dst := some 85, op := Op.binOp BinOp.add 3 (Operand.tmp 84) (Operand.const (Value.int IntKind.i64 1)) 3, type := 3, pos := "law.go:88", after := #[{ on := 33, ground := Ground.data }, { on := 30, ground := Ground.guard }], guard := some (30, false) } : Oper)) (v := ?_) rfl (by kernel_rfl) (by kernel_rfl) (by kernel_rfl) (fun _ _ _ h => h) (Or.inl ⟨by kernel_rfl, ?_⟩) (by assumption) ?_
      rotate_left
      · intro w hSw
        try dsimp only at hSw
        go_simp
        try with_reducible rfl
      try simp only [Act.put, List.setIfInBounds_toArray, List.set_cons_zero, List.set_cons_succ]
      refine wpAnyH_ready (rs := [35]) (by kernel_rfl) (by simp) ?_
      refine AllReadyH.cons (o := ({ dst := some 86, op := Op.call { callee := Callee.value (Operand.func 45), args := #[Operand.tmp 82, Operand.tmp 85], argTypes := #[78, 3] }, type := 4, pos := "law.go:88", after := #[{ on := 31, ground := Ground.data }, { on := 34, ground := Ground.data }, { on := 30, ground := Ground.chain }, { on := 30, ground := Ground.guard }], guard := some (30, false) } : Oper)) rfl (fun K hK => ?_) AllReadyH.nil
      go_simp
      go_at_call 45
      refine (Hends.out _ HbF.out ((L : Int) + 1)).mono ?_
      rintro e wF ⟨b3, rfl, hb3, hbF⟩
      have hbf : b3 = false := ends_far hb3 HL.out
      subst hbf
      have HbG := hid (belw HbF.out hbF)
      clear hb3 hbF
      refine hK.out _ _ (HQ.out _ HbG.out) (fun hH2 => ?_)
      clear hK K hHeld
      have hHeld := hH2
      clear hH2
      try simp only [Act.put, List.setIfInBounds_toArray, List.set_cons_zero, List.set_cons_succ]
      refine wpAnyH_take (i := 36) (oi := ({ dst := some 87, op := Op.pick (Operand.tmp 81) (Operand.const (Value.bool true)) (Operand.tmp 86), type := 4, pos := "law.go:88", after := #[{ on := 30, ground := Ground.data }, { on := 35, ground := Ground.data }], guard := none } : Oper)) (v := ?_) rfl (by kernel_rfl) (by kernel_rfl) (by kernel_rfl) (fun _ _ _ h => h) (Or.inl ⟨by kernel_rfl, ?_⟩) (by assumption) ?_
      rotate_left
      · intro w hSw
        try dsimp only at hSw
        go_simp
        try with_reducible rfl
      try simp only [Act.put, List.setIfInBounds_toArray, List.set_cons_zero, List.set_cons_succ]
      refine wpAnyH_done (by kernel_rfl) ?_ _
      clear e1 e2 e3
      go_wp2_with fail
      go_loopg [11] (L + 1) (fun k v11 wr => TL2 w5 g L k v11 wr)
      case atStart => exact ⟨0, rfl, by omega, rfl, HbG.out⟩
      case round =>
        obtain ⟨i, rfl, hig, hk, hb⟩ := hrel
        have Hk2 := hid (And.intro hk hb)
        clear hk hb
        by_cases hle : (i : Int) ≤ g
        · have hiL : i ≤ L := by omega
          go_upto_region 20 with (go_at_call 49; refine (Hnext.out _ Hk2.out.2 (i : Int)).mono ?_; rintro e w6 ⟨vn, ss, rfl, hon, hpw, hmem, hb6⟩)
          obtain ⟨gs, cs, rfl, hss⟩ := own_rowI hon
          obtain ⟨S, hS⟩ : ∃ S, S = ss.length := ⟨_, rfl⟩
          have hmz : ∀ z : Int, z ∈ ss ↔ 0 ≤ z ∧ Pre G.prods [G.start] (l.take i ++ [z]) := fun z => (hmem z).trans ⟨fun ⟨h0, m, h1, _, h2⟩ => ⟨h0, by rwa [show i = m by omega]⟩, fun ⟨h0, h1⟩ => ⟨h0, i, rfl, by rw [← HL.out]; exact hiL, h1⟩⟩
          have hS256 : S ≤ 256 := by
            rw [hS]
            refine pairwise_len hpw (fun z hz => ?_)
            have := ((hmz z).1 hz).2.low (t := G.terms.length) Hsn.out.r0 Hsn.out.s0 z (by simp)
            have := Hsn.out.t1
            omega
          have Hb6 := hid (belw Hk2.out.2 hb6)
          have H6 := hid (And.intro hss (And.intro hpw (And.intro hmz hS)))
          rw [← hS]
          clear hss hpw hmz hS hb6 hmem hon
          go_wp2_with fail
          go_loopg [13, 14] T (fun k v13 v14 wr => TL3 w6 ss S T k v13 v14 wr)
          case atStart => exact ⟨0, 0, rfl, rfl, by omega, by omega, (fun j z hj hz => by omega), (fun j z hj hz => by have := ((H6.out.2.2.1 z).1 (List.mem_of_getElem? hz)).1; omega), rfl, Below.refl _ _⟩
          case round =>
            obtain ⟨t, at', rfl, rfl, ht, hat, hlo, hhi, hk, hb⟩ := hrel
            have Ht := hid (And.intro hlo (And.intro hhi (And.intro hk hb)))
            have Hb36 := hid hb
            have q3 := (HQ.out wr (belw Hb6.out hb)).2.2.2.1
            rw [HT.out] at q3
            clear hlo hhi hk hb
            by_cases htT : t < T
            · have htTI : (t : Int) < (T : Int) := by omega
              have hb36' : Below w5.heap.size w5 wr.drew := below_drewN (belw Hb6.out Hb36.out) 1
              have Hb37 := hid hb36'
              have hicap : (i : Int) ≤ (cap : Int) := by omega
              have hi0 : (0 : Int) ≤ (i : Int) := by omega
              have hlw : ∀ W, Below w5.heap.size w5 W → RowI W W.heap.size ga l := fun W hW => (H5.out.1.below hW).mono hW.size
              have Hlw0 := hid hlw
              clear hb36' hlw
              go_upto_region 24 with fail
              by_cases hP : Pre G.prods [G.start] (l.take i ++ [(t : Int)])
              · obtain ⟨hat2, hcell⟩ := next_yes H6.out.2.1 ((H6.out.2.2.1 (t : Int)).2 ⟨by omega, hP⟩) Ht.out.1 Ht.out.2.1 hat H6.out.2.2.2
                have hatS : (at' : Int) < (S : Int) := by omega
                have hat0 : (0 : Int) ≤ (at' : Int) := by omega
                have hat256 : (at' : Int) ≤ 256 := by omega
                obtain ⟨gj, oj, hgs, hgj, hcj⟩ := H6.out.1.at (by rw [← H6.out.2.2.2]; exact hat2)
                have hcj2 := next_cell hcj hcell
                have HP := hid hP
                have Hcl := hid (And.intro hgj (And.intro hcj2 hgs))
                have Hcell := hid hcell
                clear hP hcell hgs hgj hcj hcj2
                obtain ⟨W0, hW0⟩ : ∃ W0, W0 = wr.drew := ⟨_, rfl⟩
                have HW0 := hid hW0
                have H00 := hid (show Below w5.heap.size w5 W0 by rw [hW0]; exact Hb37.out)
                clear hW0
                refine wp_region_held_drew (S := fun W : World => W.cell? ⟨bq, 0, none⟩ = some (.int .i64 G.start) ∧ W.cell? ⟨bq, 1, none⟩ = some (.int .i64 G.rules) ∧ W.cell? ⟨bq, 2, none⟩ = some (.slice gn' G.names.length cn') ∧ W.cell? ⟨bq, 3, none⟩ = some (.slice gt' G.terms.length ct') ∧ W.cell? ⟨bq, 4, none⟩ = some (.slice gp' G.prods.length cp')) (by kernel_rfl) (by rw [← HW0.out]; exact HQ.out _ H00.out) (fun hHeld => ?_)
                rw [← HW0.out] at hHeld ⊢
                have Hlw := hid (Hlw0.out W0 H00.out)
                have Hsz := hid (show w6.heap.size ≤ W0.heap.size by rw [HW0.out]; exact Hb36.out.size)
                have Hb60 := hid (show Below w6.heap.size w6 W0 by rw [HW0.out]; exact below_drewN Hb36.out 1)
                refine wpAnyH_take (i := 0) (oi := ({ dst := some 103, op := Op.load 33 (Operand.tmp 6), type := 33, pos := "law.go:95", after := #[], guard := none } : Oper)) (v := ?_) rfl (by kernel_rfl) (by kernel_rfl) (by kernel_rfl) (fun _ _ _ h => h) (Or.inl ⟨by kernel_rfl, ?_⟩) (by assumption) ?_
                rotate_left
                · intro w hSw
                  try dsimp only at hSw
                  go_simp
                  try with_reducible rfl
                try simp only [Act.put, List.setIfInBounds_toArray, List.set_cons_zero, List.set_cons_succ]
                refine wpAnyH_take (i := 2) (oi := ({ dst := some 105, op := Op.move (Operand.tmp 7), type := 22, pos := "law.go:95", after := #[], guard := none } : Oper)) (v := ?_) rfl (by kernel_rfl) (by kernel_rfl) (by kernel_rfl) (fun _ _ _ h => h) (Or.inl ⟨by kernel_rfl, ?_⟩) (by assumption) ?_
                rotate_left
                · intro w hSw
                  try dsimp only at hSw
                  go_simp
                  try with_reducible rfl
                try simp only [Act.put, List.setIfInBounds_toArray, List.set_cons_zero, List.set_cons_succ]
                refine wpAnyH_take (i := 3) (oi := ({ dst := some 106, op := Op.move (Operand.tmp 11), type := 3, pos := "law.go:95", after := #[], guard := none } : Oper)) (v := ?_) rfl (by kernel_rfl) (by kernel_rfl) (by kernel_rfl) (fun _ _ _ h => h) (Or.inl ⟨by kernel_rfl, ?_⟩) (by assumption) ?_
                rotate_left
                · intro w hSw
                  try dsimp only at hSw
                  go_simp
                  try with_reducible rfl
                try simp only [Act.put, List.setIfInBounds_toArray, List.set_cons_zero, List.set_cons_succ]
                refine wpAnyH_take (i := 4) (oi := ({ dst := some 107, op := Op.slice 22 (Operand.tmp 105) none (some (Operand.tmp 106)) none, type := 22, pos := "law.go:95", after := #[{ on := 2, ground := Ground.data }, { on := 3, ground := Ground.data }], guard := none } : Oper)) (v := ?_) rfl (by kernel_rfl) (by kernel_rfl) (by kernel_rfl) (fun _ _ _ h => h) (Or.inl ⟨by kernel_rfl, ?_⟩) (by assumption) ?_
                rotate_left
                · intro w hSw
                  try dsimp only at hSw
                  go_simp
                  try with_reducible rfl
                try simp only [Act.put, List.setIfInBounds_toArray, List.set_cons_zero, List.set_cons_succ]
                refine wpAnyH_take (i := 6) (oi := ({ dst := some 109, op := Op.move (Operand.tmp 14), type := 3, pos := "law.go:95", after := #[], guard := none } : Oper)) (v := ?_) rfl (by kernel_rfl) (by kernel_rfl) (by kernel_rfl) (fun _ _ _ h => h) (Or.inl ⟨by kernel_rfl, ?_⟩) (by assumption) ?_
                rotate_left
                · intro w hSw
                  try dsimp only at hSw
                  go_simp
                  try with_reducible rfl
                try simp only [Act.put, List.setIfInBounds_toArray, List.set_cons_zero, List.set_cons_succ]
                refine wpAnyH_ready (rs := [1, 7]) (by kernel_rfl) (by simp) ?_
                refine AllReadyH.cons (o := ({ dst := some 104, op := Op.buildSlice 22 0 #[], type := 22, pos := "law.go:95", after := #[], guard := none } : Oper)) rfl (fun K hK => ?_) ?_
                · go_simp
                  obtain ⟨wE, hwE⟩ : ∃ wE, wE = W0.alloc (.cells #[] 3) := ⟨_, rfl⟩
                  rw [← hwE]
                  obtain ⟨b1, hb1⟩ : ∃ b1, b1 = W0.heap.size := ⟨_, rfl⟩
                  rw [← hb1]
                  have HE := hid (emptyE (W0 := W0) hwE hb1 (Below.refl _ _))
                  have HqE := hid (belw H00.out HE.out.2.1)
                  clear hwE hb1
                  refine hK.out _ _ (HQ.out _ HqE.out) (fun hH2 => ?_)
                  clear hK K hHeld
                  have hHeld := hH2
                  clear hH2
                  try simp only [Act.put, List.setIfInBounds_toArray, List.set_cons_zero, List.set_cons_succ]
                  refine wpAnyH_ready (rs := [5, 7]) (by kernel_rfl) (by simp) ?_
                  refine AllReadyH.cons (o := ({ dst := some 108, op := Op.call { callee := Callee.builtin Builtin.append, args := #[Operand.tmp 104, Operand.tmp 107], argTypes := #[22, 22] }, type := 22, pos := "law.go:95", after := #[{ on := 1, ground := Ground.data }, { on := 4, ground := Ground.data }], guard := none } : Oper)) rfl (fun K hK => ?_) ?_
                  · obtain ⟨gA, cA, wA, hrA, hoA, hkA, hbA⟩ := app5 (W0 := W0) (cap := cap) HE.out.1 HE.out.2.1 Hlw.out i hiL HL.out (show L ≤ 1000 by omega)
                    have HrA := hid hrA
                    have HA := hid (And.intro hoA (And.intro hkA hbA))
                    have HqA := hid (belw H00.out HA.out.2.2)
                    clear hrA hoA hkA hbA
                    refine step_append_run rfl _ _ _ rfl (.slice (some ⟨b1, 0, none⟩) 0 0) (.slice ga i cap) (.slice gA i cA) wA (by go_simp) (by go_simp) (by exact HrA.out) ?_
                    refine hK.out _ _ (HQ.out _ HqA.out) (fun hH2 => ?_)
                    clear hK K hHeld
                    have hHeld := hH2
                    clear hH2
                    try simp only [Act.put, List.setIfInBounds_toArray, List.set_cons_zero, List.set_cons_succ]
                    refine wpAnyH_ready (rs := [7]) (by kernel_rfl) (by simp) ?_
                    refine AllReadyH.cons (o := ({ dst := some 110, op := Op.buildSlice 22 1 #[(0, Operand.tmp 109)], type := 22, pos := "law.go:95", after := #[{ on := 6, ground := Ground.data }], guard := none } : Oper)) rfl (fun K hK => ?_) AllReadyH.nil
                    go_simp
                    obtain ⟨wX, hwX⟩ : ∃ wX, wX = wA.alloc (.cells #[.int .i64 (t : Int)] 3) := ⟨_, rfl⟩
                    rw [← hwX]
                    obtain ⟨b2, hb2⟩ : ∃ b2, b2 = wA.heap.size := ⟨_, rfl⟩
                    rw [← hb2]
                    have HX := hid (oneX (W0 := W0) hwX hb2 HA.out.2.2)
                    have HqX := hid (belw H00.out HX.out.2.2.1)
                    clear hwX hb2
                    refine hK.out _ _ (HQ.out _ HqX.out) (fun hH2 => ?_)
                    clear hK K hHeld
                    have hHeld := hH2
                    clear hH2
                    try simp only [Act.put, List.setIfInBounds_toArray, List.set_cons_zero, List.set_cons_succ]
                    refine wpAnyH_ready (rs := [8]) (by kernel_rfl) (by simp) ?_
                    refine AllReadyH.cons (o := ({ dst := some 111, op := Op.call { callee := Callee.builtin Builtin.append, args := #[Operand.tmp 108, Operand.tmp 110], argTypes := #[22, 22] }, type := 22, pos := "law.go:95", after := #[{ on := 5, ground := Ground.data }, { on := 7, ground := Ground.data }, { on := 5, ground := Ground.chain }], guard := none } : Oper)) rfl (fun K hK => ?_) AllReadyH.nil
                    obtain ⟨gC, cC, wC, hrC, hoC, hbC⟩ := app8 (W0 := W0) (own_below HA.out.1 HX.out.2.1) HX.out.1 HX.out.2.2.1 (show i ≤ 1000 by omega)
                    have HrC := hid hrC
                    have HCw := hid (And.intro hoC hbC)
                    have HqC := hid (belw H00.out HCw.out.2)
                    clear hrC hoC hbC
                    refine step_append_run rfl _ _ _ rfl (.slice gA i cA) (.slice (some ⟨b2, 0, none⟩) 1 1) (.slice (some ⟨gC, 0, none⟩) (i + 1) cC) wC (by go_simp) (by go_simp) (by exact HrC.out) ?_
                    refine hK.out _ _ (HQ.out _ HqC.out) (fun hH2 => ?_)
                    clear hK K hHeld
                    have hHeld := hH2
                    clear hH2
                    try simp only [Act.put, List.setIfInBounds_toArray, List.set_cons_zero, List.set_cons_succ]
                    refine wpAnyH_ready (rs := [9]) (by kernel_rfl) (by simp) ?_
                    refine AllReadyH.cons (o := ({ dst := some 112, op := Op.call { callee := Callee.value (Operand.func 44), args := #[Operand.tmp 103, Operand.tmp 111], argTypes := #[33, 22] }, type := 4, pos := "law.go:95", after := #[{ on := 0, ground := Ground.data }, { on := 8, ground := Ground.data }, { on := 8, ground := Ground.chain }], guard := none } : Oper)) rfl (fun K hK => ?_) AllReadyH.nil
                    go_simp
                    go_at_call 44
                    refine (Hbeg2.out _ HqC.out gC cC i t W0.heap.size hiL HCw.out.1).mono ?_
                    rintro e w9 ⟨b, rfl, hbp, hb9⟩
                    have Hb9 := hid (And.intro hbp (And.intro (belw HqC.out hb9) (belw (belw Hb60.out HCw.out.2) hb9)))
                    clear hbp hb9
                    refine hK.out _ _ (HQ.out _ Hb9.out.2.1) (fun hH2 => ?_)
                    clear hK K hHeld
                    have hHeld := hH2
                    clear hH2
                    try simp only [Act.put, List.setIfInBounds_toArray, List.set_cons_zero, List.set_cons_succ]
                    refine wpAnyH_take (i := 10) (oi := ({ dst := some 113, op := Op.unOp UnOp.not 4 (Operand.tmp 112), type := 4, pos := "law.go:95", after := #[{ on := 9, ground := Ground.data }], guard := none } : Oper)) (v := ?_) rfl (by kernel_rfl) (by kernel_rfl) (by kernel_rfl) (fun _ _ _ h => h) (Or.inl ⟨by kernel_rfl, ?_⟩) (by assumption) ?_
                    rotate_left
                    · intro w hSw
                      try dsimp only at hSw
                      go_simp
                      try with_reducible rfl
                    try simp only [Act.put, List.setIfInBounds_toArray, List.set_cons_zero, List.set_cons_succ]
                    refine wpAnyH_done (by kernel_rfl) ?_ _
                    have hb69 := Hb9.out.2.2
                    have hcj9 := (hb69.cell (p := ⟨gj, oj + at', none⟩) Hcl.out.1).trans Hcl.out.2.1
                    have hbt := Hb9.out.1.2 HP.out
                    subst hbt
                    rw [Hcl.out.2.2]
                    go_wp2_with fail
                    rw [← Hcl.out.2.2]
                    go_roundg (T - (t + 1))
                    case measure => have := Ht.out.2.2.1; omega
                    case rel => exact ⟨t + 1, at' + 1, by go_num, by go_num, by omega, by omega, next_lo Ht.out.1 Hcell.out, next_hi Ht.out.2.1 H6.out.2.1 Hcell.out, rfl, Hb9.out.2.2⟩
                  · refine AllReadyH.cons (o := ({ dst := some 110, op := Op.buildSlice 22 1 #[(0, Operand.tmp 109)], type := 22, pos := "law.go:95", after := #[{ on := 6, ground := Ground.data }], guard := none } : Oper)) rfl (fun K hK => ?_) AllReadyH.nil
                    go_simp
                    obtain ⟨wX, hwX⟩ : ∃ wX, wX = wE.alloc (.cells #[.int .i64 (t : Int)] 3) := ⟨_, rfl⟩
                    rw [← hwX]
                    obtain ⟨b2, hb2⟩ : ∃ b2, b2 = wE.heap.size := ⟨_, rfl⟩
                    rw [← hb2]
                    have HX := hid (oneX (W0 := W0) hwX hb2 HE.out.2.1)
                    have HqX := hid (belw H00.out HX.out.2.2.1)
                    clear hwX hb2
                    refine hK.out _ _ (HQ.out _ HqX.out) (fun hH2 => ?_)
                    clear hK K hHeld
                    have hHeld := hH2
                    clear hH2
                    try simp only [Act.put, List.setIfInBounds_toArray, List.set_cons_zero, List.set_cons_succ]
                    refine wpAnyH_ready (rs := [5]) (by kernel_rfl) (by simp) ?_
                    refine AllReadyH.cons (o := ({ dst := some 108, op := Op.call { callee := Callee.builtin Builtin.append, args := #[Operand.tmp 104, Operand.tmp 107], argTypes := #[22, 22] }, type := 22, pos := "law.go:95", after := #[{ on := 1, ground := Ground.data }, { on := 4, ground := Ground.data }], guard := none } : Oper)) rfl (fun K hK => ?_) AllReadyH.nil
                    obtain ⟨gA, cA, wA, hrA, hoA, hkA, hbA⟩ := app5 (W0 := W0) (cap := cap) (own_below HE.out.1 HX.out.2.1) HX.out.2.2.1 Hlw.out i hiL HL.out (show L ≤ 1000 by omega)
                    have HrA := hid hrA
                    have HA := hid (And.intro hoA (And.intro hkA hbA))
                    have HqA := hid (belw H00.out HA.out.2.2)
                    clear hrA hoA hkA hbA
                    refine step_append_run rfl _ _ _ rfl (.slice (some ⟨b1, 0, none⟩) 0 0) (.slice ga i cap) (.slice gA i cA) wA (by go_simp) (by go_simp) (by exact HrA.out) ?_
                    refine hK.out _ _ (HQ.out _ HqA.out) (fun hH2 => ?_)
                    clear hK K hHeld
                    have hHeld := hH2
                    clear hH2
                    try simp only [Act.put, List.setIfInBounds_toArray, List.set_cons_zero, List.set_cons_succ]
                    refine wpAnyH_ready (rs := [8]) (by kernel_rfl) (by simp) ?_
                    refine AllReadyH.cons (o := ({ dst := some 111, op := Op.call { callee := Callee.builtin Builtin.append, args := #[Operand.tmp 108, Operand.tmp 110], argTypes := #[22, 22] }, type := 22, pos := "law.go:95", after := #[{ on := 5, ground := Ground.data }, { on := 7, ground := Ground.data }, { on := 5, ground := Ground.chain }], guard := none } : Oper)) rfl (fun K hK => ?_) AllReadyH.nil
                    obtain ⟨gC, cC, wC, hrC, hoC, hbC⟩ := app8 (W0 := W0) HA.out.1 (keepX HE.out HX.out HA.out.2.1) HA.out.2.2 (show i ≤ 1000 by omega)
                    have HrC := hid hrC
                    have HCw := hid (And.intro hoC hbC)
                    have HqC := hid (belw H00.out HCw.out.2)
                    clear hrC hoC hbC
                    refine step_append_run rfl _ _ _ rfl (.slice gA i cA) (.slice (some ⟨b2, 0, none⟩) 1 1) (.slice (some ⟨gC, 0, none⟩) (i + 1) cC) wC (by go_simp) (by go_simp) (by exact HrC.out) ?_
                    refine hK.out _ _ (HQ.out _ HqC.out) (fun hH2 => ?_)
                    clear hK K hHeld
                    have hHeld := hH2
                    clear hH2
                    try simp only [Act.put, List.setIfInBounds_toArray, List.set_cons_zero, List.set_cons_succ]
                    refine wpAnyH_ready (rs := [9]) (by kernel_rfl) (by simp) ?_
                    refine AllReadyH.cons (o := ({ dst := some 112, op := Op.call { callee := Callee.value (Operand.func 44), args := #[Operand.tmp 103, Operand.tmp 111], argTypes := #[33, 22] }, type := 4, pos := "law.go:95", after := #[{ on := 0, ground := Ground.data }, { on := 8, ground := Ground.data }, { on := 8, ground := Ground.chain }], guard := none } : Oper)) rfl (fun K hK => ?_) AllReadyH.nil
                    go_simp
                    go_at_call 44
                    refine (Hbeg2.out _ HqC.out gC cC i t W0.heap.size hiL HCw.out.1).mono ?_
                    rintro e w9 ⟨b, rfl, hbp, hb9⟩
                    have Hb9 := hid (And.intro hbp (And.intro (belw HqC.out hb9) (belw (belw Hb60.out HCw.out.2) hb9)))
                    clear hbp hb9
                    refine hK.out _ _ (HQ.out _ Hb9.out.2.1) (fun hH2 => ?_)
                    clear hK K hHeld
                    have hHeld := hH2
                    clear hH2
                    try simp only [Act.put, List.setIfInBounds_toArray, List.set_cons_zero, List.set_cons_succ]
                    refine wpAnyH_take (i := 10) (oi := ({ dst := some 113, op := Op.unOp UnOp.not 4 (Operand.tmp 112), type := 4, pos := "law.go:95", after := #[{ on := 9, ground := Ground.data }], guard := none } : Oper)) (v := ?_) rfl (by kernel_rfl) (by kernel_rfl) (by kernel_rfl) (fun _ _ _ h => h) (Or.inl ⟨by kernel_rfl, ?_⟩) (by assumption) ?_
                    rotate_left
                    · intro w hSw
                      try dsimp only at hSw
                      go_simp
                      try with_reducible rfl
                    try simp only [Act.put, List.setIfInBounds_toArray, List.set_cons_zero, List.set_cons_succ]
                    refine wpAnyH_done (by kernel_rfl) ?_ _
                    have hb69 := Hb9.out.2.2
                    have hcj9 := (hb69.cell (p := ⟨gj, oj + at', none⟩) Hcl.out.1).trans Hcl.out.2.1
                    have hbt := Hb9.out.1.2 HP.out
                    subst hbt
                    rw [Hcl.out.2.2]
                    go_wp2_with fail
                    rw [← Hcl.out.2.2]
                    go_roundg (T - (t + 1))
                    case measure => have := Ht.out.2.2.1; omega
                    case rel => exact ⟨t + 1, at' + 1, by go_num, by go_num, by omega, by omega, next_lo Ht.out.1 Hcell.out, next_hi Ht.out.2.1 H6.out.2.1 Hcell.out, rfl, Hb9.out.2.2⟩
                · refine AllReadyH.cons (o := ({ dst := some 110, op := Op.buildSlice 22 1 #[(0, Operand.tmp 109)], type := 22, pos := "law.go:95", after := #[{ on := 6, ground := Ground.data }], guard := none } : Oper)) rfl (fun K hK => ?_) AllReadyH.nil
                  go_simp
                  obtain ⟨wX, hwX⟩ : ∃ wX, wX = W0.alloc (.cells #[.int .i64 (t : Int)] 3) := ⟨_, rfl⟩
                  rw [← hwX]
                  obtain ⟨b2, hb2⟩ : ∃ b2, b2 = W0.heap.size := ⟨_, rfl⟩
                  rw [← hb2]
                  have HX := hid (oneX (W0 := W0) hwX hb2 (Below.refl _ _))
                  have HqX := hid (belw H00.out HX.out.2.2.1)
                  clear hwX hb2
                  refine hK.out _ _ (HQ.out _ HqX.out) (fun hH2 => ?_)
                  clear hK K hHeld
                  have hHeld := hH2
                  clear hH2
                  try simp only [Act.put, List.setIfInBounds_toArray, List.set_cons_zero, List.set_cons_succ]
                  refine wpAnyH_ready (rs := [1]) (by kernel_rfl) (by simp) ?_
                  refine AllReadyH.cons (o := ({ dst := some 104, op := Op.buildSlice 22 0 #[], type := 22, pos := "law.go:95", after := #[], guard := none } : Oper)) rfl (fun K hK => ?_) AllReadyH.nil
                  go_simp
                  obtain ⟨wE, hwE⟩ : ∃ wE, wE = wX.alloc (.cells #[] 3) := ⟨_, rfl⟩
                  rw [← hwE]
                  obtain ⟨b1, hb1⟩ : ∃ b1, b1 = wX.heap.size := ⟨_, rfl⟩
                  rw [← hb1]
                  have HE := hid (emptyE (W0 := W0) hwE hb1 HX.out.2.2.1)
                  have HqE := hid (belw H00.out HE.out.2.1)
                  clear hwE hb1
                  refine hK.out _ _ (HQ.out _ HqE.out) (fun hH2 => ?_)
                  clear hK K hHeld
                  have hHeld := hH2
                  clear hH2
                  try simp only [Act.put, List.setIfInBounds_toArray, List.set_cons_zero, List.set_cons_succ]
                  refine wpAnyH_ready (rs := [5]) (by kernel_rfl) (by simp) ?_
                  refine AllReadyH.cons (o := ({ dst := some 108, op := Op.call { callee := Callee.builtin Builtin.append, args := #[Operand.tmp 104, Operand.tmp 107], argTypes := #[22, 22] }, type := 22, pos := "law.go:95", after := #[{ on := 1, ground := Ground.data }, { on := 4, ground := Ground.data }], guard := none } : Oper)) rfl (fun K hK => ?_) AllReadyH.nil
                  obtain ⟨gA, cA, wA, hrA, hoA, hkA, hbA⟩ := app5 (W0 := W0) (cap := cap) HE.out.1 HE.out.2.1 Hlw.out i hiL HL.out (show L ≤ 1000 by omega)
                  have HrA := hid hrA
                  have HA := hid (And.intro hoA (And.intro hkA hbA))
                  have HqA := hid (belw H00.out HA.out.2.2)
                  clear hrA hoA hkA hbA
                  refine step_append_run rfl _ _ _ rfl (.slice (some ⟨b1, 0, none⟩) 0 0) (.slice ga i cap) (.slice gA i cA) wA (by go_simp) (by go_simp) (by exact HrA.out) ?_
                  refine hK.out _ _ (HQ.out _ HqA.out) (fun hH2 => ?_)
                  clear hK K hHeld
                  have hHeld := hH2
                  clear hH2
                  try simp only [Act.put, List.setIfInBounds_toArray, List.set_cons_zero, List.set_cons_succ]
                  refine wpAnyH_ready (rs := [8]) (by kernel_rfl) (by simp) ?_
                  refine AllReadyH.cons (o := ({ dst := some 111, op := Op.call { callee := Callee.builtin Builtin.append, args := #[Operand.tmp 108, Operand.tmp 110], argTypes := #[22, 22] }, type := 22, pos := "law.go:95", after := #[{ on := 5, ground := Ground.data }, { on := 7, ground := Ground.data }, { on := 5, ground := Ground.chain }], guard := none } : Oper)) rfl (fun K hK => ?_) AllReadyH.nil
                  obtain ⟨gC, cC, wC, hrC, hoC, hbC⟩ := app8 (W0 := W0) HA.out.1 (keepX3 HX.out HE.out HA.out.2.1) HA.out.2.2 (show i ≤ 1000 by omega)
                  have HrC := hid hrC
                  have HCw := hid (And.intro hoC hbC)
                  have HqC := hid (belw H00.out HCw.out.2)
                  clear hrC hoC hbC
                  refine step_append_run rfl _ _ _ rfl (.slice gA i cA) (.slice (some ⟨b2, 0, none⟩) 1 1) (.slice (some ⟨gC, 0, none⟩) (i + 1) cC) wC (by go_simp) (by go_simp) (by exact HrC.out) ?_
                  refine hK.out _ _ (HQ.out _ HqC.out) (fun hH2 => ?_)
                  clear hK K hHeld
                  have hHeld := hH2
                  clear hH2
                  try simp only [Act.put, List.setIfInBounds_toArray, List.set_cons_zero, List.set_cons_succ]
                  refine wpAnyH_ready (rs := [9]) (by kernel_rfl) (by simp) ?_
                  refine AllReadyH.cons (o := ({ dst := some 112, op := Op.call { callee := Callee.value (Operand.func 44), args := #[Operand.tmp 103, Operand.tmp 111], argTypes := #[33, 22] }, type := 4, pos := "law.go:95", after := #[{ on := 0, ground := Ground.data }, { on := 8, ground := Ground.data }, { on := 8, ground := Ground.chain }], guard := none } : Oper)) rfl (fun K hK => ?_) AllReadyH.nil
                  go_simp
                  go_at_call 44
                  refine (Hbeg2.out _ HqC.out gC cC i t W0.heap.size hiL HCw.out.1).mono ?_
                  rintro e w9 ⟨b, rfl, hbp, hb9⟩
                  have Hb9 := hid (And.intro hbp (And.intro (belw HqC.out hb9) (belw (belw Hb60.out HCw.out.2) hb9)))
                  clear hbp hb9
                  refine hK.out _ _ (HQ.out _ Hb9.out.2.1) (fun hH2 => ?_)
                  clear hK K hHeld
                  have hHeld := hH2
                  clear hH2
                  try simp only [Act.put, List.setIfInBounds_toArray, List.set_cons_zero, List.set_cons_succ]
                  refine wpAnyH_take (i := 10) (oi := ({ dst := some 113, op := Op.unOp UnOp.not 4 (Operand.tmp 112), type := 4, pos := "law.go:95", after := #[{ on := 9, ground := Ground.data }], guard := none } : Oper)) (v := ?_) rfl (by kernel_rfl) (by kernel_rfl) (by kernel_rfl) (fun _ _ _ h => h) (Or.inl ⟨by kernel_rfl, ?_⟩) (by assumption) ?_
                  rotate_left
                  · intro w hSw
                    try dsimp only at hSw
                    go_simp
                    try with_reducible rfl
                  try simp only [Act.put, List.setIfInBounds_toArray, List.set_cons_zero, List.set_cons_succ]
                  refine wpAnyH_done (by kernel_rfl) ?_ _
                  have hb69 := Hb9.out.2.2
                  have hcj9 := (hb69.cell (p := ⟨gj, oj + at', none⟩) Hcl.out.1).trans Hcl.out.2.1
                  have hbt := Hb9.out.1.2 HP.out
                  subst hbt
                  rw [Hcl.out.2.2]
                  go_wp2_with fail
                  rw [← Hcl.out.2.2]
                  go_roundg (T - (t + 1))
                  case measure => have := Ht.out.2.2.1; omega
                  case rel => exact ⟨t + 1, at' + 1, by go_num, by go_num, by omega, by omega, next_lo Ht.out.1 Hcell.out, next_hi Ht.out.2.1 H6.out.2.1 Hcell.out, rfl, Hb9.out.2.2⟩
              · have HP := hid hP
                clear hP
                obtain ⟨W0, hW0⟩ : ∃ W0, W0 = wr.drew := ⟨_, rfl⟩
                have HW0 := hid hW0
                have H00 := hid (show Below w5.heap.size w5 W0 by rw [hW0]; exact Hb37.out)
                clear hW0
                refine wp_region_held_drew (S := fun W : World => W.cell? ⟨bq, 0, none⟩ = some (.int .i64 G.start) ∧ W.cell? ⟨bq, 1, none⟩ = some (.int .i64 G.rules) ∧ W.cell? ⟨bq, 2, none⟩ = some (.slice gn' G.names.length cn') ∧ W.cell? ⟨bq, 3, none⟩ = some (.slice gt' G.terms.length ct') ∧ W.cell? ⟨bq, 4, none⟩ = some (.slice gp' G.prods.length cp')) (by kernel_rfl) (by rw [← HW0.out]; exact HQ.out _ H00.out) (fun hHeld => ?_)
                rw [← HW0.out] at hHeld ⊢
                have Hlw := hid (Hlw0.out W0 H00.out)
                have Hsz := hid (show w6.heap.size ≤ W0.heap.size by rw [HW0.out]; exact Hb36.out.size)
                have Hb60 := hid (show Below w6.heap.size w6 W0 by rw [HW0.out]; exact below_drewN Hb36.out 1)
                refine wpAnyH_take (i := 0) (oi := ({ dst := some 103, op := Op.load 33 (Operand.tmp 6), type := 33, pos := "law.go:95", after := #[], guard := none } : Oper)) (v := ?_) rfl (by kernel_rfl) (by kernel_rfl) (by kernel_rfl) (fun _ _ _ h => h) (Or.inl ⟨by kernel_rfl, ?_⟩) (by assumption) ?_
                rotate_left
                · intro w hSw
                  try dsimp only at hSw
                  go_simp
                  try with_reducible rfl
                try simp only [Act.put, List.setIfInBounds_toArray, List.set_cons_zero, List.set_cons_succ]
                refine wpAnyH_take (i := 2) (oi := ({ dst := some 105, op := Op.move (Operand.tmp 7), type := 22, pos := "law.go:95", after := #[], guard := none } : Oper)) (v := ?_) rfl (by kernel_rfl) (by kernel_rfl) (by kernel_rfl) (fun _ _ _ h => h) (Or.inl ⟨by kernel_rfl, ?_⟩) (by assumption) ?_
                rotate_left
                · intro w hSw
                  try dsimp only at hSw
                  go_simp
                  try with_reducible rfl
                try simp only [Act.put, List.setIfInBounds_toArray, List.set_cons_zero, List.set_cons_succ]
                refine wpAnyH_take (i := 3) (oi := ({ dst := some 106, op := Op.move (Operand.tmp 11), type := 3, pos := "law.go:95", after := #[], guard := none } : Oper)) (v := ?_) rfl (by kernel_rfl) (by kernel_rfl) (by kernel_rfl) (fun _ _ _ h => h) (Or.inl ⟨by kernel_rfl, ?_⟩) (by assumption) ?_
                rotate_left
                · intro w hSw
                  try dsimp only at hSw
                  go_simp
                  try with_reducible rfl
                try simp only [Act.put, List.setIfInBounds_toArray, List.set_cons_zero, List.set_cons_succ]
                refine wpAnyH_take (i := 4) (oi := ({ dst := some 107, op := Op.slice 22 (Operand.tmp 105) none (some (Operand.tmp 106)) none, type := 22, pos := "law.go:95", after := #[{ on := 2, ground := Ground.data }, { on := 3, ground := Ground.data }], guard := none } : Oper)) (v := ?_) rfl (by kernel_rfl) (by kernel_rfl) (by kernel_rfl) (fun _ _ _ h => h) (Or.inl ⟨by kernel_rfl, ?_⟩) (by assumption) ?_
                rotate_left
                · intro w hSw
                  try dsimp only at hSw
                  go_simp
                  try with_reducible rfl
                try simp only [Act.put, List.setIfInBounds_toArray, List.set_cons_zero, List.set_cons_succ]
                refine wpAnyH_take (i := 6) (oi := ({ dst := some 109, op := Op.move (Operand.tmp 14), type := 3, pos := "law.go:95", after := #[], guard := none } : Oper)) (v := ?_) rfl (by kernel_rfl) (by kernel_rfl) (by kernel_rfl) (fun _ _ _ h => h) (Or.inl ⟨by kernel_rfl, ?_⟩) (by assumption) ?_
                rotate_left
                · intro w hSw
                  try dsimp only at hSw
                  go_simp
                  try with_reducible rfl
                try simp only [Act.put, List.setIfInBounds_toArray, List.set_cons_zero, List.set_cons_succ]
                refine wpAnyH_ready (rs := [1, 7]) (by kernel_rfl) (by simp) ?_
                refine AllReadyH.cons (o := ({ dst := some 104, op := Op.buildSlice 22 0 #[], type := 22, pos := "law.go:95", after := #[], guard := none } : Oper)) rfl (fun K hK => ?_) ?_
                · go_simp
                  obtain ⟨wE, hwE⟩ : ∃ wE, wE = W0.alloc (.cells #[] 3) := ⟨_, rfl⟩
                  rw [← hwE]
                  obtain ⟨b1, hb1⟩ : ∃ b1, b1 = W0.heap.size := ⟨_, rfl⟩
                  rw [← hb1]
                  have HE := hid (emptyE (W0 := W0) hwE hb1 (Below.refl _ _))
                  have HqE := hid (belw H00.out HE.out.2.1)
                  clear hwE hb1
                  refine hK.out _ _ (HQ.out _ HqE.out) (fun hH2 => ?_)
                  clear hK K hHeld
                  have hHeld := hH2
                  clear hH2
                  try simp only [Act.put, List.setIfInBounds_toArray, List.set_cons_zero, List.set_cons_succ]
                  refine wpAnyH_ready (rs := [5, 7]) (by kernel_rfl) (by simp) ?_
                  refine AllReadyH.cons (o := ({ dst := some 108, op := Op.call { callee := Callee.builtin Builtin.append, args := #[Operand.tmp 104, Operand.tmp 107], argTypes := #[22, 22] }, type := 22, pos := "law.go:95", after := #[{ on := 1, ground := Ground.data }, { on := 4, ground := Ground.data }], guard := none } : Oper)) rfl (fun K hK => ?_) ?_
                  · obtain ⟨gA, cA, wA, hrA, hoA, hkA, hbA⟩ := app5 (W0 := W0) (cap := cap) HE.out.1 HE.out.2.1 Hlw.out i hiL HL.out (show L ≤ 1000 by omega)
                    have HrA := hid hrA
                    have HA := hid (And.intro hoA (And.intro hkA hbA))
                    have HqA := hid (belw H00.out HA.out.2.2)
                    clear hrA hoA hkA hbA
                    refine step_append_run rfl _ _ _ rfl (.slice (some ⟨b1, 0, none⟩) 0 0) (.slice ga i cap) (.slice gA i cA) wA (by go_simp) (by go_simp) (by exact HrA.out) ?_
                    refine hK.out _ _ (HQ.out _ HqA.out) (fun hH2 => ?_)
                    clear hK K hHeld
                    have hHeld := hH2
                    clear hH2
                    try simp only [Act.put, List.setIfInBounds_toArray, List.set_cons_zero, List.set_cons_succ]
                    refine wpAnyH_ready (rs := [7]) (by kernel_rfl) (by simp) ?_
                    refine AllReadyH.cons (o := ({ dst := some 110, op := Op.buildSlice 22 1 #[(0, Operand.tmp 109)], type := 22, pos := "law.go:95", after := #[{ on := 6, ground := Ground.data }], guard := none } : Oper)) rfl (fun K hK => ?_) AllReadyH.nil
                    go_simp
                    obtain ⟨wX, hwX⟩ : ∃ wX, wX = wA.alloc (.cells #[.int .i64 (t : Int)] 3) := ⟨_, rfl⟩
                    rw [← hwX]
                    obtain ⟨b2, hb2⟩ : ∃ b2, b2 = wA.heap.size := ⟨_, rfl⟩
                    rw [← hb2]
                    have HX := hid (oneX (W0 := W0) hwX hb2 HA.out.2.2)
                    have HqX := hid (belw H00.out HX.out.2.2.1)
                    clear hwX hb2
                    refine hK.out _ _ (HQ.out _ HqX.out) (fun hH2 => ?_)
                    clear hK K hHeld
                    have hHeld := hH2
                    clear hH2
                    try simp only [Act.put, List.setIfInBounds_toArray, List.set_cons_zero, List.set_cons_succ]
                    refine wpAnyH_ready (rs := [8]) (by kernel_rfl) (by simp) ?_
                    refine AllReadyH.cons (o := ({ dst := some 111, op := Op.call { callee := Callee.builtin Builtin.append, args := #[Operand.tmp 108, Operand.tmp 110], argTypes := #[22, 22] }, type := 22, pos := "law.go:95", after := #[{ on := 5, ground := Ground.data }, { on := 7, ground := Ground.data }, { on := 5, ground := Ground.chain }], guard := none } : Oper)) rfl (fun K hK => ?_) AllReadyH.nil
                    obtain ⟨gC, cC, wC, hrC, hoC, hbC⟩ := app8 (W0 := W0) (own_below HA.out.1 HX.out.2.1) HX.out.1 HX.out.2.2.1 (show i ≤ 1000 by omega)
                    have HrC := hid hrC
                    have HCw := hid (And.intro hoC hbC)
                    have HqC := hid (belw H00.out HCw.out.2)
                    clear hrC hoC hbC
                    refine step_append_run rfl _ _ _ rfl (.slice gA i cA) (.slice (some ⟨b2, 0, none⟩) 1 1) (.slice (some ⟨gC, 0, none⟩) (i + 1) cC) wC (by go_simp) (by go_simp) (by exact HrC.out) ?_
                    refine hK.out _ _ (HQ.out _ HqC.out) (fun hH2 => ?_)
                    clear hK K hHeld
                    have hHeld := hH2
                    clear hH2
                    try simp only [Act.put, List.setIfInBounds_toArray, List.set_cons_zero, List.set_cons_succ]
                    refine wpAnyH_ready (rs := [9]) (by kernel_rfl) (by simp) ?_
                    refine AllReadyH.cons (o := ({ dst := some 112, op := Op.call { callee := Callee.value (Operand.func 44), args := #[Operand.tmp 103, Operand.tmp 111], argTypes := #[33, 22] }, type := 4, pos := "law.go:95", after := #[{ on := 0, ground := Ground.data }, { on := 8, ground := Ground.data }, { on := 8, ground := Ground.chain }], guard := none } : Oper)) rfl (fun K hK => ?_) AllReadyH.nil
                    go_simp
                    go_at_call 44
                    refine (Hbeg2.out _ HqC.out gC cC i t W0.heap.size hiL HCw.out.1).mono ?_
                    rintro e w9 ⟨b, rfl, hbp, hb9⟩
                    have Hb9 := hid (And.intro hbp (And.intro (belw HqC.out hb9) (belw (belw Hb60.out HCw.out.2) hb9)))
                    clear hbp hb9
                    refine hK.out _ _ (HQ.out _ Hb9.out.2.1) (fun hH2 => ?_)
                    clear hK K hHeld
                    have hHeld := hH2
                    clear hH2
                    try simp only [Act.put, List.setIfInBounds_toArray, List.set_cons_zero, List.set_cons_succ]
                    refine wpAnyH_take (i := 10) (oi := ({ dst := some 113, op := Op.unOp UnOp.not 4 (Operand.tmp 112), type := 4, pos := "law.go:95", after := #[{ on := 9, ground := Ground.data }], guard := none } : Oper)) (v := ?_) rfl (by kernel_rfl) (by kernel_rfl) (by kernel_rfl) (fun _ _ _ h => h) (Or.inl ⟨by kernel_rfl, ?_⟩) (by assumption) ?_
                    rotate_left
                    · intro w hSw
                      try dsimp only at hSw
                      go_simp
                      try with_reducible rfl
                    try simp only [Act.put, List.setIfInBounds_toArray, List.set_cons_zero, List.set_cons_succ]
                    refine wpAnyH_done (by kernel_rfl) ?_ _
                    have hbt : b = false := by
                      cases b with
                      | false => rfl
                      | true => exact absurd (Hb9.out.1.1 rfl) HP.out
                    subst hbt
                    go_wp2_with fail
                    go_roundg (T - (t + 1))
                    case measure => have := Ht.out.2.2.1; omega
                    case rel => exact ⟨t + 1, at', by go_num, rfl, by omega, hat, (fun j z hj hz => by have := Ht.out.1 j z hj hz; omega), next_no Ht.out.2.1 (fun hz => HP.out ((H6.out.2.2.1 (t : Int)).1 hz).2), rfl, Hb9.out.2.2⟩
                  · refine AllReadyH.cons (o := ({ dst := some 110, op := Op.buildSlice 22 1 #[(0, Operand.tmp 109)], type := 22, pos := "law.go:95", after := #[{ on := 6, ground := Ground.data }], guard := none } : Oper)) rfl (fun K hK => ?_) AllReadyH.nil
                    go_simp
                    obtain ⟨wX, hwX⟩ : ∃ wX, wX = wE.alloc (.cells #[.int .i64 (t : Int)] 3) := ⟨_, rfl⟩
                    rw [← hwX]
                    obtain ⟨b2, hb2⟩ : ∃ b2, b2 = wE.heap.size := ⟨_, rfl⟩
                    rw [← hb2]
                    have HX := hid (oneX (W0 := W0) hwX hb2 HE.out.2.1)
                    have HqX := hid (belw H00.out HX.out.2.2.1)
                    clear hwX hb2
                    refine hK.out _ _ (HQ.out _ HqX.out) (fun hH2 => ?_)
                    clear hK K hHeld
                    have hHeld := hH2
                    clear hH2
                    try simp only [Act.put, List.setIfInBounds_toArray, List.set_cons_zero, List.set_cons_succ]
                    refine wpAnyH_ready (rs := [5]) (by kernel_rfl) (by simp) ?_
                    refine AllReadyH.cons (o := ({ dst := some 108, op := Op.call { callee := Callee.builtin Builtin.append, args := #[Operand.tmp 104, Operand.tmp 107], argTypes := #[22, 22] }, type := 22, pos := "law.go:95", after := #[{ on := 1, ground := Ground.data }, { on := 4, ground := Ground.data }], guard := none } : Oper)) rfl (fun K hK => ?_) AllReadyH.nil
                    obtain ⟨gA, cA, wA, hrA, hoA, hkA, hbA⟩ := app5 (W0 := W0) (cap := cap) (own_below HE.out.1 HX.out.2.1) HX.out.2.2.1 Hlw.out i hiL HL.out (show L ≤ 1000 by omega)
                    have HrA := hid hrA
                    have HA := hid (And.intro hoA (And.intro hkA hbA))
                    have HqA := hid (belw H00.out HA.out.2.2)
                    clear hrA hoA hkA hbA
                    refine step_append_run rfl _ _ _ rfl (.slice (some ⟨b1, 0, none⟩) 0 0) (.slice ga i cap) (.slice gA i cA) wA (by go_simp) (by go_simp) (by exact HrA.out) ?_
                    refine hK.out _ _ (HQ.out _ HqA.out) (fun hH2 => ?_)
                    clear hK K hHeld
                    have hHeld := hH2
                    clear hH2
                    try simp only [Act.put, List.setIfInBounds_toArray, List.set_cons_zero, List.set_cons_succ]
                    refine wpAnyH_ready (rs := [8]) (by kernel_rfl) (by simp) ?_
                    refine AllReadyH.cons (o := ({ dst := some 111, op := Op.call { callee := Callee.builtin Builtin.append, args := #[Operand.tmp 108, Operand.tmp 110], argTypes := #[22, 22] }, type := 22, pos := "law.go:95", after := #[{ on := 5, ground := Ground.data }, { on := 7, ground := Ground.data }, { on := 5, ground := Ground.chain }], guard := none } : Oper)) rfl (fun K hK => ?_) AllReadyH.nil
                    obtain ⟨gC, cC, wC, hrC, hoC, hbC⟩ := app8 (W0 := W0) HA.out.1 (keepX HE.out HX.out HA.out.2.1) HA.out.2.2 (show i ≤ 1000 by omega)
                    have HrC := hid hrC
                    have HCw := hid (And.intro hoC hbC)
                    have HqC := hid (belw H00.out HCw.out.2)
                    clear hrC hoC hbC
                    refine step_append_run rfl _ _ _ rfl (.slice gA i cA) (.slice (some ⟨b2, 0, none⟩) 1 1) (.slice (some ⟨gC, 0, none⟩) (i + 1) cC) wC (by go_simp) (by go_simp) (by exact HrC.out) ?_
                    refine hK.out _ _ (HQ.out _ HqC.out) (fun hH2 => ?_)
                    clear hK K hHeld
                    have hHeld := hH2
                    clear hH2
                    try simp only [Act.put, List.setIfInBounds_toArray, List.set_cons_zero, List.set_cons_succ]
                    refine wpAnyH_ready (rs := [9]) (by kernel_rfl) (by simp) ?_
                    refine AllReadyH.cons (o := ({ dst := some 112, op := Op.call { callee := Callee.value (Operand.func 44), args := #[Operand.tmp 103, Operand.tmp 111], argTypes := #[33, 22] }, type := 4, pos := "law.go:95", after := #[{ on := 0, ground := Ground.data }, { on := 8, ground := Ground.data }, { on := 8, ground := Ground.chain }], guard := none } : Oper)) rfl (fun K hK => ?_) AllReadyH.nil
                    go_simp
                    go_at_call 44
                    refine (Hbeg2.out _ HqC.out gC cC i t W0.heap.size hiL HCw.out.1).mono ?_
                    rintro e w9 ⟨b, rfl, hbp, hb9⟩
                    have Hb9 := hid (And.intro hbp (And.intro (belw HqC.out hb9) (belw (belw Hb60.out HCw.out.2) hb9)))
                    clear hbp hb9
                    refine hK.out _ _ (HQ.out _ Hb9.out.2.1) (fun hH2 => ?_)
                    clear hK K hHeld
                    have hHeld := hH2
                    clear hH2
                    try simp only [Act.put, List.setIfInBounds_toArray, List.set_cons_zero, List.set_cons_succ]
                    refine wpAnyH_take (i := 10) (oi := ({ dst := some 113, op := Op.unOp UnOp.not 4 (Operand.tmp 112), type := 4, pos := "law.go:95", after := #[{ on := 9, ground := Ground.data }], guard := none } : Oper)) (v := ?_) rfl (by kernel_rfl) (by kernel_rfl) (by kernel_rfl) (fun _ _ _ h => h) (Or.inl ⟨by kernel_rfl, ?_⟩) (by assumption) ?_
                    rotate_left
                    · intro w hSw
                      try dsimp only at hSw
                      go_simp
                      try with_reducible rfl
                    try simp only [Act.put, List.setIfInBounds_toArray, List.set_cons_zero, List.set_cons_succ]
                    refine wpAnyH_done (by kernel_rfl) ?_ _
                    have hbt : b = false := by
                      cases b with
                      | false => rfl
                      | true => exact absurd (Hb9.out.1.1 rfl) HP.out
                    subst hbt
                    go_wp2_with fail
                    go_roundg (T - (t + 1))
                    case measure => have := Ht.out.2.2.1; omega
                    case rel => exact ⟨t + 1, at', by go_num, rfl, by omega, hat, (fun j z hj hz => by have := Ht.out.1 j z hj hz; omega), next_no Ht.out.2.1 (fun hz => HP.out ((H6.out.2.2.1 (t : Int)).1 hz).2), rfl, Hb9.out.2.2⟩
                · refine AllReadyH.cons (o := ({ dst := some 110, op := Op.buildSlice 22 1 #[(0, Operand.tmp 109)], type := 22, pos := "law.go:95", after := #[{ on := 6, ground := Ground.data }], guard := none } : Oper)) rfl (fun K hK => ?_) AllReadyH.nil
                  go_simp
                  obtain ⟨wX, hwX⟩ : ∃ wX, wX = W0.alloc (.cells #[.int .i64 (t : Int)] 3) := ⟨_, rfl⟩
                  rw [← hwX]
                  obtain ⟨b2, hb2⟩ : ∃ b2, b2 = W0.heap.size := ⟨_, rfl⟩
                  rw [← hb2]
                  have HX := hid (oneX (W0 := W0) hwX hb2 (Below.refl _ _))
                  have HqX := hid (belw H00.out HX.out.2.2.1)
                  clear hwX hb2
                  refine hK.out _ _ (HQ.out _ HqX.out) (fun hH2 => ?_)
                  clear hK K hHeld
                  have hHeld := hH2
                  clear hH2
                  try simp only [Act.put, List.setIfInBounds_toArray, List.set_cons_zero, List.set_cons_succ]
                  refine wpAnyH_ready (rs := [1]) (by kernel_rfl) (by simp) ?_
                  refine AllReadyH.cons (o := ({ dst := some 104, op := Op.buildSlice 22 0 #[], type := 22, pos := "law.go:95", after := #[], guard := none } : Oper)) rfl (fun K hK => ?_) AllReadyH.nil
                  go_simp
                  obtain ⟨wE, hwE⟩ : ∃ wE, wE = wX.alloc (.cells #[] 3) := ⟨_, rfl⟩
                  rw [← hwE]
                  obtain ⟨b1, hb1⟩ : ∃ b1, b1 = wX.heap.size := ⟨_, rfl⟩
                  rw [← hb1]
                  have HE := hid (emptyE (W0 := W0) hwE hb1 HX.out.2.2.1)
                  have HqE := hid (belw H00.out HE.out.2.1)
                  clear hwE hb1
                  refine hK.out _ _ (HQ.out _ HqE.out) (fun hH2 => ?_)
                  clear hK K hHeld
                  have hHeld := hH2
                  clear hH2
                  try simp only [Act.put, List.setIfInBounds_toArray, List.set_cons_zero, List.set_cons_succ]
                  refine wpAnyH_ready (rs := [5]) (by kernel_rfl) (by simp) ?_
                  refine AllReadyH.cons (o := ({ dst := some 108, op := Op.call { callee := Callee.builtin Builtin.append, args := #[Operand.tmp 104, Operand.tmp 107], argTypes := #[22, 22] }, type := 22, pos := "law.go:95", after := #[{ on := 1, ground := Ground.data }, { on := 4, ground := Ground.data }], guard := none } : Oper)) rfl (fun K hK => ?_) AllReadyH.nil
                  obtain ⟨gA, cA, wA, hrA, hoA, hkA, hbA⟩ := app5 (W0 := W0) (cap := cap) HE.out.1 HE.out.2.1 Hlw.out i hiL HL.out (show L ≤ 1000 by omega)
                  have HrA := hid hrA
                  have HA := hid (And.intro hoA (And.intro hkA hbA))
                  have HqA := hid (belw H00.out HA.out.2.2)
                  clear hrA hoA hkA hbA
                  refine step_append_run rfl _ _ _ rfl (.slice (some ⟨b1, 0, none⟩) 0 0) (.slice ga i cap) (.slice gA i cA) wA (by go_simp) (by go_simp) (by exact HrA.out) ?_
                  refine hK.out _ _ (HQ.out _ HqA.out) (fun hH2 => ?_)
                  clear hK K hHeld
                  have hHeld := hH2
                  clear hH2
                  try simp only [Act.put, List.setIfInBounds_toArray, List.set_cons_zero, List.set_cons_succ]
                  refine wpAnyH_ready (rs := [8]) (by kernel_rfl) (by simp) ?_
                  refine AllReadyH.cons (o := ({ dst := some 111, op := Op.call { callee := Callee.builtin Builtin.append, args := #[Operand.tmp 108, Operand.tmp 110], argTypes := #[22, 22] }, type := 22, pos := "law.go:95", after := #[{ on := 5, ground := Ground.data }, { on := 7, ground := Ground.data }, { on := 5, ground := Ground.chain }], guard := none } : Oper)) rfl (fun K hK => ?_) AllReadyH.nil
                  obtain ⟨gC, cC, wC, hrC, hoC, hbC⟩ := app8 (W0 := W0) HA.out.1 (keepX3 HX.out HE.out HA.out.2.1) HA.out.2.2 (show i ≤ 1000 by omega)
                  have HrC := hid hrC
                  have HCw := hid (And.intro hoC hbC)
                  have HqC := hid (belw H00.out HCw.out.2)
                  clear hrC hoC hbC
                  refine step_append_run rfl _ _ _ rfl (.slice gA i cA) (.slice (some ⟨b2, 0, none⟩) 1 1) (.slice (some ⟨gC, 0, none⟩) (i + 1) cC) wC (by go_simp) (by go_simp) (by exact HrC.out) ?_
                  refine hK.out _ _ (HQ.out _ HqC.out) (fun hH2 => ?_)
                  clear hK K hHeld
                  have hHeld := hH2
                  clear hH2
                  try simp only [Act.put, List.setIfInBounds_toArray, List.set_cons_zero, List.set_cons_succ]
                  refine wpAnyH_ready (rs := [9]) (by kernel_rfl) (by simp) ?_
                  refine AllReadyH.cons (o := ({ dst := some 112, op := Op.call { callee := Callee.value (Operand.func 44), args := #[Operand.tmp 103, Operand.tmp 111], argTypes := #[33, 22] }, type := 4, pos := "law.go:95", after := #[{ on := 0, ground := Ground.data }, { on := 8, ground := Ground.data }, { on := 8, ground := Ground.chain }], guard := none } : Oper)) rfl (fun K hK => ?_) AllReadyH.nil
                  go_simp
                  go_at_call 44
                  refine (Hbeg2.out _ HqC.out gC cC i t W0.heap.size hiL HCw.out.1).mono ?_
                  rintro e w9 ⟨b, rfl, hbp, hb9⟩
                  have Hb9 := hid (And.intro hbp (And.intro (belw HqC.out hb9) (belw (belw Hb60.out HCw.out.2) hb9)))
                  clear hbp hb9
                  refine hK.out _ _ (HQ.out _ Hb9.out.2.1) (fun hH2 => ?_)
                  clear hK K hHeld
                  have hHeld := hH2
                  clear hH2
                  try simp only [Act.put, List.setIfInBounds_toArray, List.set_cons_zero, List.set_cons_succ]
                  refine wpAnyH_take (i := 10) (oi := ({ dst := some 113, op := Op.unOp UnOp.not 4 (Operand.tmp 112), type := 4, pos := "law.go:95", after := #[{ on := 9, ground := Ground.data }], guard := none } : Oper)) (v := ?_) rfl (by kernel_rfl) (by kernel_rfl) (by kernel_rfl) (fun _ _ _ h => h) (Or.inl ⟨by kernel_rfl, ?_⟩) (by assumption) ?_
                  rotate_left
                  · intro w hSw
                    try dsimp only at hSw
                    go_simp
                    try with_reducible rfl
                  try simp only [Act.put, List.setIfInBounds_toArray, List.set_cons_zero, List.set_cons_succ]
                  refine wpAnyH_done (by kernel_rfl) ?_ _
                  have hbt : b = false := by
                    cases b with
                    | false => rfl
                    | true => exact absurd (Hb9.out.1.1 rfl) HP.out
                  subst hbt
                  go_wp2_with fail
                  go_roundg (T - (t + 1))
                  case measure => have := Ht.out.2.2.1; omega
                  case rel => exact ⟨t + 1, at', by go_num, rfl, by omega, hat, (fun j z hj hz => by have := Ht.out.1 j z hj hz; omega), next_no Ht.out.2.1 (fun hz => HP.out ((H6.out.2.2.1 (t : Int)).1 hz).2), rfl, Hb9.out.2.2⟩
            · have htTI : ¬ (t : Int) < (T : Int) := by omega
              have hatS : at' = S := next_end Ht.out.2.1 hat H6.out.2.2.2 (fun z hz => by
                have := ((H6.out.2.2.1 z).1 hz).2.low (t := G.terms.length) Hsn.out.r0 Hsn.out.s0 z (by simp)
                have := HT.out
                omega)
              subst hatS
              go_wp2_with fail
              go_roundg (L + 1 - (i + 1))
              case measure => have := Hk2.out.1; omega
              case rel => exact ⟨i + 1, by go_num, by omega, rfl, belw Hb6.out Ht.out.2.2.2⟩
        · go_wp2_with fail
          go_ret
          exact ⟨rfl, belw H5.out.2.2.2 Hk2.out.2⟩
end Ed
end Go.Proofs.Ytaehooafdbaomaa
