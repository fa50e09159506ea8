/- Chapter 9 (facts): Shortest: law and walk. -/
import Derived.Test.YtaehooafdbaomaaRepeat
import Derived.Test.YtaehooafdbaomaaClone5
namespace Go.Proofs.Ytaehooafdbaomaa
open Go.RowKit
attribute [local go_sem ↓] Go.wp_at_zero Go.wp_at_succ
attribute [local go_sem] frozen_alloc_lt

namespace Facts
def sumS (f : Int → Int) : List Int → Int → Int
  | [], n => n
  | s :: r, n => sumS f r (min (n + (if 0 ≤ s then f s else 1)) bound)
/-- A length that a nonterminal has by some derivation. -/
inductive Lens (ps : List (Int × List Int)) : Int → Int → Prop
  | mk (x : Int × List Int) (hx : x ∈ ps) (f : Int → Int) (h : ∀ s ∈ x.2, 0 ≤ s → Lens ps s (f s)) : Lens ps x.1 (sumS f x.2 0)

def atK (ks : List Int) (a : Int) : Int := ks.getD a.toNat 0

/-- What holds of the lengths all along. -/
structure Sho (ps : List (Int × List Int)) (n : Nat) (ks : List Int) : Prop where
  len : ks.length = n
  rng : ∀ k ∈ ks, -1 ≤ k ∧ k ≤ 1099511627776
  fnd : ∀ a : Int, 0 ≤ a → a < n → 0 ≤ atK ks a → Lens ps a (atK ks a)
/-- Nothing is shorter. -/
def fixS (ps : List (Int × List Int)) (ks : List Int) : Prop := ∀ x ∈ ps, ∀ m, lengthS ks x.2 0 = some m → 0 ≤ atK ks x.1 ∧ atK ks x.1 ≤ m

/-- How much shorter it may still get. -/
def potS : List Int → Nat
  | [] => 0
  | k :: r => (if k < 0 then 1099511627777 else k.toNat) + potS r

theorem potS_set : ∀ (ks : List Int) (a : Nat) (k m : Int), ks[a]? = some k → 0 ≤ m → (k < 0 ∧ m ≤ 1099511627776 ∨ m < k) → potS (ks.set a m) < potS ks
  | [], a, k, m, h, _, _ => by simp at h
  | k0 :: r, 0, k, m, h, h0, h1 => by
    simp at h
    subst h
    simp only [List.set_cons_zero, potS]
    split <;> split <;> omega
  | k0 :: r, a + 1, k, m, h, h0, h1 => by
    have := potS_set r a k m (by simpa using h) h0 h1
    simp only [List.set_cons_succ, potS]
    omega

theorem lengthS_some (ks : List Int) : ∀ (r : List Int) (n : Int) (f : Int → Int), 0 ≤ n → (∀ s ∈ r, 0 ≤ s → 0 ≤ atK ks s ∧ atK ks s ≤ f s) → ∃ m, lengthS ks r n = some m ∧ m ≤ sumS f r n
  | [], n, f, _, _ => ⟨n, rfl, Int.le_refl _⟩
  | s :: r, n, f, hn, h => by
    unfold lengthS sumS
    by_cases hs : 0 ≤ s
    · obtain ⟨h1, h2⟩ := h s (by simp) hs
      unfold atK at h1 h2
      simp only [hs, if_true]
      rw [if_neg (by omega)]
      have key : ∀ (r : List Int) (a b : Int), 0 ≤ a → a ≤ b → (∀ s ∈ r, 0 ≤ s → 0 ≤ atK ks s ∧ atK ks s ≤ f s) → ∃ m, lengthS ks r a = some m ∧ m ≤ sumS f r b := by
        intro r
        induction r with
        | nil => intro a b _ hab _; exact ⟨a, rfl, hab⟩
        | cons t r ih =>
          intro a b ha hab hh
          unfold lengthS sumS
          by_cases ht : 0 ≤ t
          · obtain ⟨h3, h4⟩ := hh t (by simp) ht
            unfold atK at h3 h4
            simp only [ht, if_true]
            rw [if_neg (by omega)]
            exact ih _ _ (by unfold bound; omega) (by unfold bound; omega) (fun s hs => hh s (by simp [hs]))
          · simp only [ht, if_false]
            rw [if_neg (by omega)]
            exact ih _ _ (by unfold bound; omega) (by unfold bound; omega) (fun s hs => hh s (by simp [hs]))
      exact key r _ _ (by unfold bound; omega) (by unfold bound; omega) (fun s hs => h s (by simp [hs]))
    · simp only [hs, if_false]
      rw [if_neg (by omega)]
      exact lengthS_some ks r _ f (by unfold bound; omega) (fun s hs => h s (by simp [hs]))

/-- Nothing derives less than a fixed table says. -/
theorem fixS_le {ps : List (Int × List Int)} {ks : List Int} (hf : fixS ps ks) {a m : Int} (h : Lens ps a m) : 0 ≤ atK ks a ∧ atK ks a ≤ m := by
  induction h with
  | mk x hx f h ih =>
    obtain ⟨m, h1, h2⟩ := lengthS_some ks x.2 0 f (by omega) (fun s hs h0 => ih s hs h0)
    have := hf x hx m h1
    omega

theorem lengthS_bound (ks : List Int) : ∀ (r : List Int) (n m : Int), 0 ≤ n → n ≤ 1099511627776 → lengthS ks r n = some m → 0 ≤ m ∧ m ≤ 1099511627776
  | [], n, m, h0, h1, h => by simp [lengthS] at h; omega
  | s :: r, n, m, h0, h1, h => by
    unfold lengthS at h
    simp only at h
    by_cases hk : (if 0 ≤ s then ks.getD s.toNat 0 else 1) < 0
    · rw [if_pos hk] at h; cases h
    · rw [if_neg hk] at h
      exact lengthS_bound ks r _ m (by unfold bound; omega) (by unfold bound; omega) h

theorem lengthS_sum (ks : List Int) : ∀ (r : List Int) (n m : Int), lengthS ks r n = some m → m = sumS (atK ks) r n ∧ ∀ s ∈ r, 0 ≤ s → 0 ≤ atK ks s
  | [], n, m, h => by simp [lengthS] at h; exact ⟨h.symm, by simp⟩
  | s :: r, n, m, h => by
    unfold lengthS at h
    simp only at h
    by_cases hk : (if 0 ≤ s then ks.getD s.toNat 0 else 1) < 0
    · rw [if_pos hk] at h; cases h
    · rw [if_neg hk] at h
      obtain ⟨h1, h2⟩ := lengthS_sum ks r _ m h
      refine ⟨by rw [h1]; rfl, fun t ht h0 => ?_⟩
      rcases List.mem_cons.1 ht with rfl | ht
      · rw [if_pos h0] at hk; unfold atK; omega
      · exact h2 t ht h0

theorem Sho.start (ps : List (Int × List Int)) (n : Nat) : Sho ps n (List.replicate n (-1)) := by
  refine ⟨by simp, fun k hk => by rw [(List.mem_replicate.1 hk).2]; omega, fun a h0 h1 h2 => ?_⟩
  unfold atK at h2
  simp [List.getD, show a.toNat < n by omega] at h2

theorem atK_set (ks : List Int) (l a m : Int) (hl : 0 ≤ l) (hn : l.toNat < ks.length) (ha : 0 ≤ a) : atK (ks.set l.toNat m) a = if a = l then m else atK ks a := by
  unfold atK
  by_cases h : a = l
  · subst h
    simp [List.getD, List.getElem?_set_self hn]
  · have : l.toNat ≠ a.toNat := by omega
    simp [List.getD, List.getElem?_set_ne this, h]

theorem Sho.put {ps : List (Int × List Int)} {n : Nat} {ks : List Int} (h : Sho ps n ks) {x : Int × List Int} (hx : x ∈ ps) (h0 : 0 ≤ x.1) (h1 : x.1 < n) {m : Int} (hm : lengthS ks x.2 0 = some m)
    (hin : ∀ s ∈ x.2, s < n) : Sho ps n (ks.set x.1.toNat m) := by
  have hn : x.1.toNat < ks.length := by rw [h.len]; omega
  have hb := lengthS_bound ks x.2 0 m (by omega) (by omega) hm
  obtain ⟨e, hs⟩ := lengthS_sum ks x.2 0 m hm
  refine ⟨by rw [List.length_set]; exact h.len, fun k hk => ?_, fun a ha hb' hc => ?_⟩
  · rcases List.mem_or_eq_of_mem_set hk with hk | rfl
    · exact h.rng k hk
    · omega
  · rw [atK_set ks x.1 a m h0 hn ha] at hc ⊢
    split
    · rename_i ea
      rw [ea, e]
      exact Lens.mk x hx (atK ks) (fun s hs' h0' => h.fnd s h0' (hin s hs') (hs s hs' h0'))
    · rename_i ea
      rw [if_neg ea] at hc
      exact h.fnd a ha hb' hc

/-- Two fixed tables agree. -/
theorem Sho.same {ps : List (Int × List Int)} {n : Nat} {ks ks' : List Int} (h : Sho ps n ks) (h' : Sho ps n ks') (hf : fixS ps ks) (hf' : fixS ps ks') : ks = ks' := by
  have key : ∀ (ks ks' : List Int), Sho ps n ks → Sho ps n ks' → fixS ps ks → fixS ps ks' → ∀ a : Nat, a < n → atK ks a ≥ 0 → atK ks' a ≥ 0 ∧ atK ks' a ≤ atK ks a := by
    intro ks ks' h h' hf hf' a ha h0
    exact fixS_le hf' (h.fnd a (by omega) (by omega) h0)
  refine List.ext_getElem (by rw [h.len, h'.len]) fun a ha ha' => ?_
  have han : a < n := by rw [← h.len]; exact ha
  have e1 : atK ks a = ks[a] := by simp [atK, List.getD, List.getElem?_eq_getElem ha]
  have e2 : atK ks' a = ks'[a] := by simp [atK, List.getD, List.getElem?_eq_getElem ha']
  have r1 := h.rng ks[a] (List.getElem_mem ha)
  have r2 := h'.rng ks'[a] (List.getElem_mem ha')
  have k1 := key ks ks' h h' hf hf' a han
  have k2 := key ks' ks h' h hf' hf a han
  rw [e1, e2] at k1 k2
  omega
end Facts

def Sho1 (wd : World) (b g n : Nat) (ps : List (Int × List Int)) (k : Nat) (v4 : Value) (w : World) : Prop :=
  ∃ (ks : List Int) (more : Bool), v4 = .bool more ∧ Bk w g 3 (ks.map (Value.int .i64)) ∧ Facts.Sho ps n ks ∧ (more = false → Facts.fixS ps ks) ∧ k = 2 * Facts.potS ks + (if more then 1 else 0) ∧ Below (b + 1) wd w
def Sho2 (wd : World) (b g n : Nat) (ps : List (Int × List Int)) (P : Nat) (k : Nat) (v4 v21 : Value) (w : World) : Prop :=
  ∃ (i : Nat) (ks : List Int) (more : Bool), v21 = .int .i64 i ∧ v4 = .bool more ∧ i ≤ ps.length ∧ Bk w g 3 (ks.map (Value.int .i64)) ∧ Facts.Sho ps n ks ∧
    (more = false → ∀ (j : Nat) x, j < i → ps[j]? = some x → ∀ m, Facts.lengthS ks x.2 0 = some m → 0 ≤ Facts.atK ks x.1 ∧ Facts.atK ks x.1 ≤ m) ∧ (if more then Facts.potS ks < P else Facts.potS ks ≤ P) ∧ k = ps.length - i ∧ Below (b + 1) wd w

def ShoPost (w : World) (G : Gr) (e : Ending) (w' : World) : Prop :=
  Below w.heap.size w w' ∧ ((Pl.soundB G = false ∧ e = .returned (.slice none 0 0)) ∨ (Pl.soundB G = true ∧ ∃ (g cap : Nat) (ks : List Int), e = .returned (.slice (some ⟨g, 0, none⟩) G.names.length cap) ∧ w.heap.size ≤ g ∧ Bk w' g 3 (ks.map (Value.int .i64)) ∧
    Facts.Sho G.prods G.names.length ks ∧ Facts.fixS G.prods ks))

theorem length_is {_w : World} {e : Ending} {w' : World} {r r' : Option Int} {ww : World} (h : r = r') (hh : e = .returned (lenV r) ∧ w' = ww) : e = .returned (lenV r') ∧ w' = ww := h ▸ hh

set_option maxHeartbeats 8000000 in
set_option maxRecDepth 100000 in
theorem shortest_calls (w : World) (G : Gr) (gn gt gp : Option Addr) (cn ct cp : Nat) (hn : RowS w w.heap.size gn G.names) (ht : RowS w w.heap.size gt G.terms) (hp : RowP w w.heap.size gp G.prods)
    (h1 : G.names.length ≤ 9223372036854775807) (h2 : G.terms.length ≤ 9223372036854775807) (h3 : G.prods.length ≤ 9223372036854775807) (h4 : ∀ x ∈ G.prods, x.2.length ≤ 9223372036854775807) :
    Calls Try.prog 58 #[.agg #[.int .i64 G.start, .int .i64 G.rules, .slice gn G.names.length cn, .slice gt G.terms.length ct, .slice gp G.prods.length cp]] w (ShoPost w G) := by
  have H4 := hid h4
  clear h4
  cases hs : Pl.soundB G with
  | false =>
    have Hs := hid hs
    clear hs
    obtain ⟨st, ru, ns, ts, ps⟩ := G
    simp only at *
    have hb0 : Below w.heap.size w (w.alloc (.cells #[.int .i64 st, .int .i64 ru, .slice gn ns.length cn, .slice gt ts.length ct, .slice gp ps.length cp] 30)) := (Below.refl _ _).alloc (Nat.le_refl _) _
    have hn0' := hn.below hb0
    have ht0' := ht.below hb0
    have hp0' := hp.below hb0
    clear hn ht hp
    go_enter Try.func58, Try.ntmps58
    go_wp2_with (go_at_call 61; refine (sound_is _ _ ⟨st, ru, ns, ts, ps⟩ gn gt gp cn ct cp false Hs.out hn0' ht0' hp0' (by simp) h1 h2 h3 H4.out).mono ?_; rintro e w1 ⟨rfl, hb1⟩)
    go_ret
    exact ⟨hb0.trans (hb1.mono hb0.size), .inl ⟨Hs.out, rfl⟩⟩
  | true =>
    have hsg := sndG hs
    have Hsg := hid hsg
    have Hs := hid hs
    clear hs
    obtain ⟨hn0, hn1, ht1, hp1, -, -, -, -, -, -, -⟩ := hsg
    obtain ⟨st, ru, ns, ts, ps⟩ := G
    simp only at *
    have hb0 : Below w.heap.size w (w.alloc (.cells #[.int .i64 st, .int .i64 ru, .slice gn ns.length cn, .slice gt ts.length ct, .slice gp ps.length cp] 30)) := (Below.refl _ _).alloc (Nat.le_refl _) _
    have hn0' := hn.below hb0
    have ht0' := ht.below hb0
    have hp0' := hp.below hb0
    have hbk : Bk (w.alloc (.cells #[.int .i64 st, .int .i64 ru, .slice gn ns.length cn, .slice gt ts.length ct, .slice gp ps.length cp] 30)) w.heap.size 30 [.int .i64 st, .int .i64 ru, .slice gn ns.length cn, .slice gt ts.length ct, .slice gp ps.length cp] := Bk.new w _ _
    go_enter Try.func58, Try.ntmps58
    go_upto_region 1 with (fail)
    obtain ⟨wd, hwd⟩ : ∃ wd, wd = (w.alloc (.cells #[.int .i64 st, .int .i64 ru, .slice gn ns.length cn, .slice gt ts.length ct, .slice gp ps.length cp] 30)) := ⟨_, rfl⟩
    obtain ⟨b, hbb⟩ : ∃ b, b = w.heap.size := ⟨_, rfl⟩
    have hzd : wd.heap.size = b + 1 := by rw [hwd, hbb]; simp
    rw [← hwd] at hb0 hn0' ht0' hp0' hbk ⊢
    rw [← hbb] at hbk hn0' ht0' hp0' ⊢
    have Hbb := hid hbb
    have Hzd := hid hzd
    clear hwd hbb hzd hp hn ht
    have g0 := hbk.cell 0
    have g1 := hbk.cell 1
    have g2 := hbk.cell 2
    have g3 := hbk.cell 3
    have g4 := hbk.cell 4
    simp only [List.getElem?_cons_zero, List.getElem?_cons_succ] at g0 g1 g2 g3 g4
    go_upto_region 3 with (go_at_call 61; refine (sound_is wd b ⟨st, ru, ns, ts, ps⟩ gn gt gp cn ct cp true Hs.out hn0' ht0' hp0' (by rw [Hzd.out]; omega) h1 h2 h3 H4.out).mono ?_; rintro e w1 ⟨rfl, hb1⟩)
    have hB1 : Below (b + 1) wd w1 := hb1.mono (by rw [Hzd.out]; omega)
    have hbk1 := hbk.below hB1 (by omega)
    have hz1 : b + 1 ≤ w1.heap.size := by have := hb1.size; rw [Hzd.out] at this; exact this
    clear hb1 g0 g1 g2 g3 g4
    have g2 := hbk1.cell 2
    have g4 := hbk1.cell 4
    simp only [List.getElem?_cons_zero, List.getElem?_cons_succ] at g2 g4
    have g2' := (hbk1.alloc (.cells #[.int .i64 (-1)] 3)).cell 2
    simp only [List.getElem?_cons_zero, List.getElem?_cons_succ] at g2'
    go_upto_region 4 with (go_at_call 99; refine (repeat_calls _ _ 1 (-1) ns.length (by simp) hn0 (by omega)).mono ?_; rintro e w2 ⟨g, rfl, hg, hbg, hb2⟩)
    have hb2' : Below (b + 1) wd w2 := (hB1.alloc hz1 (.cells #[.int .i64 (-1)] 3)).trans (hb2.mono (by simp; omega))
    have hgb : b + 1 ≤ g := by simp at hg; omega
    have hbk2 := hbk.below hb2' (by omega)
    clear g2 g2' g4 hbk1 hB1 hb2 hg
    have Hhz := hid hz1
    clear hz1
    have g4 := hbk2.cell 4
    simp only [List.getElem?_cons_zero, List.getElem?_cons_succ] at g4
    go_wp2_with fail
    clear g4 hbk2
    go_loopg [4] (2 * Facts.potS (List.replicate ns.length (-1)) + 1) (fun k v4 wr => Sho1 wd b g ns.length ps k v4 wr)
    case atStart => exact ⟨_, true, rfl, hbg, Facts.Sho.start ps ns.length, (fun h => by cases h), rfl, hb2'⟩
    case round =>
      clear hbg hb2'
      obtain ⟨ks, more, rfl, hkg, hsho, hfix, hk, hb⟩ := hrel
      have Hk := hid hk
      have Hsho := hid hsho
      have Hfix : Hid (more = false → Facts.fixS ps ks) := hid hfix
      clear hk hsho hfix
      have hbkr := hbk.below hb (by omega)
      have g4 := hbkr.cell 4
      simp only [List.getElem?_cons_zero, List.getElem?_cons_succ] at g4
      rcases Bool.eq_false_or_eq_true more with hmr | hmr
      rotate_left
      · have hfx := Hid.out Hfix hmr
        have Hfx := hid hfx
        subst hmr
        clear Hfix hfx
        go_wp2_with fail
        go_ret
        exact ⟨hb0.trans (hb.mono (by rw [← Hbb.out]; omega)), .inr ⟨Hs.out, g, _, ks, rfl, by rw [← Hbb.out]; omega, hkg, Hsho.out, Hfx.out⟩⟩
      · subst hmr
        clear Hfix
        go_wp2_with fail
        clear g4 hbkr
        go_loopg [4, 21] ps.length (fun k v4 v21 wr => Sho2 wd b g ns.length ps (Facts.potS ks) k v4 v21 wr)
        case atStart => exact ⟨0, ks, false, rfl, rfl, by omega, hkg, Hsho.out, fun _ j x hj => by omega, by simp, rfl, hb⟩
        case round =>
          clear hkg hb
          obtain ⟨i, ks2, more, rfl, rfl, hi, hkg, hsho, hfix, hpot, hki, hb⟩ := hrel
          have Hki := hid hki
          have Hsho2 := hid hsho
          have Hfix2 : Hid (more = false → ∀ (j : Nat) (x : Int × List Int), j < i → ps[j]? = some x → ∀ m, Facts.lengthS ks2 x.2 0 = some m → 0 ≤ Facts.atK ks2 x.1 ∧ Facts.atK ks2 x.1 ≤ m) := hid hfix
          have Hpot := hid hpot
          clear hki hsho hfix hpot
          have hzr : b + 1 ≤ wr.heap.size := by have := hb.size; rw [Hzd.out] at this; exact this
          by_cases hlt : i < ps.length
          · have hlt' : (i : Int) < (ps.length : Int) := by omega
            obtain ⟨x, hx⟩ : ∃ x, x = ps[i] := ⟨_, rfl⟩
            have hxm : x ∈ ps := by rw [hx]; exact List.getElem_mem hlt
            have hxi : ps[i]? = some x := by rw [hx]; exact List.getElem?_eq_getElem hlt
            have hr16 := Hsg.out.r16 x hxm
            have hl0 := Hsg.out.l0 x hxm
            have hl1 : x.1 < (ns.length : Int) := Hsg.out.l1 x hxm
            have Hs0 := hid (Hsg.out.r0 x hxm)
            have Hs1 := hid (Hsg.out.r1 x hxm)
            obtain ⟨g', off, gr, cr, rfl, hg', hd0, hd1, hrid⟩ := hp0' i _ hxi
            have hc0 := (hb.cell (p := ⟨g', off + i * 2, none⟩) (show g' < b + 1 by omega)).trans hd0
            have hc1 := (hb.cell (p := ⟨g', off + i * 2 + 1, none⟩) (show g' < b + 1 by omega)).trans hd1
            obtain ⟨l, r⟩ := x
            simp only at hr16 hl0 hl1 hc0 hc1 hrid
            obtain ⟨a, rfl⟩ := Int.eq_ofNat_of_zero_le hl0
            have Hxi := hid hxi
            have Hxm := hid hxm
            clear hx hxi hxm hd0 hd1
            go_upto_region 10 with fail
            have hxk := Bk.new wr 97 [.int .i64 a, .slice gr r.length cr]
            have hkg1 := hkg.alloc (.cells #[.int .i64 a, .slice gr r.length cr] 97)
            have hbx : Below (b + 1) wd (wr.alloc (.cells #[.int .i64 a, .slice gr r.length cr] 97)) := hb.alloc hzr _
            obtain ⟨wx, hwx⟩ : ∃ wx, wx = wr.alloc (.cells #[.int .i64 a, .slice gr r.length cr] 97) := ⟨_, rfl⟩
            obtain ⟨cx, hcx⟩ : ∃ cx, cx = wr.heap.size := ⟨_, rfl⟩
            rw [← hwx, ← hcx] at hxk
            rw [← hwx] at hkg1 hbx
            rw [← hwx, ← hcx]
            have hcb : b + 1 ≤ cx := by omega
            have hgx : g ≠ cx := by have := hkg.lt; omega
            clear hwx hcx hkg hb hc0 hc1 hzr
            have x0 := hxk.cell 0
            have x1 := hxk.cell 1
            simp only [List.getElem?_cons_zero, List.getElem?_cons_succ] at x0 x1
            have hzx : b + 1 ≤ wx.heap.size := by have := hxk.lt; omega
            have hri := hrid.below (hbx.mono (by omega))
            have hkl : ks2.length = ns.length := Hsho2.out.len
            have hka : a < ks2.length := by omega
            have hlen := length_calls wx a gr (some ⟨g, 0, none⟩) cr ns.length r ks2 (hri.mono (by omega)) (bk_rowI hkg1) (by omega) (by omega) (fun s hs => by have := Hs1.out s hs; simp only at this; omega) (fun s hs => by have := Hs0.out s hs; simp only at this; omega) Hsho2.out.rng
            rw [hkl] at hlen
            have Hlen := hid hlen
            have hkk : ks2[a]? = some ks2[a] := List.getElem?_eq_getElem hka
            obtain ⟨kv, hkv⟩ : ∃ kv, kv = ks2[a] := ⟨_, rfl⟩
            rw [← hkv] at hkk
            have hat : Facts.atK ks2 a = kv := by simp [Facts.atK, List.getD, hkk]
            have hkvr := Hsho2.out.rng kv (by rw [hkv]; exact List.getElem_mem hka)
            have Hkk := hid hkk
            have Hat := hid hat
            have Hkl := hid hkl
            clear hlen hkk hat hkl hkv hri
            have Hf2 : Hid (more = false → ∀ (j : Nat) (x : Int × List Int), j < i → ps[j]? = some x → ∀ m, Facts.lengthS ks2 x.2 0 = some m → 0 ≤ Facts.atK ks2 x.1 ∧ Facts.atK ks2 x.1 ≤ m) := Hfix2
            clear Hfix2
            have hnext : ∀ (hno : ∀ m, Facts.lengthS ks2 r 0 = some m → 0 ≤ kv ∧ kv ≤ m), more = false → ∀ (j : Nat) (x : Int × List Int), j < i + 1 → ps[j]? = some x → ∀ m, Facts.lengthS ks2 x.2 0 = some m → 0 ≤ Facts.atK ks2 x.1 ∧ Facts.atK ks2 x.1 ≤ m := by
              intro hno hm j x hj hx m hlm
              by_cases hji : j = i
              · subst hji
                have hxx := Hxi.out
                rw [hx] at hxx
                injection hxx with hxx
                subst hxx
                rw [Hat.out]
                exact hno m hlm
              · exact Hid.out Hf2 hm j x (by omega) hx m hlm
            have Hnext := hid hnext
            clear hnext
            have hkc := hkg1.cell a
            have hkf := hkg1.free a
            simp only [List.getElem?_map, Hkk.out, Option.map_some] at hkc
            have hkc2 : (wx.alloc (.cells #[.int .i64 a, .slice gr r.length cr] 97)).cell? ⟨g, a, none⟩ = some (.int .i64 kv) := by
              have := (hkg1.alloc (.cells #[.int .i64 a, .slice gr r.length cr] 97)).cell a
              simp only [List.getElem?_map, Hkk.out, Option.map_some] at this
              exact this
            have hkf2 := (hkg1.alloc (.cells #[.int .i64 a, .slice gr r.length cr] 97)).free a
            have x02 := (hxk.alloc (.cells #[.int .i64 a, .slice gr r.length cr] 97)).cell 0
            simp only [List.getElem?_cons_zero] at x02
            have hkg2 := hkg1.alloc (.cells #[.int .i64 a, .slice gr r.length cr] 97)
            have hbx2 := hbx.alloc hzx (.cells #[.int .i64 a, .slice gr r.length cr] 97)
            have hgn : g < ns.length ∨ True := .inr trivial
            clear hgn
            cases hres : Facts.lengthS ks2 r 0 with
            | none =>
              rw [hres] at Hlen
              have Hres := hid hres
              clear hres
              go_wp2_with (go_at_call 100; refine (Hid.out Hlen).mono ?_; rintro e w5 ⟨rfl, rfl⟩; unfold lenV)
              go_roundg (ps.length - (i + 1))
              case measure => have hk := Hki.out; omega
              case rel => exact ⟨i + 1, ks2, more, by go_num, rfl, by omega, hkg2, Hsho2.out, Hnext.out (fun m hm => by rw [Hres.out] at hm; cases hm), Hpot.out, rfl, hbx2⟩
            | some m =>
              rw [hres] at Hlen
              have hmb := Facts.lengthS_bound ks2 r 0 m (by omega) (by omega) hres
              have Hput := hid (Hsho2.out.put Hxm.out hl0 hl1 hres Hs1.out)
              have Hres := hid hres
              clear hres
              by_cases himp : kv < 0 ∨ m < kv
              · have hpl := Facts.potS_set ks2 a kv m Hkk.out hmb.1 (by omega)
                have hpot := Hpot.out
                have Hpn := hid (show Facts.potS (ks2.set a m) < Facts.potS ks by
                  cases more <;> simp at hpot <;> omega)
                clear hpl hpot
                have hset := (hkg2.set a (.int .i64 m)).of (cs' := (ks2.set a m).map (Value.int .i64)) (by simp)
                have hbx3 := hbx2.setCell (p := ⟨g, a, none⟩) hgb (.int .i64 m)
                rcases Int.lt_or_le kv 0 with hneg | hnn
                · go_wp2_with (go_at_call 100; refine (Hid.out Hlen).mono ?_; rintro e w5 ⟨rfl, rfl⟩; unfold lenV)
                  go_roundg (ps.length - (i + 1))
                  case measure => have hk := Hki.out; omega
                  case rel => exact ⟨i + 1, ks2.set a m, true, by go_num, rfl, by omega, hset, Hput.out, (fun h => by cases h), by simpa using Hpn.out, rfl, hbx3⟩
                · have hlt2 : m < kv := by omega
                  go_wp2_with (go_at_call 100; refine (Hid.out Hlen).mono ?_; rintro e w5 ⟨rfl, rfl⟩; unfold lenV)
                  go_roundg (ps.length - (i + 1))
                  case measure => have hk := Hki.out; omega
                  case rel => exact ⟨i + 1, ks2.set a m, true, by go_num, rfl, by omega, hset, Hput.out, (fun h => by cases h), by simpa using Hpn.out, rfl, hbx3⟩
              · have hn1' : ¬ kv < 0 := fun h => himp (.inl h)
                have hn2' : ¬ m < kv := fun h => himp (.inr h)
                go_wp2_with (go_at_call 100; refine (Hid.out Hlen).mono ?_; rintro e w5 ⟨rfl, rfl⟩; unfold lenV)
                go_roundg (ps.length - (i + 1))
                case measure => have hk := Hki.out; omega
                case rel => exact ⟨i + 1, ks2, more, by go_num, rfl, by omega, hkg2, Hsho2.out, Hnext.out (fun m' hm => by rw [Hres.out] at hm; injection hm with hm; omega), Hpot.out, rfl, hbx2⟩
          · have hge : ¬ (i : Int) < (ps.length : Int) := by omega
            have hie : i = ps.length := by omega
            have Hie := hid hie
            have Hf2 : Hid (more = false → ∀ (j : Nat) (x : Int × List Int), j < i → ps[j]? = some x → ∀ m, Facts.lengthS ks2 x.2 0 = some m → 0 ≤ Facts.atK ks2 x.1 ∧ Facts.atK ks2 x.1 ≤ m) := Hfix2
            clear hie Hfix2
            go_wp2_with fail
            go_roundg (2 * Facts.potS ks2 + (if more then 1 else 0))
            case measure => have hk := Hk.out; have hp := Hpot.out; cases more <;> simp at hp hk ⊢ <;> omega
            case rel => exact ⟨ks2, more, rfl, hkg, Hsho2.out, (fun hm x hx m hlm => by
              obtain ⟨j, hj⟩ := List.getElem?_of_mem hx
              exact Hid.out Hf2 hm j x (by rw [Hie.out]; exact (List.getElem?_eq_some_iff.1 hj).1) hj m hlm), rfl, hb⟩
end Go.Proofs.Ytaehooafdbaomaa
