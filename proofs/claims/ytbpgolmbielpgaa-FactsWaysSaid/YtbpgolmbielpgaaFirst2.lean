/- Chapter 9 (facts): First: walk. -/
import Derived.Test.YtbpgolmbielpgaaFirst1
import Derived.Test.YtbpgolmbielpgaaSortI
import Derived.Test.YtbpgolmbielpgaaLaw09a
namespace Go.Proofs.Ytbpgolmbielpgaa
open Go.RowKit
attribute [local go_sem ↓] Go.wp_at_zero Go.wp_at_succ
attribute [local go_sem] frozen_alloc_lt

theorem mapInfo : (Try.prog.info? 107).map (fun i => (i.zero, i.size, i.bytes)) = some (some (.map none), 1, 8) := by kernel_rfl

theorem RowB.box {w : World} {B bb : Nat} {T : TypeId} {ga : Option Addr} {bs : List Bool} (h : RowB w B ga bs) (hk : Bk w bb T [.slice none 0 0]) (v : Value) : RowB (w.setCell ⟨bb, 0, none⟩ v) B ga bs := by
  refine RowB.intro fun i x hx => ?_
  have hi := (List.getElem?_eq_some_iff.1 hx).1
  obtain ⟨g, off, h1, h2, h3⟩ := h.at hi
  refine ⟨g, off, h1, h2, ?_⟩
  have hne : ¬ g = bb := by
    rintro rfl
    rw [hk.cell] at h3
    cases hj : off + i with
    | zero => rw [hj] at h3; cases h3
    | succ n => rw [hj] at h3; cases h3
  have := (Kp.set (S := fun k => k = bb) (p := ⟨bb, 0, none⟩) (Kp.refl _ w) (.inl rfl) v).cell h3 hne
  rw [this]
  have e := (List.getElem?_eq_some_iff.1 hx).2
  rw [e]

/-- Behind the two closures. -/
def First3 (wd : World) (n : Nat) (ps : List (Int × List Int)) (s3 s4 : Value) (wx : World) : Prop :=
  ∃ (bb : Nat) (gN gG : Option Addr) (cN cG : Nat) (nb gb : List Bool), s3 = .slice gN n cN ∧ s4 = .pointer (some ⟨bb, 0, none⟩) ∧ Below wd.heap.size wd wx ∧ RowB wx wx.heap.size gN nb ∧ nb.length = n ∧
    (∀ a : Int, 0 ≤ a → (Facts.inB nb a = true ↔ Facts.Gen ps false a)) ∧ wx.cell? ⟨bb, 0, none⟩ = some (.slice gG n cG) ∧ RowB wx wx.heap.size gG gb ∧ gb.length = n ∧
    (∀ a : Int, 0 ≤ a → (Facts.inB gb a = true ↔ Facts.Gen ps true a))
theorem first3_end {wd W : World} {bb n : Nat} {ps : List (Int × List Int)} {gN gG : Option Addr} {cN cG : Nat} {nb gb : List Bool} (hb : Below wd.heap.size wd W) (hk : Bk W bb 61 [.slice none 0 0]) (hw : wd.heap.size ≤ bb) (h1 : RowB W W.heap.size gN nb) (h2 : nb.length = n)
    (h3 : ∀ a : Int, 0 ≤ a → (Facts.inB nb a = true ↔ Facts.Gen ps false a)) (h4 : RowB W W.heap.size gG gb) (h5 : gb.length = n) (h6 : ∀ a : Int, 0 ≤ a → (Facts.inB gb a = true ↔ Facts.Gen ps true a)) :
    First3 wd n ps (.slice gN n cN) (.pointer (some ⟨bb, 0, none⟩)) (W.setCell ⟨bb, 0, none⟩ (.slice gG n cG)) := by
  have hs : (W.setCell ⟨bb, 0, none⟩ (.slice gG n cG)).heap.size = W.heap.size := by simp [World.setCell]
  exact ⟨bb, gN, gG, cN, cG, nb, gb, rfl, rfl, hb.setCell (p := ⟨bb, 0, none⟩) hw _, by rw [hs]; exact h1.box hk _, h2, h3, by rw [(hk.set 0 _).cell]; rfl, by rw [hs]; exact h4.box hk _, h5, h6⟩

theorem first3_new {wd W : World} {n : Nat} {ps : List (Int × List Int)} {gN gG : Option Addr} {cN cG : Nat} {nb gb : List Bool} (hb : Below wd.heap.size wd W) (h1 : RowB W W.heap.size gN nb) (h2 : nb.length = n)
    (h3 : ∀ a : Int, 0 ≤ a → (Facts.inB nb a = true ↔ Facts.Gen ps false a)) (h4 : RowB W W.heap.size gG gb) (h5 : gb.length = n) (h6 : ∀ a : Int, 0 ≤ a → (Facts.inB gb a = true ↔ Facts.Gen ps true a)) :
    First3 wd n ps (.slice gN n cN) (.pointer (some ⟨W.heap.size, 0, none⟩)) (W.alloc (.cells #[.slice gG n cG] 61)) := by
  have ha : Below W.heap.size W (W.alloc (.cells #[.slice gG n cG] 61)) := (Below.refl _ _).alloc (Nat.le_refl _) _
  have hz : W.heap.size ≤ (W.alloc (.cells #[.slice gG n cG] 61)).heap.size := by simp
  exact ⟨_, gN, gG, cN, cG, nb, gb, rfl, rfl, hb.trans (ha.mono hb.size), (h1.below ha).mono hz, h2, h3, (Bk.new W 61 [.slice gG n cG]).cell 0, (h4.below ha).mono hz, h5, h6⟩

theorem own_block {w : World} {B : Nat} {e : TypeId} {z n : Nat} {u : Value} {xs : List Value} (h : w.ownsRow B e z u n xs) {g : Nat} (hg : u.ownBlock = some g) : ∃ cs t, w.heap[g]? = some (.cells cs t) := by
  rcases h.2 with ⟨rfl, _⟩ | ⟨g', cap, cur, rfl, _, hh, _⟩
  · simp [Value.ownBlock] at hg
  · simp only [Value.ownBlock, Option.some.injEq] at hg
    subst hg
    exact ⟨_, _, hh⟩
theorem OwnII.map {w w' : World} {base bo b : Nat} {e T : TypeId} {ls : List (List Int)} {vs : List Value} (h : OwnII w base e bo T ls vs) (hk : Kp (fun k => k = b) w w') {es : Array MapEntry} {c : Nat} (hm : w.heap[b]? = some (.map es c)) : OwnII w' base e bo T ls vs := by
  refine h.kp hk (fun e => ?_) (fun v hv g hg e => ?_)
  · have hb := h.bk
    unfold Bk at hb
    rw [e, hm] at hb
    cases hb
  · subst e
    obtain ⟨a, ha⟩ := List.getElem?_of_mem hv
    have hal : a < ls.length := by rw [← h.len]; exact (List.getElem?_eq_some_iff.1 ha).1
    obtain ⟨v', h1, _, h3⟩ := h.at (List.getElem?_eq_getElem hal)
    rw [ha] at h1
    cases h1
    obtain ⟨cs, t, h4⟩ := own_block h3 hg
    rw [h4] at hm
    cases hm

/-- Where First stands in the productions. -/
def FirAt (B : Nat) (wd : World) (bo bf n : Nat) (f : List Int → List Int) (t : List Int → Option Int) (ps : List (Int × List Int)) (res resF : List (List Int)) (k : Nat) (v45 : Value) (w : World) : Prop :=
  ∃ (i : Nat) (ls fs : List (List Int)) (vs ms : List Value), v45 = .int .i64 i ∧ i ≤ ps.length ∧ ls.length = n ∧ fs.length = n ∧ OwnII w (bo + 1) 3 bo 23 ls vs ∧ FirM w (bf + 1) bf 107 ms fs i ∧ Facts.allT f ls (ps.drop i) = res ∧ Facts.firT t fs (ps.drop i) = resF ∧
    (∀ l ∈ ls, l.length ≤ 16 * i) ∧ k = ps.length - i ∧ Below B wd w
/-- .. in a right side. -/
def FirIn (B : Nat) (wd : World) (bo bf n : Nat) (f : List Int → List Int) (t : List Int → Option Int) (nul : Int → Bool) (ps : List (Int × List Int)) (a : Nat) (r : List Int) (i cx : Nat) (cells : List Value) (fs : List (List Int)) (ms : List Value) (res resF : List (List Int)) (k : Nat) (v56 : Value) (w : World) : Prop :=
  ∃ (j : Nat) (ls : List (List Int)) (vs : List Value), v56 = .int .i64 j ∧ j ≤ r.length ∧ ls.length = n ∧ OwnII w (bo + 1) 3 bo 23 ls vs ∧ FirM w (bf + 1) bf 107 ms fs i ∧
    Facts.allT f (Facts.appT ls a (Facts.preS nul (r.drop j))) (ps.drop (i + 1)) = res ∧ Facts.firT t (Facts.putT fs a (Facts.terS nul (r.drop j))) (ps.drop (i + 1)) = resF ∧ (∀ l ∈ ls, l.length ≤ 16 * i + j) ∧ Bk w cx 35 cells ∧ k = r.length - j ∧ Below B wd w
/-- The maps, made up to i. -/
def FirMk (B : Nat) (wd : World) (bo bf n : Nat) (k : Nat) (v34 : Value) (w : World) : Prop :=
  ∃ (i : Nat) (ms : List Value) (ls : List (List Int)) (vs : List Value), v34 = .int .i64 i ∧ i ≤ n ∧ ls = List.replicate n [] ∧ OwnII w (bo + 1) 3 bo 23 ls vs ∧ Bk w bf 107 (ms ++ List.replicate (n - i) (.map none)) ∧ ms.length = i ∧
    (∀ a : Nat, a < i → ∃ b, ms[a]? = some (.map (some b)) ∧ bf + 1 ≤ b ∧ SetI w b 0 []) ∧ (∀ (a a' : Nat) b, ms[a]? = some (.map (some b)) → ms[a']? = some (.map (some b)) → a = a') ∧ k = n - i ∧ Below B wd w

/-- A terminal that a word of a may begin with. -/
def FstOf (ls fs : List (List Int)) (a : Int) (z : Int) : Prop := ∃ s : Nat, Facts.Come ls [a] s ∧ z ∈ fs.getD s []
def RiseP (p : Int → Prop) (ss : List Int) : Prop := ss.Pairwise (· < ·) ∧ ∀ z, z ∈ ss ↔ p z
/-- The rows, told up to m. -/
def FirOut (B : Nat) (wd : World) (bo bf bo2 n M : Nat) (ls fs : List (List Int)) (ms : List Value) (k : Nat) (v94 : Value) (w : World) : Prop :=
  ∃ (m : Nat) (vs2 : List Value) (sss : List (List Int)), v94 = .int .i64 m ∧ m ≤ n ∧ vs2.length = m ∧ sss.length = m ∧ Bk w bo2 23 (vs2 ++ List.replicate (n - m) (.slice none 0 0)) ∧
    (∀ (a : Nat) v ss, vs2[a]? = some v → sss[a]? = some ss → w.ownsRow (bo2 + 1) 3 1 v ss.length (ss.map (Value.int .i64))) ∧ (∀ (a : Nat) ss, sss[a]? = some ss → RiseP (FstOf ls fs a) ss) ∧
    RowIID w (fun k => k < bo2) (some ⟨bo, 0, none⟩) ls ∧ FirM w (bf + 1) bf 107 ms fs M ∧ k = n - m ∧ Below B wd w
def FirAll (wq : World) (ba n M : Nat) (bs : List Bool) (fs : List (List Int)) (k : Nat) (v103 : Value) (w : World) : Prop :=
  ∃ (j : Nat) (la : List Int), v103 = .int .i64 j ∧ j ≤ n ∧ SetI w ba (j * M) la ∧ (∀ z, z ∈ la ↔ ∃ s : Nat, s < j ∧ Facts.inB bs s = true ∧ z ∈ fs.getD s []) ∧ k = n - j ∧ Kp (fun k => k = ba) wq w

/-- What First tells: of each nonterminal the terminals that its words may begin with, rising. -/
def FirstYes (w : World) (G : Gr) (e : Ending) (w' : World) : Prop :=
  ∃ (g : Nat) (nb gb : List Bool) (sss : List (List Int)), e = .returned (.slice (some ⟨g, 0, none⟩) G.names.length G.names.length) ∧ sss.length = G.names.length ∧ RowII w' w'.heap.size (some ⟨g, 0, none⟩) sss ∧
    (∀ a : Int, 0 ≤ a → (Facts.inB nb a = true ↔ Facts.Gen G.prods false a)) ∧ (∀ a : Int, 0 ≤ a → (Facts.inB gb a = true ↔ Facts.Gen G.prods true a)) ∧
    (∀ (a : Nat) ss, sss[a]? = some ss → RiseP (FstOf (Facts.allT (Facts.stepF (Facts.inB nb) (Facts.inB gb)) (List.replicate G.names.length []) G.prods) (Facts.firT (Facts.terF (Facts.inB nb) (Facts.inB gb)) (List.replicate G.names.length []) G.prods) a) ss) ∧ Below w.heap.size w w'

set_option maxHeartbeats 8000000 in
set_option maxRecDepth 100000 in
theorem first_walk (w : World) (G : Gr) (gn gt gp : Option Addr) (cn ct cp : Nat) (hG : GIn w G gn gt gp) (hs : Pl.soundB G = true) :
    Calls Try.prog 42 #[.agg #[.int .i64 G.start, .int .i64 G.rules, .slice gn G.names.length cn, .slice gt G.terms.length ct, .slice gp G.prods.length cp]] w (FirstYes w G) := by
  obtain ⟨i2, hi2, y0, y1, y2⟩ := info_parts intsInfo
  obtain ⟨i3, hi3, z0, z1, z2⟩ := info_parts intInfo
  have hsg := sndG hs
  have Hsg := hid hsg
  have Hs := hid hs
  clear hs
  obtain ⟨hn0, hn1, ht1, hp1, hst0, hst1, -, -, -, -, -⟩ := hsg
  obtain ⟨st, ru, ns, ts, ps⟩ := G
  simp only at *
  have hb0 : Below w.heap.size w (w.alloc (.cells #[.int .i64 st, .int .i64 ru, .slice gn ns.length cn, .slice gt ts.length ct, .slice gp ps.length cp] 41)) := (Below.refl _ _).alloc (Nat.le_refl _) _
  have hG0 := hG.later hb0
  have hbk : Bk (w.alloc (.cells #[.int .i64 st, .int .i64 ru, .slice gn ns.length cn, .slice gt ts.length ct, .slice gp ps.length cp] 41)) w.heap.size 41 [.int .i64 st, .int .i64 ru, .slice gn ns.length cn, .slice gt ts.length ct, .slice gp ps.length cp] := Bk.new w _ _
  go_enter Try.func42, Try.ntmps42
  go_upto_region 1 with (fail)
  obtain ⟨wd, hwd⟩ : ∃ wd, wd = (w.alloc (.cells #[.int .i64 st, .int .i64 ru, .slice gn ns.length cn, .slice gt ts.length ct, .slice gp ps.length cp] 41)) := ⟨_, rfl⟩
  obtain ⟨b, hbb⟩ : ∃ b, b = w.heap.size := ⟨_, rfl⟩
  rw [← hwd] at hb0 hG0 hbk ⊢
  rw [← hbb] at hbk ⊢
  clear hwd hbb hG
  have g0 := hbk.cell 0
  have g1 := hbk.cell 1
  have g2 := hbk.cell 2
  have g3 := hbk.cell 3
  have g4 := hbk.cell 4
  simp only [List.getElem?_cons_zero, List.getElem?_cons_succ] at g0 g1 g2 g3 g4
  go_upto_region 3 with (go_at_call 55; refine (sound_is wd _ ⟨st, ru, ns, ts, ps⟩ gn gt gp cn ct cp true Hs.out hG0.n hG0.t hG0.p (Nat.le_refl _) hG0.h1 hG0.h2 hG0.h3 hG0.h4).mono ?_; rintro e w1 ⟨rfl, hb1⟩)
  have hbk1 := hbk.below hb1 hbk.lt
  have hG1 := hG0.later hb1
  have hbw1 := hb0.trans (hb1.mono hb0.size)
  clear hb1 g0 g1 g2 g3 g4 hb0 hG0 hbk
  have hkeep : ∀ W, Below w1.heap.size w1 W → W.cell? ⟨b, 0, none⟩ = some (.int .i64 st) ∧ W.cell? ⟨b, 1, none⟩ = some (.int .i64 ru) ∧ W.cell? ⟨b, 2, none⟩ = some (.slice gn ns.length cn) ∧ W.cell? ⟨b, 3, none⟩ = some (.slice gt ts.length ct) ∧ W.cell? ⟨b, 4, none⟩ = some (.slice gp ps.length cp) ∧ Hid (Below w1.heap.size w1 W) := fun W h => by
    have k := hbk1.below h hbk1.lt
    exact ⟨k.cell 0, k.cell 1, k.cell 2, k.cell 3, k.cell 4, hid h⟩
  have Hkeep := hid hkeep
  have Hm : Hid (Below w1.heap.size w1 w1) := hid (Below.refl _ _)
  have Hbk1 := hid hbk1
  clear hkeep hbk1
  go_cut [3, 4] (fun s3 s4 wx => First3 w1 ns.length ps s3 s4 wx)
  case first =>
    go_region_held3 (fun W => W.cell? ⟨b, 0, none⟩ = some (.int .i64 st) ∧ W.cell? ⟨b, 1, none⟩ = some (.int .i64 ru) ∧ W.cell? ⟨b, 2, none⟩ = some (.slice gn ns.length cn) ∧ W.cell? ⟨b, 3, none⟩ = some (.slice gt ts.length ct) ∧ W.cell? ⟨b, 4, none⟩ = some (.slice gp ps.length cp) ∧ Hid (Below w1.heap.size w1 W))
      (((try go_split_ands); refine Hkeep.out _ ?_; first | exact (Hid.out (by with_reducible assumption)) | exact below_drewN (Hid.out (by with_reducible assumption)) 1 | exact Below.alloc (Hid.out (by with_reducible assumption)) (Below.size (Hid.out (by with_reducible assumption))) _ | exact Below.setCell (Hid.out (by with_reducible assumption)) (by first | exact Nat.le_refl _ | exact Below.size (Hid.out (by with_reducible assumption))) _))
      (((try go_split_ands); first
        | (go_at_call 33; refine (null_yes _ ⟨st, ru, ns, ts, ps⟩ gn gt gp cn ct cp ?_ Hs.out).mono ?_; (exact hG1.later (Hid.out (by with_reducible assumption))); rintro e w4 ⟨gN, cN, nb, rfl, hnl, hnr, hnp, hb4⟩; have Hm4 : Hid (Below w1.heap.size w1 w4) := hid (Below.trans (Hid.out (by with_reducible assumption)) (hb4.mono (Below.size (Hid.out (by with_reducible assumption))))); (try (have hbx3 : Bk w4 w1.drew.heap.size 61 [.slice none 0 0] := Bk.below (Bk.new w1.drew 61 [.slice none 0 0]) hb4 (by simp); have hbx4 : Bk w4 w1.heap.size 61 [.slice none 0 0] := hbx3; have bc4 := hbx4.cell 0; have bf4 := hbx4.free 0; simp only [List.getElem?_cons_zero] at bc4)))
        | (go_at_call 31; refine (gen_yes _ ⟨st, ru, ns, ts, ps⟩ gn gt gp cn ct cp ?_ Hs.out).mono ?_; (exact hG1.later (Hid.out (by with_reducible assumption))); rintro e w5 ⟨gG, cG, gb, rfl, hgl, hgr, hgp, hb5⟩; have Hm5 : Hid (Below w1.heap.size w1 w5) := hid (Below.trans (Hid.out (by with_reducible assumption)) (hb5.mono (Below.size (Hid.out (by with_reducible assumption))))); (first | (have hbx5 := hbx4.below hb5 hbx4.lt; have bc5 := hbx5.cell 0; have bf5 := hbx5.free 0; simp only [List.getElem?_cons_zero] at bc5) | (have hbx5 : Bk w5 _ 61 [.slice none 0 0] := Bk.below (Bk.new _ 61 [.slice none 0 0]) hb5 (by simp); have bc5 := hbx5.cell 0; have bf5 := hbx5.free 0; simp only [List.getElem?_cons_zero] at bc5) | skip))))
    all_goals
      go_wp2_with fail
      go_meet
      first
        | exact first3_end Hm5.out hbx5 (Nat.le_refl _) ((hnr.below hb5).mono hb5.size) hnl hnp hgr hgl hgp
        | exact first3_end Hm5.out hbx5 (Below.size Hm4.out) ((hnr.below (((Below.refl _ _).alloc (Nat.le_refl _) _).trans (hb5.mono (by simp)))).mono (Nat.le_trans (by simp) hb5.size)) hnl hnp hgr hgl hgp
        | exact first3_new Hm5.out ((hnr.below hb5).mono hb5.size) hnl hnp hgr hgl hgp
  case rest =>
    obtain ⟨w2, rfl⟩ : ∃ w2, w2 = wc := ⟨_, rfl⟩
    obtain ⟨bb, gN, gG, cN, cG, nb, gb, rfl, rfl, hb3, hnr, hnl, hnp, hbc, hgr, hgl, hgp⟩ := hcut
    have hbk2 := Hbk1.out.below hb3 Hbk1.out.lt
    have hG2 := hG1.later hb3
    have hbw2 := hbw1.trans (hb3.mono hbw1.size)
    have Hnl := hid hnl
    have Hnp := hid hnp
    have Hgl := hid hgl
    have Hgp := hid hgp
    clear hb3 hbw1 hG1 hnl hnp hgl hgp Hm Hkeep Hbk1
    have g2 := hbk2.cell 2
    simp only [List.getElem?_cons_zero, List.getElem?_cons_succ] at g2
    go_upto_region 5 with (at_make; refine wpList_make_bk _ rfl _ _ _ rfl 23 i2 _ Try.underlying52 hi2 y0 y1 rfl _ _ ns.length rfl rfl rfl rfl (by rw [y2]; omega) (by omega) ?_; intro w3 hbo hk3)
    obtain ⟨B, hB⟩ : ∃ B, B = w2.heap.size := ⟨_, rfl⟩
    have hB3 : Below B w2 w3 := hk3.to_below (by omega) (fun k hk => hk.elim)
    rw [← hB] at hbo ⊢
    have hown : OwnII w3 (B + 1) 3 B 23 _ _ := OwnII.made hbo (Nat.lt_succ_self _)
    have HB := hid hB
    have hbB : b < B := by have := hbk2.lt; omega
    have hbbB : bb < B := by rw [hB]; exact World.block_lt_of_cell? w2 _ hbc
    clear g2 hk3 hbo hB
    have hbk3 := hbk2.below hB3 hbB
    have g2 := hbk3.cell 2
    simp only [List.getElem?_cons_zero, List.getElem?_cons_succ] at g2
    obtain ⟨im, him, m0, m1, m2⟩ := info_parts mapInfo
    go_upto_region 6 with (at_make; refine wpList_make_bk _ rfl _ _ _ rfl 107 im _ Try.underlying106 him m0 m1 rfl _ _ ns.length rfl rfl rfl rfl (by rw [m2]; omega) (by omega) ?_; intro w4 hbf hk4)
    obtain ⟨bf, hbfe⟩ : ∃ bf, bf = w3.heap.size := ⟨_, rfl⟩
    have hB4 : Below B w2 w4 := hB3.trans (hk4.to_below (by have := hown.bk.lt; omega) (fun k hk => hk.elim))
    rw [← hbfe] at hbf ⊢
    have hBf : B < bf := by rw [hbfe]; exact hown.bk.lt
    have hown4 := hown.kp hk4 (fun h => h) (fun _ _ _ _ h => h)
    have hlt4 : ∀ v ∈ List.replicate ns.length (Value.slice none 0 0), ∀ g, v.ownBlock = some g → g < bf := fun v hv g hg => by
      rw [(List.mem_replicate.1 hv).2] at hg
      simp [Value.ownBlock] at hg
    clear g2 hk4 hbfe hown hB3 hbk3
    have hmm := @run_makeMap Try.prog
    have Hmm := hid hmm
    clear hmm
    go_wp2_with fail
    go_loopg [34] ns.length (fun k v34 wr => FirMk B w2 B bf ns.length k v34 wr)
    case atStart => exact ⟨0, [], _, _, rfl, by omega, rfl, hown4, by simpa using hbf, rfl, fun a ha => by omega, fun a a' b h => by simp at h, rfl, hB4⟩
    case round =>
      clear hown4 hbf hB4 hlt4
      obtain ⟨i, ms, ls, vs, rfl, hi, hls, hown, hkf, hml, hms, hinj, hk, hb⟩ := hrel
      have Hk := hid hk
      have Hms := hid hms
      have Hinj := hid hinj
      have Hls := hid hls
      clear hk hms hinj hls
      by_cases hlt : i < ns.length
      ·--(
        have hlt' : (i : Int) < (ns.length : Int) := by omega
        have hi0 : (0 : Int) ≤ (i : Int) := by omega
        have hlf := hkf.lt
        have hka := hkf.alloc (.map #[] 0)
        have ca := hka.cell i
        have fa := hka.free i
        have hat : (ms ++ List.replicate (ns.length - i) (Value.map none))[i]? = some (.map none) := by
          rw [List.getElem?_append_right (by omega), hml]
          simp [List.getElem?_replicate]
          omega
        rw [hat] at ca
        have hset : (ms ++ List.replicate (ns.length - i) (Value.map none)).set i (.map (some wr.heap.size)) = (ms ++ [.map (some wr.heap.size)]) ++ List.replicate (ns.length - (i + 1)) (Value.map none) := by
          rw [List.set_append_right _ _ (by omega), hml, Nat.sub_self, show ns.length - i = (ns.length - (i + 1)) + 1 by omega, List.replicate_succ, List.set_cons_zero, List.append_assoc]
          rfl
        have hk2 := (hka.set i (.map (some wr.heap.size))).of hset
        have hmade := SetI.made wr
        have hkm : Kp (fun k => k = bf) wr ((wr.alloc (.map #[] 0)).setCell ⟨bf, i, none⟩ (.map (some wr.heap.size))) := Kp.set (S := fun k => k = bf) (p := ⟨bf, i, none⟩) ((Kp.refl _ wr).alloc _) (.inl rfl) _
        have hmade2 : SetI ((wr.alloc (.map #[] 0)).setCell ⟨bf, i, none⟩ (.map (some wr.heap.size))) wr.heap.size 0 [] := hmade.kp (Kp.set (S := fun k => k = bf) (p := ⟨bf, i, none⟩) (Kp.refl _ _) (.inl rfl) _) (by omega)
        have hownA := hown.kp hkm (by omega) (fun v hv g hg e => by
          subst e
          obtain ⟨a, ha⟩ := List.getElem?_of_mem hv
          have hal : a < ls.length := by rw [← hown.len]; exact (List.getElem?_eq_some_iff.1 ha).1
          obtain ⟨v', h1, h2, h3⟩ := hown.at (List.getElem?_eq_getElem hal)
          rw [ha] at h1
          cases h1
          exact hkf.own_ne h3 (by decide) hg)
        have hbA : Below B w2 ((wr.alloc (.map #[] 0)).setCell ⟨bf, i, none⟩ (.map (some wr.heap.size))) := hb.trans (hkm.to_below (by have := hown.bk.lt; omega) (fun k e => by omega))
        have hms2 : ∀ a : Nat, a < i + 1 → ∃ b, (ms ++ [Value.map (some wr.heap.size)])[a]? = some (.map (some b)) ∧ bf + 1 ≤ b ∧ SetI ((wr.alloc (.map #[] 0)).setCell ⟨bf, i, none⟩ (.map (some wr.heap.size))) b 0 [] := by
          intro a ha
          by_cases hai : a < i
          · obtain ⟨b9, h1, h2, h3⟩ := Hms.out a hai
            exact ⟨b9, by rw [List.getElem?_append_left (by omega)]; exact h1, h2, h3.kp hkm (by omega)⟩
          · have : a = i := by omega
            subst this
            exact ⟨wr.heap.size, by rw [List.getElem?_append_right (by omega), hml]; simp, by omega, hmade2⟩
        have hold : ∀ (a : Nat) b9, ms[a]? = some (.map (some b9)) → b9 < wr.heap.size := fun a b9 ha => by
          obtain ⟨b8, h1, _, h3⟩ := Hms.out a (by rw [← hml]; exact (List.getElem?_eq_some_iff.1 ha).1)
          rw [ha] at h1
          cases h1
          exact h3.lt
        have hinj2 : ∀ (a a' : Nat) b9, (ms ++ [Value.map (some wr.heap.size)])[a]? = some (.map (some b9)) → (ms ++ [Value.map (some wr.heap.size)])[a']? = some (.map (some b9)) → a = a' := by
          intro a a' b9 h1 h2
          have hla := (List.getElem?_eq_some_iff.1 h1).1
          have hla' := (List.getElem?_eq_some_iff.1 h2).1
          simp only [List.length_append, List.length_singleton] at hla hla'
          by_cases e1 : a < i
          · rw [List.getElem?_append_left (by omega)] at h1
            by_cases e2 : a' < i
            · rw [List.getElem?_append_left (by omega)] at h2
              exact Hinj.out a a' b9 h1 h2
            · rw [List.getElem?_append_right (by omega), show a' - ms.length = 0 by omega] at h2
              simp at h2
              have := hold a b9 h1
              omega
          · rw [List.getElem?_append_right (by omega), show a - ms.length = 0 by omega] at h1
            simp at h1
            by_cases e2 : a' < i
            · rw [List.getElem?_append_left (by omega)] at h2
              have := hold a' b9 h2
              omega
            · omega
        have hcomm : (wr.alloc (.map #[] 0)).setCell ⟨bf, i, none⟩ (.map (some wr.heap.size)) = (wr.setCell ⟨bf, i, none⟩ (.map (some wr.heap.size))).alloc (.map #[] 0) := World.setCell_alloc_past _ _ _ _ hlf
        have Hcomm := hid hcomm
        clear hcomm
        have Hnext : Hid (FirMk B w2 B bf ns.length (ns.length - (i + 1)) (.int .i64 ((i + 1 : Nat) : Int)) ((wr.alloc (.map #[] 0)).setCell ⟨bf, i, none⟩ (.map (some wr.heap.size)))) :=
          hid ⟨i + 1, _, ls, vs, rfl, hlt, Hls.out, hownA, hk2, by simp [hml], hms2, hinj2, rfl, hbA⟩
        clear hms2 hinj2 hold hk2 hmade hmade2 hkm hownA hbA hset hat hka
        have hmm := Hmm.out
        go_wp2_with fail
        go_roundg (ns.length - (i + 1))
        case measure => have hk := Hk.out; omega
        case rel => rw [← Hcomm.out]; exact Hnext.out
        --)
      · have hge : ¬ (i : Int) < (ns.length : Int) := by omega
        have hin : i = ns.length := by omega
        have hkn : Bk wr bf 107 ms := hkf.of (by rw [hin]; simp)
        have hfir : FirM wr (bf + 1) bf 107 ms (List.replicate ns.length []) 0 := ⟨hkn, by rw [hml, hin]; simp, fun a l hl => by
          have hal : a < ns.length := by simpa using (List.getElem?_eq_some_iff.1 hl).1
          have hl0 : l = [] := (List.mem_replicate.1 (List.mem_of_getElem? hl)).2
          subst hl0
          obtain ⟨b9, h1, h2, h3⟩ := Hms.out a (by omega)
          exact ⟨b9, 0, h1, h2, Nat.le_refl _, h3⟩, Hinj.out⟩
        have hownR := hown
        rw [Hls.out] at hownR
        have hbkr := hbk2.below hb hbB
        have g4 := hbkr.cell 4
        simp only [List.getElem?_cons_zero, List.getElem?_cons_succ] at g4
        obtain ⟨res, hres⟩ : ∃ res, res = Facts.allT (Facts.stepF (Facts.inB nb) (Facts.inB gb)) (List.replicate ns.length []) ps := ⟨_, rfl⟩
        obtain ⟨resF, hresF⟩ : ∃ resF, resF = Facts.firT (Facts.terF (Facts.inB nb) (Facts.inB gb)) (List.replicate ns.length []) ps := ⟨_, rfl⟩
        have Hres := hid hres
        have HresF := hid hresF
        clear hres hresF hkn hkf hin hml Hms Hinj Hls hown hbkr hlt hi Hk
        go_wp2_with fail
        clear g4
        go_loopg [45] ps.length (fun k v45 wr => FirAt B w2 B bf ns.length (Facts.stepF (Facts.inB nb) (Facts.inB gb)) (Facts.terF (Facts.inB nb) (Facts.inB gb)) ps res resF k v45 wr)
        case atStart => exact ⟨0, _, _, vs, ms, rfl, by omega, by simp, by simp, hownR, hfir, by rw [List.drop_zero]; exact Hres.out.symm, by rw [List.drop_zero]; exact HresF.out.symm, fun l hl => by simp at hl; rw [hl.2]; simp, rfl, hb⟩
        case round =>
          clear hownR hfir hb hge
          obtain ⟨i, ls, fs, vs, ms, rfl, hi, hln, hfn, hown, hfir, hu, huf, hle, hk, hb⟩ := hrel
          have Hk := hid hk
          have Hu := hid hu
          have Huf := hid huf
          have Hle := hid hle
          have Hln := hid hln
          have Hfn := hid hfn
          clear hk hu huf hle hln hfn
          have hzr : B + 1 ≤ wr.heap.size := hown.bk.lt
          by_cases hlt : i < ps.length
          ·--(
            have hlt' : (i : Int) < (ps.length : Int) := by omega
            obtain ⟨x, hx⟩ : ∃ x, x = ps[i] := ⟨_, rfl⟩
            have hxm : x ∈ ps := by rw [hx]; exact List.getElem_mem hlt
            have hxi : ps[i]? = some x := by rw [hx]; exact List.getElem?_eq_getElem hlt
            have hr16 := Hsg.out.r16 x hxm
            have hl0 := Hsg.out.l0 x hxm
            have hl1 : x.1 < (ns.length : Int) := Hsg.out.l1 x hxm
            have Hs0 := hid (Hsg.out.r0 x hxm)
            have Hs1 := hid (Hsg.out.r1 x hxm)
            have hu := Hu.out
            have huf := Huf.out
            rw [List.drop_eq_getElem_cons hlt, ← hx, Facts.allT] at hu
            rw [List.drop_eq_getElem_cons hlt, ← hx, Facts.firT] at huf
            obtain ⟨g', off, gr, cr, rfl, hg', hd0, hd1, hrid⟩ := hG2.p i _ hxi
            rw [← HB.out] at hg' hrid
            have hc0 := (hb.cell (p := ⟨g', off + i * 2, none⟩) (show g' < B by omega)).trans hd0
            have hc1 := (hb.cell (p := ⟨g', off + i * 2 + 1, none⟩) (show g' < B by omega)).trans hd1
            obtain ⟨l, r⟩ := x
            simp only at hr16 hl0 hl1 hc0 hc1 hrid hu huf
            obtain ⟨a, rfl⟩ := Int.eq_ofNat_of_zero_le hl0
            rw [Int.toNat_natCast] at hu huf
            have Hu := hid hu
            have Huf := hid huf
            clear hx hxi hxm hd0 hd1 hu huf
            go_upto_region 14 with fail
            have hxk := Bk.new wr 35 [.int .i64 a, .slice gr r.length cr]
            have hown1 := hown.alloc (.cells #[.int .i64 a, .slice gr r.length cr] 35)
            have hfir1 := hfir.kp (S := fun _ => False) ((Kp.refl _ wr).alloc (.cells #[.int .i64 a, .slice gr r.length cr] 35)) (fun h => h) (fun _ h => h.elim)
            have hbx : Below B w2 (wr.alloc (.cells #[.int .i64 a, .slice gr r.length cr] 35)) := hb.alloc (by omega) _
            obtain ⟨wx, hwx⟩ : ∃ wx, wx = wr.alloc (.cells #[.int .i64 a, .slice gr r.length cr] 35) := ⟨_, rfl⟩
            obtain ⟨cx, hcx⟩ : ∃ cx, cx = wr.heap.size := ⟨_, rfl⟩
            have hlbf : bf < cx := by rw [hcx]; exact hfir.k.lt
            rw [← hwx, ← hcx] at hxk
            rw [← hwx] at hown1 hfir1 hbx
            rw [← hwx, ← hcx]
            have hcb : B + 1 ≤ cx := by omega
            have hrix := hrid.below hbx
            have hnx := hnr.below (W' := wx) (by rw [← HB.out]; exact hbx)
            have hgx := hgr.below (W' := wx) (by rw [← HB.out]; exact hbx)
            have hbcx : wx.cell? ⟨bb, 0, none⟩ = some (.slice gG ns.length cG) := (hbx.cell (p := ⟨bb, 0, none⟩) hbbB).trans hbc
            have hzx : B ≤ wx.heap.size := by have := hown1.bk.lt; omega
            clear hwx hcx hown hfir hb hc0 hc1 hzr
            have hcon := containsFunc_calls wx gr cr r 61 (.pointer (some ⟨bb, 0, none⟩)) (Facts.badS (Facts.inB gb)) (hrix.mono hzx) (by omega) (enters_of Try.func61 (by kernel_rfl) rfl) (fun z hz => first1_calls wx bb ns.length gG cG gb z hbcx (hgx.mono (by rw [← HB.out]; exact hzx)) Hgl.out (by have := Hs1.out z hz; simp only at this; exact this))
            have Hcon := hid hcon
            have x0 := hxk.cell 0
            have x1 := hxk.cell 1
            simp only [List.getElem?_cons_zero, List.getElem?_cons_succ] at x0 x1
            clear hcon
            cases hany : r.any (Facts.badS (Facts.inB gb)) with
            | true =>
              have hsf : Facts.stepF (Facts.inB nb) (Facts.inB gb) r = [] := by unfold Facts.stepF; rw [hany]; rfl
              have htf : Facts.terF (Facts.inB nb) (Facts.inB gb) r = none := by unfold Facts.terF; rw [hany]; rfl
              have hu := Hu.out
              have huf := Huf.out
              rw [hsf, Facts.appT] at hu
              rw [htf, Facts.putT] at huf
              have Hu2 := hid hu
              have Huf2 := hid huf
              have Hany := hid hany
              clear hany hsf htf hu huf
              go_wp2_with (go_at_call 60; refine Hcon.out.mono ?_; rintro e w5 ⟨rfl, rfl⟩; rw [Hany.out])
              go_roundg (ps.length - (i + 1))
              case measure => have hk := Hk.out; omega
              case rel => exact ⟨i + 1, ls, fs, vs, ms, by go_num, by omega, Hln.out, Hfn.out, hown1, hfir1.mono (by omega), Hu2.out, Huf2.out, fun l hl => by have := Hle.out l hl; omega, rfl, hbx⟩
            | false =>
              have hsf : Facts.stepF (Facts.inB nb) (Facts.inB gb) r = Facts.preS (Facts.inB nb) r := by unfold Facts.stepF; rw [hany]; rfl
              have htf : Facts.terF (Facts.inB nb) (Facts.inB gb) r = Facts.terS (Facts.inB nb) r := by unfold Facts.terF; rw [hany]; rfl
              have hu := Hu.out
              have huf := Huf.out
              rw [hsf] at hu
              rw [htf] at huf
              have Hu2 := hid hu
              have Huf2 := hid huf
              have Hany := hid hany
              clear hany hsf htf hu huf
              go_wp2_with (go_at_call 60; refine Hcon.out.mono ?_; rintro e w5 ⟨rfl, rfl⟩; rw [Hany.out])
              go_loopg [56] r.length (fun k v56 wq => FirIn B w2 B bf ns.length (Facts.stepF (Facts.inB nb) (Facts.inB gb)) (Facts.terF (Facts.inB nb) (Facts.inB gb)) (Facts.inB nb) ps a r i cx [.int .i64 a, .slice gr r.length cr] fs ms res resF k v56 wq)
              case atStart => exact ⟨0, ls, vs, rfl, by omega, Hln.out, hown1, hfir1, by rw [List.drop_zero]; exact Hu2.out, by rw [List.drop_zero]; exact Huf2.out, fun l hl => by have := Hle.out l hl; omega, hxk, rfl, hbx⟩
              case round =>
                clear hown1 hfir1 hbx hxk Hu Hu2 Huf Huf2 Hle Hln hrix hnx hgx hbcx Hcon hzx x0 x1
                obtain ⟨j, ls, vs, rfl, hj, hln, hown, hfir, hu, huf, hle, hxk, hk, hb⟩ := hrel
                have Hkj := hid hk
                have Hle := hid hle
                have Hln := hid hln
                clear hk hle hln
                have hri := hrid.below hb
                have hnx := hnr.below (by rw [← HB.out]; exact hb)
                have hzr : B + 1 ≤ wr.heap.size := hown.bk.lt
                by_cases hlj : j < r.length
                · have hlj' : (j : Int) < (r.length : Int) := by omega
                  obtain ⟨s, hs⟩ : ∃ s, s = r[j] := ⟨_, rfl⟩
                  have hsm : s ∈ r := by rw [hs]; exact List.getElem_mem hlj
                  have h0 : -(ts.length : Int) ≤ s := Hs0.out s hsm
                  have h1 : s < (ns.length : Int) := Hs1.out s hsm
                  obtain ⟨gr, ofr, rfl, hgr2, hcr⟩ := hri.at hlj
                  rw [← hs] at hcr
                  rw [List.drop_eq_getElem_cons hlj, ← hs, Facts.preS] at hu
                  rw [List.drop_eq_getElem_cons hlj, ← hs, Facts.terS] at huf
                  clear hs hsm
                  by_cases hneg : s < 0
                  · rw [if_pos hneg, Facts.appT] at hu
                    rw [if_pos hneg, Facts.putT] at huf
                    have haf : a < fs.length := by rw [Hfn.out]; omega
                    obtain ⟨lf, hlf⟩ : ∃ lf, lf = fs[a] := ⟨_, rfl⟩
                    have hlf' : fs[a]? = some lf := by rw [hlf]; exact List.getElem?_eq_getElem haf
                    rw [show fs.getD a [] = lf by simp [List.getD, hlf']] at huf
                    obtain ⟨b9, n9, hm1, hm2, hm3, hset⟩ := hfir.row a lf hlf'
                    obtain ⟨w5, hrun, hset5, hg5⟩ := hset.put (-1 - s) (by omega) (by omega) (by unfold maxLen; omega) 107 Try.underlying107
                    have hfir5 := hfir.put hlf' hm1 hm2 (by omega) (by omega) hset5 hg5
                    obtain ⟨es9, c9, hbl9⟩ := hset.block
                    have hk5 : Kp (fun k => k = b9) wr w5 := (Kp.refl _ wr).grown hg5 (fun k e _ => by injection e with e; exact e.symm)
                    have hown5 := hown.map hk5 hbl9
                    have hb5 := hb.trans (hk5.to_below (B := B) (by omega) (fun k e => by omega))
                    have cf := hfir.k.cell a
                    rw [hm1] at cf
                    have x0 := hxk.cell 0
                    simp only [List.getElem?_cons_zero] at x0
                    have haa : (a : Int) < (ns.length : Int) := hl1
                    have Hu3 := hid hu
                    have Huf3 := hid huf
                    have Hfir5 := hid hfir5
                    have Hown5 := hid hown5
                    clear hu huf hlf hlf' hm1 hset hset5 hg5 hk5 hfir5 hown5 hbl9 hown hfir
                    go_wp2_with fail
                    go_roundg (ps.length - (i + 1))
                    case measure => have hk := Hk.out; omega
                    case rel => exact ⟨i + 1, ls, _, vs, ms, by go_num, by omega, Hln.out, by rw [List.length_set]; exact Hfn.out, Hown5.out, Hfir5.out, Hu3.out, Huf3.out, fun m hm => by have := Hle.out m hm; omega, rfl, hb5⟩
                  · rw [if_neg hneg] at hu huf
                    have hpos : 0 ≤ s := by omega
                    obtain ⟨m, rfl⟩ := Int.eq_ofNat_of_zero_le hpos
                    have hm : m < nb.length := by rw [Hnl.out]; omega
                    obtain ⟨gb', ofb, rfl, hgb, hcb2⟩ := hnx.at hm
                    have hnbm : Facts.inB nb m = nb[m] := by simp [Facts.inB, List.getD, List.getElem?_eq_getElem hm]
                    have ha : a < ls.length := by rw [Hln.out]; omega
                    obtain ⟨la, hla⟩ : ∃ la, la = ls[a] := ⟨_, rfl⟩
                    have hla' : ls[a]? = some la := by rw [hla]; exact List.getElem?_eq_getElem ha
                    have hlad : ls.getD a [] = la := by simp [List.getD, hla']
                    have hlen := Hle.out la (by rw [hla]; exact List.getElem_mem ha)
                    obtain ⟨v, g2, cap2, w5, hv, hcv, hcv1, hrun, hc2, hf2, hput, hvb, hov, hk2, hk3⟩ := hown.app (P := Try.prog) 23 23 i3 Try.underlying23 hi3 z0 z1 z2 hzr hla' (by omega) m 1
                    have hvx : ¬ v.ownBlock = some cx := hxk.own_ne hov (by decide)
                    have hx0 := hxk.cell 0
                    have hx1 := (hxk.alloc (.cells #[.int .i64 (m : Int)] 3)).cell 0
                    have hx2 := (hxk.kp hk2 hvx).cell 0
                    simp only [List.getElem?_cons_zero] at hx0 hx1 hx2
                    have hxk3 := hxk.kp hk3 (fun e => e.elim (fun e => by omega) hvx)
                    have hvbf : ¬ v.ownBlock = some bf := hfir.k.own_ne hov (by decide)
                    have hfir3 := hfir.kp hk3 (fun e => e.elim (fun e => by omega) hvbf) (fun k e es c he => by
                      rcases e with e | e
                      · have hb9 := hown.bk
                        unfold Bk at hb9
                        rw [e, hb9] at he
                        cases he
                      · obtain ⟨cs, t, h4⟩ := own_block hov e
                        rw [h4] at he
                        cases he)
                    have hb3 := hb.trans (hk3.to_below (B := B) (by omega) (fun k e => by
                      rcases e with e | e
                      · omega
                      · have := hvb k e; omega))
                    have hcb3 := (hb3.cell (p := ⟨gb', ofb + m, none⟩) (by rw [HB.out]; exact hgb)).trans ((hb.cell (p := ⟨gb', ofb + m, none⟩) (by rw [HB.out]; exact hgb)).symm.trans hcb2)
                    have Hput := hid hput
                    have Hlen := hid hlen
                    have Hfir3 := hid hfir3
                    have haa : (a : Int) < (ns.length : Int) := hl1
                    have hmm' : (m : Int) < (ns.length : Int) := h1
                    clear hla hla' hv hov hk2 hk3 hput hlen hvx hvb hvbf hfir3 hfir
                    cases hv0 : nb[m] with
                    | true =>
                      rw [hv0] at hcb2 hcb3 hnbm
                      rw [hnbm, if_pos rfl, Facts.appT, hlad] at hu
                      rw [hnbm, if_pos rfl] at huf
                      have Hu3 := hid hu
                      have Huf3 := hid huf
                      clear hu huf hnbm hv0 hlad
                      go_wp2_with fail
                      go_region_law ((refine step_append_run (by rfl) _ _ _ (by rfl) v (.slice (some ⟨wr.heap.size, 0, none⟩) 1 1) _ w5 (by go_simp) (by go_simp) (by exact hrun) ?_))
                      all_goals
                        go_wp2_with fail
                        go_roundg (r.length - (j + 1))
                        case measure => have hk := Hkj.out; omega
                        case rel =>
                          exact ⟨j + 1, _, _, by go_num, by omega, by rw [List.length_set]; exact Hln.out, Hput.out, Hfir3.out, Hu3.out, Huf3.out, fun m hm => by have := mem_set_len (m := 16 * i + j) Hle.out (by simp; exact Hlen.out) m hm; omega, hxk3, rfl, hb3⟩
                    | false =>
                      rw [hv0] at hcb2 hcb3 hnbm
                      rw [hnbm, if_neg (by decide), Facts.appT, Facts.appT, hlad] at hu
                      rw [hnbm, if_neg (by decide), Facts.putT] at huf
                      have Hu3 := hid hu
                      have Huf3 := hid huf
                      clear hu huf hnbm hv0 hlad
                      go_wp2_with fail
                      go_region_law ((refine step_append_run (by rfl) _ _ _ (by rfl) v (.slice (some ⟨wr.heap.size, 0, none⟩) 1 1) _ w5 (by go_simp) (by go_simp) (by exact hrun) ?_))
                      all_goals
                        go_wp2_with fail
                        go_roundg (ps.length - (i + 1))
                        case measure => have hk := Hk.out; omega
                        case rel =>
                          exact ⟨i + 1, _, _, _, _, by go_num, by omega, by rw [List.length_set]; exact Hln.out, Hfn.out, Hput.out, Hfir3.out.mono (by omega), Hu3.out, Huf3.out, fun m hm => by have := mem_set_len (m := 16 * i + j) Hle.out (by simp; exact Hlen.out) m hm; omega, rfl, hb3⟩
                · have hge2 : ¬ (j : Int) < (r.length : Int) := by omega
                  rw [List.drop_eq_nil_of_le (by omega), Facts.preS, Facts.appT] at hu
                  rw [List.drop_eq_nil_of_le (by omega), Facts.terS, Facts.putT] at huf
                  have Hu3 := hid hu
                  have Huf3 := hid huf
                  have Hfir := hid hfir
                  clear hu huf hfir
                  go_wp2_with fail
                  go_roundg (ps.length - (i + 1))
                  case measure => have hk := Hk.out; omega
                  case rel => exact ⟨i + 1, ls, fs, vs, ms, by go_num, by omega, Hln.out, Hfn.out, hown, Hfir.out.mono (by omega), Hu3.out, Huf3.out, fun m hm => by have := Hle.out m hm; omega, rfl, hb⟩
            --)
          · have hge : ¬ (i : Int) < (ps.length : Int) := by omega
            have hu := Hu.out
            rw [List.drop_eq_nil_of_le (by omega), Facts.allT] at hu
            have huf := Huf.out
            rw [List.drop_eq_nil_of_le (by omega), Facts.firT] at huf
            have hfirE := hfir.mono (m' := ps.length) hi
            have hbkr := hbk2.below hb hbB
            have g2 := hbkr.cell 2
            simp only [List.getElem?_cons_zero, List.getElem?_cons_succ] at g2
            have hrow := hown.rows
            have hmem : ∀ (k : Nat) l, ls[k]? = some l → ∀ s ∈ l, 0 ≤ s ∧ s < (ns.length : Int) := by
              intro k l hkl s hs
              have hm := (Facts.allT_mem (Facts.stepF (Facts.inB nb) (Facts.inB gb)) k s ps (List.replicate ns.length []) (fun x hx => ⟨Hsg.out.l0 x hx, by simpa using Hsg.out.l1 x hx⟩)).1 (by rw [← Hres.out, ← hu]; simp [List.getD, hkl]; exact hs)
              rcases hm with hm | ⟨x, hx, -, hm⟩
              · rw [List.getD, List.getElem?_replicate] at hm
                by_cases hkn : k < ns.length <;> simp [hkn] at hm
              · have hm2 := Facts.stepF_mem hm
                exact ⟨hm2.1, Hsg.out.r1 x hx s hm2.2⟩
            have hsum : (ls.map List.length).sum ≤ 100000 := by
              have := Facts.allT_sum (Facts.stepF (Facts.inB nb) (Facts.inB gb)) 16 ps (List.replicate ns.length []) (fun x hx => Nat.le_trans (Facts.stepF_length _) (Hsg.out.r16 x hx))
              rw [← Hres.out, ← hu] at this
              simp at this
              omega
            have Hmem := hid hmem
            have Hsum := hid hsum
            have Hu3 := hid hu
            have Huf3 := hid huf
            clear hmem hsum hbkr hu huf Hu Huf hfir hlt hi Hk Hle
            go_upto_region 25 with (at_make; refine wpList_make_bk _ rfl _ _ _ rfl 23 i2 _ Try.underlying52 hi2 y0 y1 rfl _ _ ns.length rfl rfl rfl rfl (by rw [y2]; omega) (by omega) ?_; intro w6 hkb hk6)
            have hlbf := hfirE.k.lt
            have hrow6 := (hrow.mono (D' := fun k => k < wr.heap.size) (fun k hk => hk.2)).kp hk6 (fun _ _ h => h)
            have hfir6 := hfirE.kp hk6 (fun h => h) (fun _ h => h.elim)
            have hb6 := hb.trans (hk6.to_below (B := B) (by have := hown.bk.lt; omega) (fun k hk => hk.elim))
            have hzr : B + 1 ≤ wr.heap.size := hown.bk.lt
            obtain ⟨bo2, hbo2⟩ : ∃ bo2, bo2 = wr.heap.size := ⟨_, rfl⟩
            rw [← hbo2] at hkb hrow6 hzr hlbf ⊢
            clear hbo2 hk6 hrow hown hb g2 hfirE
            go_wp2_with fail
            go_loopg [94] ns.length (fun k v94 wr => FirOut B w2 B bf bo2 ns.length ps.length ls fs ms k v94 wr)
            case atStart => exact ⟨0, [], [], rfl, by omega, rfl, rfl, by simpa using hkb, fun a v ss h => by simp at h, fun a ss h => by simp at h, hrow6, hfir6, rfl, hb6⟩
            case round =>
              clear hkb hrow6 hfir6 hb6
              obtain ⟨m, vs2, sss, rfl, hm, hvl, hsl, hkb, hvo, hri, hrow, hfir, hk, hb⟩ := hrel
              have Hkm := hid hk
              have Hvo := hid hvo
              have Hri := hid hri
              clear hk hvo hri
              have hlb := hkb.lt
              by_cases hlm : m < ns.length
              · have hlm' : (m : Int) < (ns.length : Int) := by omega
                have hm0 : (0 : Int) ≤ (m : Int) := by omega
                have hmm := Hmm.out
                go_upto_region 29 with fail
                have hset0 := SetI.made wr
                have hkM : Kp (fun _ => False) wr (wr.alloc (.map #[] 0)) := (Kp.refl _ wr).alloc _
                have hszM : (wr.alloc (.map #[] 0)).heap.size = wr.heap.size + 1 := by simp
                obtain ⟨wm, hwm⟩ : ∃ wm, wm = wr.alloc (.map #[] 0) := ⟨_, rfl⟩
                obtain ⟨ba, hba⟩ : ∃ ba, ba = wr.heap.size := ⟨_, rfl⟩
                rw [← hba, ← hwm] at hset0
                rw [← hwm] at hkM
                rw [← hwm, ← hba] at hszM
                rw [← hwm, ← hba]
                have Hba := hid hba
                have HszM := hid hszM
                have hlba : bo2 < ba := by rw [hba]; exact hlb
                clear hwm hba hszM hmm
                have hks : Kp (fun _ => False) wm (wm.alloc (.cells #[.int .i64 (m : Int)] 3)) := (Kp.refl _ wm).alloc _
                have hrowS := (hrow.kp hkM (fun _ _ h => h)).kp hks (fun _ _ h => h)
                have hfS : RowID (wm.alloc (.cells #[.int .i64 (m : Int)] 3)) (fun k => k < (wm.alloc (.cells #[.int .i64 (m : Int)] 3)).heap.size) (some ⟨wm.heap.size, 0, none⟩) [(m : Int)] := by
                  intro i hi
                  have hi0 : i = 0 := by simpa using hi
                  subst hi0
                  exact ⟨_, 0, _, rfl, by simp, (Bk.new wm 3 [.int .i64 (m : Int)]).cell 0, rfl⟩
                have hspr := spread_calls (wm.alloc (.cells #[.int .i64 (m : Int)] 3)) (fun k => k < bo2) _ (some ⟨B, 0, none⟩) (some ⟨wm.heap.size, 0, none⟩) ns.length 1 ns.length ls [(m : Int)] hrowS Hln.out (by omega) hfS (fun h => by cases h) (fun k hk => by have := HszM.out; simp; omega) Hmem.out (fun a ha => by simp at ha; omega) (by have := Hsum.out; simp; omega)
                have HSpr := hid hspr
                clear hspr hfS hrowS hks
                go_wp2_with (go_at_call 62; refine HSpr.out.mono ?_; rintro e w7 ⟨b9, bs, rfl, hge9, hbl9, hk9, hcome, hb7⟩)
                have hb7' : Below wm.heap.size wm w7 := ((Below.refl _ wm).alloc (Nat.le_refl _) _).trans (hb7.mono (by simp))
                have hk7 : Kp (fun _ => False) wm w7 := (Kp.refl _ wm).below hb7' (fun k hk _ => hk)
                have hkR7 : Kp (fun _ => False) wr w7 := hkM.trans hk7
                have hset7 := hset0.kp hk7 (fun h => h)
                have hb9a : ba < b9 := by have := HszM.out; simp at hge9; omega
                have Hcome := hid hcome
                have Hbl9 := hid hbl9
                clear hb7 hb7' hset0 hkM hk7 HSpr hcome hbl9 hge9
                go_loopg [103] ns.length (fun k v103 wq => FirAll w7 ba ns.length ps.length bs fs k v103 wq)
                case atStart => exact ⟨0, [], rfl, by omega, by simpa using hset7, fun z => by simp, rfl, Kp.refl _ _⟩
                case round =>
                  clear hset7
                  obtain ⟨j, la, rfl, hj, hset, hla, hkj, hkq⟩ := hrel
                  have Hkj := hid hkj
                  have Hla := hid hla
                  clear hkj hla
                  have hKq := (hkR7.mono (S' := fun k => k = ba) fun _ _ h => h.elim).trans hkq
                  have hfirq := hfir.new hKq (fun k e => by rw [e, Hba.out]; exact Nat.le_refl _)
                  have hk9q := hk9.kp hkq (by omega)
                  by_cases hlj : j < ns.length
                  · have hlj' : (j : Int) < (ns.length : Int) := by omega
                    have hj0 : (0 : Int) ≤ (j : Int) := by omega
                    have hjb : j < bs.length := by rw [Hbl9.out]; exact hlj
                    have cj := hk9q.cell j
                    simp only [List.getElem?_map, List.getElem?_eq_getElem hjb, Option.map_some] at cj
                    have hinj9 : Facts.inB bs j = bs[j] := by simp [Facts.inB, List.getD, List.getElem?_eq_getElem hjb]
                    cases hv9 : bs[j] with
                    | false =>
                      rw [hv9] at cj hinj9
                      have Hin9 := hid hinj9
                      clear hinj9 hv9
                      go_wp2_with fail
                      go_roundg (ns.length - (j + 1))
                      case measure => have hk := Hkj.out; omega
                      case rel =>
                        exact ⟨j + 1, la, by go_num, by omega, hset.mono (Nat.mul_le_mul_right _ (by omega)), fun z => by
                          rw [Hla.out z]
                          constructor
                          · rintro ⟨s, h1, h2⟩
                            exact ⟨s, by omega, h2⟩
                          · rintro ⟨s, h1, h2, h3⟩
                            by_cases hsj : s = j
                            · subst hsj
                              rw [Hin9.out] at h2
                              cases h2
                            · exact ⟨s, by omega, h2, h3⟩, rfl, hkq⟩
                    | true =>
                      rw [hv9] at cj hinj9
                      have Hin9 := hid hinj9
                      have hjf : j < fs.length := by rw [Hfn.out]; exact hlj
                      obtain ⟨lf, hlf⟩ : ∃ lf, lf = fs[j] := ⟨_, rfl⟩
                      have hlf' : fs[j]? = some lf := by rw [hlf]; exact List.getElem?_eq_getElem hjf
                      have hlfd : fs.getD j [] = lf := by simp [List.getD, hlf']
                      obtain ⟨b8, n8, hm1, hm2, hm3, hset8⟩ := hfir.row j lf hlf'
                      have hb8a : b8 < ba := by rw [Hba.out]; exact hset8.lt
                      have hset8q := hset8.kp hKq (by omega)
                      have cf := hfirq.k.cell j
                      rw [hm1] at cf
                      have hmul : j * ps.length ≤ 256 * 256 := Nat.mul_le_mul (by omega) hp1
                      have hcopy := copy_calls wr ba b8 (j * ps.length) n8 la lf hset hset8q (by omega) (by omega)
                      have Hcopy := hid hcopy
                      have Hlfd := hid hlfd
                      clear hinj9 hv9 hlf hlf' hlfd hm1 hset8 hset8q hcopy hset
                      go_wp2_with (go_at_call 63; refine Hcopy.out.mono ?_; rintro e w8 ⟨rfl, hset8, hg8⟩)
                      go_roundg (ns.length - (j + 1))
                      case measure => have hk := Hkj.out; omega
                      case rel =>
                        exact ⟨j + 1, lf ++ la, by go_num, by omega, hset8.mono (by rw [Nat.add_mul, Nat.one_mul]; omega), fun z => by
                          rw [List.mem_append, Hla.out z]
                          constructor
                          · rintro (h1 | ⟨s, h1, h2⟩)
                            · exact ⟨j, by omega, Hin9.out, by rw [Hlfd.out]; exact h1⟩
                            · exact ⟨s, by omega, h2⟩
                          · rintro ⟨s, h1, h2, h3⟩
                            by_cases hsj : s = j
                            · subst hsj
                              rw [Hlfd.out] at h3
                              exact .inl h3
                            · exact .inr ⟨s, by omega, h2, h3⟩, rfl, hkq.grown hg8 (fun k e _ => by injection e with e; exact e.symm)⟩
                  · have hge9 : ¬ (j : Int) < (ns.length : Int) := by omega
                    have hjn : j = ns.length := by omega
                    have hset9 := hset
                    rw [hjn] at hset9
                    have hmul : ns.length * ps.length ≤ 256 * 256 := Nat.mul_le_mul hn1 hp1
                    have hsort := sorted_calls wr ba (ns.length * ps.length) la hset9 (by omega)
                    have Hsort := hid hsort
                    have hfst : ∀ z, z ∈ la ↔ FstOf ls fs m z := fun z => by
                      rw [Hla.out z]
                      constructor
                      · rintro ⟨s, h1, h2, h3⟩
                        exact ⟨s, (Hcome.out (s : Int) (by omega)).1 h2, h3⟩
                      · rintro ⟨s, h1, h2⟩
                        refine ⟨s, ?_, (Hcome.out (s : Int) (by omega)).2 h1, h2⟩
                        rcases Nat.lt_or_ge s j with h | h
                        · exact h
                        · rw [List.getD, List.getElem?_eq_none (by rw [Hfn.out]; omega)] at h2
                          simp at h2
                    have Hfst := hid hfst
                    have hkbq := hkb.kp hKq (by omega)
                    have hrowq := hrow.kp hKq (fun k hk e => by omega)
                    have Hvoq : Hid (∀ (a : Nat) v ss, vs2[a]? = some v → sss[a]? = some ss → wr.ownsRow (bo2 + 1) 3 1 v ss.length (ss.map (Value.int .i64))) := hid fun a v ss h1 h2 => own_kp (Hvo.out a v ss h1 h2) hKq (fun g hg e => by
                      have := (World.ownsRow.lt (Hvo.out a v ss h1 h2) g hg).2
                      have := Hba.out
                      omega)
                    have hbq := hb.trans (hKq.to_below (B := B) (by have := hkb.lt; omega) (fun k e => by omega))
                    clear hsort hfst hset hset9 hjn hfir hrow hkb hb hk9 hk9q hkR7 hkq hKq
                    have hat : (vs2 ++ List.replicate (ns.length - m) (Value.slice none 0 0))[m]? = some (.slice none 0 0) := by
                      rw [List.getElem?_append_right (by omega), hvl, Nat.sub_self, List.getElem?_replicate]
                      simp
                      omega
                    have hlq := hkbq.lt
                    go_wp2_with (first
                      | (go_at_call 65; refine (keys_calls ba _).mono ?_; rintro e w8 ⟨rfl, rfl⟩)
                      | (go_at_call 64; refine Hsort.out.mono ?_; rintro e w9 ⟨v, ss, rfl, hrise, hvown, hb9⟩; obtain ⟨gv, cv, rfl, -⟩ := own_slice hvown; have hkb9 := hkbq.below hb9 hkbq.lt; have c9 : w9.cell? ⟨bo2, m, none⟩ = some (.slice none 0 0) := by { rw [hkb9.cell]; exact hat }; have f9 := hkb9.free m))
                    have hk9 : Kp (fun k => k = bo2) wr (w9.setCell ⟨bo2, m, none⟩ (.slice gv ss.length cv)) := (((Kp.refl (fun _ => False) wr).below hb9 (fun k hk _ => hk)).mono (S' := fun k => k = bo2) fun _ _ h => h.elim).set (.inl rfl) _
                    have hst9 : Kp (fun k => k = bo2) w9 (w9.setCell ⟨bo2, m, none⟩ (.slice gv ss.length cv)) := Kp.set (S := fun k => k = bo2) (Kp.refl _ w9) (.inl rfl) _
                    have hset2 : (vs2 ++ List.replicate (ns.length - m) (Value.slice none 0 0)).set m (.slice gv ss.length cv) = (vs2 ++ [.slice gv ss.length cv]) ++ List.replicate (ns.length - (m + 1)) (Value.slice none 0 0) := by
                      rw [List.set_append_right _ _ (by omega), hvl, Nat.sub_self, show ns.length - m = (ns.length - (m + 1)) + 1 by omega, List.replicate_succ, List.set_cons_zero, List.append_assoc]
                      rfl
                    have hvnew : (w9.setCell ⟨bo2, m, none⟩ (.slice gv ss.length cv)).ownsRow (bo2 + 1) 3 1 (.slice gv ss.length cv) ss.length (ss.map (Value.int .i64)) := own_kp (own_mono hvown (by omega)) hst9 (fun g hg e => by
                      have := (World.ownsRow.lt hvown g hg).1
                      omega)
                    have hvo2 : ∀ (a : Nat) v ss', (vs2 ++ [Value.slice gv ss.length cv])[a]? = some v → (sss ++ [ss])[a]? = some ss' → (w9.setCell ⟨bo2, m, none⟩ (.slice gv ss.length cv)).ownsRow (bo2 + 1) 3 1 v ss'.length (ss'.map (Value.int .i64)) := by
                      intro a v ss' h1 h2
                      by_cases ham : a < m
                      · rw [List.getElem?_append_left (by omega)] at h1 h2
                        exact own_kp (Hvoq.out a v ss' h1 h2) hk9 (fun g hg e => by
                          have := (World.ownsRow.lt (Hvoq.out a v ss' h1 h2) g hg).1
                          omega)
                      · have hla := (List.getElem?_eq_some_iff.1 h1).1
                        simp only [List.length_append, List.length_singleton] at hla
                        rw [List.getElem?_append_right (by omega), show a - vs2.length = 0 by omega] at h1
                        rw [List.getElem?_append_right (by omega), show a - sss.length = 0 by omega] at h2
                        simp at h1 h2
                        subst h1 h2
                        exact hvnew
                    have hri2 : ∀ (a : Nat) ss', (sss ++ [ss])[a]? = some ss' → RiseP (FstOf ls fs a) ss' := by
                      intro a ss' h2
                      by_cases ham : a < m
                      · rw [List.getElem?_append_left (by omega)] at h2
                        exact Hri.out a ss' h2
                      · have hla := (List.getElem?_eq_some_iff.1 h2).1
                        simp only [List.length_append, List.length_singleton] at hla
                        have ham2 : a = m := by omega
                        rw [List.getElem?_append_right (by omega), show a - sss.length = 0 by omega] at h2
                        simp at h2
                        subst h2
                        rw [ham2]
                        exact ⟨hrise.1, fun z => (hrise.2 z).trans (Hfst.out z)⟩
                    have Hnext : Hid (FirOut B w2 B bf bo2 ns.length ps.length ls fs ms (ns.length - (m + 1)) (.int .i64 ((m + 1 : Nat) : Int)) (w9.setCell ⟨bo2, m, none⟩ (.slice gv ss.length cv))) :=
                      hid ⟨m + 1, _, _, rfl, hlm, by simp [hvl], by simp [hsl], (hkb9.set m _).of hset2, hvo2, hri2, hrowq.kp hk9 (fun k hk e => by omega), hfirq.kp hk9 (by omega) (fun k e es c he => by
                        have hb8 := hkbq
                        unfold Bk at hb8
                        rw [e, hb8] at he
                        cases he), rfl, hbq.trans (hk9.to_below (B := B) (by omega) (fun k e => by omega))⟩
                    clear hvo2 hri2 hvnew hset2 hst9 hk9 hkb9
                    go_roundg (ns.length - (m + 1))
                    case measure => have hk := Hkm.out; omega
                    case rel => exact Hnext.out
              · have hge : ¬ (m : Int) < (ns.length : Int) := by omega
                have hmn : m = ns.length := by omega
                have hpost : FirstYes w ⟨st, ru, ns, ts, ps⟩ (.returned (.slice (some ⟨bo2, 0, none⟩) ns.length ns.length)) wr := by
                  refine ⟨bo2, nb, gb, sss, rfl, by rw [hsl, hmn], RowII.intro fun i x hx => ?_, Hnp.out, Hgp.out, fun a ss hss => ?_, hbw2.trans (hb.mono (by rw [HB.out]; exact hbw2.size))⟩
                  · have hi := (List.getElem?_eq_some_iff.1 hx).1
                    have hiv : i < vs2.length := by omega
                    have ho := Hvo.out i _ x (List.getElem?_eq_getElem hiv) hx
                    obtain ⟨ga, cap, h1, h2⟩ := own_rowI ho
                    exact ⟨bo2, 0, ga, cap, rfl, hkb.lt, by rw [Nat.zero_add, hkb.cell, List.getElem?_append_left hiv, List.getElem?_eq_getElem hiv, h1], h2⟩
                  · have h1 := Hri.out a ss hss
                    rw [Hu3.out, Huf3.out, Hres.out, HresF.out] at h1
                    exact h1
                have Hpost := hid hpost
                clear hpost
                go_wp2_with fail
                go_ret
                exact Hpost.out
end Go.Proofs.Ytbpgolmbielpgaa
