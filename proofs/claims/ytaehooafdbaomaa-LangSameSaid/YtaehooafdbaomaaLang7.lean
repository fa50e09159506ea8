/- Chapter 10 (lang): all: walk. -/
import Derived.Test.YtaehooafdbaomaaLang6
import Derived.Test.YtaehooafdbaomaaSortT2
namespace Go.Proofs.Ytaehooafdbaomaa
open Go.RowKit
attribute [local go_sem ↓] Go.wp_at_zero Go.wp_at_succ
attribute [local go_sem] frozen_alloc_lt

/-- What all answers: the words in order; or that they are too many. -/
def AllOk (G : Gr) (most : Nat) (w : World) (e : Ending) (w' : World) : Prop :=
  ∃ (v : Value) (ss : List (List UInt8)), e = .returned (.tuple #[v, .int .i64 0]) ∧ ss.Pairwise WLt ∧ (∀ z, z ∈ ss ↔ Lg.Der G.prods [G.start] z ∧ z.length ≤ most) ∧ ss.length ≤ 4096 ∧
    w'.ownsRow w.heap.size 9 1 v ss.length (ss.map encStr)
def AllLong (G : Gr) (most : Nat) (e : Ending) : Prop :=
  e = .returned (.tuple #[.slice none 0 0, .int .i64 6]) ∧ ∃ (ks : List Int) (live : Int → Prop), Facts.Sho G.prods G.names.length ks ∧ Facts.fixS G.prods ks ∧ Lg.Over G.prods live ks most
set_option maxHeartbeats 8000000 in
set_option maxRecDepth 8000 in
theorem all_calls (w : World) (G : Gr) (gn gt gp : Option Addr) (cn ct cp : Nat) (most : Nat) (hm : most ≤ 64) (hs : Pl.soundB G = true) (hg : GIn w G gn gt gp) (hc : CapP w gp G.prods) :
    Calls Try.prog 95 #[.agg #[.int .i64 G.start, .int .i64 G.rules, .slice gn G.names.length cn, .slice gt G.terms.length ct, .slice gp G.prods.length cp], .int .i64 (most : Int)] w fun e w' => (AllOk G most w e w' ∨ AllLong G most e) ∧ Below w.heap.size w w' := by
  have hk1 := Bk.new w 30 [.int .i64 G.start, .int .i64 G.rules, .slice gn G.names.length cn, .slice gt G.terms.length ct, .slice gp G.prods.length cp]
  have hb1 : Below w.heap.size w (w.alloc (.cells #[.int .i64 G.start, .int .i64 G.rules, .slice gn G.names.length cn, .slice gt G.terms.length ct, .slice gp G.prods.length cp] 30)) := bel_al (bel_id w) _
  obtain ⟨w1, hw1⟩ : ∃ w1, w1 = w.alloc (.cells #[.int .i64 G.start, .int .i64 G.rules, .slice gn G.names.length cn, .slice gt G.terms.length ct, .slice gp G.prods.length cp] 30) := ⟨_, rfl⟩
  obtain ⟨b2, hb2⟩ : ∃ b2, b2 = w.heap.size := ⟨_, rfl⟩
  rw [← hw1] at hk1 hb1
  rw [← hb2] at hk1
  have hg1 := hg.later hb1
  have x0 := hk1.cell 0
  have x1 := hk1.cell 1
  have x2 := hk1.cell 2
  have x3 := hk1.cell 3
  have x4 := hk1.cell 4
  simp only [List.getElem?_cons_zero, List.getElem?_cons_succ] at x0 x1 x2 x3 x4
  have hsound := sound_calls w1 G gn gt gp cn ct cp hg1.n hg1.t hg1.p hg1.h1 hg1.h2 hg1.h3 hg1.h4
  rw [hs] at hsound
  have Hsound := hid hsound
  have Hw1 := hid (And.intro hw1 hb2)
  have Hg := hid (And.intro hg (And.intro hc hs))
  have Hb1 := hid hb1
  have Hk1 := hid hk1
  have hm0 : (0 : Int) ≤ (most : Int) := by omega
  have hm1 : ¬ (64 : Int) < (most : Int) := by omega
  have hm0' : ¬ (most : Int) < 0 := by omega
  clear hk1 hb1 hw1 hb2 hg1 hsound hg hc hs
  go_enter Try.func95, Try.ntmps95
  go_upto_region 1 with fail
  rw [← Hw1.out.1, ← Hw1.out.2]
  go_upto_region 3 with (go_at_call 61; refine Hsound.out.mono ?_; rintro e w2 ⟨rfl, hb2⟩)
  have hbw2 : Below w.heap.size w w2 := Hb1.out.trans (hb2.mono Hb1.out.size)
  have hk2 := Hk1.out.below hb2 Hk1.out.lt
  have x0 := hk2.cell 0
  have x1 := hk2.cell 1
  have x2 := hk2.cell 2
  have x3 := hk2.cell 3
  have x4 := hk2.cell 4
  simp only [List.getElem?_cons_zero, List.getElem?_cons_succ] at x0 x1 x2 x3 x4
  have hshort := short_yes w2.drew G gn gt gp cn ct cp ((Hg.out.1.later hbw2).later (Below.refl _ _).drew) Hg.out.2.2
  have hS : ∀ W, Below w2.heap.size w2 W → (W.cell? ⟨b2, 0, none⟩ = some (.int .i64 G.start) ∧ W.cell? ⟨b2, 1, none⟩ = some (.int .i64 G.rules) ∧ W.cell? ⟨b2, 2, none⟩ = some (.slice gn G.names.length cn) ∧ W.cell? ⟨b2, 3, none⟩ = some (.slice gt G.terms.length ct) ∧ W.cell? ⟨b2, 4, none⟩ = some (.slice gp G.prods.length cp)) := fun W hb =>
    ⟨(hb.cell (p := ⟨b2, 0, none⟩) hk2.lt).trans x0, (hb.cell (p := ⟨b2, 1, none⟩) hk2.lt).trans x1, (hb.cell (p := ⟨b2, 2, none⟩) hk2.lt).trans x2, (hb.cell (p := ⟨b2, 3, none⟩) hk2.lt).trans x3, (hb.cell (p := ⟨b2, 4, none⟩) hk2.lt).trans x4⟩
  have HS := hid hS
  have HD := hid (show Below w2.heap.size w2 w2.drew from (Below.refl _ _).drew)
  have Hshort := hid hshort
  have Hbw2 := hid hbw2
  have hb2w : b2 = w.heap.size := Hw1.out.2
  have Hb2w := hid (show w.heap.size ≤ b2 by omega)
  clear hbw2 hk2 x0 x1 x2 x3 x4 hshort hS hb2 hb2w
  go_region_held3 (fun W : World => W.cell? ⟨b2, 0, none⟩ = some (.int .i64 G.start) ∧ W.cell? ⟨b2, 1, none⟩ = some (.int .i64 G.rules) ∧ W.cell? ⟨b2, 2, none⟩ = some (.slice gn G.names.length cn) ∧ W.cell? ⟨b2, 3, none⟩ = some (.slice gt G.terms.length ct) ∧ W.cell? ⟨b2, 4, none⟩ = some (.slice gp G.prods.length cp))
    (first | exact HS.out _ HD.out | exact HS.out _ Hb3.out | exact HS.out _ (bel_al Hb3.out _))
    (first
      | (go_at_call 58; refine Hshort.out.mono ?_; rintro e w3 ⟨gk, ck, ks, rfl, hgk, hbk, hsho, hfix, hb3⟩; have Hb3 := hid (show Below w2.heap.size w2 w3 from HD.out.trans hb3); have Hk3 := hid (And.intro hgk (And.intro hbk (And.intro hsho hfix))); clear hgk hbk hsho hfix hb3))
  have hbf4 := Bk.new w3 196 [.int .i64 G.start, .int .i64 G.rules, .slice gn G.names.length cn, .slice gt G.terms.length ct, .slice gp G.prods.length cp, .int .i64 (most : Int), .slice (some ⟨gk, 0, none⟩) G.names.length ck, .slice none 0 0, .slice none 0 0, .bool false]
  have hb34 : Below w2.heap.size w2 (w3.alloc (.cells #[.int .i64 G.start, .int .i64 G.rules, .slice gn G.names.length cn, .slice gt G.terms.length ct, .slice gp G.prods.length cp, .int .i64 (most : Int), .slice (some ⟨gk, 0, none⟩) G.names.length ck, .slice none 0 0, .slice none 0 0, .bool false] 196)) := bel_al Hb3.out _
  have hk4 := Hk3.out.2.1.alloc (.cells #[.int .i64 G.start, .int .i64 G.rules, .slice gn G.names.length cn, .slice gt G.terms.length ct, .slice gp G.prods.length cp, .int .i64 (most : Int), .slice (some ⟨gk, 0, none⟩) G.names.length ck, .slice none 0 0, .slice none 0 0, .bool false] 196)
  obtain ⟨w4, hw4⟩ : ∃ w4, w4 = (w3.alloc (.cells #[.int .i64 G.start, .int .i64 G.rules, .slice gn G.names.length cn, .slice gt G.terms.length ct, .slice gp G.prods.length cp, .int .i64 (most : Int), .slice (some ⟨gk, 0, none⟩) G.names.length ck, .slice none 0 0, .slice none 0 0, .bool false] 196)) := ⟨_, rfl⟩
  obtain ⟨bf, hbf⟩ : ∃ bf, bf = w3.heap.size := ⟨_, rfl⟩
  rw [← hw4] at hbf4 hb34 hk4 ⊢
  rw [← hbf] at hbf4 ⊢
  obtain ⟨F, hFe⟩ : ∃ F : FP, F = ⟨w2, G, gn, gt, gp, cn, ct, cp, most, ks, gk, ck⟩ := ⟨_, rfl⟩
  have hF : F.Ok := by
    rw [hFe]
    exact ⟨sndG Hg.out.2.2, Hk3.out.2.2.1, Hk3.out.2.2.2, by omega, Hg.out.1.later Hbw2.out, fun i x hx => by
      obtain ⟨g, o, a, c, h1, h2, h3, h4⟩ := Hg.out.2.1 i x hx
      exact ⟨g, o, a, c, h1, Nat.lt_of_lt_of_le h2 Hbw2.out.size, (Hbw2.out.cell (p := ⟨g, _, none⟩) h2).trans h3, h4⟩⟩
  have hgk : gk < w3.heap.size := Hk3.out.2.1.lt
  have hfnd : Fnd F bf (.slice none 0 0) (.slice none 0 0) false w4 := by
    rw [hFe]
    exact ⟨hbf4, hk4, Hk3.out.1, by show gk < bf; omega, hb34⟩
  have hb23 := Hb3.out.size
  have HF := hid hF
  have Hfnd := hid hfnd
  have HFe := hid hFe
  have Hb34 := hid hb34
  have hbfw : w2.heap.size ≤ bf := by omega
  have Hbf := hid (And.intro hbfw (show w.heap.size ≤ bf by have := Hbw2.out.size; omega))
  have hkw : ∀ W, Kp (fun k => k = bf) w4 W → Below w2.heap.size w2 W := fun W hk => Hb34.out.trans (hk.to_below (by have := Hb34.out.size; omega) (fun k e => by omega))
  have Hkw := hid hkw
  clear hbf4 hb34 hk4 hw4 hbf hF hgk hfnd hb23 hFe hbfw hkw
  go_upto_region 5 with (go_at_call 125; refine (mark_calls F HF.out w4 bf _ false Hfnd.out).mono ?_; rintro e w5 ⟨rfl, gl, bs, hf5, hl5, hbl, hlv, hk5⟩)
  have Hm5 := hid (And.intro hf5 (And.intro hl5 (And.intro hbl (And.intro hlv hk5))))
  clear hf5 hl5 hbl hlv hk5
  go_upto_if 28 with (go_at_call 126; refine (find_calls F HF.out w5 bf gl bs Hm5.out.1 Hm5.out.2.1 Hm5.out.2.2.1 Hm5.out.2.2.2.1).mono ?_; rintro e w6 ⟨b, many, gw, ms, W, rfl, hf6, hw6, hk6, hcase⟩)
  have hk46 : Kp (fun k => k = bf) w4 w6 := Hm5.out.2.2.2.2.trans hk6
  have hb26 := Hkw.out w6 hk46
  have hbw6 : Below w.heap.size w w6 := Hbw2.out.trans (hb26.mono Hbw2.out.size)
  have Hf6 := hid (And.intro hf6 (And.intro hw6 hcase))
  have Hb26 := hid hb26
  have Hbw6 := hid hbw6
  clear hf6 hw6 hk6 hcase hk46 hb26 hbw6
  cases b with
  | false =>
    go_wp2_with fail
    go_ret2
    refine ⟨.inr ⟨rfl, ks, liveP bs, Hk3.out.2.2.1, Hk3.out.2.2.2, ?_⟩, Hbw6.out⟩
    rcases Hf6.out.2.2 with ⟨h, -⟩ | ⟨-, h⟩
    · cases h
    · rw [HFe.out] at h; exact h
  | true =>
    have hs0 := HF.out.snd.s0
    have hs1 := HF.out.snd.s1
    rw [HFe.out] at hs0 hs1
    simp only at hs0 hs1
    obtain ⟨st, hst⟩ : ∃ st : Nat, G.start = (st : Int) := ⟨G.start.toNat, by omega⟩
    have hstn : st < G.names.length := by omega
    obtain ⟨m, -, hmc, hmX, -⟩ := Hf6.out.2.1.at (a := st) (by rw [HFe.out]; exact hstn)
    have d8 := Hf6.out.1.f.cell 8
    simp only [FP.cells, List.getElem?_cons_zero, List.getElem?_cons_succ] at d8
    have hFn : F.G.names.length = G.names.length := by rw [HFe.out]
    rw [hFn] at d8
    obtain ⟨s0, -⟩ := HS.out w6 Hb26.out
    rw [hst] at s0
    have hWl : (W st).length ≤ 4096 := by
      rcases Hf6.out.2.2 with ⟨-, -, -, h⟩ | ⟨h, -⟩
      · exact h st
      · cases h
    have hkeys := keysT_calls m w6.drew
    have hsorted := sortedT_calls w6.drew m (W st) (hmX.at rfl) (by omega)
    have hS6 : ∀ W', Below w6.heap.size w6 W' → (W'.cell? ⟨bf, 8, none⟩ = some (.slice (some ⟨gw, 0, none⟩) G.names.length G.names.length) ∧ W'.cell? ⟨b2, 0, none⟩ = some (.int .i64 (st : Int)) ∧ W'.cell? ⟨gw, st, none⟩ = some (.map (some m))) := fun W' hb =>
      ⟨(hb.cell (p := ⟨bf, 8, none⟩) Hf6.out.1.f.lt).trans d8, (hb.cell (p := ⟨b2, 0, none⟩) (World.block_lt_of_cell? _ _ s0)).trans s0, (hb.cell (p := ⟨gw, st, none⟩) (World.block_lt_of_cell? _ _ hmc)).trans hmc⟩
    have HS6 := hid hS6
    have HD6 := hid (show Below w6.heap.size w6 w6.drew from (Below.refl _ _).drew)
    have Hkeys := hid hkeys
    have Hsorted := hid hsorted
    have Hst := hid (And.intro hst hWl)
    have hst0 : (0 : Int) ≤ (st : Int) := by omega
    have hst1 : (st : Int) < (G.names.length : Int) := by omega
    clear hs0 hs1 hst hmc hmX d8 hFn s0 hWl hkeys hsorted hS6
    go_upto_region 7 with fail
    go_region_held3 (fun W' : World => W'.cell? ⟨bf, 8, none⟩ = some (.slice (some ⟨gw, 0, none⟩) G.names.length G.names.length) ∧ W'.cell? ⟨b2, 0, none⟩ = some (.int .i64 (st : Int)) ∧ W'.cell? ⟨gw, st, none⟩ = some (.map (some m)))
      (first | exact HS6.out _ HD6.out | exact HS6.out _ (bel_al HD6.out _) | exact HS6.out _ Hb7.out)
      (first
        | (go_at_call 127; refine Hsorted.out.mono ?_; rintro e w7 ⟨v, ss, rfl, hR, hown, hb7⟩; have Hb7 := hid (show Below w6.heap.size w6 w7 from HD6.out.trans hb7); have H7 := hid (And.intro hR hown); clear hR hown hb7)
        | (go_at_call 128; refine Hkeys.out.mono ?_; rintro e wk ⟨rfl, rfl⟩))
    go_wp2_with fail
    go_ret2
    have hss : ∀ z, z ∈ ss ↔ Lg.Der G.prods [G.start] z ∧ z.length ≤ most := fun z => by
      rw [H7.out.1.2 z]
      rcases Hf6.out.2.2 with ⟨-, h1, h2, -⟩ | ⟨h, -⟩
      · rw [HFe.out] at h1 h2
        simp only at h1 h2
        constructor
        · intro hz
          have h3 := h1 st z hz
          rw [Hst.out.1]
          exact ⟨h3.1, by have := h3.2; omega⟩
        · rintro ⟨h3, h4⟩
          rw [Hst.out.1] at h3
          have h5 := (Lg.der_len Hk3.out.2.2.2 h3).2.2 (st : Int) (by simp)
          have hlv := Hm5.out.2.2.2.1
          rw [HFe.out] at hlv
          have hl1 := hlv.st
          have hl2 := hlv.sp
          simp only at hl1 hl2
          rw [Hst.out.1] at hl1
          refine Lg.complete_one Hk3.out.2.2.2 hl2 h2 (hl1 ?_) h3 (by omega)
          unfold Lg.kOf at h5
          rw [if_pos (by omega)] at h5
          exact h5
      · cases h
    refine ⟨.inl ⟨v, ss, rfl, H7.out.1.1, hss, ?_, own_mono H7.out.2 Hbw6.out.size⟩, Hbw6.out.trans (Hb7.out.mono Hbw6.out.size)⟩
    have hnd : ss.Nodup := H7.out.1.1.imp fun {x y} h e => by subst e; exact WLt.irrefl x h
    have := nodup_sub (m := W st) hnd (fun z hz => (H7.out.1.2 z).1 hz)
    have := Hst.out.2
    omega
end Go.Proofs.Ytaehooafdbaomaa
