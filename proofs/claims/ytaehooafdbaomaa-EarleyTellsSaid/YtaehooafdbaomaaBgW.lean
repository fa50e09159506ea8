/- The document's answer, chapter 17: Begins: walk. -/
import Derived.Test.YtaehooafdbaomaaBgL
namespace Go.Proofs.Ytaehooafdbaomaa
open Go.RowKit
attribute [local go_sem ↓] Go.wp_at_zero Go.wp_at_succ
attribute [local go_sem] frozen_alloc_lt
namespace Ed

set_option maxHeartbeats 16000000 in
set_option maxRecDepth 100000 in
theorem begins_calls (w : World) (G : Gr) (gn gt gp : Option Addr) (cn ct cp : Nat) (h : GIn w G gn gt gp) (hs : Pl.soundB G = true) (gw : Option Addr) (cw : Nat) (word : List Int) (hw : RowI w w.heap.size gw word) (hwl : word.length ≤ 64) (hcw : word.length ≤ cw) (hnil : gw = none → cw = 0) :
    Calls Try.prog 44 #[.agg #[.int .i64 G.start, .int .i64 G.rules, .slice gn G.names.length cn, .slice gt G.terms.length ct, .slice gp G.prods.length cp], .slice gw word.length cw] w (BegSaid w G.prods G.start word) := by
  obtain ⟨i4, hi4, z0, z1, z2⟩ := info_parts boolInfoD
  obtain ⟨i5, hi5, y0, y1, y2⟩ := info_parts boolsInfoD
  have Hs := hid hs
  have Hsg := hid (sndG hs)
  have hn0 := Hsg.out.n0
  have hn1 := Hsg.out.n1
  have hp1 := Hsg.out.p1
  have ht1 := Hsg.out.t1
  have hb0 : Below w.heap.size w (w.alloc (.cells #[.int .i64 G.start, .int .i64 G.rules, .slice gn G.names.length cn, .slice gt G.terms.length ct, .slice gp G.prods.length cp] 33)) := (Below.refl _ _).alloc (Nat.le_refl _) _
  have hbk : Bk (w.alloc (.cells #[.int .i64 G.start, .int .i64 G.rules, .slice gn G.names.length cn, .slice gt G.terms.length ct, .slice gp G.prods.length cp] 33)) w.heap.size 33 [.int .i64 G.start, .int .i64 G.rules, .slice gn G.names.length cn, .slice gt G.terms.length ct, .slice gp G.prods.length cp] := Bk.new w _ _
  have hw0 := (hw.below hb0).mono hb0.size
  have hG0 := h.later hb0
  go_enter Try.func44, Try.ntmps44
  go_upto_region 1 with (fail)
  obtain ⟨wd, hwd⟩ : ∃ wd, wd = (w.alloc (.cells #[.int .i64 G.start, .int .i64 G.rules, .slice gn G.names.length cn, .slice gt G.terms.length ct, .slice gp G.prods.length cp] 33)) := ⟨_, rfl⟩
  obtain ⟨bb, hbb⟩ : ∃ bb, bb = w.heap.size := ⟨_, rfl⟩
  rw [← hwd] at hb0 hbk hw0 hG0 ⊢
  rw [← hbb] at hbk ⊢
  have g0 := hbk.cell 0
  have g1 := hbk.cell 1
  have g2 := hbk.cell 2
  have g3 := hbk.cell 3
  have g4 := hbk.cell 4
  simp only [List.getElem?_cons_zero, List.getElem?_cons_succ] at g0 g1 g2 g3 g4
  have H0 := hid (And.intro hbk (And.intro hw0 (And.intro hG0 hb0)))
  have Hcw := hid (And.intro hcw hnil)
  clear hwd hbb hw hs h hbk hw0 hG0 hb0 hcw hnil
  go_upto_region 3 with (go_at_call 87; refine (rshort_calls _ G gn gt gp cn ct cp H0.out.2.2.1 Hs.out).mono ?_; rintro e w1 ⟨gk, ck, ks, rfl, hgk, hbks, hsho, hfix, hb1⟩)
  have hk1 := H0.out.1.below hb1 H0.out.1.lt
  have g0 := hk1.cell 0
  have g1 := hk1.cell 1
  have g2 := hk1.cell 2
  have g3 := hk1.cell 3
  have g4 := hk1.cell 4
  simp only [List.getElem?_cons_zero, List.getElem?_cons_succ] at g0 g1 g2 g3 g4
  have H1 := hid (And.intro hk1 (And.intro hgk (And.intro hbks (And.intro hsho (And.intro hfix hb1)))))
  clear hk1 hgk hbks hsho hfix hb1
  go_upto_region 4 with (go_at_call 88; refine (parts_calls w1 G gn gt gp cn ct cp (H0.out.2.2.1.later H1.out.2.2.2.2.2) Hs.out gw cw word ((H0.out.2.1.below H1.out.2.2.2.2.2).mono H1.out.2.2.2.2.2.size) hwl Hcw.out.1 Hcw.out.2).mono ?_; rintro e w2 ⟨bd, cd, gd, D, rfl, hdd, hpa, hb2⟩)
  obtain ⟨K, hK⟩ : ∃ K, K = G.names.length := ⟨_, rfl⟩
  obtain ⟨n, hn⟩ : ∃ n, n = word.length := ⟨_, rfl⟩
  obtain ⟨N, hN⟩ : ∃ N, N = n + 1 := ⟨_, rfl⟩
  obtain ⟨t, ht⟩ : ∃ t, t = N * N := ⟨_, rfl⟩
  obtain ⟨B, hB⟩ : ∃ B, B = w2.heap.size := ⟨_, rfl⟩
  have hN65 : N ≤ 65 := by omega
  have hN1 : 1 ≤ N := by omega
  have htm : t ≤ 4225 := by rw [ht]; exact Nat.mul_le_mul hN65 hN65
  have hn64 : n ≤ 64 := by omega
  have hk2 := H1.out.1.below hb2 H1.out.1.lt
  have hks2 := H1.out.2.2.1.below hb2 H1.out.2.2.1.lt
  have hsl : ks.length = K := by rw [hK]; exact H1.out.2.2.2.1.len
  have hb02 := belw H0.out.2.2.2 (belw H1.out.2.2.2.2.2 hb2)
  have hw2 := (H0.out.2.1.below (belw H1.out.2.2.2.2.2 hb2)).mono (belw H1.out.2.2.2.2.2 hb2).size
  have hG2 := H0.out.2.2.1.later (belw H1.out.2.2.2.2.2 hb2)
  rw [← hn, ← hN] at hdd hpa
  rw [← ht] at hdd
  have hcd : ∀ W, Below B w2 W → W.cell? ⟨bb, 0, none⟩ = some (.int .i64 G.start) ∧ W.cell? ⟨bb, 2, none⟩ = some (.slice gn K cn) ∧ W.cell? ⟨bb, 4, none⟩ = some (.slice gp G.prods.length cp) := fun W hW => by
    rw [hB] at hW
    have k := hk2.below hW hk2.lt
    exact ⟨k.cell 0, by rw [hK]; exact k.cell 2, k.cell 4⟩
  have hck : ∀ W, Below B w2 W → ∀ a : Nat, a < K → W.cell? ⟨gk, a, none⟩ = some (.int .i64 (Facts.atK ks (a : Int))) := fun W hW a ha => by
    rw [hB] at hW
    have k := (hks2.below hW hks2.lt).cell a
    rw [k, List.getElem?_map, List.getElem?_eq_getElem (by omega)]
    simp [Facts.atK, List.getD, List.getElem?_eq_getElem (show a < ks.length by omega)]
  have HC := hid hcd
  have HCk := hid hck
  have HD := hid (And.intro hdd hpa)
  have HW := hid (And.intro hw2 (And.intro hG2 hb02))
  have HS := hid (And.intro H1.out.2.2.2.1 H1.out.2.2.2.2.1)
  have HK := hid hK
  have Hn := hid hn
  have HNn := hid hN
  have Ht := hid ht
  have HB := hid hB
  have hnc : (n : Int) + 1 = (N : Int) := by omega
  rw [← hK] at hn0 hn1
  rw [← hK, ← hn]
  clear g0 g1 g2 g3 g4 hk2 hks2 hsl hb02 hw2 hG2 hdd hpa hcd hck hK hn hN ht hB H0 H1 hwl hb2
  obtain ⟨q0, q2, q4⟩ := HC.out w2 (Below.refl _ _)
  go_wp2_with fail
  clear q0 q2 q4
  go_loopg [8, 9] K (fun k v8 v9 wr => BL1 w2 B N n K ks k v8 v9 wr)
  case atStart => exact ⟨0, [], _, rfl, rfl, by omega, World.ownsRow_nil _ _ _ _, rfl, (fun j g hg => by simp at hg), List.nodup_nil, rfl, Below.refl _ _⟩
  case round =>
    obtain ⟨i, gs, v5, rfl, rfl, hi, hown, hgl, hgs, hnd, hk, hb⟩ := hrel
    have HR := hid (And.intro hown (And.intro hgl (And.intro hgs (And.intro hnd (And.intro hk hb)))))
    obtain ⟨q0, q2, q4⟩ := HC.out wr hb
    by_cases hlt : i < K
    · as_aux_lemma =>
        have hlt' : (i : Int) < (K : Int) := by omega
        have hi0 : (0 : Int) ≤ (i : Int) := by omega
        have hBr : B ≤ wr.heap.size := by have := HB.out; have := hb.size; omega
        obtain ⟨wo, rfl⟩ : ∃ wo : World, wo = wr := ⟨_, rfl⟩
        clear hown hgl hgs hnd hk hb
        go_upto_region 9 with (at_make; refine wpList_make_bk _ rfl _ _ _ rfl 4 i4 _ Try.underlying133 hi4 z0 z1 rfl _ _ N rfl rfl rfl rfl (by rw [z2]; omega) (by omega) ?_; intro w3 hbl hk3)
        obtain ⟨gl, hgl⟩ : ∃ gl, gl = wo.heap.size := ⟨_, rfl⟩
        rw [← hgl] at hbl ⊢
        have hbl1 : Bk w3 gl 4 ((List.replicate N false).map Value.bool) := hbl.of (by simp)
        have cl := hbl1.cell n
        rw [List.getElem?_map, List.getElem?_replicate, if_pos (by omega)] at cl
        simp only [Option.map_some] at cl
        have fl := hbl1.free n
        have hb23 : Below wo.heap.size wo w3 := hk3.to_below (Nat.le_refl _) (fun k e => e.elim)
        have hcs := (hb23.mono (Nat.le_refl _))
        have hsk := HCk.out w3 (HR.out.2.2.2.2.2.trans (hb23.mono hBr)) i hlt
        obtain ⟨kv, hkv⟩ : ∃ kv, kv = Facts.atK ks (i : Int) := ⟨_, rfl⟩
        rw [← hkv] at hsk
        have hnN : (n : Int) < (N : Int) := by omega
        have hn00 : (0 : Int) ≤ (n : Int) := by omega
        have hbl2 := hbl1.set n (.bool (decide (0 ≤ kv)))
        rw [← List.map_set] at hbl2
        have Hbl2 := hid (And.intro hbl2 (And.intro hb23 (And.intro hgl hkv)))
        clear hbl hbl1 hbl2 hb23 hk3 hgl hkv hcs
        go_upto_region 10 with fail
        clear cl fl hsk
        obtain ⟨w4, hw4⟩ : ∃ w4, w4 = w3.setCell ⟨gl, n, none⟩ (.bool (decide (0 ≤ kv))) := ⟨_, rfl⟩
        rw [← hw4]
        have hbo : Below wo.heap.size wo w4 := by rw [hw4]; exact Hbl2.out.2.1.setCell (p := ⟨gl, n, none⟩) (by rw [Hbl2.out.2.2.1]; exact Nat.le_refl _) _
        have hbl4 : Bk w4 gl 4 ((rowB0 ks n i).map Value.bool) := by
          have e : rowB0 ks n i = (List.replicate N false).set n (decide (0 ≤ kv)) := by unfold rowB0; rw [HNn.out, Hbl2.out.2.2.2]
          rw [hw4, e]
          exact Hbl2.out.1
        have hrun := row_app (P := Try.prog) (own_below HR.out.1 hbo) 150 150 i5 (.slice none 0 0) 24 Try.underlying150 hi5 y0 y1 y2 rfl (by omega) (by have := hbo.size; omega) (by omega) (.slice (some ⟨gl, 0, none⟩) N N) rfl 0
        obtain ⟨g2, cap2, w9, hrun, hon2, hk9, hg2, hl2⟩ := hrun
        have H9 := hid (And.intro hon2 (And.intro hk9 (And.intro hg2 (And.intro hl2 (And.intro hbo hbl4)))))
        clear hon2 hk9 hg2 hl2 hbo hbl4 hw4 q0 q2 q4
        go_wp2_with (at_builtin; refine wpList_append_run rfl _ _ _ rfl v5 (.slice (some ⟨w4.heap.size, 0, none⟩) 1 1) (.slice (some ⟨g2, 0, none⟩) (i + 1) cap2) w9 (by rfl) (by rfl) (by exact hrun) ?_)
        go_roundg (K - (i + 1))
        case measure => have := HR.out.2.2.2.2.1; omega
        case rel =>
          have hglo : gl = wo.heap.size := Hbl2.out.2.2.1
          have hown := HR.out.1
          have hvg : v5.ownBlock ≠ some gl := fun e => by
            have := (World.ownsRow.lt hown gl e).2
            omega
          have hgl4 := H9.out.2.2.2.2.2.lt
          refine ⟨i + 1, gs ++ [gl], _, rfl, by go_num, by omega, by rw [List.map_append]; exact H9.out.1, by simp [HR.out.2.1], fun j g hg => ?_, ?_, rfl, ?_⟩
          · rcases get_snoc hg with ⟨h0, h1⟩ | ⟨e1, rfl⟩
            · obtain ⟨h2, h3, h4⟩ := HR.out.2.2.1 j g h1
              refine ⟨h2, (h3.below H9.out.2.2.2.2.1 h3.lt).kp H9.out.2.1 h4, fun e => ?_⟩
              have e : g2 = g := by simpa [Value.ownBlock] using e
              subst e
              rcases H9.out.2.2.1 with h5 | h5
              · exact h4 h5
              · have := (h3.below H9.out.2.2.2.2.1 h3.lt).lt
                omega
            · rw [HR.out.2.1] at e1
              subst e1
              refine ⟨by omega, H9.out.2.2.2.2.2.kp H9.out.2.1 hvg, fun e => ?_⟩
              have e : g2 = gl := by simpa [Value.ownBlock] using e
              rcases H9.out.2.2.1 with h5 | h5
              · rw [e] at h5; exact hvg h5
              · omega
          · rw [List.nodup_append]
            refine ⟨HR.out.2.2.2.1, by simp, fun a ha b hb' e => ?_⟩
            have hb' : b = gl := by simpa using hb'
            obtain ⟨j, hj⟩ := List.getElem?_of_mem ha
            have := (HR.out.2.2.1 j a hj).2.1.lt
            omega
          · exact (HR.out.2.2.2.2.2.trans (H9.out.2.2.2.2.1.mono hBr)).trans (H9.out.2.1.to_below (by have := H9.out.2.2.2.2.1.size; omega) (fun k e => (World.ownsRow.lt hown k e).1))
    · have hge : ¬ (i : Int) < (K : Int) := by omega
      have hin : K = i := by omega
      subst hin
      rcases hown.2 with ⟨-, h0⟩ | ⟨bo, cap, cur, rfl, hbo, hh, hr⟩
      · omega
      have hBB : DB wr B bo N gs (tabB0 ks n K) := by
        refine ⟨by rw [hgl]; simp [tabB0], fun a g hg => ?_, fun a g l hg hl => ?_, hnd, fun g hg => ?_, (Array.getElem?_eq_some_iff.1 hh).1⟩
        · have h1 := hown.cells (g := bo) rfl a (drV N g) (by rw [List.getElem?_map, hg]; rfl)
          rwa [show ((⟨bo, 0, none⟩ : Addr).add a) = ⟨bo, a, none⟩ by unfold Addr.add; split <;> simp_all] at h1
        · rw [(tabB0_get hl).2]
          exact (hgs a g hg).2.1
        · obtain ⟨j, hj⟩ := List.getElem?_of_mem hg
          exact ⟨(hgs j g hj).1, fun e => (hgs j g hj).2.2 (by rw [e]; rfl)⟩
      have hT0 : TabB G.prods word K (tabB0 ks n K) := by
        rw [Hn.out]
        refine TabB.start ?_ HS.out.2 Hsg.out.l0
        rw [HK.out]
        exact HS.out.1
      have Hdb := hid hBB
      have HT0 := hid hT0
      obtain ⟨wo, rfl⟩ : ∃ wo : World, wo = wr := ⟨_, rfl⟩
      obtain ⟨cb, rfl⟩ : ∃ cb : Nat, cb = cap := ⟨_, rfl⟩
      have Hbo := hid hb
      clear HR hown hh hr hBB hb q0 q4 hgl hgs hnd hk hbo hT0
      go_wp2_with fail
      clear q2
      go_loopg [11] (2 * Dr.cntT (tabB0 ks n K) + 1) (fun k v11 wr => BL2 w2 B bo N K gs G.prods word k v11 wr)
      case atStart => exact ⟨_, true, rfl, Hdb.out, HT0.out, (fun h => by cases h), by simp, Hbo.out⟩
      case round =>
        clear HT0 Hdb Hbo
        obtain ⟨F, more, rfl, hdb, hT, hfix, hk, hb⟩ := hrel
        have Hk := hid hk
        have Hfix := hid hfix
        have HT := hid hT
        have Hdb1 := hid hdb
        have Hb1 := hid hb
        obtain ⟨q0, q2, q4⟩ := HC.out wr hb
        have hBr : B ≤ wr.heap.size := by have := HB.out; have := hb.size; omega
        clear hk hfix hT hdb hb
        cases more with
        | false =>
          have hs0 := Hsg.out.s0
          have hs1 := Hsg.out.s1
          rw [← HK.out] at hs1
          have hrlt : ∀ l ∈ F, l.length = N := fun l hl => by rw [HT.out.rl l hl, ← Hn.out, ← HNn.out]
          obtain ⟨sn, hsn⟩ : ∃ sn : Nat, G.start = (sn : Int) := Int.eq_ofNat_of_zero_le hs0
          obtain ⟨gz, rowz, hgz, hfz, c1, c2, f2, hrz, hgzB⟩ := Hdb1.out.at HT.out.len hrlt (show sn < K by omega) (show 0 < N by omega)
          have htold := HT.out.told (Hfix.out rfl) (fun y hy s hs => by rw [HK.out]; exact Hsg.out.r1 y hy s hs) (show sn < K by omega) (Nat.zero_le _)
          rw [List.drop_zero] at htold
          obtain ⟨res, hres⟩ : ∃ res, res = Dr.tb F sn 0 := ⟨_, rfl⟩
          rw [← hres] at c2 htold
          have Htold := hid htold
          have Hsn := hid hsn
          have hN0 : (0 : Int) < (N : Int) := by omega
          have hsK : (sn : Int) < (K : Int) := by omega
          have hs00 : (0 : Int) ≤ (sn : Int) := by omega
          rw [hsn] at q0
          clear hrlt hgz hfz hrz hres htold hsn hs0 hs1
          go_wp2_with fail
          go_ret
          exact ⟨res, rfl, by rw [Hsn.out]; exact Htold.out, HW.out.2.2.trans (Hb1.out.mono (by have h1 := HB.out; have h2 := HW.out.2.2.size; omega))⟩
        | true =>
          obtain ⟨P, hP⟩ : ∃ P, P = Dr.cntT F := ⟨_, rfl⟩
          have HP := hid hP
          clear hP
          obtain ⟨w2', rfl⟩ : ∃ w2' : World, w2' = wr := ⟨_, rfl⟩
          go_wp2_with fail
          go_loopg [11, 12] G.prods.length (fun k v11 v12 wr => BL3 w2 B bo N K gs G.prods word P k v11 v12 wr)
          case atStart => exact ⟨0, F, false, rfl, rfl, by omega, Hdb1.out, HT.out, (fun _ q y hq => by omega), by rw [HP.out]; simp, rfl, Hb1.out⟩
          case round =>
            clear q0 q2 q4 hBr
            obtain ⟨x, F3, more3, rfl, rfl, hx, hdb, hT, hfix, hcnt, hk, hb⟩ := hrel
            have Hk3 := hid hk
            have Hfix3 := hid hfix
            have HT3 := hid hT
            have Hdb3 := hid hdb
            have Hb3 := hid hb
            have Hcnt3 := hid hcnt
            obtain ⟨q0, q2, q4⟩ := HC.out wr hb
            have hBr : B ≤ wr.heap.size := by have := HB.out; have := hb.size; omega
            clear hk hfix hT hdb hcnt
            by_cases hlt : x < G.prods.length
            · have hlt' : (x : Int) < (G.prods.length : Int) := by omega
              have hx0 : (0 : Int) ≤ (x : Int) := by omega
              obtain ⟨y, hy⟩ : ∃ y, y = G.prods[x] := ⟨_, rfl⟩
              have hxi : G.prods[x]? = some y := by rw [hy]; exact List.getElem?_eq_getElem hlt
              have hym : y ∈ G.prods := by rw [hy]; exact List.getElem_mem hlt
              have hl0 := Hsg.out.l0 y hym
              have hl1 := Hsg.out.l1 y hym
              have hr16 := Hsg.out.r16 y hym
              have hr0 := Hsg.out.r0 y hym
              have hr1 := Hsg.out.r1 y hym
              rw [← HK.out] at hl1 hr1
              obtain ⟨l, r⟩ := y
              simp only at hl0 hl1 hr16 hr0 hr1
              obtain ⟨a, rfl⟩ := Int.eq_ofNat_of_zero_le hl0
              obtain ⟨g, off, gr, cr, hgp, hg, hd0, hd1, hri⟩ := HW.out.2.1.p x _ hxi
              rw [← HB.out] at hg hri
              simp only at hd0 hd1 hri
              have hc0 := (hb.cell (p := ⟨g, _, none⟩) hg).trans hd0
              have hc1 := (hb.cell (p := ⟨g, _, none⟩) hg).trans hd1
              have Hxi := hid hxi
              have Hgp := hid hgp
              have Hri := hid hri
              have Hd := hid (And.intro hg (And.intro hd0 hym))
              have haK : a < K := by omega
              have hfine := fine_gd HS.out.1 HS.out.2 Hsg.out.l0 (r := r) (fun s hs => by rw [← HK.out]; exact hr1 s hs)
              have Hfine := hid hfine
              clear hy hxi hri hl0 hb hd0 hd1 hfine hym
              go_wp2_with (rw [hgp])
              rw [← Hgp.out]
              clear hgp hc0 hc1 hg q0 q2 q4
              obtain ⟨w3, rfl⟩ : ∃ w3 : World, w3 = wr := ⟨_, rfl⟩
              go_loopg [14, 15] r.length (fun k v14 v15 wr => BL4 w3 ks r k v14 v15 wr)
              case atStart => exact ⟨0, true, rfl, rfl, by omega, rfl, rfl, rfl⟩
              case round =>
                obtain ⟨j, ok, rfl, rfl, hj, hok, hk, rfl⟩ := hrel
                have Hj := hid (And.intro hok hk)
                clear hok hk
                by_cases hltj : j < r.length
                · as_aux_lemma =>
                    have hltj' : (j : Int) < (r.length : Int) := by omega
                    have hj0 : (0 : Int) ≤ (j : Int) := by omega
                    obtain ⟨s, hse⟩ : ∃ s, s = r[j] := ⟨_, rfl⟩
                    have hsm : s ∈ r := by rw [hse]; exact List.getElem_mem hltj
                    have hs0 := hr0 s hsm
                    have hs1 := hr1 s hsm
                    obtain ⟨gs', os, hgr, hgs', hcs⟩ := Hri.out.at hltj
                    rw [← hse] at hcs
                    have hcs3 := (Hb3.out.cell (p := ⟨gs', _, none⟩) hgs').trans hcs
                    have hnx : (r.take (j + 1)).all (gdB ks) = (ok && gdB ks s) := by
                      rw [List.take_succ_eq_append_getElem hltj, List.all_append, Hj.out.1, ← hse]
                      simp
                    have Hnx := hid hnx
                    clear hse hsm hnx hcs
                    rw [hgr]
                    cases ok with
                    | false =>
                      go_wp2_with fail
                      rw [← hgr]
                      go_roundg (r.length - (j + 1))
                      case measure => have := Hj.out.2; omega
                      case rel => exact ⟨j + 1, false, by go_num, rfl, by omega, by rw [Hnx.out]; rfl, rfl, rfl⟩
                    | true =>
                      by_cases hsn : s < 0
                      · have hsnb : decide (s < 0) = true := by simp [hsn]
                        have hgd : gdB ks s = true := by unfold gdB; rw [hsnb]; rfl
                        have Hgd := hid hgd
                        clear hgd
                        go_wp2_with fail
                        rw [← hgr]
                        go_roundg (r.length - (j + 1))
                        case measure => have := Hj.out.2; omega
                        case rel => exact ⟨j + 1, true, by go_num, rfl, by omega, by rw [Hnx.out, Hgd.out]; rfl, rfl, rfl⟩
                      · have hsnb : decide (s < 0) = false := by simp; omega
                        obtain ⟨b, rfl⟩ := Int.eq_ofNat_of_zero_le (show 0 ≤ s by omega)
                        have hbK : (b : Int) < (K : Int) := by omega
                        have hb00 : (0 : Int) ≤ (b : Int) := by omega
                        have hck := HCk.out w3 Hb3.out b (by omega)
                        obtain ⟨kv, hkv⟩ : ∃ kv, kv = Facts.atK ks (b : Int) := ⟨_, rfl⟩
                        rw [← hkv] at hck
                        have Hkv := hid hkv
                        clear hkv
                        by_cases hk0 : 0 ≤ kv
                        · have hkb : decide (0 ≤ kv) = true := by simp [hk0]
                          have hgd : gdB ks (b : Int) = true := by unfold gdB; rw [hsnb, ← Hkv.out, hkb]; rfl
                          have Hgd := hid hgd
                          clear hgd
                          go_wp2_with fail
                          rw [← hgr]
                          go_roundg (r.length - (j + 1))
                          case measure => have := Hj.out.2; omega
                          case rel => exact ⟨j + 1, true, by go_num, rfl, by omega, by rw [Hnx.out, Hgd.out]; rfl, rfl, rfl⟩
                        · have hkb : decide (0 ≤ kv) = false := by simp; omega
                          have hgd : gdB ks (b : Int) = false := by unfold gdB; rw [hsnb, ← Hkv.out, hkb]; rfl
                          have Hgd := hid hgd
                          clear hgd
                          go_wp2_with fail
                          rw [← hgr]
                          go_roundg (r.length - (j + 1))
                          case measure => have := Hj.out.2; omega
                          case rel => exact ⟨j + 1, false, by go_num, rfl, by omega, by rw [Hnx.out, Hgd.out]; rfl, rfl, rfl⟩
                · have hgej : ¬ (j : Int) < (r.length : Int) := by omega
                  have hokr := Hj.out.1
                  rw [List.take_of_length_le (by omega)] at hokr
                  have Hok := hid hokr
                  clear hokr
                  go_wp2_with fail
                  go_loopg [11, 16] n (fun k v11 v16 wr => BL5 w2 B bo N n K gs G.prods word P x a r k v11 v16 wr)
                  case atStart => exact ⟨0, F3, more3, rfl, rfl, by omega, Hdb3.out, HT3.out, (fun h => ⟨Hfix3.out h, fun i' hi' => by omega⟩), Hcnt3.out, rfl, Hb3.out⟩
                  case round =>
                    -- L5
                    obtain ⟨i, F4, more4, rfl, rfl, hi, hdb, hT, hfix, hcnt, hk, hb⟩ := hrel
                    have Hk4 := hid hk
                    have Hfix4 := hid hfix
                    have HT4 := hid hT
                    have Hdb4 := hid hdb
                    have Hb4 := hid hb
                    have Hcnt4 := hid hcnt
                    obtain ⟨q0, q2, q4⟩ := HC.out wr hb
                    have hBr : B ≤ wr.heap.size := by have := HB.out; have := hb.size; omega
                    have hrlt : ∀ l ∈ F4, l.length = N := fun l hl => by rw [HT4.out.rl l hl, ← Hn.out, ← HNn.out]
                    have hrlt4 := hid hrlt
                    clear hk hfix hT hdb hcnt hb hrlt
                    cases ok with
                    | false =>
                      go_wp2_with fail
                      go_roundg (G.prods.length - (x + 1))
                      case measure => have hk := Hk3.out; omega
                      case rel => exact ⟨x + 1, F4, more4, by go_num, rfl, by omega, Hdb4.out, HT4.out, fun h => (Hfix4.out h).1.next Hxi.out (fun hf => by have h1 := Hfine.out.2 hf; rw [← Hok.out] at h1; cases h1), Hcnt4.out, rfl, Hb4.out⟩
                    | true =>
                      by_cases hlti : i < n
                      · have hlti' : (i : Int) < (n : Int) := by omega
                        have hltiN : (i : Int) < (N : Int) := by omega
                        have hiN : i < N := by omega
                        have hi0 : (0 : Int) ≤ (i : Int) := by omega
                        have hc0 := (Hb4.out.cell (p := ⟨g, _, none⟩) Hd.out.1).trans Hd.out.2.1
                        obtain ⟨gz, rowz, hgz, hfz, c1, c2, f2, hrz, hgzB⟩ := Hdb4.out.at HT4.out.len hrlt4.out haK hiN
                        have haKi : (a : Int) < (K : Int) := by omega
                        have ha00 : (0 : Int) ≤ (a : Int) := by omega
                        rw [Hgp.out] at q4
                        clear hgz hfz f2 hrz hgzB
                        obtain ⟨w4, rfl⟩ : ∃ w4 : World, w4 = wr := ⟨_, rfl⟩
                        cases htv : Dr.tb F4 a i with
                        | true =>
                          rw [htv] at c2
                          have Htv := hid htv
                          clear htv
                          go_wp2_with fail
                          go_roundg (n - (i + 1))
                          case measure => have hk := Hk4.out; omega
                          case rel =>
                            refine ⟨i + 1, F4, more4, by go_num, rfl, by omega, Hdb4.out, HT4.out, fun h => ⟨(Hfix4.out h).1, fun i' hi' => ?_⟩, Hcnt4.out, rfl, Hb4.out⟩
                            rcases Nat.lt_or_ge i' i with h5 | h5
                            · exact (Hfix4.out h).2 i' h5
                            · obtain rfl : i' = i := by omega
                              exact .inl Htv.out
                        | false =>
                          rw [htv] at c2
                          have Htv := hid htv
                          clear htv
                          go_upto_region 28 with (at_make; refine wpList_make_bk _ rfl _ _ _ rfl 4 i4 _ Try.underlying133 hi4 z0 z1 rfl _ _ N rfl rfl rfl rfl (by rw [z2]; omega) (by omega) ?_; intro w5 hbc hk5)
                          obtain ⟨g4, hg4⟩ : ∃ g4, g4 = w4.heap.size := ⟨_, rfl⟩
                          rw [← hg4] at hbc ⊢
                          have hbc1 : Bk w5 g4 4 ((List.replicate N false).map Value.bool) := hbc.of (by simp)
                          have cn0 : w5.cell? ⟨g4, i, none⟩ = some (.bool false) := by rw [hbc1.cell]; simp [hiN]
                          have fn0 := hbc1.free i
                          have hst := hbc1.set i (.bool true)
                          rw [← List.map_set] at hst
                          have hks : Kp (fun k => k = g4) w5 (w5.setCell ⟨g4, i, none⟩ (.bool true)) := Kp.set (S := fun k => k = g4) (p := ⟨g4, i, none⟩) (Kp.refl _ _) (.inl rfl) _
                          have hb45 : Below g4 w4 (w5.setCell ⟨g4, i, none⟩ (.bool true)) := (hk5.to_below (by omega) (fun k e => e.elim)).trans (hks.to_below (by rw [hg4]; exact hk5.size) (fun k e => by omega))
                          have Hst := hid hst
                          have Hb45 := hid hb45
                          have Hg4 := hid hg4
                          clear hbc hbc1 hst hks hb45 hk5 hg4 q0 q2 q4 c1 c2 hc0
                          go_wp2_with fail
                          clear cn0 fn0
                          obtain ⟨wz, hwz⟩ : ∃ wz, wz = w5.setCell ⟨g4, i, none⟩ (.bool true) := ⟨_, rfl⟩
                          rw [← hwz] at Hst Hb45 ⊢
                          clear hwz
                          go_loopg [17, 18, 19] r.length (fun k v17 v18 v19 wr => BL6 w4 N F4 G.prods word r i k v17 v18 v19 wr)
                          case atStart =>
                            have hiW : i ≤ word.length := by have := Hn.out; omega
                            refine ⟨0, g4, _, false, rfl, rfl, rfl, by omega, Hst.out, by have := Hg4.out; omega, by simp, fun v hv h => ?_, (fun h => by cases h), fun _ => ⟨fun q' u h => by omega, fun v hv h => ?_⟩, rfl, by rw [← Hg4.out]; exact Hb45.out⟩
                            · rw [Dr.gB_set (by simpa using hiN), Dr.gB_rep, Bool.or_false] at h
                              exact (Nw.zero hiW).2 (by simpa using h)
                            · rw [Dr.gB_set (by simpa using hiN)]
                              have := (Nw.zero hiW).1 h
                              simp [this]
                          case round =>
                            obtain ⟨q, gw5, nw, yes, rfl, rfl, rfl, hq, hbn, hg5, hnl, hsn, hys, hyc, hk, hb⟩ := hrel
                            have Hk6 := hid hk
                            have Hbn := hid hbn
                            have Hnl := hid hnl
                            have Hsn := hid hsn
                            have Hys := hid hys
                            have Hyc := hid hyc
                            have Hb5 := hid hb
                            clear hk hbn hnl hsn hys hyc hb
                            by_cases hltq : q < r.length
                            · have hltq' : (q : Int) < (r.length : Int) := by omega
                              have hq0 : (0 : Int) ≤ (q : Int) := by omega
                              obtain ⟨s, hse⟩ : ∃ s, s = r[q] := ⟨_, rfl⟩
                              have hsm : s ∈ r := by rw [hse]; exact List.getElem_mem hltq
                              have hqs : r[q]? = some s := by rw [hse]; exact List.getElem?_eq_getElem hltq
                              have hs0 := hr0 s hsm
                              have hs1 := hr1 s hsm
                              have hBw : Below B w2 wr := Hb4.out.trans (Hb5.out.mono hBr)
                              obtain ⟨gs', os, hgr, hgs', hcs⟩ := Hri.out.at hltq
                              rw [← hse] at hcs
                              have Hqs := hid hqs
                              have Hgr := hid hgr
                              have Hbw := hid hBw
                              clear hse hqs hgr hBw hsm
                              obtain ⟨wq, rfl⟩ : ∃ wq : World, wq = wr := ⟨_, rfl⟩
                              go_upto_region 34 with (at_make; refine wpList_make_bk _ rfl _ _ _ rfl 4 i4 _ Try.underlying133 hi4 z0 z1 rfl _ _ N rfl rfl rfl rfl (by rw [z2]; omega) (by omega) ?_; intro w6 hbc hk6)
                              obtain ⟨gx, hgx⟩ : ∃ gx, gx = wq.heap.size := ⟨_, rfl⟩
                              rw [← hgx] at hbc ⊢
                              have hbx : Bk w6 gx 4 ((List.replicate N false).map Value.bool) := hbc.of (by simp)
                              have hb6 : Below wq.heap.size wq w6 := hk6.to_below (Nat.le_refl _) (fun k e => e.elim)
                              have Hbx := hid hbx
                              have Hb6 := hid hb6
                              have Hgx := hid hgx
                              have hgn5 : gw5 < gx := by rw [hgx]; exact Hbn.out.lt
                              have h46 : w4.heap.size ≤ gx := by rw [hgx]; exact Hb5.out.size
                              clear hbc hbx hb6 hk6 hgx
                              go_wp2_with fail
                              go_loopg [18, 21] N (fun k v18 v21 wr => BL7 w6 gx N F4 G.prods word r i q s yes k v18 v21 wr)
                              case atStart => exact ⟨0, _, yes, rfl, rfl, by omega, Hbx.out, by simp, (fun v hv h => by rw [Dr.gB_rep] at h; cases h), Hys.out, fun h => ⟨h, (Hyc.out h).1, fun u' h => by omega, fun v hv u' h => by omega⟩, rfl, Below.refl _ _⟩
                              case round =>
                                obtain ⟨u, nx, yes7, rfl, rfl, hu, hbx, hxl, hxs, hxy, hxc, hk, hb⟩ := hrel
                                have Hk7 := hid hk
                                have Hbx6 := hid hbx
                                have Hxl := hid hxl
                                have Hxs := hid hxs
                                have Hxy := hid hxy
                                have Hxc := hid hxc
                                have hb46 : Below w4.heap.size w4 wr := (Hb5.out.trans (Hb6.out.mono (by exact Hb5.out.size))).trans (hb.mono h46)
                                have hBr6 : Below B w2 wr := Hb4.out.trans (hb46.mono hBr)
                                have Hb66 := hid hb
                                have Hb46 := hid hb46
                                have hbn6 := (Hbn.out.below Hb6.out Hbn.out.lt).below hb hgn5
                                clear hk hbx hxl hxs hxy hxc hb hb46
                                by_cases hltu : u < N
                                · have hltu' : (u : Int) ≤ (n : Int) := by omega
                                  have hltuN : (u : Int) < (N : Int) := by omega
                                  have hu0 : (0 : Int) ≤ (u : Int) := by omega
                                  have cnu : wr.cell? ⟨gw5, u, none⟩ = some (.bool (Dr.gB nw u)) := by rw [hbn6.cell, List.getElem?_map, Dr.gB_get (by rw [Hnl.out]; exact hltu)]; rfl
                                  clear hbn6
                                  cases hgu : Dr.gB nw u with
                                  | false =>
                                    have hAu : yes = false → ¬ Nw G.prods word r i q u := fun h e => by rw [(Hyc.out h).2 u hltu e] at hgu; cases hgu
                                    have HAu := hid hAu
                                    rw [hgu] at cnu
                                    clear hgu hAu
                                    go_wp2_with fail
                                    go_roundg (N - (u + 1))
                                    case measure => have hk := Hk7.out; omega
                                    case rel =>
                                      refine ⟨u + 1, nx, yes7, by go_num, rfl, by omega, Hbx6.out, Hxl.out, Hxs.out, Hxy.out, fun h => ?_, rfl, Hb66.out⟩
                                      obtain ⟨k0, k1, k2, k3⟩ := Hxc.out h
                                      refine ⟨k0, k1, fun u' hu' hh => ?_, fun v hv u' hu' hN hE => ?_⟩
                                      · rcases Nat.lt_or_ge u' u with h4 | h4
                                        · exact k2 u' h4 hh
                                        · obtain rfl : u' = u := by omega
                                          obtain ⟨_, _, hN, _⟩ := hh
                                          exact HAu.out k0 hN
                                      · rcases Nat.lt_or_ge u' u with h4 | h4
                                        · exact k3 v hv u' h4 hN hE
                                        · obtain rfl : u' = u := by omega
                                          exact absurd hN (HAu.out k0)
                                  | true =>
                                    have hNu : Nw G.prods word r i q u := Hsn.out u hltu hgu
                                    have HNu := hid hNu
                                    rw [hgu] at cnu
                                    have hcs6 := (hBr6.cell (p := ⟨gs', _, none⟩) hgs').trans hcs
                                    have HBr6 := hid hBr6
                                    clear hgu hNu hBr6
                                    by_cases hun : u = n
                                    · have hunb : ((u : Int) == (n : Int)) = true := by simp [hun]
                                      have hunb2 : (u == n) = true := by simp [hun]
                                      have hunb3 : decide (u = n) = true := by simp [hun]
                                      have Hun := hid hun
                                      clear hun
                                      go_wp2_with fail
                                      go_roundg (N - (u + 1))
                                      case measure => have hk := Hk7.out; omega
                                      case rel => exact ⟨u + 1, nx, true, by go_num, rfl, by omega, Hbx6.out, Hxl.out, Hxs.out, fun _ => ⟨q, u, s, Hqs.out, HNu.out, .inl (by rw [Hun.out, Hn.out])⟩, (fun h => by cases h), rfl, Hb66.out⟩
                                    · have hunb : ((u : Int) == (n : Int)) = false := by simp; omega
                                      have hunb2 : (u == n) = false := by simp [hun]
                                      have hunb3 : decide (u = n) = false := by simp [hun]
                                      have huW : u < word.length := by have := Hn.out; omega
                                      have HuW := hid huW
                                      by_cases hsn : s < 0
                                      · as_aux_lemma =>
                                          have hsnb : decide (s < 0) = true := by simp [hsn]
                                          rw [Hgr.out]
                                          go_upto_region 41 with fail
                                          obtain ⟨gww, oww, hgw, hgwB, hcw0⟩ := HW.out.1.at huW
                                          rw [← HB.out] at hgwB
                                          obtain ⟨wu, hwd, hcw⟩ : ∃ wu, word[u]? = some wu ∧ w2.cell? ⟨gww, oww + u, none⟩ = some (.int .i64 wu) := ⟨_, List.getElem?_eq_getElem huW, hcw0⟩
                                          have hcw6 := (HBr6.out.cell (p := ⟨gww, _, none⟩) hgwB).trans hcw
                                          have Hwd := hid hwd
                                          have Hgw := hid hgw
                                          have huW2 : (u : Int) < (n : Int) := by omega
                                          clear hwd hcw hcw0 hgw huW
                                          rw [Hgw.out]
                                          by_cases hwe : wu = -1 - s
                                          · have heb : (wu == -1 - s) = true := by simp [hwe]
                                            have Hwe := hid hwe
                                            clear hwe
                                            go_quiet (fail)
                                            have cx := Hbx6.out.cell (u + 1)
                                            have fx := Hbx6.out.free (u + 1)
                                            rw [List.getElem?_map, Dr.gB_get (by rw [Hxl.out]; omega)] at cx
                                            simp only [Option.map_some] at cx
                                            have hu1n : (u : Int) + 1 < (N : Int) := by omega
                                            have hu10 : (0 : Int) ≤ (u : Int) + 1 := by omega
                                            have hunn : ((u : Int) + 1).toNat = u + 1 := by omega
                                            go_wp2_with fail
                                            rw [← Hgw.out, ← Hgr.out]
                                            go_roundg (N - (u + 1))
                                            case measure => have hk := Hk7.out; omega
                                            case rel =>
                                              have hE : Ew G.prods word s u (u + 1) := (Ew.term hsn HuW.out).2 ⟨rfl, by rw [Hwd.out, Hwe.out]⟩
                                              refine ⟨u + 1, nx.set (u + 1) true, yes7, by go_num, rfl, by omega, by rw [List.map_set]; exact (Hbx6.out.drewN _).set (u + 1) _, by rw [List.length_set]; exact Hxl.out, fun v hv hg => ?_, Hxy.out, fun h => ?_, rfl, (below_drewN Hb66.out _).setCell (p := ⟨gx, u + 1, none⟩) (Nat.le_refl _) _⟩
                                              · rw [Dr.gB_set (by rw [Hxl.out]; omega)] at hg
                                                rcases Bool.or_eq_true_iff.1 hg with hg | hg
                                                · obtain rfl : v = u + 1 := by simpa using hg
                                                  exact (Nw.step Hqs.out).2 ⟨u, HNu.out, hE⟩
                                                · exact Hxs.out v hv hg
                                              · obtain ⟨k0, k1, k2, k3⟩ := Hxc.out h
                                                refine ⟨k0, k1, fun u' hu' hh => ?_, fun v hv u' hu' hN hE' => ?_⟩
                                                · rcases Nat.lt_or_ge u' u with h4 | h4
                                                  · exact k2 u' h4 hh
                                                  · obtain rfl : u' = u := by omega
                                                    obtain ⟨t', ht', _, h5⟩ := hh
                                                    rw [Hqs.out] at ht'
                                                    cases ht'
                                                    rcases h5 with h5 | ⟨h5, _⟩
                                                    · have := HuW.out
                                                      omega
                                                    · omega
                                                · rw [Dr.gB_set (by rw [Hxl.out]; omega)]
                                                  rcases Nat.lt_or_ge u' u with h4 | h4
                                                  · rw [k3 v hv u' h4 hN hE', Bool.or_true]
                                                  · obtain rfl : u' = u := by omega
                                                    obtain ⟨rfl, _⟩ := (Ew.term hsn HuW.out).1 hE'
                                                    simp
                                          · have heb : (wu == -1 - s) = false := by simp [hwe]
                                            have Hwe := hid hwe
                                            clear hwe
                                            go_quiet (fail)
                                            go_wp2_with fail
                                            rw [← Hgw.out, ← Hgr.out]
                                            go_roundg (N - (u + 1))
                                            case measure => have hk := Hk7.out; omega
                                            case rel =>
                                              refine ⟨u + 1, nx, yes7, by go_num, rfl, by omega, Hbx6.out.drewN _, Hxl.out, Hxs.out, Hxy.out, fun h => ?_, rfl, below_drewN Hb66.out _⟩
                                              obtain ⟨k0, k1, k2, k3⟩ := Hxc.out h
                                              refine ⟨k0, k1, fun u' hu' hh => ?_, fun v hv u' hu' hN hE' => ?_⟩
                                              · rcases Nat.lt_or_ge u' u with h4 | h4
                                                · exact k2 u' h4 hh
                                                · obtain rfl : u' = u := by omega
                                                  obtain ⟨t', ht', _, h5⟩ := hh
                                                  rw [Hqs.out] at ht'
                                                  cases ht'
                                                  rcases h5 with h5 | ⟨h5, _⟩
                                                  · have := HuW.out
                                                    omega
                                                  · omega
                                              · rcases Nat.lt_or_ge u' u with h4 | h4
                                                · exact k3 v hv u' h4 hN hE'
                                                · obtain rfl : u' = u := by omega
                                                  obtain ⟨_, h5⟩ := (Ew.term hsn HuW.out).1 hE'
                                                  rw [Hwd.out] at h5
                                                  injection h5 with h5
                                                  exact absurd h5 Hwe.out
                                      · have hsnb : decide (s < 0) = false := by simp; omega
                                        obtain ⟨b, rfl⟩ := Int.eq_ofNat_of_zero_le (show 0 ≤ s by omega)
                                        have hbK : b < K := by omega
                                        have hbKi : (b : Int) < (K : Int) := by omega
                                        have hb00 : (0 : Int) ≤ (b : Int) := by omega
                                        obtain ⟨gzf, rowf, hgf, hff, cf1, cf2, ff2, hrf, hgfB⟩ := (Hdb4.out.below Hb46.out).at HT4.out.len hrlt4.out hbK hltu
                                        obtain ⟨yes8, hy8⟩ : ∃ yes8, yes8 = (yes7 || Dr.tb F4 b u) := ⟨_, rfl⟩
                                        have hyy8 : (yes8 = false → yes7 = false ∧ Dr.tb F4 b u = false) ∧ (yes8 = true → yes7 = true ∨ Dr.tb F4 b u = true) := by rw [hy8]; cases yes7 <;> simp
                                        have Hy8 := hid hyy8
                                        have Hy8e := hid hy8
                                        rw [Hgr.out]
                                        clear hgf hff ff2 hrf hgfB hyy8 hy8 huW
                                        go_upto_region 43 with fail
                                        rw [← Hgr.out]
                                        obtain ⟨w7, rfl⟩ : ∃ w7 : World, w7 = wr := ⟨_, rfl⟩
                                        go_cut [18] from 157 to 169 (fun v18 wx => wx = w7 ∧ v18 = .bool yes8)
                                        case first =>
                                          rw [Hgr.out]
                                          cases yes7 with
                                          | true =>
                                            have e8 : yes8 = true := by rw [Hy8e.out]; rfl
                                            go_upto_region 44 with fail
                                            rw [← Hgr.out]
                                            go_meet
                                            case rel => exact ⟨rfl, by rw [e8]⟩
                                          | false =>
                                            cases htf : Dr.tb F4 b u with
                                            | true =>
                                              rw [htf] at cf2
                                              have e8 : yes8 = true := by rw [Hy8e.out, htf]; rfl
                                              have E8 := hid e8
                                              clear e8 htf
                                              go_upto_region 44 with fail
                                              rw [← Hgr.out]
                                              go_meet
                                              case rel => exact ⟨rfl, by rw [E8.out]⟩
                                            | false =>
                                              rw [htf] at cf2
                                              have e8 : yes8 = false := by rw [Hy8e.out, htf]; rfl
                                              have E8 := hid e8
                                              clear e8 htf
                                              go_upto_region 44 with fail
                                              rw [← Hgr.out]
                                              go_meet
                                              case rel => exact ⟨rfl, by rw [E8.out]⟩
                                        case rest =>
                                          as_aux_lemma =>
                                            obtain ⟨hwc, rfl⟩ := hcut
                                            rw [hwc]
                                            clear hwc cnu hcs6 cf1 cf2
                                            go_wp2_with fail
                                            go_loopg [22] (N - u) (fun k v22 wr => BL8 w6 gx N G.prods word r i q (b : Int) u yes8 k v22 wr)
                                            case atStart =>
                                              refine ⟨u, nx, rfl, Nat.le_refl _, hu, Hbx6.out, Hxl.out, Hxs.out, fun h => ⟨?_, fun v hv hE => ?_⟩, rfl, Hb66.out⟩
                                              · exact (Hxc.out (Hy8.out.1 h).1).2.2.2
                                              · have := hE.1
                                                omega
                                            case round =>
                                              obtain ⟨y, ny, rfl, huy, hyn, hby, hyl, hys, hyc, hk, hb⟩ := hrel
                                              have Hk8 := hid hk
                                              have Hby := hid hby
                                              have Hyl := hid hyl
                                              have Hys8 := hid hys
                                              have Hyc8 := hid hyc
                                              have Hb88 := hid hb
                                              have hb48 : Below w4.heap.size w4 wr := (Hb5.out.trans (Hb6.out.mono (by exact Hb5.out.size))).trans (hb.mono h46)
                                              have hBr8 : Below B w2 wr := Hb4.out.trans (hb48.mono hBr)
                                              clear hk hby hyl hys hyc hb
                                              by_cases hlty : y < N
                                              · have hlty' : (y : Int) ≤ (n : Int) := by omega
                                                have hltyN : (y : Int) < (N : Int) := by omega
                                                have hy0 : (0 : Int) ≤ (y : Int) := by omega
                                                have hcs8 := (hBr8.cell (p := ⟨gs', _, none⟩) hgs').trans hcs
                                                have cyy : wr.cell? ⟨gx, y, none⟩ = some (.bool (Dr.gB ny y)) := by rw [Hby.out.cell, List.getElem?_map, Dr.gB_get (by rw [Hyl.out]; exact hlty)]; rfl
                                                have fyy := Hby.out.free y
                                                have hBr8' : Below w2.heap.size w2 wr := by rw [← HB.out]; exact hBr8
                                                have hz := Dr.idx_lt hltu hlty
                                                rw [← Ht.out] at hz
                                                obtain ⟨gz, rowz, hgz, hfz, c1, c2, f2, hrz, hgzB⟩ := (HD.out.1.below hBr8').at (show D.length = K by rw [HK.out]; exact HD.out.2.1) (fun l hl => by rw [Ht.out]; exact PtAll.rl HD.out.2 l hl) hbK hz
                                                obtain ⟨un, hun⟩ : ∃ un, un = u * N := ⟨_, rfl⟩
                                                have hunI : (u : Int) * (N : Int) = (un : Int) := by rw [hun]; exact (Int.natCast_mul u N).symm
                                                have hdt : Dr.tb D b (un + y) = true ↔ Dw G.prods [(b : Int)] (seg word u y) := by rw [hun]; exact HD.out.2.tb (by rw [← HK.out]; exact hbK) huy hlty
                                                rw [← hun] at hz c2
                                                have hzi : (un : Int) + (y : Int) < (t : Int) := by omega
                                                have hz0 : (0 : Int) ≤ (un : Int) + (y : Int) := by omega
                                                have hzn : ((un : Int) + (y : Int)).toNat = un + y := by omega
                                                have Hun := hid hun
                                                have Hdt := hid hdt
                                                have Huy := hid huy
                                                clear hun hgz hfz hrz f2 hdt hBr8' hBr8 hb48 huy
                                                cases hgy : Dr.gB ny y with
                                                | true =>
                                                  rw [hgy] at cyy
                                                  have hse : ny.set y true = ny := set_same (by rw [Dr.gB_get (by rw [Hyl.out]; exact hlty), hgy])
                                                  have Hse := hid hse
                                                  have Hgy := hid hgy
                                                  rw [Hgr.out]
                                                  clear hgy hse
                                                  go_wp2_with fail
                                                  rw [← Hgr.out]
                                                  go_roundg (N - (y + 1))
                                                  case measure => have hk := Hk8.out; omega
                                                  case rel =>
                                                    refine ⟨y + 1, ny, by go_num, by have := Huy.out; omega, by omega, ?_, Hyl.out, Hys8.out, fun h => ⟨(Hyc8.out h).1, fun v hv hE => ?_⟩, rfl, Hb88.out.setCell (p := ⟨gx, y, none⟩) (Nat.le_refl _) _⟩
                                                    · have h1 := Hby.out.set y (.bool true)
                                                      rw [← List.map_set, Hse.out] at h1
                                                      exact h1
                                                    · rcases Nat.lt_or_ge v y with h4 | h4
                                                      · exact (Hyc8.out h).2 v h4 hE
                                                      · obtain rfl : v = y := by omega
                                                        exact Hgy.out
                                                | false =>
                                                  rw [hgy] at cyy
                                                  cases htv8 : Dr.tb D b (un + y) with
                                                  | true =>
                                                    rw [htv8] at c2
                                                    have hE : Ew G.prods word (b : Int) u y := ⟨Huy.out, by have := Hn.out; omega, Hdt.out.1 htv8⟩
                                                    have HE := hid hE
                                                    rw [Hgr.out]
                                                    clear hgy htv8 hE
                                                    go_wp2_with fail
                                                    rw [← Hgr.out]
                                                    go_roundg (N - (y + 1))
                                                    case measure => have hk := Hk8.out; omega
                                                    case rel =>
                                                      refine ⟨y + 1, ny.set y true, by go_num, by have := Huy.out; omega, by omega, by rw [List.map_set]; exact Hby.out.set y _, by rw [List.length_set]; exact Hyl.out, fun v hv hg => ?_, fun h => ⟨fun v hv u' h1 h2 h3 => ?_, fun v hv hE => ?_⟩, rfl, Hb88.out.setCell (p := ⟨gx, y, none⟩) (Nat.le_refl _) _⟩
                                                      · rw [Dr.gB_set (by rw [Hyl.out]; exact hlty)] at hg
                                                        rcases Bool.or_eq_true_iff.1 hg with hg | hg
                                                        · obtain rfl : v = y := by simpa using hg
                                                          exact (Nw.step Hqs.out).2 ⟨u, HNu.out, HE.out⟩
                                                        · exact Hys8.out v hv hg
                                                      · rw [Dr.gB_set (by rw [Hyl.out]; exact hlty), (Hyc8.out h).1 v hv u' h1 h2 h3, Bool.or_true]
                                                      · rw [Dr.gB_set (by rw [Hyl.out]; exact hlty)]
                                                        rcases Nat.lt_or_ge v y with h4 | h4
                                                        · rw [(Hyc8.out h).2 v h4 hE, Bool.or_true]
                                                        · obtain rfl : v = y := by omega
                                                          simp
                                                  | false =>
                                                    rw [htv8] at c2
                                                    have hse : ny.set y false = ny := set_same (by rw [Dr.gB_get (by rw [Hyl.out]; exact hlty), hgy])
                                                    have Hse := hid hse
                                                    have hnE : ¬ Ew G.prods word (b : Int) u y := fun hE => by
                                                      rw [Hdt.out.2 hE.2.2] at htv8
                                                      cases htv8
                                                    have HnE := hid hnE
                                                    rw [Hgr.out]
                                                    clear hgy htv8 hse hnE
                                                    go_wp2_with fail
                                                    rw [← Hgr.out]
                                                    go_roundg (N - (y + 1))
                                                    case measure => have hk := Hk8.out; omega
                                                    case rel =>
                                                      refine ⟨y + 1, ny, by go_num, by have := Huy.out; omega, by omega, ?_, Hyl.out, Hys8.out, fun h => ⟨(Hyc8.out h).1, fun v hv hE => ?_⟩, rfl, Hb88.out.setCell (p := ⟨gx, y, none⟩) (Nat.le_refl _) _⟩
                                                      · have h1 := Hby.out.set y (.bool false)
                                                        rw [← List.map_set, Hse.out] at h1
                                                        exact h1
                                                      · rcases Nat.lt_or_ge v y with h4 | h4
                                                        · exact (Hyc8.out h).2 v h4 hE
                                                        · obtain rfl : v = y := by omega
                                                          exact absurd hE HnE.out
                                              · have hgey : ¬ (y : Int) ≤ (n : Int) := by omega
                                                have hyne : y = N := by omega
                                                have Hyn := hid hyne
                                                clear hyne
                                                go_wp2_with fail
                                                go_roundg (N - (u + 1))
                                                case measure => have hk := Hk7.out; omega
                                                case rel =>
                                                  refine ⟨u + 1, ny, yes8, by go_num, rfl, by omega, Hby.out, Hyl.out, Hys8.out, fun h => ?_, fun h => ?_, rfl, Hb88.out⟩
                                                  · rcases Hy8.out.2 h with h1 | h1
                                                    · exact Hxy.out h1
                                                    · exact ⟨q, u, (b : Int), Hqs.out, HNu.out, .inr ⟨by omega, by rw [Int.toNat_natCast]; exact h1⟩⟩
                                                  · obtain ⟨h1, h2⟩ := Hy8.out.1 h
                                                    obtain ⟨k0, k1, k2, k3⟩ := Hxc.out h1
                                                    refine ⟨k0, k1, fun u' hu' => ?_, fun v hv u' hu' hN hE => ?_⟩
                                                    · rcases Nat.lt_or_ge u' u with h4 | h4
                                                      · exact k2 u' h4
                                                      · obtain rfl : u' = u := by omega
                                                        rintro ⟨t', ht', _, h5⟩
                                                        rw [Hqs.out] at ht'
                                                        cases ht'
                                                        rcases h5 with h5 | ⟨_, h5⟩
                                                        · have := Hn.out
                                                          omega
                                                        · rw [Int.toNat_natCast, h2] at h5
                                                          cases h5
                                                    · rcases Nat.lt_or_ge u' u with h4 | h4
                                                      · exact (Hyc8.out h).1 v hv u' h4 hN hE
                                                      · obtain rfl : u' = u := by omega
                                                        exact (Hyc8.out h).2 v (by have := Hyn.out; omega) hE
                                · have hgeu : ¬ (u : Int) ≤ (n : Int) := by omega
                                  have hun : u = N := by omega
                                  have Hun := hid hun
                                  clear hun hbn6
                                  go_wp2_with fail
                                  go_roundg (r.length - (q + 1))
                                  case measure => have hk := Hk6.out; omega
                                  case rel =>
                                    refine ⟨q + 1, gx, nx, yes7, by go_num, rfl, rfl, by omega, Hbx6.out, h46, Hxl.out, Hxs.out, Hxy.out, fun h => ?_, rfl, Hb46.out⟩
                                    obtain ⟨k0, k1, k2, k3⟩ := Hxc.out h
                                    refine ⟨fun q' u' hq' hh => ?_, fun v hv hN => ?_⟩
                                    · rcases Nat.lt_or_ge q' q with h4 | h4
                                      · exact k1 q' u' h4 hh
                                      · obtain rfl : q' = q := by omega
                                        refine k2 u' ?_ hh
                                        obtain ⟨_, _, hN, _⟩ := hh
                                        have := hN.2.1
                                        have := Hn.out
                                        have := Hun.out
                                        omega
                                    · obtain ⟨u', h1, h2⟩ := (Nw.step Hqs.out).1 hN
                                      exact k3 v hv u' (by have := h2.1; have := Hun.out; omega) h1 h2
                            · as_aux_lemma =>
                                have hgeq : ¬ (q : Int) < (r.length : Int) := by omega
                                have hqr : q = r.length := by omega
                                have cnn : wr.cell? ⟨gw5, n, none⟩ = some (.bool (Dr.gB nw n)) := by rw [Hbn.out.cell, List.getElem?_map, Dr.gB_get (by rw [Hnl.out]; omega)]; rfl
                                have Hqr := hid hqr
                                have hnn : n < N := by omega
                                have hnNI : (n : Int) < (N : Int) := by omega
                                have hn0I : (0 : Int) ≤ (n : Int) := by omega
                                have Hb46e := hid Hb5.out
                                clear hqr
                                go_upto_region 49 with fail
                                cases yes with
                                | true =>
                                  have hpf : Pf G.prods word F4 r i := by
                                    obtain ⟨q', u, h⟩ := Hys.out rfl
                                    exact .inl ⟨q', u, h⟩
                                  have Hpf := hid hpf
                                  clear hpf cnn
                                  have hbr4 := Hb46e.out
                                  have hdbr := Hdb4.out.below hbr4
                                  obtain ⟨gy, rowy, hgy, hfy, d1, d2, e2, hry, hgyB⟩ := hdbr.at HT4.out.len hrlt4.out haK hiN
                                  have hbwe : Below B w2 wr := Hb4.out.trans (hbr4.mono hBr)
                                  have hc0 := (hbwe.cell (p := ⟨g, _, none⟩) Hd.out.1).trans Hd.out.2.1
                                  obtain ⟨q0, q2, q4⟩ := HC.out wr hbwe
                                  rw [Hgp.out] at q4
                                  have Hy := hid (And.intro hgy (And.intro hfy (And.intro hry (And.intro hgyB (And.intro hbwe hdbr)))))
                                  clear hgy hfy hry hgyB hbwe hdbr hbr4
                                  go_wp2_with fail
                                  go_roundg (n - (i + 1))
                                  case measure => have hk := Hk4.out; omega
                                  case rel =>
                                    have hiW : i ≤ word.length := by have := Hn.out; omega
                                    have hry' := Hy.out.2.2.1
                                    rw [Htv.out] at hry'
                                    have hcs := Dr.cntT_set Hy.out.2.1 hry'
                                    have hpre : Pre G.prods [(a : Int)] (word.drop i) := by
                                      obtain ⟨yy, hyy⟩ := Pf.sound HT4.out (Hfine.out.1 Hok.out.symm) Hpf.out
                                      exact ⟨yy, Dw.one (by omega) Hd.out.2.2 hyy⟩
                                    refine ⟨i + 1, _, true, by go_num, rfl, by omega, Hy.out.2.2.2.2.2.put (z := i) Hy.out.1 Hy.out.2.1, HT4.out.put Hy.out.2.1 hiW hpre, (fun h => by cases h), ?_, rfl, Hy.out.2.2.2.2.1.setCell (p := ⟨gy, i, none⟩) Hy.out.2.2.2.1 _⟩
                                    have hc := Hcnt4.out
                                    simp only [if_true]
                                    split at hc <;> omega
                                | false =>
                                  cases hgn : Dr.gB nw n with
                                  | true =>
                                    rw [hgn] at cnn
                                    have hpf : Pf G.prods word F4 r i := by
                                      have h := Hsn.out n hnn hgn
                                      rw [Hqr.out, Hn.out] at h
                                      exact .inr h
                                    have Hpf := hid hpf
                                    clear hpf hgn
                                    have hbr4 := Hb46e.out
                                    have hdbr := Hdb4.out.below hbr4
                                    obtain ⟨gy, rowy, hgy, hfy, d1, d2, e2, hry, hgyB⟩ := hdbr.at HT4.out.len hrlt4.out haK hiN
                                    have hbwe : Below B w2 wr := Hb4.out.trans (hbr4.mono hBr)
                                    have hc0 := (hbwe.cell (p := ⟨g, _, none⟩) Hd.out.1).trans Hd.out.2.1
                                    obtain ⟨q0, q2, q4⟩ := HC.out wr hbwe
                                    rw [Hgp.out] at q4
                                    have Hy := hid (And.intro hgy (And.intro hfy (And.intro hry (And.intro hgyB (And.intro hbwe hdbr)))))
                                    clear hgy hfy hry hgyB hbwe hdbr hbr4
                                    go_wp2_with fail
                                    go_roundg (n - (i + 1))
                                    case measure => have hk := Hk4.out; omega
                                    case rel =>
                                      have hiW : i ≤ word.length := by have := Hn.out; omega
                                      have hry' := Hy.out.2.2.1
                                      rw [Htv.out] at hry'
                                      have hcs := Dr.cntT_set Hy.out.2.1 hry'
                                      have hpre : Pre G.prods [(a : Int)] (word.drop i) := by
                                        obtain ⟨yy, hyy⟩ := Pf.sound HT4.out (Hfine.out.1 Hok.out.symm) Hpf.out
                                        exact ⟨yy, Dw.one (by omega) Hd.out.2.2 hyy⟩
                                      refine ⟨i + 1, _, true, by go_num, rfl, by omega, Hy.out.2.2.2.2.2.put (z := i) Hy.out.1 Hy.out.2.1, HT4.out.put Hy.out.2.1 hiW hpre, (fun h => by cases h), ?_, rfl, Hy.out.2.2.2.2.1.setCell (p := ⟨gy, i, none⟩) Hy.out.2.2.2.1 _⟩
                                      have hc := Hcnt4.out
                                      simp only [if_true]
                                      split at hc <;> omega
                                  | false =>
                                    rw [hgn] at cnn
                                    have hnpf : ¬ Pf G.prods word F4 r i := by
                                      obtain ⟨h1, h2⟩ := Hyc.out rfl
                                      rintro (⟨q', u, h⟩ | h)
                                      · have hq' : q' < q := by
                                          obtain ⟨t, ht, _⟩ := h
                                          have := (List.getElem?_eq_some_iff.1 ht).1
                                          have := Hqr.out
                                          omega
                                        exact h1 q' u hq' h
                                      · rw [← Hn.out, ← Hqr.out] at h
                                        rw [h2 n hnn h] at hgn
                                        cases hgn
                                    have Hnpf := hid hnpf
                                    clear hnpf hgn
                                    go_wp2_with fail
                                    go_roundg (n - (i + 1))
                                    case measure => have hk := Hk4.out; omega
                                    case rel =>
                                      refine ⟨i + 1, F4, more4, by go_num, rfl, by omega, Hdb4.out.below Hb46e.out, HT4.out, fun h => ⟨(Hfix4.out h).1, fun i' hi' => ?_⟩, Hcnt4.out, rfl, Hb4.out.trans (Hb46e.out.mono hBr)⟩
                                      rcases Nat.lt_or_ge i' i with h5 | h5
                                      · exact (Hfix4.out h).2 i' h5
                                      · obtain rfl : i' = i := by omega
                                        exact .inr Hnpf.out
                      · have hgei : ¬ (i : Int) < (n : Int) := by omega
                        have hin : i = n := by omega
                        have Hin := hid hin
                        clear hin
                        go_wp2_with fail
                        go_roundg (G.prods.length - (x + 1))
                        case measure => have hk := Hk3.out; omega
                        case rel => exact ⟨x + 1, F4, more4, by go_num, rfl, by omega, Hdb4.out, HT4.out, fun h => (Hfix4.out h).1.next Hxi.out (fun _ i' hi' => (Hfix4.out h).2 i' (by have := Hin.out; have := Hn.out; omega)), Hcnt4.out, rfl, Hb4.out⟩
            · have hge : ¬ (x : Int) < (G.prods.length : Int) := by omega
              have hxe : x = G.prods.length := by omega
              have Hxe := hid hxe
              clear hxe
              go_wp2_with fail
              go_roundg (2 * Dr.cntT F3 + (if more3 then 1 else 0))
              case measure =>
                have hk := Hk.out
                have hc := Hcnt3.out
                have hp := HP.out
                simp only [if_true] at hk
                split at hc <;> rename_i hm <;> simp [hm] <;> omega
              case rel => exact ⟨F3, more3, rfl, Hdb3.out, HT3.out, fun h => by have := Hfix3.out h; rw [Hxe.out] at this; exact this, rfl, Hb3.out⟩
end Ed
end Go.Proofs.Ytaehooafdbaomaa
