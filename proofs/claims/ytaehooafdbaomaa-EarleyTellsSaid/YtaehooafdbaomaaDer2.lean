/- The document's answer: Derives: walk. -/
import Derived.Test.YtaehooafdbaomaaDer1
namespace Go.Proofs.Ytaehooafdbaomaa
open Go.RowKit
attribute [local go_sem ↓] Go.wp_at_zero Go.wp_at_succ
attribute [local go_sem] frozen_alloc_lt

def DL1 (B : Nat) (wd : World) (n t k : Nat) (v6 v7 : Value) (w : World) : Prop :=
  ∃ (i : Nat) (gs : List Nat) (vr : Value), vr = v6 ∧ v7 = .int .i64 i ∧ i ≤ n ∧ w.ownsRow B 133 1 vr i (gs.map (drV t)) ∧ gs.length = i ∧ (∀ g ∈ gs, B ≤ g ∧ Bk w g 4 ((List.replicate t false).map Value.bool) ∧ vr.ownBlock ≠ some g) ∧ gs.Nodup ∧ k = n - i ∧ Below B wd w
def DL2 (B : Nat) (wd : World) (bo t K : Nat) (gs : List Nat) (ps : List (Int × List Int)) (word : List Int) (k : Nat) (v8 : Value) (w : World) : Prop :=
  ∃ (F : List (List Bool)) (more : Bool), v8 = .bool more ∧ DB w B bo t gs F ∧ Dr.TabD ps word K F ∧ (more = false → Dr.FixD ps word F ps.length) ∧ k = 2 * Dr.cntT F + (if more then 1 else 0) ∧ Below B wd w
def DL3 (B : Nat) (wd : World) (bo t K : Nat) (gs : List Nat) (ps : List (Int × List Int)) (word : List Int) (P k : Nat) (v8 v9 : Value) (w : World) : Prop :=
  ∃ (x : Nat) (F : List (List Bool)) (more : Bool), v9 = .int .i64 x ∧ v8 = .bool more ∧ x ≤ ps.length ∧ DB w B bo t gs F ∧ Dr.TabD ps word K F ∧ (more = false → Dr.FixD ps word F x) ∧ (if more then Dr.cntT F < P else Dr.cntT F ≤ P) ∧ k = ps.length - x ∧ Below B wd w
def DL4 (B : Nat) (wd : World) (bo t K n : Nat) (gs : List Nat) (ps : List (Int × List Int)) (word : List Int) (P x l : Nat) (r : List Int) (k : Nat) (v8 v12 : Value) (w : World) : Prop :=
  ∃ (i : Nat) (F : List (List Bool)) (more : Bool), v12 = .int .i64 i ∧ v8 = .bool more ∧ i ≤ n ∧ DB w B bo t gs F ∧ Dr.TabD ps word K F ∧ (more = false → Dr.FixD ps word F x ∧ ∀ i', i' < i → Dr.Cl F word l r i') ∧ (if more then Dr.cntT F < P else Dr.cntT F ≤ P) ∧ k = n - i ∧ Below B wd w
/-- The places come to so far. -/
def DL5 (w4 : World) (n : Nat) (F : List (List Bool)) (word r : List Int) (i : Nat) (k : Nat) (v13 v14 : Value) (w : World) : Prop :=
  ∃ (q gn : Nat) (nw : List Bool), v14 = .int .i64 q ∧ v13 = .slice (some ⟨gn, 0, none⟩) n n ∧ q ≤ r.length ∧ Bk w gn 4 (nw.map Value.bool) ∧ w4.heap.size ≤ gn ∧ nw.length = n ∧ (∀ v, v < n → (Dr.gB nw v = true ↔ Dr.PS F word r i q v)) ∧ k = r.length - q ∧ Below w4.heap.size w4 w
def DL6 (w5 : World) (gx n : Nat) (F : List (List Bool)) (word : List Int) (s : Int) (A : Nat → Prop) (k : Nat) (v16 : Value) (w : World) : Prop :=
  ∃ (u : Nat) (nx : List Bool), v16 = .int .i64 u ∧ u ≤ n ∧ Bk w gx 4 (nx.map Value.bool) ∧ nx.length = n ∧ (∀ v, v < n → (Dr.gB nx v = true ↔ ∃ u', u' < u ∧ A u' ∧ Dr.Ed F word s u' v)) ∧ k = n - u ∧ Below gx w5 w
def DL7 (w5 : World) (gx n : Nat) (F : List (List Bool)) (word : List Int) (s : Int) (A : Nat → Prop) (u : Nat) (k : Nat) (v17 : Value) (w : World) : Prop :=
  ∃ (y : Nat) (nx : List Bool), v17 = .int .i64 y ∧ u ≤ y ∧ y ≤ n ∧ Bk w gx 4 (nx.map Value.bool) ∧ nx.length = n ∧ (∀ v, v < n → (Dr.gB nx v = true ↔ ((∃ u', u' < u ∧ A u' ∧ Dr.Ed F word s u' v) ∨ (v < y ∧ Dr.Ed F word s u v)))) ∧ k = n - y ∧ Below gx w5 w
def DL8 (B : Nat) (wd : World) (bo t K n : Nat) (gs : List Nat) (ps : List (Int × List Int)) (word : List Int) (P x l : Nat) (r : List Int) (i : Nat) (nw : List Bool) (gn : Nat) (k : Nat) (v8 v18 : Value) (w : World) : Prop :=
  ∃ (y : Nat) (F : List (List Bool)) (more : Bool), v18 = .int .i64 y ∧ v8 = .bool more ∧ y ≤ n ∧ DB w B bo t gs F ∧ Dr.TabD ps word K F ∧
    (more = false → Dr.FixD ps word F x ∧ (∀ i', i' < i → Dr.Cl F word l r i') ∧ (∀ v, v < n → (Dr.gB nw v = true ↔ Dr.PS F word r i r.length v)) ∧ ∀ v, v < y → Dr.gB nw v = true → Dr.tb F l (i * n + v) = true) ∧
    Bk w gn 4 (nw.map Value.bool) ∧ (if more then Dr.cntT F < P else Dr.cntT F ≤ P) ∧ k = n - y ∧ Below B wd w
def DerSaid (w : World) (ps : List (Int × List Int)) (st : Int) (word : List Int) (e : Ending) (w' : World) : Prop := ∃ b : Bool, e = .returned (.bool b) ∧ (b = true ↔ ∃ f, Fo.Of ps word f [st] 0 word.length) ∧ Below w.heap.size w w'

set_option maxHeartbeats 16000000 in
set_option maxRecDepth 100000 in
theorem derives_calls (w : World) (G : Gr) (gn gt gp : Option Addr) (cn ct cp : Nat) (h : GIn w G gn gt gp) (hs : Pl.soundB G = true) (gw : Option Addr) (cw : Nat) (word : List Int) (hw : RowI w w.heap.size gw word) (hwl : word.length ≤ 64) :
    Calls Try.prog 46 #[.agg #[.int .i64 G.start, .int .i64 G.rules, .slice gn G.names.length cn, .slice gt G.terms.length ct, .slice gp G.prods.length cp], .slice gw word.length cw] w (DerSaid w G.prods G.start word) := by
  obtain ⟨i4, hi4, z0, z1, z2⟩ := info_parts boolInfoD
  obtain ⟨i5, hi5, y0, y1, y2⟩ := info_parts boolsInfoD
  have Hsg := hid (sndG hs)
  have hn0 := Hsg.out.n0
  have hn1 := Hsg.out.n1
  have ht1 := Hsg.out.t1
  have hp1 := Hsg.out.p1
  have hb0 : Below w.heap.size w (w.alloc (.cells #[.int .i64 G.start, .int .i64 G.rules, .slice gn G.names.length cn, .slice gt G.terms.length ct, .slice gp G.prods.length cp] 33)) := (Below.refl _ _).alloc (Nat.le_refl _) _
  have hbk : Bk (w.alloc (.cells #[.int .i64 G.start, .int .i64 G.rules, .slice gn G.names.length cn, .slice gt G.terms.length ct, .slice gp G.prods.length cp] 33)) w.heap.size 33 [.int .i64 G.start, .int .i64 G.rules, .slice gn G.names.length cn, .slice gt G.terms.length ct, .slice gp G.prods.length cp] := Bk.new w _ _
  have hw0 := (hw.below hb0).mono hb0.size
  have hp0 := (h.p.below hb0).mono hb0.size
  go_enter Try.func46, Try.ntmps46
  go_upto_region 1 with (fail)
  obtain ⟨wd, hwd⟩ : ∃ wd, wd = (w.alloc (.cells #[.int .i64 G.start, .int .i64 G.rules, .slice gn G.names.length cn, .slice gt G.terms.length ct, .slice gp G.prods.length cp] 33)) := ⟨_, rfl⟩
  obtain ⟨bb, hbb⟩ : ∃ bb, bb = w.heap.size := ⟨_, rfl⟩
  obtain ⟨B, hB⟩ : ∃ B, B = wd.heap.size := ⟨_, rfl⟩
  have hzd : wd.heap.size = bb + 1 := by rw [hwd, hbb]; simp
  rw [← hwd] at hb0 hbk hw0 hp0 ⊢
  rw [← hbb] at hbk ⊢
  rw [← hB] at hw0 hp0
  have hcd : ∀ W, Below B wd W → W.cell? ⟨bb, 0, none⟩ = some (.int .i64 G.start) ∧ W.cell? ⟨bb, 2, none⟩ = some (.slice gn G.names.length cn) ∧ W.cell? ⟨bb, 4, none⟩ = some (.slice gp G.prods.length cp) := fun W hW => by
    have k := hbk.below hW (by omega)
    exact ⟨k.cell 0, k.cell 2, k.cell 4⟩
  obtain ⟨n, hn⟩ : ∃ n, n = word.length + 1 := ⟨_, rfl⟩
  obtain ⟨t, ht⟩ : ∃ t, t = n * n := ⟨_, rfl⟩
  have hn65 : n ≤ 65 := by omega
  have hn1' : 1 ≤ n := by omega
  have htm : t ≤ 4225 := by rw [ht]; exact Nat.mul_le_mul hn65 hn65
  have hnn : (n : Int) * (n : Int) = (t : Int) := by rw [ht]; exact (Int.natCast_mul n n).symm
  obtain ⟨K, hK⟩ : ∃ K, K = G.names.length := ⟨_, rfl⟩
  rw [← hK] at hcd
  have HC := hid hcd
  have Hb0 := hid hb0
  have Hbb := hid hbb
  have HBe := hid hB
  have Hn := hid hn
  have Ht := hid ht
  have HK := hid hK
  have Hw0 := hid hw0
  have Hp0 := hid hp0
  have hnc : (word.length : Int) + 1 = (n : Int) := by omega
  have hbr0 : Below B wd wd := Below.refl _ _
  have hown0 : wd.ownsRow B 133 1 (.slice none 0 0) 0 ([] : List Value) := ⟨rfl, .inl ⟨rfl, rfl⟩⟩
  rw [← hK] at hn0 hn1
  clear hwd hbb hzd hcd hbk hb0 h hw hB hn ht hw0 hp0 hs
  go_upto_region 2 with fail
  rw [← hK]
  clear hnc hK
  go_wp2_with fail
  go_loopg [6, 7] K (fun k v6 v7 wr => DL1 B wd K t k v6 v7 wr)
  case atStart => exact ⟨0, [], _, rfl, rfl, by omega, hown0, rfl, (fun g hg => by simp at hg), List.nodup_nil, rfl, hbr0⟩
  case round =>
    clear hown0 hbr0
    obtain ⟨i, gs, v5, rfl, rfl, hi, hown, hgl, hgs, hnd, hk, hb⟩ := hrel
    have Hk := hid hk
    have Hgl := hid hgl
    have Hgs := hid hgs
    have Hnd := hid hnd
    clear hk hgl hgs hnd
    obtain ⟨q0, q2, q4⟩ := HC.out wr hb
    have hzr := hb.size
    by_cases hlt : i < K
    · have hlt' : (i : Int) < (K : Int) := by omega
      have hBr : B ≤ wr.heap.size := by have := HBe.out; omega
      go_wp2_with (first
        | (at_make; refine wpList_make_bk _ rfl _ _ _ rfl 4 i4 _ Try.underlying133 hi4 z0 z1 rfl _ _ t rfl rfl rfl rfl (by rw [z2]; omega) (by omega) ?_; intro w3 hbc hk3; obtain ⟨g2, cap2, w4, hrun, hon2, hk4, hg2, hl2⟩ := row_app (P := Try.prog) (own_kp hown hk3 (fun _ _ h => h)) 150 150 i5 (.slice none 0 0) 24 Try.underlying150 hi5 y0 y1 y2 rfl (by omega) (Nat.le_trans hBr hk3.size) (by omega) (.slice (some ⟨wr.heap.size, 0, none⟩) t t) rfl 0)
        | (at_builtin; refine wpList_append_run rfl _ _ _ rfl _ (.slice (some ⟨w3.heap.size, 0, none⟩) 1 1) (.slice (some ⟨g2, 0, none⟩) (i + 1) cap2) w4 (by rfl) (by rfl) (by exact hrun) ?_))
      go_roundg (K - (i + 1))
      case measure => have hk := Hk.out; omega
      case rel =>
        have hbc2 : Bk w3 wr.heap.size 4 ((List.replicate t false).map Value.bool) := hbc.of (by simp)
        have hw3 := hbc2.lt
        refine ⟨i + 1, gs ++ [wr.heap.size], _, rfl, by go_num, by omega, by rw [List.map_append]; exact hon2, by simp [Hgl.out], ?_, ?_, rfl, ?_⟩
        · intro g hg
          rcases List.mem_append.1 hg with hg | hg
          · obtain ⟨h1, h2, h3⟩ := Hgs.out g hg
            refine ⟨h1, (h2.kp hk3 (fun e => e)).kp hk4 h3, fun e => ?_⟩
            have e : g2 = g := by simpa [Value.ownBlock] using e
            subst e
            rcases hg2 with hg2 | hg2
            · exact h3 hg2
            · have := h2.lt
              omega
          · have hg : g = wr.heap.size := by simpa using hg
            subst hg
            have hnb : v5.ownBlock ≠ some wr.heap.size := fun e => by
              have := (World.ownsRow.lt hown _ e).2
              omega
            refine ⟨hBr, hbc2.kp hk4 hnb, fun e => ?_⟩
            have e : g2 = wr.heap.size := by simpa [Value.ownBlock] using e
            rcases hg2 with hg2 | hg2
            · rw [e] at hg2; exact hnb hg2
            · omega
        · rw [List.nodup_append]
          refine ⟨Hnd.out, by simp, fun a ha b hb' e => ?_⟩
          have hb' : b = wr.heap.size := by simpa using hb'
          have := (Hgs.out a ha).2.1.lt
          omega
        · exact hb.trans ((hk3.to_below (Nat.le_refl _) (fun k hk => hk.elim)).mono hBr) |>.trans (hk4.to_below (B := B) (Nat.le_trans hBr hk3.size) (fun k e => (World.ownsRow.lt hown k e).1))
    · have hge : ¬ (i : Int) < (K : Int) := by omega
      have hin : K = i := by omega
      subst hin
      rcases hown.2 with ⟨-, h0⟩ | ⟨bo, cap, cur, rfl, hbo, hh, hr⟩
      · omega
      have hBB : DB wr B bo t gs (List.replicate K (List.replicate t false)) := by
        refine ⟨by rw [Hgl.out]; simp, fun a g hg => ?_, fun a g l hg hl => ?_, Hnd.out, fun g hg => ⟨(Hgs.out g hg).1, fun e => (Hgs.out g hg).2.2 (by rw [e]; rfl)⟩, (Array.getElem?_eq_some_iff.1 hh).1⟩
        · have h1 := hown.cells (g := bo) rfl a (drV t g) (by rw [List.getElem?_map, hg]; rfl)
          rwa [show ((⟨bo, 0, none⟩ : Addr).add a) = ⟨bo, a, none⟩ by unfold Addr.add; split <;> simp_all] at h1
        · have h1 : l = List.replicate t false := by
            have := List.mem_of_getElem? hl
            exact (List.mem_replicate.1 this).2
          rw [h1]
          exact (Hgs.out g (List.mem_of_getElem? hg)).2.1
      have Hdb := hid hBB
      obtain ⟨wo, rfl⟩ : ∃ wo : World, wo = wr := ⟨_, rfl⟩
      obtain ⟨cd, rfl⟩ : ∃ cd : Nat, cd = cap := ⟨_, rfl⟩
      have Hbo := hid hb
      clear hown hh hr hBB hb hzr q0 q4
      go_wp2_with fail
      clear q2
      have hT0 := Dr.TabD.start G.prods word K
      rw [← Hn.out, ← Ht.out] at hT0
      go_loopg [8] (2 * Dr.cntT (List.replicate K (List.replicate t false)) + 1) (fun k v8 wr => DL2 B wd bo t K gs G.prods word k v8 wr)
      case atStart => exact ⟨_, true, rfl, Hdb.out, hT0, (fun h => by cases h), by simp, Hbo.out⟩
      case round =>
        clear hT0
        obtain ⟨F, more, rfl, hdb, hT, hfix, hk, hb⟩ := hrel
        have Hk := hid hk
        have Hfix := hid hfix
        have HT := hid hT
        have Hdb1 := hid hdb
        have Hb1 := hid hb
        obtain ⟨q0, q2, q4⟩ := HC.out wr hb
        have hBr : B ≤ wr.heap.size := by have := HBe.out; have := hb.size; omega
        clear hk hfix hT hdb hb
        cases more with
        | false =>
          have hs0 := Hsg.out.s0
          have hs1 := Hsg.out.s1
          rw [← HK.out] at hs1
          have hrlt : ∀ l ∈ F, l.length = t := fun l hl => by rw [HT.out.rl l hl, ← Hn.out, ← Ht.out]
          have hz : word.length < t := by
            have h1 := Dr.idx_lt (n := n) (i := 0) (j := word.length) (by omega) (by have := Hn.out; omega)
            rw [Nat.zero_mul, Nat.zero_add, ← Ht.out] at h1
            exact h1
          obtain ⟨sn, hsn⟩ : ∃ sn : Nat, G.start = (sn : Int) := Int.eq_ofNat_of_zero_le hs0
          obtain ⟨gz, rowz, hgz, hfz, c1, c2, f2, hrz, hgzB⟩ := Hdb1.out.at HT.out.len hrlt (show sn < K by omega) hz
          have htold := Dr.told HT.out (Hfix.out rfl) sn
          obtain ⟨res, hres⟩ : ∃ res, res = Dr.tb F sn word.length := ⟨_, rfl⟩
          rw [← hres] at c2 htold
          have Htold := hid htold
          have Hsn := hid hsn
          have hw1 : (n : Int) - 1 = (word.length : Int) := by have := Hn.out; omega
          have hzi : (word.length : Int) < (t : Int) := by omega
          have hw0 : (0 : Int) ≤ (word.length : Int) := by omega
          have hsK : (sn : Int) < (K : Int) := by omega
          have hs00 : (0 : Int) ≤ (sn : Int) := by omega
          rw [hsn] at q0
          clear hrlt hgz hfz hrz hres htold hsn hs0 hs1
          go_wp2_with fail
          go_ret
          exact ⟨res, rfl, by rw [Hsn.out]; exact Htold.out, Hb0.out.trans (Hb1.out.mono (by have h1 := HBe.out; have h2 := Hb0.out.size; omega))⟩
        | true =>
          obtain ⟨P, hP⟩ : ∃ P, P = Dr.cntT F := ⟨_, rfl⟩
          have HP := hid hP
          clear hP
          obtain ⟨w2, rfl⟩ : ∃ w2 : World, w2 = wr := ⟨_, rfl⟩
          go_wp2_with fail
          go_loopg [8, 9] G.prods.length (fun k v8 v9 wr => DL3 B wd bo t K gs G.prods word P k v8 v9 wr)
          case atStart => exact ⟨0, F, false, rfl, rfl, by omega, Hdb1.out, HT.out, (fun _ q y hq => by omega), by rw [HP.out]; simp, rfl, Hb1.out⟩
          case round =>
            clear q0 q2 q4 hBr
            obtain ⟨x, F3, more3, rfl, rfl, hx, hdb, hT, hfix, hcnt, hk, hb⟩ := hrel
            have Hk3 := hid hk
            have Hfix3 := hid hfix
            have HT3 := hid hT
            have Hdb3 := hid hdb
            have Hb3 := hid hb
            have Hcnt3 := hid hcnt
            obtain ⟨q0, q2, q4⟩ := HC.out wr hb
            have hBr : B ≤ wr.heap.size := by have := HBe.out; have := hb.size; omega
            clear hk hfix hT hdb hcnt
            by_cases hlt : x < G.prods.length
            · have hlt' : (x : Int) < (G.prods.length : Int) := by omega
              have hx0 : (0 : Int) ≤ (x : Int) := by omega
              obtain ⟨y, hy⟩ : ∃ y, y = G.prods[x] := ⟨_, rfl⟩
              have hxi : G.prods[x]? = some y := by rw [hy]; exact List.getElem?_eq_getElem hlt
              have hym : y ∈ G.prods := by rw [hy]; exact List.getElem_mem hlt
              have hl0 := Hsg.out.l0 y hym
              have hl1 := Hsg.out.l1 y hym
              have hr16 := Hsg.out.r16 y hym
              have hr0 := Hsg.out.r0 y hym
              have hr1 := Hsg.out.r1 y hym
              rw [← HK.out] at hl1 hr1
              obtain ⟨l, r⟩ := y
              simp only at hl0 hl1 hr16 hr0 hr1
              obtain ⟨a, rfl⟩ := Int.eq_ofNat_of_zero_le hl0
              obtain ⟨g, off, gr, cr, hgp, hg, hd0, hd1, hri⟩ := Hp0.out x _ hxi
              simp only at hd0 hd1 hri
              have hc0 := (hb.cell (p := ⟨g, _, none⟩) hg).trans hd0
              have hc1 := (hb.cell (p := ⟨g, _, none⟩) hg).trans hd1
              have Hxi := hid hxi
              have Hgp := hid hgp
              have Hri := hid hri
              have haK : a < K := by omega
              clear hy hxi hri hl0 hb hd0 hd1
              go_wp2_with (rw [hgp])
              rw [← Hgp.out]
              clear hgp hc0 hc1 hg q0 q2 q4
              obtain ⟨w3, rfl⟩ : ∃ w3 : World, w3 = wr := ⟨_, rfl⟩
              go_loopg [8, 12] n (fun k v8 v12 wr => DL4 B wd bo t K n gs G.prods word P x a r k v8 v12 wr)
              case atStart => exact ⟨0, F3, more3, rfl, rfl, by omega, Hdb3.out, HT3.out, (fun h => ⟨Hfix3.out h, fun i' hi' => by omega⟩), Hcnt3.out, rfl, Hb3.out⟩
              case round =>
                clear hBr
                obtain ⟨i, F4, more4, rfl, rfl, hi, hdb, hT, hfix, hcnt, hk, hb⟩ := hrel
                have Hk4 := hid hk
                have Hfix4 := hid hfix
                have HT4 := hid hT
                have Hdb4 := hid hdb
                have Hb4 := hid hb
                have Hcnt4 := hid hcnt
                obtain ⟨q0, q2, q4⟩ := HC.out wr hb
                have hBr : B ≤ wr.heap.size := by have := HBe.out; have := hb.size; omega
                clear hk hfix hT hdb hcnt hb
                by_cases hlti : i < n
                · have hlti' : (i : Int) < (n : Int) := by omega
                  have hi0 : (0 : Int) ≤ (i : Int) := by omega
                  obtain ⟨w4, rfl⟩ : ∃ w4 : World, w4 = wr := ⟨_, rfl⟩
                  go_upto_region 19 with (at_make; refine wpList_make_bk _ rfl _ _ _ rfl 4 i4 _ Try.underlying133 hi4 z0 z1 rfl _ _ n rfl rfl rfl rfl (by rw [z2]; omega) (by omega) ?_; intro w5 hbc hk5)
                  obtain ⟨g4, hg4⟩ : ∃ g4, g4 = w4.heap.size := ⟨_, rfl⟩
                  rw [← hg4] at hbc ⊢
                  have hbc1 : Bk w5 g4 4 ((List.replicate n false).map Value.bool) := hbc.of (by simp)
                  have cn0 : w5.cell? ⟨g4, i, none⟩ = some (.bool false) := by rw [hbc1.cell]; simp [hlti]
                  have fn0 := hbc1.free i
                  have hst := hbc1.set i (.bool true)
                  rw [← List.map_set] at hst
                  have hks : Kp (fun k => k = g4) w5 (w5.setCell ⟨g4, i, none⟩ (.bool true)) := Kp.set (S := fun k => k = g4) (p := ⟨g4, i, none⟩) (Kp.refl _ _) (.inl rfl) _
                  have hb45 : Below g4 w4 (w5.setCell ⟨g4, i, none⟩ (.bool true)) := (hk5.to_below (by omega) (fun k e => e.elim)).trans (hks.to_below (by rw [hg4]; exact hk5.size) (fun k e => by omega))
                  have Hst := hid hst
                  have Hb45 := hid hb45
                  have Hg4 := hid hg4
                  clear hbc hbc1 hst hks hb45 hk5 hg4
                  go_wp2_with fail
                  clear cn0 fn0
                  obtain ⟨wz, hwz⟩ : ∃ wz, wz = w5.setCell ⟨g4, i, none⟩ (.bool true) := ⟨_, rfl⟩
                  rw [← hwz] at Hst Hb45 ⊢
                  clear hwz
                  go_loopg [13, 14] r.length (fun k v13 v14 wr => DL5 w4 n F4 word r i k v13 v14 wr)
                  case atStart =>
                    refine ⟨0, g4, _, rfl, rfl, by omega, Hst.out, by have := Hg4.out; omega, by simp, fun v hv => ?_, rfl, by rw [← Hg4.out]; exact Hb45.out⟩
                    rw [Dr.gB_set (by simpa using hlti), Dr.gB_rep]
                    unfold Dr.PS
                    simp
                  case round =>
                    obtain ⟨q, gw5, nw, rfl, rfl, hq, hbn, hg5, hnl, hnw, hk, hb⟩ := hrel
                    have Hk5 := hid hk
                    have Hbn := hid hbn
                    have Hnl := hid hnl
                    have Hnw := hid hnw
                    have Hb5 := hid hb
                    clear hk hbn hnl hnw hb
                    by_cases hltq : q < r.length
                    · have hltq' : (q : Int) < (r.length : Int) := by omega
                      have hq0 : (0 : Int) ≤ (q : Int) := by omega
                      obtain ⟨s, hse⟩ : ∃ s, s = r[q] := ⟨_, rfl⟩
                      have hsm : s ∈ r := by rw [hse]; exact List.getElem_mem hltq
                      have hs0 := hr0 s hsm
                      have hs1 := hr1 s hsm
                      have hgd : r.getD q 0 = s := by rw [List.getD, List.getElem?_eq_getElem hltq, hse]; rfl
                      have hBw : Below B wd wr := Hb4.out.trans (Hb5.out.mono hBr)
                      obtain ⟨gs', os, hgr, hgs', hcs⟩ := Hri.out.at hltq
                      rw [← hse] at hcs
                      have Hgd := hid hgd
                      have Hgr := hid hgr
                      have Hbw := hid hBw
                      clear hse hgd hgr hBw
                      obtain ⟨wq, rfl⟩ : ∃ wq : World, wq = wr := ⟨_, rfl⟩
                      go_upto_region 24 with (at_make; refine wpList_make_bk _ rfl _ _ _ rfl 4 i4 _ Try.underlying133 hi4 z0 z1 rfl _ _ n rfl rfl rfl rfl (by rw [z2]; omega) (by omega) ?_; intro w6 hbc hk6)
                      obtain ⟨gx, hgx⟩ : ∃ gx, gx = wq.heap.size := ⟨_, rfl⟩
                      rw [← hgx] at hbc ⊢
                      have hbx : Bk w6 gx 4 ((List.replicate n false).map Value.bool) := hbc.of (by simp)
                      have hb6 : Below wq.heap.size wq w6 := hk6.to_below (Nat.le_refl _) (fun k e => e.elim)
                      have Hbx := hid hbx
                      have Hb6 := hid hb6
                      have Hgx := hid hgx
                      have hgn5 : gw5 < gx := by rw [hgx]; exact Hbn.out.lt
                      have h46 : w4.heap.size ≤ gx := by rw [hgx]; exact Hb5.out.size
                      clear hbc hbx hb6 hk6 hgx
                      go_wp2_with fail
                      go_loopg [16] n (fun k v16 wr => DL6 w6 gx n F4 word s (Dr.PS F4 word r i q) k v16 wr)
                      case atStart => exact ⟨0, _, rfl, by omega, Hbx.out, by simp, (fun v hv => by rw [Dr.gB_rep]; simp), rfl, Below.refl _ _⟩
                      case round =>
                        obtain ⟨u, nx, rfl, hu, hbx, hxl, hnx, hk, hb⟩ := hrel
                        have Hk6 := hid hk
                        have Hbx6 := hid hbx
                        have Hxl := hid hxl
                        have Hnx := hid hnx
                        have hb46 : Below w4.heap.size w4 wr := (Hb5.out.trans (Hb6.out.mono (by exact Hb5.out.size))).trans (hb.mono h46)
                        have hBr6 : Below B wd wr := Hb4.out.trans (hb46.mono hBr)
                        have Hb66 := hid hb
                        have Hb46 := hid hb46
                        have hbn6 := (Hbn.out.below Hb6.out Hbn.out.lt).below hb hgn5
                        clear hk hbx hxl hnx hb hb46
                        by_cases hltu : u < n
                        · have hltu' : (u : Int) < (n : Int) := by omega
                          have hu0 : (0 : Int) ≤ (u : Int) := by omega
                          have cnu : wr.cell? ⟨gw5, u, none⟩ = some (.bool (Dr.gB nw u)) := by rw [hbn6.cell, List.getElem?_map, Dr.gB_get (by rw [Hnl.out]; exact hltu)]; rfl
                          have Hbn6 := hid hbn6
                          clear hbn6
                          cases hgu : Dr.gB nw u with
                          | false =>
                            have hAu : ¬ Dr.PS F4 word r i q u := fun e => by rw [(Hnw.out u hltu).2 e] at hgu; cases hgu
                            have HAu := hid hAu
                            rw [hgu] at cnu
                            clear hgu hAu
                            go_wp2_with fail
                            go_roundg (n - (u + 1))
                            case measure => have hk := Hk6.out; omega
                            case rel =>
                              refine ⟨u + 1, nx, by go_num, by omega, Hbx6.out, Hxl.out, fun v hv => (Hnx.out v hv).trans ⟨fun ⟨u', h1, h2, h3⟩ => ⟨u', by omega, h2, h3⟩, fun ⟨u', h1, h2, h3⟩ => ⟨u', ?_, h2, h3⟩⟩, rfl, Hb66.out⟩
                              rcases Nat.lt_or_ge u' u with h4 | h4
                              · exact h4
                              · exact absurd (show Dr.PS F4 word r i q u by rwa [show u = u' by omega]) HAu.out
                          | true =>
                            have hAu : Dr.PS F4 word r i q u := (Hnw.out u hltu).1 hgu
                            have HAu := hid hAu
                            rw [hgu] at cnu
                            have hcs6 := (hBr6.cell (p := ⟨gs', _, none⟩) hgs').trans hcs
                            have HBr6 := hid hBr6
                            clear hgu hAu hBr6
                            by_cases hsn : s < 0
                            · have hsnb : decide (s < 0) = true := by simp [hsn]
                              rw [Hgr.out]
                              go_upto_region 29 with fail
                              by_cases huW : u < word.length
                              · obtain ⟨gww, oww, hgw, hgwB, hcw⟩ := Hw0.out.at huW
                                obtain ⟨wu, hwu⟩ : ∃ wu, wu = word[u] := ⟨_, rfl⟩
                                have hwd : word.getD u 0 = wu := by rw [List.getD, List.getElem?_eq_getElem huW, hwu]; rfl
                                rw [← hwu] at hcw
                                have hcw6 := (HBr6.out.cell (p := ⟨gww, _, none⟩) hgwB).trans hcw
                                have Hwd := hid hwd
                                have Hgw := hid hgw
                                have huW' : (u : Int) < (n : Int) - 1 := by have := Hn.out; omega
                                have huW2 : (u : Int) < (word.length : Int) := by omega
                                clear hwu hwd hcw hgw
                                rw [Hgw.out]
                                by_cases hwe : wu = -1 - s
                                · have heb : (wu == -1 - s) = true := by simp [hwe]
                                  have Hwe := hid hwe
                                  clear hwe
                                  go_quiet (fail)
                                  have cx := Hbx6.out.cell (u + 1)
                                  have fx := Hbx6.out.free (u + 1)
                                  rw [List.getElem?_map, Dr.gB_get (by rw [Hxl.out]; have := Hn.out; omega)] at cx
                                  simp only [Option.map_some] at cx
                                  have hu1n : (u : Int) + 1 < (n : Int) := by omega
                                  have hu10 : (0 : Int) ≤ (u : Int) + 1 := by omega
                                  have hun : ((u : Int) + 1).toNat = u + 1 := by omega
                                  go_wp2_with fail
                                  rw [← Hgw.out, ← Hgr.out]
                                  go_roundg (n - (u + 1))
                                  case measure => have hk := Hk6.out; omega
                                  case rel =>
                                    refine ⟨u + 1, nx.set (u + 1) true, by go_num, by omega, by rw [List.map_set]; exact (Hbx6.out.drewN _).set (u + 1) _, by rw [List.length_set]; exact Hxl.out, fun v hv => ?_, rfl, (below_drewN Hb66.out _).setCell (p := ⟨gx, u + 1, none⟩) (Nat.le_refl _) _⟩
                                    rw [Dr.gB_set (by rw [Hxl.out]; omega)]
                                    simp only [Bool.or_eq_true, beq_iff_eq]
                                    rw [Hnx.out v hv]
                                    constructor
                                    · rintro (rfl | ⟨u', h1, h2, h3⟩)
                                      · exact ⟨u, by omega, HAu.out, .inl ⟨hsn, huW, by rw [Hwd.out]; exact Hwe.out, rfl⟩⟩
                                      · exact ⟨u', by omega, h2, h3⟩
                                    · rintro ⟨u', h1, h2, h3⟩
                                      rcases Nat.lt_or_ge u' u with h4 | h4
                                      · exact .inr ⟨u', h4, h2, h3⟩
                                      · obtain rfl : u' = u := by omega
                                        rcases h3 with ⟨_, _, _, h6⟩ | ⟨h5, _⟩
                                        · exact .inl h6
                                        · omega
                                · have heb : (wu == -1 - s) = false := by simp [hwe]
                                  have Hwe := hid hwe
                                  clear hwe
                                  go_quiet (fail)
                                  go_wp2_with fail
                                  rw [← Hgw.out, ← Hgr.out]
                                  go_roundg (n - (u + 1))
                                  case measure => have hk := Hk6.out; omega
                                  case rel =>
                                    refine ⟨u + 1, nx, by go_num, by omega, Hbx6.out, Hxl.out, fun v hv => (Hnx.out v hv).trans ⟨fun ⟨u', h1, h2, h3⟩ => ⟨u', by omega, h2, h3⟩, fun ⟨u', h1, h2, h3⟩ => ⟨u', ?_, h2, h3⟩⟩, rfl, below_drewN Hb66.out _⟩
                                    rcases Nat.lt_or_ge u' u with h4 | h4
                                    · exact h4
                                    · obtain rfl : u' = u := by omega
                                      rcases h3 with ⟨_, h5, h6, _⟩ | ⟨h5, _⟩
                                      · exact absurd (Hwd.out.symm.trans h6) Hwe.out
                                      · omega
                              · have huW' : ¬ (u : Int) < (n : Int) - 1 := by have := Hn.out; omega
                                have huWb : decide ((u : Int) < (n : Int) - 1) = false := by simp; have := Hn.out; omega
                                go_quiet (fail)
                                go_wp2_with fail
                                rw [← Hgr.out]
                                go_roundg (n - (u + 1))
                                case measure => have hk := Hk6.out; omega
                                case rel =>
                                  refine ⟨u + 1, nx, by go_num, by omega, Hbx6.out, Hxl.out, fun v hv => (Hnx.out v hv).trans ⟨fun ⟨u', h1, h2, h3⟩ => ⟨u', by omega, h2, h3⟩, fun ⟨u', h1, h2, h3⟩ => ⟨u', ?_, h2, h3⟩⟩, rfl, below_drewN Hb66.out _⟩
                                  rcases Nat.lt_or_ge u' u with h4 | h4
                                  · exact h4
                                  · obtain rfl : u' = u := by omega
                                    rcases h3 with ⟨_, h5, h6, _⟩ | ⟨h5, _⟩
                                    · omega
                                    · omega
                            · have hsnb : decide (s < 0) = false := by simp; omega
                              obtain ⟨b, rfl⟩ := Int.eq_ofNat_of_zero_le (show 0 ≤ s by omega)
                              rw [Hgr.out]
                              go_upto_region 32 with fail
                              rw [← Hgr.out]
                              obtain ⟨w7, rfl⟩ : ∃ w7 : World, w7 = wr := ⟨_, rfl⟩
                              clear cnu hcs6
                              go_loopg [17] (n - u) (fun k v17 wr => DL7 w6 gx n F4 word (b : Int) (Dr.PS F4 word r i q) u k v17 wr)
                              case atStart =>
                                refine ⟨u, nx, rfl, Nat.le_refl _, by omega, Hbx6.out, Hxl.out, fun v hv => ?_, rfl, Hb66.out⟩
                                rw [Hnx.out v hv]
                                constructor
                                · exact fun h => .inl h
                                · rintro (h | ⟨h1, h2⟩)
                                  · exact h
                                  · rcases h2 with ⟨h3, _⟩ | ⟨_, h3, _⟩ <;> omega
                              case round =>
                                obtain ⟨y, ny, rfl, huy, hyn, hby, hyl, hny, hk, hb⟩ := hrel
                                have Hk7 := hid hk
                                have Hby := hid hby
                                have Hyl := hid hyl
                                have Hny := hid hny
                                have Hb77 := hid hb
                                have hb47 : Below w4.heap.size w4 wr := (Hb5.out.trans (Hb6.out.mono (by exact Hb5.out.size))).trans (hb.mono h46)
                                have hBr7 : Below B wd wr := Hb4.out.trans (hb47.mono hBr)
                                clear hk hby hyl hny hb
                                by_cases hlty : y < n
                                · have hlty' : (y : Int) < (n : Int) := by omega
                                  have hy0 : (0 : Int) ≤ (y : Int) := by omega
                                  have hcs7 := (hBr7.cell (p := ⟨gs', _, none⟩) hgs').trans hcs
                                  have hz := Dr.idx_lt hltu hlty
                                  rw [← Ht.out] at hz
                                  have hdb7 : DB wr B bo t gs F4 := Hdb4.out.below hb47
                                  have hrlt : ∀ l ∈ F4, l.length = t := fun l hl => by rw [HT4.out.rl l hl, ← Hn.out, ← Ht.out]
                                  have hbK : b < K := by omega
                                  obtain ⟨gz, rowz, hgz, hfz, c1, c2, f2, hrz, hgzB⟩ := hdb7.at HT4.out.len hrlt hbK hz
                                  obtain ⟨un, hun⟩ : ∃ un, un = u * n := ⟨_, rfl⟩
                                  have hunI : (u : Int) * (n : Int) = (un : Int) := by rw [hun]; exact (Int.natCast_mul u n).symm
                                  rw [← hun] at hz c2 f2 hrz
                                  have hzi : (un : Int) + (y : Int) < (t : Int) := by omega
                                  have hz0 : (0 : Int) ≤ (un : Int) + (y : Int) := by omega
                                  have hbKi : (b : Int) < (K : Int) := by omega
                                  have hb00 : (0 : Int) ≤ (b : Int) := by omega
                                  have hzn : ((un : Int) + (y : Int)).toNat = un + y := by omega
                                  have htbe : Dr.tb F4 b (un + y) = Dr.tb F4 b (u * (word.length + 1) + y) := by rw [hun, ← Hn.out]
                                  have Htbe := hid htbe
                                  have Hun := hid hun
                                  clear hun hgz hfz hrz hdb7 hrlt htbe
                                  rw [Hgr.out]
                                  cases htv : Dr.tb F4 b (un + y) with
                                  | false =>
                                    rw [htv] at c2
                                    have Htv := hid htv
                                    clear htv
                                    go_wp2_with fail
                                    rw [← Hgr.out]
                                    go_roundg (n - (y + 1))
                                    case measure => have hk := Hk7.out; omega
                                    case rel =>
                                      refine ⟨y + 1, ny, by go_num, by omega, by omega, Hby.out, Hyl.out, fun v hv => (Hny.out v hv).trans ⟨fun h => h.imp id (fun h2 => ⟨by omega, h2.2⟩), fun h => h.imp id (fun h2 => ⟨?_, h2.2⟩)⟩, rfl, Hb77.out⟩
                                      rcases Nat.lt_or_ge v y with h4 | h4
                                      · exact h4
                                      · obtain rfl : v = y := by omega
                                        rcases h2.2 with ⟨h5, _⟩ | ⟨_, _, _, h6⟩
                                        · omega
                                        · rw [Int.toNat_natCast, ← Htbe.out, Htv.out] at h6
                                          cases h6
                                  | true =>
                                    rw [htv] at c2
                                    have Htv := hid htv
                                    have cx := Hby.out.cell y
                                    have fx := Hby.out.free y
                                    rw [List.getElem?_map, Dr.gB_get (by rw [Hyl.out]; exact hlty)] at cx
                                    simp only [Option.map_some] at cx
                                    clear htv
                                    go_wp2_with fail
                                    rw [← Hgr.out]
                                    go_roundg (n - (y + 1))
                                    case measure => have hk := Hk7.out; omega
                                    case rel =>
                                      refine ⟨y + 1, ny.set y true, by go_num, by omega, by omega, by rw [List.map_set]; exact Hby.out.set y _, by rw [List.length_set]; exact Hyl.out, fun v hv => ?_, rfl, Hb77.out.setCell (p := ⟨gx, y, none⟩) (Nat.le_refl _) _⟩
                                      rw [Dr.gB_set (by rw [Hyl.out]; exact hlty)]
                                      simp only [Bool.or_eq_true, beq_iff_eq]
                                      rw [Hny.out v hv]
                                      constructor
                                      · rintro (rfl | h | h)
                                        · exact .inr ⟨by omega, .inr ⟨by omega, huy, by have := Hn.out; omega, by rw [Int.toNat_natCast, ← Htbe.out, Htv.out]⟩⟩
                                        · exact .inl h
                                        · exact .inr ⟨by omega, h.2⟩
                                      · rintro (h | ⟨h1, h2⟩)
                                        · exact .inr (.inl h)
                                        · rcases Nat.lt_or_ge v y with h4 | h4
                                          · exact .inr (.inr ⟨h4, h2⟩)
                                          · exact .inl (by omega)
                                · have hgey : ¬ (y : Int) < (n : Int) := by omega
                                  have hyne : y = n := by omega
                                  have Hyn := hid hyne
                                  clear hyne
                                  go_wp2_with fail
                                  go_roundg (n - (u + 1))
                                  case measure => have hk := Hk6.out; omega
                                  case rel =>
                                    refine ⟨u + 1, ny, by go_num, by omega, Hby.out, Hyl.out, fun v hv => (Hny.out v hv).trans ⟨?_, ?_⟩, rfl, Hb77.out⟩
                                    · rintro (⟨u', h1, h2, h3⟩ | ⟨_, h3⟩)
                                      · exact ⟨u', by omega, h2, h3⟩
                                      · exact ⟨u, by omega, HAu.out, h3⟩
                                    · rintro ⟨u', h1, h2, h3⟩
                                      rcases Nat.lt_or_ge u' u with h4 | h4
                                      · exact .inl ⟨u', h4, h2, h3⟩
                                      · obtain rfl : u' = u := by omega
                                        exact .inr ⟨by have := Hyn.out; omega, h3⟩
                        · have hgeu : ¬ (u : Int) < (n : Int) := by omega
                          have hun : u = n := by omega
                          have Hun := hid hun
                          clear hun hbn6
                          go_wp2_with fail
                          go_roundg (r.length - (q + 1))
                          case measure => have hk := Hk5.out; omega
                          case rel =>
                            refine ⟨q + 1, gx, nx, by go_num, rfl, by omega, Hbx6.out, h46, Hxl.out, fun v hv => (Hnx.out v hv).trans ?_, rfl, Hb46.out⟩
                            show _ ↔ ∃ u', Dr.PS F4 word r i q u' ∧ Dr.Ed F4 word (r.getD q 0) u' v
                            rw [Hgd.out]
                            exact ⟨fun ⟨u', _, h2, h3⟩ => ⟨u', h2, h3⟩, fun ⟨u', h2, h3⟩ => ⟨u', by have h4 := Dr.PS.le (show i ≤ word.length by have := Hn.out; omega) h2; have := Hn.out; have := Hun.out; omega, h2, h3⟩⟩
                    · have hgeq : ¬ (q : Int) < (r.length : Int) := by omega
                      have hqr : q = r.length := by omega
                      have hnw2 := Hnw.out
                      rw [hqr] at hnw2
                      clear hqr
                      go_upto_region 37 with fail
                      go_wp2_with fail
                      have hgl : ∀ g ∈ gs, g < w4.heap.size := fun g hg => by
                        obtain ⟨a', ha'⟩ := List.getElem?_of_mem hg
                        have h1 : a' < F4.length := by rw [← Hdb4.out.len]; exact (List.getElem?_eq_some_iff.1 ha').1
                        exact (Hdb4.out.row a' g _ ha' (List.getElem?_eq_getElem h1)).lt
                      have hiW : i ≤ word.length := by have := Hn.out; omega
                      have hsnd : ∀ v, v < n → Dr.gB nw v = true → ∃ f, Fo.Of G.prods word f [(a : Int)] i v := fun v hv hg => by
                        obtain ⟨f, hf⟩ := HT4.out.path hiW (Nat.le_refl _) ((hnw2 v hv).1 hg)
                        rw [List.take_length] at hf
                        exact ⟨.cons (x : Int) f .nil, (a : Int), [], v, rfl, .inr ⟨by omega, x, r, rfl, Hxi.out, hf⟩, rfl, rfl⟩
                      have Hsnd := hid hsnd
                      have Hgl := hid hgl
                      have Hnw2 := hid hnw2
                      have hBw5 : Below B wd wr := Hb4.out.trans (Hb5.out.mono hBr)
                      have Hbw5 := hid hBw5
                      clear hsnd hgl hnw2 hBw5
                      obtain ⟨w8, rfl⟩ : ∃ w8 : World, w8 = wr := ⟨_, rfl⟩
                      go_loopg [8, 18] n (fun k v8 v18 wr => DL8 B wd bo t K n gs G.prods word P x a r i nw gw5 k v8 v18 wr)
                      case atStart => exact ⟨0, F4, more4, rfl, rfl, by omega, Hdb4.out.below Hb5.out, HT4.out, (fun h => ⟨(Hfix4.out h).1, (Hfix4.out h).2, Hnw2.out, fun v hv => by omega⟩), Hbn.out, Hcnt4.out, rfl, Hbw5.out⟩
                      case round =>
                        obtain ⟨y, F8, more8, rfl, rfl, hy, hdb, hT, hfix, hbn, hcnt, hk, hb⟩ := hrel
                        have Hk8 := hid hk
                        have Hfix8 := hid hfix
                        have HT8 := hid hT
                        have Hdb8 := hid hdb
                        have Hb8 := hid hb
                        have Hcnt8 := hid hcnt
                        have Hbn8 := hid hbn
                        clear hk hfix hcnt hbn
                        by_cases hlty : y < n
                        · have hlty' : (y : Int) < (n : Int) := by omega
                          have hy0 : (0 : Int) ≤ (y : Int) := by omega
                          have cny : wr.cell? ⟨gw5, y, none⟩ = some (.bool (Dr.gB nw y)) := by rw [Hbn8.out.cell, List.getElem?_map, Dr.gB_get (by rw [Hnl.out]; exact hlty)]; rfl
                          have hz := Dr.idx_lt hlti hlty
                          rw [← Ht.out] at hz
                          have hrlt : ∀ l ∈ F8, l.length = t := fun l hl => by rw [hT.rl l hl, ← Hn.out, ← Ht.out]
                          obtain ⟨gz, rowz, hgz, hfz, c1, c2, f2, hrz, hgzB⟩ := hdb.at hT.len hrlt haK hz
                          have hrzl := hrlt rowz (List.mem_of_getElem? hfz)
                          obtain ⟨un, hun⟩ : ∃ un, un = i * n := ⟨_, rfl⟩
                          have hunI : (i : Int) * (n : Int) = (un : Int) := by rw [hun]; exact (Int.natCast_mul i n).symm
                          rw [← hun] at hz c2 f2 hrz
                          have hzi : (un : Int) + (y : Int) < (t : Int) := by omega
                          have hz0 : (0 : Int) ≤ (un : Int) + (y : Int) := by omega
                          have haKi : (a : Int) < (K : Int) := by omega
                          have ha00 : (0 : Int) ≤ (a : Int) := by omega
                          have hzn : ((un : Int) + (y : Int)).toNat = un + y := by omega
                          have Hun := hid hun
                          have Hgz := hid hgz
                          have Hfz := hid hfz
                          have Hrz := hid hrz
                          have Hrzl := hid hrzl
                          clear hun hgz hfz hrz hrlt hdb hT hb hrzl
                          cases hgy : Dr.gB nw y with
                          | false =>
                            rw [hgy] at cny
                            have Hgy := hid hgy
                            clear hgy
                            go_wp2_with fail
                            go_roundg (n - (y + 1))
                            case measure => have hk := Hk8.out; omega
                            case rel =>
                              refine ⟨y + 1, F8, more8, by go_num, rfl, by omega, Hdb8.out, HT8.out, fun h => ?_, Hbn8.out, Hcnt8.out, rfl, Hb8.out⟩
                              obtain ⟨h1, h2, h3, h4⟩ := Hfix8.out h
                              refine ⟨h1, h2, h3, fun v hv hg => ?_⟩
                              rcases Nat.lt_or_ge v y with h5 | h5
                              · exact h4 v h5 hg
                              · obtain rfl : v = y := by omega
                                rw [Hgy.out] at hg
                                cases hg
                          | true =>
                            rw [hgy] at cny
                            have Hgy := hid hgy
                            clear hgy
                            cases htv : Dr.tb F8 a (un + y) with
                            | true =>
                              rw [htv] at c2
                              have Htv := hid htv
                              clear htv
                              go_wp2_with fail
                              go_roundg (n - (y + 1))
                              case measure => have hk := Hk8.out; omega
                              case rel =>
                                refine ⟨y + 1, F8, more8, by go_num, rfl, by omega, Hdb8.out, HT8.out, fun h => ?_, Hbn8.out, Hcnt8.out, rfl, Hb8.out⟩
                                obtain ⟨h1, h2, h3, h4⟩ := Hfix8.out h
                                refine ⟨h1, h2, h3, fun v hv hg => ?_⟩
                                rcases Nat.lt_or_ge v y with h5 | h5
                                · exact h4 v h5 hg
                                · obtain rfl : v = y := by omega
                                  rw [← Hun.out]
                                  exact Htv.out
                            | false =>
                              rw [htv] at c2
                              have Htv := hid htv
                              clear htv
                              go_wp2_with fail
                              go_roundg (n - (y + 1))
                              case measure => have hk := Hk8.out; omega
                              case rel =>
                                have hrz' := Hrz.out
                                rw [Htv.out] at hrz'
                                have hcs := Dr.cntT_set Hfz.out hrz'
                                have hdbp := Hdb8.out.put (z := un + y) Hgz.out Hfz.out
                                have hput := HT8.out.put Hfz.out hiW (show y ≤ word.length by have := Hn.out; omega) (Hsnd.out y hlty Hgy.out)
                                rw [← Hn.out, ← Hun.out] at hput
                                have hgm := List.mem_of_getElem? Hgz.out
                                refine ⟨y + 1, _, true, by go_num, rfl, by omega, hdbp, hput, (fun h => by cases h), Hbn8.out.far (p := ⟨gz, un + y, none⟩) (by have h1 := Hgl.out gz hgm; show gw5 ≠ gz; omega) _, ?_, rfl, Hb8.out.setCell (p := ⟨gz, un + y, none⟩) (by exact hgzB) _⟩
                                have hc := Hcnt8.out
                                simp only [if_true]
                                split at hc <;> omega
                        · have hgey : ¬ (y : Int) < (n : Int) := by omega
                          have hyn : y = n := by omega
                          have Hyn := hid hyn
                          clear hyn hdb hT hb
                          go_wp2_with fail
                          go_roundg (n - (i + 1))
                          case measure => have hk := Hk4.out; omega
                          case rel =>
                            refine ⟨i + 1, F8, more8, by go_num, rfl, by omega, Hdb8.out, HT8.out, fun h => ?_, Hcnt8.out, rfl, Hb8.out⟩
                            obtain ⟨h1, h2, h3, h4⟩ := Hfix8.out h
                            refine ⟨h1, fun i' hi' => ?_⟩
                            rcases Nat.lt_or_ge i' i with h5 | h5
                            · exact h2 i' h5
                            · obtain rfl : i' = i := by omega
                              intro v hv hp
                              have hvn : v < n := by have := Hn.out; omega
                              have h6 := h4 v (by have := Hyn.out; omega) ((h3 v hvn).2 hp)
                              rw [← Hn.out]
                              exact h6
                · have hgei : ¬ (i : Int) < (n : Int) := by omega
                  have hin : i = n := by omega
                  have Hin := hid hin
                  clear hin
                  go_wp2_with fail
                  go_roundg (G.prods.length - (x + 1))
                  case measure => have hk := Hk3.out; omega
                  case rel =>
                    refine ⟨x + 1, F4, more4, by go_num, rfl, by omega, Hdb4.out, HT4.out, fun h => ?_, Hcnt4.out, rfl, Hb4.out⟩
                    obtain ⟨h1, h2⟩ := Hfix4.out h
                    intro q' y hq' hy' i' hi'
                    rcases Nat.lt_or_ge q' x with h5 | h5
                    · exact h1 q' y h5 hy' i' hi'
                    · obtain rfl : q' = x := by omega
                      rw [Hxi.out] at hy'
                      cases hy'
                      rw [Int.toNat_natCast]
                      exact h2 i' (by have := Hin.out; have := Hn.out; omega)
            · have hge : ¬ (x : Int) < (G.prods.length : Int) := by omega
              have hxe : x = G.prods.length := by omega
              have Hxe := hid hxe
              clear hxe
              go_wp2_with fail
              go_roundg (2 * Dr.cntT F3 + (if more3 then 1 else 0))
              case measure =>
                have hk := Hk.out
                have hc := Hcnt3.out
                have hp := HP.out
                simp only [if_true] at hk
                split at hc <;> rename_i hm <;> simp [hm] <;> omega
              case rel => exact ⟨F3, more3, rfl, Hdb3.out, HT3.out, fun h => by have := Hfix3.out h; rw [Hxe.out] at this; exact this, rfl, Hb3.out⟩
end Go.Proofs.Ytaehooafdbaomaa
