/- Chapter 10 (lang): Derives: walk. -/
import Derived.Test.YtaehooafdbaomaaLang10
import Derived.Test.YtaehooafdbaomaaPlain2
import Derived.Test.YtaehooafdbaomaaPlain1
namespace Go.Proofs.Ytaehooafdbaomaa
open Go.RowKit
attribute [local go_sem ↓] Go.wp_at_zero Go.wp_at_succ
attribute [local go_sem] frozen_alloc_lt

/-- A terminal that a grammar of t terminals has not. -/
def badW (t : Nat) (s : Int) : Bool := decide (s < 0) || decide ((t : Int) ≤ s)
set_option maxHeartbeats 1000000 in
theorem badW_calls (w : World) (b : Nat) (t : Nat) (gt : Option Addr) (ct : Nat) (z : Int) (ht : w.cell? ⟨b, 3, none⟩ = some (.slice gt t ct)) :
    Calls Try.prog 97 #[.int .i64 z, .pointer (some ⟨b, 0, none⟩)] w fun e w' => e = .returned (.bool (badW t z)) ∧ w = w' := by
  by_cases c1 : z < 0
  · have e1 : badW t z = true := by simp [badW, c1]
    have E1 := hid e1
    clear e1
    go_enter Try.func97, Try.ntmps97
    go_wp2_with fail
    all_goals go_ret
    all_goals (rw [E1.out]; exact ⟨rfl, rfl⟩)
  · by_cases c2 : (t : Int) ≤ z
    · have e1 : badW t z = true := by simp [badW, c2]
      have E1 := hid e1
      clear e1
      go_enter Try.func97, Try.ntmps97
      go_wp2_with fail
      all_goals go_ret
      all_goals (rw [E1.out]; exact ⟨rfl, rfl⟩)
    · have e1 : badW t z = false := by simp [badW]; omega
      have E1 := hid e1
      clear e1
      go_enter Try.func97, Try.ntmps97
      go_wp2_with fail
      all_goals go_ret
      all_goals (rw [E1.out]; exact ⟨rfl, rfl⟩)
theorem bel0D {a b c : World} (h : Below a.heap.size a b) (k : Below b.heap.size b c) : Below a.heap.size a c := h.trans (k.mono h.size)
def LD1 (w0 : World) (B go K n : Nat) (k : Nat) (v33 : Value) (w : World) : Prop :=
  ∃ (m : Nat) (g : Nat → Nat) (h : Nat → Nat → Nat), v33 = .int .i64 m ∧ m ≤ K ∧ SpM w B go g h K n m n ∧ k = K - m ∧ Below B w0 w
def LD2 (w0 : World) (B go K n m : Nat) (g : Nat → Nat) (k : Nat) (v48 : Value) (w : World) : Prop :=
  ∃ (i : Nat) (h : Nat → Nat → Nat), v48 = .int .i64 i ∧ i ≤ n ∧ SpM w B go g h K n (m + 1) i ∧ k = n - i ∧ Below B w0 w
def DerSaidL (w : World) (ps : List (Int × List Int)) (st : Int) (word : List Int) (e : Ending) (w' : World) : Prop := ∃ b : Bool, e = .returned (.bool b) ∧ (b = true ↔ ∃ f, Fo.Of ps word f [st] 0 word.length) ∧ Below w.heap.size w w'
def LX2 (w0 : World) (B go : Nat) (g : Nat → Nat) (h : Nat → Nat → Nat) (K n : Nat) (ps : List (Int × List Int)) (word : List Int) (k : Nat) (v8 : Value) (w : World) : Prop :=
  ∃ (F : List (List Bool)) (more : Bool), v8 = .bool more ∧ SpX w B go g h K n F ∧ Dr.TabD ps word K F ∧ (more = false → Dr.FixD ps word F ps.length) ∧ k = 2 * Dr.cntT F + (if more then 1 else 0) ∧ Below B w0 w
def LX3 (w0 : World) (B go : Nat) (g : Nat → Nat) (h : Nat → Nat → Nat) (K n : Nat) (ps : List (Int × List Int)) (word : List Int) (P k : Nat) (v8 v67 : Value) (w : World) : Prop :=
  ∃ (x : Nat) (F : List (List Bool)) (more : Bool), v67 = .int .i64 x ∧ v8 = .bool more ∧ x ≤ ps.length ∧ SpX w B go g h K n F ∧ Dr.TabD ps word K F ∧ (more = false → Dr.FixD ps word F x) ∧ (if more then Dr.cntT F < P else Dr.cntT F ≤ P) ∧ k = ps.length - x ∧ Below B w0 w
def LX4 (w0 : World) (B go : Nat) (g : Nat → Nat) (h : Nat → Nat → Nat) (K n : Nat) (ps : List (Int × List Int)) (word : List Int) (P x l : Nat) (r : List Int) (bx : Nat) (vr : Value) (k : Nat) (v8 v74 : Value) (w : World) : Prop :=
  ∃ (i : Nat) (F : List (List Bool)) (more : Bool), v74 = .int .i64 i ∧ v8 = .bool more ∧ i ≤ n ∧ SpX w B go g h K n F ∧ Dr.TabD ps word K F ∧ (more = false → Dr.FixD ps word F x ∧ ∀ i', i' < i → Dr.Cl F word l r i') ∧ (if more then Dr.cntT F < P else Dr.cntT F ≤ P) ∧
    Bk w bx 97 [.int .i64 (l : Int), vr] ∧ k = n - i ∧ Below B w0 w
def LX5 (w0 : World) (B go : Nat) (g : Nat → Nat) (h : Nat → Nat → Nat) (K n : Nat) (ps : List (Int × List Int)) (word : List Int) (P x l : Nat) (r : List Int) (bx : Nat) (vr : Value) (i : Nat) (nw : List Bool) (gn : Nat) (k : Nat) (v8 v84 : Value) (w : World) : Prop :=
  ∃ (y : Nat) (F : List (List Bool)) (more : Bool), v84 = .int .i64 y ∧ v8 = .bool more ∧ y ≤ n ∧ SpX w B go g h K n F ∧ Dr.TabD ps word K F ∧
    (more = false → Dr.FixD ps word F x ∧ (∀ i', i' < i → Dr.Cl F word l r i') ∧ (∀ v, v < n → (Dr.gB nw v = true ↔ Dr.PS F word r i r.length v)) ∧ ∀ v, v < y → Dr.gB nw v = true → Dr.tb F l (i * n + v) = true) ∧
    (if more then Dr.cntT F < P else Dr.cntT F ≤ P) ∧ Bk w bx 97 [.int .i64 (l : Int), vr] ∧ Bk w gn 4 (nw.map Value.bool) ∧ k = n - y ∧ Below B w0 w
theorem boolssInfoD : (Try.prog.info? 150).map (fun i => (i.zero, i.size, i.bytes)) = some (some (.slice none 0 0), 1, 24) := by kernel_rfl
set_option maxHeartbeats 16000000 in
set_option maxRecDepth 100000 in
theorem lderives_calls (w : World) (G : Gr) (gn gt gp : Option Addr) (cn ct cp : Nat) (h : GIn w G gn gt gp) (hs : Pl.soundB G = true) (gw : Option Addr) (cw : Nat) (word : List Int) (hw : RowI w w.heap.size gw word) (hwl : word.length ≤ 64) (hbad : word.any (badW G.terms.length) = false) :
    Calls Try.prog 56 #[gramV G gn gt gp cn ct cp, .slice gw word.length cw] w (DerSaidL w G.prods G.start word) := by
  obtain ⟨i4, hi4, z0, z1, z2⟩ := info_parts boolInfoD
  obtain ⟨i5, hi5, y0, y1, y2⟩ := info_parts boolsInfoD
  obtain ⟨i6, hi6, x0, x1, x2⟩ := info_parts boolssInfoD
  have Hsg := hid (sndG hs)
  have hn0 := Hsg.out.n0
  have hn1 := Hsg.out.n1
  have hk := Bk.new w 30 [.int .i64 G.start, .int .i64 G.rules, .slice gn G.names.length cn, .slice gt G.terms.length ct, .slice gp G.prods.length cp]
  have hb0 : Below w.heap.size w (w.alloc (.cells #[.int .i64 G.start, .int .i64 G.rules, .slice gn G.names.length cn, .slice gt G.terms.length ct, .slice gp G.prods.length cp] 30)) := (Below.refl _ _).alloc (Nat.le_refl _) _
  have H := hid h
  have Hsb := hid hs
  have Hany := hid hbad
  have hl' : ¬ (64 : Int) < (word.length : Int) := by omega
  have Heg := hid (fun (args : Array Value) (w : World) => show (callFunc 97 args).run Try.prog w = .ok (.enter 97 args) w by kernel_rfl)
  unfold gramV
  clear h hs hbad
  go_enter Try.func56, Try.ntmps56
  go_upto_region 1 with fail
  obtain ⟨wd, hwd⟩ : ∃ wd, wd = (w.alloc (.cells #[.int .i64 G.start, .int .i64 G.rules, .slice gn G.names.length cn, .slice gt G.terms.length ct, .slice gp G.prods.length cp] 30)) := ⟨_, rfl⟩
  obtain ⟨b, hb⟩ : ∃ b, b = w.heap.size := ⟨_, rfl⟩
  have h2 := H.out.later (w' := wd) (by rw [hwd]; exact hb0)
  have hw2 := (hw.below hb0).mono hb0.size
  rw [← hwd] at hk hb0 hw2
  rw [← hwd]
  rw [← hb] at hk
  rw [← hb]
  clear hwd hb hw
  have g0 := hk.cell 0
  have g1 := hk.cell 1
  have g2 := hk.cell 2
  have g3 := hk.cell 3
  have g4 := hk.cell 4
  simp only [List.getElem?_cons_zero, List.getElem?_cons_succ] at g0 g1 g2 g3 g4
  have H2 := hid h2
  clear h2
  go_upto_region 3 with (first
    | (go_at_call 61; refine (sound_calls wd G gn gt gp cn ct cp H2.out.n H2.out.t H2.out.p H2.out.h1 H2.out.h2 H2.out.h3 H2.out.h4).mono ?_; rintro e w1 ⟨rfl, hb1⟩; rw [Hsb.out]; have hw3 := (hw2.below hb1).mono hb1.size; have g3' := (hk.below hb1 hk.lt).cell 3; simp only [List.getElem?_cons_zero, List.getElem?_cons_succ] at g3')
    | (go_at_call 78; refine (containsFunc_calls w1 gw cw word 97 (.pointer (some ⟨b, 0, none⟩)) (badW G.terms.length) hw3 (by omega) Heg.out (fun z _ => badW_calls w1 b G.terms.length gt ct z g3')).mono ?_; rintro e w3 ⟨rfl, rfl⟩; rw [Hany.out]))
  obtain ⟨K, hK⟩ : ∃ K, K = G.names.length := ⟨_, rfl⟩
  obtain ⟨n, hn⟩ : ∃ n, n = word.length + 1 := ⟨_, rfl⟩
  have hk1 := hk.below hb1 hk.lt
  have hbw1 := bel0D hb0 hb1
  have hp1 := (H2.out.p.below hb1).mono hb1.size
  clear g0 g1 g2 g3 g4 g3' hk hb0 hb1 hw2
  rw [← hK] at hk1 hn0 hn1
  have hcd : ∀ W, Below w1.heap.size w1 W → W.cell? ⟨b, 0, none⟩ = some (.int .i64 G.start) ∧ W.cell? ⟨b, 2, none⟩ = some (.slice gn K cn) ∧ W.cell? ⟨b, 4, none⟩ = some (.slice gp G.prods.length cp) := fun W hW => by
    have k := hk1.below hW hk1.lt
    exact ⟨k.cell 0, k.cell 2, k.cell 4⟩
  have HC := hid hcd
  have Hp := hid hp1
  have Hw := hid hw3
  have Hbw1 := hid hbw1
  have HK := hid hK
  have Hn := hid hn
  have hn65 : n ≤ 65 := by omega
  have hn1' : 1 ≤ n := by omega
  have hnc : (word.length : Int) + 1 = (n : Int) := by omega
  have g2 := (hcd _ (Below.refl _ _)).2.1
  obtain ⟨B, hB⟩ : ∃ B, B = w1.heap.size := ⟨_, rfl⟩
  have HB := hid hB
  clear hK hn hcd hk1 hp1 hw3 hbw1 Hsb Hany Heg H H2 hl' hwl hB
  go_upto_region 4 with (at_make; refine wpList_make_bk _ rfl _ _ _ rfl 150 i6 _ Try.underlying165 hi6 x0 x1 rfl _ _ K rfl rfl rfl rfl (by rw [x2]; omega) (by omega) ?_; intro w2 hba hk2)
  obtain ⟨go, hgo⟩ : ∃ go, go = w1.heap.size := ⟨_, rfl⟩
  rw [← hgo] at hba ⊢
  have hb2 : Below B w1 w2 := by rw [HB.out]; exact hk2.to_below (Nat.le_refl _) (fun k e => e.elim)
  have Hst := hid (And.intro (SpM.start (n := n) hba (show B ≤ go by rw [HB.out, hgo]; exact Nat.le_refl _)) hb2)
  have HB1 := hid (show B = go by rw [HB.out, hgo])
  clear hba hk2 hb2 hgo g2
  go_wp2_with fail
  go_loopg [33] K (fun k v33 wr => LD1 w1 B go K n k v33 wr)
  case atStart => exact ⟨0, _, _, rfl, Nat.zero_le _, Hst.out.1, rfl, Hst.out.2⟩
  case round =>
    clear Hst
    obtain ⟨m, g, h, rfl, hm, hsp, hk, hbw⟩ := hrel
    have Hm := hid (And.intro hsp (And.intro hk hbw))
    by_cases hlt : m < K
    · have hlt' : (m : Int) < (K : Int) := by omega
      have hm0 : (0 : Int) ≤ (m : Int) := by omega
      have Hlt := hid hlt
      have HBr := hid (show B ≤ wr.heap.size by have := hbw.size; have := HB.out; omega)
      clear hk hsp hm hlt hbw
      obtain ⟨wo, rfl⟩ : ∃ wo : World, wo = wr := ⟨_, rfl⟩
      go_upto_region 7 with fail
      go_upto_region 8 with (at_make; refine wpList_make_bk _ rfl _ _ _ rfl 133 i5 _ Try.underlying150 hi5 y0 y1 rfl _ _ n rfl rfl rfl rfl (by rw [y2]; omega) (by omega) ?_; intro w3 hbb hk3; obtain ⟨cs3, fs3⟩ := Hm.out.1.slot Hlt.out hk3)
      obtain ⟨gx, hgx⟩ : ∃ gx, gx = wo.heap.size := ⟨_, rfl⟩
      rw [← hgx] at hbb ⊢
      have hrow := Hm.out.1.row hk3 gx hgx hbb HBr.out
      have hbr : Below B w1 (w3.setCell ⟨go, m, none⟩ (.slice (some ⟨gx, 0, none⟩) n n)) := (Hm.out.2.2.trans (hk3.to_below HBr.out (fun k e => e.elim))).setCell (p := ⟨go, m, none⟩) (by rw [HB1.out]; exact Nat.le_refl _) _
      obtain ⟨g', hg'⟩ : ∃ g' : Nat → Nat, g' = fun x => if x = m then gx else g x := ⟨_, rfl⟩
      have hgm : g' m = gx := by rw [hg']; simp
      rw [← hg'] at hrow
      rw [← hgm] at hrow hbr ⊢
      obtain ⟨w4, hw4⟩ : ∃ w4, w4 = w3.setCell ⟨go, m, none⟩ (.slice (some ⟨g' m, 0, none⟩) n n) := ⟨_, rfl⟩
      have ch := hrow.head Hlt.out (Kp.refl _ _)
      rw [← hw4] at hrow hbr ch ⊢
      have Hrow := hid (And.intro hrow hbr)
      clear hgx hbb hk3 hrow hbr hg' hgm hw4 cs3 fs3
      go_wp2_with fail
      go_loopg [48] n (fun k v48 wr => LD2 w1 B go K n m g' k v48 wr)
      case atStart => exact ⟨0, _, rfl, Nat.zero_le _, Hrow.out.1, rfl, Hrow.out.2⟩
      case round =>
        clear ch Hrow
        obtain ⟨i, h', rfl, hi, hsp, hk, hbw⟩ := hrel
        have Hi := hid (And.intro hsp (And.intro hk hbw))
        by_cases hlti : i < n
        · have hlti' : (i : Int) < (n : Int) := by omega
          have hi0 : (0 : Int) ≤ (i : Int) := by omega
          have Hlti := hid hlti
          have hBr : B ≤ wr.heap.size := by have := hbw.size; have := HB.out; omega
          have HBi := hid hBr
          obtain ⟨wi, rfl⟩ : ∃ wi : World, wi = wr := ⟨_, rfl⟩
          obtain ⟨w5, hrun, hown, hg5⟩ := run_make_full (P := Try.prog) (w := wi.drew) wi.heap.size 133 4 i4 (.bool false) 1 Try.underlying133 hi4 z0 z1 .i64 .i64 n (by rw [z2]; omega) (by unfold maxLen; omega) (Nat.le_refl _)
          have hbc := bk_full hown
          have e1 : (madeCells (Value.bool false).cells (n * 1)).toList = List.replicate n (.bool false) := by
            simp [madeCells, Value.cells, Nat.mod_one, List.map_const']
          rw [e1] at hbc
          have hbce : wi.drew.heap.size = wi.heap.size := rfl
          rw [hbce] at hrun hbc
          have hk5 : Kp (fun _ => False) wi w5 := (Kp.refl (fun _ => False) wi).drew.grown hg5 (fun k e => by cases e)
          have c1 := hsp.head Hlt.out (Kp.refl _ _)
          obtain ⟨c2, f2⟩ := hsp.slot2 hlti (Kp.refl _ _)
          have c3 := hsp.head Hlt.out hk5
          obtain ⟨c4, f4⟩ := hsp.slot2 hlti hk5
          obtain ⟨hx, hhx⟩ : ∃ hx, hx = wi.heap.size := ⟨_, rfl⟩
          have hcl := hsp.cell hlti hk5 hx hhx (by rw [hhx]; exact hbc) hBr
          have hgm := (hsp.f m (by omega)).2
          have hbi : Below B w1 (w5.setCell ⟨g' m, i, none⟩ (.slice (some ⟨hx, 0, none⟩) n n)) := (hbw.trans (hk5.to_below hBr (fun k e => e.elim))).setCell (p := ⟨g' m, i, none⟩) hgm _
          have Hcl := hid (And.intro hcl hbi)
          rw [← hhx] at hrun
          clear hk hsp hi hlti hbw hBr hown hg5 hbc e1 hbce hk5 hhx hcl hbi hgm
          go_upto_region 11 with fail
          go_region
          go_wp2_with fail
          go_roundg (n - (i + 1))
          case measure => have := Hi.out.2.1; have := Hlti.out; omega
          case rel => exact ⟨i + 1, _, by go_num, Hlti.out, Hcl.out.1, rfl, Hcl.out.2⟩
        · have hge : ¬ (i : Int) < (n : Int) := by omega
          have hin : i = n := by omega
          subst hin
          clear hk hsp hi hlti hbw
          go_wp2_with fail
          go_roundg (K - (m + 1))
          case measure => have := Hm.out.2.1; have := Hlt.out; omega
          case rel => exact ⟨m + 1, g', h', by go_num, Hlt.out, Hi.out.1.full, rfl, Hi.out.2.2⟩
    · have hge : ¬ (m : Int) < (K : Int) := by omega
      have hmK : K = m := by omega
      subst hmK
      have Hx := hid (And.intro Hm.out.1.all Hm.out.2.2)
      clear hk hsp hm hlt hbw Hm
      obtain ⟨wo, rfl⟩ : ∃ wo : World, wo = wr := ⟨_, rfl⟩
      go_wp2_with fail
      have hT0 := Dr.TabD.start G.prods word K
      rw [← Hn.out] at hT0
      have HT0 := hid hT0
      clear hT0
      go_loopg [8] (2 * Dr.cntT (List.replicate K (List.replicate (n * n) false)) + 1) (fun k v8 wr => LX2 w1 B go g h K n G.prods word k v8 wr)
      case atStart => exact ⟨_, true, rfl, Hx.out.1, HT0.out, (fun h => by cases h), by simp, Hx.out.2⟩
      case round =>
        clear HT0 Hx
        obtain ⟨F, more, rfl, hsp, hT, hfix, hk, hb⟩ := hrel
        have Hr := hid (And.intro hsp (And.intro hT (And.intro hfix (And.intro hk hb))))
        obtain ⟨q0, q2, q4⟩ := HC.out wr (by rw [← HB.out]; exact hb)
        clear hk hfix hT hb
        cases more with
        | false =>
          have hs0 := Hsg.out.s0
          have hs1 := Hsg.out.s1
          rw [← HK.out] at hs1
          obtain ⟨sn, hsn⟩ : ∃ sn : Nat, G.start = (sn : Int) := Int.eq_ofNat_of_zero_le hs0
          have hwn : word.length < n := by omega
          obtain ⟨c1, c2, c3⟩ := hsp.s.at (show sn < K by omega) (show 0 < n by omega) hwn
          have htold := Dr.told Hr.out.2.1 (Hr.out.2.2.1 rfl) sn
          rw [Nat.zero_mul, Nat.zero_add] at c3
          obtain ⟨res, hres⟩ : ∃ res, res = Dr.tb F sn word.length := ⟨_, rfl⟩
          rw [← hres] at c3 htold
          have Htold := hid htold
          have Hsn := hid hsn
          have hw1 : (word.length : Int) < (n : Int) := by omega
          have hw0 : (0 : Int) ≤ (word.length : Int) := by omega
          have hn0' : (0 : Int) < (n : Int) := by omega
          have hsK : (sn : Int) < (K : Int) := by omega
          have hs00 : (0 : Int) ≤ (sn : Int) := by omega
          rw [hsn] at q0
          clear hres htold hsn hs0 hs1 hwn hsp
          go_wp2_with fail
          go_ret
          exact ⟨res, rfl, by rw [Hsn.out]; exact Htold.out, Hbw1.out.trans (Hr.out.2.2.2.2.mono (by have h1 := HB.out; have h2 := Hbw1.out.size; omega))⟩
        | true =>
          obtain ⟨P, hP⟩ : ∃ P, P = Dr.cntT F := ⟨_, rfl⟩
          have HP := hid hP
          clear hP hsp
          obtain ⟨w2, rfl⟩ : ∃ w2 : World, w2 = wr := ⟨_, rfl⟩
          go_wp2_with fail
          go_loopg [8, 67] G.prods.length (fun k v8 v67 wr => LX3 w1 B go g h K n G.prods word P k v8 v67 wr)
          case atStart => exact ⟨0, F, false, rfl, rfl, by omega, Hr.out.1, Hr.out.2.1, (fun _ q y hq => by omega), by rw [HP.out]; simp, rfl, Hr.out.2.2.2.2⟩
          case round =>
            clear q0 q2 q4
            obtain ⟨x, F3, more3, rfl, rfl, hx, hsp, hT, hfix, hcnt, hk, hb⟩ := hrel
            have H3 := hid (And.intro hsp (And.intro hT (And.intro hfix (And.intro hcnt (And.intro hk hb)))))
            by_cases hlt : x < G.prods.length
            · have hlt' : (x : Int) < (G.prods.length : Int) := by omega
              have hx0 : (0 : Int) ≤ (x : Int) := by omega
              have hx257 : (x : Int) ≤ 256 := by have := Hsg.out.p1; omega
              obtain ⟨y, hy⟩ : ∃ y, y = G.prods[x] := ⟨_, rfl⟩
              have hxi : G.prods[x]? = some y := by rw [hy]; exact List.getElem?_eq_getElem hlt
              have hym : y ∈ G.prods := by rw [hy]; exact List.getElem_mem hlt
              have hl0 := Hsg.out.l0 y hym
              have hl1 := Hsg.out.l1 y hym
              have hr16 := Hsg.out.r16 y hym
              have hr0 := Hsg.out.r0 y hym
              have hr1 := Hsg.out.r1 y hym
              rw [← HK.out] at hl1 hr1
              obtain ⟨l, r⟩ := y
              simp only at hl0 hl1 hr16 hr0 hr1
              obtain ⟨a, rfl⟩ := Int.eq_ofNat_of_zero_le hl0
              obtain ⟨gq, off, gr, cr, hgp, hg, hd0, hd1, hri⟩ := Hp.out x _ hxi
              simp only at hd0 hd1 hri
              rw [← HB.out] at hg
              have hc0 := (hb.cell (p := ⟨gq, _, none⟩) hg).trans hd0
              have hc1 := (hb.cell (p := ⟨gq, _, none⟩) hg).trans hd1
              have Hxi := hid hxi
              have Hgp := hid hgp
              have Hri := hid hri
              have haK : a < K := by omega
              have Hrs := hid (And.intro hr16 (And.intro hr0 (And.intro hr1 (And.intro hlt haK))))
              have hne : ∀ a' i', a' < K → i' < n → h a' i' < wr.heap.size := fun a' i' h1 h2 => (hsp.s.c a' i' h1 h2).lt
              have Hne := hid hne
              clear hy hxi hri hl0 hl1 hr16 hr0 hr1 hd0 hd1 hk hfix hT hcnt hsp hym hne hlt haK hx hg
              go_upto_region 20 with (rw [hgp])
              rw [← Hgp.out]
              have hbk := Bk.new wr 97 [.int .i64 (a : Int), .slice gr r.length cr]
              obtain ⟨wx, hwx⟩ : ∃ wx, wx = wr.alloc (.cells #[.int .i64 (a : Int), .slice gr r.length cr] 97) := ⟨_, rfl⟩
              obtain ⟨bx, hbx⟩ : ∃ bx, bx = wr.heap.size := ⟨_, rfl⟩
              have hbe : Below wr.heap.size wr wx := by rw [hwx]; exact bel_al (bel_id wr) _
              rw [← hwx] at hbk
              rw [← hwx]
              rw [← hbx] at hbk
              rw [← hbx]
              have hbxx : Below B w1 wx := hb.trans (hbe.mono (by have := hb.size; have := HB.out; omega))
              have hBx : B ≤ bx := by have := hb.size; have := HB.out; omega
              have Hbx := hid (And.intro hbk (And.intro hbx (And.intro hbe (And.intro hbxx hBx))))
              clear hgp hc0 hc1 hwx hbk hbx hbe hbxx hb hBx
              go_wp2_with fail
              go_loopg [8, 74] n (fun k v8 v74 wr => LX4 w1 B go g h K n G.prods word P x a r bx (.slice gr r.length cr) k v8 v74 wr)
              case atStart => exact ⟨0, F3, more3, rfl, rfl, by omega, H3.out.1.later Hbx.out.2.2.1, H3.out.2.1, (fun h => ⟨H3.out.2.2.1 h, fun i' hi' => by omega⟩), H3.out.2.2.2.1, Hbx.out.1, rfl, Hbx.out.2.2.2.1⟩
              case round =>
                obtain ⟨i, F4, more4, rfl, rfl, hi, hsp, hT, hfix, hcnt, hbk, hk, hb⟩ := hrel
                have H4 := hid (And.intro hsp (And.intro hT (And.intro hfix (And.intro hcnt (And.intro hbk (And.intro hk hb))))))
                by_cases hlti : i < n
                · have hlti' : (i : Int) < (n : Int) := by omega
                  have hi0 : (0 : Int) ≤ (i : Int) := by omega
                  have Hlti := hid hlti
                  have hbB : Below w1.heap.size w1 wr := by rw [← HB.out]; exact hb
                  have hiW : i ≤ word.length := by have := Hn.out; omega
                  have hends := ends_calls wr go g h K F4 G.prods word r gr gw cr cw i (by rw [← Hn.out]; exact hsp.s) hT ((Hri.out.below hbB).mono hbB.size) ((Hw.out.below hbB).mono hbB.size) hiW (by have := Hn.out; omega) (by have := Hrs.out.1; omega) (fun s hs => ⟨Hrs.out.2.2.1 s hs, by have h1 := Hrs.out.2.1 s hs; have h2 := Hsg.out.t1; omega⟩) (by omega)
                  have Hends := hid hends
                  have c1 := hbk.cell 1
                  simp only [List.getElem?_cons_zero, List.getElem?_cons_succ] at c1
                  clear hsp hT hfix hcnt hbk hk hb hlti hbB hiW hends hi
                  obtain ⟨w4, rfl⟩ : ∃ w4 : World, w4 = wr := ⟨_, rfl⟩
                  go_upto_region 23 with fail
                  go_wp2_with (go_at_call 98; refine Hends.out.mono ?_; rintro e w6 ⟨gn6, nw, rfl, hbn, hgn, hnl, hnw, hb6⟩; rw [← Hn.out])
                  have hiW : i ≤ word.length := by have := Hn.out; have := Hlti.out; omega
                  have hsnd : ∀ v, v < n → Dr.gB nw v = true → ∃ f, Fo.Of G.prods word f [(a : Int)] i v := fun v hv hg => by
                    obtain ⟨f, hf⟩ := H4.out.2.1.path hiW (Nat.le_refl _) ((hnw v (by have := Hn.out; omega)).1 hg)
                    rw [List.take_length] at hf
                    exact ⟨.cons (x : Int) f .nil, (a : Int), [], v, rfl, .inr ⟨by omega, x, r, rfl, Hxi.out, hf⟩, rfl, rfl⟩
                  have hg4 : ∀ a' i', a' < K → i' < n → h a' i' < w4.heap.size := fun a' i' h1 h2 => (H4.out.1.s.c a' i' h1 h2).lt
                  have hb6' : Below B w1 w6 := H4.out.2.2.2.2.2.2.trans (hb6.mono (by have h1 := H4.out.2.2.2.2.2.2.size; have h2 := HB.out; omega))
                  have H6 := hid (And.intro hsnd (And.intro hg4 (And.intro hgn (And.intro hnl (And.intro hnw (And.intro hiW (And.intro hbn (And.intro (H4.out.1.later hb6) (And.intro (H4.out.2.2.2.2.1.below hb6 H4.out.2.2.2.2.1.lt) hb6')))))))))
                  clear hiW hsnd hg4 hb6' hbn hgn hnl hnw hb6 c1
                  go_loopg [8, 84] n (fun k v8 v84 wr => LX5 w1 B go g h K n G.prods word P x a r bx (.slice gr r.length cr) i nw gn6 k v8 v84 wr)
                  case atStart => exact ⟨0, F4, more4, rfl, rfl, by omega, H6.out.2.2.2.2.2.2.2.1, H4.out.2.1, (fun h => ⟨(H4.out.2.2.1 h).1, (H4.out.2.2.1 h).2, fun v hv => H6.out.2.2.2.2.1 v (by have := Hn.out; omega), fun v hv => by omega⟩), H4.out.2.2.2.1, H6.out.2.2.2.2.2.2.2.2.1, H6.out.2.2.2.2.2.2.1, rfl, H6.out.2.2.2.2.2.2.2.2.2⟩
                  case round =>
                    obtain ⟨y, F8, more8, rfl, rfl, hy, hsp, hT, hfix, hcnt, hbk, hbn, hk, hb⟩ := hrel
                    have H8 := hid (And.intro hsp (And.intro hT (And.intro hfix (And.intro hcnt (And.intro hbk (And.intro hbn (And.intro hk hb)))))))
                    by_cases hlty : y < n
                    · have hlty' : (y : Int) < (n : Int) := by omega
                      have hy0 : (0 : Int) ≤ (y : Int) := by omega
                      have hnl6 : nw.length = n := by rw [H6.out.2.2.2.1, Hn.out]
                      have cny := hbn.cell y
                      rw [List.getElem?_map, Dr.gB_get (by rw [hnl6]; exact hlty), Option.map_some] at cny
                      have haK := Hrs.out.2.2.2.2
                      obtain ⟨c1, c2, c3⟩ := hsp.s.at haK Hlti.out hlty
                      have f3 := (hsp.s.c a i haK Hlti.out).free y
                      have cb := hbk.cell 0
                      simp only [List.getElem?_cons_zero] at cb
                      have haKi : (a : Int) < (K : Int) := by omega
                      have ha00 : (0 : Int) ≤ (a : Int) := by omega
                      have Hlty := hid hlty
                      clear hsp hT hfix hcnt hbk hbn hk hb hlty hnl6 haK hy
                      cases hgy : Dr.gB nw y with
                      | false =>
                        rw [hgy] at cny
                        have Hgy := hid hgy
                        clear hgy
                        go_wp2_with fail
                        go_roundg (n - (y + 1))
                        case measure => have hk := H8.out.2.2.2.2.2.2.1; have := Hlty.out; omega
                        case rel =>
                          refine ⟨y + 1, F8, more8, by go_num, rfl, Hlty.out, H8.out.1, H8.out.2.1, fun h => ?_, H8.out.2.2.2.1, H8.out.2.2.2.2.1, H8.out.2.2.2.2.2.1, rfl, H8.out.2.2.2.2.2.2.2⟩
                          obtain ⟨h1, h2, h3, h4⟩ := H8.out.2.2.1 h
                          refine ⟨h1, h2, h3, fun v hv hg => ?_⟩
                          rcases Nat.lt_or_ge v y with h5 | h5
                          · exact h4 v h5 hg
                          · obtain rfl : v = y := by omega
                            rw [Hgy.out] at hg
                            cases hg
                      | true =>
                        rw [hgy] at cny
                        have Hgy := hid hgy
                        clear hgy
                        cases htv : Dr.tb F8 a (i * n + y) with
                        | true =>
                          rw [htv] at c3
                          have Htv := hid htv
                          clear htv
                          go_wp2_with fail
                          go_roundg (n - (y + 1))
                          case measure => have hk := H8.out.2.2.2.2.2.2.1; have := Hlty.out; omega
                          case rel =>
                            refine ⟨y + 1, F8, more8, by go_num, rfl, Hlty.out, H8.out.1, H8.out.2.1, fun h => ?_, H8.out.2.2.2.1, H8.out.2.2.2.2.1, H8.out.2.2.2.2.2.1, rfl, H8.out.2.2.2.2.2.2.2⟩
                            obtain ⟨h1, h2, h3, h4⟩ := H8.out.2.2.1 h
                            refine ⟨h1, h2, h3, fun v hv hg => ?_⟩
                            rcases Nat.lt_or_ge v y with h5 | h5
                            · exact h4 v h5 hg
                            · obtain rfl : v = y := by omega
                              exact Htv.out
                        | false =>
                          rw [htv] at c3
                          have Htv := hid htv
                          clear htv
                          go_wp2_with fail
                          go_roundg (n - (y + 1))
                          case measure => have hk := H8.out.2.2.2.2.2.2.1; have := Hlty.out; omega
                          case rel =>
                            have haK := Hrs.out.2.2.2.2
                            have hlF : a < F8.length := by rw [H8.out.2.1.len]; exact haK
                            have hrow : F8[a]? = some F8[a] := List.getElem?_eq_getElem hlF
                            have hrl : F8[a].length = n * n := by rw [H8.out.2.1.rl F8[a] (List.getElem_mem hlF), Hn.out]
                            have hrz : F8[a][i * n + y]? = some false := by
                              have e1 : F8.getD a [] = F8[a] := by simp [List.getD, hrow]
                              have e2 := Htv.out
                              unfold Dr.tb at e2
                              rw [e1] at e2
                              have e3 : i * n + y < F8[a].length := by rw [hrl]; exact Dr.idx_lt Hlti.out Hlty.out
                              rw [List.getElem?_eq_getElem e3]
                              simpa [List.getD, List.getElem?_eq_getElem e3] using e2
                            have hcs := Dr.cntT_set hrow hrz
                            have hsp := H8.out.1.put haK Hlti.out Hlty.out hrow hrl
                            have hput := H8.out.2.1.put hrow H6.out.2.2.2.2.2.1 (show y ≤ word.length by have := Hn.out; have := Hlty.out; omega) (H6.out.1 y Hlty.out Hgy.out)
                            rw [← Hn.out] at hput
                            have h4a := H6.out.2.1 a i haK Hlti.out
                            have h4b := H6.out.2.2.1
                            have h4c := Hne.out a i haK Hlti.out
                            have h4d := Hbx.out.2.1
                            refine ⟨y + 1, _, true, by go_num, rfl, Hlty.out, hsp, hput, (fun h => by cases h), ?_, H8.out.2.2.2.2.1.far (p := ⟨h a i, y, none⟩) (by show bx ≠ h a i; omega) _, H8.out.2.2.2.2.2.1.far (p := ⟨h a i, y, none⟩) (by show gn6 ≠ h a i; omega) _, rfl, H8.out.2.2.2.2.2.2.2.setCell (p := ⟨h a i, y, none⟩) (H8.out.1.e a i haK Hlti.out).2.2 _⟩
                            have hc := H8.out.2.2.2.1
                            simp only [if_true]
                            split at hc <;> omega
                    · have hgey : ¬ (y : Int) < (n : Int) := by omega
                      have hyn : y = n := by omega
                      have Hyn := hid hyn
                      clear hyn hsp hT hfix hcnt hbk hbn hk hb hlty hy
                      go_wp2_with fail
                      go_roundg (n - (i + 1))
                      case measure => have hk := H4.out.2.2.2.2.2.1; have := Hlti.out; omega
                      case rel =>
                        refine ⟨i + 1, F8, more8, by go_num, rfl, Hlti.out, H8.out.1, H8.out.2.1, fun h => ?_, H8.out.2.2.2.1, H8.out.2.2.2.2.1, rfl, H8.out.2.2.2.2.2.2.2⟩
                        obtain ⟨h1, h2, h3, h4⟩ := H8.out.2.2.1 h
                        refine ⟨h1, fun i' hi' => ?_⟩
                        rcases Nat.lt_or_ge i' i with h5 | h5
                        · exact h2 i' h5
                        · obtain rfl : i' = i := by omega
                          intro v hv hp
                          have hvn : v < n := by have := Hn.out; omega
                          have h6 := h4 v (by have := Hyn.out; omega) ((h3 v hvn).2 hp)
                          rw [← Hn.out]
                          exact h6
                · have hgei : ¬ (i : Int) < (n : Int) := by omega
                  have hin : i = n := by omega
                  have Hin := hid hin
                  clear hin hsp hT hfix hcnt hbk hk hb hlti hi
                  go_wp2_with fail
                  go_roundg (G.prods.length - (x + 1))
                  case measure => have hk := H3.out.2.2.2.2.1; have := Hrs.out.2.2.2.1; omega
                  case rel =>
                    refine ⟨x + 1, F4, more4, by go_num, rfl, Hrs.out.2.2.2.1, H4.out.1, H4.out.2.1, fun h => ?_, H4.out.2.2.2.1, rfl, H4.out.2.2.2.2.2.2⟩
                    obtain ⟨h1, h2⟩ := H4.out.2.2.1 h
                    intro q' y hq' hy' i' hi'
                    rcases Nat.lt_or_ge q' x with h5 | h5
                    · exact h1 q' y h5 hy' i' hi'
                    · obtain rfl : q' = x := by omega
                      rw [Hxi.out] at hy'
                      cases hy'
                      rw [Int.toNat_natCast]
                      exact h2 i' (by have := Hin.out; have := Hn.out; omega)
            · have hge : ¬ (x : Int) < (G.prods.length : Int) := by omega
              have hxe : x = G.prods.length := by omega
              have Hxe := hid hxe
              clear hxe hsp hT hfix hcnt hk hb hlt hx
              go_wp2_with fail
              go_roundg (2 * Dr.cntT F3 + (if more3 then 1 else 0))
              case measure =>
                have hk := Hr.out.2.2.2.1
                have hc := H3.out.2.2.2.1
                have hp := HP.out
                simp only [if_true] at hk
                split at hc <;> rename_i hm <;> simp [hm] <;> omega
              case rel => exact ⟨F3, more3, rfl, H3.out.1, H3.out.2.1, fun h => by have := H3.out.2.2.1 h; rw [Hxe.out] at this; exact this, rfl, H3.out.2.2.2.2.2⟩
end Go.Proofs.Ytaehooafdbaomaa
/- Chapter 10 (lang): Derives of a word that has no terminals of the grammar: walk. -/
namespace Go.Proofs.Ytaehooafdbaomaa
open Go.RowKit
attribute [local go_sem ↓] Go.wp_at_zero Go.wp_at_succ
attribute [local go_sem] frozen_alloc_lt

set_option maxHeartbeats 4000000 in
set_option maxRecDepth 100000 in
theorem lderives_bad (w : World) (G : Gr) (gn gt gp : Option Addr) (cn ct cp : Nat) (h : GIn w G gn gt gp) (hs : Pl.soundB G = true) (gw : Option Addr) (cw : Nat) (word : List Int) (hw : RowI w w.heap.size gw word) (hwl : word.length ≤ 64) (hbad : word.any (badW G.terms.length) = true) :
    Calls Try.prog 56 #[gramV G gn gt gp cn ct cp, .slice gw word.length cw] w fun e w' => e = .returned (.bool false) ∧ Below w.heap.size w w' := by
  have hk := Bk.new w 30 [.int .i64 G.start, .int .i64 G.rules, .slice gn G.names.length cn, .slice gt G.terms.length ct, .slice gp G.prods.length cp]
  have hb0 : Below w.heap.size w (w.alloc (.cells #[.int .i64 G.start, .int .i64 G.rules, .slice gn G.names.length cn, .slice gt G.terms.length ct, .slice gp G.prods.length cp] 30)) := (Below.refl _ _).alloc (Nat.le_refl _) _
  have H := hid h
  have Hsb := hid hs
  have Hany := hid hbad
  have hl' : ¬ (64 : Int) < (word.length : Int) := by omega
  have Heg := hid (fun (args : Array Value) (w : World) => show (callFunc 97 args).run Try.prog w = .ok (.enter 97 args) w by kernel_rfl)
  unfold gramV
  clear h hs hbad
  go_enter Try.func56, Try.ntmps56
  go_upto_region 1 with fail
  obtain ⟨wd, hwd⟩ : ∃ wd, wd = (w.alloc (.cells #[.int .i64 G.start, .int .i64 G.rules, .slice gn G.names.length cn, .slice gt G.terms.length ct, .slice gp G.prods.length cp] 30)) := ⟨_, rfl⟩
  obtain ⟨b, hb⟩ : ∃ b, b = w.heap.size := ⟨_, rfl⟩
  have h2 := H.out.later (w' := wd) (by rw [hwd]; exact hb0)
  have hw2 := (hw.below hb0).mono hb0.size
  rw [← hwd] at hk hb0 hw2
  rw [← hwd]
  rw [← hb] at hk
  rw [← hb]
  clear hwd hb hw
  have g0 := hk.cell 0
  have g1 := hk.cell 1
  have g2 := hk.cell 2
  have g3 := hk.cell 3
  have g4 := hk.cell 4
  simp only [List.getElem?_cons_zero, List.getElem?_cons_succ] at g0 g1 g2 g3 g4
  have H2 := hid h2
  clear h2
  go_wp2_with (first
    | (go_at_call 61; refine (sound_calls wd G gn gt gp cn ct cp H2.out.n H2.out.t H2.out.p H2.out.h1 H2.out.h2 H2.out.h3 H2.out.h4).mono ?_; rintro e w1 ⟨rfl, hb1⟩; rw [Hsb.out]; have hw3 := (hw2.below hb1).mono hb1.size; have g3' := (hk.below hb1 hk.lt).cell 3; simp only [List.getElem?_cons_zero, List.getElem?_cons_succ] at g3')
    | (go_at_call 78; refine (containsFunc_calls w1 gw cw word 97 (.pointer (some ⟨b, 0, none⟩)) (badW G.terms.length) hw3 (by omega) Heg.out (fun z _ => badW_calls w1 b G.terms.length gt ct z g3')).mono ?_; rintro e w3 ⟨rfl, rfl⟩; rw [Hany.out]))
  go_ret
  exact ⟨rfl, bel0D hb0 hb1⟩
end Go.Proofs.Ytaehooafdbaomaa
