/- Chapter 9 (facts): close. -/
import Derived.Test.YtaehooafdbaomaaFacts3
namespace Go.Proofs.Ytaehooafdbaomaa
open Go.RowKit
attribute [local go_sem ↓] Go.wp_at_zero Go.wp_at_succ
attribute [local go_sem] frozen_alloc_lt

theorem nil_or_snoc {α : Type} (l : List α) : l = [] ∨ ∃ r x, l = r ++ [x] := by
  rcases List.eq_nil_or_concat l with h | ⟨r, x, h⟩
  · exact .inl h
  · exact .inr ⟨r, x, by rw [h]; simp⟩

theorem take_count' {us : List Int} {j : Nat} {e : Int} (he : us[j]? = some e) : (us.take j).count e + 1 ≤ us.count e := by
  obtain ⟨hj, rfl⟩ := List.getElem?_eq_some_iff.1 he
  exact Facts.take_count hj

theorem own_drop {w : World} {base : Nat} {e : TypeId} {g cap n : Nat} {xs : List Value} {x : Value} (h : w.ownsRow base e 1 (.slice (some ⟨g, 0, none⟩) (n + 1) cap) (n + 1) (xs ++ [x])) :
    w.ownsRow base e 1 (.slice (some ⟨g, 0, none⟩) n cap) n xs := by
  have h1 := h.1
  simp at h1
  rcases h.2 with ⟨h0, _⟩ | ⟨g', cap', cur, hv, hg, hh, hc1, hc2, hsz, htk⟩
  · cases h0
  · injection hv with ha _ hc
    injection ha with ha
    injection ha with ha
    subst ha hc
    refine ⟨by omega, .inr ⟨g, cap, cur, rfl, hg, hh, by omega, hc2, hsz, ?_⟩⟩
    have : cur.toList.take (n * 1) = (cur.toList.take ((n + 1) * 1)).take n := by rw [List.take_take]; congr 1; omega
    rw [this, htk]
    have : xs.length = n := by omega
    subst this
    simp

theorem sound_is (w : World) (B : Nat) (G : Gr) (gn gt gp : Option Addr) (cn ct cp : Nat) (r : Bool) (hr : Pl.soundB G = r) (hn : RowS w B gn G.names) (ht : RowS w B gt G.terms) (hp : RowP w B gp G.prods) (hB : B ≤ w.heap.size)
    (h1 : G.names.length ≤ 9223372036854775807) (h2 : G.terms.length ≤ 9223372036854775807) (h3 : G.prods.length ≤ 9223372036854775807) (h4 : ∀ x ∈ G.prods, x.2.length ≤ 9223372036854775807) :
    Calls Try.prog 61 #[.agg #[.int .i64 G.start, .int .i64 G.rules, .slice gn G.names.length cn, .slice gt G.terms.length ct, .slice gp G.prods.length cp]] w fun e w' =>
      e = .returned (.bool r) ∧ Below w.heap.size w w' := hr ▸ sound_calls w G gn gt gp cn ct cp (hn.mono hB) (ht.mono hB) (hp.mono hB) h1 h2 h3 h4

/-- The memory of close. -/
structure CloseSt (wd w : World) (b bi ba bw bm B n : Nat) (bs : List Bool) (ms work : List Int) (v : Value) : Prop where
  add : AddSt w bi ba bw B n bs work v
  km : Bk w bm 3 (ms.map (Value.int .i64))
  lm : bm < B
  mi : bm ≠ bi
  ma : bm ≠ ba
  mw : bm ≠ bw
  size : B ≤ w.heap.size
  below : Below (b + 1) wd w
  bi' : b + 1 ≤ bi
  ba' : b + 1 ≤ ba
  bw' : b + 1 ≤ bw
  bm' : b + 1 ≤ bm
  bb : b + 1 ≤ B

section
variable {wd w w' : World} {b bi ba bw bm B n : Nat} {bs : List Bool} {ms work : List Int} {v : Value}
theorem CloseSt.alloc (h : CloseSt wd w b bi ba bw bm B n bs ms work v) (o : Obj) : CloseSt wd (w.alloc o) b bi ba bw bm B n bs ms work v := by
  have hk : Kp (fun _ => False) w (w.alloc o) := (Kp.refl _ w).alloc o
  have := h.size
  have := h.bb
  exact ⟨h.add.kp hk (fun h => h) (fun h => h) (fun h => h) (fun _ _ h => h), h.km.kp hk (fun h => h), h.lm, h.mi, h.ma, h.mw, by simp; omega, h.below.alloc (by omega) o, h.bi', h.ba', h.bw', h.bm', h.bb⟩
theorem CloseSt.drewN (h : CloseSt wd w b bi ba bw bm B n bs ms work v) (k : Nat) : CloseSt wd (w.drewN k) b bi ba bw bm B n bs ms work v :=
  ⟨⟨h.add.ki, h.add.ka, h.add.kw, h.add.own, h.add.li, h.add.la, h.add.lw, h.add.ia, h.add.iw, h.add.aw⟩, h.km, h.lm, h.mi, h.ma, h.mw, h.size, below_drewN h.below k, h.bi', h.ba', h.bw', h.bm', h.bb⟩
/-- A counter is set. -/
theorem CloseSt.setM (h : CloseSt wd w b bi ba bw bm B n bs ms work v) (i : Nat) (c : Int) : CloseSt wd (w.setCell ⟨bm, i, none⟩ (.int .i64 c)) b bi ba bw bm B n bs (ms.set i c) work v := by
  have hk : Kp (fun k => k = bm) w (w.setCell ⟨bm, i, none⟩ (.int .i64 c)) := Kp.set (S := fun k => k = bm) (Kp.refl _ w) (.inl rfl) _
  have hlm := h.lm
  refine ⟨h.add.kp hk (Ne.symm h.mi) (Ne.symm h.ma) (Ne.symm h.mw) (fun g hg e => ?_), (h.km.set i _).of (by simp [List.map_set]), h.lm, h.mi, h.ma, h.mw, by simpa [World.setCell] using h.size, h.below.setCell (p := ⟨bm, i, none⟩) h.bm' _, h.bi', h.ba', h.bw', h.bm', h.bb⟩
  have := (h.add.own.lt g hg).1
  omega
/-- The closure was called. -/
theorem CloseSt.added (h : CloseSt wd w b bi ba bw bm B n bs ms work v) {bs' : List Bool} {work' : List Int} {v' : Value} (ha : AddSt w' bi ba bw B n bs' work' v') (hk : Kp (fun k => k = ba ∨ k = bw ∨ v.ownBlock = some k) w w') :
    CloseSt wd w' b bi ba bw bm B n bs' ms work' v' := by
  have hlm := h.lm
  have hs := hk.size
  have h1 := h.ba'
  have h2 := h.bw'
  have h3 := h.bb
  have h4 := h.size
  refine ⟨ha, h.km.kp hk (fun e => ?_), h.lm, h.mi, h.ma, h.mw, by omega, h.below.trans (hk.to_below (by omega) (fun k e => ?_)), h.bi', h.ba', h.bw', h.bm', h.bb⟩
  · rcases e with e | e | e
    · exact h.ma e
    · exact h.mw e
    · have := (h.add.own.lt bm e).1; omega
  · rcases e with e | e | e
    · omega
    · omega
    · have := (h.add.own.lt k e).1; omega

/-- The last of the work list is taken off. -/
theorem CloseSt.pop {g cv : Nat} {wk : List Int} {s : Int} (h : CloseSt wd w b bi ba bw bm B n bs ms (wk ++ [s]) (.slice (some ⟨g, 0, none⟩) (wk.length + 1) cv)) :
    CloseSt wd (w.setCell ⟨bw, 0, none⟩ (.slice (some ⟨g, 0, none⟩) wk.length cv)) b bi ba bw bm B n bs ms wk (.slice (some ⟨g, 0, none⟩) wk.length cv) := by
  have hk : Kp (fun k => k = bw) w (w.setCell ⟨bw, 0, none⟩ (.slice (some ⟨g, 0, none⟩) wk.length cv)) := Kp.set (S := fun k => k = bw) (Kp.refl _ w) (.inl rfl) _
  have ho := h.add.own
  simp only [List.length_append, List.length_cons, List.length_nil, List.map_append, List.map_cons, List.map_nil] at ho
  have ho' := own_drop ho
  have hlw := h.add.lw
  refine ⟨⟨h.add.ki.kp hk h.add.iw, h.add.ka.kp hk h.add.aw, h.add.kw.set 0 _, own_kp ho' hk (fun g' hg e => ?_), h.add.li, h.add.la, h.add.lw, h.add.ia, h.add.iw, h.add.aw⟩, h.km.kp hk h.mw, h.lm, h.mi, h.ma, h.mw, by simpa [World.setCell] using h.size, h.below.setCell (p := ⟨bw, 0, none⟩) h.bw' _, h.bi', h.ba', h.bw', h.bm', h.bb⟩
  have := (ho'.lt g' hg).1
  omega
end

def Close1 (wd : World) (b bi ba bw bm B : Nat) (T : Bool) (n : Nat) (ps : List (Int × List Int)) (k : Nat) (v32 : Value) (w : World) : Prop :=
  ∃ (i : Nat) (bs : List Bool) (ms work : List Int) (v : Value), v32 = .int .i64 i ∧ i ≤ ps.length ∧ CloseSt wd w b bi ba bw bm B n bs ms work v ∧ Facts.Inv0 ps T n bs ms work i ∧ Facts.msr bs work ≤ 2 * n ∧ k = ps.length - i
def Close2 (wd : World) (b bi ba bw bm B : Nat) (T : Bool) (n : Nat) (i : Nat) (r : List Int) (bs : List Bool) (ms work : List Int) (v : Value) (cx : Nat) (cells : List Value) (k : Nat) (v40 : Value) (w : World) : Prop :=
  ∃ (j c : Nat), v40 = .int .i64 j ∧ j ≤ r.length ∧ CloseSt wd w b bi ba bw bm B n bs (ms.set i (c : Int)) work v ∧ c + (r.drop j).countP (Facts.openS T (fun _ => false)) = r.countP (Facts.openS T (fun _ => false)) ∧ c ≤ j ∧ Bk w cx 97 cells ∧ B ≤ cx ∧ (∀ g, v.ownBlock = some g → g ≠ cx) ∧ k = r.length - j

def Close3 (wd : World) (b bi ba bw bm B : Nat) (T : Bool) (n : Nat) (ps : List (Int × List Int)) (D : Nat → Prop) (go : Nat) (k : Nat) (w : World) : Prop :=
  ∃ (bs : List Bool) (ms work : List Int) (gv : Option Addr) (cv : Nat), CloseSt wd w b bi ba bw bm B n bs ms work (.slice gv work.length cv) ∧ Facts.Inv ps T n bs ms work (fun _ => false) [] ∧ Facts.msr bs work ≤ 2 * n ∧
    RowIID w D (some ⟨go, 0, none⟩) (Facts.usesS (List.replicate n []) 0 ps) ∧ (∀ g, (Value.slice gv work.length cv).ownBlock = some g → ¬ D g) ∧ (∀ k, D k → k < w.heap.size) ∧ k = Facts.msr bs work
def Close4 (wd : World) (b bi ba bw bm B : Nat) (T : Bool) (n : Nat) (ps : List (Int × List Int)) (D : Nat → Prop) (go : Nat) (s : Int) (us : List Int) (gu : Option Addr) (M : Nat) (k : Nat) (v88 : Value) (w : World) : Prop :=
  ∃ (j : Nat) (bs : List Bool) (ms work : List Int) (v : Value), v88 = .int .i64 j ∧ j ≤ us.length ∧ CloseSt wd w b bi ba bw bm B n bs ms work v ∧ Facts.Inv ps T n bs ms work (fun y => y == s) (us.take j) ∧ s ∉ work ∧ Facts.inB bs s = true ∧
    Facts.msr bs work + 1 ≤ M ∧ RowIID w D (some ⟨go, 0, none⟩) (Facts.usesS (List.replicate n []) 0 ps) ∧ RowID w D gu us ∧ (∀ g, v.ownBlock = some g → ¬ D g) ∧ (∀ k, D k → k < w.heap.size) ∧ k = us.length - j

def ClosePost (w : World) (G : Gr) (T : Bool) (e : Ending) (w' : World) : Prop :=
  Below w.heap.size w w' ∧ ((Pl.soundB G = false ∧ e = .returned (.slice none 0 0)) ∨ (Pl.soundB G = true ∧ ∃ (ga : Option Addr) (cap : Nat) (bs : List Bool), e = .returned (.slice ga G.names.length cap) ∧ bs.length = G.names.length ∧ RowB w' w'.heap.size ga bs ∧
    ∀ a : Int, 0 ≤ a → (Facts.inB bs a = true ↔ Facts.Gen G.prods T a)))

set_option maxHeartbeats 8000000 in
set_option maxRecDepth 100000 in
theorem close_calls (w : World) (G : Gr) (gn gt gp : Option Addr) (cn ct cp : Nat) (T : Bool) (hn : RowS w w.heap.size gn G.names) (ht : RowS w w.heap.size gt G.terms) (hp : RowP w w.heap.size gp G.prods)
    (h1 : G.names.length ≤ 9223372036854775807) (h2 : G.terms.length ≤ 9223372036854775807) (h3 : G.prods.length ≤ 9223372036854775807) (h4 : ∀ x ∈ G.prods, x.2.length ≤ 9223372036854775807) :
    Calls Try.prog 118 #[.agg #[.int .i64 G.start, .int .i64 G.rules, .slice gn G.names.length cn, .slice gt G.terms.length ct, .slice gp G.prods.length cp], .bool T] w (ClosePost w G T) := by
  obtain ⟨i3, hi3, z0, z1, z2⟩ := info_parts intInfo
  obtain ⟨i4, hi4, y0, y1, y2⟩ := info_parts boolInfo
  cases hs : Pl.soundB G with
  | false =>
    have Hs := hid hs
    have H4 := hid h4
    clear hs h4
    obtain ⟨st, ru, ns, ts, ps⟩ := G
    simp only at *
    have hb0 : Below w.heap.size w (w.alloc (.cells #[.int .i64 st, .int .i64 ru, .slice gn ns.length cn, .slice gt ts.length ct, .slice gp ps.length cp] 30)) := (Below.refl _ _).alloc (Nat.le_refl _) _
    have hn0' := hn.below hb0
    have ht0' := ht.below hb0
    have hp0' := hp.below hb0
    clear hn ht hp
    go_enter Try.func118, Try.ntmps118
    go_wp2_with (go_at_call 61; refine (sound_is _ _ ⟨st, ru, ns, ts, ps⟩ gn gt gp cn ct cp false Hs.out hn0' ht0' hp0' (by simp) h1 h2 h3 H4.out).mono ?_; rintro e w1 ⟨rfl, hb1⟩)
    go_ret
    exact ⟨hb0.trans (hb1.mono hb0.size), .inl ⟨Hs.out, rfl⟩⟩
  | true =>
    have hsg := sndG hs
    have Hsg := hid hsg
    have Hs := hid hs
    have H4 := hid h4
    clear hs h4
    obtain ⟨hn0, hn1, ht1, hp1, -, -, -, -, -, -, -⟩ := hsg
    obtain ⟨st, ru, ns, ts, ps⟩ := G
    simp only at *
    have hb0 : Below w.heap.size w (w.alloc (.cells #[.int .i64 st, .int .i64 ru, .slice gn ns.length cn, .slice gt ts.length ct, .slice gp ps.length cp] 30)) := (Below.refl _ _).alloc (Nat.le_refl _) _
    have hn0' := hn.below hb0
    have ht0' := ht.below hb0
    have hp0' := hp.below hb0
    have hbk : Bk (w.alloc (.cells #[.int .i64 st, .int .i64 ru, .slice gn ns.length cn, .slice gt ts.length ct, .slice gp ps.length cp] 30)) w.heap.size 30 [.int .i64 st, .int .i64 ru, .slice gn ns.length cn, .slice gt ts.length ct, .slice gp ps.length cp] := Bk.new w _ _
    go_enter Try.func118, Try.ntmps118
    go_upto_region 1 with (fail)
    obtain ⟨wd, hwd⟩ : ∃ wd, wd = (w.alloc (.cells #[.int .i64 st, .int .i64 ru, .slice gn ns.length cn, .slice gt ts.length ct, .slice gp ps.length cp] 30)) := ⟨_, rfl⟩
    obtain ⟨b, hbb⟩ : ∃ b, b = w.heap.size := ⟨_, rfl⟩
    have hzd : wd.heap.size = b + 1 := by rw [hwd, hbb]; simp
    rw [← hwd] at hb0 hn0' ht0' hp0' hbk ⊢
    rw [← hbb] at hbk hn0' ht0' hp0' ⊢
    have Hbb := hid hbb
    have Hzd := hid hzd
    clear hwd hbb hzd hp hn ht
    have g0 := hbk.cell 0
    have g1 := hbk.cell 1
    have g2 := hbk.cell 2
    have g3 := hbk.cell 3
    have g4 := hbk.cell 4
    simp only [List.getElem?_cons_zero, List.getElem?_cons_succ] at g0 g1 g2 g3 g4
    go_upto_region 3 with (go_at_call 61; refine (sound_is wd b ⟨st, ru, ns, ts, ps⟩ gn gt gp cn ct cp true Hs.out hn0' ht0' hp0' (by rw [Hzd.out]; omega) h1 h2 h3 H4.out).mono ?_; rintro e w1 ⟨rfl, hb1⟩)
    have hbw1 : Below w.heap.size w w1 := hb0.trans (hb1.mono hb0.size)
    have hB1 : Below (b + 1) wd w1 := hb1.mono (by rw [Hzd.out]; omega)
    have hbk1 := hbk.below hB1 (by omega)
    have hz1 : b + 1 ≤ w1.heap.size := by have := hb1.size; rw [Hzd.out] at this; exact this
    clear hb1 g0 g1 g2 g3 g4 hbw1
    have g2 := hbk1.cell 2
    simp only [List.getElem?_cons_zero, List.getElem?_cons_succ] at g2
    go_upto_region 4 with (at_make; refine wpList_make_bk _ rfl _ _ _ rfl 4 i4 _ Try.underlying133 hi4 y0 y1 rfl _ _ ns.length rfl rfl rfl rfl (by rw [y2]; omega) (by omega) ?_; intro w2 hka hk2)
    have hB2 : Below (b + 1) wd w2 := hB1.trans (hk2.to_below hz1 (fun k hk => hk.elim))
    have hz2 : w1.heap.size < w2.heap.size := hka.lt
    obtain ⟨ba, hbae⟩ : ∃ ba, ba = w1.heap.size := ⟨_, rfl⟩
    rw [← hbae] at hka hz1 hz2 ⊢
    have hka3 : Bk (w2.alloc (.cells #[.slice (some ⟨ba, 0, none⟩) ns.length ns.length] 133)) ba 4 _ := hka.alloc _
    have hki3 := Bk.new w2 133 [.slice (some ⟨ba, 0, none⟩) ns.length ns.length]
    have hB3 : Below (b + 1) wd (w2.alloc (.cells #[.slice (some ⟨ba, 0, none⟩) ns.length ns.length] 133)) := hB2.alloc (by omega) _
    have hz3 : (w2.alloc (.cells #[.slice (some ⟨ba, 0, none⟩) ns.length ns.length] 133)).heap.size = w2.heap.size + 1 := by simp
    obtain ⟨w3, hw3⟩ : ∃ w3, w3 = w2.alloc (.cells #[.slice (some ⟨ba, 0, none⟩) ns.length ns.length] 133) := ⟨_, rfl⟩
    obtain ⟨bi, hbie⟩ : ∃ bi, bi = w2.heap.size := ⟨_, rfl⟩
    have hki3 : Bk w3 bi 133 [.slice (some ⟨ba, 0, none⟩) ns.length ns.length] := by rw [hw3, hbie]; exact hki3
    rw [← hw3] at hka3 hB3 hz3 ⊢
    rw [← hbie] at hz2 hz3 ⊢
    clear hbae hw3 hbie hk2 hka hB2 g2
    have hbk3 := hbk.below hB3 (by omega)
    have g4 := hbk3.cell 4
    simp only [List.getElem?_cons_zero, List.getElem?_cons_succ] at g4
    have Hz3 := hid hz3
    clear hz3
    go_upto_region 5 with (at_make; refine wpList_make_bk _ rfl _ _ _ rfl 3 i3 _ Try.underlying22 hi3 z0 z1 rfl _ _ ps.length rfl rfl rfl rfl (by rw [z2]; omega) (by omega) ?_; intro w4 hkm hk4)
    have hB4 : Below (b + 1) wd w4 := hB3.trans (hk4.to_below (by rw [Hz3.out]; omega) (fun k hk => hk.elim))
    have hka4 := hka3.kp hk4 (fun h => h)
    have hki4 := hki3.kp hk4 (fun h => h)
    have hz4 : w3.heap.size < w4.heap.size := hkm.lt
    obtain ⟨bm, hbme⟩ : ∃ bm, bm = w3.heap.size := ⟨_, rfl⟩
    rw [← hbme] at hkm hz4 Hz3 ⊢
    have hz3 := Hz3.out
    clear hka3 hki3 hk4 hB3 hbk3 hbme g4 Hz3
    have hkw5 := Bk.new w4 22 [.slice none 0 0]
    have hka5 := hka4.alloc (.cells #[.slice none 0 0] 22)
    have hki5 := hki4.alloc (.cells #[.slice none 0 0] 22)
    have hkm5 := hkm.alloc (.cells #[.slice none 0 0] 22)
    have hB5 : Below (b + 1) wd (w4.alloc (.cells #[.slice none 0 0] 22)) := hB4.alloc (by omega) _
    have hst : CloseSt wd (w4.alloc (.cells #[.slice none 0 0] 22)) b bi ba w4.heap.size bm (w4.heap.size + 1) ns.length (List.replicate ns.length false) (List.replicate ps.length 0) [] (.slice none 0 0) := by
      refine ⟨⟨hki5, hka5.of (by simp), hkw5, World.ownsRow_nil _ _ _ _, by omega, by omega, by omega, by omega, by omega, by omega⟩, hkm5.of (by simp), by omega, by omega, by omega, by omega, by simp, hB5, by omega, by omega, by omega, by omega, by omega⟩
    have Hz3 := hid hz3
    clear hz3 hkw5 hka5 hki5 hkm5 hB5 hka4 hki4 hkm hB4
    go_upto_region 7 with fail
    obtain ⟨w5, hw5⟩ : ∃ w5, w5 = w4.alloc (.cells #[.slice none 0 0] 22) := ⟨_, rfl⟩
    obtain ⟨bw, hbwe⟩ : ∃ bw, bw = w4.heap.size := ⟨_, rfl⟩
    rw [← hw5, ← hbwe] at hst
    rw [← hw5, ← hbwe]
    clear hw5 hz1 hz2 hz4 Hz3 hbwe
    have hbk5 := hbk.below hst.below (by omega)
    have g4 := hbk5.cell 4
    simp only [List.getElem?_cons_zero, List.getElem?_cons_succ] at g4
    go_wp2_with fail
    clear g4 hbk5
    go_loopg [32] ps.length (fun k v32 wr => Close1 wd b bi ba bw bm (bw + 1) T ns.length ps k v32 wr)
    case atStart => exact ⟨0, _, _, _, _, rfl, by omega, hst, Facts.Inv0.start ps T ns.length, by simp [Facts.msr], rfl⟩
    case round =>
      clear hst
      obtain ⟨i, bs, ms, work, v, rfl, hi, hst, hinv, hmsr, hk⟩ := hrel
      have Hk := hid hk
      have Hinv := hid hinv
      clear hk hinv
      have hszr := hst.size
      have hbwr := hst.bw'
      by_cases hlt : i < ps.length
      · have hlt' : (i : Int) < (ps.length : Int) := by omega
        obtain ⟨x, hx⟩ : ∃ x, x = ps[i] := ⟨_, rfl⟩
        have hxm : x ∈ ps := by rw [hx]; exact List.getElem_mem hlt
        have hxi : ps[i]? = some x := by rw [hx]; exact List.getElem?_eq_getElem hlt
        have hr16 := Hsg.out.r16 x hxm
        have hl0 := Hsg.out.l0 x hxm
        have hl1 := Hsg.out.l1 x hxm
        have Hs0 := hid (Hsg.out.r0 x hxm)
        obtain ⟨g, off, gr, cr, rfl, hg, hd0, hd1, hrid⟩ := hp0' i _ hxi
        have hc0 := (hst.below.cell (p := ⟨g, off + i * 2, none⟩) (show g < b + 1 by omega)).trans hd0
        have hc1 := (hst.below.cell (p := ⟨g, off + i * 2 + 1, none⟩) (show g < b + 1 by omega)).trans hd1
        obtain ⟨l, r⟩ := x
        simp only at hr16 hl0 hl1 hc0 hc1 hrid
        clear hd0 hd1
        have Hxi := hid hxi
        clear hx hxi hxm
        go_wp2_with fail
        have hst1 := hst.alloc (.cells #[.int .i64 l, .slice gr r.length cr] 97)
        have hxk := Bk.new wr 97 [.int .i64 l, .slice gr r.length cr]
        obtain ⟨wx, hwx⟩ : ∃ wx, wx = wr.alloc (.cells #[.int .i64 l, .slice gr r.length cr] 97) := ⟨_, rfl⟩
        obtain ⟨cx, hcx⟩ : ∃ cx, cx = wr.heap.size := ⟨_, rfl⟩
        have hBx : bw + 1 ≤ cx := by omega
        have hvx : ∀ g, v.ownBlock = some g → g ≠ cx := fun g hg e => by have := (hst.add.own.lt g hg).2; omega
        rw [← hwx, ← hcx] at hxk
        rw [← hwx] at hst1
        rw [← hwx, ← hcx]
        clear hwx hcx hst hc0 hc1 hszr
        go_loopg [40] r.length (fun k v40 wq => Close2 wd b bi ba bw bm (bw + 1) T ns.length i r bs ms work v cx [.int .i64 l, .slice gr r.length cr] k v40 wq)
        case atStart =>
          refine ⟨0, 0, rfl, by omega, ?_, by simp, by omega, hxk, hBx, hvx, rfl⟩
          have h0 := Hinv.out.rest i (Nat.le_refl _)
          have : ms.set i ((0 : Nat) : Int) = ms := by
            refine List.ext_getElem? fun k => ?_
            rw [List.getElem?_set]
            split
            · rename_i e
              subst e
              simp only [List.getD] at h0
              have hlm := Hinv.out.lm
              rw [if_pos (by omega)]
              rw [List.getElem?_eq_getElem (by omega)] at h0 ⊢
              simp at h0
              simp [h0]
            · rfl
          rw [this]; exact hst1
        case round =>
          clear hxk hBx hvx
          obtain ⟨j, c, rfl, hj, hst, hcc, hcj, hxk, hBx, hvx, hkj⟩ := hrel
          have Hkj := hid hkj
          have Hcc := hid hcc
          clear hkj hcc
          have hri := hrid.below (hst.below.mono (by omega))
          by_cases hlj : j < r.length
          · have hlj' : (j : Int) < (r.length : Int) := by omega
            obtain ⟨s, hs⟩ : ∃ s, s = r[j] := ⟨_, rfl⟩
            have hsm : s ∈ r := by rw [hs]; exact List.getElem_mem hlj
            have h0 : -(ts.length : Int) ≤ s := Hs0.out s hsm
            obtain ⟨gr, ofr, rfl, hgr, hcr⟩ := hri.at hlj
            rw [← hs] at hcr
            have hcc := Hcc.out
            rw [List.drop_eq_getElem_cons hlj, ← hs, List.countP_cons] at hcc
            clear hs hsm Hcc
            by_cases hskip : s < 0 ∧ T = true
            · obtain ⟨hneg, rfl⟩ := hskip
              have e : Facts.openS true (fun _ => false) s = false := by simp [Facts.openS, hneg]
              rw [e] at hcc
              have Hcc := hid hcc
              clear hcc e
              go_wp2_with fail
              go_roundg (r.length - (j + 1))
              case measure => have hk := Hkj.out; omega
              case rel => exact ⟨j + 1, c, by go_num, by omega, hst, by have := Hcc.out; simp at this; exact this, by omega, hxk, hBx, hvx, rfl⟩
            · have e : Facts.openS T (fun _ => false) s = true := by
                unfold Facts.openS
                split
                · rename_i hneg
                  cases T
                  · rfl
                  · exact absurd ⟨hneg, rfl⟩ hskip
                · rfl
              rw [e] at hcc
              have Hcc := hid hcc
              have him : i < ms.length := by rw [Hinv.out.lm]; omega
              have hcm := hst.km.cell i
              have hfm := hst.km.free i
              simp only [List.getElem?_map, List.getElem?_set_self him, Option.map_some] at hcm
              have hst2 := hst.setM i ((c : Int) + 1)
              rw [List.set_set] at hst2
              have hxk2 := hxk.far (p := ⟨bm, i, none⟩) (show cx ≠ bm by have := hst.lm; omega) (.int .i64 ((c : Int) + 1))
              clear hcc e
              have hsk : 0 ≤ s ∨ T = false := by
                cases T
                · exact .inr rfl
                · exact .inl (Int.not_lt.1 (fun h => hskip ⟨h, rfl⟩))
              clear hskip
              rcases hsk with hpos | rfl
              · go_wp2_with fail
                go_roundg (r.length - (j + 1))
                case measure => have hk := Hkj.out; omega
                case rel => exact ⟨j + 1, c + 1, by go_num, by omega, hst2, by have := Hcc.out; simp at this; omega, by omega, hxk2, hBx, hvx, rfl⟩
              · by_cases hpos : 0 ≤ s
                · go_wp2_with fail
                  go_roundg (r.length - (j + 1))
                  case measure => have hk := Hkj.out; omega
                  case rel => exact ⟨j + 1, c + 1, by go_num, by omega, hst2, by have := Hcc.out; simp at this; omega, by omega, hxk2, hBx, hvx, rfl⟩
                · go_wp2_with fail
                  go_roundg (r.length - (j + 1))
                  case measure => have hk := Hkj.out; omega
                  case rel => exact ⟨j + 1, c + 1, by go_num, by omega, hst2, by have := Hcc.out; simp at this; omega, by omega, hxk2, hBx, hvx, rfl⟩
          · have hge : ¬ (j : Int) < (r.length : Int) := by omega
            have hcc := Hcc.out
            rw [List.drop_eq_nil_of_le (by omega), List.countP_nil, Nat.add_zero] at hcc
            have him : i < ms.length := by rw [Hinv.out.lm]; omega
            have hcm := hst.km.cell i
            simp only [List.getElem?_map, List.getElem?_set_self him, Option.map_some] at hcm
            have hstep := Hinv.out.step Hxi.out hl0 hl1 c hcc
            have Hcc := hid hcc
            have x0 := hxk.cell 0
            simp only [List.getElem?_cons_zero] at x0
            clear hcc
            by_cases hc0 : c = 0
            · rw [if_pos hc0, if_pos hc0] at hstep
              subst hc0
              have Hstep := hid hstep
              have Hms := hid (Facts.msr_add bs work l (by rw [Hinv.out.lb]; omega))
              clear hstep
              have hwl : work.length ≤ 1000000 := by unfold Facts.msr at hmsr; omega
              go_wp2_with (go_at_call 136; refine (add_calls _ bi ba bw (bw + 1) ns.length bs work v hst.add hst.size l hl0 hl1 Hinv.out.lb hn1 hwl).mono ?_; rintro e w6 ⟨rfl, v', hadd, hka, hva⟩)
              go_roundg (ps.length - (i + 1))
              case measure => have hk := Hk.out; omega
              case rel => exact ⟨i + 1, _, _, _, _, by go_num, by omega, hst.added hadd hka, Hstep.out, by have := Hms.out; omega, rfl⟩
            · rw [if_neg hc0, if_neg hc0] at hstep
              have Hstep := hid hstep
              clear hstep
              have hc1 : ((c : Int) == 0) = false := by simp; omega
              go_wp2_with fail
              go_roundg (ps.length - (i + 1))
              case measure => have hk := Hk.out; omega
              case rel => exact ⟨i + 1, _, _, _, _, by go_num, by omega, hst, Hstep.out, hmsr, rfl⟩
      · have hge : ¬ (i : Int) < (ps.length : Int) := by omega
        have hie : i = ps.length := by omega
        have hinv := Hinv.out
        rw [hie] at hinv
        have Hinv := hid hinv.done
        clear hinv hie
        have hbkr := hbk.below hst.below (by omega)
        have g0 := hbkr.cell 0
        have g1 := hbkr.cell 1
        have g2 := hbkr.cell 2
        have g3 := hbkr.cell 3
        have g4 := hbkr.cell 4
        simp only [List.getElem?_cons_zero, List.getElem?_cons_succ] at g0 g1 g2 g3 g4
        have hpr := hp0'.below (hst.below.mono (by omega))
        go_wp2_with (go_at_call 137; refine (uses_calls wr ⟨st, ru, ns, ts, ps⟩ gn gt gp cn ct cp (RowP.mono hpr (by omega)) Hsg.out).mono ?_; rintro e w6 ⟨go, co, rfl, hof, hb6⟩)
        have hk6 : Kp (fun _ => False) wr w6 := (Kp.refl _ wr).below hb6 (fun k hk _ => hk)
        have hst6 : CloseSt wd w6 b bi ba bw bm (bw + 1) ns.length bs ms work v :=
          ⟨hst.add.kp hk6 (fun h => h) (fun h => h) (fun h => h) (fun _ _ h => h), hst.km.kp hk6 (fun h => h), hst.lm, hst.mi, hst.ma, hst.mw, by have := hk6.size; omega, hst.below.trans (hb6.mono (by omega)), hst.bi', hst.ba', hst.bw', hst.bm', hst.bb⟩
        have hvD : ∀ g, v.ownBlock = some g → ¬ (wr.heap.size ≤ g ∧ g < w6.heap.size) := fun g hg e => by have := (hst.add.own.lt g hg).2; omega
        obtain ⟨D, hD⟩ : ∃ D : Nat → Prop, D = fun k => wr.heap.size ≤ k ∧ k < w6.heap.size := ⟨_, rfl⟩
        have hvD' : ∀ g, v.ownBlock = some g → ¬ D g := by rw [hD]; exact hvD
        have hDl : ∀ k, D k → k < w6.heap.size := by rw [hD]; exact fun k h => h.2
        have hDB : ∀ k, D k → bw + 1 ≤ k := by rw [hD]; exact fun k h => by omega
        rw [← hD] at hof
        have HDB := hid hDB
        clear hD hvD hk6 hb6 hst g0 g1 g2 g3 g4 hbkr hpr hDB
        obtain ⟨gv, cv, hve, -⟩ := own_slice hst6.add.own
        subst hve
        go_loopg [] (Facts.msr bs work) (fun k wq => Close3 wd b bi ba bw bm (bw + 1) T ns.length ps D go k wq)
        case atStart => exact ⟨bs, ms, work, gv, cv, hst6, Hinv.out, hmsr, hof, hvD', hDl, rfl⟩
        case round =>
          clear hst6 hvD' hDl hof hmsr
          obtain ⟨bs, ms, work, gv, cv, hst, hinv, hmsr, hof, hvD, hDl, hk⟩ := hrel
          have Hk := hid hk
          have Hinv := hid hinv
          have HvD := hid hvD
          have HDl := hid hDl
          clear hk hinv hvD hDl
          rcases nil_or_snoc work with rfl | ⟨wk, s, rfl⟩
          · have cw := hst.add.kw.cell 0
            have ci := hst.add.ki.cell 0
            simp only [List.getElem?_cons_zero, List.length_nil] at cw ci
            go_wp2_with fail
            go_ret
            refine ⟨hb0.trans (hst.below.mono (by rw [← Hbb.out]; omega)), .inr ⟨Hs.out, _, _, bs, rfl, Hinv.out.lb, ?_, Hinv.out.least Hsg.out.l0⟩⟩
            exact bk_rowB hst.add.ka
          · have hl : (wk ++ [s]).length = wk.length + 1 := by simp
            rw [hl] at hst HvD
            have hwin := Hinv.out.win s (by simp)
            have hnd := (List.nodup_append.1 Hinv.out.nodup)
            have hsw : s ∉ wk := fun h => hnd.2.2 s h s (by simp) rfl
            obtain ⟨hs0, hs1, hsb⟩ := hwin
            obtain ⟨a, rfl⟩ := Int.eq_ofNat_of_zero_le hs0
            have han : a < ns.length := by omega
            have cw := hst.add.kw.cell 0
            have fw := hst.add.kw.free 0
            simp only [List.getElem?_cons_zero] at cw
            obtain ⟨gv', cv', hve, hcells⟩ := own_slice hst.add.own
            simp only [Value.slice.injEq] at hve
            obtain ⟨rfl, -, rfl⟩ := hve
            obtain ⟨g, rfl, hg1, hg2, hcs⟩ := hcells wk.length (.int .i64 a) (by simp)
            have hcap : wk.length + 1 ≤ cv := by
              rcases hst.add.own.2 with ⟨h0, _⟩ | ⟨g', cap', cur, hv, _, _, h6, _⟩
              · cases h0
              · simp only [Value.slice.injEq] at hv
                obtain ⟨_, _, rfl⟩ := hv
                simpa using h6
            have hcap' : (wk.length : Int) ≤ (cv : Int) := by omega
            have hpop := hst.pop
            have hus : (Facts.usesS (List.replicate ns.length []) 0 ps)[a]? = some (Facts.usesOf a 0 ps) := Facts.uses_all (fun x hx s hs => Hsg.out.r1 x hx s hs) han
            have hul : a < (Facts.usesS (List.replicate ns.length []) 0 ps).length := (List.getElem?_eq_some_iff.1 hus).1
            have hkb : Kp (fun k => k = bw) wr (wr.setCell ⟨bw, 0, none⟩ (.slice (some ⟨g, 0, none⟩) wk.length cv)) := Kp.set (S := fun k => k = bw) (Kp.refl _ wr) (.inl rfl) _
            have hDw : ∀ k, D k → ¬ k = bw := fun k hk e => by have := HDB.out k hk; omega
            have hof1 := hof.kp hkb hDw
            obtain ⟨go', oo, gu, cu, e1, hgo, hcu, hru⟩ := hof1.at hul
            simp only [Option.some.injEq, Addr.mk.injEq] at e1
            obtain ⟨rfl, rfl, -⟩ := e1
            have hue : (Facts.usesS (List.replicate ns.length []) 0 ps)[a] = Facts.usesOf a 0 ps := by
              rw [List.getElem?_eq_getElem hul] at hus
              exact Option.some.inj hus
            rw [hue] at hcu hru
            rw [Nat.zero_add] at hcu
            have hpo := hid Hinv.out.pop
            have hmsr1 : Facts.msr bs wk + 1 ≤ Facts.msr bs (wk ++ [(a : Int)]) := by unfold Facts.msr; simp; omega
            have hgw : ¬ g = bw := by omega
            obtain ⟨us, hus'⟩ : ∃ us, us = Facts.usesOf a 0 ps := ⟨_, rfl⟩
            rw [← hus'] at hcu hru
            have Hus := hid hus'
            have Hhus := hid hus
            have Hsw := hid hsw
            have Hhsb := hid hsb
            have hDl2 : ∀ k, D k → k < (wr.setCell ⟨bw, 0, none⟩ (.slice (some ⟨g, 0, none⟩) wk.length cv)).heap.size := fun k hk => by have := HDl.out k hk; simpa [World.setCell] using this
            have HDl2 := hid hDl2
            have hlw := hst.add.kw.lt
            have hsm : ((wk.length : Int) + 1) ≤ 1000000 := by unfold Facts.msr at hmsr; simp at hmsr; omega
            clear hus hue hus' hnd hsw hsb hl hcells hul hDw hDl2 hst hof
            go_upto_region 23 with fail
            have Hbz := hid (hkb.size)
            obtain ⟨wz, hwz⟩ : ∃ wz, wz = wr.setCell ⟨bw, 0, none⟩ (.slice (some ⟨g, 0, none⟩) wk.length cv) := ⟨_, rfl⟩
            rw [← hwz] at hpop hof1 hcu hru HDl2 ⊢
            clear hwz hcs cw fw hkb hgw
            have hgoz : go < wz.heap.size := HDl2.out go hgo
            have hsa : (a : Int) < (ns.length : Int) := hs1
            have hul2 : us.length ≤ 16 * ps.length := by rw [Hus.out]; exact Facts.usesOf_length a ps 0 Hsg.out.r16
            go_wp2_with fail
            go_loopg [88] us.length (fun k v88 wq => Close4 wd b bi ba bw bm (bw + 1) T ns.length ps D go a us gu (Facts.msr bs (wk ++ [(a : Int)])) k v88 wq)
            case atStart => exact ⟨0, bs, ms, wk, _, rfl, by omega, hpop, by rw [List.take_zero]; exact hpo.out, Hsw.out, Hhsb.out, hmsr1, hof1, hru, HvD.out, HDl2.out, rfl⟩
            case round =>
              clear hpop hof1 hru hcu hgoz HDl2 Hsw Hhsb hmsr1 hpo
              obtain ⟨j, bs, ms, wk, v, rfl, hj, hst, hinv, hsw, hsb, hms, hof, hru, hvD, hDl, hkj⟩ := hrel
              have Hkj := hid hkj
              have Hinv := hid hinv
              have Hsw := hid hsw
              have Hsb := hid hsb
              have HvD := hid hvD
              have HDl := hid hDl
              have Hms := hid hms
              clear hkj hinv hsw hsb hvD hDl hms
              by_cases hlj : j < us.length
              · have hlj' : (j : Int) < (us.length : Int) := by omega
                obtain ⟨gr, ofr, rfl, hgr, hcr⟩ := hru.at hlj
                obtain ⟨i, x, hik, hxi⟩ := Facts.usesOf_mem a ps 0 us[j] (by rw [← Hus.out]; exact List.getElem_mem hlj)
                rw [Nat.zero_add] at hik
                have hxm : x ∈ ps := List.mem_of_getElem? hxi
                have hl0 := Hsg.out.l0 x hxm
                have hl1 : x.1 < (ns.length : Int) := Hsg.out.l1 x hxm
                have hip : i < ps.length := (List.getElem?_eq_some_iff.1 hxi).1
                have hip' : (i : Int) < (ps.length : Int) := by omega
                have hcount := take_count' (us := us) (j := j) (e := (i : Int)) (by rw [List.getElem?_eq_getElem hlj, hik])
                have hcu2 := Facts.usesOf_count a ps 0 i x hxi
                rw [Nat.zero_add, ← Hus.out] at hcu2
                have him : i < ms.length := by rw [Hinv.out.lm]; omega
                obtain ⟨m, hm⟩ : ∃ m, m = ms.getD i 0 := ⟨_, rfl⟩
                obtain ⟨hstep, hc0⟩ := Hinv.out.step Hsw.out Hsb.out (by omega) hxi hl0 hl1 (by omega) (m - 1) (by rw [hm])
                have hmle : m ≤ 16 := by
                  have h1 := Hinv.out.cnt i x hxi
                  have h2 := Hsg.out.r16 x hxm
                  have h3 : x.2.countP (Facts.openS T fun y => Facts.dnS bs wk y && !(y == (a : Int))) ≤ x.2.length := List.countP_le_length
                  omega
                have hcm := hst.km.cell i
                have hfm := hst.km.free i
                have hme : ms[i]? = some m := by rw [hm, List.getElem?_eq_getElem him]; simp [List.getD, List.getElem?_eq_getElem him]
                simp only [List.getElem?_map, hme, Option.map_some] at hcm
                rw [hik] at hcr
                rw [← hik, ← Facts.take_snoc us j hlj] at hstep
                obtain ⟨g2, off2, gr2, cr2, rfl, hg2', hd0, -, -⟩ := hp0' i _ hxi
                have hst2 := hst.setM i (m - 1)
                have hkm : Kp (fun k => k = bm) wr (wr.setCell ⟨bm, i, none⟩ (.int .i64 (m - 1))) := Kp.set (S := fun k => k = bm) (Kp.refl _ wr) (.inl rfl) _
                have hDm : ∀ k, D k → ¬ k = bm := fun k hk e => by have := HDB.out k hk; have := hst.lm; omega
                have hof2 := hof.kp hkm hDm
                have hru2 := hru.kp hkm hDm
                have hDz : ∀ k, D k → k < (wr.setCell ⟨bm, i, none⟩ (.int .i64 (m - 1))).heap.size := fun k hk => by have := HDl.out k hk; simpa [World.setCell] using this
                have HDz := hid hDz
                have Hstep := hid hstep
                have Hxi := hid hxi
                have Hik := hid hik
                have hmcell := hst2.km.cell i
                simp only [List.getElem?_map, List.getElem?_set_self him, Option.map_some] at hmcell
                have hbk2 := hbk.below hst2.below (by omega)
                have c4 := hbk2.cell 4
                simp only [List.getElem?_cons_zero, List.getElem?_cons_succ] at c4
                have cl := (hst2.below.cell (p := ⟨g2, off2 + i * 2, none⟩) (show g2 < b + 1 by omega)).trans hd0
                have hm1 : (1 : Int) ≤ m := by omega
                clear hst hof hru hkm hDm hDz hstep hxi hik hxm hcount hcu2 hme hm hd0 hbk2
                go_upto_region 27 with fail
                obtain ⟨wz, hwz⟩ : ∃ wz, wz = wr.setCell ⟨bm, i, none⟩ (.int .i64 (m - 1)) := ⟨_, rfl⟩
                rw [← hwz] at hst2 hof2 hru2 HDz hmcell c4 cl ⊢
                clear hwz hcm hfm
                by_cases hz : m - 1 = 0
                · rw [if_pos hz, if_pos hz] at Hstep
                  have hm1' : m = 1 := by omega
                  have Hmz := hid (Facts.msr_add bs wk x.1 (by rw [Hinv.out.lb]; omega))
                  have hwl : wk.length ≤ 1000000 := by have := Hms.out; unfold Facts.msr at this hmsr; simp at this hmsr; omega
                  subst hm1'
                  clear hz
                  go_wp2_with (go_at_call 136; refine (add_calls _ bi ba bw (bw + 1) ns.length bs wk v hst2.add hst2.size x.1 hl0 hl1 Hinv.out.lb hn1 hwl).mono ?_; rintro e w8 ⟨rfl, v', hadd, hka, hva⟩)
                  have hnD : ∀ k, D k → ¬ (k = ba ∨ k = bw ∨ v.ownBlock = some k) := fun k hk e => by
                    have h1 := HDB.out k hk
                    have h2 := hst2.add.la
                    rcases e with e | e | e
                    · omega
                    · omega
                    · exact HvD.out k e hk
                  go_roundg (us.length - (j + 1))
                  case measure => have hk := Hkj.out; omega
                  case rel =>
                    exact ⟨j + 1, _, _, _, _, by go_num, by omega, hst2.added hadd hka, Hstep.out, Facts.step_notin Hsw.out Hsb.out _, Facts.inB_mono Hinv.out.lb hl0 hl1 (by omega) Hsb.out, by have h1 := Hmz.out; have h2 := Hms.out; omega, hof2.kp hka hnD, hru2.kp hka hnD,
                      fun g hg => (hva g hg).elim (fun h => HvD.out g h) (fun h hD => by have := HDz.out g hD; omega), fun k hk => Nat.lt_of_lt_of_le (HDz.out k hk) hka.size, rfl⟩
                · rw [if_neg hz, if_neg hz] at Hstep
                  have hz' : ((m - 1 : Int) == 0) = false := by simpa using hz
                  have hm2 : ¬ m = 1 := by omega
                  go_wp2_with fail
                  go_roundg (us.length - (j + 1))
                  case measure => have hk := Hkj.out; omega
                  case rel => exact ⟨j + 1, _, _, _, _, by go_num, by omega, hst2, Hstep.out, Hsw.out, Hsb.out, Hms.out, hof2, hru2, HvD.out, HDz.out, rfl⟩
              · have hge : ¬ (j : Int) < (us.length : Int) := by omega
                have hinv := Hinv.out
                rw [List.take_of_length_le (by omega)] at hinv
                have hend := hinv.end Hsw.out Hsb.out (by omega) (fun i x hx => by rw [Hus.out]; have := Facts.usesOf_count a ps 0 i x hx; rw [Nat.zero_add] at this; exact this)
                have Hend := hid hend
                clear hinv hend
                obtain ⟨gv2, cv2, hve2, -⟩ := own_slice hst.add.own
                subst hve2
                have hkk := Hms.out
                go_wp2_with fail
                go_roundg (Facts.msr bs wk)
                case measure => have hk := Hk.out; omega
                case rel => exact ⟨bs, ms, wk, gv2, cv2, hst, Hend.out, by omega, hof, HvD.out, HDl.out, rfl⟩
end Go.Proofs.Ytaehooafdbaomaa
