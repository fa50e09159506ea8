/- Chapter 4 (lex): literal. -/
import Derived.Test.YtjaampgpihicmaaLexWalk6
namespace Go.Proofs.Ytjaampgpihicmaa
open Go.RowKit
attribute [local go_sem ↓] Go.wp_at_zero Go.wp_at_succ
attribute [local go_sem] frozen_alloc_lt

def u8s (l : List UInt8) : List Value := l.map fun c => .int .u8 c.toNat

theorem own_own_ne {w : World} {base base' : Nat} {e e' : TypeId} {size size' n n' : Nat} {v v' : Value} {xs xs' : List Value} (h : w.ownsRow base e size v n xs) (h' : w.ownsRow base' e' size' v' n' xs') (hne : e ≠ e') :
    ∀ k, v.ownBlock = some k → v'.ownBlock ≠ some k := by
  intro k hk
  rcases h.2 with ⟨rfl, _⟩ | ⟨g, cap, cur, rfl, _, hh, _⟩
  · simp [Value.ownBlock] at hk
  · have hg : g = k := by simpa [Value.ownBlock] using hk
    subst hg
    have hb : Bk w g e cur.toList := by unfold Bk; simpa using hh
    exact hb.own_ne h' (Ne.symm hne)

theorem conv_own {w : World} {base n : Nat} {v : Value} {l : List UInt8} (h : w.ownsRow base 5 1 v n (u8s l)) (hn : n = l.length) :
    (convert 54 9 v).run Try.prog w = .ok (.string ⟨l.toArray⟩) w := by
  rcases h.2 with ⟨rfl, h0⟩ | ⟨g, cap, cur, rfl, _, _⟩
  · have : l = [] := List.eq_nil_of_length_eq_zero (by omega)
    subst this
    exact run_convert_bytes_nil w _ _ Try.underlying54 Try.underlying5 0 0 _ Try.underlying9
  · subst hn
    refine run_convert_bytes_back w _ _ _ ⟨g, 0, none⟩ cap l Try.underlying54 Try.underlying5 Try.underlying9 (fun j hj => ?_)
    exact h.cells (g := g) rfl j _ (by simp [u8s, List.getElem?_eq_getElem hj])

theorem u8Info : (Try.prog.info? 5).map (fun i => (i.zero, i.size, i.bytes)) = some (some (.int .u8 0), 1, 1) := by kernel_rfl

/-- Memory while a literal is read: the scanner, the token's variable, the bytes so far, the tokens. -/
structure LitSt (w0 w : World) (base b bt : Nat) (s : ByteArray) (q li cq : Nat) (tv : Value) (f0 f1 f2 : Int) (n : Nat) (xs : List Value) (v6 : Value) (o : List UInt8) (l c : Nat) : Prop where
  sc : Sc w b s q li cq tv f0 f1 f2
  bk : Bk w bt 46 [.int .i64 2, .string ⟨#[]⟩, .int .i64 l, .int .i64 c]
  own6 : w.ownsRow base 5 1 v6 o.length (u8s o)
  ownT : w.ownsRow base 46 4 tv n xs
  bel : Below base w0 w
  hb : base ≤ b
  hz : base ≤ w.heap.size
  ht : tv.ownBlock ≠ some bt

section
variable {w0 w w' : World} {base b bt : Nat} {s : ByteArray} {q li cq : Nat} {tv : Value} {f0 f1 f2 : Int} {n : Nat} {xs : List Value} {v6 : Value} {o : List UInt8} {l c : Nat}
theorem LitSt.moved {q' li' cq' : Nat} {g0 g1 g2 : Int} (h : LitSt w0 w base b bt s q li cq tv f0 f1 f2 n xs v6 o l c) (hg : w.grownBy w' (some b)) (hsc : Sc w' b s q' li' cq' tv g0 g1 g2) : LitSt w0 w' base b bt s q' li' cq' tv g0 g1 g2 n xs v6 o l c := by
  have hb : Bk w b 122 _ := h.sc
  have hne : bt ≠ b := h.bk.ne hb (by decide)
  exact ⟨hsc, h.bk.grown hg (by simpa using hne), own_gb h.own6 hg (fun k hk => by cases hk; exact hb.own_ne h.own6 (by decide)), own_gb h.ownT hg (fun k hk => by cases hk; exact hb.own_ne h.ownT (by decide)),
    h.bel.trans (below_of_gb' hg h.hz (fun k hk => by cases hk; exact h.hb)), h.hb, Nat.le_trans h.hz hg.size, h.ht⟩
theorem LitSt.drewN (h : LitSt w0 w base b bt s q li cq tv f0 f1 f2 n xs v6 o l c) (k : Nat) : LitSt w0 (w.drewN k) base b bt s q li cq tv f0 f1 f2 n xs v6 o l c :=
  ⟨Bk.drewN h.sc k, h.bk.drewN k, own_drewN h.own6 k, own_drewN h.ownT k, below_drewN h.bel k, h.hb, h.hz, h.ht⟩
theorem LitSt.drew (h : LitSt w0 w base b bt s q li cq tv f0 f1 f2 n xs v6 o l c) : LitSt w0 w.drew base b bt s q li cq tv f0 f1 f2 n xs v6 o l c :=
  ⟨Bk.drew h.sc, h.bk.drew, h.own6, h.ownT, h.bel.drew, h.hb, h.hz, h.ht⟩
theorem LitSt.alloc (h : LitSt w0 w base b bt s q li cq tv f0 f1 f2 n xs v6 o l c) (x : Obj) : LitSt w0 (w.alloc x) base b bt s q li cq tv f0 f1 f2 n xs v6 o l c :=
  ⟨Bk.alloc h.sc x, h.bk.alloc x, h.own6.alloc x, h.ownT.alloc x, h.bel.alloc h.hz x, h.hb, Nat.le_trans h.hz (by simp), h.ht⟩
theorem LitSt.pushed {v6' : Value} {o' : List UInt8} (h : LitSt w0 w base b bt s q li cq tv f0 f1 f2 n xs v6 o l c) (hg : w.grownBy w' v6.ownBlock) (hown : w'.ownsRow base 5 1 v6' o'.length (u8s o')) : LitSt w0 w' base b bt s q li cq tv f0 f1 f2 n xs v6' o' l c := by
  have hb : Bk w b 122 _ := h.sc
  exact ⟨Bk.grown hb hg (Ne.symm (hb.own_ne h.own6 (by decide))), h.bk.grown hg (Ne.symm (h.bk.own_ne h.own6 (by decide))), hown, own_gb h.ownT hg (fun k hk => own_own_ne h.own6 h.ownT (by decide) k hk),
    h.bel.trans (below_of_gb' hg h.hz (fun k hk => (h.own6.lt k hk).1)), h.hb, Nat.le_trans h.hz hg.size, h.ht⟩
end

/-- Within a literal: the rest of it gives lr. -/
def LitAt (w0 : World) (base b bt : Nat) (s : ByteArray) (p li : Nat) (tv : Value) (f0 f1 f2 : Int) (n : Nat) (xs : List Value) (l c : Nat) (qu : UInt8) (lr : Lex.LitRes) (k : Nat) (v6 : Value) (w : World) : Prop :=
  ∃ (q cq : Nat) (o : List UInt8), LitSt w0 w base b bt s q li cq tv f0 f1 f2 n xs v6 o l c ∧ q ≤ s.size ∧ p ≤ q ∧ cq ≤ q + 1 ∧ o.length ≤ q ∧ Lex.litS qu .norm (s.data.toList.drop q) o cq = lr ∧ k = s.size - q

def litRes (li co : Nat) (_s : ByteArray) : Lex.LitRes → Lex.TokRes
  | .bad k => .bad ⟨li, k, 2⟩
  | .good out rest k => if out = [] then .bad ⟨li, co, 2⟩ else if 16 < out.length then .bad ⟨li, co, 6⟩ else .good ⟨2, out, li, co⟩ rest li k

theorem esc_at {P : Program} {f : FuncId} {args : Array Value} {w w0 : World} {b : Nat} {s : ByteArray} {p li : Nat} {tv : Value} {f0 f1 f2 : Int} {r r' : Lex.EscRes} (h : r = r')
    (hc : Calls P f args w fun e w' => EscPost w0 b s p li tv f0 f1 f2 e w' r) : Calls P f args w fun e w' => EscPost w0 b s p li tv f0 f1 f2 e w' r' := h ▸ hc

theorem ended2_calls (base b : Nat) (w : World) (s : ByteArray) (p li co : Nat) (tv : Value) (f0 f1 f2 : Int) (n : Nat) (xs : List Value) (h : Sc w b s p li co tv f0 f1 f2) (hp : p ≤ s.size)
    (hli : li ≤ p + 1) (hco : co ≤ p + 1) (hown : w.ownsRow base 46 4 tv n xs) (hbase : base ≤ w.heap.size) (hbb : base ≤ b) (hn : n ≤ 70000)
    (l c : Nat) (out : List UInt8) :
    Calls Try.prog 131 #[.pointer (some ⟨b, 0, none⟩), .agg #[.int .i64 2, .string ⟨#[]⟩, .int .i64 l, .int .i64 c], .string ⟨out.toArray⟩] w fun e w' => TokPost w base b s f0 f1 f2 n xs e w'
      (if out = [] then .bad ⟨l, c, 2⟩ else if 16 < out.length then .bad ⟨l, c, 6⟩ else .good ⟨2, out, l, c⟩ (s.data.toList.drop p) li co) :=
  ended_calls base b w s p li co tv f0 f1 f2 n xs h hp hli hco hown hbase hbb hn 2 l c out

theorem tokPost_trans {w0 w1 w : World} {base b : Nat} {s : ByteArray} {f0 f1 f2 : Int} {n : Nat} {xs : List Value} {e : Ending} {r : Lex.TokRes} (hb : Below base w0 w1) (h : TokPost w1 base b s f0 f1 f2 n xs e w r) : TokPost w0 base b s f0 f1 f2 n xs e w r := by
  cases r with
  | bad f => exact ⟨h.1, h.2.1, hb.trans h.2.2⟩
  | good t rest li co =>
    obtain ⟨he, p, tv, h1, h2, h3, h4, h5, h6, h7⟩ := h
    exact ⟨he, p, tv, h1, h2, h3, h4, h5, h6, hb.trans h7⟩

theorem tokPost_ret {w0 w : World} {base b : Nat} {s : ByteArray} {f0 f1 f2 : Int} {n : Nat} {xs : List Value} {e : Ending} {r : Lex.TokRes} (h : TokPost w0 base b s f0 f1 f2 n xs e w r) : ∃ v, e = .returned (.bool v) := by
  cases r with
  | bad f => exact ⟨_, h.1⟩
  | good t rest li co => exact ⟨_, h.1⟩

set_option maxRecDepth 8000 in
set_option maxHeartbeats 4000000 in
theorem literal_calls (base b : Nat) (w : World) (s : ByteArray) (p li co : Nat) (tv : Value) (f0 f1 f2 : Int) (n : Nat) (xs : List Value) (h : Sc w b s p li co tv f0 f1 f2) (hlt : p < s.size)
    (hs : s.size ≤ 65536) (hli : li ≤ p + 1) (hco : co ≤ p + 1) (hown : w.ownsRow base 46 4 tv n xs) (hbase : base ≤ w.heap.size) (hbb : base ≤ b) (hn : n ≤ 70000)
    (hq10 : s[p] ≠ 10) :
    Calls Try.prog 110 #[.pointer (some ⟨b, 0, none⟩), .int .u8 s[p].toNat] w fun e w' => TokPost w base b s f0 f1 f2 n xs e w'
      (litRes li co s (Lex.litS s[p] .norm (s.data.toList.drop (p + 1)) [] (co + 1))) := by
  generalize hres : Lex.litS s[p] .norm (s.data.toList.drop (p + 1)) [] (co + 1) = lr
  have Hres := hid hres
  have Hno := hid (tobf s[p] 10 (by omega) hq10)
  have Hq0 := hid hq10
  clear hres hq10
  obtain ⟨qu, hqu⟩ : ∃ qu, qu = s[p] := ⟨_, rfl⟩
  have Hq10 : Hid (qu ≠ 10) := by rw [hqu]; exact Hq0.out
  rw [← hqu] at Hres ⊢
  have Hqu := hid hqu
  clear hqu
  have lb := h.lt
  have hnb : ∀ k, tv.ownBlock = some k → k < w.heap.size := fun k hk => (hown.lt k hk).2
  have Hnb := hid hnb
  clear hnb
  have hb0 : (qu.toNat : Int) ≤ 255 := by have := qu.toNat_lt; omega
  go_enter Try.func110, Try.ntmps110
  go_wp2_with (go_at_call 67; refine (here_calls b _ 2 s p li co tv f0 f1 f2 h).mono ?_; rintro e w' ⟨rfl, rfl⟩)
  have st : LitSt w ((w.alloc (.cells #[.int .i64 2, .string ⟨#[]⟩, .int .i64 li, .int .i64 co] 46)).alloc (.cells #[.int .i64 2, .string ⟨#[]⟩, .int .i64 li, .int .i64 co] 46)).drew base b (w.heap.size + 1) s p li co tv f0 f1 f2 n xs (.slice none 0 0) [] li co :=
    ⟨Bk.drew (Bk.alloc (Bk.alloc h _) _), Bk.drew (bk_new (by simp)), World.ownsRow_nil _ _ _ _, (hown.alloc _).alloc _, (((Below.refl _ _).alloc hbase _).alloc (by simp; omega) _).drew, hbb, by simp; omega, fun e => by have := Hnb.out _ e; omega⟩
  obtain ⟨wd, hwd⟩ : ∃ wd, wd = ((w.alloc (.cells #[.int .i64 2, .string ⟨#[]⟩, .int .i64 li, .int .i64 co] 46)).alloc (.cells #[.int .i64 2, .string ⟨#[]⟩, .int .i64 li, .int .i64 co] 46)).drew := ⟨_, rfl⟩
  rw [← hwd] at st ⊢
  obtain ⟨bt, hbt⟩ : ∃ bt, bt = w.heap.size + 1 := ⟨_, rfl⟩
  rw [← hbt] at st ⊢
  clear hwd hbt lb Hnb h hown
  go_wp2_with (go_at_call 108; refine (step_no b _ s p li co tv f0 f1 f2 st.sc hlt hs (by omega) Hno.out).mono ?_; rintro e w1 ⟨rfl, h', hg'⟩)
  have st1 := st.moved hg' h'
  clear st h' hg' Hno
  obtain ⟨i8, hi8, hz0, hz1, hz2⟩ := info_parts u8Info
  go_loopg [6] (s.size - (p + 1)) (fun k v6 wr => LitAt w base b bt s p li tv f0 f1 f2 n xs li co qu lr k v6 wr)
  case atStart => exact ⟨p + 1, co + 1, [], st1, by omega, by omega, by omega, by simp, Hres.out, rfl⟩
  case round =>
    clear st1 Hres
    obtain ⟨q, cq, o, st, hq, hpq, hcq, hol, hlr, hk⟩ := hrel
    have Hlr := hid hlr
    have Hk := hid hk
    clear hlr hk
    by_cases hlq : q < s.size
    · obtain ⟨h0, h1, -⟩ := st.sc.cells
      have hlq' : (q : Int) < (s.size : Int) := by omega
      have hlr := Hlr.out
      rw [str_ext hlq] at hlr
      simp only [Lex.litS] at hlr
      clear Hlr
      by_cases cq1 : s[q] = qu
      · rw [if_pos cq1] at hlr
        have Hlr : Hid (lr = .good o (s.data.toList.drop (q + 1)) (cq + 1)) := hlr.symm
        have hb1 : ((s[q].toNat : Int) == (qu.toNat : Int)) = true := by rw [cq1]; simp
        have Hno := hid (tobf s[q] 10 (by omega) (by rw [cq1]; exact Hq10.out))
        clear hlr cq1
        go_wp2_with (go_at_call 65; refine (more_yes st.sc hlq).mono ?_; rintro e w' ⟨rfl, n1, rfl⟩)
        go_quiet (fail)
        go_wp2_with (first | (go_at_call 108; refine (step_no b _ s q li cq tv f0 f1 f2 (st.drewN _).sc hlq hs (by omega) Hno.out).mono ?_; rintro e w3 ⟨rfl, h', hg'⟩; have st1 := (st.drewN _).moved hg' h'; have t0 := st1.bk.cell 0; have t1 := st1.bk.cell 1; have t2 := st1.bk.cell 2; have t3 := st1.bk.cell 3; have hcv := conv_own st1.own6 rfl) | (go_at_call 131; refine (ended2_calls base b _ s (q + 1) li (cq + 1) tv f0 f1 f2 n xs st1.sc (by omega) (by omega) (by omega) st1.ownT st1.hz hbb hn li co o).mono ?_; rintro e w4 htp; obtain ⟨bv, rfl⟩ := tokPost_ret htp; have Htp := hid htp; clear htp))
        go_ret
        rw [Hlr.out]
        exact tokPost_trans st1.bel Htp.out
      · rw [if_neg cq1] at hlr
        have hb1 : ((s[q].toNat : Int) == (qu.toNat : Int)) = false := by
          rw [beq_eq_false_iff_ne]; intro e; apply cq1; apply UInt8.toNat_inj.1; omega
        by_cases c92 : s[q] = 92
        · rw [if_pos c92, Lex.lit_esc] at hlr
          have hb2 := tob s[q] 92 (by omega) c92
          have Hno := hid (tobf s[q] 10 (by omega) (by rw [c92]; decide))
          have Hc := hid c92
          generalize hesc : Lex.escS (s.data.toList.drop (q + 1)) (cq + 1) = er at hlr
          have Hesc := hid hesc
          cases er with
          | bad k =>
            have Hlr : Hid (lr = .bad k) := hlr.symm
            clear hlr cq1 c92 hesc
            go_wp2_with (go_at_call 65; refine (more_yes st.sc hlq).mono ?_; rintro e w' ⟨rfl, n1, rfl⟩)
            go_quiet (fail)
            go_wp2_with (first | (go_at_call 108; refine (step_no b _ s q li cq tv f0 f1 f2 (st.drewN _).sc hlq hs (by omega) Hno.out).mono ?_; rintro e w3 ⟨rfl, h', hg'⟩; have st1 := (st.drewN _).moved hg' h') | (go_at_call 132; refine (esc_at Hesc.out (escape_calls b _ s (q + 1) li (cq + 1) tv f0 f1 f2 st1.sc (by omega) hs (by omega) (by omega))).mono ?_; rintro e w4 ⟨rfl, q2, hq2, hpq2, hk2, h4, hg4⟩; have st4 := st1.moved hg4 h4) | (go_at_call 67; refine (here_calls b _ 4 s q2 li k tv f0 f1 f2 st4.sc).mono ?_; rintro e w' ⟨rfl, rfl⟩) | (go_at_call 112; refine (fail_calls b _ s q2 li k tv f0 f1 f2 (st4.alloc _).drew.sc 4 li k 2 _).mono ?_; rintro e w2 ⟨rfl, hsc, hg2⟩))
            go_ret
            rw [Hlr.out]
            exact ⟨rfl, ⟨_, _, _, _, hsc⟩, (((st4.alloc _).drew).moved hg2 hsc).bel⟩
          | good x rest k =>
            have Hlr := hid hlr
            clear hlr cq1 c92 hesc
            go_wp2_with (go_at_call 65; refine (more_yes st.sc hlq).mono ?_; rintro e w' ⟨rfl, n1, rfl⟩)
            go_quiet (fail)
            go_wp2_with (first | (go_at_call 108; refine (step_no b _ s q li cq tv f0 f1 f2 (st.drewN _).sc hlq hs (by omega) Hno.out).mono ?_; rintro e w3 ⟨rfl, h', hg'⟩; have st1 := (st.drewN _).moved hg' h') | (go_at_call 132; refine (esc_at Hesc.out (escape_calls b _ s (q + 1) li (cq + 1) tv f0 f1 f2 st1.sc (by omega) hs (by omega) (by omega))).mono ?_; rintro e w4 ⟨rfl, q2, hrest, hq2, hpq2, hk2, h4, hg4⟩; have Hrest := hid hrest; clear hrest; have st4 := st1.moved hg4 h4) | (at_builtin; refine wpList_append_lies _ rfl _ _ _ rfl base 5 i8 _ 1 1 Try.underlying54 hi8 hz0 hz1 hz2 rfl (by omega) _ o.length (u8s o) rfl (st4.alloc _).own6 ⟨w4.heap.size, 0, none⟩ 1 1 [.int .u8 x.toNat] rfl rfl (World.news_of_block (cs := #[.int .u8 x.toNat]) (t := 5) (fr := (0, 0)) (heap_alloc_new _ _)) (by simp [Value.oneCell']) (by omega) (by unfold maxLen; omega) (by omega) (st4.alloc _).hz (w4.heap.size + 1) (by simp) ?_; intro gg cap w2 hown2 hgrow hat hlt2; have st2 := (st4.alloc _).pushed (o' := o ++ [x]) hgrow (by simpa [u8s] using hown2)))
            go_roundg (s.size - q2)
            case measure => have hk := Hk.out; omega
            case rel => exact ⟨q2, k, o ++ [x], st2, hq2, by omega, hk2, by simp; omega, by rw [← Hrest.out]; exact Hlr.out, rfl⟩
        · rw [if_neg c92] at hlr
          have hb2 := tobf s[q] 92 (by omega) c92
          by_cases crg : s[q] < 32 ∨ 126 < s[q]
          · rw [if_pos crg] at hlr
            have Hlr := hid hlr
            clear hlr cq1 c92
            have crg' : (s[q].toNat : Int) < 32 ∨ (126 : Int) < (s[q].toNat : Int) := by
              rcases crg with h | h
              · left; have := UInt8.lt_iff_toNat_lt.1 h; simp at this; omega
              · right; have := UInt8.lt_iff_toNat_lt.1 h; simp at this; omega
            clear crg
            rcases crg' with hr1 | hr1
            all_goals
              go_wp2_with (go_at_call 65; refine (more_yes st.sc hlq).mono ?_; rintro e w' ⟨rfl, n1, rfl⟩)
              go_quiet (fail)
              go_wp2_with (first | (go_at_call 67; refine (here_calls b _ 4 s q li cq tv f0 f1 f2 (st.drewN _).sc).mono ?_; rintro e w' ⟨rfl, rfl⟩) | (go_at_call 112; refine (fail_calls b _ s q li cq tv f0 f1 f2 ((st.drewN _).alloc _).drew.sc 4 li cq 2 _).mono ?_; rintro e w2 ⟨rfl, hsc, hg2⟩))
              go_ret
              rw [← Hlr.out]
              exact ⟨rfl, ⟨_, _, _, _, hsc⟩, ((((st.drewN _).alloc _).drew).moved hg2 hsc).bel⟩
          · rw [if_neg crg] at hlr
            have Hlr := hid hlr
            have hr1 : (32 : Int) ≤ (s[q].toNat : Int) := by
              have : ¬ s[q] < 32 := fun h => crg (.inl h)
              have := mt UInt8.lt_iff_toNat_lt.2 this; simp at this; omega
            have hr2 : (s[q].toNat : Int) ≤ 126 := by
              have : ¬ 126 < s[q] := fun h => crg (.inr h)
              have := mt UInt8.lt_iff_toNat_lt.2 this; simp at this; omega
            have Hno := hid (tobf s[q] 10 (by omega) (by rintro e; rw [e] at hr1; exact absurd hr1 (by decide)))
            clear hlr cq1 c92 crg
            go_wp2_with (go_at_call 65; refine (more_yes st.sc hlq).mono ?_; rintro e w' ⟨rfl, n1, rfl⟩)
            go_quiet (fail)
            go_wp2_with (first | (at_builtin; refine wpList_append_lies _ rfl _ _ _ rfl base 5 i8 _ 1 1 Try.underlying54 hi8 hz0 hz1 hz2 rfl (by omega) _ o.length (u8s o) rfl ((st.drewN _).alloc _).own6 ⟨wr.heap.size, 0, none⟩ 1 1 [.int .u8 s[q].toNat] rfl rfl (World.news_of_block (cs := #[.int .u8 s[q].toNat]) (t := 5) (fr := (0, 0)) (heap_alloc_new _ _)) (by simp [Value.oneCell']) (by omega) (by unfold maxLen; omega) (by omega) ((st.drewN _).alloc _).hz (wr.heap.size + 1) (by simp) ?_; intro gg cap w2 hown2 hgrow hat hlt2; have st2 := ((st.drewN _).alloc _).pushed (o' := o ++ [s[q]]) hgrow (by simpa [u8s] using hown2)) | (go_at_call 108; refine (step_no b _ s q li cq tv f0 f1 f2 st2.sc hlq hs (by omega) Hno.out).mono ?_; rintro e w3 ⟨rfl, h', hg'⟩))
            go_roundg (s.size - (q + 1))
            case measure => have hk := Hk.out; omega
            case rel => exact ⟨q + 1, cq + 1, o ++ [s[q]], st2.moved hg' h', by omega, by omega, by omega, by simp; omega, Hlr.out, rfl⟩
    · have Hlr' : Hid (lr = .bad cq) := by have hlr := Hlr.out; rw [str_end (by omega)] at hlr; exact hlr.symm
      clear Hlr
      go_wp2_with (first | (go_at_call 65; refine (more_no st.sc hlq).mono ?_; rintro e w' ⟨rfl, n1, rfl⟩) | (go_at_call 67; refine (here_calls b _ 4 s q li cq tv f0 f1 f2 (st.drewN _).sc).mono ?_; rintro e w' ⟨rfl, rfl⟩) | (go_at_call 112; refine (fail_calls b _ s q li cq tv f0 f1 f2 ((st.drewN _).alloc _).drew.sc 4 li cq 2 _).mono ?_; rintro e w2 ⟨rfl, hsc, hg2⟩))
      go_ret
      rw [Hlr'.out]
      exact ⟨rfl, ⟨_, _, _, _, hsc⟩, ((((st.drewN _).alloc _).drew).moved hg2 hsc).bel⟩
end Go.Proofs.Ytjaampgpihicmaa
