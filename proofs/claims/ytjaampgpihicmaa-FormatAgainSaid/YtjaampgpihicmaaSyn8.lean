/- Chapter 5 (syntax): row, given atom. -/
import Derived.Test.YtjaampgpihicmaaSyn7
namespace Go.Proofs.Ytjaampgpihicmaa
open Go.RowKit
attribute [local go_sem ↓] Go.wp_at_zero Go.wp_at_succ
attribute [local go_sem] frozen_alloc_lt
open Syn (Nd Nod)

theorem und_signs : Try.prog.underlying 196 = some (.array 3 9) := by kernel_rfl
theorem run_sgn0 (w : World) : (Instr.index 196 (.agg #[.string ⟨#[63]⟩, .string ⟨#[42]⟩, .string ⟨#[43]⟩]) (.int .i64 0)).run Try.prog w = .ok (.string ⟨#[63]⟩) w := by
  simp [Instr.index, run_underlying und_signs, asIntOf, go_sem]
theorem run_sgn1 (w : World) : (Instr.index 196 (.agg #[.string ⟨#[63]⟩, .string ⟨#[42]⟩, .string ⟨#[43]⟩]) (.int .i64 1)).run Try.prog w = .ok (.string ⟨#[42]⟩) w := by
  simp [Instr.index, run_underlying und_signs, asIntOf, go_sem]
theorem run_sgn2 (w : World) : (Instr.index 196 (.agg #[.string ⟨#[63]⟩, .string ⟨#[42]⟩, .string ⟨#[43]⟩]) (.int .i64 2)).run Try.prog w = .ok (.string ⟨#[43]⟩) w := by
  simp [Instr.index, run_underlying und_signs, asIntOf, go_sem]
attribute [local go_sem] run_sgn0 run_sgn1 run_sgn2
theorem nodeInfo : (Try.prog.info? 49).map (fun i => (i.zero, i.size, i.bytes)) = some (some (.agg #[.int .i64 0, .string ⟨#[]⟩, .slice none 0 0]), 3, 48) := by kernel_rfl
/-- What the calls within answer, of less fuel. -/
def AtomSays (T : List Lex.Tok) (f : Nat) : Prop := ∀ (i o : Nat) (x : Syn.Res (Option Nod)), Syn.atomF T f i o = some x → o ≤ 16 → ∀ (w : World) (B bp : Nat) (gT : Option Addr) (cT : Nat), Par w B bp gT cT T i o →
  Calls Try.prog 142 #[.pointer (some ⟨bp, 0, none⟩)] w (PEnd (isAtom w.heap.size) w B bp gT cT T x)
def RowSays (T : List Lex.Tok) (f : Nat) : Prop := ∀ (i o : Nat) (x : Syn.Res Nod), Syn.rowF T f .nil i o = some x → o ≤ 16 → ∀ (w : World) (B bp : Nat) (gT : Option Addr) (cT : Nat), Par w B bp gT cT T i o →
  Calls Try.prog 128 #[.pointer (some ⟨bp, 0, none⟩)] w (PEnd (isNode w.heap.size) w B bp gT cT T x)
def RowRel (T : List Lex.Tok) (F : Nat) (r : Syn.Res Nod) (w0 : World) (B bp : Nat) (gT : Option Addr) (cT b : Nat) (k : Nat) (v3 : Value) (w : World) : Prop :=
  ∃ (m : Nat) (ls : List Nod) (i o : Nat), k = m ∧ m ≤ F ∧ Syn.rowF T m (Nd.ofList ls) i o = some r ∧ o ≤ 16 ∧ ls.length ≤ i ∧ OwnA NodR 3 w (b + 1) 49 v3 ls ∧ Par w B bp gT cT T i o ∧ w0.grownBy w (some bp) ∧ Bk w b 49 [.int .i64 0, .string ⟨#[]⟩, .slice none 0 0]

/-- The result's three cells are set. -/
theorem kp_set3 (w : World) (b : Nat) (x y z : Value) : Kp (fun k => k = b) w (((w.setCell ⟨b, 0, none⟩ x).setCell ⟨b, 1, none⟩ y).setCell ⟨b, 2, none⟩ z) :=
  (((Kp.refl (fun k => k = b) w).set (p := ⟨b, 0, none⟩) (.inl rfl) x).set (p := ⟨b, 1, none⟩) (.inl rfl) y).set (p := ⟨b, 2, none⟩) (.inl rfl) z
theorem gb_then_kp {w0 w w' : World} {S : Nat → Prop} {row : Option Nat} (hg : w0.grownBy w row) (hk : Kp S w w') (hs : ∀ k, S k → w0.heap.size ≤ k) : w0.grownBy w' row :=
  ⟨hk.os.trans hg.os, hk.tape.trans hg.tape, hk.output.trans hg.output, Nat.le_trans hg.size hk.size, fun i hi hn => (hk.block i (Nat.lt_of_lt_of_le hi hg.size) (fun e => by have := hs i e; omega)).trans (hg.block i hi hn)⟩
/-- An item is ready to be appended. -/
structure RowMid (T : List Lex.Tok) (F : Nat) (r : Syn.Res Nod) (w0 : World) (B bp : Nat) (gT : Option Addr) (cT b : Nat) (m : Nat) (v3 : Value) (ls : List Nod) (nn : Nod) (gk : Option Addr) (ck bn j p : Nat) (w : World) : Prop where
  own : OwnA NodR 3 w (b + 1) 49 v3 ls
  blk : Bk w bn 49 [.int .i64 nn.kind, .string ⟨nn.text.toArray⟩, .slice gk nn.kids.len ck]
  kids : NdAt w (fun q => b + 1 ≤ q ∧ q < w.heap.size ∧ v3.ownBlock ≠ some q) gk nn.kids 0
  par : Par w B bp gT cT T j p
  gb : w0.grownBy w (some bp)
  res : Bk w b 49 [.int .i64 0, .string ⟨#[]⟩, .slice none 0 0]
  row : Syn.rowF T m (Nd.ofList (ls ++ [nn])) j p = some r
  most : p ≤ 16
  len : ls.length + 1 ≤ j
  fuel : m ≤ F
theorem RowMid.app {T : List Lex.Tok} {F : Nat} {r : Syn.Res Nod} {w0 : World} {B bp : Nat} {gT : Option Addr} {cT b m : Nat} {v3 : Value} {ls : List Nod} {nn : Nod} {gk : Option Addr} {ck bn j p : Nat} {w : World} (h : RowMid T F r w0 B bp gT cT b m v3 ls nn gk ck bn j p w) (hb : b = w0.heap.size) (hbb : bp < b) (ty : TypeId) (q : Nat) {H : Nat} (hH : w.heap.size = H) :
    ∃ g2 cap2 w2, (Builtin.append_ #[47, 47] ty #[v3, .slice (some ⟨H, 0, none⟩) 1 1]).run Try.prog ((w.alloc (.cells #[.int .i64 nn.kind, .string ⟨nn.text.toArray⟩, .slice gk nn.kids.len ck] 49)).drewN q) = .ok (.slice (some ⟨g2, 0, none⟩) (ls.length + 1) cap2) w2 ∧
      RowRel T F r w0 B bp gT cT b m (.slice (some ⟨g2, 0, none⟩) (ls.length + 1) cap2) w2 := by
  subst hH
  obtain ⟨i0, hi0, y0, y1, y2⟩ := info_parts nodeInfo
  have hbl := h.res.lt
  have hlen := h.len
  have hjl := h.par.lt
  have hTl := h.par.len
  obtain ⟨g2, cap2, w2, h1, h2, h3, h4, h5⟩ := h.own.app (P := Try.prog) NodR.fit 47 ty i0 _ 48 Try.underlying47 hi0 y0 y1 y2 rfl (by omega) (by omega) (by omega) (by omega) nn _ ⟨gk, ck, rfl, h.kids⟩ q
  have hs : ∀ k, v3.ownBlock = some k → b + 1 ≤ k := fun k hk => (h.own.lt k hk).1
  refine ⟨g2, cap2, w2, h1, m, ls ++ [nn], j, p, rfl, h.fuel, h.row, h.most, by simpa using h.len, by simpa using h2, h.par.kp h3 (fun k hk => by have := hs k hk; omega), gb_then_kp h.gb h3 (fun k hk => by have := hs k hk; omega), h.res.kp h3 (fun e => by have := hs b e; omega)⟩
theorem below_kp {w w' : World} (hb : Below w.heap.size w w') : Kp (fun _ => False) w w' := ⟨hb.os, hb.tape, hb.output, hb.size, fun k hk _ => hb.block k hk⟩
/-- What is known ahead of the signs. -/
structure RowPre (w0 wp : World) (B bp : Nat) (gT : Option Addr) (cT : Nat) (T : List Lex.Tok) (b : Nat) (v3 : Value) (ls : List Nod) (n : Nod) (gk : Option Addr) (ck bn j p : Nat) (w : World) : Prop where
  own : OwnA NodR 3 wp (b + 1) 49 v3 ls
  kp : Kp (fun _ => False) wp w
  size : wp.heap.size = bn
  blk : Bk w bn 49 [.int .i64 n.kind, .string ⟨n.text.toArray⟩, .slice gk n.kids.len ck]
  kids : NdAt w (fun q => b + 1 ≤ q ∧ q < w.heap.size ∧ q ≠ bn ∧ v3.ownBlock ≠ some q) gk n.kids 0
  par : Par w B bp gT cT T j p
  gb : w0.grownBy w (some bp)
  res : Bk w b 49 [.int .i64 0, .string ⟨#[]⟩, .slice none 0 0]
  bn : b < bn ∧ v3.ownBlock ≠ some bn
  bp : bp < b ∧ b = w0.heap.size
section
variable {T : List Lex.Tok} {F : Nat} {r : Syn.Res Nod} {w0 : World} {B bp : Nat} {gT : Option Addr} {cT b m : Nat} {v3 : Value} {ls : List Nod} {n : Nod} {gk : Option Addr} {ck bn j p : Nat} {wp w : World}
theorem RowPre.plain (h : RowPre w0 wp B bp gT cT T b v3 ls n gk ck bn j p w) {w2 : World} (hb : Below w.heap.size w w2) (row : Syn.rowF T m (Nd.ofList (ls ++ [n])) j p = some r) (most : p ≤ 16) (len : ls.length + 1 ≤ j) (fuel : m ≤ F) : RowMid T F r w0 B bp gT cT b m v3 ls n gk ck bn j p w2 := by
  have hk := below_kp hb
  refine ⟨h.own.kp NodR.fit (h.kp.trans hk) (fun _ _ _ e => e), h.blk.below hb h.blk.lt, ?_, h.par.below hb, gb_trans h.gb (gb_of_below hb _), h.res.below hb h.res.lt, row, most, len, fuel⟩
  exact (h.kids.kp hk (fun _ _ e => e)).mono fun k hk' => ⟨hk'.1, Nat.lt_of_lt_of_le hk'.2.1 hb.size, hk'.2.2.2⟩
theorem RowPre.sign (h : RowPre w0 wp B bp gT cT T b v3 ls n gk ck bn j p w) {w2 : World} (hb : Below w.heap.size w w2) (c : Nat) (hj : j + 1 < T.length) (row : Syn.rowF T m (Nd.ofList (ls ++ [⟨c, [], n.row⟩])) (j + 1) p = some r) (most : p ≤ 16) (len : ls.length + 1 ≤ j) (fuel : m ≤ F) :
    RowMid T F r w0 B bp gT cT b m v3 ls ⟨c, [], n.row⟩ (some ⟨w2.heap.size, 0, none⟩) 1 bn (j + 1) p (((((w2.setCell ⟨bp, 1, none⟩ (.int .i64 ((j : Int) + 1))).setCell ⟨bn, 0, none⟩ (.int .i64 c)).setCell ⟨bn, 1, none⟩ (.string ⟨#[]⟩)).setCell ⟨bn, 2, none⟩ (.slice (some ⟨w2.heap.size, 0, none⟩) 1 1)).alloc (.cells #[.int .i64 n.kind, .string ⟨n.text.toArray⟩, .slice gk n.kids.len ck] 49)) := by
  obtain ⟨hbp, hbw⟩ := h.bp
  obtain ⟨hbn, hob⟩ := h.bn
  have hbl := h.blk.lt
  have hk := below_kp hb
  have hp2 := (h.par.below hb).at (j + 1) hj
  rw [Int.natCast_add, Int.natCast_one] at hp2
  have hkp : Kp (fun k => k = bp ∨ k = bn) w (((((w2.setCell ⟨bp, 1, none⟩ (.int .i64 ((j : Int) + 1))).setCell ⟨bn, 0, none⟩ (.int .i64 c)).setCell ⟨bn, 1, none⟩ (.string ⟨#[]⟩)).setCell ⟨bn, 2, none⟩ (.slice (some ⟨w2.heap.size, 0, none⟩) 1 1)).alloc (.cells #[.int .i64 n.kind, .string ⟨n.text.toArray⟩, .slice gk n.kids.len ck] 49)) := by
    refine Kp.alloc ?_ _
    refine Kp.set ?_ (.inl (.inr rfl)) _
    refine Kp.set ?_ (.inl (.inr rfl)) _
    refine Kp.set ?_ (.inl (.inr rfl)) _
    refine Kp.set ?_ (.inl (.inl rfl)) _
    exact hk.mono (fun _ _ e => e.elim)
  have hkp2 : Kp (fun k => k = bn) (w2.setCell ⟨bp, 1, none⟩ (.int .i64 ((j : Int) + 1))) (((((w2.setCell ⟨bp, 1, none⟩ (.int .i64 ((j : Int) + 1))).setCell ⟨bn, 0, none⟩ (.int .i64 c)).setCell ⟨bn, 1, none⟩ (.string ⟨#[]⟩)).setCell ⟨bn, 2, none⟩ (.slice (some ⟨w2.heap.size, 0, none⟩) 1 1)).alloc (.cells #[.int .i64 n.kind, .string ⟨n.text.toArray⟩, .slice gk n.kids.len ck] 49)) := by
    exact (kp_set3 _ bn _ _ _).alloc _
  have hblk := ((((h.blk.below hb hbl).far (p := ⟨bp, 1, none⟩) (show bn ≠ bp by omega) (.int .i64 ((j : Int) + 1))).set 0 (.int .i64 c)).set 1 (.string ⟨#[]⟩)).set 2 (.slice (some ⟨w2.heap.size, 0, none⟩) 1 1)
  have hsz := hb.size
  have hkp3 := (h.kp.mono (S' := fun k => k = bp ∨ k = bn) (fun _ _ e => e.elim)).trans hkp
  refine ⟨h.own.kp NodR.fit hkp3 (fun k hk1 hk2 e => by have := h.size; omega), hblk.alloc _, ?_, hp2.kp hkp2 (fun k e => by omega), ?_, h.res.kp hkp (fun e => by omega), row, most, by omega, fuel⟩
  · have hnw := Bk.new (((((w2.setCell ⟨bp, 1, none⟩ (.int .i64 ((j : Int) + 1))).setCell ⟨bn, 0, none⟩ (.int .i64 c)).setCell ⟨bn, 1, none⟩ (.string ⟨#[]⟩)).setCell ⟨bn, 2, none⟩ (.slice (some ⟨w2.heap.size, 0, none⟩) 1 1))) 49 [.int .i64 n.kind, .string ⟨n.text.toArray⟩, .slice gk n.kids.len ck]
    have hs : (((((w2.setCell ⟨bp, 1, none⟩ (.int .i64 ((j : Int) + 1))).setCell ⟨bn, 0, none⟩ (.int .i64 c)).setCell ⟨bn, 1, none⟩ (.string ⟨#[]⟩)).setCell ⟨bn, 2, none⟩ (.slice (some ⟨w2.heap.size, 0, none⟩) 1 1))).heap.size = w2.heap.size := by simp [World.setCell]
    rw [hs] at hnw
    refine NdAt.one (ck := ck) hnw ⟨by omega, by simp [World.setCell], fun e => ?_⟩ ?_
    · have := (h.own.lt _ e).2
      have := h.size
      omega
    · exact (h.kids.kp hkp (fun k hk e => by omega)).mono fun k hk => ⟨hk.1, Nat.lt_of_lt_of_le hk.2.1 hkp.size, hk.2.2.2⟩
  · refine gb_alloc ?_ _
    refine gb_set ?_ (.inr (by show _ ≤ bn; omega)) _
    refine gb_set ?_ (.inr (by show _ ≤ bn; omega)) _
    refine gb_set ?_ (.inr (by show _ ≤ bn; omega)) _
    refine gb_set ?_ (.inl rfl) _
    exact gb_trans h.gb (gb_of_below hb _)
end
def sgn (q : Nat) : List UInt8 := if q = 0 then [63] else if q = 1 then [42] else [43]
def SgRel (T : List Lex.Tok) (j : Nat) (w0 : World) (k : Nat) (v16 : Value) (w : World) : Prop := ∃ q, k = 3 - q ∧ q ≤ 3 ∧ v16 = .int .i64 q ∧ (∀ s, s < q → Syn.isS T j (sgn s) = false) ∧ (Syn.far T j = true → q = 0) ∧ Below w0.heap.size w0 w
/-- A node is handed back in the result's cells. -/
theorem node_back {T : List Lex.Tok} {w w1 : World} {B bp b : Nat} {gT : Option Addr} {cT : Nat} {i o : Nat} {n : Nod} {gk : Option Addr} {ck : Nat} (hb : b = w.heap.size) (hbb : bp < b) (hg : w.grownBy w1 (some bp)) (hq : Par w1 B bp gT cT T i o) (hn : NdAt w1 (From (b + 1) w1) gk n.kids 0) (ob : Obj) :
    PEnd (isNode w.heap.size) w B bp gT cT T (.ok n i o) (.returned (nodeV n gk ck)) ((((w1.setCell ⟨b, 0, none⟩ (.int .i64 n.kind)).setCell ⟨b, 1, none⟩ (.string ⟨n.text.toArray⟩)).setCell ⟨b, 2, none⟩ (.slice gk n.kids.len ck)).alloc ob) := by
  have hkp := (kp_set3 w1 b (.int .i64 n.kind) (.string ⟨n.text.toArray⟩) (.slice gk n.kids.len ck)).alloc ob
  have hn2 := (hn.kp hkp (fun k hk e => by have := hk.1; omega)).mono (D' := From w.heap.size _) fun k hk => ⟨by have := hk.1; omega, Nat.lt_of_lt_of_le hk.2 hkp.size⟩
  refine PEnd.isOk rfl ?_ ⟨gk, ck, rfl, hn2⟩ (hq.kp hkp (fun k e => by omega))
  subst hb
  refine gb_alloc ?_ _
  refine gb_set ?_ (.inr (Nat.le_refl _)) _
  refine gb_set ?_ (.inr (Nat.le_refl _)) _
  refine gb_set ?_ (.inr (Nat.le_refl _)) _
  exact hg
set_option maxRecDepth 8000 in
set_option maxHeartbeats 8000000 in
theorem row_calls {T : List Lex.Tok} {F : Nat} (ha : ∀ f, f < F → AtomSays T f) : RowSays T F := by
  intro i o r hr ho w B bp gT cT h
  have hlt := h.k.lt
  obtain ⟨i0, hi0, y0, y1, y2⟩ := info_parts nodeInfo
  have hb0 : Below w.heap.size w (w.alloc (.cells #[.int .i64 0, .string ⟨#[]⟩, .slice none 0 0] 49)) := (Below.refl _ _).alloc (Nat.le_refl _) _
  have h0 := h.below hb0
  have rb0 := Bk.new w 49 [.int .i64 0, .string ⟨#[]⟩, .slice none 0 0]
  have Hr := hid hr
  have Ho := hid ho
  have Ha := hid ha
  have H0 := hid h0
  have Hb0 := hid hb0
  have Rb0 := hid rb0
  clear hr ho ha h h0 hb0 rb0
  go_enter Try.func128, Try.ntmps128
  go_wp2_with fail
  obtain ⟨b, hb⟩ : ∃ b, b = w.heap.size := ⟨_, rfl⟩
  obtain ⟨wa, hwa⟩ : ∃ wa, wa = w.alloc (.cells #[.int .i64 0, .string ⟨#[]⟩, .slice none 0 0] 49) := ⟨_, rfl⟩
  rw [← hwa] at H0 Hb0 Rb0 ⊢
  rw [← hb] at Rb0 ⊢
  have HB := hid hb
  have hbb : bp < b := by omega
  clear hb hwa hlt
  go_loopg [3] F (fun k v3 wr => RowRel T F r w B bp gT cT b k v3 wr)
  case atStart => exact ⟨F, [], i, o, rfl, Nat.le_refl _, Hr.out, Ho.out, Nat.zero_le _, OwnA.nil _ _ _ _ _, H0.out, below_gb Hb0.out _, Rb0.out⟩
  case round =>
    obtain ⟨m, ls, i1, o1, hkm, hk, hr1, ho1, hl1, hown, hp1, hg1, hrb1⟩ := hrel
    obtain ⟨f, rfl⟩ : ∃ f, m = f + 1 := by
      cases m with
      | zero => simp [Syn.rowF] at hr1
      | succ f => exact ⟨f, rfl⟩
    rw [Syn.rowF] at hr1
    obtain ⟨ga, ca, hv⟩ := hown.slice
    cases hx : Syn.atomF T f i1 o1 with
    | none => rw [hx] at hr1; simp at hr1
    | some x =>
      rw [hx] at hr1
      have hat := Ha.out f (by omega) i1 o1 x hx ho1 wr B bp gT cT hp1
      cases x with
      | bad fl =>
        simp only [Option.bind_some, Syn.Res.bind, Option.some.injEq] at hr1
        subst hr1
        have Hat := hid hat
        have Hg1 := hid hg1
        clear hat hg1 hx hp1 hown hrb1 hl1 ho1
        go_wp2_with (go_at_call 142; refine Hat.out.mono ?_; rintro e w1 hP; obtain ⟨rfl, hg⟩ := PEnd.whenBad hP rfl; clear hP)
        exact ⟨rfl, PEnd.isBad rfl (gb_trans Hg1.out hg)⟩
      | ok a j p =>
        have hp2 := (Syn.same_o T f).2.2.2.1 _ _ _ _ _ hx
        subst hp2
        cases a with
        | none =>
          simp only [Option.bind_some, Syn.Res.bind, Option.some.injEq] at hr1
          subst hr1
          have Hat := hid hat
          have Hg1 := hid hg1
          have Hown := hid hown
          have Hrb1 := hid hrb1
          have Hx := hid hx
          have Hkm := hid hkm
          clear hat hg1 hx hp1 hown hrb1 hl1 ho1 hkm hv
          by_cases hone : ls.length = 1
          · obtain ⟨n, rfl⟩ : ∃ n, ls = [n] := by
              match ls, hone with
              | [n], _ => exact ⟨n, rfl⟩
            clear hone
            obtain ⟨g, cap, x, hv, hg1, hg2, ⟨gk, ck, rfl, hn⟩, hc⟩ := Hown.out.at NodR.fit (i := 0) (a := n) rfl
            have hv0 := hv
            simp only [List.length_singleton] at hv0
            subst hv0
            have Hn := hid hn
            have Hc := hid hc
            clear hn hc hv
            go_wp2_with (go_at_call 142; refine Hat.out.mono ?_; rintro e w1 hP; obtain ⟨⟨v, rfl, rfl⟩, hq, hg⟩ := PEnd.whenOk hP rfl; clear hP; (have rb2 := Hrb1.out.grown hg (by intro e; injection e with e; omega)); (have hl2 : b < w1.heap.size := rb2.lt); (have r0 := rb2.cell 0); (have r1 := rb2.cell 1); (have r2 := rb2.cell 2); (have f0 := rb2.free 0); (have f1 := rb2.free 1); (have f2 := rb2.free 2); simp only [List.getElem?_cons_zero, List.getElem?_cons_succ] at r0 r1 r2; have hgl : g < w1.heap.size := Nat.lt_of_lt_of_le hg2 hg.size; have hgb : ¬ g = b := (by omega); have hk := gb_kp hg; have c0 := hk.cell (Hc.out 0 _ rfl) (by omega); have c1 := hk.cell (Hc.out 1 _ rfl) (by omega); have c2 := hk.cell (Hc.out 2 _ rfl) (by omega); simp only [Nat.zero_mul, Nat.zero_add] at c0 c1 c2)
            have hne : ¬ b = bp := by omega
            refine bodyPost_ret (v := nodeV n gk ck) (by simp [results, Try.results128, go_sem, nodeV, r0, r1, r2, hl2]) rfl ?_
            rw [Syn.pack_one]
            exact node_back (n := n) (ck := ck) HB.out hbb (gb_trans Hg1.out hg) hq ((Hn.out.kp hk (fun k hk e => by have := hk.1; omega)).mono fun k hk' => ⟨hk'.1, Nat.lt_of_lt_of_le hk'.2.1 hk.size⟩) (.cells #[.int .i64 0, .string ⟨#[]⟩, .slice none 0 0] 49)
          · have hone' : ¬ (ls.length : Int) = 1 := by omega
            obtain ⟨ga, ca, rfl⟩ := Hown.out.slice
            obtain ⟨L, hL⟩ : ∃ L, L = ls.length := ⟨_, rfl⟩
            rw [← hL] at hone'
            have HL := hid hL
            have Hone := hid hone
            clear hone hL
            rw [← HL.out]
            go_wp2_with (go_at_call 142; refine Hat.out.mono ?_; rintro e w1 hP; obtain ⟨⟨v, rfl, rfl⟩, hq, hg⟩ := PEnd.whenOk hP rfl; clear hP; (have rb2 := Hrb1.out.grown hg (by intro e; injection e with e; omega)); (have hl2 : b < w1.heap.size := rb2.lt); (have r0 := rb2.cell 0); (have r1 := rb2.cell 1); (have r2 := rb2.cell 2); (have f0 := rb2.free 0); (have f1 := rb2.free 1); (have f2 := rb2.free 2); simp only [List.getElem?_cons_zero, List.getElem?_cons_succ] at r0 r1 r2)
            have hne : ¬ b = bp := by omega
            refine bodyPost_ret (v := nodeV ⟨3, [], Nd.ofList ls⟩ ga ca) (by simp [results, Try.results128, go_sem, nodeV, r0, r1, r2, hl2, Nd.ofList_len, HL.out]) rfl ?_
            rw [Syn.pack_more 3 Hone.out]
            obtain ⟨ga2, ca2, e2, hn⟩ := own_nodes (Hown.out.gb NodR.fit hg (by omega))
            injection e2 with e3 e4 e5
            subst e3
            have hfin := node_back (n := ⟨3, [], Nd.ofList ls⟩) (ck := ca) HB.out hbb (gb_trans Hg1.out hg) hq hn (.cells #[.int .i64 0, .string ⟨#[]⟩, .slice none 0 0] 49)
            rw [Nd.ofList_len, ← HL.out] at hfin
            exact hfin
        | some n =>
          have hmv := Syn.atom_moves hx
          have Hat := hid hat
          have Hg1 := hid hg1
          have Hown := hid hown
          have Hrb1 := hid hrb1
          have Hkm := hid hkm
          have hrow : ∀ n' j', Syn.sufS T n j p = .ok n' j' p → Syn.rowF T f (Nd.ofList (ls ++ [n'])) j' p = some r := fun n' j' e => by
            simp only [Option.bind_some, Syn.Res.bind, e] at hr1
            rw [Nd.ofList_snoc]
            exact hr1
          have hbad : ∀ fl, Syn.sufS T n j p = .bad fl → r = .bad fl := fun fl e => by
            simp only [Option.bind_some, Syn.Res.bind, e, Option.some.injEq] at hr1
            exact hr1.symm
          have Hrow := hid hrow
          have Hbad := hid hbad
          have Hmv := hid hmv
          have Hl1 := hid hl1
          have Ho1 := hid ho1
          clear hat hg1 hx hp1 hown hrb1 hkm hr1 hmv hl1 ho1 hrow hbad
          subst hv
          go_wp2_with (go_at_call 142; refine Hat.out.mono ?_; rintro e w1 hP; obtain ⟨⟨v, rfl, u, rfl, kg, kc, rfl, hn⟩, hq, hg⟩ := PEnd.whenOk hP rfl; clear hP; simp only [nodeV])
          have hown1 := Hown.out.gb NodR.fit hg (by omega)
          have hrb2 := (Hrb1.out.grown hg (by intro e; injection e with e; omega)).alloc (.cells #[.int .i64 n.kind, .string ⟨n.text.toArray⟩, .slice kg n.kids.len kc] 49)
          have hbn := Bk.new w1 49 [.int .i64 n.kind, .string ⟨n.text.toArray⟩, .slice kg n.kids.len kc]
          have hal : Below w1.heap.size w1 (w1.alloc (.cells #[.int .i64 n.kind, .string ⟨n.text.toArray⟩, .slice kg n.kids.len kc] 49)) := (Below.refl _ _).alloc (Nat.le_refl _) _
          have hq1 := hq.below hal
          have hg2 := gb_alloc (gb_trans Hg1.out hg) (.cells #[.int .i64 n.kind, .string ⟨n.text.toArray⟩, .slice kg n.kids.len kc] 49)
          have hwrl := Hrb1.out.lt
          have hwr1 := hg.size
          have hkd : ∀ k, From wr.heap.size w1 k → b + 1 ≤ k ∧ k < (w1.alloc (.cells #[.int .i64 n.kind, .string ⟨n.text.toArray⟩, .slice kg n.kids.len kc] 49)).heap.size ∧ k ≠ w1.heap.size ∧ (Value.slice ga ls.length ca).ownBlock ≠ some k := fun k hk => ⟨by have := hk.1; omega, by have := hk.2; simp; omega, by have := hk.2; omega, fun e => by have := (Hown.out.lt k e).2; have := hk.1; omega⟩
          have hkp0 := (Kp.refl (fun _ => False) w1).alloc (.cells #[.int .i64 n.kind, .string ⟨n.text.toArray⟩, .slice kg n.kids.len kc] 49)
          have hkids := (hn.kp hkp0 (fun _ _ e => e)).mono hkd
          have hpre : RowPre w w1 B bp gT cT T b (.slice ga ls.length ca) ls n kg kc w1.heap.size j p (w1.alloc (.cells #[.int .i64 n.kind, .string ⟨n.text.toArray⟩, .slice kg n.kids.len kc] 49)) :=
            ⟨hown1, hkp0, rfl, hbn, hkids, hq1, hg2, hrb2, ⟨by omega, fun e => by have := (Hown.out.lt _ e).2; omega⟩, ⟨hbb, HB.out⟩⟩
          obtain ⟨wb, hwb⟩ : ∃ wb, wb = w1.alloc (.cells #[.int .i64 n.kind, .string ⟨n.text.toArray⟩, .slice kg n.kids.len kc] 49) := ⟨_, rfl⟩
          rw [← hwb] at hpre ⊢
          obtain ⟨bn, hbnn⟩ : ∃ bn, bn = w1.heap.size := ⟨_, rfl⟩
          rw [← hbnn] at hpre ⊢
          have Hpre := hid hpre
          clear hpre hwb hbnn hown1 hrb2 hbn hal hq1 hg2 hwrl hwr1 hkd hkp0 hkids hn hq hg
          obtain ⟨L, hL⟩ : ∃ L, L = ls.length := ⟨_, rfl⟩
          rw [← hL] at Hown Hpre ⊢
          have HL := hid hL
          clear hL
          go_loopg [16] 3 (fun k v16 wx => SgRel T j wb k v16 wx)
          case atStart => exact ⟨0, rfl, by omega, rfl, fun s hs => by omega, fun _ => rfl, Below.refl _ _⟩
          case round =>
            obtain ⟨q, hkq, hq3, hv16, hno, hfq, hbx⟩ := hrel
            obtain ⟨y, hy⟩ : ∃ y : Int, y = j := ⟨_, rfl⟩
            have hy1 : y < 1000000 := by have := Hpre.out.par.len; have := Hpre.out.par.lt; omega
            have hy0 : 0 ≤ y := by omega
            have Hy := hid hy
            clear hy
            have hnb : ¬ bn = bp := by have := Hpre.out.bn.1; omega
            have hq4 : q = 0 ∨ q = 1 ∨ q = 2 ∨ q = 3 := by omega
            rcases hq4 with rfl | rfl | rfl | rfl
            · have hv17 : _ = Value.int .i64 0 := hv16
              subst hv17
              cases hfar : Syn.far T j with
              | true =>
                have hq0 := hfq hfar
                have hr := Hbad.out (Syn.flt T j 6) (by unfold Syn.sufS; rw [hfar]; rfl)
                subst hr
                have hs := sign_no (Hpre.out.par.below hbx) hfar [63]
                clear hno hfq hfar hq0 hv16
                go_wp2_with (go_at_call 93; refine hs.mono ?_; rintro e w2 ⟨rfl, hb2⟩)
                exact ⟨rfl, PEnd.isBad rfl (gb_trans Hpre.out.gb (below_gb (hbx.trans (hb2.mono hbx.size)) _))⟩
              | false =>
                cases hs : Syn.isS T j [63] with
                | true =>
                  have hrw := Hrow.out ⟨5, [], n.row⟩ (j + 1) (by unfold Syn.sufS; simp [hfar, hs])
                  have hj := lt_last Hpre.out.par.lt Hpre.out.par.last (by unfold Syn.isS at hs; simp at hs; omega)
                  have hlj : ls.length + 1 ≤ j := by have := Hl1.out; have := Hmv.out; omega
                  have Hhs := hid hs
                  have Hfar := hid hfar
                  have Hrw := hid hrw
                  have Hlj := hid hlj
                  have Hj := hid hj
                  clear hv16 hno hfq hrw hlj hs hfar hj
                  go_wp2_with (first
                    | (go_at_call 93; refine (sign_ok (Hpre.out.par.below hbx) Hfar.out [63]).mono ?_; rintro e w2 ⟨rfl, hb2⟩; rw [Hhs.out]; have hbx2 := hbx.trans (hb2.mono hbx.size); have k1 := (Hpre.out.par.below hbx2).k.cell 1; have fr1 := (Hpre.out.par.below hbx2).k.free 1; have nb2 := Hpre.out.blk.below hbx2 Hpre.out.blk.lt; have hl2 : bn < w2.heap.size := nb2.lt; have hl3 : bp < w2.heap.size := (Hpre.out.par.below hbx2).k.lt; have a0 := nb2.cell 0; have a1 := nb2.cell 1; have a2 := nb2.cell 2; have f0 := nb2.free 0; have f1 := nb2.free 1; have f2 := nb2.free 2; simp only [List.getElem?_cons_zero, List.getElem?_cons_succ] at k1 a0 a1 a2; rw [← Hy.out] at k1; clear nb2)
                    | (at_builtin; obtain ⟨g2, cap2, w5, hrun, hrel2⟩ := (Hpre.out.sign (F := F) hbx2 5 Hj.out Hrw.out Ho1.out Hlj.out (show f ≤ F by omega)).app HB.out hbb 47 0 (H := w2.heap.size + 1) (by simp [World.setCell]); rw [← Hy.out, ← HL.out] at hrun; rw [← HL.out] at hrel2; have Hrel2 := hid hrel2; refine wpList_app rfl _ _ _ rfl (.slice ga L ca) (.slice (some ⟨w2.heap.size + 1, 0, none⟩) 1 1) _ w5 (by rfl) (by rfl) (by exact hrun) ?_; clear hrun hrel2))
                  go_roundg f
                  case measure => have := Hkm.out; omega
                  case rel => exact Hrel2.out
                | false =>
                  have hno' : ∀ s, s < 1 → Syn.isS T j (sgn s) = false := fun s hs' => by
                    rcases Nat.lt_or_ge s 0 with h1 | h1
                    · exact hno s h1
                    · have : s = 0 := by omega
                      subst this
                      exact hs
                  have Hno := hid hno'
                  have Hhs := hid hs
                  have Hfar := hid hfar
                  clear hv16 hno hno' hfq hs hfar
                  go_wp2_with (go_at_call 93; refine (sign_ok (Hpre.out.par.below hbx) Hfar.out [63]).mono ?_; rintro e w2 ⟨rfl, hb2⟩; rw [Hhs.out])
                  go_roundg 2
                  case measure => omega
                  case rel => exact ⟨1, rfl, by omega, by go_num, Hno.out, fun e => by (rw [Hfar.out] at e; cases e), hbx.trans (hb2.mono hbx.size)⟩
            · have hv17 : _ = Value.int .i64 1 := hv16
              subst hv17
              cases hfar : Syn.far T j with
              | true =>
                have hq0 := hfq hfar
                have hr := Hbad.out (Syn.flt T j 6) (by unfold Syn.sufS; rw [hfar]; rfl)
                subst hr
                have hs := sign_no (Hpre.out.par.below hbx) hfar [42]
                clear hno hfq hfar hq0 hv16
                go_wp2_with (go_at_call 93; refine hs.mono ?_; rintro e w2 ⟨rfl, hb2⟩)
                exact ⟨rfl, PEnd.isBad rfl (gb_trans Hpre.out.gb (below_gb (hbx.trans (hb2.mono hbx.size)) _))⟩
              | false =>
                cases hs : Syn.isS T j [42] with
                | true =>
                  have h63 := hno 0 (by omega)
                  simp [sgn] at h63
                  have hrw := Hrow.out ⟨6, [], n.row⟩ (j + 1) (by unfold Syn.sufS; simp [hfar, hs, h63])
                  have hj := lt_last Hpre.out.par.lt Hpre.out.par.last (by unfold Syn.isS at hs; simp at hs; omega)
                  have hlj : ls.length + 1 ≤ j := by have := Hl1.out; have := Hmv.out; omega
                  have Hhs := hid hs
                  have Hfar := hid hfar
                  have Hrw := hid hrw
                  have Hlj := hid hlj
                  have Hj := hid hj
                  clear hv16 hno hfq hrw hlj hs hfar hj
                  go_wp2_with (first
                    | (go_at_call 93; refine (sign_ok (Hpre.out.par.below hbx) Hfar.out [42]).mono ?_; rintro e w2 ⟨rfl, hb2⟩; rw [Hhs.out]; have hbx2 := hbx.trans (hb2.mono hbx.size); have k1 := (Hpre.out.par.below hbx2).k.cell 1; have fr1 := (Hpre.out.par.below hbx2).k.free 1; have nb2 := Hpre.out.blk.below hbx2 Hpre.out.blk.lt; have hl2 : bn < w2.heap.size := nb2.lt; have hl3 : bp < w2.heap.size := (Hpre.out.par.below hbx2).k.lt; have a0 := nb2.cell 0; have a1 := nb2.cell 1; have a2 := nb2.cell 2; have f0 := nb2.free 0; have f1 := nb2.free 1; have f2 := nb2.free 2; simp only [List.getElem?_cons_zero, List.getElem?_cons_succ] at k1 a0 a1 a2; rw [← Hy.out] at k1; clear nb2)
                    | (at_builtin; obtain ⟨g2, cap2, w5, hrun, hrel2⟩ := (Hpre.out.sign (F := F) hbx2 6 Hj.out Hrw.out Ho1.out Hlj.out (show f ≤ F by omega)).app HB.out hbb 47 0 (H := w2.heap.size + 1) (by simp [World.setCell]); rw [← Hy.out, ← HL.out] at hrun; rw [← HL.out] at hrel2; have Hrel2 := hid hrel2; refine wpList_app rfl _ _ _ rfl (.slice ga L ca) (.slice (some ⟨w2.heap.size + 1, 0, none⟩) 1 1) _ w5 (by rfl) (by rfl) (by exact hrun) ?_; clear hrun hrel2))
                  go_roundg f
                  case measure => have := Hkm.out; omega
                  case rel => exact Hrel2.out
                | false =>
                  have hno' : ∀ s, s < 2 → Syn.isS T j (sgn s) = false := fun s hs' => by
                    rcases Nat.lt_or_ge s 1 with h1 | h1
                    · exact hno s h1
                    · have : s = 1 := by omega
                      subst this
                      exact hs
                  have Hno := hid hno'
                  have Hhs := hid hs
                  have Hfar := hid hfar
                  clear hv16 hno hno' hfq hs hfar
                  go_wp2_with (go_at_call 93; refine (sign_ok (Hpre.out.par.below hbx) Hfar.out [42]).mono ?_; rintro e w2 ⟨rfl, hb2⟩; rw [Hhs.out])
                  go_roundg 1
                  case measure => omega
                  case rel => exact ⟨2, rfl, by omega, by go_num, Hno.out, fun e => by (rw [Hfar.out] at e; cases e), hbx.trans (hb2.mono hbx.size)⟩
            · have hv17 : _ = Value.int .i64 2 := hv16
              subst hv17
              cases hfar : Syn.far T j with
              | true =>
                have hq0 := hfq hfar
                have hr := Hbad.out (Syn.flt T j 6) (by unfold Syn.sufS; rw [hfar]; rfl)
                subst hr
                have hs := sign_no (Hpre.out.par.below hbx) hfar [43]
                clear hno hfq hfar hq0 hv16
                go_wp2_with (go_at_call 93; refine hs.mono ?_; rintro e w2 ⟨rfl, hb2⟩)
                exact ⟨rfl, PEnd.isBad rfl (gb_trans Hpre.out.gb (below_gb (hbx.trans (hb2.mono hbx.size)) _))⟩
              | false =>
                cases hs : Syn.isS T j [43] with
                | true =>
                  have h63 := hno 0 (by omega)
                  simp [sgn] at h63
                  have h42 := hno 1 (by omega)
                  simp [sgn] at h42
                  have hrw := Hrow.out ⟨7, [], n.row⟩ (j + 1) (by unfold Syn.sufS; simp [hfar, hs, h63, h42])
                  have hj := lt_last Hpre.out.par.lt Hpre.out.par.last (by unfold Syn.isS at hs; simp at hs; omega)
                  have hlj : ls.length + 1 ≤ j := by have := Hl1.out; have := Hmv.out; omega
                  have Hhs := hid hs
                  have Hfar := hid hfar
                  have Hrw := hid hrw
                  have Hlj := hid hlj
                  have Hj := hid hj
                  clear hv16 hno hfq hrw hlj hs hfar hj
                  go_wp2_with (first
                    | (go_at_call 93; refine (sign_ok (Hpre.out.par.below hbx) Hfar.out [43]).mono ?_; rintro e w2 ⟨rfl, hb2⟩; rw [Hhs.out]; have hbx2 := hbx.trans (hb2.mono hbx.size); have k1 := (Hpre.out.par.below hbx2).k.cell 1; have fr1 := (Hpre.out.par.below hbx2).k.free 1; have nb2 := Hpre.out.blk.below hbx2 Hpre.out.blk.lt; have hl2 : bn < w2.heap.size := nb2.lt; have hl3 : bp < w2.heap.size := (Hpre.out.par.below hbx2).k.lt; have a0 := nb2.cell 0; have a1 := nb2.cell 1; have a2 := nb2.cell 2; have f0 := nb2.free 0; have f1 := nb2.free 1; have f2 := nb2.free 2; simp only [List.getElem?_cons_zero, List.getElem?_cons_succ] at k1 a0 a1 a2; rw [← Hy.out] at k1; clear nb2)
                    | (at_builtin; obtain ⟨g2, cap2, w5, hrun, hrel2⟩ := (Hpre.out.sign (F := F) hbx2 7 Hj.out Hrw.out Ho1.out Hlj.out (show f ≤ F by omega)).app HB.out hbb 47 0 (H := w2.heap.size + 1) (by simp [World.setCell]); rw [← Hy.out, ← HL.out] at hrun; rw [← HL.out] at hrel2; have Hrel2 := hid hrel2; refine wpList_app rfl _ _ _ rfl (.slice ga L ca) (.slice (some ⟨w2.heap.size + 1, 0, none⟩) 1 1) _ w5 (by rfl) (by rfl) (by exact hrun) ?_; clear hrun hrel2))
                  go_roundg f
                  case measure => have := Hkm.out; omega
                  case rel => exact Hrel2.out
                | false =>
                  have hno' : ∀ s, s < 3 → Syn.isS T j (sgn s) = false := fun s hs' => by
                    rcases Nat.lt_or_ge s 2 with h1 | h1
                    · exact hno s h1
                    · have : s = 2 := by omega
                      subst this
                      exact hs
                  have Hno := hid hno'
                  have Hhs := hid hs
                  have Hfar := hid hfar
                  clear hv16 hno hno' hfq hs hfar
                  go_wp2_with (go_at_call 93; refine (sign_ok (Hpre.out.par.below hbx) Hfar.out [43]).mono ?_; rintro e w2 ⟨rfl, hb2⟩; rw [Hhs.out])
                  go_roundg 0
                  case measure => omega
                  case rel => exact ⟨3, rfl, by omega, by go_num, Hno.out, fun e => by (rw [Hfar.out] at e; cases e), hbx.trans (hb2.mono hbx.size)⟩
            · have hv17 : _ = Value.int .i64 3 := hv16
              subst hv17
              have hfar : Syn.far T j = false := by
                cases hf : Syn.far T j with
                | true => exact absurd (hfq hf) (by omega)
                | false => rfl
              have h63 := hno 0 (by omega)
              have h42 := hno 1 (by omega)
              have h43 := hno 2 (by omega)
              have hmid := Hpre.out.plain (F := F) hbx (Hrow.out n j (by unfold Syn.sufS; simp only [sgn] at h63 h42 h43; simp at h63 h42 h43; simp [hfar, h63, h42, h43])) Ho1.out (by have := Hl1.out; have := Hmv.out; omega) (show f ≤ F by omega)
              have nb2 := Hpre.out.blk.below hbx Hpre.out.blk.lt
              have hl2 : bn < wr.heap.size := nb2.lt
              have a0 := nb2.cell 0
              have a1 := nb2.cell 1
              have a2 := nb2.cell 2
              simp only [List.getElem?_cons_zero, List.getElem?_cons_succ] at a0 a1 a2
              obtain ⟨g2, cap2, w5, hrun, hrel2⟩ := hmid.app HB.out hbb 47 0 rfl
              rw [← HL.out] at hrun hrel2
              have Hrel2 := hid hrel2
              clear hv16 hrel2 hmid hno hfq h63 h42 h43 hfar nb2
              go_wp2_with (at_builtin; refine wpList_app rfl _ _ _ rfl (.slice ga L ca) (.slice (some ⟨wr.heap.size, 0, none⟩) 1 1) _ w5 (by rfl) (by rfl) (by exact hrun) ?_; clear hrun)
              go_roundg f
              case measure => have := Hkm.out; omega
              case rel => exact Hrel2.out
end Go.Proofs.Ytjaampgpihicmaa
