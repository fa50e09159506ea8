/- Chapter 5 (syntax): atom in brackets, given around. -/
import Derived.Test.YtjaampgpihicmaaSyn5
namespace Go.Proofs.Ytjaampgpihicmaa
open Go.RowKit
attribute [local go_sem ↓] Go.wp_at_zero Go.wp_at_succ
attribute [local go_sem] frozen_alloc_lt
open Syn (Nd Nod)

/-- What atom answers, when around answers. -/
def atomOf (k : Nat) (r : Syn.Res Nod) : Syn.Res (Option Nod) := match r with
  | .bad f => .bad f
  | .ok n j p => .ok (some (if k = 0 then n else ⟨k, [], n.row⟩)) j p
/-- A node in a row of its own. -/
theorem NdAt.one {w : World} {D : Nat → Prop} {n : Nod} {gk : Option Addr} {ck g : Nat} {t : TypeId} (hb : Bk w g t [.int .i64 n.kind, .string ⟨n.text.toArray⟩, .slice gk n.kids.len ck]) (hg : D g) (hn : NdAt w D gk n.kids 0) : NdAt w D (some ⟨g, 0, none⟩) n.row 0 := by
  unfold Nod.row NdAt
  refine ⟨⟨g, 0, gk, ck, rfl, hg, ?_, ?_, ?_, hn⟩, trivial⟩
  · exact (hb.cell 0)
  · exact (hb.cell 1)
  · exact (hb.cell 2)
section
variable {w : World} {B bp : Nat} {gT : Option Addr} {cT : Nat} {T : List Lex.Tok} {i o : Nat}
set_option maxRecDepth 8000 in
set_option maxHeartbeats 4000000 in
theorem atom_round (h : Par w B bp gT cT T i o) (h1 : Syn.isS T i [40] = true) (hf : Syn.far T i = false) {r : Syn.Res Nod}
    (har : ∀ w', Par w' B bp gT cT T i o → Calls Try.prog 148 #[.pointer (some ⟨bp, 0, none⟩), .string ⟨#[41]⟩] w' (PEnd (isNode w'.heap.size) w' B bp gT cT T r)) :
    Calls Try.prog 142 #[.pointer (some ⟨bp, 0, none⟩)] w (PEnd (isAtom w.heap.size) w B bp gT cT T (atomOf 0 r)) := by
  have hlt := h.k.lt
  obtain ⟨t, ht⟩ : ∃ t, t = Syn.tk T i := ⟨_, rfl⟩
  have hb0 : Below w.heap.size w (w.alloc (.cells #[.int .i64 0, .string ⟨#[]⟩, .slice none 0 0] 49)) := (Below.refl _ _).alloc (Nat.le_refl _) _
  have h0 := h.below hb0
  have hp := peek_ok h0 hf
  unfold Syn.isS at h1
  rw [← ht] at h1
  simp only [tokA, ← ht] at hp
  have hk : t.kind = 3 := by simp at h1; exact h1.1
  have hx : t.text = [40] := by simp at h1; exact h1.2
  rw [hk, hx] at hp
  simp only [Int.cast_ofNat_Int] at hp
  obtain ⟨li, hli⟩ : ∃ li : Int, li = t.line := ⟨_, rfl⟩
  obtain ⟨co, hco⟩ : ∃ co : Int, co = t.col := ⟨_, rfl⟩
  rw [← hli, ← hco] at hp
  have rb := Bk.new w 49 [.int .i64 0, .string ⟨#[]⟩, .slice none 0 0]
  have H0 := hid h0
  have Har := hid har
  have Hb0 := hid hb0
  clear ht h1 hf hk hx h0 h hb0 har hli hco
  cases r with
  | bad f =>
    go_enter Try.func142, Try.ntmps142
    go_wp2_with (first
      | (go_at_call 148; have hba := hb.alloc hb.size (.cells #[.int .i64 3, .string ⟨#[40]⟩, .int .i64 li, .int .i64 co] 46); refine (Har.out _ (H0.out.below hba)).mono ?_; rintro e w2 hP; obtain ⟨rfl, hg2⟩ := PEnd.whenBad hP rfl; clear hP)
      | (go_at_call 96; refine hp.mono ?_; rintro e w1 ⟨rfl, hb⟩; (have rb1 := rb.below hb rb.lt); (have hl1 : w.heap.size < w1.heap.size := rb1.lt)))
    exact ⟨rfl, PEnd.isBad rfl (gb_trans (below_gb (Hb0.out.trans (hba.mono Hb0.out.size)) _) hg2)⟩
  | ok n j p =>
    have fin : ∀ w1 w2 : World, ∀ gk ck, Below w.heap.size w w1 → w.heap.size < w1.heap.size → w1.grownBy w2 (some bp) → NdAt w2 (From w1.heap.size w2) gk n.kids 0 → Par w2 B bp gT cT T j p →
        PEnd (isAtom w.heap.size) w B bp gT cT T (atomOf 0 (.ok n j p)) (.returned (.tuple #[nodeV n gk ck, .bool true])) (((w2.setCell ⟨w.heap.size, 0, none⟩ (.int .i64 n.kind)).setCell ⟨w.heap.size, 1, none⟩ (.string ⟨n.text.toArray⟩)).setCell ⟨w.heap.size, 2, none⟩ (.slice gk n.kids.len ck)) := by
        intro w1 w2 gk ck hba hl hg2 hn hq
        have hkp := ((((Kp.refl (fun k => k = w.heap.size) w2).set (p := ⟨w.heap.size, 0, none⟩) (.inl rfl) (.int .i64 n.kind)).set (p := ⟨w.heap.size, 1, none⟩) (.inl rfl) (.string ⟨n.text.toArray⟩)).set (p := ⟨w.heap.size, 2, none⟩) (.inl rfl) (.slice gk n.kids.len ck))
        have hn2 := (hn.kp hkp (fun k hk e => by have := hk.1; omega)).mono (D' := From w.heap.size _) fun k hk => ⟨by have := hk.1; omega, Nat.lt_of_lt_of_le hk.2 hkp.size⟩
        refine PEnd.isOk rfl ?_ ⟨_, rfl, gk, ck, rfl, hn2⟩ (hq.kp hkp (fun k e => by omega))
        · refine gb_set ?_ (.inr (Nat.le_refl _)) _
          refine gb_set ?_ (.inr (Nat.le_refl _)) _
          refine gb_set ?_ (.inr (Nat.le_refl _)) _
          exact gb_trans (below_gb hba _) hg2
    have Fin := hid fin
    clear fin
    go_enter Try.func142, Try.ntmps142
    go_wp2_with (first
      | (go_at_call 148; have hba := hb.alloc hb.size (.cells #[.int .i64 3, .string ⟨#[40]⟩, .int .i64 li, .int .i64 co] 46); refine (Har.out _ (H0.out.below hba)).mono ?_; rintro e w2 hP; obtain ⟨⟨v, rfl, gk, ck, rfl, hn⟩, hq, hg2⟩ := PEnd.whenOk hP rfl; clear hP; simp only [nodeV]; (have rb2 := (rb1.alloc (.cells #[.int .i64 3, .string ⟨#[40]⟩, .int .i64 li, .int .i64 co] 46)).grown hg2 (by intro e; injection e with e; omega)); (have hl2 : w.heap.size < w2.heap.size := rb2.lt); (have r0 := rb2.cell 0); (have r1 := rb2.cell 1); (have r2 := rb2.cell 2); (have f0 := rb2.free 0); (have f1 := rb2.free 1); (have f2 := rb2.free 2); simp only [List.getElem?_cons_zero, List.getElem?_cons_succ] at r0 r1 r2; have Hn := hid hn; have Hq := hid hq; have Hg2 := hid hg2; have Hba := hid hba; clear hn hq hg2 hba)
      | (go_at_call 96; refine hp.mono ?_; rintro e w1 ⟨rfl, hb⟩; (have rb1 := rb.below hb rb.lt); (have hl1 : w.heap.size < w1.heap.size := rb1.lt)))
    refine bodyPost_ret (by rw [results_cell_tmp rfl]; simp [go_sem, r0, r1, r2]; rfl) rfl ?_
    exact Fin.out _ w2 gk ck (Hb0.out.trans (Hba.out.mono Hb0.out.size)) (by simp; omega) Hg2.out Hn.out Hq.out
set_option maxRecDepth 8000 in
set_option maxHeartbeats 4000000 in
theorem atom_square (h : Par w B bp gT cT T i o) (h1 : Syn.isS T i [91] = true) (hf : Syn.far T i = false) {r : Syn.Res Nod}
    (har : ∀ w', Par w' B bp gT cT T i o → Calls Try.prog 148 #[.pointer (some ⟨bp, 0, none⟩), .string ⟨#[93]⟩] w' (PEnd (isNode w'.heap.size) w' B bp gT cT T r)) :
    Calls Try.prog 142 #[.pointer (some ⟨bp, 0, none⟩)] w (PEnd (isAtom w.heap.size) w B bp gT cT T (atomOf 5 r)) := by
  have hlt := h.k.lt
  obtain ⟨t, ht⟩ : ∃ t, t = Syn.tk T i := ⟨_, rfl⟩
  have hb0 : Below w.heap.size w (w.alloc (.cells #[.int .i64 0, .string ⟨#[]⟩, .slice none 0 0] 49)) := (Below.refl _ _).alloc (Nat.le_refl _) _
  have h0 := h.below hb0
  have hp := peek_ok h0 hf
  unfold Syn.isS at h1
  rw [← ht] at h1
  simp only [tokA, ← ht] at hp
  have hk : t.kind = 3 := by simp at h1; exact h1.1
  have hx : t.text = [91] := by simp at h1; exact h1.2
  rw [hk, hx] at hp
  simp only [Int.cast_ofNat_Int] at hp
  obtain ⟨li, hli⟩ : ∃ li : Int, li = t.line := ⟨_, rfl⟩
  obtain ⟨co, hco⟩ : ∃ co : Int, co = t.col := ⟨_, rfl⟩
  rw [← hli, ← hco] at hp
  have rb := Bk.new w 49 [.int .i64 0, .string ⟨#[]⟩, .slice none 0 0]
  have H0 := hid h0
  have Har := hid har
  have Hb0 := hid hb0
  clear ht h1 hf hk hx h0 h hb0 har hli hco
  cases r with
  | bad f =>
    go_enter Try.func142, Try.ntmps142
    go_wp2_with (first
      | (go_at_call 148; have hba := hb.alloc hb.size (.cells #[.int .i64 3, .string ⟨#[91]⟩, .int .i64 li, .int .i64 co] 46); refine (Har.out _ (H0.out.below hba)).mono ?_; rintro e w2 hP; obtain ⟨rfl, hg2⟩ := PEnd.whenBad hP rfl; clear hP)
      | (go_at_call 96; refine hp.mono ?_; rintro e w1 ⟨rfl, hb⟩; (have rb1 := rb.below hb rb.lt); (have hl1 : w.heap.size < w1.heap.size := rb1.lt)))
    exact ⟨rfl, PEnd.isBad rfl (gb_trans (below_gb (Hb0.out.trans (hba.mono Hb0.out.size)) _) hg2)⟩
  | ok n j p =>
    have fin : ∀ w1 w2 : World, ∀ gk ck, Below w.heap.size w w1 → w.heap.size < w1.heap.size → w1.grownBy w2 (some bp) → NdAt w2 (From w1.heap.size w2) gk n.kids 0 → Par w2 B bp gT cT T j p →
        PEnd (isAtom w.heap.size) w B bp gT cT T (atomOf 5 (.ok n j p)) (.returned (.tuple #[.agg #[.int .i64 5, .string ⟨#[]⟩, .slice (some ⟨w2.heap.size, 0, none⟩) 1 1], .bool true])) ((((w2.setCell ⟨w.heap.size, 0, none⟩ (.int .i64 5)).setCell ⟨w.heap.size, 1, none⟩ (.string ⟨#[]⟩)).setCell ⟨w.heap.size, 2, none⟩ (.slice (some ⟨w2.heap.size, 0, none⟩) 1 1)).alloc (.cells #[.int .i64 n.kind, .string ⟨n.text.toArray⟩, .slice gk n.kids.len ck] 49)) := by
        intro w1 w2 gk ck hba hl hg2 hn hq
        have hkp := (((((Kp.refl (fun k => k = w.heap.size) w2).set (p := ⟨w.heap.size, 0, none⟩) (.inl rfl) (.int .i64 5)).set (p := ⟨w.heap.size, 1, none⟩) (.inl rfl) (.string ⟨#[]⟩)).set (p := ⟨w.heap.size, 2, none⟩) (.inl rfl) (.slice (some ⟨w2.heap.size, 0, none⟩) 1 1)).alloc (.cells #[.int .i64 n.kind, .string ⟨n.text.toArray⟩, .slice gk n.kids.len ck] 49))
        have hn2 := (hn.kp hkp (fun k hk e => by have := hk.1; omega)).mono (D' := From w.heap.size _) fun k hk => ⟨by have := hk.1; omega, Nat.lt_of_lt_of_le hk.2 hkp.size⟩
        refine PEnd.isOk rfl ?_ ⟨_, rfl, some ⟨w2.heap.size, 0, none⟩, 1, rfl, NdAt.one (t := 49) (ck := ck) ?_ ?_ hn2⟩ (hq.kp hkp (fun k e => by omega))
        · refine gb_alloc ?_ _
          refine gb_set ?_ (.inr (Nat.le_refl _)) _
          refine gb_set ?_ (.inr (Nat.le_refl _)) _
          refine gb_set ?_ (.inr (Nat.le_refl _)) _
          exact gb_trans (below_gb hba _) hg2
        · have := Bk.new (((w2.setCell ⟨w.heap.size, 0, none⟩ (.int .i64 5)).setCell ⟨w.heap.size, 1, none⟩ (.string ⟨#[]⟩)).setCell ⟨w.heap.size, 2, none⟩ (.slice (some ⟨w2.heap.size, 0, none⟩) 1 1)) 49 [.int .i64 n.kind, .string ⟨n.text.toArray⟩, .slice gk n.kids.len ck]
          simpa [World.setCell] using this
        · exact ⟨by have := hg2.size; omega, by simp [World.setCell]⟩
    have Fin := hid fin
    clear fin
    go_enter Try.func142, Try.ntmps142
    go_wp2_with (first
      | (go_at_call 148; have hba := hb.alloc hb.size (.cells #[.int .i64 3, .string ⟨#[91]⟩, .int .i64 li, .int .i64 co] 46); refine (Har.out _ (H0.out.below hba)).mono ?_; rintro e w2 hP; obtain ⟨⟨v, rfl, gk, ck, rfl, hn⟩, hq, hg2⟩ := PEnd.whenOk hP rfl; clear hP; simp only [nodeV]; (have rb2 := (rb1.alloc (.cells #[.int .i64 3, .string ⟨#[91]⟩, .int .i64 li, .int .i64 co] 46)).grown hg2 (by intro e; injection e with e; omega)); (have hl2 : w.heap.size < w2.heap.size := rb2.lt); (have r0 := rb2.cell 0); (have r1 := rb2.cell 1); (have r2 := rb2.cell 2); (have f0 := rb2.free 0); (have f1 := rb2.free 1); (have f2 := rb2.free 2); simp only [List.getElem?_cons_zero, List.getElem?_cons_succ] at r0 r1 r2; have Hn := hid hn; have Hq := hid hq; have Hg2 := hid hg2; have Hba := hid hba; clear hn hq hg2 hba)
      | (go_at_call 96; refine hp.mono ?_; rintro e w1 ⟨rfl, hb⟩; (have rb1 := rb.below hb rb.lt); (have hl1 : w.heap.size < w1.heap.size := rb1.lt)))
    refine bodyPost_ret (by rw [results_cell_tmp rfl]; simp [go_sem, r0, r1, r2, hl2]; rfl) rfl ?_
    exact Fin.out _ w2 gk ck (Hb0.out.trans (Hba.out.mono Hb0.out.size)) (by simp; omega) Hg2.out Hn.out Hq.out
set_option maxRecDepth 8000 in
set_option maxHeartbeats 4000000 in
theorem atom_curly (h : Par w B bp gT cT T i o) (h1 : Syn.isS T i [123] = true) (hf : Syn.far T i = false) {r : Syn.Res Nod}
    (har : ∀ w', Par w' B bp gT cT T i o → Calls Try.prog 148 #[.pointer (some ⟨bp, 0, none⟩), .string ⟨#[125]⟩] w' (PEnd (isNode w'.heap.size) w' B bp gT cT T r)) :
    Calls Try.prog 142 #[.pointer (some ⟨bp, 0, none⟩)] w (PEnd (isAtom w.heap.size) w B bp gT cT T (atomOf 6 r)) := by
  have hlt := h.k.lt
  obtain ⟨t, ht⟩ : ∃ t, t = Syn.tk T i := ⟨_, rfl⟩
  have hb0 : Below w.heap.size w (w.alloc (.cells #[.int .i64 0, .string ⟨#[]⟩, .slice none 0 0] 49)) := (Below.refl _ _).alloc (Nat.le_refl _) _
  have h0 := h.below hb0
  have hp := peek_ok h0 hf
  unfold Syn.isS at h1
  rw [← ht] at h1
  simp only [tokA, ← ht] at hp
  have hk : t.kind = 3 := by simp at h1; exact h1.1
  have hx : t.text = [123] := by simp at h1; exact h1.2
  rw [hk, hx] at hp
  simp only [Int.cast_ofNat_Int] at hp
  obtain ⟨li, hli⟩ : ∃ li : Int, li = t.line := ⟨_, rfl⟩
  obtain ⟨co, hco⟩ : ∃ co : Int, co = t.col := ⟨_, rfl⟩
  rw [← hli, ← hco] at hp
  have rb := Bk.new w 49 [.int .i64 0, .string ⟨#[]⟩, .slice none 0 0]
  have H0 := hid h0
  have Har := hid har
  have Hb0 := hid hb0
  clear ht h1 hf hk hx h0 h hb0 har hli hco
  cases r with
  | bad f =>
    go_enter Try.func142, Try.ntmps142
    go_wp2_with (first
      | (go_at_call 148; have hba := hb.alloc hb.size (.cells #[.int .i64 3, .string ⟨#[123]⟩, .int .i64 li, .int .i64 co] 46); refine (Har.out _ (H0.out.below hba)).mono ?_; rintro e w2 hP; obtain ⟨rfl, hg2⟩ := PEnd.whenBad hP rfl; clear hP)
      | (go_at_call 96; refine hp.mono ?_; rintro e w1 ⟨rfl, hb⟩; (have rb1 := rb.below hb rb.lt); (have hl1 : w.heap.size < w1.heap.size := rb1.lt)))
    exact ⟨rfl, PEnd.isBad rfl (gb_trans (below_gb (Hb0.out.trans (hba.mono Hb0.out.size)) _) hg2)⟩
  | ok n j p =>
    have fin : ∀ w1 w2 : World, ∀ gk ck, Below w.heap.size w w1 → w.heap.size < w1.heap.size → w1.grownBy w2 (some bp) → NdAt w2 (From w1.heap.size w2) gk n.kids 0 → Par w2 B bp gT cT T j p →
        PEnd (isAtom w.heap.size) w B bp gT cT T (atomOf 6 (.ok n j p)) (.returned (.tuple #[.agg #[.int .i64 6, .string ⟨#[]⟩, .slice (some ⟨w2.heap.size, 0, none⟩) 1 1], .bool true])) ((((w2.setCell ⟨w.heap.size, 0, none⟩ (.int .i64 6)).setCell ⟨w.heap.size, 1, none⟩ (.string ⟨#[]⟩)).setCell ⟨w.heap.size, 2, none⟩ (.slice (some ⟨w2.heap.size, 0, none⟩) 1 1)).alloc (.cells #[.int .i64 n.kind, .string ⟨n.text.toArray⟩, .slice gk n.kids.len ck] 49)) := by
        intro w1 w2 gk ck hba hl hg2 hn hq
        have hkp := (((((Kp.refl (fun k => k = w.heap.size) w2).set (p := ⟨w.heap.size, 0, none⟩) (.inl rfl) (.int .i64 6)).set (p := ⟨w.heap.size, 1, none⟩) (.inl rfl) (.string ⟨#[]⟩)).set (p := ⟨w.heap.size, 2, none⟩) (.inl rfl) (.slice (some ⟨w2.heap.size, 0, none⟩) 1 1)).alloc (.cells #[.int .i64 n.kind, .string ⟨n.text.toArray⟩, .slice gk n.kids.len ck] 49))
        have hn2 := (hn.kp hkp (fun k hk e => by have := hk.1; omega)).mono (D' := From w.heap.size _) fun k hk => ⟨by have := hk.1; omega, Nat.lt_of_lt_of_le hk.2 hkp.size⟩
        refine PEnd.isOk rfl ?_ ⟨_, rfl, some ⟨w2.heap.size, 0, none⟩, 1, rfl, NdAt.one (t := 49) (ck := ck) ?_ ?_ hn2⟩ (hq.kp hkp (fun k e => by omega))
        · refine gb_alloc ?_ _
          refine gb_set ?_ (.inr (Nat.le_refl _)) _
          refine gb_set ?_ (.inr (Nat.le_refl _)) _
          refine gb_set ?_ (.inr (Nat.le_refl _)) _
          exact gb_trans (below_gb hba _) hg2
        · have := Bk.new (((w2.setCell ⟨w.heap.size, 0, none⟩ (.int .i64 6)).setCell ⟨w.heap.size, 1, none⟩ (.string ⟨#[]⟩)).setCell ⟨w.heap.size, 2, none⟩ (.slice (some ⟨w2.heap.size, 0, none⟩) 1 1)) 49 [.int .i64 n.kind, .string ⟨n.text.toArray⟩, .slice gk n.kids.len ck]
          simpa [World.setCell] using this
        · exact ⟨by have := hg2.size; omega, by simp [World.setCell]⟩
    have Fin := hid fin
    clear fin
    go_enter Try.func142, Try.ntmps142
    go_wp2_with (first
      | (go_at_call 148; have hba := hb.alloc hb.size (.cells #[.int .i64 3, .string ⟨#[123]⟩, .int .i64 li, .int .i64 co] 46); refine (Har.out _ (H0.out.below hba)).mono ?_; rintro e w2 hP; obtain ⟨⟨v, rfl, gk, ck, rfl, hn⟩, hq, hg2⟩ := PEnd.whenOk hP rfl; clear hP; simp only [nodeV]; (have rb2 := (rb1.alloc (.cells #[.int .i64 3, .string ⟨#[123]⟩, .int .i64 li, .int .i64 co] 46)).grown hg2 (by intro e; injection e with e; omega)); (have hl2 : w.heap.size < w2.heap.size := rb2.lt); (have r0 := rb2.cell 0); (have r1 := rb2.cell 1); (have r2 := rb2.cell 2); (have f0 := rb2.free 0); (have f1 := rb2.free 1); (have f2 := rb2.free 2); simp only [List.getElem?_cons_zero, List.getElem?_cons_succ] at r0 r1 r2; have Hn := hid hn; have Hq := hid hq; have Hg2 := hid hg2; have Hba := hid hba; clear hn hq hg2 hba)
      | (go_at_call 96; refine hp.mono ?_; rintro e w1 ⟨rfl, hb⟩; (have rb1 := rb.below hb rb.lt); (have hl1 : w.heap.size < w1.heap.size := rb1.lt)))
    refine bodyPost_ret (by rw [results_cell_tmp rfl]; simp [go_sem, r0, r1, r2, hl2]; rfl) rfl ?_
    exact Fin.out _ w2 gk ck (Hb0.out.trans (Hba.out.mono Hb0.out.size)) (by simp; omega) Hg2.out Hn.out Hq.out
end
end Go.Proofs.Ytjaampgpihicmaa
