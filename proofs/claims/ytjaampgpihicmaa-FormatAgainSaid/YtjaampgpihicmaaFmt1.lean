/- Chapter 6 (format): a node is written: walks. -/
import Derived.Test.YtjaampgpihicmaaFmtLen
import Derived.Test.YtjaampgpihicmaaWrt
import Derived.Test.YtjaampgpihicmaaSyn16
namespace Go.Proofs.Ytjaampgpihicmaa
open Go.RowKit
attribute [local go_sem ↓] Go.wp_at_zero Go.wp_at_succ
attribute [local go_sem] frozen_alloc_lt
open Syn (Nd Nod)
open Fmt (bytesG en par sg bytes_par bytes_end)

def WroteV (B b : Nat) (l : List UInt8) (w : World) (e : Ending) (w' : World) : Prop := e = .returned (.tuple #[]) ∧ Wrote B b l w w'
theorem nd_below {w w' : World} {B : Nat} {ga : Option Addr} {f : Nd} {i : Nat} (h : NdAt w (fun q => q < B) ga f i) (hb : Below B w w') : NdAt w' (fun q => q < B) ga f i :=
  NdAt.kp (S := fun k => B ≤ k) ⟨hb.os, hb.tape, hb.output, hb.size, fun k _ hn => hb.block k (by omega)⟩ (fun k (hk : k < B) (e : B ≤ k) => by omega) h
theorem Wrote.trans {B b : Nat} {l l' : List UInt8} {w w' w'' : World} (h : Wrote B b l w w') (k : Wrote B b l' w' w'') : Wrote B b l' w w'' := ⟨k.1, h.2.1.trans k.2.1, h.2.2.trans k.2.2⟩
def PutC (n : Nod) : Prop := ∀ (w : World) (gk : Option Addr) (ck B b : Nat) (l : List UInt8), NdAt w (fun q => q < B) gk n.kids 0 → WrIs B b l w → l.length + (bytesG (en n).put).length ≤ 100000000000000 →
  Calls Try.prog 83 #[.pointer (some ⟨b, 0, none⟩), nodeV n gk ck] w (WroteV B b (l ++ bytesG (en n).put) w)
def AroundC (n : Nod) : Prop := ∀ (w : World) (gk : Option Addr) (ck B b : Nat) (l : List UInt8) (a c : UInt8), NdAt w (fun q => q < B) gk n.kids 0 → WrIs B b l w → l.length + (bytesG (par a (en n).put c)).length ≤ 100000000000000 →
  Calls Try.prog 123 #[.pointer (some ⟨b, 0, none⟩), nodeV n gk ck, .int .u8 a.toNat, .int .u8 c.toNat] w (WroteV B b (l ++ bytesG (par a (en n).put c)) w)
def AtomC (n : Nod) : Prop := ∀ (w : World) (gk : Option Addr) (ck B b : Nat) (l : List UInt8), NdAt w (fun q => q < B) gk n.kids 0 → WrIs B b l w → l.length + (bytesG (en n).atom).length ≤ 100000000000000 →
  Calls Try.prog 122 #[.pointer (some ⟨b, 0, none⟩), nodeV n gk ck] w (WroteV B b (l ++ bytesG (en n).atom) w)
def AgainC (n : Nod) : Prop := ∀ (w : World) (gk : Option Addr) (ck B b : Nat) (l : List UInt8) (a m c : UInt8), NdAt w (fun q => q < B) gk n.kids 0 → WrIs B b l w → l.length + (bytesG ((en n).again a m c)).length ≤ 100000000000000 →
  Calls Try.prog 121 #[.pointer (some ⟨b, 0, none⟩), nodeV n gk ck, .string ⟨#[a, m, c]⟩] w (WroteV B b (l ++ bytesG ((en n).again a m c)) w)
def ItemC (n : Nod) : Prop := ∀ (w : World) (gk : Option Addr) (ck B b : Nat) (l : List UInt8), NdAt w (fun q => q < B) gk n.kids 0 → WrIs B b l w → l.length + (bytesG (en n).item).length ≤ 100000000000000 →
  Calls Try.prog 120 #[.pointer (some ⟨b, 0, none⟩), nodeV n gk ck] w (WroteV B b (l ++ bytesG (en n).item) w)
def RowC (n : Nod) : Prop := ∀ (w : World) (gk : Option Addr) (ck B b : Nat) (l : List UInt8), NdAt w (fun q => q < B) gk n.kids 0 → WrIs B b l w → l.length + (bytesG (en n).row).length ≤ 100000000000000 →
  Calls Try.prog 86 #[.pointer (some ⟨b, 0, none⟩), nodeV n gk ck] w (WroteV B b (l ++ bytesG (en n).row) w)
theorem Wrote.first {B b : Nat} {m : List UInt8} {w w0 w' : World} (h1 : Below B w w0) (h2 : WrKp b w w0) (h : Wrote B b m w0 w') : Wrote B b m w w' := ⟨h.1, h1.trans h.2.1, h2.trans h.2.2⟩
set_option maxHeartbeats 4000000 in
set_option maxRecDepth 8000 in
theorem around_of {n : Nod} (hp : PutC n) : AroundC n := by
  intro w gk ck B b l a c hn hw hlen
  have hle : l.length + 1 + (bytesG (en n).put).length + 1 ≤ 100000000000000 := by
    rw [bytes_par] at hlen
    simp only [List.length_cons, List.length_append, List.length_nil] at hlen
    omega
  have Hle := hid hle
  clear hle
  have hBw : B ≤ w.heap.size := Nat.le_trans hw.le (Nat.le_of_lt hw.lt)
  obtain ⟨kv, hkv⟩ : ∃ kv : Int, kv = n.kind := ⟨_, rfl⟩
  obtain ⟨tv, htv⟩ : ∃ tv : ByteArray, tv = ⟨n.text.toArray⟩ := ⟨_, rfl⟩
  obtain ⟨L, hL⟩ : ∃ L, L = n.kids.len := ⟨_, rfl⟩
  have hbk := Bk.new w 49 [.int .i64 kv, .string tv, .slice gk L ck]
  have hb0 : Below w.heap.size w (w.alloc (.cells #[.int .i64 kv, .string tv, .slice gk L ck] 49)) := (Below.refl _ _).alloc (Nat.le_refl _) _
  have hNV : nodeV n gk ck = .agg #[.int .i64 kv, .string tv, .slice gk L ck] := by unfold nodeV; rw [hkv, htv, hL]
  rw [hNV]
  have HN := hid hNV
  have HV := hid (And.intro hkv (And.intro htv hL))
  clear hkv htv hL hNV
  go_enter Try.func123, Try.ntmps123
  go_upto_region 1 with fail
  obtain ⟨w0, hw0⟩ : ∃ w0, w0 = w.alloc (.cells #[.int .i64 kv, .string tv, .slice gk L ck] 49) := ⟨_, rfl⟩
  obtain ⟨x, hx⟩ : ∃ x, x = w.heap.size := ⟨_, rfl⟩
  rw [← hw0] at hbk hb0 ⊢
  rw [← hx] at hbk ⊢
  have hxb : x ≠ b := by have := hw.lt; omega
  have c0 := hbk.cell 0
  have c1 := hbk.cell 1
  have c2 := hbk.cell 2
  simp only [List.getElem?_cons_zero, List.getElem?_cons_succ] at c0 c1 c2
  have H0 := hid (And.intro (hw.below hb0) (And.intro (nd_below hn (hb0.mono hBw)) (And.intro (hb0.mono hBw) (And.intro (WrKp.below (b := b) hb0) (And.intro hbk (And.intro hlen (Nat.le_trans hBw hb0.size)))))))
  clear hw hn hbk hb0 hlen hBw hw0 hx
  have h1 := hid (wrByte_calls B b l a w0 H0.out.1 (by have := Hle.out; omega) H0.out.2.2.2.2.2.2)
  go_upto_region 2 with (go_at_call 119; refine h1.out.mono ?_; rintro e w1 ⟨rfl, hw1⟩)
  have H1 := hid hw1
  have c0 := (H0.out.2.2.2.2.1.wrt hw1.2.2 hxb (by decide)).cell 0
  have c1 := (H0.out.2.2.2.2.1.wrt hw1.2.2 hxb (by decide)).cell 1
  have c2 := (H0.out.2.2.2.2.1.wrt hw1.2.2 hxb (by decide)).cell 2
  simp only [List.getElem?_cons_zero, List.getElem?_cons_succ] at c0 c1 c2
  clear hw1
  have hput : Calls Try.prog 83 #[.pointer (some ⟨b, 0, none⟩), .agg #[.int .i64 kv, .string tv, .slice gk L ck]] w1 (WroteV B b (l ++ [a] ++ bytesG (en n).put) w1) := by
    have h := hp w1 gk ck B b (l ++ [a]) (nd_below H0.out.2.1 H1.out.2.1) H1.out.1 (by have := Hle.out; simp; omega)
    rwa [HN.out] at h
  have Hput := hid hput
  clear hput
  go_upto_region 3 with (go_at_call 83; refine Hput.out.mono ?_; rintro e w2 ⟨rfl, hw2⟩)
  have h2 := hid (wrByte_calls B b (l ++ [a] ++ bytesG (en n).put) c w2 hw2.1 (by have := Hle.out; simp; omega) (Nat.le_trans H0.out.2.2.2.2.2.2 (H1.out.2.1.trans hw2.2.1).size))
  have H2 := hid hw2
  clear hw2
  go_wp2_with (go_at_call 119; refine h2.out.mono ?_; rintro e w3 ⟨rfl, hw3⟩)
  refine bodyPost_end (results_none rfl _ _ _) rfl ?_
  refine ⟨rfl, ?_⟩
  have h3 := ((H1.out.trans H2.out).trans hw3).first H0.out.2.2.1 H0.out.2.2.2.1
  rw [bytes_par]
  simpa using h3
theorem kb_yes {kv : Int} {k i : Nat} (h : kv = k) (e : k = i) : (kv == (i : Int)) = true := by rw [h, e]; exact beq_self_eq_true _
theorem kb_no {kv : Int} {k i : Nat} (h : kv = k) (e : k ≠ i) : (kv == (i : Int)) = false := beq_eq_false_iff_ne.2 (by omega)
set_option maxHeartbeats 4000000 in
set_option maxRecDepth 8000 in
theorem row_of {n : Nod} (hput : PutC n) (haround : AroundC n) : RowC n := by
  intro w gk ck B b l hn hw hlen
  have hBw : B ≤ w.heap.size := Nat.le_trans hw.le (Nat.le_of_lt hw.lt)
  obtain ⟨kv, hkv⟩ : ∃ kv : Int, kv = n.kind := ⟨_, rfl⟩
  obtain ⟨tv, htv⟩ : ∃ tv : ByteArray, tv = ⟨n.text.toArray⟩ := ⟨_, rfl⟩
  obtain ⟨L, hL⟩ : ∃ L, L = n.kids.len := ⟨_, rfl⟩
  have hbk := Bk.new w 49 [.int .i64 kv, .string tv, .slice gk L ck]
  have hb0 : Below w.heap.size w (w.alloc (.cells #[.int .i64 kv, .string tv, .slice gk L ck] 49)) := (Below.refl _ _).alloc (Nat.le_refl _) _
  have hNV : nodeV n gk ck = .agg #[.int .i64 kv, .string tv, .slice gk L ck] := by unfold nodeV; rw [hkv, htv, hL]
  rw [hNV]
  have HN := hid hNV
  have HV := hid (And.intro hkv (And.intro htv hL))
  clear hkv htv hL hNV
  go_enter Try.func86, Try.ntmps86
  go_upto_region 1 with fail
  obtain ⟨w0, hw0⟩ : ∃ w0, w0 = w.alloc (.cells #[.int .i64 kv, .string tv, .slice gk L ck] 49) := ⟨_, rfl⟩
  obtain ⟨x, hx⟩ : ∃ x, x = w.heap.size := ⟨_, rfl⟩
  rw [← hw0] at hbk hb0 ⊢
  rw [← hx] at hbk ⊢
  have hxb : x ≠ b := by have := hw.lt; omega
  have c0 := hbk.cell 0
  have c1 := hbk.cell 1
  have c2 := hbk.cell 2
  simp only [List.getElem?_cons_zero, List.getElem?_cons_succ] at c0 c1 c2
  have H0 := hid (And.intro (hw.below hb0) (And.intro (nd_below hn (hb0.mono hBw)) (And.intro (hb0.mono hBw) (And.intro (WrKp.below (b := b) hb0) (And.intro hbk (And.intro hlen (Nat.le_trans hBw hb0.size)))))))
  clear hw hn hbk hb0 hlen hBw hw0 hx
  by_cases h4 : n.kind = 4
  · have htx : (en n).row = par 40 (en n).put 41 := if_pos h4
    have k4 : (kv == 4) = true := kb_yes HV.out.1 (by omega)
    clear h4
    have hcall : Calls Try.prog 123 #[.pointer (some ⟨b, 0, none⟩), .agg #[.int .i64 kv, .string tv, .slice gk L ck], .int .u8 40, .int .u8 41] w0 (WroteV B b (l ++ bytesG (par 40 (en n).put 41)) w0) := by
      have h := haround w0 gk ck B b l 40 41 H0.out.2.1 H0.out.1 (by have := H0.out.2.2.2.2.2.1; rw [htx] at this; exact this)
      rwa [HN.out] at h
    have Hcall := hid hcall
    clear hcall
    go_wp2_with (go_at_call 123; refine Hcall.out.mono ?_; rintro e w1 ⟨rfl, hw1⟩)
    (try simp only [Exit.inBlock, Exit.then])
    refine bodyPost_ret (results_none rfl _ _ _) rfl ?_
    refine ⟨rfl, ?_⟩
    rw [htx]
    exact hw1.first H0.out.2.2.1 H0.out.2.2.2.1
  · have htx : (en n).row = (en n).put := if_neg h4
    have k4 : (kv == 4) = false := kb_no HV.out.1 (by omega)
    clear h4
    have hcall : Calls Try.prog 83 #[.pointer (some ⟨b, 0, none⟩), .agg #[.int .i64 kv, .string tv, .slice gk L ck]] w0 (WroteV B b (l ++ bytesG (en n).put) w0) := by
      have h := hput w0 gk ck B b l H0.out.2.1 H0.out.1 (by have := H0.out.2.2.2.2.2.1; rw [htx] at this; exact this)
      rwa [HN.out] at h
    have Hcall := hid hcall
    clear hcall
    go_wp2_with (go_at_call 83; refine Hcall.out.mono ?_; rintro e w1 ⟨rfl, hw1⟩)
    refine bodyPost_end (results_none rfl _ _ _) rfl ?_
    refine ⟨rfl, ?_⟩
    rw [htx]
    exact hw1.first H0.out.2.2.1 H0.out.2.2.2.1
set_option maxHeartbeats 4000000 in
set_option maxRecDepth 8000 in
theorem item_of {n : Nod} (hput : PutC n) (haround : AroundC n) : ItemC n := by
  intro w gk ck B b l hn hw hlen
  have hBw : B ≤ w.heap.size := Nat.le_trans hw.le (Nat.le_of_lt hw.lt)
  obtain ⟨kv, hkv⟩ : ∃ kv : Int, kv = n.kind := ⟨_, rfl⟩
  obtain ⟨tv, htv⟩ : ∃ tv : ByteArray, tv = ⟨n.text.toArray⟩ := ⟨_, rfl⟩
  obtain ⟨L, hL⟩ : ∃ L, L = n.kids.len := ⟨_, rfl⟩
  have hbk := Bk.new w 49 [.int .i64 kv, .string tv, .slice gk L ck]
  have hb0 : Below w.heap.size w (w.alloc (.cells #[.int .i64 kv, .string tv, .slice gk L ck] 49)) := (Below.refl _ _).alloc (Nat.le_refl _) _
  have hNV : nodeV n gk ck = .agg #[.int .i64 kv, .string tv, .slice gk L ck] := by unfold nodeV; rw [hkv, htv, hL]
  rw [hNV]
  have HN := hid hNV
  have HV := hid (And.intro hkv (And.intro htv hL))
  clear hkv htv hL hNV
  go_enter Try.func120, Try.ntmps120
  go_upto_region 1 with fail
  obtain ⟨w0, hw0⟩ : ∃ w0, w0 = w.alloc (.cells #[.int .i64 kv, .string tv, .slice gk L ck] 49) := ⟨_, rfl⟩
  obtain ⟨x, hx⟩ : ∃ x, x = w.heap.size := ⟨_, rfl⟩
  rw [← hw0] at hbk hb0 ⊢
  rw [← hx] at hbk ⊢
  have hxb : x ≠ b := by have := hw.lt; omega
  have c0 := hbk.cell 0
  have c1 := hbk.cell 1
  have c2 := hbk.cell 2
  simp only [List.getElem?_cons_zero, List.getElem?_cons_succ] at c0 c1 c2
  have H0 := hid (And.intro (hw.below hb0) (And.intro (nd_below hn (hb0.mono hBw)) (And.intro (hb0.mono hBw) (And.intro (WrKp.below (b := b) hb0) (And.intro hbk (And.intro hlen (Nat.le_trans hBw hb0.size)))))))
  clear hw hn hbk hb0 hlen hBw hw0 hx
  by_cases h3 : n.kind = 3
  · have htx : (en n).item = par 40 (en n).put 41 := if_pos (.inl h3)
    have k3 : (kv == 3) = true := kb_yes HV.out.1 (by omega)
    clear h3
    have hcall : Calls Try.prog 123 #[.pointer (some ⟨b, 0, none⟩), .agg #[.int .i64 kv, .string tv, .slice gk L ck], .int .u8 40, .int .u8 41] w0 (WroteV B b (l ++ bytesG (par 40 (en n).put 41)) w0) := by
      have h := haround w0 gk ck B b l 40 41 H0.out.2.1 H0.out.1 (by have := H0.out.2.2.2.2.2.1; rw [htx] at this; exact this)
      rwa [HN.out] at h
    have Hcall := hid hcall
    clear hcall
    go_wp2_with (go_at_call 123; refine Hcall.out.mono ?_; rintro e w1 ⟨rfl, hw1⟩)
    (try simp only [Exit.inBlock, Exit.then])
    refine bodyPost_ret (results_none rfl _ _ _) rfl ?_
    refine ⟨rfl, ?_⟩
    rw [htx]
    exact hw1.first H0.out.2.2.1 H0.out.2.2.2.1
  by_cases h4 : n.kind = 4
  · have htx : (en n).item = par 40 (en n).put 41 := if_pos (.inr h4)
    have k3 : (kv == 3) = false := kb_no HV.out.1 (by omega)
    have k4 : (kv == 4) = true := kb_yes HV.out.1 (by omega)
    clear h3 h4
    have hcall : Calls Try.prog 123 #[.pointer (some ⟨b, 0, none⟩), .agg #[.int .i64 kv, .string tv, .slice gk L ck], .int .u8 40, .int .u8 41] w0 (WroteV B b (l ++ bytesG (par 40 (en n).put 41)) w0) := by
      have h := haround w0 gk ck B b l 40 41 H0.out.2.1 H0.out.1 (by have := H0.out.2.2.2.2.2.1; rw [htx] at this; exact this)
      rwa [HN.out] at h
    have Hcall := hid hcall
    clear hcall
    go_wp2_with (go_at_call 123; refine Hcall.out.mono ?_; rintro e w1 ⟨rfl, hw1⟩)
    (try simp only [Exit.inBlock, Exit.then])
    refine bodyPost_ret (results_none rfl _ _ _) rfl ?_
    refine ⟨rfl, ?_⟩
    rw [htx]
    exact hw1.first H0.out.2.2.1 H0.out.2.2.2.1
  · have htx : (en n).item = (en n).put := if_neg (fun h => h.elim h3 h4)
    have k3 : (kv == 3) = false := kb_no HV.out.1 (by omega)
    have k4 : (kv == 4) = false := kb_no HV.out.1 (by omega)
    clear h3 h4
    have hcall : Calls Try.prog 83 #[.pointer (some ⟨b, 0, none⟩), .agg #[.int .i64 kv, .string tv, .slice gk L ck]] w0 (WroteV B b (l ++ bytesG (en n).put) w0) := by
      have h := hput w0 gk ck B b l H0.out.2.1 H0.out.1 (by have := H0.out.2.2.2.2.2.1; rw [htx] at this; exact this)
      rwa [HN.out] at h
    have Hcall := hid hcall
    clear hcall
    go_wp2_with (go_at_call 83; refine Hcall.out.mono ?_; rintro e w1 ⟨rfl, hw1⟩)
    refine bodyPost_end (results_none rfl _ _ _) rfl ?_
    refine ⟨rfl, ?_⟩
    rw [htx]
    exact hw1.first H0.out.2.2.1 H0.out.2.2.2.1
theorem kid_cells {w : World} {B L : Nat} {gk : Option Addr} {f : Nd} (h : NdAt w (fun q => q < B) gk f 0) (hL : L = f.len) (_hB : B ≤ w.heap.size) (h1 : f.len = 1) :
    ∃ (m : Nod) (g off : Nat) (gm : Option Addr) (cm : Nat) (k : Int) (t : ByteArray) (M : Nat), f = .cons m.kind m.text m.kids .nil ∧ gk = some ⟨g, off, none⟩ ∧ nodeV m gm cm = .agg #[.int .i64 k, .string t, .slice gm M cm] ∧
      w.cell? ⟨g, off, none⟩ = some (.int .i64 k) ∧ w.cell? ⟨g, off + 1, none⟩ = some (.string t) ∧ w.cell? ⟨g, off + 2, none⟩ = some (.slice gm M cm) ∧ NdAt w (fun q => q < B) gm m.kids 0 ∧ g < B ∧ (L : Int) = 1 := by
  cases f with
  | nil => simp [Nd.len] at h1
  | cons a t k r =>
    cases r with
    | cons => simp [Nd.len] at h1
    | nil =>
      unfold NdAt at h
      obtain ⟨⟨g, off, gm, cm, rfl, hg, a0, a1, a2, hk⟩, _⟩ := h
      refine ⟨⟨a, t, k⟩, g, off, gm, cm, a, ⟨t.toArray⟩, k.len, rfl, rfl, rfl, ?_, ?_, ?_, hk, hg, ?_⟩
      · simpa using a0
      · simpa using a1
      · simpa using a2
      · rw [hL]; exact_mod_cast h1
theorem en_one {n m : Nod} (h : n.kids = .cons m.kind m.text m.kids .nil) : Fmt.hdE (Fmt.ens n.kids) = en m := by rw [h]; rfl
set_option maxHeartbeats 4000000 in
set_option maxRecDepth 8000 in
theorem atom_of {n : Nod} (hput : PutC n) (haround : AroundC n) (h1 : n.kind = 5 ∨ n.kind = 6 → n.kids.len = 1) (hkids : ∀ m : Nod, n.kids = .cons m.kind m.text m.kids .nil → AroundC m) : AtomC n := by
  intro w gk ck B b l hn hw hlen
  have hat : (en n).atom = if n.kind = 1 ∨ n.kind = 2 then [.tok n.kind n.text] else if n.kind = 5 then par 91 (Fmt.hdE (Fmt.ens n.kids)).put 93 else if n.kind = 6 then par 123 (Fmt.hdE (Fmt.ens n.kids)).put 125 else par 40 (en n).put 41 := rfl
  have hpt : n.kind = 1 ∨ n.kind = 2 → (en n).put = [.tok n.kind n.text] := fun h => if_pos h
  have hBw : B ≤ w.heap.size := Nat.le_trans hw.le (Nat.le_of_lt hw.lt)
  obtain ⟨kv, hkv⟩ : ∃ kv : Int, kv = n.kind := ⟨_, rfl⟩
  obtain ⟨tv, htv⟩ : ∃ tv : ByteArray, tv = ⟨n.text.toArray⟩ := ⟨_, rfl⟩
  obtain ⟨L, hL⟩ : ∃ L, L = n.kids.len := ⟨_, rfl⟩
  have hbk := Bk.new w 49 [.int .i64 kv, .string tv, .slice gk L ck]
  have hb0 : Below w.heap.size w (w.alloc (.cells #[.int .i64 kv, .string tv, .slice gk L ck] 49)) := (Below.refl _ _).alloc (Nat.le_refl _) _
  have hNV : nodeV n gk ck = .agg #[.int .i64 kv, .string tv, .slice gk L ck] := by unfold nodeV; rw [hkv, htv, hL]
  rw [hNV]
  have HN := hid hNV
  have HV := hid (And.intro hkv (And.intro htv hL))
  clear hkv htv hL hNV
  go_enter Try.func122, Try.ntmps122
  go_upto_region 1 with fail
  obtain ⟨w0, hw0⟩ : ∃ w0, w0 = w.alloc (.cells #[.int .i64 kv, .string tv, .slice gk L ck] 49) := ⟨_, rfl⟩
  obtain ⟨x, hx⟩ : ∃ x, x = w.heap.size := ⟨_, rfl⟩
  rw [← hw0] at hbk hb0 ⊢
  rw [← hx] at hbk ⊢
  have hxb : x ≠ b := by have := hw.lt; omega
  have c0 := hbk.cell 0
  have c1 := hbk.cell 1
  have c2 := hbk.cell 2
  simp only [List.getElem?_cons_zero, List.getElem?_cons_succ] at c0 c1 c2
  have H0 := hid (And.intro (hw.below hb0) (And.intro (nd_below hn (hb0.mono hBw)) (And.intro (hb0.mono hBw) (And.intro (WrKp.below (b := b) hb0) (And.intro hbk (And.intro hlen (Nat.le_trans hBw hb0.size)))))))
  clear hw hn hbk hb0 hlen hBw hw0 hx
  by_cases q1 : n.kind = 1
  · have htx : (en n).atom = (en n).put := by rw [hat, hpt (by omega), if_pos (by omega)]
    have k1 : (kv == 1) = true := kb_yes HV.out.1 (by omega)
    clear hat hpt h1 q1
    have hcall : Calls Try.prog 83 #[.pointer (some ⟨b, 0, none⟩), .agg #[.int .i64 kv, .string tv, .slice gk L ck]] w0 (WroteV B b (l ++ bytesG (en n).put) w0) := by
      have h := hput w0 gk ck B b l H0.out.2.1 H0.out.1 (by have := H0.out.2.2.2.2.2.1; rw [htx] at this; exact this)
      rwa [HN.out] at h
    have Hcall := hid hcall
    clear hcall
    go_wp2_with (go_at_call 83; refine Hcall.out.mono ?_; rintro e w1 ⟨rfl, hw1⟩)
    refine bodyPost_end (results_none rfl _ _ _) rfl ?_
    refine ⟨rfl, ?_⟩
    rw [htx]
    exact hw1.first H0.out.2.2.1 H0.out.2.2.2.1
  by_cases q2 : n.kind = 2
  · have htx : (en n).atom = (en n).put := by rw [hat, hpt (by omega), if_pos (by omega)]
    have k1 : (kv == 1) = false := kb_no HV.out.1 (by omega)
    have k2 : (kv == 2) = true := kb_yes HV.out.1 (by omega)
    clear hat hpt h1 q1 q2
    have hcall : Calls Try.prog 83 #[.pointer (some ⟨b, 0, none⟩), .agg #[.int .i64 kv, .string tv, .slice gk L ck]] w0 (WroteV B b (l ++ bytesG (en n).put) w0) := by
      have h := hput w0 gk ck B b l H0.out.2.1 H0.out.1 (by have := H0.out.2.2.2.2.2.1; rw [htx] at this; exact this)
      rwa [HN.out] at h
    have Hcall := hid hcall
    clear hcall
    go_wp2_with (go_at_call 83; refine Hcall.out.mono ?_; rintro e w1 ⟨rfl, hw1⟩)
    refine bodyPost_end (results_none rfl _ _ _) rfl ?_
    refine ⟨rfl, ?_⟩
    rw [htx]
    exact hw1.first H0.out.2.2.1 H0.out.2.2.2.1
  by_cases q5 : n.kind = 5
  · have hone := h1 (by omega)
    obtain ⟨m, g, off, gm, cm, kk, tk, M, hf, rfl, hmv, d0, d1, d2, hm, hg, hL1⟩ := kid_cells H0.out.2.1 HV.out.2.2 H0.out.2.2.2.2.2.2 hone
    have htx : (en n).atom = par 91 (en m).put 93 := by rw [hat, en_one hf]; simp [q5]
    have hcall : Calls Try.prog 123 #[.pointer (some ⟨b, 0, none⟩), .agg #[.int .i64 kk, .string tk, .slice gm M cm], .int .u8 91, .int .u8 93] w0 (WroteV B b (l ++ bytesG (par 91 (en m).put 93)) w0) := by
      have h := hkids m hf w0 gm cm B b l 91 93 hm H0.out.1 (by have := H0.out.2.2.2.2.2.1; rw [htx] at this; exact this)
      rwa [hmv] at h
    have Hcall := hid hcall
    have hL2 : (0 : Int) < (L : Int) := by omega
    clear hcall hm hmv hL1
    have k1 : (kv == 1) = false := kb_no HV.out.1 (by omega)
    have k2 : (kv == 2) = false := kb_no HV.out.1 (by omega)
    have k5 : (kv == 5) = true := kb_yes HV.out.1 (by omega)
    clear hat hpt h1 hf hone hput haround hkids q1 q2 q5
    go_wp2_with (go_at_call 123; refine Hcall.out.mono ?_; rintro e w1 ⟨rfl, hw1⟩)
    refine bodyPost_end (results_none rfl _ _ _) rfl ?_
    refine ⟨rfl, ?_⟩
    rw [htx]
    exact hw1.first H0.out.2.2.1 H0.out.2.2.2.1
  by_cases q6 : n.kind = 6
  · have hone := h1 (by omega)
    obtain ⟨m, g, off, gm, cm, kk, tk, M, hf, rfl, hmv, d0, d1, d2, hm, hg, hL1⟩ := kid_cells H0.out.2.1 HV.out.2.2 H0.out.2.2.2.2.2.2 hone
    have htx : (en n).atom = par 123 (en m).put 125 := by rw [hat, en_one hf]; simp [q6]
    have hcall : Calls Try.prog 123 #[.pointer (some ⟨b, 0, none⟩), .agg #[.int .i64 kk, .string tk, .slice gm M cm], .int .u8 123, .int .u8 125] w0 (WroteV B b (l ++ bytesG (par 123 (en m).put 125)) w0) := by
      have h := hkids m hf w0 gm cm B b l 123 125 hm H0.out.1 (by have := H0.out.2.2.2.2.2.1; rw [htx] at this; exact this)
      rwa [hmv] at h
    have Hcall := hid hcall
    have hL2 : (0 : Int) < (L : Int) := by omega
    clear hcall hm hmv hL1
    have k1 : (kv == 1) = false := kb_no HV.out.1 (by omega)
    have k2 : (kv == 2) = false := kb_no HV.out.1 (by omega)
    have k5 : (kv == 5) = false := kb_no HV.out.1 (by omega)
    have k6 : (kv == 6) = true := kb_yes HV.out.1 (by omega)
    clear hat hpt h1 hf hone hput haround hkids q1 q2 q5 q6
    go_wp2_with (go_at_call 123; refine Hcall.out.mono ?_; rintro e w1 ⟨rfl, hw1⟩)
    refine bodyPost_end (results_none rfl _ _ _) rfl ?_
    refine ⟨rfl, ?_⟩
    rw [htx]
    exact hw1.first H0.out.2.2.1 H0.out.2.2.2.1
  · have htx : (en n).atom = par 40 (en n).put 41 := by rw [hat]; simp [q1, q2, q5, q6]
    have k1 : (kv == 1) = false := kb_no HV.out.1 (by omega)
    have k2 : (kv == 2) = false := kb_no HV.out.1 (by omega)
    have k5 : (kv == 5) = false := kb_no HV.out.1 (by omega)
    have k6 : (kv == 6) = false := kb_no HV.out.1 (by omega)
    clear hat hpt h1 q1 q2 q5 q6
    have hcall : Calls Try.prog 123 #[.pointer (some ⟨b, 0, none⟩), .agg #[.int .i64 kv, .string tv, .slice gk L ck], .int .u8 40, .int .u8 41] w0 (WroteV B b (l ++ bytesG (par 40 (en n).put 41)) w0) := by
      have h := haround w0 gk ck B b l 40 41 H0.out.2.1 H0.out.1 (by have := H0.out.2.2.2.2.2.1; rw [htx] at this; exact this)
      rwa [HN.out] at h
    have Hcall := hid hcall
    clear hcall
    go_wp2_with (go_at_call 123; refine Hcall.out.mono ?_; rintro e w1 ⟨rfl, hw1⟩)
    refine bodyPost_end (results_none rfl _ _ _) rfl ?_
    refine ⟨rfl, ?_⟩
    rw [htx]
    exact hw1.first H0.out.2.2.1 H0.out.2.2.2.1
end Go.Proofs.Ytjaampgpihicmaa
