/- Chapter 6 (format): a grammar that is read is written: its text. -/
import Derived.Test.YtjaampgpihicmaaFmt4
import Derived.Test.YtjaampgpihicmaaFmt5
import Derived.Test.YtjaampgpihicmaaSynLaw7
namespace Go.Proofs.Ytjaampgpihicmaa
open Go.RowKit
attribute [local go_sem ↓] Go.wp_at_zero Go.wp_at_succ
attribute [local go_sem] frozen_alloc_lt
open Syn (Nd Nod)
open Fmt (bytesG en sg Gl textG ruleG headG startG firstN bytesG_app bytesG_cons)

theorem good_len {l : List UInt8} (h : Syn.goodL l = true) : l.length ≤ 32 := by
  unfold Syn.goodL at h
  simp only [Bool.and_eq_true, decide_eq_true_eq] at h
  omega
theorem rules_len : ∀ {rs : List (List UInt8 × Nod)}, (∀ x ∈ rs, Syn.goodL x.1 = true ∧ x.2.proper = true) → (bytesG (rs.flatMap ruleG)).length ≤ 70 * Syn.bodies rs
  | [], _ => Nat.zero_le _
  | z :: r, h => by
    have h1 := h z List.mem_cons_self
    have ih := rules_len (rs := r) (fun x hx => h x (List.mem_cons_of_mem _ hx))
    have hf := (Fmt.fit_node h1.2).1
    have hg := good_len h1.1
    unfold Fmt.En.bp Fmt.sz at hf
    unfold Syn.bodies
    rw [List.flatMap_cons, bytesG_app, List.length_append, bytes_rule]
    simp only [List.length_append, List.length_cons, List.length_nil]
    omega
theorem read_len {l st : List UInt8} {rs : List (List UInt8 × Nod)} (h : Syn.parseS l = .ok st rs) : (bytesG (textG st rs)).length ≤ 10000000 := by
  obtain ⟨h1, _, _, h4⟩ := Syn.parse_proper h
  have h5 := rules_len h4
  have h6 := Syn.parse_bodies h
  have h7 := good_len h1
  have h8 : (bytesG (headG st rs)).length ≤ 40 := by
    unfold headG
    split
    · exact Nat.zero_le _
    · simp [startG, bytesG, Gl.bytes, sg, Lex.shape]
      omega
  unfold textG
  rw [bytesG_app, List.length_append]
  omega
theorem bodies_at : ∀ {rs : List (List UInt8 × Nod)} {z : List UInt8 × Nod}, z ∈ rs → z.2.kids.nodes + 2 ≤ Syn.bodies rs
  | [], _, h => by cases h
  | y :: r, z, h => by
    unfold Syn.bodies
    rcases List.mem_cons.1 h with rfl | h
    · omega
    · have := bodies_at h
      omega
theorem read_proper {l st : List UInt8} {rs : List (List UInt8 × Nod)} (h : Syn.parseS l = .ok st rs) : Syn.properG (st, rs) = true := by
  obtain ⟨h1, h2, _, h4⟩ := Syn.parse_proper h
  unfold Syn.properG
  simp only [Bool.and_eq_true, decide_eq_true_eq, List.all_eq_true]
  refine ⟨⟨h1, List.length_pos_iff.2 h2⟩, fun z hz => ?_⟩
  unfold Syn.properR
  rw [(h4 z hz).1, (h4 z hz).2]
  rfl
/-- The text of a grammar that has been read. -/
theorem text_read {l st : List UInt8} {rs : List (List UInt8 × Nod)} (h : Syn.parseS l = .ok st rs) (w : World) (ga : Option Addr) (ca : Nat) (hr : RulesIn w ga rs) :
    Calls Try.prog 38 #[.agg #[.string ⟨st.toArray⟩, .slice ga rs.length ca]] w fun e w' => e = .returned (.tuple #[.string ⟨(bytesG (textG st rs)).toArray⟩, .int .i64 0]) ∧ Below w.heap.size w w' := by
  obtain ⟨h1, _, h3, h4⟩ := Syn.parse_proper h
  have h6 := Syn.parse_bodies h
  refine text_yes (M := 100000) (by omega) w (st, rs) ga ca hr (by have := good_len h1; show st.length ≤ _; omega) (by show rs.length ≤ _; omega) (Syn.parse_fits h).2 (fun z hz => ⟨by have := good_len (h4 z hz).1; omega, Syn.Nod.proper_short (h4 z hz).2⟩) (read_proper h) (fun z hz => ?_) (by have := read_len h; show (bytesG (textG st rs)).length ≤ _; omega)
  have := bodies_at (rs := rs) hz
  rw [Syn.Nod.row, Nd.nodes, Nd.nodes]
  omega
def spoken6 : List UInt8 × Nod := ([97], ⟨4, [], .cons 6 [] (.cons 3 [] (.cons 2 [120] .nil (.cons 1 [98] .nil .nil)) .nil) (.cons 3 [] .nil .nil)⟩)
theorem speaks6_parse : Syn.parseS (⟨#[97, 32, 58, 32, 40, 32, 39, 120, 39, 32, 98, 32, 41, 42, 32, 124, 32, 59]⟩ : ByteArray).data.toList = .ok [97] [spoken6] := by kernel_rfl
theorem speaks6_text : bytesG (textG [97] [spoken6]) = [97, 58, 32, 123, 39, 120, 39, 32, 98, 125, 124, 59, 10] := by kernel_rfl
set_option maxRecDepth 8000 in
set_option maxHeartbeats 4000000 in
theorem speaks06_calls (w : World) : Calls Try.prog 37 #[] w fun e w' => e = .returned (.bool true) ∧ Below w.heap.size w w' := by
  have hp := parse_calls ⟨#[97, 32, 58, 32, 40, 32, 39, 120, 39, 32, 98, 32, 41, 42, 32, 124, 32, 59]⟩ w (by decide)
  rw [speaks6_parse] at hp
  simp only [ParsePost, List.length_cons, List.length_nil, Nat.zero_add] at hp
  have Hp := hid hp
  clear hp
  go_enter Try.func37, Try.ntmps37
  go_upto_region 2 with (go_at_call 15; refine Hp.out.mono ?_; rintro e w1 ⟨ga, ca, rfl, hr, hb1⟩)
  have hbel := bel_trans (bel_new w1 (.cells #[.string ⟨#[97]⟩, .slice ga 1 ca] 25)) (bel_new _ (.cells #[.int .i64 0, .int .i64 0, .int .i64 0] 28))
  have hk1 := (Bk.new w1 25 [.string ⟨#[97]⟩, .slice ga 1 ca]).alloc (.cells #[.int .i64 0, .int .i64 0, .int .i64 0] 28)
  have hk2 : Bk ((w1.alloc (.cells #[.string ⟨#[97]⟩, .slice ga 1 ca] 25)).alloc (.cells #[.int .i64 0, .int .i64 0, .int .i64 0] 28)) (w1.heap.size + 1) 28 [.int .i64 0, .int .i64 0, .int .i64 0] := by
    have := Bk.new (w1.alloc (.cells #[.string ⟨#[97]⟩, .slice ga 1 ca] 25)) 28 [.int .i64 0, .int .i64 0, .int .i64 0]
    simpa using this
  have hri := RulesIn.of hr
  have hrz := hri.later hbel
  obtain ⟨wz, hwz⟩ : ∃ wz, wz = ((w1.alloc (.cells #[.string ⟨#[97]⟩, .slice ga 1 ca] 25)).alloc (.cells #[.int .i64 0, .int .i64 0, .int .i64 0] 28)) := ⟨_, rfl⟩
  obtain ⟨b1, hb1'⟩ : ∃ b1, b1 = w1.heap.size := ⟨_, rfl⟩
  obtain ⟨b2, hb2'⟩ : ∃ b2, b2 = b1 + 1 := ⟨_, rfl⟩
  rw [← hwz] at hbel hk1 hk2 hrz ⊢
  rw [← hb1'] at hk1 hk2 ⊢
  rw [← hb2'] at hk2 ⊢
  have x0 := hk1.cell 0
  have x1 := hk1.cell 1
  simp only [List.getElem?_cons_zero, List.getElem?_cons_succ] at x0 x1
  have ht := text_read speaks6_parse wz ga ca hrz
  rw [speaks6_text] at ht
  have Ht := hid ht
  have H := hid (And.intro hb1 (And.intro hbel hk2))
  clear ht hb1 hbel hk1 hk2 hri hrz hr hwz hb1' hb2'
  go_upto_region 3 with (go_at_call 38; refine Ht.out.mono ?_; rintro e w2 ⟨rfl, hb2⟩)
  have hk3 := H.out.2.2.below hb2 H.out.2.2.lt
  have y2 := hk3.cell 2
  simp only [List.getElem?_cons_zero, List.getElem?_cons_succ] at y2
  go_wp2_with fail
  go_ret
  exact ⟨by first | rfl | simp, bel_trans H.out.1 (bel_trans H.out.2.1 hb2)⟩
end Go.Proofs.Ytjaampgpihicmaa
