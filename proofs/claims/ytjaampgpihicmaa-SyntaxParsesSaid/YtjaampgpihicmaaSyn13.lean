/- Chapter 5 (syntax): Parse, which recovers. -/
import Derived.Test.YtjaampgpihicmaaSyn12
import Derived.Test.YtjaampgpihicmaaLexWalk9
import Derived.Defers
namespace Go.Proofs.Ytjaampgpihicmaa
open Go.RowKit
attribute [local go_sem ↓] Go.wp_at_zero Go.wp_at_succ
attribute [local go_sem] frozen_alloc_lt
open Syn (Nd Nod)

theorem run_wrong (v : Value) (xT : TypeId) (w : World) : (Instr.typeAssert (.iface 97 v) xT 97 true).run Try.prog w = .ok (.tuple #[v, .bool true]) w := by
  simp [Instr.typeAssert, run_underlying Try.underlying97, go_sem]
attribute [local go_sem] run_wrong
set_option maxHeartbeats 4000000 in
theorem catch_idle (p q : Addr) (w : World) :
    CallsD Try.prog 50 #[.pointer (some p), .pointer (some q)] .returning w fun e u' w' => e = .returned (.tuple #[]) ∧ u' = .returning ∧ w' = w := by
  refine callsD_of_wpS Try.func50 rfl fun c₀ cs hu => ?_
  have ht : (#[Value.pointer (some p), Value.pointer (some q)] ++ Array.replicate (Try.f50.ntmps - (#[Value.pointer (some p), Value.pointer (some q)]).size) undef) = #[Value.pointer (some p), Value.pointer (some q), undef, undef, undef, undef, undef, undef, undef, undef, undef, undef, undef, undef, undef, undef, undef, undef, undef] := by rw [Try.ntmps50]; rfl
  rw [ht]
  apply wpS_seq
  apply wpS_region
  generalize hK : Code.wpS Try.prog _ (bodyPostS Try.prog Try.f50 c₀ cs _) = K
  simp [wpOpsS, go_sem, recoverD, hu, Exit.thenS]
  rw [← hK]
  clear hK K
  refine wpS_of_wp ?_
  go_wp2
  cases c₀
  simp_all [bodyPostS, results, Try.results50]
set_option maxRecDepth 8000 in
set_option maxHeartbeats 4000000 in
theorem catch_panicking (b c : Nat) (f : Lex.Flt) (w : World) (hb : Bk w b 25 [.string ⟨#[]⟩, .slice none 0 0]) (hc : Bk w c 28 [.int .i64 0, .int .i64 0, .int .i64 0]) (hbc : ¬ c = b) :
    CallsD Try.prog 50 #[.pointer (some ⟨b, 0, none⟩), .pointer (some ⟨c, 0, none⟩)] (.panicking [{ v := wrongV f, recovered := false }]) w fun e u' w' =>
      e = .returned (.tuple #[]) ∧ u' = .panicking [{ v := wrongV f, recovered := true }] ∧ Bk w' b 25 [.string ⟨#[]⟩, .slice none 0 0] ∧ Bk w' c 28 [.int .i64 f.line, .int .i64 f.col, .int .i64 f.code] ∧ Kp (fun k => k = b ∨ k = c) w w' := by
  obtain ⟨li, hli⟩ : ∃ li : Int, li = f.line := ⟨_, rfl⟩
  obtain ⟨co, hco⟩ : ∃ co : Int, co = f.col := ⟨_, rfl⟩
  obtain ⟨cd, hcd⟩ : ∃ cd : Int, cd = f.code := ⟨_, rfl⟩
  simp only [wrongV, ← hli, ← hco, ← hcd]
  clear hli hco hcd
  refine callsD_of_wpS Try.func50 rfl fun c₀ cs hu => ?_
  have ht : (#[Value.pointer (some ⟨b, 0, none⟩), Value.pointer (some ⟨c, 0, none⟩)] ++ Array.replicate (Try.f50.ntmps - (#[Value.pointer (some ⟨b, 0, none⟩), Value.pointer (some ⟨c, 0, none⟩)]).size) undef) = #[Value.pointer (some ⟨b, 0, none⟩), Value.pointer (some ⟨c, 0, none⟩), undef, undef, undef, undef, undef, undef, undef, undef, undef, undef, undef, undef, undef, undef, undef, undef, undef] := by rw [Try.ntmps50]; rfl
  rw [ht]
  apply wpS_seq
  apply wpS_region
  generalize hK : Code.wpS Try.prog _ (bodyPostS Try.prog Try.f50 c₀ cs _) = K
  simp [wpOpsS, go_sem, recoverD, hu, Exit.thenS]
  rw [← hK]
  clear hK K
  refine wpS_of_wp ?_
  have b0 := hb.cell 0
  have b1 := hb.cell 1
  have f0 := hb.free 0
  have f1 := hb.free 1
  have c0 := hc.cell 0
  have c1 := hc.cell 1
  have c2 := hc.cell 2
  have g0 := hc.free 0
  have g1 := hc.free 1
  have g2 := hc.free 2
  have hbl := hb.lt
  have hcl := hc.lt
  simp only [List.getElem?_cons_zero, List.getElem?_cons_succ] at b0 b1 c0 c1 c2
  go_wp2
  go_region
  show bodyPostS Try.prog Try.f50 c₀ cs _ Exit.normal _ _ _
  have hbc2 : b ≠ c := fun e => hbc e.symm
  refine ⟨rfl, _, rfl, .tuple #[], by simp [results, Try.results50], rfl, rfl, ?_, ?_, ?_⟩
  · exact ((((((hb.set 0 (.string ⟨#[]⟩)).set 1 (.slice none 0 0)).far (p := ⟨c, 0, none⟩) hbc2 (.int .i64 li)).far (p := ⟨c, 1, none⟩) hbc2 (.int .i64 co)).far (p := ⟨c, 2, none⟩) hbc2 (.int .i64 cd)).alloc _).drew
  · exact ((((((hc.far (p := ⟨b, 0, none⟩) hbc (.string ⟨#[]⟩)).far (p := ⟨b, 1, none⟩) hbc (.slice none 0 0)).set 0 (.int .i64 li)).set 1 (.int .i64 co)).set 2 (.int .i64 cd)).alloc _).drew
  · refine Kp.drew (Kp.alloc ?_ _)
    exact (((((Kp.refl (fun k => k = b ∨ k = c) w).set (p := ⟨b, 0, none⟩) (.inl (.inl rfl)) _).set (p := ⟨b, 1, none⟩) (.inl (.inl rfl)) _).set (p := ⟨c, 0, none⟩) (.inl (.inr rfl)) _).set (p := ⟨c, 1, none⟩) (.inl (.inr rfl)) _).set (p := ⟨c, 2, none⟩) (.inl (.inr rfl)) _
end Go.Proofs.Ytjaampgpihicmaa
