/- Chapter 4 (lex): the first line of each statement: four tokens. -/
import Derived.Test.YtjhhibnjegnpmaaLexWalk9
namespace Go.Proofs.Ytjhhibnjegnpmaa
open Go.RowKit
attribute [local go_sem ↓] Go.wp_at_zero Go.wp_at_succ
attribute [local go_sem] frozen_alloc_lt

theorem scan_at {P : Program} {f : FuncId} {args : Array Value} {w w0 : World} {r r' : Lex.ScanRes} (h : r = r')
    (hc : Calls P f args w fun e w' => ScanPost w0 e w' r) : Calls P f args w fun e w' => ScanPost w0 e w' r' := h ▸ hc

theorem speaks_scan : Lex.scan (⟨#[97, 45, 49, 58, 39, 120, 39]⟩ : ByteArray).data.toList = .good [⟨1, [97, 45, 49], 1, 1⟩, ⟨3, [58], 1, 4⟩, ⟨2, [120], 1, 5⟩, ⟨4, [], 1, 8⟩] := by rfl

theorem add_zero_off (g i : Nat) : ((⟨g, 0, none⟩ : Addr).add i) = ⟨g, i, none⟩ := by unfold Addr.add; split <;> simp_all

theorem own_cells {w : World} {base e size n cap g : Nat} {xs : List Value} (h : w.ownsRow base e size (.slice (some ⟨g, 0, none⟩) n cap) n xs) : ∀ (j : Nat) (u : Value), xs[j]? = some u → w.cell? ⟨g, j, none⟩ = some u := by
  intro j u hu
  have := h.cells (g := g) rfl j u hu
  rwa [add_zero_off] at this

set_option maxHeartbeats 4000000 in
theorem speaks_calls (w : World) : Calls Try.prog 9 #[] w fun e w' => e = .returned (.bool true) ∧ Below w.heap.size w w' := by
  go_enter Try.func9, Try.ntmps9
  go_wp2_with (go_at_call 11; refine (scan_at speaks_scan (scan_calls _ _ (by decide))).mono ?_; rintro e w1 ⟨v, rfl, hown, hb⟩; obtain ⟨g, cap, rfl, -, hg⟩ := hown.form (by decide); have c0 := own_cells hown 0 _ rfl; have c1 := own_cells hown 1 _ rfl; have c2 := own_cells hown 2 _ rfl; have c3 := own_cells hown 3 _ rfl; have c8 := own_cells hown 8 _ rfl; have c9 := own_cells hown 9 _ rfl; have c10 := own_cells hown 10 _ rfl; have c11 := own_cells hown 11 _ rfl; have c12 := own_cells hown 12 _ rfl; have c13 := own_cells hown 13 _ rfl; have c14 := own_cells hown 14 _ rfl; have c15 := own_cells hown 15 _ rfl; have hne := World.new_ne w1 _ c0)
  go_ret
  exact ⟨rfl, hb.alloc hb.size _⟩
end Go.Proofs.Ytjhhibnjegnpmaa
