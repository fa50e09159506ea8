/- An append to a row of the call's own, one cell an element. -/
import Derived.Test.YtaehooafdbaomaaProds
namespace Go.Proofs.Ytaehooafdbaomaa
open Go.RowKit

/-- One more element of a row of the call's own, by its run. -/
theorem row_app {P : Program} {w : World} {B : Nat} {T : TypeId} {v : Value} {n : Nat} {xs : List Value} (h : w.ownsRow B T 1 v n xs) (t ty : TypeId) (i : TypeInfo) (z : Value) (bytes : Nat) (ht : P.underlying t = some (.slice T)) (hi : P.info? T = some i)
    (hz : i.zero = some z) (hsize : i.size = 1) (hby : i.bytes = bytes) (hzs : z.cells.size = 1) (hbb : bytes ≤ 24) (hB : B ≤ w.heap.size) (hl : n ≤ 1000000) (x : Value) (hx : x.oneCell' = true) (q : Nat) :
    ∃ g2 cap2 w2, (Builtin.append_ #[t, t] ty #[v, .slice (some ⟨w.heap.size, 0, none⟩) 1 1]).run P ((w.alloc (.cells #[x] T)).drewN q) = .ok (.slice (some ⟨g2, 0, none⟩) (n + 1) cap2) w2 ∧
      w2.ownsRow B T 1 (.slice (some ⟨g2, 0, none⟩) (n + 1) cap2) (n + 1) (xs ++ [x]) ∧ Kp (fun k => v.ownBlock = some k) w w2 ∧ (v.ownBlock = some g2 ∨ w.heap.size < g2) ∧ g2 < w2.heap.size := by
  obtain ⟨g2, cap2, w2, hrun, h5, h6, h7, h8⟩ := run_append_lies (P := P) ((w.alloc (.cells #[x] T)).drewN q) t ty B T i z 1 bytes ht hi hz hsize hby hzs (by omega) v n xs (own_drewN (h.alloc _) q) ⟨w.heap.size, 0, none⟩ 1 1 [x] rfl
    (fun j u hj => by
      have hb := Bk.new w T [x]
      rw [add_off0 _ rfl]
      simp only [Nat.zero_add]
      exact (hb.cell j).trans hj) (fun u hu => by simp at hu; subst hu; exact hx) (by omega) (by unfold maxLen; omega) (by
        have : (n + 1) * bytes ≤ 1000001 * 24 := Nat.mul_le_mul (by omega) hbb
        omega) (by show B ≤ (w.alloc (.cells #[x] T)).heap.size; simp; omega) (w.heap.size + 1) (by show (w.alloc (.cells #[x] T)).heap.size = _; simp)
  exact ⟨g2, cap2, w2, hrun, h5, (((Kp.refl _ w).alloc _).drewN q).grown h6 (fun k hk _ => hk), h7.imp id (fun e => by omega), h8⟩
end Go.Proofs.Ytaehooafdbaomaa
