/- Chapter 5 (syntax): SyntaxBounds: as many rules, tokens and brackets as there may be, and one more. -/
import Derived.Test.YtjaampgpihicmaaLaw05c
import Derived.Test.YtjaampgpihicmaaSynBound
import Derived.Lib.AppendStr
import Derived.Lib.SlBytesConst
import Derived.OwnWalk
namespace Go.Proofs.Ytjaampgpihicmaa
open Go.RowKit
attribute [local go_sem ↓] Go.wp_at_zero Go.wp_at_succ
attribute [local go_sem] frozen_alloc_lt
open Syn (Nd Nod)

theorem and7 (n : Int) : ∃ m : Nat, m ≤ 7 ∧ bits .and .i64 n 7 = (m : Int) := by
  have h : (BitVec.ofInt 64 n &&& BitVec.ofInt 64 7).toNat ≤ 7 := by
    rw [BitVec.toNat_and]
    exact Nat.and_le_right
  refine ⟨(BitVec.ofInt 64 n &&& BitVec.ofInt 64 7).toNat, h, ?_⟩
  show IntKind.i64.wrap ((BitVec.ofInt 64 n &&& BitVec.ofInt 64 7).toNat : Int) = _
  rw [IntKind.wrap_i64]
  omega
theorem and15 (n : Int) : ∃ m : Nat, m ≤ 15 ∧ bits .and .i64 n 15 = (m : Int) := by
  have h : (BitVec.ofInt 64 n &&& BitVec.ofInt 64 15).toNat ≤ 15 := by
    rw [BitVec.toNat_and]
    exact Nat.and_le_right
  refine ⟨(BitVec.ofInt 64 n &&& BitVec.ofInt 64 15).toNat, h, ?_⟩
  show IntKind.i64.wrap ((BitVec.ofInt 64 n &&& BitVec.ofInt 64 15).toNat : Int) = _
  rw [IntKind.wrap_i64]
  omega
theorem bytes_app (a b : List UInt8) : ((⟨a.toArray⟩ : ByteArray) ++ (⟨b.toArray⟩ : ByteArray)) = ⟨(a ++ b).toArray⟩ := by
  apply ByteArray.ext
  simp
def BndAt (w1 : World) (v0 v5 v6 v7 : Value) (wx : World) : Prop := ∃ (N M c : Nat) (X : List UInt8), v0 = .int .i64 N ∧ v5 = .string ⟨X.toArray⟩ ∧ v6 = .int .i64 M ∧ v7 = .int .i64 c ∧ Below w1.heap.size w1 wx ∧ X.length ≤ 100000 ∧ ((N ≤ M ∧ Syn.okB (Syn.parseS X) = true) ∨ (M < N ∧ Syn.badB c (Syn.parseS X) = true))
def Loop0 (w1 : World) (N : Nat) (k : Nat) (v5 v8 : Value) (w : World) : Prop := ∃ i : Nat, v8 = .int .i64 i ∧ i ≤ N ∧ v5 = .string ⟨(Syn.text0 i).toArray⟩ ∧ k = N - i ∧ w = w1
theorem text0_succ (i : Nat) : Syn.text0 (i + 1) = Syn.text0 i ++ [97, 58, 59] := by
  unfold Syn.text0
  rw [List.replicate_succ', List.flatten_append]
  rfl
theorem text0_len : ∀ i, (Syn.text0 i).length = 3 * i
  | 0 => rfl
  | i + 1 => by rw [text0_succ, List.length_append, text0_len i]; simp; omega
def opens (i : Nat) : List UInt8 := 97 :: 58 :: List.replicate i 40
def closes (N i : Nat) : List UInt8 := opens N ++ 98 :: List.replicate i 41
theorem opens_succ (i : Nat) : opens (i + 1) = opens i ++ [40] := by
  unfold opens
  rw [List.replicate_succ']
  rfl
theorem opens_len (i : Nat) : (opens i).length = i + 2 := by simp [opens]
theorem closes_succ (N i : Nat) : closes N (i + 1) = closes N i ++ [41] := by
  unfold closes
  rw [List.replicate_succ']
  simp
theorem closes_len (N i : Nat) : (closes N i).length = N + i + 3 := by simp [closes, opens_len]; omega
theorem closes_text (N : Nat) : closes N N ++ [59] = Syn.text2 N := by
  unfold closes opens Syn.text2
  simp
def Loop2 (w1 : World) (f : Nat → List UInt8) (N : Nat) (k : Nat) (v5 v11 : Value) (w : World) : Prop := ∃ i : Nat, v11 = .int .i64 i ∧ i ≤ N ∧ v5 = .string ⟨(f i).toArray⟩ ∧ k = N - i ∧ w = w1
def bcells (l : List UInt8) : List Value := l.map fun b => Value.int .u8 (b.toNat : Int)
def bs (i : Nat) : List UInt8 := 97 :: 58 :: (List.replicate i [32, 98]).flatten
theorem bs_succ (i : Nat) : bs (i + 1) = bs i ++ [32, 98] := by
  unfold bs
  rw [List.replicate_succ', List.flatten_append]
  rfl
theorem bs_len : ∀ i, (bs i).length = 2 + i * 2
  | 0 => rfl
  | i + 1 => by rw [bs_succ, List.length_append, bs_len i]; simp; omega
theorem bs_text (K : Nat) : bs K ++ [59] = Syn.text1 K := rfl
theorem und_bytes : Try.prog.underlying 54 = some (.slice 5) := Try.underlying54
theorem und_u8 : Try.prog.underlying 5 = some (.int .u8) := by kernel_rfl
theorem und_str : Try.prog.underlying 9 = some .string := Try.underlying9
/-- An append at an operation, by its run. -/
theorem wpList_app2 {P : Program} {w : World} {ops : Array Oper} {rest : List Oper} {o : Oper} {a : Act} {Q : Exit → Act → World → Prop} (hgd : o.guard = none) (s x : Operand) (t u : TypeId)
    (ho : o.op = .call { callee := .builtin .append, args := #[s, x], argTypes := #[t, u] }) (v y r : Value) (w2 : World) (hs : a.eval s = v) (hx : a.eval x = y)
    (hrun : (Builtin.append_ #[t, u] o.type #[v, y]).run P w = .ok r w2) (h : wpList P ops Q rest (a.put o.dst r) w2) : wpList P ops Q (o :: rest) a w := by
  refine wpList_plain hgd fun K hK => ?_
  unfold Oper.wp execOp
  simp only [ho, resolve, invoke, builtin, Sem.run_bind, Sem.run_pure, Result.andThen_ok, List.map_toArray, List.map_cons, List.map_nil, hs, hx, hrun]
  exact hK _ _ h
/-- The first append: the row that a conversion has made is full. -/
theorem first_app (w : World) (b base : Nat) (ty : TypeId) (h0 : w.cell? ⟨b, 0, none⟩ = some (.int .u8 97)) (h1 : w.cell? ⟨b, 1, none⟩ = some (.int .u8 58)) (hbase : base ≤ w.heap.size) :
    ∃ v' w', (Builtin.append_ #[54, 9] ty #[.slice (some ⟨b, 0, none⟩) 2 2, .string ⟨#[32, 98]⟩]).run Try.prog w = .ok v' w' ∧ w'.ownsRow base 5 1 v' 4 (bcells (bs 1)) ∧ Below w.heap.size w w' := by
  obtain ⟨i8, hi8, z0, z1, z2⟩ := info_parts u8Info
  have hs2 : (⟨#[32, 98]⟩ : ByteArray).size = 2 := rfl
  have hr := Lib.run_append_grow_string (P := Try.prog) w 54 9 ty 5 i8 (.int .u8 0) und_bytes und_str hi8 z0 ⟨b, 0, none⟩ 2 2 [.int .u8 97, .int .u8 58] (by rw [z1]; rfl) (fun j v hj => by
    match j, hj with
    | 0, hj => simp at hj; subst hj; rw [addr_add0]; exact h0
    | 1, hj => simp at hj; subst hj; rw [addr_add0]; exact h1) ⟨#[32, 98]⟩ (by rw [hs2]; omega) (by rw [hs2]; decide) (by rw [hs2, z2]; exact growslice_fits (by omega) (by omega))
  rw [hs2] at hr
  have hge := grownCap_ge w 4 2 5
  have hcm : grownCap w 4 2 5 ≤ maxLen := grownCap_le_maxLen w 4 2 5 (by decide)
  refine ⟨_, _, hr, ⟨rfl, .inr ⟨w.heap.size, _, _, rfl, hbase, heap_alloc_new w.drew _, hge, hcm, ?_, ?_⟩⟩, ?_⟩
  · have hz1 : (Value.int IntKind.u8 0).cells.size = 1 := rfl
    simp only [Array.size_append, List.size_toArray, size_zeroCells, hz1, Lib.strCells_length, hs2]
    simp
    omega
  · simp only [Array.toList_append, List.append_assoc]
    rfl
  · exact ((Below.refl w.heap.size w).drew).alloc (by simp) _
def Loop1 (w1 : World) (K : Nat) (k : Nat) (v9 v10 : Value) (w : World) : Prop := ∃ i : Nat, v10 = .int .i64 i ∧ i ≤ K ∧ k = K - i ∧ Below w1.heap.size w1 w ∧ ((i = 0 ∧ ∃ b, v9 = .slice (some ⟨b, 0, none⟩) 2 2 ∧ w.cell? ⟨b, 0, none⟩ = some (.int .u8 97) ∧ w.cell? ⟨b, 1, none⟩ = some (.int .u8 58)) ∨ w.ownsRow w1.heap.size 5 1 v9 (2 + i * 2) (bcells (bs i)))
theorem loop1_app {w1 w : World} {i : Nat} {v9 : Value} (hi : i ≤ 10000) (hb : Below w1.heap.size w1 w) (h : (i = 0 ∧ ∃ b, v9 = .slice (some ⟨b, 0, none⟩) 2 2 ∧ w.cell? ⟨b, 0, none⟩ = some (.int .u8 97) ∧ w.cell? ⟨b, 1, none⟩ = some (.int .u8 58)) ∨ w.ownsRow w1.heap.size 5 1 v9 (2 + i * 2) (bcells (bs i))) (ty : TypeId) :
    ∃ v' w', (Builtin.append_ #[54, 9] ty #[v9, .string ⟨#[32, 98]⟩]).run Try.prog w = .ok v' w' ∧ w'.ownsRow w1.heap.size 5 1 v' (2 + (i + 1) * 2) (bcells (bs (i + 1))) ∧ Below w1.heap.size w1 w' := by
  rcases h with ⟨rfl, b, rfl, h0, h1⟩ | h
  · obtain ⟨v', w', hr, ho, hb2⟩ := first_app w b w1.heap.size ty h0 h1 hb.size
    exact ⟨v', w', hr, ho, hb.trans (hb2.mono hb.size)⟩
  · obtain ⟨i8, hi8, z0, z1, z2⟩ := info_parts u8Info
    have hs2 : (⟨#[32, 98]⟩ : ByteArray).size = 2 := rfl
    obtain ⟨v', w', hr, ho, hg, _⟩ := Lib.run_append_own_string (P := Try.prog) w w1.heap.size 54 9 ty 5 i8 und_bytes und_str hi8 z0 z1 z2 v9 _ _ h ⟨#[32, 98]⟩ (by rw [hs2]; unfold maxLen; omega) (by rw [hs2]; omega) hb.size
    refine ⟨v', w', hr, ?_, hb.grown hg hb.size (fun k hk => (World.ownsRow.lt h k hk).1)⟩
    rw [hs2] at ho
    have e : bcells (bs (i + 1)) = bcells (bs i) ++ Lib.strCells ⟨#[32, 98]⟩ := by
      rw [bs_succ]
      unfold bcells Lib.strCells
      rw [List.map_append]
    rw [e, show 2 + (i + 1) * 2 = 2 + i * 2 + 2 by omega]
    exact ho
set_option maxRecDepth 8000 in
set_option maxHeartbeats 4000000 in
theorem bounds_calls (n which : Int) (w : World) : Calls Try.prog 5 #[.int .i64 n, .int .i64 which] w fun e w' => e = .returned (.bool true) ∧ Below w.heap.size w w' := by
  have hcase : (which.tmod 3 + 3) % 3 = 0 ∨ (which.tmod 3 + 3) % 3 = 1 ∨ (which.tmod 3 + 3) % 3 = 2 := by omega
  have Hcase := hid hcase
  have hq1 : which.tmod 3 < 3 := Int.tmod_lt_of_pos _ (by decide)
  have hq2 : -3 < which.tmod 3 := Int.lt_tmod_of_pos _ (by decide)
  clear hcase
  go_enter Try.func5, Try.ntmps5
  go_upto_block 0 with (go_at_call 14; refine (speaks05_calls _).mono ?_; rintro e w1 ⟨rfl, hb1⟩)
  go_cut [0, 5, 6, 7, 20] (fun v0 v5 v6 v7 v20 wx => BndAt w1 v0 v5 v6 v7 wx)
  case first =>
    rcases Hcase.out with h3 | h3 | h3
    · obtain ⟨m, hm, h7⟩ := and7 n
      obtain ⟨N, hN⟩ : ∃ N, N = 60 + m := ⟨_, rfl⟩
      have hNi : (60 : Int) + (m : Int) = (N : Int) := by omega
      have hN1 : N ≤ 67 := by omega
      have hN2 : 60 ≤ N := by omega
      clear hm hN
      go_wp2_with fail
      clear hNi h7 h3
      go_loopg [5, 8] N (fun k v5 v8 wr => Loop0 w1 N k v5 v8 wr)
      case atStart => exact ⟨0, rfl, Nat.zero_le _, rfl, rfl, rfl⟩
      case round =>
        obtain ⟨i, rfl, hi, rfl, hk, rfl⟩ := hrel
        have Hk := hid hk
        clear hk
        rcases Nat.lt_or_ge i N with hlt | hge
        · have hlt' : (i : Int) < (N : Int) := by omega
          obtain ⟨X, hX⟩ : ∃ X : ByteArray, X = ⟨(Syn.text0 i).toArray⟩ := ⟨_, rfl⟩
          have hXs : X.size ≤ 1000 := by rw [hX]; show (Syn.text0 i).toArray.size ≤ 1000; rw [List.size_toArray, text0_len]; omega
          rw [← hX]
          have HX := hid hX
          clear hX
          go_wp2_with fail
          go_roundg (N - (i + 1))
          case measure => have := Hk.out; omega
          case rel => exact ⟨i + 1, by go_num, by omega, by rw [text0_succ, HX.out]; exact congrArg Value.string (bytes_app _ _), rfl, rfl⟩
        · have hge' : ¬ (i : Int) < (N : Int) := by omega
          have hiN : i = N := by omega
          subst hiN
          go_wp2_with fail
          go_meet
          refine ⟨i, 64, 6, Syn.text0 i, rfl, rfl, rfl, rfl, Below.refl _ _, ?_, ?_⟩
          · rw [text0_len]; omega
          · rcases Nat.lt_or_ge 64 i with h5 | h5
            · exact .inr ⟨h5, Syn.text0_bad i (by omega) hN1⟩
            · exact .inl ⟨h5, Syn.text0_ok i hN2 h5⟩
    · obtain ⟨m, hm, h7⟩ := and15 n
      obtain ⟨N, hN⟩ : ∃ N, N = 4090 + m := ⟨_, rfl⟩
      have hNi : (4090 : Int) + (m : Int) = (N : Int) := by omega
      have hN1 : N ≤ 4105 := by omega
      have hN2 : 4090 ≤ N := by omega
      clear hm hN
      obtain ⟨K, hK⟩ : ∃ K, K = N - 3 := ⟨_, rfl⟩
      have hNK : N = K + 3 := by omega
      have hKi : (N : Int) - 3 = (K : Int) := by omega
      have hcv := Lib.run_convert_bytes_const (P := Try.prog) w1 54 5 #[.int .u8 97, .int .u8 58] 2 2 und_bytes und_u8
      have HNK := hid hNK
      clear hK hNK
      go_wp2_with fail
      have a0 : (w1.alloc (.cells #[.int .u8 97, .int .u8 58] 5 (2, 3))).cell? ⟨w1.heap.size, 0, none⟩ = some (.int .u8 97) := World.cell?_alloc_mark w1 _ _ _ 0
      have a1 : (w1.alloc (.cells #[.int .u8 97, .int .u8 58] 5 (2, 3))).cell? ⟨w1.heap.size, 1, none⟩ = some (.int .u8 58) := World.cell?_alloc_mark w1 _ _ _ 1
      have hbm := bel_new w1 (.cells #[.int .u8 97, .int .u8 58] 5 (2, 3))
      have A := hid (And.intro a0 (And.intro a1 hbm))
      clear hcv h7 h3 hNi a0 a1 hbm
      obtain ⟨q20, hq20⟩ : ∃ q, q = (which.tmod 3 + 3) % 3 := ⟨_, rfl⟩
      rw [← hq20]
      clear hq20
      go_loopg [9, 10] K (fun k v9 v10 wr => Loop1 w1 K k v9 v10 wr)
      case atStart => exact ⟨0, rfl, Nat.zero_le _, rfl, A.out.2.2, .inl ⟨rfl, _, rfl, A.out.1, A.out.2.1⟩⟩
      case round =>
        obtain ⟨i, rfl, hi, hk, hbw, hor⟩ := hrel
        have Hk := hid hk
        have Hbw := hid hbw
        have Hor := hid hor
        clear hk hbw hor
        rcases Nat.lt_or_ge i K with hlt | hge
        · have hlt' : (i : Int) < (K : Int) := by omega
          obtain ⟨v', w', hrun, hown, hb2⟩ := loop1_app (by have := HNK.out; omega) Hbw.out Hor.out 54
          have Hown := hid hown
          have Hb2 := hid hb2
          clear hown hb2
          go_wp2_with (at_builtin; refine wpList_app2 rfl _ _ _ _ rfl _ (.string ⟨#[32, 98]⟩) v' w' (by rfl) (by rfl) (by exact hrun) ?_)
          go_roundg (K - (i + 1))
          case measure => have := Hk.out; omega
          case rel => exact ⟨i + 1, by go_num, by omega, rfl, Hb2.out, .inr Hown.out⟩
        · have hge' : ¬ (i : Int) < (K : Int) := by omega
          have hiK : i = K := by omega
          subst hiK
          have hown := Hor.out.resolve_left (fun h => by have := h.1; have := HNK.out; omega)
          obtain ⟨g, cap, hv, -, hg⟩ := hown.form (by omega)
          subst hv
          have hcells : ∀ j (hj : j < (bs i).length), wr.cell? ((⟨g, 0, none⟩ : Addr).add j) = some (.int .u8 ((bs i)[j].toNat : Int)) := fun j hj => hown.cells (g := g) rfl j _ (by unfold bcells; rw [List.getElem?_map, List.getElem?_eq_getElem hj]; rfl)
          have hcb := run_convert_bytes_back (P := Try.prog) wr 54 9 5 ⟨g, 0, none⟩ cap (bs i) und_bytes und_u8 und_str hcells
          rw [bs_len] at hcb
          obtain ⟨Y, hY⟩ : ∃ Y : ByteArray, Y = ⟨(bs i).toArray⟩ := ⟨_, rfl⟩
          have hYs : Y.size ≤ 100000 := by rw [hY]; show (bs i).toArray.size ≤ 100000; rw [List.size_toArray, bs_len]; have := HNK.out; omega
          rw [← hY] at hcb
          have HY := hid hY
          clear hY hcells hown Hor
          go_wp2_with fail
          have hZ : Y ++ (⟨#[59]⟩ : ByteArray) = ⟨(Syn.text1 i).toArray⟩ := by rw [HY.out, ← bs_text]; exact bytes_app _ _
          rw [hZ]
          go_meet
          refine ⟨N, 4096, 6, Syn.text1 i, rfl, rfl, rfl, rfl, Hbw.out, ?_, ?_⟩
          · rw [Syn.text1_len]; have := HNK.out; omega
          · have := HNK.out
            rcases Nat.lt_or_ge 4096 N with h5 | h5
            · exact .inr ⟨h5, Syn.many_bad i (by omega) (by omega)⟩
            · exact .inl ⟨h5, Syn.many_ok i (by omega)⟩
    · obtain ⟨m, hm, h7⟩ := and7 n
      obtain ⟨N, hN⟩ : ∃ N, N = 12 + m := ⟨_, rfl⟩
      have hNi : (12 : Int) + (m : Int) = (N : Int) := by omega
      have hN1 : N ≤ 19 := by omega
      have hN2 : 12 ≤ N := by omega
      clear hm hN
      go_wp2_with fail
      clear hNi h7 h3
      go_loopg [5, 11] N (fun k v5 v11 wr => Loop2 w1 opens N k v5 v11 wr)
      case atStart => exact ⟨0, rfl, Nat.zero_le _, rfl, rfl, rfl⟩
      case round =>
        obtain ⟨i, rfl, hi, rfl, hk, rfl⟩ := hrel
        have Hk := hid hk
        clear hk
        obtain ⟨X, hX⟩ : ∃ X : ByteArray, X = ⟨(opens i).toArray⟩ := ⟨_, rfl⟩
        have hXs : X.size ≤ 1000 := by rw [hX]; show (opens i).toArray.size ≤ 1000; rw [List.size_toArray, opens_len]; omega
        rw [← hX]
        have HX := hid hX
        clear hX
        rcases Nat.lt_or_ge i N with hlt | hge
        · have hlt' : (i : Int) < (N : Int) := by omega
          go_wp2_with fail
          go_roundg (N - (i + 1))
          case measure => have := Hk.out; omega
          case rel => exact ⟨i + 1, by go_num, by omega, by rw [opens_succ, HX.out]; exact congrArg Value.string (bytes_app _ _), rfl, rfl⟩
        · have hge' : ¬ (i : Int) < (N : Int) := by omega
          have hiN : i = N := by omega
          subst hiN
          go_wp2_with fail
          have hY : X ++ (⟨#[98]⟩ : ByteArray) = ⟨(closes i 0).toArray⟩ := by rw [HX.out]; exact bytes_app _ _
          rw [hY]
          go_loopg [5, 12] i (fun k v5 v12 wy => Loop2 wr (closes i) i k v5 v12 wy)
          case atStart => exact ⟨0, rfl, Nat.zero_le _, rfl, rfl, rfl⟩
          case round =>
            obtain ⟨j, rfl, hj, rfl, hk, rfl⟩ := hrel
            have Hk := hid hk
            clear hk
            obtain ⟨Y, hYY⟩ : ∃ Y : ByteArray, Y = ⟨(closes i j).toArray⟩ := ⟨_, rfl⟩
            have hYs : Y.size ≤ 1000 := by rw [hYY]; show (closes i j).toArray.size ≤ 1000; rw [List.size_toArray, closes_len]; omega
            rw [← hYY]
            have HY := hid hYY
            clear hYY
            rcases Nat.lt_or_ge j i with hlt | hge2
            · have hlt' : (j : Int) < (i : Int) := by omega
              go_wp2_with fail
              go_roundg (i - (j + 1))
              case measure => have := Hk.out; omega
              case rel => exact ⟨j + 1, by go_num, by omega, by rw [closes_succ, HY.out]; exact congrArg Value.string (bytes_app _ _), rfl, rfl⟩
            · have hge2' : ¬ (j : Int) < (i : Int) := by omega
              have hji : j = i := by omega
              subst hji
              go_wp2_with fail
              have hZ : Y ++ (⟨#[59]⟩ : ByteArray) = ⟨(Syn.text2 j).toArray⟩ := by rw [HY.out, ← closes_text]; exact bytes_app _ _
              rw [hZ]
              go_meet
              refine ⟨j, 16, 11, Syn.text2 j, rfl, rfl, rfl, rfl, Below.refl _ _, ?_, ?_⟩
              · rw [← closes_text, List.length_append, closes_len]; simp; omega
              · rcases Nat.lt_or_ge 16 j with h5 | h5
                · exact .inr ⟨h5, Syn.text2_bad j (by omega) hN1⟩
                · exact .inl ⟨h5, Syn.text2_ok j hN2 h5⟩
  case rest =>
    obtain ⟨N, M, c, X, rfl, rfl, rfl, rfl, hb2, hXl, hres⟩ := hcut
    have hXs : (⟨X.toArray⟩ : ByteArray).size ≤ 9223372036854775807 := by show X.toArray.size ≤ _; rw [List.size_toArray]; omega
    have hpc := parse_calls ⟨X.toArray⟩ wc hXs
    have hXX : (⟨X.toArray⟩ : ByteArray).data.toList = X := by simp
    rw [hXX] at hpc
    obtain ⟨Y, hY⟩ : ∃ Y : ByteArray, Y = ⟨X.toArray⟩ := ⟨_, rfl⟩
    rw [← hY] at hpc ⊢
    clear hXX hXs hY
    cases hp : Syn.parseS X with
    | ok st rs =>
      rw [hp] at hpc hres
      rcases hres with ⟨h5, h6⟩ | ⟨h5, h6⟩
      · have hpos : 0 < rs.length := by simpa [Syn.okB] using h6
        obtain ⟨L, hL⟩ : ∃ L, L = rs.length := ⟨_, rfl⟩
        have hLp : (0 : Int) < (L : Int) := by omega
        simp only [ParsePost, ← hL] at hpc
        have hle : ¬ (M : Int) < (N : Int) := by omega
        clear h5 h6 hpos hL hp
        go_wp2_with (go_at_call 15; refine hpc.mono ?_; rintro e w2 ⟨ga, ca, rfl, hr, hb3⟩)
        go_ret
        exact ⟨by first | rfl | (simp [*]; done) | (simp; omega), bel_trans hb1 (bel_trans hb2 (bel_trans hb3 (bel_trans (bel_new _ _) (bel_new _ _))))⟩
      · simp [Syn.badB] at h6
    | bad f =>
      rw [hp] at hpc hres
      rcases hres with ⟨h5, h6⟩ | ⟨h5, h6⟩
      · simp [Syn.okB] at h6
      · have hf : f.line = 1 ∧ f.code = c := by simpa [Syn.badB] using h6
        obtain ⟨hf1, hf2⟩ := hf
        obtain ⟨co, hco⟩ : ∃ co : Int, co = f.col := ⟨_, rfl⟩
        have hlt : (M : Int) < (N : Int) := by omega
        simp only [ParsePost, hf1, hf2, ← hco] at hpc
        clear h5 h6 hp hf1 hf2 hco
        go_wp2_with (go_at_call 15; refine hpc.mono ?_; rintro e w2 ⟨rfl, hb3⟩)
        go_ret
        exact ⟨rfl, bel_trans hb1 (bel_trans hb2 (bel_trans hb3 (bel_trans (bel_new _ _) (bel_new _ _))))⟩
end Go.Proofs.Ytjaampgpihicmaa
