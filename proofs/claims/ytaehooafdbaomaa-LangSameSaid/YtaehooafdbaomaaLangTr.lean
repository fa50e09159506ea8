/- Chapter 10: words told by their terminals' texts; terminals in another order. Plain lists. -/
import Derived.Test.YtaehooafdbaomaaLangFit
import Derived.Test.YtaehooafdbaomaaMadeSpec
import Derived.Test.YtaehooafdbaomaaGrow
namespace Go.Proofs.Ytaehooafdbaomaa

/-- A terminal's text behind its length. -/
def tl1 (ts : List ByteArray) (b : UInt8) : List UInt8 := UInt8.ofNat (ts.getD b.toNat ⟨#[]⟩).size :: (ts.getD b.toNat ⟨#[]⟩).data.toList
def tl (ts : List ByteArray) (z : List UInt8) : List UInt8 := z.flatMap (tl1 ts)
def leT (x y : List UInt8) : Bool := decide (x ≤ y)
/-- Words told, in order. -/
def toldS (ts : List ByteArray) (l : List (List UInt8)) : List (List UInt8) := (l.map (tl ts)).mergeSort leT
theorem toldS_len (ts : List ByteArray) (l : List (List UInt8)) : (toldS ts l).length = l.length := by simp [toldS]
theorem sort_perm {a b : List (List UInt8)} (h : a.Perm b) : a.mergeSort leT = b.mergeSort leT := by
  have ht : ∀ x y z : List UInt8, leT x y = true → leT y z = true → leT x z = true := fun x y z h k => by
    unfold leT at h k ⊢
    rw [decide_eq_true_eq] at h k ⊢
    exact List.le_trans h k
  have hto : ∀ x y : List UInt8, (leT x y || leT y x) = true := fun x y => by
    unfold leT
    rw [Bool.or_eq_true, decide_eq_true_eq, decide_eq_true_eq]
    exact List.le_total x y
  refine List.Perm.eq_of_pairwise (le := fun x y => leT x y = true) (fun x y _ _ h k => ?_) (List.pairwise_mergeSort ht hto a) (List.pairwise_mergeSort ht hto b) (((List.mergeSort_perm a leT).trans h).trans (List.mergeSort_perm b leT).symm)
  unfold leT at h k
  rw [decide_eq_true_eq] at h k
  exact List.le_antisymm h k
theorem letters_at {T : Nat} {i : Nat} (h : i < T) : (Mk.letters 97 T).getD i ⟨#[]⟩ = ⟨#[UInt8.ofNat (97 + i)]⟩ := by
  simp [Mk.letters, List.getD, h]
/-- Words of letters, told. -/
def tlL (z : List UInt8) : List UInt8 := z.flatMap fun b => [1, UInt8.ofNat (97 + b.toNat)]
theorem tl_letters {T : Nat} {z : List UInt8} (h : ∀ b ∈ z, b.toNat < T) : tl (Mk.letters 97 T) z = tlL z := by
  induction z with
  | nil => rfl
  | cons b z ih =>
    have h1 : tl (Mk.letters 97 T) (b :: z) = tl1 (Mk.letters 97 T) b ++ tl (Mk.letters 97 T) z := rfl
    have h2 : tlL (b :: z) = [1, UInt8.ofNat (97 + b.toNat)] ++ tlL z := rfl
    rw [h1, h2, ih (fun c hc => h c (List.mem_cons_of_mem _ hc))]
    unfold tl1
    rw [letters_at (h b (List.mem_cons_self ..))]
    rfl
theorem tlL_inj : ∀ {a b : List UInt8}, (∀ x ∈ a, x.toNat < 100) → (∀ x ∈ b, x.toNat < 100) → tlL a = tlL b → a = b
  | [], [], _, _, _ => rfl
  | [], y :: b, _, _, h => by simp [tlL] at h
  | x :: a, [], _, _, h => by simp [tlL] at h
  | x :: a, y :: b, ha, hb, h => by
    have h1 : ([1, UInt8.ofNat (97 + x.toNat)] : List UInt8) ++ tlL a = [1, UInt8.ofNat (97 + y.toNat)] ++ tlL b := h
    simp only [List.cons_append, List.nil_append, List.cons.injEq, true_and] at h1
    have hx := ha x (List.mem_cons_self ..)
    have hy := hb y (List.mem_cons_self ..)
    have h2 := congrArg UInt8.toNat h1.1
    rw [ofNat_toNat (by omega), ofNat_toNat (by omega)] at h2
    rw [UInt8.toNat_inj.1 (show x.toNat = y.toNat by omega), tlL_inj (fun c hc => ha c (List.mem_cons_of_mem _ hc)) (fun c hc => hb c (List.mem_cons_of_mem _ hc)) h1.2]
theorem toldS_letters {T : Nat} {l : List (List UInt8)} (h : ∀ z ∈ l, ∀ b ∈ z, b.toNat < T) : toldS (Mk.letters 97 T) l = (l.map tlL).mergeSort leT := by
  unfold toldS
  congr 1
  exact List.map_congr_left fun z hz => tl_letters (h z hz)
/-- Rows that are told alike are the same. -/
theorem told_iff {T1 T2 : Nat} (h1 : T1 ≤ 100) (h2 : T2 ≤ 100) {A B : List (List UInt8)} (pA : A.Pairwise WLt) (pB : B.Pairwise WLt) (hA : ∀ z ∈ A, ∀ b ∈ z, b.toNat < T1) (hB : ∀ z ∈ B, ∀ b ∈ z, b.toNat < T2) :
    toldS (Mk.letters 97 T1) A = toldS (Mk.letters 97 T2) B ↔ A = B := by
  rw [toldS_letters hA, toldS_letters hB]
  constructor
  · intro h
    have hp : (A.map tlL).Perm (B.map tlL) := (List.mergeSort_perm (A.map tlL) leT).symm.trans ((h ▸ List.Perm.refl _ : ((A.map tlL).mergeSort leT).Perm ((B.map tlL).mergeSort leT)).trans (List.mergeSort_perm (B.map tlL) leT))
    refine rise_eq pA pB fun z => ⟨fun hz => ?_, fun hz => ?_⟩
    · have := hp.mem_iff.1 (List.mem_map.2 ⟨z, hz, rfl⟩)
      obtain ⟨y, hy, e⟩ := List.mem_map.1 this
      rw [← tlL_inj (fun b hb => by have := hB y hy b hb; omega) (fun b hb => by have := hA z hz b hb; omega) e]
      exact hy
    · have := hp.mem_iff.2 (List.mem_map.2 ⟨z, hz, rfl⟩)
      obtain ⟨y, hy, e⟩ := List.mem_map.1 this
      rw [← tlL_inj (fun b hb => by have := hA y hy b hb; omega) (fun b hb => by have := hB z hz b hb; omega) e]
      exact hy
  · rintro rfl; rfl

/-! The terminals in another order. -/
def trn (n : Nat) (s : Int) : Int := if s < 0 then -1 - ((n : Int) - 1 - (-1 - s)) else s
def trP (n : Nat) (ps : List (Int × List Int)) : List (Int × List Int) := ps.map fun x => (x.1, x.2.map (trn n))
def trG (G : Gr) : Gr := ⟨G.start, G.rules, G.names, G.terms.reverse, trP G.terms.length G.prods⟩
def trb (n : Nat) (b : UInt8) : UInt8 := UInt8.ofNat (n - 1 - b.toNat)
theorem trn_trn {n : Nat} {s : Int} (h : -(n : Int) ≤ s) : trn n (trn n s) = s := by
  unfold trn
  by_cases h0 : s < 0
  · rw [if_pos h0, if_pos (by omega)]; omega
  · rw [if_neg h0, if_neg h0]
theorem trP_trP {n : Nat} {ps : List (Int × List Int)} (h : ∀ x ∈ ps, ∀ s ∈ x.2, -(n : Int) ≤ s) : trP n (trP n ps) = ps := by
  unfold trP
  rw [List.map_map]
  conv => rhs; rw [← List.map_id ps]
  refine List.map_congr_left fun x hx => ?_
  show (x.1, (x.2.map (trn n)).map (trn n)) = x
  rw [List.map_map]
  have : x.2.map (trn n ∘ trn n) = x.2 := by
    conv => rhs; rw [← List.map_id x.2]
    exact List.map_congr_left fun s hs => trn_trn (h x hx s hs)
  rw [this]
theorem trn_lo {n : Nat} {s : Int} (h : -(n : Int) ≤ s) : -(n : Int) ≤ trn n s := by
  unfold trn
  split <;> omega
theorem trP_lo {n : Nat} {ps : List (Int × List Int)} (h : ∀ x ∈ ps, ∀ s ∈ x.2, -(n : Int) ≤ s) : ∀ x ∈ trP n ps, ∀ s ∈ x.2, -(n : Int) ≤ s := by
  intro x hx s hs
  obtain ⟨y, hy, rfl⟩ := List.mem_map.1 hx
  obtain ⟨t, ht, rfl⟩ := List.mem_map.1 hs
  exact trn_lo (h y hy t ht)
theorem trb_toNat {n : Nat} (hn : n ≤ 256) {b : UInt8} (h : b.toNat < n) : (trb n b).toNat = n - 1 - b.toNat := ofNat_toNat (by omega)
theorem trb_trb {n : Nat} (hn : n ≤ 256) {b : UInt8} (h : b.toNat < n) : trb n (trb n b) = b := by
  apply UInt8.toNat_inj.1
  rw [trb_toNat hn (by rw [trb_toNat hn h]; omega), trb_toNat hn h]
  omega
theorem trz_trz {n : Nat} (hn : n ≤ 256) {z : List UInt8} (h : ∀ b ∈ z, b.toNat < n) : (z.map (trb n)).map (trb n) = z := by
  rw [List.map_map]
  conv => rhs; rw [← List.map_id z]
  exact List.map_congr_left fun b hb => trb_trb hn (h b hb)
theorem Lg.Der.turn {n : Nat} (hn : n ≤ 256) {ps : List (Int × List Int)} (hps : ∀ x ∈ ps, ∀ s ∈ x.2, -(n : Int) ≤ s) {xs : List Int} {z : List UInt8} (h : Lg.Der ps xs z) : (∀ s ∈ xs, -(n : Int) ≤ s) → Lg.Der (trP n ps) (xs.map (trn n)) (z.map (trb n)) := by
  induction h with
  | nil => intro _; exact .nil
  | @term s xs z hs _ ih =>
    intro hx
    have h1 := hx s (List.mem_cons_self ..)
    have h2 := ih fun t ht => hx t (List.mem_cons_of_mem _ ht)
    have h3 : trn n s < 0 := by unfold trn; rw [if_pos hs]; omega
    have h4 : Lg.tb (trn n s) = trb n (Lg.tb s) := by
      have h5 := Lg.tb_toNat hs (by omega)
      unfold Lg.tb at h5 ⊢
      unfold trb trn
      rw [if_pos hs]
      congr 1
      omega
    rw [List.map_cons, List.map_cons, ← h4]
    exact .term h3 h2
  | @prod s R xs z1 z2 h0 hp _ _ ih1 ih2 =>
    intro hx
    have h1 := ih1 (hps _ hp)
    have h2 := ih2 fun t ht => hx t (List.mem_cons_of_mem _ ht)
    rw [List.map_cons, List.map_append]
    have h3 : trn n s = s := by unfold trn; rw [if_neg (by omega)]
    rw [h3]
    exact .prod h0 (List.mem_map.2 ⟨_, hp, rfl⟩) h1 h2
theorem turn_iff {G : Gr} (hsn : SndG G) {z : List UInt8} (hz : ∀ b ∈ z, b.toNat < G.terms.length) : Lg.Der (trG G).prods [G.start] z ↔ Lg.Der G.prods [G.start] (z.map (trb G.terms.length)) := by
  have hst : [G.start].map (trn G.terms.length) = [G.start] := by
    have := hsn.s0
    simp only [List.map_cons, List.map_nil]
    unfold trn
    rw [if_neg (by omega)]
  have h1 : ∀ s ∈ [G.start], -(G.terms.length : Int) ≤ s := fun s hs => by rw [List.mem_singleton] at hs; have := hsn.s0; omega
  constructor
  · intro h
    have := h.turn hsn.t1 (trP_lo hsn.r0) h1
    rw [hst] at this
    change Lg.Der (trP G.terms.length (trP G.terms.length G.prods)) [G.start] _ at this
    rwa [trP_trP hsn.r0] at this
  · intro h
    have := h.turn hsn.t1 hsn.r0 h1
    rw [hst, trz_trz hsn.t1 hz] at this
    exact this
theorem tl_turn {ts : List ByteArray} {z : List UInt8} (hn : ts.length ≤ 256) (hz : ∀ b ∈ z, b.toNat < ts.length) : tl ts.reverse z = tl ts (z.map (trb ts.length)) := by
  have key : ∀ y : List UInt8, (∀ b ∈ y, b.toNat < ts.length) → tl ts.reverse y = tl ts (y.map (trb ts.length)) := by
    intro y
    induction y with
    | nil => intro _; rfl
    | cons b y ih =>
      intro hy
      have h := hy b (List.mem_cons_self ..)
      have e : ts.reverse.getD b.toNat ⟨#[]⟩ = ts.getD (trb ts.length b).toNat ⟨#[]⟩ := by
        rw [trb_toNat hn h, List.getD_eq_getElem?_getD, List.getD_eq_getElem?_getD, List.getElem?_reverse h]
      have e2 : tl1 ts.reverse b = tl1 ts (trb ts.length b) := by unfold tl1; rw [e]
      show tl1 ts.reverse b ++ tl ts.reverse y = tl1 ts (trb ts.length b) ++ tl ts (y.map (trb ts.length))
      rw [e2, ih fun c hc => hy c (List.mem_cons_of_mem _ hc)]
  exact key z hz
/-- A grammar and itself with its terminals in another order are told alike. -/
theorem told_turn {G : Gr} (hsn : SndG G) {most : Nat} {A B : List (List UInt8)} (pA : A.Pairwise WLt) (pB : B.Pairwise WLt) (hA : ∀ z, z ∈ A ↔ Lg.Der G.prods [G.start] z ∧ z.length ≤ most) (hB : ∀ z, z ∈ B ↔ Lg.Der (trG G).prods [G.start] z ∧ z.length ≤ most) :
    toldS G.terms A = toldS (trG G).terms B := by
  have hst : ∀ s ∈ [G.start], -(G.terms.length : Int) ≤ s := fun s hs => by rw [List.mem_singleton] at hs; have := hsn.s0; omega
  have lA : ∀ z ∈ A, ∀ b ∈ z, b.toNat < G.terms.length := fun z hz => ((hA z).1 hz).1.letters hsn.t1 hsn.r0 hst
  have lB : ∀ z ∈ B, ∀ b ∈ z, b.toNat < G.terms.length := fun z hz => ((hB z).1 hz).1.letters hsn.t1 (trP_lo hsn.r0) hst
  have e1 : B.map (tl (trG G).terms) = (B.map fun z => z.map (trb G.terms.length)).map (tl G.terms) := by
    rw [List.map_map]
    exact List.map_congr_left fun z hz => tl_turn hsn.t1 (lB z hz)
  have hp : (B.map fun z => z.map (trb G.terms.length)).Perm A := by
    rw [List.perm_ext_iff_of_nodup]
    · intro z
      rw [List.mem_map]
      constructor
      · rintro ⟨y, hy, rfl⟩
        have h1 := (hB y).1 hy
        exact (hA _).2 ⟨(turn_iff hsn (lB y hy)).1 h1.1, by rw [List.length_map]; exact h1.2⟩
      · intro hz
        have h1 := (hA z).1 hz
        have hl : ∀ b ∈ z.map (trb G.terms.length), b.toNat < G.terms.length := fun b hb => by
          obtain ⟨c, hc, rfl⟩ := List.mem_map.1 hb
          have := lA z hz c hc
          rw [trb_toNat hsn.t1 this]; omega
        refine ⟨z.map (trb G.terms.length), (hB _).2 ⟨(turn_iff hsn hl).2 ?_, by rw [List.length_map]; exact h1.2⟩, trz_trz hsn.t1 (lA z hz)⟩
        rw [trz_trz hsn.t1 (lA z hz)]
        exact h1.1
    · rw [List.nodup_iff_pairwise_ne, List.pairwise_map]
      refine (rise_nodup pB).imp_of_mem ?_
      intro x y hx hy hne e
      apply hne
      rw [← trz_trz hsn.t1 (lB x hx), ← trz_trz hsn.t1 (lB y hy), e]
    · exact rise_nodup pA
  unfold toldS
  rw [e1]
  exact (sort_perm (hp.map _)).symm
theorem prodsS_turn {n : Int} {t : Nat} : ∀ (ps : List (Int × List Int)) (prev : Int), Pl.prodsS n t prev ps = true → Pl.prodsS n t prev (trP t ps) = true
  | [], _, _ => rfl
  | x :: r, prev, h => by
    unfold Pl.prodsS at h
    show Pl.prodsS n t prev ((x.1, x.2.map (trn t)) :: trP t r) = true
    unfold Pl.prodsS
    split at h
    · cases h
    · rename_i h1
      split at h
      · cases h
      · rename_i h2
        rw [if_neg (by rw [List.length_map]; exact h1), if_neg ?_]
        · exact prodsS_turn r x.1 h
        · intro h3
          apply h2
          rw [List.any_map] at h3
          rw [List.any_eq_true] at h3 ⊢
          obtain ⟨s, hs, h4⟩ := h3
          refine ⟨s, hs, ?_⟩
          unfold Function.comp Pl.strange trn at h4
          unfold Pl.strange
          by_cases h5 : s < 0
          · rw [if_pos h5] at h4
            simp at h4 ⊢
            omega
          · rw [if_neg h5] at h4
            exact h4
theorem turn_sound {N T c m : Nat} (x : RawD) (h1 : 1 ≤ N) (h2 : N ≤ 8) (h3 : T ≤ 3) (h4 : c ≤ 24) (h5 : m ≤ 16) : Pl.soundB (trG (Mk.gram N T c m x)) = true := by
  have hs := Mk.gram_sound (N := N) (T := T) (c := c) (m := m) x h1 h2 (by omega) h4 h5
  have hl : (Mk.letters 97 T).reverse.length = T := by rw [List.length_reverse, Mk.letters_length]
  have ha : Pl.apartS 16 [] (Mk.letters 97 T).reverse = true := by
    have : T = 0 ∨ T = 1 ∨ T = 2 ∨ T = 3 := by omega
    rcases this with rfl | rfl | rfl | rfl <;> decide +kernel
  have ht : (Mk.gram N T c m x).terms.length = T := Mk.letters_length 97 T
  unfold Pl.soundB at hs ⊢
  split at hs
  · cases hs
  · rename_i h6
    split at hs
    · cases hs
    · rename_i h7
      refine (if_neg (show ¬ _ from h6)).trans ?_
      have e : (trG (Mk.gram N T c m x)).prods = trP T (Mk.gram N T c m x).prods := by
        show trP _ _ = _
        rw [ht]
      have e2 : (trG (Mk.gram N T c m x)).terms = (Mk.letters 97 T).reverse := rfl
      have e3 : (trG (Mk.gram N T c m x)).prods.length = (Mk.gram N T c m x).prods.length := by rw [e]; simp [trP]
      rw [e3, e2, hl, ha, e]
      rw [ht] at h7 hs
      rw [if_neg ?_]
      · exact prodsS_turn _ _ hs
      · intro h8
        apply h7
        rcases h8 with h8 | h8 | h8
        · exact .inl h8
        · cases h8
        · exact .inr (.inr h8)
end Go.Proofs.Ytaehooafdbaomaa
/- Chapter 10: a grammar in a box that grows: its terminals and productions. -/
namespace Go.Proofs.Ytaehooafdbaomaa
open Go.RowKit

/-- The box of a grammar whose terminals and productions are the call's own. -/
structure Tg (w : World) (b : Nat) (st ru : Value) (vn : Value) (js : List ByteArray) (ps : List (Int × List Int)) (vt vp : Value) : Prop where
  k : Bk w b 30 [st, ru, vn, vt, vp]
  t : w.ownsRow (b + 1) 9 1 vt js.length (js.map Value.string)
  p : PrOwn w (b + 1) 97 3 vp ps
section
variable {w w' wa : World} {b : Nat} {st ru vn vt vp : Value} {js : List ByteArray} {ps : List (Int × List Int)}
theorem tgTy : GgTy Try.prog 9 97 3 27 28 :=
  ⟨Try.underlying27, Try.underlying28, by kernel_rfl, by kernel_rfl, by decide, by decide, by decide⟩
theorem Tg.later (h : Tg w b st ru vn js ps vt vp) (hb : Below w.heap.size w w') : Tg w' b st ru vn js ps vt vp :=
  ⟨h.k.below hb h.k.lt, own_below h.t hb, h.p.below hb⟩
theorem Tg.term (h : Tg w b st ru vn js ps vt vp) (hl : js.length ≤ 1000) (s : ByteArray) :
    ∃ g2 cap2 w2, (Builtin.append_ #[27, 27] 27 #[vt, .slice (some ⟨w.heap.size, 0, none⟩) 1 1]).run Try.prog (w.alloc (.cells #[.string s] 9)) = .ok (.slice (some ⟨g2, 0, none⟩) (js.length + 1) cap2) w2 ∧ w2.cell? ⟨b, 3, none⟩ = some vt ∧ w2.frozen? ⟨b, 3, none⟩ = false ∧
      Tg (w2.setCell ⟨b, 3, none⟩ (.slice (some ⟨g2, 0, none⟩) (js.length + 1) cap2)) b st ru vn (js ++ [s]) ps (.slice (some ⟨g2, 0, none⟩) (js.length + 1) cap2) vp ∧ Below b w w2 ∧ Below b w (w2.setCell ⟨b, 3, none⟩ (.slice (some ⟨g2, 0, none⟩) (js.length + 1) cap2)) := by
  have y := tgTy
  obtain ⟨is, his, s0, s1, s2⟩ := info_parts y.is
  have hlt := h.k.lt
  obtain ⟨g2, cap2, w2, hrun, hon2, hk2, hg2, hl2⟩ := str_app (P := Try.prog) h.t 27 27 is y.ls his s0 s1 s2 (by omega) (by omega) s 0
  have hnb : ∀ g, vt.ownBlock = some g → b + 1 ≤ g := fun g hg => (own_n3 h.t hg).1
  have hkb2 := h.k.kp hk2 (fun e => by have := hnb b e; omega)
  have hbb : Below b w w2 := hk2.to_below (B := b) (by omega) (fun k e => by have := hnb k e; omega)
  refine ⟨g2, cap2, w2, hrun, by rw [hkb2.cell]; rfl, hkb2.free 3, ⟨hkb2.set 3 _, ?_, pr_cell (h.p.kp hk2 (fun g hg e => ?_) (fun u n' xs hu g hg e => own_apart hu h.t (Ne.symm y.n1) hg e))⟩, hbb, hbb.setCell (p := ⟨b, 3, none⟩) (Nat.le_refl b) _⟩
  · rw [List.map_append, List.length_append] at hon2 ⊢
    exact own_cell hon2
  · obtain ⟨xs, hx⟩ := h.p.own
    exact own_apart hx h.t (Ne.symm y.n3) hg e
theorem Tg.prod (h : Tg w b st ru vn js ps vt vp) (hl : ps.length ≤ 1000) (x : Int × List Int) (rv : Value) (hrv : w.ownsRow (b + 1) 3 1 rv x.2.length (x.2.map (Value.int .i64))) :
    ∃ g2 cap2 w2, (Builtin.append_ #[28, 28] 28 #[vp, .slice (some ⟨w.heap.size, 0, none⟩) 1 1]).run Try.prog (w.alloc (.cells #[.int .i64 x.1, rv] 97)) = .ok (.slice (some ⟨g2, 0, none⟩) (ps.length + 1) cap2) w2 ∧ w2.cell? ⟨b, 4, none⟩ = some vp ∧ w2.frozen? ⟨b, 4, none⟩ = false ∧
      Tg (w2.setCell ⟨b, 4, none⟩ (.slice (some ⟨g2, 0, none⟩) (ps.length + 1) cap2)) b st ru vn js (ps ++ [x]) vt (.slice (some ⟨g2, 0, none⟩) (ps.length + 1) cap2) ∧ Below b w w2 ∧ Below b w (w2.setCell ⟨b, 4, none⟩ (.slice (some ⟨g2, 0, none⟩) (ps.length + 1) cap2)) := by
  have y := tgTy
  obtain ⟨ip, hip, p0, p1, p2⟩ := info_parts y.ip
  have hlt := h.k.lt
  obtain ⟨g2, cap2, w2, hrun, hop2, hk2, hg2, hl2⟩ := h.p.app (P := Try.prog) 28 28 ip y.lp hip p0 p1 p2 y.n2 (by omega) (by omega) x rv hrv 0
  obtain ⟨xs, hx⟩ := h.p.own
  have hnb : ∀ g, vp.ownBlock = some g → b + 1 ≤ g := fun g hg => (own_n3 hx hg).1
  have hkb2 := h.k.kp hk2 (fun e => by have := hnb b e; omega)
  have hbb : Below b w w2 := hk2.to_below (B := b) (by omega) (fun k e => by have := hnb k e; omega)
  exact ⟨g2, cap2, w2, hrun, by rw [hkb2.cell]; rfl, hkb2.free 4, ⟨hkb2.set 4 _, own_cell (own_kp h.t hk2 fun g hg e => own_apart h.t hx y.n3 hg e), pr_cell hop2⟩, hbb, hbb.setCell (p := ⟨b, 4, none⟩) (Nat.le_refl b) _⟩
/-- At the end: the grammar that it is. -/
theorem Tg.gin {G : Gr} {gn : Option Addr} {cn : Nat} (h : Tg w b (.int .i64 G.start) (.int .i64 G.rules) (.slice gn G.names.length cn) G.terms G.prods vt vp) (hn : RowS w w.heap.size gn G.names) (h1 : G.names.length ≤ 1000) (h2 : G.terms.length ≤ 1000) (h3 : G.prods.length ≤ 1000) (h4 : ∀ x ∈ G.prods, x.2.length ≤ 1000) :
    ∃ (gt gp : Option Addr) (ct cp : Nat), vt = .slice gt G.terms.length ct ∧ vp = .slice gp G.prods.length cp ∧ GIn w G gn gt gp ∧ CapP w gp G.prods := by
  obtain ⟨gt, ct, hvt, hrt⟩ := own_rowS h.t
  obtain ⟨gp, cp, hvp, hrp⟩ := h.p.rows
  exact ⟨gt, gp, ct, cp, hvt, hvp, ⟨hn, hrt, hrp, by omega, by omega, by omega, fun x hx => by have := h4 x hx; omega⟩, h.p.caps gp cp hvp⟩
end
end Go.Proofs.Ytaehooafdbaomaa
