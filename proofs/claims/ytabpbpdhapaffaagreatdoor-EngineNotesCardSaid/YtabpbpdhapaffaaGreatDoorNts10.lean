/-
  EngineNotes returns true whatever the notes and what stands between them, part 10: GrB2, GrD1, GrD2, GrD3, GrD4. Conditions: none but those of the row.
-/
import Derived.Test.YtabpbpdhapaffaaGreatDoorNts09
set_option linter.unusedSimpArgs false
set_option linter.unusedVariables false
section
namespace Go.Vi
section
variable {P : Program} {H K : AHeap} {ρ : Operand → Value} {o : Oper} {k : Kind} {x : ANext} {c : Bool}

theorem not_true {a : Bool} (h : (!a) = true) : a = false := by cases a <;> simp_all
theorem aOper_pure {v : Value} (h : pureOp P ρ o = some v) : aOper P H ρ o = some (.pure, .value v, H) := by unfold aOper; rw [h]
theorem aOper_read {v : Value} (h0 : pureOp P ρ o = none) (h : readOp P H ρ o = some v) : aOper P H ρ o = some (.read, .value v, H) := by unfold aOper; rw [h0, h]
theorem aOper_eff {K : AHeap} (h0 : pureOp P ρ o = none) (h1 : readOp P H ρ o = none) (h2 : newOp P ρ o = none) (h : effOp P H ρ o = some (x, K)) : aOper P H ρ o = some (.eff, x, K) := by
  unfold aOper; rw [h0, h1, h2, h]
theorem fTest_ok {b : Bool} (h : fTest P H ρ o b = some (k, x, K, c)) (hc : c = true) : aOper P H ρ o = some (k, x, K) := by
  simp only [fTest, Option.some.injEq, Prod.mk.injEq] at h
  obtain ⟨rfl, rfl, rfl, h⟩ := h
  subst hc
  cases hp : pureOp P ρ o with
  | none => rw [hp] at h; cases h
  | some v =>
    rw [hp] at h
    cases v <;> try (cases h; done)
    rename_i t
    simp only at h
    have : t = b := by cases b <;> cases t <;> simp_all
    subst this
    exact aOper_pure hp
theorem fIndex_ok {t : TypeId} {xx i : Operand} (ho : o.op = .indexAddr t xx i) (h : fIndex P H ρ t xx i = some (k, x, K, c)) (hc : c = true) : aOper P H ρ o = some (k, x, K) := by
  unfold fIndex at h
  split at h
  · rename_i e a len cap kk n h1 h2 h3
    split at h
    · rename_i size h4 h5
      simp only [Option.some.injEq, Prod.mk.injEq] at h
      obtain ⟨rfl, rfl, rfl, h⟩ := h
      subst hc
      refine aOper_pure ?_
      unfold pureOp
      rw [ho]
      simp only [h1, h2, h3, h4, h5, h, cond_true]
    · cases h
  · cases h
theorem fBound_ok {y : Option Value} {m : Option Nat} {b : Bool} (h : fBound y = some (m, b)) (hb : b = true) : optInt y = some m := by
  unfold fBound at h
  split at h
  · simp only [Option.some.injEq, Prod.mk.injEq] at h; obtain ⟨rfl, _⟩ := h; rfl
  · simp only [Option.some.injEq, Prod.mk.injEq] at h; obtain ⟨rfl, h⟩ := h
    subst hb
    simp only [optInt, h, cond_true]
  · cases h
theorem optInt_none : optInt none = some none := rfl
theorem and_true' {a b : Bool} (h : (a && b) = true) : a = true ∧ b = true := by cases a <;> cases b <;> simp_all
theorem isNone_eq {α : Type} {y : Option α} (h : y.isNone = true) : y = none := by cases y <;> simp_all
theorem fSlice_ok {t : TypeId} {xx : Operand} {lo hi mx : Option Operand} {full : Bool} (ho : o.op = .slice t xx lo hi mx) (h : fSlice P H ρ t xx lo hi mx o full = some (k, x, K, c)) (hc : c = true) : aOper P H ρ o = some (k, x, K) := by
  unfold fSlice at h
  split at h
  · rename_i e a len cap h1 h2
    split at h
    · rename_i lo' c1 hi' c2 size hlo hhi hsz
      simp only at h
      cases full with
      | true =>
        simp only [Option.some.injEq, Prod.mk.injEq] at h
        obtain ⟨rfl, rfl, rfl, h⟩ := h
        rw [hc] at h
        obtain ⟨g1, h⟩ := and_true' h
        obtain ⟨g2, h⟩ := and_true' h
        obtain ⟨g3, h⟩ := and_true' h
        obtain ⟨g4, h⟩ := and_true' h
        obtain ⟨g5, h⟩ := and_true' h
        obtain ⟨g6, g7⟩ := and_true' h
        refine aOper_pure ?_
        unfold pureOp
        rw [ho]
        simp only [h1, h2, fBound_ok hlo g1, fBound_ok hhi g2, Option.map_none, optInt_none, sliceV, hsz, isNone_eq g3, Option.isSome_none, cond_false, g4, g5, g6, Bool.and_self, cond_true, g7]
      | false =>
        simp only [Option.some.injEq, Prod.mk.injEq] at h
        obtain ⟨rfl, rfl, rfl, h⟩ := h
        rw [hc] at h
        obtain ⟨g1, h⟩ := and_true' h
        obtain ⟨g2, h⟩ := and_true' h
        obtain ⟨g3, h⟩ := and_true' h
        obtain ⟨g4, h⟩ := and_true' h
        obtain ⟨g5, h⟩ := and_true' h
        obtain ⟨g6, g7⟩ := and_true' h
        refine aOper_pure ?_
        unfold pureOp
        rw [ho]
        simp only [h1, h2, fBound_ok hlo g1, fBound_ok hhi g2, Option.map_none, optInt_none, sliceV, hsz, isNone_eq g3, Option.isSome_none, cond_false, g4, g5, g6, Bool.and_self, cond_true, not_true g7, Bool.false_and]
    · cases h
  · rename_i e a len cap mxo h1 h2
    split at h
    · rename_i lo' c1 hi' c2 m c3 size hlo hhi hmx hsz
      simp only [Option.some.injEq, Prod.mk.injEq] at h
      obtain ⟨rfl, rfl, rfl, h⟩ := h
      rw [hc] at h
      obtain ⟨g1, h⟩ := and_true' h
      obtain ⟨g2, h⟩ := and_true' h
      obtain ⟨g0, h⟩ := and_true' h
      obtain ⟨g3, h⟩ := and_true' h
      obtain ⟨g4, h⟩ := and_true' h
      obtain ⟨g5, h⟩ := and_true' h
      obtain ⟨g6, h⟩ := and_true' h
      obtain ⟨g7, g8⟩ := and_true' h
      refine aOper_pure ?_
      unfold pureOp
      rw [ho]
      cases full with
      | true =>
        rw [cond_true] at g8
        simp only [h1, h2, fBound_ok hlo g1, fBound_ok hhi g2, Option.map_some, fBound_ok hmx g0, sliceV, hsz, isNone_eq g3, Option.isSome_none, cond_false, g4, g5, g6, g7, Bool.and_self, cond_true, g8]
      | false =>
        rw [cond_false] at g8
        simp only [h1, h2, fBound_ok hlo g1, fBound_ok hhi g2, Option.map_some, fBound_ok hmx g0, sliceV, hsz, isNone_eq g3, Option.isSome_none, cond_false, g4, g5, g6, g7, Bool.and_self, cond_true, not_true g8]
    · cases h
  · cases h
theorem fLoad_ok {t : TypeId} {xx : Operand} (ho : o.op = .load t xx) (h : fLoad P H ρ t xx = some (k, x, K, c)) (hc : c = true) : aOper P H ρ o = some (k, x, K) := by
  unfold fLoad at h
  split at h
  · rename_i kk a h1 h2
    simp only [Option.some.injEq, Prod.mk.injEq] at h
    obtain ⟨rfl, rfl, rfl, h⟩ := h
    rw [hc] at h
    refine aOper_read ?_ ?_
    · unfold pureOp; rw [ho]
    · unfold readOp; rw [ho]
      simp only [h2, loadV, isAggT, h1]
      unfold isIntIn at h
      split at h
      · rename_i j n hcell
        have hj : j = kk := of_decide_eq_true h
        subst hj
        rw [hcell]
        rfl
      · cases h
  · cases h
theorem fLoadS_ok {t : TypeId} {xx : Operand} {r : Nat} (ho : o.op = .load t xx) (h : fLoadS P H ρ t xx r = some (k, x, K, c)) (hc : c = true) : aOper P H ρ o = some (k, x, K) := by
  unfold fLoadS at h
  split at h
  · rename_i kk a h1 h2
    simp only [Option.some.injEq, Prod.mk.injEq] at h
    obtain ⟨rfl, rfl, rfl, h⟩ := h
    rw [hc] at h
    refine aOper_read ?_ ?_
    · unfold pureOp; rw [ho]
    · unfold readOp; rw [ho]
      simp only [h2, loadV, isAggT, h1]
      unfold isSliceIn at h
      split at h
      · rename_i b o' l c' hcell
        have hb : b = r := Nat.eq_of_beq_eq_true h
        subst hb
        rw [hcell]
        rfl
      · cases h
  · cases h
theorem fBytes_ok {src dst : TypeId} {xx : Operand} (ho : o.op = .convert src dst xx) (h : fBytes P H ρ src dst xx = some (k, x, K, c)) (hc : c = true) : aOper P H ρ o = some (k, x, K) := by
  unfold fBytes at h
  split at h
  · rename_i e a len cap h1 h2 h3
    split at h
    · rename_i fl cs e' h4 h5 h6
      simp only [Option.some.injEq, Prod.mk.injEq] at h
      obtain ⟨rfl, rfl, rfl, h⟩ := h
      rw [hc] at h
      obtain ⟨g1, h⟩ := and_true' h
      obtain ⟨g2, g3⟩ := and_true' h
      refine aOper_read ?_ ?_
      · unfold pureOp; rw [ho]; simp only [h1]
      · unfold readOp; rw [ho]
        simp only [h1, h2, h3, h4, not_true g1, cond_false, AHeap.cells?, h5, h6, g2, cond_true, Option.bind_some]
        cases hb : bytesL ((cs.drop a.off).take len) with
        | none => rw [hb] at g3; cases g3
        | some r => rfl
    · cases h
  · cases h
theorem fSrc_ok {size n : Nat} {d : TypeDesc} {v : Value} {new : List Value} {b rest : Bool} (h : fSrc H size rest d v = some (n, new, b)) (hb : b = true) : srcOf H size d v = some (n, new) := by
  unfold fSrc at h
  split at h
  · rename_i t a n' cap
    split at h
    · rename_i fl cs e h1 h2
      simp only [Option.some.injEq, Prod.mk.injEq] at h
      obtain ⟨rfl, rfl, h⟩ := h
      rw [hb] at h
      obtain ⟨g1, g2⟩ := and_true' h
      unfold srcOf
      cases rest with
      | false => simp only [cond_false] at g2 ⊢; simp only [not_true g1, cond_false, AHeap.cells?, h1, h2, g2, cond_true]
      | true =>
        simp only [cond_true] at g2 ⊢
        have e : (cs.drop a.off).take (n' * size) = cs.drop a.off := List.take_of_length_le (Nat.le_of_eq (beq_true g2))
        simp only [not_true g1, cond_false, AHeap.cells?, h1, h2, e, g2, cond_true]
    · cases h
  · simp only [Option.some.injEq, Prod.mk.injEq] at h
    obtain ⟨rfl, rfl, _⟩ := h
    rfl
  · simp only [Option.some.injEq, Prod.mk.injEq] at h
    obtain ⟨rfl, rfl, _⟩ := h
    rfl
  · cases h
theorem fAppend_ok {ts : Array TypeId} {s v : Value} {way : Nat} {rest : Bool} {u : ANext} (h : fAppend P H ts s v way rest = some (k, u, K, c)) (hc : c = true) : k = .eff ∧ ∃ y, u = .value y ∧ appendA P H ts s v = some (y, K) := by
  unfold fAppend at h
  split at h
  · rename_i e xd base sLen sCap h1 h2
    split at h
    · cases h
    · rename_i i hi
      have hh := bif_some h
      clear h
      obtain ⟨hz, h⟩ := hh
      cases hzz : i.zero with
      | none => rw [hzz] at hz; cases hz
      | some z =>
      rw [hzz] at hz
      simp only at hz
      split at h
      · rename_i n new c0 hs
        simp only at h
        split at h
        · simp only [Option.some.injEq, Prod.mk.injEq] at h
          obtain ⟨rfl, rfl, rfl, h⟩ := h
          rw [hc] at h
          obtain ⟨h, g7⟩ := and_true' h
          obtain ⟨g1, h⟩ := and_true' h
          obtain ⟨g2, h⟩ := and_true' h
          obtain ⟨g3, h⟩ := and_true' h
          obtain ⟨g4, g5⟩ := and_true' h
          refine ⟨rfl, _, rfl, ?_⟩
          unfold appendA
          simp only [h1, h2, hi, hzz, hz, cond_true, fSrc_ok hs g1, appendB, not_true g2, cond_false, g3, g4, g5, Bool.and_self, g7]
        · simp only [Option.some.injEq, Prod.mk.injEq] at h
          obtain ⟨rfl, rfl, rfl, h⟩ := h
          rw [hc] at h
          obtain ⟨h, g7⟩ := and_true' h
          obtain ⟨g1, h⟩ := and_true' h
          obtain ⟨g2, h⟩ := and_true' h
          obtain ⟨g3, h⟩ := and_true' h
          obtain ⟨g4, g5⟩ := and_true' h
          refine ⟨rfl, _, rfl, ?_⟩
          unfold appendA
          simp only [h1, h2, hi, hzz, hz, cond_true, fSrc_ok hs g1, appendB, not_true g2, cond_false, g3, g4, g5, Bool.and_self, g7]
        · rename_i a
          split at h
          · rename_i fl cs e' h5 h6
            simp only [Option.some.injEq, Prod.mk.injEq] at h
            obtain ⟨rfl, rfl, rfl, h⟩ := h
            rw [hc] at h
            obtain ⟨g1, h⟩ := and_true' h
            obtain ⟨g2, h⟩ := and_true' h
            obtain ⟨g3, h⟩ := and_true' h
            obtain ⟨g4, g5⟩ := and_true' h
            refine ⟨rfl, _, rfl, ?_⟩
            unfold appendA
            simp only [h1, h2, hi, hzz, hz, cond_true, fSrc_ok hs g1, appendB, g2, h5, Option.isSome_none, cond_false, AHeap.store?, addAddr, h6, g3, g4, g5, Bool.and_self]
          · cases h
        · rename_i a
          split at h
          · rename_i fl cs e' h5 h6
            simp only [Option.some.injEq, Prod.mk.injEq] at h
            obtain ⟨rfl, rfl, rfl, h⟩ := h
            rw [hc] at h
            obtain ⟨h, h'⟩ := and_true' h
            obtain ⟨g1, h⟩ := and_true' h
            obtain ⟨g2, h⟩ := and_true' h
            obtain ⟨g3, h⟩ := and_true' h
            obtain ⟨g4, g5⟩ := and_true' h
            obtain ⟨g6, h'⟩ := and_true' h'
            obtain ⟨g7, h'⟩ := and_true' h'
            obtain ⟨g8, h'⟩ := and_true' h'
            obtain ⟨g9, h'⟩ := and_true' h'
            obtain ⟨g10, g11⟩ := and_true' h'
            refine ⟨rfl, _, rfl, ?_⟩
            unfold appendA
            simp only [h1, h2, hi, hzz, hz, cond_true, fSrc_ok hs g1, appendB, not_true g2, cond_false, g3, g4, g5, Bool.and_self, h5, Option.isSome_none, g6, h6, g7, g8, g9, g10, g11]
          · cases h
        · rename_i a
          split at h
          · rename_i fl cs e' h5 h6
            simp only [Option.some.injEq, Prod.mk.injEq] at h
            obtain ⟨rfl, rfl, rfl, h⟩ := h
            rw [hc] at h
            obtain ⟨h, h'⟩ := and_true' h
            obtain ⟨g1, h⟩ := and_true' h
            obtain ⟨g2, h⟩ := and_true' h
            obtain ⟨g3, h⟩ := and_true' h
            obtain ⟨g4, g5⟩ := and_true' h
            obtain ⟨g6, g7⟩ := and_true' h'
            refine ⟨rfl, _, rfl, ?_⟩
            unfold appendA
            simp only [h1, h2, hi, hzz, hz, cond_true, fSrc_ok hs g1, appendB, not_true g2, cond_false, g3, g4, g5, Bool.and_self, h5, Option.isSome_none, not_true g6, AHeap.cells?, h6, g7]
          · cases h
        · rename_i a
          split at h
          · rename_i fl cs e' h5 h6
            simp only [Option.some.injEq, Prod.mk.injEq] at h
            obtain ⟨rfl, rfl, rfl, h⟩ := h
            rw [hc] at h
            obtain ⟨h, h'⟩ := and_true' h
            obtain ⟨g1, h⟩ := and_true' h
            obtain ⟨g2, h⟩ := and_true' h
            obtain ⟨g3, h⟩ := and_true' h
            obtain ⟨g4, g5⟩ := and_true' h
            obtain ⟨g6, g7⟩ := and_true' h'
            have g8 := beq_true g7
            subst g8
            rw [Nat.zero_add] at g2 g3
            refine ⟨rfl, _, rfl, ?_⟩
            unfold appendA
            simp only [h1, h2, hi, hzz, hz, cond_true, fSrc_ok hs g1, appendB, Nat.zero_add, Nat.zero_mul, List.take_zero, List.length_nil, List.nil_append, Nat.beq_refl, not_true g2, cond_false, g3, g4, g5, Bool.and_self, h5, Option.isSome_none, not_true g6, AHeap.cells?, h6]
          · cases h
        · cases h
      · cases h
  · cases h
theorem fPick_ok {a b d : Operand} {t : Bool} (ho : o.op = .pick d a b) (h : fPick H ρ d a b t = some (k, x, K, c)) (hc : c = true) : aOper P H ρ o = some (k, x, K) := by
  unfold fPick at h
  split at h
  · rename_i y h1
    simp only [Option.some.injEq, Prod.mk.injEq] at h
    obtain ⟨rfl, rfl, rfl, h⟩ := h
    rw [hc] at h
    have : y = t := by cases t <;> cases y <;> simp_all
    subst this
    refine aOper_pure ?_
    unfold pureOp; rw [ho]; simp only [h1]
  · cases h
theorem fInt_ok {n : Int} (h : fInt P H ρ o n = some (k, x, K, c)) (hc : c = true) : aOper P H ρ o = some (k, x, K) := by
  unfold fInt at h
  split at h
  · rename_i j m h1
    simp only [Option.some.injEq, Prod.mk.injEq] at h
    obtain ⟨rfl, rfl, rfl, h⟩ := h
    rw [hc] at h
    have : m = n := of_decide_eq_true h
    subst this
    exact aOper_pure h1
  · cases h
theorem bits_pure {op : BinOp} {t : TypeId} {xx y : Operand} {k k' : IntKind} {a b n : Int} (h : bitOk op k k' a b n = true) : pureRun P (do eqGuard op t xx y (.int k a) (.int k' b); binOp op t (.int k a) (.int k' b)) = some (.int k n) := by
  unfold bitOk at h
  split at h
  · rename_i m hm
    obtain rfl : m = n := of_decide_eq_true h
    unfold bitV at hm
    split at hm
    · obtain ⟨h1, h2⟩ := bif_some hm
      have h1 : 0 ≤ b := of_decide_eq_true h1
      cases h2
      simp [eqGuard, binOp, Op.shift, pureRun, Int.not_lt.2 h1]
      rfl
    · obtain ⟨h1, h2⟩ := bif_some hm
      have h1 : 0 ≤ b := of_decide_eq_true h1
      cases h2
      simp [eqGuard, binOp, Op.shift, pureRun, Int.not_lt.2 h1]
      rfl
    · obtain ⟨h1, h2⟩ := bif_some hm
      obtain rfl : k = k' := of_decide_eq_true h1
      cases h2
      simp [eqGuard, binOp, Op.intBits, pureRun]
      rfl
    · obtain ⟨h1, h2⟩ := bif_some hm
      obtain rfl : k = k' := of_decide_eq_true h1
      cases h2
      simp [eqGuard, binOp, Op.intBits, pureRun]
      rfl
    · obtain ⟨h1, h2⟩ := bif_some hm
      obtain rfl : k = k' := of_decide_eq_true h1
      cases h2
      simp [eqGuard, binOp, Op.intBits, pureRun]
      rfl
    · cases hm
  · cases h
theorem fBits_ok {op : BinOp} {t t' : TypeId} {xx y : Operand} {n : Int} (ho : o.op = .binOp op t xx y t') (h : fBits H ρ op xx y n = some (k, x, K, c)) (hc : c = true) : aOper P H ρ o = some (k, x, K) := by
  unfold fBits at h
  split at h
  · rename_i k1 a k2 b h1 h2
    simp only [Option.some.injEq, Prod.mk.injEq] at h
    obtain ⟨rfl, rfl, rfl, h⟩ := h
    rw [hc] at h
    have hb := bits_pure (P := P) (t := t) (xx := xx) (y := y) h
    refine aOper_pure ?_
    unfold pureOp
    rw [ho]
    simp only [h1, h2]
    have hn : nilEq P t op (.int k1 a) (.int k2 b) = none := by cases op <;> rfl
    rw [hn]
    simp only [pureV, hb, bare, Bool.and_self, cond_true, if_true]
  · cases h
theorem fOp_ok {hint : Nat} (h : fOp P H ρ o hint = some (k, x, K, c)) (hc : c = true) : aOper P H ρ o = some (k, x, K) := by
  unfold fOp at h
  split at h
  · rename_i ho
    split at h
    · exact fBits_ok ho h hc
    · exact fBits_ok ho h hc
    · exact fBits_ok ho h hc
    · exact fBits_ok ho h hc
    · exact fBits_ok ho h hc
    · exact fBits_ok ho h hc
    · exact fInt_ok h hc
    · exact fInt_ok h hc
    · exact fTest_ok h hc
  · exact fTest_ok h hc
  · rename_i ho; exact fPick_ok ho h hc
  · rename_i ho; exact fIndex_ok ho h hc
  · rename_i ho; exact fSlice_ok ho h hc
  · rename_i ho
    split at h
    · exact fLoadS_ok ho h hc
    · exact fLoad_ok ho h hc
  · rename_i ho
    split at h
    · exact fInt_ok h hc
    · exact fBytes_ok ho h hc
  · split at h
    · exact fInt_ok h hc
    · cases h
  · split at h
    · exact fInt_ok h hc
    · cases h
  · rename_i args ts ho
    split at h
    · rename_i s v h1 h2
      obtain ⟨rfl, y, rfl, h3⟩ := fAppend_ok h hc
      have e1 : (args.map ρ)[0]? = some (ρ s) := by simp [h1]
      have e2 : (args.map ρ)[1]? = some (ρ v) := by simp [h2]
      refine aOper_eff ?_ ?_ ?_ ?_
      · unfold pureOp; rw [ho]
      · unfold readOp; rw [ho]
      · unfold newOp; rw [ho]
      · unfold effOp; rw [ho]
        simp only [callA, builtinA, e1, e2, h3, asVal, Option.map_some]
    · cases h
  · cases h

/-! ### Code -/
/-- All of them are so. -/
def allT (l : List Bool) : Prop := ∀ b ∈ l, b = true
theorem allT_append {l m : List Bool} (h : allT (l ++ m)) : allT l ∧ allT m := ⟨fun b hb => h b (List.mem_append.2 (.inl hb)), fun b hb => h b (List.mem_append.2 (.inr hb))⟩
structure LevOOk (L : Lev) (M : LevO) : Prop where
  code : ∀ {ro : Option Nat} {n : Nat} {c : Code} {st st' : St} {e : AExit} {ts : List Bool}, M.code ro n c st = some (e, st', ts) → allT ts → L.code ro n c st = some (e, st')
  scope : ∀ {ro : Option Nat} {n : Nat} {whole c : Code} {st st' : St} {e : AExit} {ts : List Bool}, M.scope ro n whole c st = some (e, st', ts) → allT ts → L.scope ro n whole c st = some (e, st')
  call : ∀ {g : FuncId} {args : Array Value} {H K : AHeap} {v : Value} {ts : List Bool}, M.call g args H = some (v, K, ts) → allT ts → L.call g args H = some (v, K)
section
variable {F : Word} {L : Lev} {M : LevO} (hM : LevOOk L M)
include hM
theorem operO_ok {ops : Array Oper} {st : St} {kk : Option Kind} {v : Value} {ts : List Bool} (h : operO P F L M ops o st = some (kk, v, K, ts)) (ht : allT ts) : operS P L ops o st = some (kk, v, K) := by
  unfold operO at h
  unfold operS
  split at h
  · cases hw : Region.wanted o (aYielded ops st.tm) with
    | false => rw [hw, cond_false] at h; simp only [Option.some.injEq, Prod.mk.injEq] at h; obtain ⟨rfl, rfl, rfl, _⟩ := h; rfl
    | true =>
      rw [hw, cond_true] at h
      obtain ⟨ha, h⟩ := bif_some h
      rw [cond_true, ha, cond_true]
      split at h
      · rename_i hx; simp only [Option.some.injEq, Prod.mk.injEq] at h; obtain ⟨rfl, rfl, rfl, _⟩ := h; rw [hx]
      · rename_i hx; simp only [Option.some.injEq, Prod.mk.injEq] at h; obtain ⟨rfl, rfl, rfl, _⟩ := h; rw [hx]
      · rename_i hx
        rw [hx]
        split at h
        · rename_i hy; simp only [Option.some.injEq, Prod.mk.injEq] at h; obtain ⟨rfl, rfl, rfl, rfl⟩ := h
          simp only [hM.call hy ht]
        · cases h
      · rename_i hx
        rw [hx]
        simp only
        split at h
        · rename_i hy; simp only [Option.some.injEq, Prod.mk.injEq] at h; obtain ⟨rfl, rfl, rfl, _⟩ := h; rw [hy]
        · cases h
      · cases h
  · rename_i hint _
    cases hw : Region.wanted o (aYielded ops st.tm) with
    | false => rw [hw, cond_false] at h; simp only [Option.some.injEq, Prod.mk.injEq] at h; obtain ⟨rfl, rfl, rfl, _⟩ := h; rfl
    | true =>
      rw [hw, cond_true] at h
      obtain ⟨ha, h⟩ := bif_some h
      rw [cond_true, ha, cond_true]
      split at h
      · rename_i hx; simp only [Option.some.injEq, Prod.mk.injEq] at h; obtain ⟨rfl, rfl, rfl, rfl⟩ := h
        rw [fOp_ok hx (ht _ List.mem_cons_self)]
      · cases h
theorem opsO_ok {n : Nat} {ops : Array Oper} : ∀ (rest : List Oper) (st st' : St) (b b' : List Bool), opsO P F L M n ops rest st b = some (st', b') → allT b' → allT b ∧ opsS P L n ops rest st = some st'
  | [], st, st', b, b', h, hb => by
    simp only [opsO, Option.some.injEq, Prod.mk.injEq] at h
    obtain ⟨rfl, rfl⟩ := h
    exact ⟨hb, rfl⟩
  | o :: rest, st, st', b, b', h, hb => by
    simp only [opsO] at h
    split at h
    · rename_i kk v hh c hop
      split at h
      · rename_i tm hp
        obtain ⟨h1, h2⟩ := opsO_ok rest _ _ _ _ h hb
        obtain ⟨t1, t2⟩ := allT_append h1
        refine ⟨t2, ?_⟩
        simp only [opsS, operO_ok hM hop t1, hp, h2]
      · cases h
    · cases h
theorem drawO_ok {n : Nat} {ops : Array Oper} : ∀ (rest : List Oper) (st st' : St) (sn sn' : List Seen) (b b' : List Bool), drawO P F L M n ops rest st sn b = some (st', sn', b') → allT b' → allT b ∧ drawS P L n ops rest st sn = some (st', sn')
  | [], st, st', sn, sn', b, b', h, hb => by
    simp only [drawO, Option.some.injEq, Prod.mk.injEq] at h
    obtain ⟨rfl, rfl, rfl⟩ := h
    exact ⟨hb, rfl⟩
  | o :: rest, st, st', sn, sn', b, b', h, hb => by
    simp only [drawO] at h
    split at h
    · rename_i kk v hh c hop
      split at h
      · rename_i tm hp
        obtain ⟨h1, h2⟩ := drawO_ok rest _ _ _ _ _ _ h hb
        obtain ⟨t1, t2⟩ := allT_append h1
        refine ⟨t2, ?_⟩
        simp only [drawS, operO_ok hM hop t1, hp, h2]
      · cases h
    · cases h
theorem codeO_ok {ro : Option Nat} {n : Nat} : ∀ (c : Code) (st st' : St) (e : AExit) (ts : List Bool), codeO P F L M ro n c st = some (e, st', ts) → allT ts → codeS P L ro n c st = some (e, st') := by
  intro c
  induction c with
  | skip => intro st st' e ts h ht; simp only [codeO, Option.some.injEq, Prod.mk.injEq] at h; obtain ⟨rfl, rfl, _⟩ := h; rfl
  | label l => intro st st' e ts h ht; simp only [codeO, Option.some.injEq, Prod.mk.injEq] at h; obtain ⟨rfl, rfl, _⟩ := h; rfl
  | ret => intro st st' e ts h ht; simp only [codeO, Option.some.injEq, Prod.mk.injEq] at h; obtain ⟨rfl, rfl, _⟩ := h; rfl
  | exit id => intro st st' e ts h ht; simp only [codeO, Option.some.injEq, Prod.mk.injEq] at h; obtain ⟨rfl, rfl, _⟩ := h; rfl
  | goto l => intro st st' e ts h ht; simp only [codeO, Option.some.injEq, Prod.mk.injEq] at h; obtain ⟨rfl, rfl, _⟩ := h; rfl
  | refuse s => intro st st' e ts h ht; cases h
  | seq a b iha ihb =>
    intro st st' e ts h ht
    simp only [codeO] at h
    simp only [codeS]
    cases h1 : codeO P F L M ro n a st with
    | none => rw [h1] at h; cases h
    | some q =>
      obtain ⟨e1, st1, b1⟩ := q
      rw [h1] at h
      cases e1 with
      | normal =>
        simp only at h
        cases h2 : codeO P F L M ro n b st1 with
        | none => rw [h2] at h; cases h
        | some q2 =>
          obtain ⟨e2, st2, b2⟩ := q2
          rw [h2] at h
          simp only [Option.some.injEq, Prod.mk.injEq] at h
          obtain ⟨rfl, rfl, rfl⟩ := h
          obtain ⟨t2, t1⟩ := allT_append ht
          rw [iha _ _ _ _ h1 t1]
          exact ihb _ _ _ _ h2 t2
      | exit id => simp only [Option.some.injEq, Prod.mk.injEq] at h; obtain ⟨rfl, rfl, rfl⟩ := h; rw [iha _ _ _ _ h1 ht]
      | goto l => simp only [Option.some.injEq, Prod.mk.injEq] at h; obtain ⟨rfl, rfl, rfl⟩ := h; rw [iha _ _ _ _ h1 ht]
      | ret => simp only [Option.some.injEq, Prod.mk.injEq] at h; obtain ⟨rfl, rfl, rfl⟩ := h; rw [iha _ _ _ _ h1 ht]
  | cond x a b iha ihb =>
    intro st st' e ts h ht
    simp only [codeO] at h
    simp only [codeS]
    cases hv : aEval st.h.gl st.tm x <;> rw [hv] at h <;> try (cases h; done)
    rename_i t
    cases t with
    | true => exact iha _ _ _ _ h ht
    | false => exact ihb _ _ _ _ h ht
  | block id a ih =>
    intro st st' e ts h ht
    simp only [codeO] at h
    simp only [codeS]
    cases h1 : codeO P F L M ro n a st with
    | none => rw [h1] at h; cases h
    | some q =>
      obtain ⟨e1, st1, b1⟩ := q
      rw [h1] at h
      cases e1 with
      | exit id' =>
        simp only at h
        cases hb : Nat.beq id' id with
        | true => rw [hb, cond_true] at h; simp only [Option.some.injEq, Prod.mk.injEq] at h; obtain ⟨rfl, rfl, rfl⟩ := h; rw [ih _ _ _ _ h1 ht]; simp only [hb, cond_true]
        | false => rw [hb, cond_false] at h; simp only [Option.some.injEq, Prod.mk.injEq] at h; obtain ⟨rfl, rfl, rfl⟩ := h; rw [ih _ _ _ _ h1 ht]; simp only [hb, cond_false]
      | normal => simp only [Option.some.injEq, Prod.mk.injEq] at h; obtain ⟨rfl, rfl, rfl⟩ := h; rw [ih _ _ _ _ h1 ht]
      | goto l => simp only [Option.some.injEq, Prod.mk.injEq] at h; obtain ⟨rfl, rfl, rfl⟩ := h; rw [ih _ _ _ _ h1 ht]
      | ret => simp only [Option.some.injEq, Prod.mk.injEq] at h; obtain ⟨rfl, rfl, rfl⟩ := h; rw [ih _ _ _ _ h1 ht]
  | loop a ih =>
    intro st st' e ts h ht
    simp only [codeO] at h
    simp only [codeS]
    cases h1 : codeO P F L M ro n a st with
    | none => rw [h1] at h; cases h
    | some q =>
      obtain ⟨e1, st1, b1⟩ := q
      rw [h1] at h
      cases e1 with
      | normal =>
        simp only at h
        cases h2 : M.code ro n (.loop a) st1 with
        | none => rw [h2] at h; cases h
        | some q2 =>
          obtain ⟨e2, st2, b2⟩ := q2
          rw [h2] at h
          simp only [Option.some.injEq, Prod.mk.injEq] at h
          obtain ⟨rfl, rfl, rfl⟩ := h
          obtain ⟨t2, t1⟩ := allT_append ht
          rw [ih _ _ _ _ h1 t1]
          exact hM.code h2 t2
      | exit id => simp only [Option.some.injEq, Prod.mk.injEq] at h; obtain ⟨rfl, rfl, rfl⟩ := h; rw [ih _ _ _ _ h1 ht]
      | goto l => simp only [Option.some.injEq, Prod.mk.injEq] at h; obtain ⟨rfl, rfl, rfl⟩ := h; rw [ih _ _ _ _ h1 ht]
      | ret => simp only [Option.some.injEq, Prod.mk.injEq] at h; obtain ⟨rfl, rfl, rfl⟩ := h; rw [ih _ _ _ _ h1 ht]
  | scope a ih =>
    intro st st' e ts h ht
    simp only [codeO] at h
    simp only [codeS]
    cases h1 : codeO P F L M ro n a st with
    | none => rw [h1] at h; cases h
    | some q =>
      obtain ⟨e1, st1, b1⟩ := q
      rw [h1] at h
      cases e1 with
      | goto l =>
        simp only at h
        cases hf : findLabel a l with
        | none => rw [hf] at h; simp only [Option.some.injEq, Prod.mk.injEq] at h; obtain ⟨rfl, rfl, rfl⟩ := h; rw [ih _ _ _ _ h1 ht]; simp only [hf]
        | some rest =>
          rw [hf] at h
          simp only at h
          cases h2 : M.scope ro n a rest st1 with
          | none => rw [h2] at h; cases h
          | some q2 =>
            obtain ⟨e2, st2, b2⟩ := q2
            rw [h2] at h
            simp only [Option.some.injEq, Prod.mk.injEq] at h
            obtain ⟨rfl, rfl, rfl⟩ := h
            obtain ⟨t2, t1⟩ := allT_append ht
            rw [ih _ _ _ _ h1 t1]
            simp only [hf]
            exact hM.scope h2 t2
      | normal => simp only [Option.some.injEq, Prod.mk.injEq] at h; obtain ⟨rfl, rfl, rfl⟩ := h; rw [ih _ _ _ _ h1 ht]
      | exit id => simp only [Option.some.injEq, Prod.mk.injEq] at h; obtain ⟨rfl, rfl, rfl⟩ := h; rw [ih _ _ _ _ h1 ht]
      | ret => simp only [Option.some.injEq, Prod.mk.injEq] at h; obtain ⟨rfl, rfl, rfl⟩ := h; rw [ih _ _ _ _ h1 ht]
  | region id ops draw =>
    intro st st' e ts h ht
    simp only [codeO] at h
    simp only [codeS]
    cases draw with
    | false =>
      simp only at h ⊢
      split at h
      · rename_i st1 b hx
        simp only [Option.some.injEq, Prod.mk.injEq] at h
        obtain ⟨rfl, rfl, rfl⟩ := h
        rw [(opsO_ok hM _ _ _ _ _ hx ht).2]
      · cases h
    | true =>
      simp only at h ⊢
      split at h
      · rename_i st1 sn b hx
        simp only [Option.some.injEq, Prod.mk.injEq] at h
        obtain ⟨rfl, rfl, rfl⟩ := h
        rw [(drawO_ok hM _ _ _ _ _ _ _ hx (fun b hb => ht b (List.mem_cons_of_mem _ hb))).2]
        simp only [ht _ List.mem_cons_self, cond_true]
      · cases h
  | rangeFunc g ps a b _ _ =>
    intro st st' e ts h ht
    simp only [codeO] at h
    simp only [codeS]
    split at h
    · rename_i hx
      simp only [Option.some.injEq, Prod.mk.injEq] at h
      obtain ⟨rfl, rfl, _⟩ := h
      exact hx
    · cases h
theorem scopeO_ok {ro : Option Nat} {n : Nat} {whole c : Code} {st st' : St} {e : AExit} {ts : List Bool} (h : scopeO P F L M ro n whole c st = some (e, st', ts)) (ht : allT ts) : scopeS P L ro n whole c st = some (e, st') := by
  unfold scopeO at h
  unfold scopeS
  cases h1 : codeO P F L M ro n c st with
  | none => rw [h1] at h; cases h
  | some q =>
    obtain ⟨e1, st1, b1⟩ := q
    rw [h1] at h
    cases e1 with
    | goto l =>
      simp only at h
      cases hf : findLabel whole l with
      | none => rw [hf] at h; simp only [Option.some.injEq, Prod.mk.injEq] at h; obtain ⟨rfl, rfl, rfl⟩ := h; rw [codeO_ok hM _ _ _ _ _ h1 ht]; simp only [hf]
      | some rest =>
        rw [hf] at h
        simp only at h
        cases h2 : M.scope ro n whole rest st1 with
        | none => rw [h2] at h; cases h
        | some q2 =>
          obtain ⟨e2, st2, b2⟩ := q2
          rw [h2] at h
          simp only [Option.some.injEq, Prod.mk.injEq] at h
          obtain ⟨rfl, rfl, rfl⟩ := h
          obtain ⟨t2, t1⟩ := allT_append ht
          rw [codeO_ok hM _ _ _ _ _ h1 t1]
          simp only [hf]
          exact hM.scope h2 t2
    | normal => simp only [Option.some.injEq, Prod.mk.injEq] at h; obtain ⟨rfl, rfl, rfl⟩ := h; rw [codeO_ok hM _ _ _ _ _ h1 ht]
    | exit id => simp only [Option.some.injEq, Prod.mk.injEq] at h; obtain ⟨rfl, rfl, rfl⟩ := h; rw [codeO_ok hM _ _ _ _ _ h1 ht]
    | ret => simp only [Option.some.injEq, Prod.mk.injEq] at h; obtain ⟨rfl, rfl, rfl⟩ := h; rw [codeO_ok hM _ _ _ _ _ h1 ht]
theorem callO_ok {g : FuncId} {args : Array Value} {v : Value} {ts : List Bool} (h : callO P F L M g args H = some (v, K, ts)) (ht : allT ts) : callS P L g args H = some (v, K) := by
  unfold callO at h
  unfold callS
  cases hf : P.funcs[g]? with
  | none => rw [hf] at h; cases h
  | some fn =>
    rw [hf] at h
    simp only at h ⊢
    cases hb : fn.body with
    | none => rw [hb] at h; cases h
    | some c =>
      rw [hb] at h
      simp only at h ⊢
      obtain ⟨hle, h⟩ := bif_some h
      rw [hle, cond_true]
      cases h1 : codeO P F L M none fn.ntmps c ⟨argsT args.toList 0 .nil, [], H⟩ with
      | none => rw [h1] at h; cases h
      | some q =>
        obtain ⟨e1, st1, b1⟩ := q
        rw [h1] at h
        have fin : (match takeAll st1.ds st1.h with
            | some h => match resultsA P h fn st1.tm with
              | some v => some (v, h, b1)
              | none => none
            | none => none) = some (v, K, ts) → b1 = ts ∧ (match takeAll st1.ds st1.h with
            | some h => match resultsA P h fn st1.tm with
              | some v => some (v, h)
              | none => none
            | none => none) = some (v, K) := by
          intro h
          cases hta : takeAll st1.ds st1.h with
          | none => rw [hta] at h; cases h
          | some h2 =>
            rw [hta] at h
            simp only at h ⊢
            cases hr : resultsA P h2 fn st1.tm with
            | none => rw [hr] at h; cases h
            | some v2 =>
              rw [hr] at h
              simp only [Option.some.injEq, Prod.mk.injEq] at h
              obtain ⟨rfl, rfl, rfl⟩ := h
              exact ⟨rfl, rfl⟩
        cases e1 with
        | normal => obtain ⟨e0, h9⟩ := fin h; subst e0; rw [codeO_ok hM _ _ _ _ _ h1 ht]; exact h9
        | ret => obtain ⟨e0, h9⟩ := fin h; subst e0; rw [codeO_ok hM _ _ _ _ _ h1 ht]; exact h9
        | exit id => cases h
        | goto l => cases h
end
theorem levO_ok {Y : ExtO} {F : Word} : ∀ (f : Nat), LevOOk (levX P Y.ext f) (levO P Y F f)
  | 0 => ⟨fun h _ => (by cases h), fun h _ => (by cases h), fun h _ => (by cases h)⟩
  | f + 1 => by
    have ih := levO_ok (Y := Y) (F := F) f
    refine ⟨fun h ht => codeO_ok ih _ _ _ _ _ h ht, fun h ht => scopeO_ok ih h ht, fun {g args H K v ts} h ht => ?_⟩
    have h' : callOX P Y F (levX P Y.ext f) (levO P Y F f) g args H = some (v, K, ts) := h
    show callX P Y.ext (levX P Y.ext f) g args H = some (v, K)
    unfold callOX at h'
    unfold callX
    cases ho : Y.ov g args H with
    | none =>
      have e : Y.ext.ov g args H = none := by simp only [ExtO.ext, ho]
      rw [ho] at h'
      rw [e]
      exact callO_ok ih h' ht
    | some r =>
      obtain ⟨v1, K1, t1⟩ := r
      rw [ho] at h'
      simp only [Option.some.injEq, Prod.mk.injEq] at h'
      obtain ⟨rfl, rfl, rfl⟩ := h'
      have ha : t1.all id = true := List.all_eq_true.2 fun b hb => ht b hb
      have e : Y.ext.ov g args H = some (v1, K1) := by simp only [ExtO.ext, ho, ha, cond_true]
      rw [e]
end
section
variable {ρ : Nat → Option Nat} {ψ : Ren}

/-- The coarse heap's names, read by way of the fine one's. -/
def Ren.via (ψ : Ren) (ρ : Nat → Option Nat) : Ren := ⟨fun i => (ρ i).bind ψ.f, ψ.k⟩
theorem Ren.via_some {i j b : Nat} (h : ρ i = some j) (k : ψ j = some b) : (ψ.via ρ) i = some b := by
  show (ρ i).bind ψ.f = some b
  rw [h]; exact k

/-- What 'u' stands for, 'v' stands for too. -/
def VG (ρ : Nat → Option Nat) (v u : Value) : Prop := ∀ (ψ : Ren) (u' : Value), VR ψ u u' → VR (ψ.via ρ) v u'
def LG (ρ : Nat → Option Nat) (x y : List Value) : Prop := ∀ (ψ : Ren) (z : List Value), LR ψ y z → LR (ψ.via ρ) x z
def OG (ρ : Nat → Option Nat) (o o' : AObj) : Prop := ∀ (ψ : Ren) (z : Obj), OR ψ o' z → OR (ψ.via ρ) o z

theorem VG.bool (b : Bool) : VG ρ (.bool b) (.bool b) := fun _ _ h => by cases h; exact .bool b
theorem VG.int (k : IntKind) (n : Int) : VG ρ (.int k n) (.int k n) := fun _ _ h => by cases h; exact .int k n
theorem VG.float (k : FloatKind) (n : Nat) : VG ρ (.float k n) (.float k n) := fun _ _ h => by cases h; exact .float k n
theorem VG.string (s : ByteArray) : VG ρ (.string s) (.string s) := fun _ _ h => by cases h; exact .string s
theorem VG.ptrNil : VG ρ (.pointer none) (.pointer none) := fun _ _ h => by cases h; exact .ptrNil
theorem VG.sliceNil : VG ρ (.slice none 0 0) (.slice none 0 0) := fun _ _ h => by cases h; exact .sliceNil
theorem VG.mapNil : VG ρ (.map none) (.map none) := fun _ _ h => by cases h; exact .mapNil
theorem VG.nilFunc : VG ρ .nilFunc .nilFunc := fun _ _ h => by cases h; exact .nilFunc
theorem VG.nilIface : VG ρ .nilIface .nilIface := fun _ _ h => by cases h; exact .nilIface
theorem VG.ptr {i j : Nat} (o : Nat) (e : ρ i = some j) : VG ρ (.pointer (some ⟨i, o, none⟩)) (.pointer (some ⟨j, o, none⟩)) := fun _ _ h => by
  cases h with
  | ptr k => exact .ptr (Ren.via_some e k)
theorem VG.map {i j : Nat} (e : ρ i = some j) : VG ρ (.map (some i)) (.map (some j)) := fun _ _ h => by
  cases h with
  | map k => exact .map (Ren.via_some e k)
theorem VG.slice {i j : Nat} (o l c : Nat) (e : ρ i = some j) : VG ρ (.slice (some ⟨i, o, none⟩) l c) (.slice (some ⟨j, o, none⟩) l c) := fun _ _ h => by
  cases h with
  | slice l k hc hk => exact .slice l (Ren.via_some e k) hc hk
theorem VG.top {u : Value} (h : topOk u = true) : VG ρ (.chan (some 0)) u := fun _ u' k => by
  refine .top ?_
  cases k <;> first | rfl | assumption | cases h
theorem LG.of_get {x y : List Value} (hl : x.length = y.length) (h : ∀ (i : Nat) (v u : Value), x[i]? = some v → y[i]? = some u → VG ρ v u) : LG ρ x y := fun ψ z k => by
  refine ⟨hl.trans k.1, fun i v e => ?_⟩
  have hi : i < y.length := by rw [← hl]; exact (List.getElem?_eq_some_iff.1 e).1
  obtain ⟨u', e', r⟩ := k.2 i y[i] (List.getElem?_eq_getElem hi)
  exact ⟨u', e', h i v _ e (List.getElem?_eq_getElem hi) ψ u' r⟩
theorem LG.nil : LG ρ [] [] := fun _ _ h => by rw [h.nil_inv]; exact LR.nil _
theorem LG.cons {v u : Value} {x y : List Value} (h : VG ρ v u) (k : LG ρ x y) : LG ρ (v :: x) (u :: y) := fun ψ z r => by
  obtain ⟨u', z', rfl, h1, h2⟩ := r.cons_inv
  exact LR.cons (h ψ u' h1) (k ψ z' h2)
theorem LG.append {x y x' y' : List Value} (h : LG ρ x y) (k : LG ρ x' y') : LG ρ (x ++ x') (y ++ y') := fun ψ z r => by
  have e : z = z.take y.length ++ z.drop y.length := (List.take_append_drop _ _).symm
  have h1 : LR ψ y (z.take y.length) := by simpa using r.take y.length
  have h2 : LR ψ y' (z.drop y.length) := by simpa using r.drop y.length
  rw [e]
  exact LR.append (h ψ _ h1) (k ψ _ h2)
theorem LG.bytes (l : List UInt8) : LG ρ (byteVals l) (byteVals l) := LG.of_get rfl fun i v u h1 h2 => by
  rw [h1] at h2
  cases h2
  simp only [byteVals, List.getElem?_map, Option.map_eq_some_iff] at h1
  obtain ⟨b, _, rfl⟩ := h1
  exact VG.int _ _
/-- Of these nothing is said but how many they are. -/
theorem LG.tops {y : List Value} (n : Nat) (hn : n = y.length) (h : ∀ u ∈ y, topOk u = true) : LG ρ (List.replicate n (.chan (some 0))) y :=
  LG.of_get (by simp [hn]) fun i v u h1 h2 => by
    rw [List.getElem?_replicate] at h1
    by_cases hi : i < n
    · rw [if_pos hi] at h1; cases h1; exact VG.top (h u (List.mem_of_getElem? h2))
    · rw [if_neg hi] at h1; cases h1
theorem LG.arr {x y : Array Value} (h : LG ρ x.toList y.toList) {u' : Array Value} (k : AR ψ y u') : AR (ψ.via ρ) x u' := h ψ _ k
theorem VG.agg {x y : Array Value} (h : LG ρ x.toList y.toList) : VG ρ (.agg x) (.agg y) := fun ψ u' k => by
  cases k with
  | agg h1 h2 => exact VR.agg' (LG.arr h (LR.of_get h1 h2))
theorem VG.agg' {x y : List Value} (h : LG ρ x y) : VG ρ (.agg ⟨x⟩) (.agg ⟨y⟩) := VG.agg h
theorem VG.tuple {x y : Array Value} (h : LG ρ x.toList y.toList) : VG ρ (.tuple x) (.tuple y) := fun ψ u' k => by
  cases k with
  | tuple h1 h2 => exact VR.tuple' (LG.arr h (LR.of_get h1 h2))

theorem OG.own (e : TypeId) {x y : List Value} (h : LG ρ x y) : OG ρ (.cells .own x e) (.cells .own y e) := fun ψ z k => by
  cases k with
  | own e k => exact .own e (h ψ _ k)
theorem LG.length {x y : List Value} (h : LG ρ x y) {ψ : Ren} {z : List Value} (k : LR ψ y z) : x.length = y.length := (h ψ z k).1.trans k.1.symm
theorem OG.open_ (s : Nat) (e : TypeId) {x y : List Value} (h : LG ρ x y) : OG ρ (.cells (.open_ s) x e) (.cells (.open_ s) y e) := fun ψ z k => by
  cases k with
  | open_ s e k => exact .open_ s e (by rw [h.length k]; exact h ψ _ k)
theorem OG.ro (e : TypeId) {x y : List Value} (h : LG ρ x y) : OG ρ (.cells .ro x e) (.cells .ro y e) := fun ψ z k => by
  cases k with
  | ro e fr k => exact .ro e fr (by rw [h.length k]; exact h ψ _ k)
theorem OG.map (clock : Nat) {x y : List MapEntry} (hl : x.length = y.length) (h : ∀ (i : Nat) (a b : MapEntry), x[i]? = some a → y[i]? = some b → VG ρ a.key b.key ∧ VG ρ a.val b.val ∧ a.born = b.born) : OG ρ (.map x clock) (.map y clock) := fun ψ z k => by
  cases k with
  | map c k =>
    refine .map clock ⟨hl.trans k.1, fun i v e => ?_⟩
    have hi : i < y.length := by rw [← hl]; exact (List.getElem?_eq_some_iff.1 e).1
    obtain ⟨e', h1, h2, h3, h4⟩ := k.2 i y[i] (List.getElem?_eq_getElem hi)
    obtain ⟨g1, g2, g3⟩ := h i v _ e (List.getElem?_eq_getElem hi)
    exact ⟨e', h1, g1 ψ _ h2, g2 ψ _ h3, g3.trans h4⟩

/-- A heap by its objects. -/
def heapOf (next gl : Nat) (l : List (Nat × AObj)) : AHeap := ⟨next, gl, l.foldr (fun x t => t.put x.1 x.2) .nil⟩
theorem heapOf_get {next gl : Nat} : ∀ {l : List (Nat × AObj)} {i : Nat} {o : AObj}, (heapOf next gl l).objs.get i = some o → (i, o) ∈ l
  | [], i, o, h => by cases h
  | x :: l, i, o, h => by
    simp only [heapOf, List.foldr_cons, T.get_put] at h
    by_cases e : i = x.1
    · rw [if_pos e] at h
      obtain rfl := e
      cases h
      exact List.mem_cons_self
    · rw [if_neg e] at h
      exact List.mem_cons_of_mem _ (heapOf_get (next := next) (gl := gl) h)

/-- 'H' is 'K' seen more coarsely, by names that 'ρ' reads. -/
structure Gen (ρ : Nat → Option Nat) (K H : AHeap) : Prop where
  gl : H.gl = K.gl
  glob : ∀ i, i < H.gl → ρ i = some i
  fresh : ∀ i, H.next ≤ i → ρ i = none
  inj : ∀ i j k, ρ i = some k → ρ j = some k → i = j
  dom : ∀ i o, H.objs.get i = some o → ∃ j o', ρ i = some j ∧ K.objs.get j = some o' ∧ OG ρ o o' ∧ o'.wr = o.wr ∧
    (∀ fl c e, o = .cells fl c e → ∃ c', o' = .cells fl c' e)
theorem Gen.freshR {K H : AHeap} (h : Gen ρ K H) (ψ : Ren) : Fresh (ψ.via ρ) H := fun i hi => by
  show (ρ i).bind ψ.f = none
  rw [h.fresh i hi]; rfl
theorem HR.gen {K H : AHeap} {w : World} (h : HR ψ K w) (g : Gen ρ K H) : HR (ψ.via ρ) H w where
  dom := fun i o e => by
    obtain ⟨j, o', h1, h2, h3, _⟩ := g.dom i o e
    obtain ⟨b, z, e1, e2, e3⟩ := h.dom j o' h2
    exact ⟨b, z, Ren.via_some h1 e1, e2, h3 ψ z e3⟩
  inj := fun i j o p b hi hj ei ej ho => by
    obtain ⟨i', o', h1, h2, _, hw, _⟩ := g.dom i o hi
    obtain ⟨j', p', h1', h2', _⟩ := g.dom j p hj
    have ei' : ψ i' = some b := by
      have : (ρ i).bind ψ.f = some b := ei
      rw [h1] at this; exact this
    have ej' : ψ j' = some b := by
      have : (ρ j).bind ψ.f = some b := ej
      rw [h1'] at this; exact this
    have := h.inj i' j' o' p' b h2 h2' ei' ej' (hw.trans ho)
    exact g.inj i j i' h1 (this ▸ h1')
  glob := fun i hi => Ren.via_some (g.glob i hi) (h.glob i (g.gl ▸ hi))
  rng := fun i b e => by
    have e' : (ρ i).bind ψ.f = some b := e
    cases hr : ρ i with
    | none => rw [hr] at e'; cases e'
    | some j => rw [hr] at e'; exact h.rng j b e'
  caps := fun i fl c e b c' fr hi ei hb hs => by
    obtain ⟨j, o', h1, h2, _, _, h5⟩ := g.dom i _ hi
    obtain ⟨c2, rfl⟩ := h5 fl c e rfl
    have ei' : ψ j = some b := by
      have : (ρ i).bind ψ.f = some b := ei
      rw [h1] at this; exact this
    exact h.caps j fl c2 e b c' fr h2 ei' hb hs
end
section
variable {P : Program} {N : Nat} {w0 w : World} {φ ψ : Ren} {H K : AHeap} {ρ : Nat → Option Nat}

/-- The heap 'H' lies in 'w' by the names 'φ'; all of it that is written lies at 'N' or above; below 'N' all is as it was in 'w0'. -/
structure At (N : Nat) (w0 : World) (φ : Ren) (H : AHeap) (w : World) : Prop where
  hr : HR φ H w
  fresh : Fresh φ H
  high : ∀ b, Owns φ H b → N ≤ b
  room : N ≤ w.heap.size
  below : RowKit.Below N w0 w
theorem At.goes {w' : World} (h : At N w0 φ H w) (g : Goes φ H w ψ K w') (hr : HR ψ K w') (hf : Fresh ψ K) : At N w0 ψ K w' where
  hr := hr
  fresh := hf
  high := fun b hb => (g.owns b hb).elim (h.high b) (Nat.le_trans h.room)
  room := Nat.le_trans h.room g.size
  below := h.below.trans ⟨g.os, g.tape, g.output, g.size, fun b hb => g.keep b (Nat.lt_of_lt_of_le hb h.room) (fun ho => absurd (h.high b ho) (by omega))⟩
theorem At.gen (h : At N w0 ψ K w) (g : Gen ρ K H) : At N w0 (ψ.via ρ) H w where
  hr := h.hr.gen g
  fresh := g.freshR ψ
  high := fun b ⟨i, o, e, ho, eb⟩ => by
    obtain ⟨j, o', h1, h2, _, h4, _⟩ := g.dom i o e
    have e1 : (ρ i).bind ψ.f = some b := eb
    rw [h1] at e1
    exact h.high b ⟨j, o', h2, h4.trans ho, e1⟩
  room := h.room
  below := h.below

/-- A call by the interpreter's word. -/
theorem At.call (h : At N w0 φ H w) (hm : P.follows .mixedOrders = true) {X : ExtO} (hX : ExtOk P X.ext) {F : Word} {f : Nat} {g : FuncId} {args args' : Array Value} {v : Value} {ts : List Bool}
    (hx : (levO P X F f).call g args H = some (v, K, ts)) (hc : allT ts) (ha : AR φ args args') :
    Calls P g args' w fun e w' => ∃ v' ψ, e = .returned v' ∧ VR ψ v v' ∧ φ.le ψ ∧ At N w0 ψ K w' := by
  refine Calls.mono (call_soundX hm hX f ((levO_ok f).call hx hc) ha h.hr h.fresh) ?_
  intro e w' he
  cases e with
  | returned v' =>
    obtain ⟨ψ, h1, h2⟩ := he
    exact ⟨v', ψ, rfl, h1, h2.goes.ren, h.goes h2.goes h2.hr h2.fresh⟩
  | panicked _ => exact he.elim
  | outgrown => exact he.elim
/-- The call, and what it leaves seen more coarsely. -/
theorem At.call_gen (h : At N w0 φ H w) (hm : P.follows .mixedOrders = true) {X : ExtO} (hX : ExtOk P X.ext) {F : Word} {f : Nat} {g : FuncId} {args args' : Array Value} {v : Value} {ts : List Bool} {H' : AHeap}
    (hx : (levO P X F f).call g args H = some (v, K, ts)) (hc : allT ts) (ha : AR φ args args') (hg : Gen ρ K H') :
    Calls P g args' w fun e w' => ∃ v' ψ, e = .returned v' ∧ VR ψ v v' ∧ φ.le ψ ∧ At N w0 (ψ.via ρ) H' w' :=
  Calls.mono (h.call hm hX hx hc ha) fun _ _ ⟨v', ψ, h1, h2, h3, h4⟩ => ⟨v', ψ, h1, h2, h3, h4.gen hg⟩

/-- A row below 'N' is taken in, to be read. -/
theorem At.add (h : At N w0 φ H w) {b : Nat} (hb : b < N) {c : List Value} {c' : Array Value} {e : TypeId} {fr : Nat × Nat} (hw : w.heap[b]? = some (.cells c' e fr))
    (hc : LR φ c (c'.toList.take c.length)) : At N w0 (φ.set H.next b (φ.k b)) (H.new (.cells .ro c e)) w := by
  have hle : φ.le (φ.set H.next b (φ.k b)) := Ren.le_set (h.fresh _ (Nat.le_refl _)) (.inr rfl)
  have hrng : ∀ i d, (φ.set H.next b (φ.k b)) i = some d → d < w.heap.size := fun i d e => by
    by_cases hi : i = H.next
    · subst hi
      rw [Ren.set_same] at e
      cases e
      exact Nat.lt_of_lt_of_le hb h.room
    · rw [Ren.set_ne _ _ _ hi] at e
      exact h.hr.rng i d e
  have h1 := HR.mono hle hrng h.hr
  have hget : ∀ i o, (H.new (.cells .ro c e)).objs.get i = some o → (i = H.next ∧ o = .cells .ro c e) ∨ (i ≠ H.next ∧ H.objs.get i = some o) := fun i o ho => by
    by_cases hi : i = H.next
    · subst hi
      have : (H.objs.put H.next (.cells .ro c e)).get H.next = some o := ho
      rw [T.get_put_same] at this
      cases this
      exact .inl ⟨rfl, rfl⟩
    · have : (H.objs.put H.next (.cells .ro c e)).get i = some o := ho
      rw [T.get_put_ne _ _ hi] at this
      exact .inr ⟨hi, this⟩
  have hno : ∀ i o, H.objs.get i = some o → o.wr = true → (φ.set H.next b (φ.k b)) i ≠ some b := fun i o ho hwr ei => by
    have hi : i ≠ H.next := Nat.ne_of_lt (h.hr.lt h.fresh ho)
    rw [Ren.set_ne _ _ _ hi] at ei
    exact absurd (h.high b ⟨i, o, ho, hwr, ei⟩) (by omega)
  refine ⟨⟨fun i o ho => ?_, fun i j o o' d hi hj ei ej hwr => ?_, fun i hi => h1.glob i hi, hrng, fun i fl c1 e1 d c2 fr2 hi ei hd hs => ?_⟩, fun i hi => ?_, fun d ⟨i, o, ho, hwr, ei⟩ => ?_, h.room, h.below⟩
  · rcases hget i o ho with ⟨rfl, rfl⟩ | ⟨hi, ho⟩
    · exact ⟨b, _, Ren.set_same _ _ _ _, hw, .ro e fr (LR.mono hle hc)⟩
    · exact h1.dom i o ho
  · rcases hget i o hi with ⟨rfl, rfl⟩ | ⟨ni, hi⟩
    · cases hwr
    · rcases hget j o' hj with ⟨rfl, rfl⟩ | ⟨nj, hj⟩
      · rw [Ren.set_same] at ej
        cases ej
        exact absurd ei (hno i o hi hwr)
      · exact h1.inj i j o o' d hi hj ei ej hwr
  · rcases hget i _ hi with ⟨rfl, e2⟩ | ⟨ni, hi⟩
    · cases e2
      exact absurd rfl hs
    · exact h1.caps i fl c1 e1 d c2 fr2 hi ei hd hs
  · have hi' : H.next + 1 ≤ i := hi
    rw [Ren.set_ne _ _ _ (by omega)]
    exact h.fresh i (by omega)
  · rcases hget i o ho with ⟨rfl, rfl⟩ | ⟨ni, hi⟩
    · cases hwr
    · rw [Ren.set_ne _ _ _ ni] at ei
      exact h.high d ⟨i, o, hi, hwr, ei⟩
end

/-- Names below 'gl' stand for themselves; the others as the list says. -/
def pairs (gl : Nat) (l : List (Nat × Nat)) (i : Nat) : Option Nat :=
  bif Nat.blt i gl then some i else (l.find? fun p => Nat.beq p.1 i).map (·.2)
def pairsOk (gl next : Nat) (l : List (Nat × Nat)) : Bool :=
  l.all (fun p => Nat.ble gl p.1 && (Nat.blt p.1 next && (Nat.ble gl p.2 && l.all fun q => Nat.beq q.1 p.1 || !(Nat.beq q.2 p.2)))) && Nat.ble gl next
theorem pairs_mem {gl : Nat} {l : List (Nat × Nat)} {i j : Nat} (h : pairs gl l i = some j) (hi : gl ≤ i) : (i, j) ∈ l := by
  have hb : Nat.blt i gl = false := by
    cases e : Nat.blt i gl with
    | false => rfl
    | true => exact absurd (Nat.le_of_ble_eq_true e) (by omega)
  rw [pairs, hb, cond_false] at h
  cases hf : l.find? fun p => Nat.beq p.1 i with
  | none => rw [hf] at h; cases h
  | some p =>
    rw [hf] at h
    simp only [Option.map_some, Option.some.injEq] at h
    have h1 := List.find?_some hf
    have h2 := List.mem_of_find?_eq_some hf
    have : p.1 = i := Nat.eq_of_beq_eq_true h1
    obtain ⟨a, b⟩ := p
    simp only at this h
    subst this; subst h
    exact h2
theorem pairs_low {gl : Nat} {l : List (Nat × Nat)} {i : Nat} (h : i < gl) : pairs gl l i = some i := by
  have hb : Nat.blt i gl = true := Nat.ble_eq_true_of_le h
  rw [pairs, hb, cond_true]
theorem Gen.of_pairs {K : AHeap} {next gl : Nat} {l : List (Nat × Nat)} {hs : List (Nat × AObj)} (hgl : K.gl = gl) (ok : pairsOk gl next l = true)
    (hd : ∀ x ∈ hs, ∃ j o', pairs gl l x.1 = some j ∧ K.objs.get j = some o' ∧ OG (pairs gl l) x.2 o' ∧ o'.wr = x.2.wr ∧ (∀ fl c e, x.2 = .cells fl c e → ∃ c', o' = .cells fl c' e)) :
    Gen (pairs gl l) K (heapOf next gl hs) := by
  simp only [pairsOk, Bool.and_eq_true, List.all_eq_true, Bool.or_eq_true, Bool.not_eq_true'] at ok
  obtain ⟨ok, hn⟩ := ok
  have hn' : gl ≤ next := Nat.le_of_ble_eq_true hn
  have low : ∀ p ∈ l, gl ≤ p.1 ∧ p.1 < next ∧ gl ≤ p.2 := fun p hp => by
    obtain ⟨h1, h2, h3, _⟩ := ok p hp
    exact ⟨Nat.le_of_ble_eq_true h1, Nat.le_of_ble_eq_true h2, Nat.le_of_ble_eq_true h3⟩
  have same : ∀ p ∈ l, ∀ q ∈ l, q.2 = p.2 → q.1 = p.1 := fun p hp q hq e => by
    obtain ⟨_, _, _, h⟩ := ok p hp
    rcases h q hq with h | h
    · exact Nat.eq_of_beq_eq_true h
    · rw [e, Nat.beq_refl] at h; cases h
  refine ⟨hgl.symm, fun i hi => pairs_low hi, fun i hi => ?_, fun i j k hi hj => ?_, fun i o ho => ?_⟩
  · have hi' : next ≤ i := hi
    cases e : pairs gl l i with
    | none => rfl
    | some j =>
      have := low _ (pairs_mem e (by omega))
      simp only at this
      omega
  · rcases Nat.lt_or_ge i gl with h1 | h1
    · rw [pairs_low h1] at hi
      cases hi
      rcases Nat.lt_or_ge j gl with h2 | h2
      · rw [pairs_low h2] at hj; cases hj; rfl
      · have := low _ (pairs_mem hj h2); simp only at this; omega
    · have m1 := pairs_mem hi h1
      rcases Nat.lt_or_ge j gl with h2 | h2
      · rw [pairs_low h2] at hj
        cases hj
        have := low _ m1; simp only at this; omega
      · have m2 := pairs_mem hj h2
        exact same _ m2 _ m1 rfl
  · exact hd (i, o) (heapOf_get ho)
section
variable {P : Program} {N n : Nat} {w0 w : World} {φ ψ : Ren} {S S' T' : St} {ρ : Nat → Option Nat} {a : Act}

theorem dr_nil {ψ' : Ren} {l : List Nat} {d : List Deferred} (h : DR P ψ l d) : l = [] → DR P ψ' [] d := by
  induction h with
  | nil => intro _; exact .nil
  | cons _ _ _ => intro e; cases e
  | quiet hq _ ih => intro e; exact .quiet hq (ih e)
/-- 'S' is 'T' seen more coarsely (no deferred calls). -/
structure GenS (ρ : Nat → Option Nat) (T S : St) : Prop where
  heap : Gen ρ T.h S.h
  slots : ∀ t, VG ρ ((S.tm.get t).getD Go.undef) ((T.tm.get t).getD Go.undef)
  dsT : T.ds = []
  dsS : S.ds = []
/-- The state 'S' lies in the world, above what was there; the names of 'pins' stand for the blocks said. -/
structure AtS (P : Program) (N : Nat) (w0 : World) (pins : List (Nat × Nat)) (n : Nat) (φ : Ren) (S : St) (a : Act) (w : World) : Prop where
  sr : SR P φ n S a w
  high : ∀ b, Owns φ S.h b → N ≤ b
  room : N ≤ w.heap.size
  below : RowKit.Below N w0 w
  pin : ∀ p ∈ pins, φ p.1 = some p.2
variable {pins : List (Nat × Nat)}
theorem AtS.at (h : AtS P N w0 pins n φ S a w) : At N w0 φ S.h w := ⟨h.sr.hr, h.sr.fresh, h.high, h.room, h.below⟩
theorem AtS.gen (h : AtS P N w0 pins n ψ T' a w) (g : GenS ρ T' S) (hp : ∀ p ∈ pins, ρ p.1 = some p.1) : AtS P N w0 pins n (ψ.via ρ) S a w where
  sr := {
    hr := h.sr.hr.gen g.heap
    fresh := g.heap.freshR ψ
    tr := fun t => g.slots t ψ _ (h.sr.tr t)
    size := h.sr.size
    ds := by
      have h1 := h.sr.ds
      rw [g.dsT] at h1
      rw [g.dsS]
      exact dr_nil h1 rfl }
  high := (h.at.gen g.heap).high
  room := h.room
  below := h.below
  pin := fun p hm => Ren.via_some (hp p hm) (h.pin p hm)
/-- From 'S' the piece 'c' ends as 'e' in 'S''. -/
def Tri (P : Program) (N : Nat) (w0 : World) (pins : List (Nat × Nat)) (n : Nat) (S : St) (c : Code) (e : AExit) (S' : St) : Prop :=
  ∀ (φ : Ren) (a : Act) (w : World), AtS P N w0 pins n φ S a w → c.wpIn (FW none) 0 P (fun x a' w' => XR e x ∧ ∃ ψ, AtS P N w0 pins n ψ S' a' w') a w
theorem Tri.gen {c : Code} {e : AExit} (h : Tri P N w0 pins n S c e T') (g : GenS ρ T' S') (hp : ∀ p ∈ pins, ρ p.1 = some p.1) : Tri P N w0 pins n S c e S' := fun φ a w hs =>
  wpIn_mono (h φ a w hs) fun _ _ _ ⟨h1, ψ, h2⟩ => ⟨h1, ψ.via ρ, h2.gen g hp⟩
theorem Tri.run (hm : P.follows .mixedOrders = true) {X : ExtO} (hX : ExtOk P X.ext) {F : Word} (f : Nat) {c : Code} {e : AExit} {ts : List Bool}
    (hx : codeO P F (levX P X.ext f) (levO P X F f) none n c S = some (e, S', ts)) (ht : allT ts) : Tri P N w0 pins n S c e S' := fun φ a w hs => by
  have hL := lev_ok hm hX f
  refine wpIn_mono (codeS_ok hL (drawOk_ok hL.ok hm) c (codeO_ok (levO_ok f) _ _ _ _ _ hx ht) .none hs.sr) ?_
  rintro x a' w' ⟨h1, ψ, h2, h3⟩
  have h4 := hs.at.goes h3 h2.hr h2.fresh
  exact ⟨h1, ψ, h2, h4.high, h4.room, h4.below, fun p hp => h3.ren.1 _ _ (hs.pin p hp)⟩
theorem Tri.seq {c d : Code} {e : AExit} {M : St} (h : Tri P N w0 pins n S c .normal M) (k : Tri P N w0 pins n M d e S') : Tri P N w0 pins n S (.seq c d) e S' := fun φ a w hs => by
  refine wpIn_seq (wpIn_mono (h φ a w hs) ?_)
  rintro x a' w' ⟨h1, ψ, h2⟩
  cases h1
  exact k ψ a' w' h2
theorem Tri.block {id : Nat} {c : Code} (h : Tri P N w0 pins n S c (.exit id) S') : Tri P N w0 pins n S (.block id c) .normal S' := fun φ a w hs => by
  refine wpIn_block (wpIn_mono (h φ a w hs) ?_)
  rintro x a' w' ⟨h1, h2⟩
  cases h1
  show if id = id then _ else _
  rw [if_pos rfl]
  exact ⟨.normal, h2⟩
/-- A loop of 'm' rounds and a last one. -/
theorem Tri.loop {c : Code} {e : AExit} (he : e ≠ .normal) (V : Nat → St) (m : Nat) (hr : ∀ j, j < m → Tri P N w0 pins n (V j) c .normal (V (j + 1))) (hl : Tri P N w0 pins n (V m) c e S') :
    Tri P N w0 pins n (V 0) (.loop c) e S' := fun φ a w hs => by
  have key : ∀ i j, j + i = m → ∀ φ a w, AtS P N w0 pins n φ (V j) a w → Code.roundsIn (FW none) 0 P c (fun x a' w' => XR e x ∧ ∃ ψ, AtS P N w0 pins n ψ S' a' w') (i + 1) a w := by
    intro i
    induction i with
    | zero =>
      intro j hj φ a w hs
      obtain rfl : j = m := hj
      refine wpIn_mono (hl φ a w hs) ?_
      rintro x a' w' ⟨h1, h2⟩
      cases h1 with
      | normal => exact absurd rfl he
      | exit id => exact ⟨.exit id, h2⟩
      | goto l => exact ⟨.goto l, h2⟩
      | ret => exact ⟨.ret, h2⟩
    | succ i ih =>
      intro j hj φ a w hs
      refine wpIn_mono (hr j (by omega) φ a w hs) ?_
      rintro x a' w' ⟨h1, ψ, h2⟩
      cases h1
      exact ih (j + 1) (by omega) ψ a' w' h2
  exact wpIn_loop_rounds (m + 1) (key m 0 (by omega) φ a w hs)
/-- A function's code between described states: its call. -/
theorem Tri.call {g : FuncId} {fn : Func} {c : Code} {args args' : Array Value} {H : AHeap} {e : AExit} {v : Value} (hfn : P.funcs[g]? = some fn) (hb : fn.body = some c) (hle : args.size ≤ fn.ntmps)
    (he : e = .normal ∨ e = .ret) (h : Tri P N w0 pins fn.ntmps ⟨argsT args.toList 0 .nil, [], H⟩ c e S') (hd : S'.ds = []) (hr : resultsA P S'.h fn S'.tm = some v)
    (hat : At N w0 φ H w) (hp : ∀ p ∈ pins, φ p.1 = some p.2) (ha : AR φ args args') :
    Calls P g args' w fun x w' => ∃ v' ψ, x = .returned v' ∧ VR ψ v v' ∧ At N w0 ψ S'.h w' ∧ ∀ p ∈ pins, ψ p.1 = some p.2 := by
  have hsz : args'.size ≤ fn.ntmps := by rw [← ha.size]; exact hle
  have htr : TR φ (argsT args.toList 0 .nil) (args' ++ Array.replicate (fn.ntmps - args'.size) Go.undef) := by
    have := args_ok args.toList args'.toList 0 .nil (Array.replicate fn.ntmps Go.undef) ha (TR.undef φ _) (by simpa using hle)
    have e : (⟨(Array.replicate fn.ntmps Go.undef).toList.take 0 ++ (args'.toList ++ (Array.replicate fn.ntmps Go.undef).toList.drop (0 + args.toList.length))⟩ : Array Value) = args' ++ Array.replicate (fn.ntmps - args'.size) Go.undef := by
      apply Array.ext'
      simp [ha.size]
    rwa [e] at this
  have hs0 : SR P φ fn.ntmps ⟨argsT args.toList 0 .nil, [], H⟩ { tmps := args' ++ Array.replicate (fn.ntmps - args'.size) Go.undef, defers := [] } w :=
    ⟨hat.hr, hat.fresh, htr, by simp; omega, .nil⟩
  suffices hin : CallsIn (FW none) 0 P g args' w (fun x w' => ∃ v' ψ, x = .returned v' ∧ VR ψ v v' ∧ At N w0 ψ S'.h w' ∧ ∀ p ∈ pins, ψ p.1 = some p.2) from callsIn_wide.1 hin
  refine callsIn_of_wp_marks hfn hb trivial ?_ rfl
  refine wpIn_mono (h φ _ w ⟨hs0, hat.high, hat.room, hat.below, hp⟩) ?_
  rintro x a1 w1 ⟨hxr, ψ, hs1⟩
  have fin : LeavesInM (FW none) 0 P fn a1.tmps (fun x w' => ∃ v' ψ, x = .returned v' ∧ VR ψ v v' ∧ At N w0 ψ S'.h w' ∧ ∀ p ∈ pins, ψ p.1 = some p.2) a1.defers .returning w1 := by
    have hds := hs1.sr.ds
    rw [hd] at hds
    exact leaves_ok hds S'.h w1 hs1.sr.hr hs1.sr.fresh hs1.sr.tr rfl hr (fun v' w' h1 h2 => ⟨v', ψ, rfl, h1, hs1.at.goes h2.goes h2.hr h2.fresh, hs1.pin⟩)
  rcases he with rfl | rfl
  · cases hxr; exact fin
  · cases hxr; exact fin
end
end Go.Vi
end
