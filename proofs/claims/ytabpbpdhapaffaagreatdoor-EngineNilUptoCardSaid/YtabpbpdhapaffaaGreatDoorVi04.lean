/-
  What 'pureOp' yields is what the model's operation yields, in every world.
-/
import Derived.Test.YtabpbpdhapaffaaGreatDoorVi03
set_option linter.unusedSimpArgs false
set_option linter.unusedVariables false
namespace Go.Vi
variable {P : Program} {φ : Ren}

def PureOk (P : Program) (φ : Ren) (s : Sem Next) (v : Value) : Prop := ∃ v', VR φ v v' ∧ ∀ w, s.run P w = .ok (.value v') w

theorem PureOk.of_eq {s : Sem Value} {v v' : Value} (h : VR φ v v') (k : ∀ w, s.run P w = .ok v' w) : PureOk P φ (do pure (Next.value (← s))) v :=
  ⟨v', h, fun w => by simp only [Sem.run_bind, k w, Result.andThen_ok, Sem.run_pure]⟩
theorem optInt_ok {ρ ρ' : Operand → Value} {x : Option Operand} {l : Option Nat} (hx : ∀ y ∈ x.toArray, VR φ (ρ y) (ρ' y)) (h : optInt (x.map ρ) = some l) :
    (x = none ∧ l = none) ∨ ∃ y k n, x = some y ∧ l = some n ∧ ρ' y = .int k (n : Int) := by
  cases x with
  | none => simp only [Option.map_none, optInt, Option.some.injEq] at h; exact .inl ⟨rfl, h.symm⟩
  | some y =>
    simp only [Option.map_some] at h
    have hy := hx y (by simp)
    cases hv : ρ y <;> rw [hv] at h hy <;> simp only [optInt] at h <;> try (cases h; done)
    rename_i k n
    have hb : okInt n = true ∧ some n.toNat = l := bif_true h rfl |> fun ⟨a, b⟩ => by
      cases hc : okInt n with
      | true => rw [hc, cond_true] at h; exact ⟨rfl, by simpa using h⟩
      | false => rw [hc, cond_false] at h; cases h
    obtain ⟨h0, h1⟩ := hb
    refine .inr ⟨y, k, n.toNat, rfl, h1.symm, ?_⟩
    rw [hy.int_inv, Int.toNat_of_nonneg (by simpa [okInt] using h0)]

theorem sliceBound_ok (k : IntKind) {n y : Nat} (code : BoundsCode) (h : n ≤ y) (w : World) : (Instr.sliceBound (.int k (n : Int)) y code).run P w = .ok n w := by
  have h1 : (0 : Int) ≤ n ∧ (n : Int) ≤ y := ⟨by omega, by omega⟩
  simp only [Instr.sliceBound, asIntOf, Sem.run_bind, Sem.run_pure, Result.andThen_ok, Sem.run_ite, if_pos h1, Int.toNat_natCast]

theorem okInt_spec {n : Int} (h : okInt n = true) : 0 ≤ n := by simpa [okInt] using h

theorem capOk_low {c c' : Nat} (h : capOk c c') : capLow c ≤ c' := by
  unfold capLow
  rcases h with ⟨_, h2⟩ | ⟨_, h2⟩ <;> omega
theorem capOk_less {c c' l : Nat} (h : capOk c c') (hl : l ≤ capLow c) : capOk (c - 2 * l) (c' - l) := by
  unfold capLow at hl
  rcases h with ⟨h1, h2⟩ | ⟨h1, h2⟩
  · exact .inl ⟨by omega, by omega⟩
  · exact .inr ⟨by omega, by omega⟩
theorem capOk_exact (c : Nat) : capOk (2 * c) c := .inl ⟨by omega, by omega⟩
theorem capOk_open {c c' : Nat} (h : c ≤ c') : capOk (2 * c + 1) c' := .inr ⟨by omega, by omega⟩
theorem ble_true {a b : Nat} (h : Nat.ble a b = true) : a ≤ b := Nat.le_of_ble_eq_true h
theorem beq_true {a b : Nat} (h : Nat.beq a b = true) : a = b := Nat.eq_of_beq_eq_true h
theorem beq_nat (a b : Nat) : (a == b) = Nat.beq a b := by
  rw [Bool.eq_iff_iff, beq_iff_eq]
  exact ⟨fun h => h ▸ Nat.beq_refl _, Nat.eq_of_beq_eq_true⟩
theorem isOpen_false {c c' : Nat} (h : capOk c c') (k : isOpen c = false) : c' = capLow c := by
  unfold isOpen at k
  rcases h with ⟨_, h2⟩ | ⟨h1, _⟩
  · exact h2
  · rw [h1] at k; cases k

/-- 'x[l:h:m]' of a slice. -/
theorem sliceV_ok {e : TypeId} {ρ ρ' : Operand → Value} {a : Option Addr} {len cap : Nat} {lo hi mx : Option Operand} {l h m : Option Nat} {v u : Value} {t : TypeId}
    (hlo : ∀ y ∈ lo.toArray, VR φ (ρ y) (ρ' y)) (hhi : ∀ y ∈ hi.toArray, VR φ (ρ y) (ρ' y)) (hmx : ∀ y ∈ mx.toArray, VR φ (ρ y) (ρ' y))
    (hl : optInt (lo.map ρ) = some l) (hh : optInt (hi.map ρ) = some h) (hm : optInt (mx.map ρ) = some m)
    (hx : VR φ (.slice a len cap) u) (ht : P.underlying t = some (.slice e)) (hv : sliceV P e a len cap l h m = some v) :
    ∃ v', VR φ v v' ∧ ∀ w, (Instr.slice t u (lo.map ρ') (hi.map ρ') (mx.map ρ')).run P w = .ok v' w := by
  -- the concrete operands
  obtain ⟨lo', hlo', elo⟩ : ∃ lo' : Option Value, lo.map ρ' = lo' ∧ (l = none ∧ lo' = none ∨ ∃ k n, l = some n ∧ lo' = some (.int k (n : Int))) := by
    rcases optInt_ok hlo hl with ⟨rfl, rfl⟩ | ⟨y, k, n, rfl, rfl, e⟩
    · exact ⟨_, rfl, .inl ⟨rfl, rfl⟩⟩
    · exact ⟨_, rfl, .inr ⟨k, n, rfl, by simp [e]⟩⟩
  obtain ⟨hi', hhi', ehi⟩ : ∃ lo' : Option Value, hi.map ρ' = lo' ∧ (h = none ∧ lo' = none ∨ ∃ k n, h = some n ∧ lo' = some (.int k (n : Int))) := by
    rcases optInt_ok hhi hh with ⟨rfl, rfl⟩ | ⟨y, k, n, rfl, rfl, e⟩
    · exact ⟨_, rfl, .inl ⟨rfl, rfl⟩⟩
    · exact ⟨_, rfl, .inr ⟨k, n, rfl, by simp [e]⟩⟩
  obtain ⟨mx', hmx', emx⟩ : ∃ lo' : Option Value, mx.map ρ' = lo' ∧ (m = none ∧ lo' = none ∨ ∃ k n, m = some n ∧ lo' = some (.int k (n : Int))) := by
    rcases optInt_ok hmx hm with ⟨rfl, rfl⟩ | ⟨y, k, n, rfl, rfl, e⟩
    · exact ⟨_, rfl, .inl ⟨rfl, rfl⟩⟩
    · exact ⟨_, rfl, .inr ⟨k, n, rfl, by simp [e]⟩⟩
  rw [hlo', hhi', hmx']
  unfold sliceV at hv
  cases hs : sizeT P e with
  | none => rw [hs] at hv; cases hv
  | some size =>
  rw [hs] at hv
  simp only at hv
  -- what the model does, given the bounds
  have run : ∀ (a' : Option Addr) (c' L H M : Nat), L = l.getD 0 → H = h.getD len → M = m.getD c' → L ≤ H → H ≤ M → M ≤ c' → (m = none ∨ h ≠ none) → ∀ w,
      (Instr.slice t (.slice a' len c') lo' hi' mx').run P w = .ok (.slice (if M = L then a' else a'.map (·.add (L * size))) (H - L) (M - L)) w := by
    intro a' c' L H M eL eH eM h1 h2 h3 hmh w
    have hb : (Instr.sliceBounds true len c' lo' hi' mx').run P w = .ok (L, H, M) w := by
      unfold Instr.sliceBounds
      rcases emx with ⟨rfl, rfl⟩ | ⟨km, nm, rfl, rfl⟩
      · obtain rfl : M = c' := eM
        rcases ehi with ⟨rfl, rfl⟩ | ⟨kh, nh, rfl, rfl⟩
        · obtain rfl : H = len := eH
          rcases elo with ⟨rfl, rfl⟩ | ⟨kl, nl, rfl, rfl⟩
          · obtain rfl : L = 0 := eL
            simp [Sem.run_bind]
          · obtain rfl : L = nl := eL
            simp [Sem.run_bind, sliceBound_ok _ _ h1]
        · obtain rfl : H = nh := eH
          rcases elo with ⟨rfl, rfl⟩ | ⟨kl, nl, rfl, rfl⟩
          · obtain rfl : L = 0 := eL
            simp [Sem.run_bind, sliceBound_ok _ _ h2]
          · obtain rfl : L = nl := eL
            simp [Sem.run_bind, sliceBound_ok _ _ h1, sliceBound_ok _ _ h2]
      · obtain rfl : M = nm := eM
        rcases ehi with ⟨rfl, rfl⟩ | ⟨kh, nh, rfl, rfl⟩
        · simp at hmh
        · obtain rfl : H = nh := eH
          rcases elo with ⟨rfl, rfl⟩ | ⟨kl, nl, rfl, rfl⟩
          · obtain rfl : L = 0 := eL
            simp [Sem.run_bind, sliceBound_ok _ _ h2, sliceBound_ok _ _ h3]
          · obtain rfl : L = nl := eL
            simp [Sem.run_bind, sliceBound_ok _ _ h1, sliceBound_ok _ _ h2, sliceBound_ok _ _ h3]
    unfold Instr.slice
    simp only [Sem.run_bind, und_run ht, Result.andThen_ok, hb, sizeT_run hs, Sem.run_pure]
  cases a with
  | none =>
    obtain ⟨rfl, rfl, rfl⟩ := hx.sliceNil_inv
    cases m with
    | none =>
      simp only at hv
      obtain ⟨hb, hv⟩ := bif_some hv
      simp only [Bool.and_eq_true] at hb
      have e1 := beq_true hb.1
      have e2 := beq_true hb.2
      simp only [Option.some.injEq] at hv
      subst hv
      refine ⟨_, .sliceNil, fun w => ?_⟩
      rw [run none 0 0 0 0 e2.symm e1.symm rfl (by omega) (by omega) (by omega) (.inl rfl) w]
      rfl
    | some m =>
      simp only at hv
      obtain ⟨hb, hv⟩ := bif_some hv
      simp only [Bool.and_eq_true] at hb
      have e1 := beq_true hb.1.1.1
      have e2 := beq_true hb.1.1.2
      have e3 := beq_true hb.1.2
      simp only [Option.some.injEq] at hv
      subst hv
      refine ⟨_, .sliceNil, fun w => ?_⟩
      rw [run none 0 0 0 0 e2.symm e1.symm (by simp [e3]) (by omega) (by omega) (by omega) (.inr (by intro e; rw [e] at hb; simp at hb)) w]
      rfl
  | some a =>
    rcases hx.slice_inv with ⟨b, c', hb, hsp, hc, hk, rfl⟩ | ⟨a', c', rfl, rfl, hc, rfl⟩
    · have hlow := capOk_low hc
      cases m with
      | none =>
        simp only [hsp, Option.isSome_none, cond_false] at hv
        obtain ⟨hbb, hv⟩ := bif_some hv
        simp only [Bool.and_eq_true] at hbb
        have e1 := ble_true hbb.1.1
        have e2 := ble_true hbb.1.2
        have e0 := hbb.2
        have hr := run (some ⟨b, a.off, none⟩) c' (l.getD 0) (h.getD len) c' rfl rfl rfl e2 (by omega) (Nat.le_refl _) (.inl rfl)
        cases ho : (Nat.beq (capLow cap) (l.getD 0) && isOpen cap) with
        | true =>
          rw [ho, cond_true, Option.some.injEq] at hv
          subst hv
          simp only [Bool.and_eq_true] at ho
          have e3 := beq_true ho.1
          have e4 : h.getD len - l.getD 0 = 0 := by omega
          refine ⟨_, ?_, hr⟩
          rw [e4]
          have hcl := capOk_less hc (Nat.le_of_eq e3.symm)
          by_cases h5 : c' = l.getD 0
          · rw [if_pos h5]; exact .sliceDead _ hcl
          · rw [if_neg h5]; exact .sliceDead _ hcl
        | false =>
          rw [ho, cond_false, Option.some.injEq] at hv
          subst hv
          refine ⟨_, ?_, hr⟩
          have hcl := capOk_less hc (l := l.getD 0) (by omega)
          cases h5 : Nat.beq (capLow cap) (l.getD 0) with
          | true =>
            rw [h5, Bool.true_and] at ho
            have e3 := beq_true h5
            have e6 := isOpen_false hc ho
            rw [if_pos (by omega), cond_true]
            obtain ⟨ab, ao, as⟩ := a
            simp only at hsp; subst hsp
            refine .slice _ hb hcl fun _ ho' => ?_
            exfalso
            unfold isOpen at ho
            rw [show cap % 2 = 1 by omega] at ho; cases ho
          | false =>
            have e3 : capLow cap ≠ l.getD 0 := fun e => by rw [e, Nat.beq_refl] at h5; cases h5
            rw [if_neg (by omega), cond_false]
            simp only [Option.map_some, addAddr_eq, addAddr]
            refine .slice _ hb hcl fun h0 ho' => ?_
            have hop : isOpen cap = true := by unfold isOpen; rw [show cap % 2 = 1 by unfold capLow at e1; omega]; rfl
            rw [hop] at e0
            simp only [Bool.not_true, Bool.false_or, Bool.or_eq_true, Bool.not_eq_true'] at e0
            have hl0 : l.getD 0 = 0 := by
              rcases e0 with e0 | e0
              · exact beq_true e0
              · have hsz : size ≠ 0 := fun e => by rw [e] at e0; cases e0
                rcases Nat.mul_eq_zero.1 (show l.getD 0 * size = 0 by omega) with h' | h'
                · exact h'
                · exact absurd h' hsz
            rw [hl0, Nat.sub_zero]
            exact hk (by omega) (by omega)
      | some m =>
        simp only [hsp, Option.isSome_none, cond_false] at hv
        obtain ⟨hbb, hv⟩ := bif_some hv
        simp only [Bool.and_eq_true] at hbb
        have e1 := ble_true hbb.1.1.1
        have e2 := ble_true hbb.1.1.2
        have e3 := ble_true hbb.1.2
        rw [Option.some.injEq] at hv
        subst hv
        have hr := run (some ⟨b, a.off, none⟩) c' (l.getD 0) (h.getD len) m rfl rfl rfl e3 e2 (by omega) (.inr (by intro e; rw [e] at hbb; simp at hbb))
        refine ⟨_, ?_, hr⟩
        cases h5 : Nat.beq m (l.getD 0) with
        | true =>
          rw [if_pos (beq_true h5), cond_true]
          obtain ⟨ab, ao, as⟩ := a
          simp only at hsp; subst hsp
          exact .slice _ hb (capOk_exact _) (fun _ h => by omega)
        | false =>
          have e4 : m ≠ l.getD 0 := fun e => by rw [e, Nat.beq_refl] at h5; cases h5
          rw [if_neg e4, cond_false]
          simp only [Option.map_some, addAddr_eq, addAddr]
          exact .slice _ hb (capOk_exact _) (fun _ h => by omega)
    · -- an empty slice at an unknown place
      cases m with
      | none =>
        simp only [nowhere, Option.isSome_some, cond_true] at hv
        obtain ⟨hbb, hv⟩ := bif_some hv
        simp only [Bool.and_eq_true] at hbb
        have e1 := beq_true hbb.1
        have e2 := beq_true hbb.2
        rw [Option.some.injEq] at hv
        subst hv
        have hr := run (some a') c' 0 0 c' e2.symm e1.symm rfl (by omega) (by omega) (by omega) (.inl rfl)
        refine ⟨_, ?_, hr⟩
        split
        · exact .sliceDead a' hc
        · exact .sliceDead _ hc
      | some m =>
        simp only [nowhere, Option.isSome_some, cond_true] at hv
        obtain ⟨hbb, hv⟩ := bif_some hv
        simp only [Bool.and_eq_true] at hbb
        have e1 := beq_true hbb.1.1.1
        have e2 := beq_true hbb.1.1.2
        have e3 := beq_true hbb.1.2
        rw [Option.some.injEq] at hv
        subst hv
        have hr := run (some a') c' 0 0 0 e2.symm e1.symm (by simp [e3]) (by omega) (by omega) (by omega) (.inr (by intro e; rw [e] at hbb; simp at hbb))
        exact ⟨_, .sliceDead a' (capOk_exact 0), hr⟩

theorem option_map_some {α β : Type} {x : Option α} {f : α → β} {b : β} (h : x.map f = some b) : ∃ a, x = some a ∧ f a = b := by
  cases x with
  | none => cases h
  | some a => exact ⟨a, rfl, by simpa using h⟩

theorem cells_ok {v v' : Value} (h : VR φ v v') : AR φ v.cells v'.cells := by
  cases h with
  | agg hx hx' => exact LR.of_get hx hx'
  | bool b => exact AR.one (.bool b)
  | int k n => exact AR.one (.int k n)
  | float k b => exact AR.one (.float k b)
  | complex k a b => exact AR.one (.complex k a b)
  | string s => exact AR.one (.string s)
  | ptrNil => exact AR.one .ptrNil
  | ptr e => exact AR.one (.ptr e)
  | sliceNil => exact AR.one .sliceNil
  | slice l e hc hk => exact AR.one (.slice l e hc hk)
  | sliceDead a hc => exact AR.one (.sliceDead a hc)
  | mapNil => exact AR.one .mapNil
  | map e => exact AR.one (.map e)
  | chanNil => exact AR.one .chanNil
  | nilFunc => exact AR.one .nilFunc
  | func hf hx hx' hy hy' => exact AR.one (.func hf hx hx' hy hy')
  | nilIface => exact AR.one .nilIface
  | iface t h => exact AR.one (.iface t h)
  | tuple hx hx' => exact AR.one (.tuple hx hx')

theorem fill_ok {place : Nat → Option (Nat × Nat)} : ∀ (parts parts' : List (Nat × Value)) (cells cells' r : Array Value),
    parts.length = parts'.length → (∀ (i : Nat) p, parts[i]? = some p → ∃ p', parts'[i]? = some p' ∧ p'.1 = p.1 ∧ VR φ p.2 p'.2) → AR φ cells cells' →
    Instr.fill place cells parts = some r → ∃ r', Instr.fill place cells' parts' = some r' ∧ AR φ r r' := by
  intro parts
  induction parts with
  | nil =>
    intro parts' cells cells' r hl _ hc h
    obtain rfl : parts' = [] := List.length_eq_zero_iff.1 hl.symm
    simp only [Instr.fill, Option.some.injEq] at h
    subst h
    exact ⟨cells', rfl, hc⟩
  | cons p rest ih =>
    intro parts' cells cells' r hl hp hc h
    cases parts' with
    | nil => simp at hl
    | cons p' rest' =>
      obtain ⟨q, hq, hq1, hq2⟩ := hp 0 p (by simp)
      simp only [List.getElem?_cons_zero, Option.some.injEq] at hq
      subst hq
      obtain ⟨i, v⟩ := p
      obtain ⟨i', v'⟩ := p'
      simp only at hq1 hq2
      subst hq1
      simp only [Instr.fill] at h ⊢
      cases hpl : place i' with
      | none => rw [hpl] at h; cases h
      | some os =>
        rw [hpl] at h
        obtain ⟨off, size⟩ := os
        simp only at h ⊢
        have hcells : AR φ v.cells v'.cells := cells_ok hq2
        rw [← hcells.size, ← hc.size]
        split at h
        · cases h
        · rename_i hcond
          rw [if_neg hcond]
          refine ih rest' _ _ r (by simpa using hl) (fun j q hq => hp (j + 1) q (by simpa using hq)) ?_ h
          -- the cells laid one by one
          have key : ∀ (l l' : List Value) (k : Nat) (x x' : Array Value), LR φ l l' → AR φ x x' →
              AR φ ((l.zipIdx k).foldl (fun cs (q : Value × Nat) => cs.setIfInBounds (off + q.2) q.1) x) ((l'.zipIdx k).foldl (fun cs (q : Value × Nat) => cs.setIfInBounds (off + q.2) q.1) x') := by
            intro l
            induction l with
            | nil => intro l' k x x' hll hx; rw [hll.nil_inv]; exact hx
            | cons u l ih2 =>
              intro l' k x x' hll hx
              obtain ⟨u', z, rfl, hu, hz⟩ := hll.cons_inv
              simp only [List.zipIdx_cons, List.foldl_cons]
              refine ih2 z (k + 1) _ _ hz ?_
              unfold AR at *
              rw [Array.toList_setIfInBounds, Array.toList_setIfInBounds]
              exact hx.set _ hu
          have := key v.cells.toList v'.cells.toList 0 cells cells' hcells hc
          rw [← Array.foldl_toList, ← Array.foldl_toList, Array.toList_zipIdx, Array.toList_zipIdx]
          exact this


theorem pureRun_bind' {α β : Type} (P : Program) : ∀ (x : Sem α) (f : α → Sem β), pureRun P (x.bind f) = (pureRun P x).bind fun a => pureRun P (f a) := by
  intro x
  induction x with
  | pure a => intro f; rfl
  | program k ih => intro f; exact ih P f
  | mark m k ih => intro f; exact ih f
  | choose q k ih =>
    intro f
    show (bif q.forced then pureRun P ((k 0).bind f) else none) = (bif q.forced then pureRun P (k 0) else none).bind _
    cases q.forced with
    | true => exact ih 0 f
    | false => rfl
  | load m a k _ => intro f; rfl
  | store m a v k _ => intro f; cases v <;> rfl
  | new o k _ => intro f; rfl
  | shape r k _ => intro f; rfl
  | freeze a n k _ => intro f; rfl
  | frozen a k _ => intro f; rfl
  | getObj r k _ => intro f; rfl
  | setObj r o k _ => intro f; rfl
  | sys c k _ => intro f; rfl
  | halt x => intro f; rfl
theorem pureRun_bind {α β : Type} (P : Program) (x : Sem α) (f : α → Sem β) : pureRun P (x >>= f) = (pureRun P x).bind fun a => pureRun P (f a) := pureRun_bind' P x f
theorem pureRun_pure {α : Type} (P : Program) (a : α) : pureRun P (Pure.pure a : Sem α) = some a := rfl
theorem pureRun_stuck {α : Type} (P : Program) (s : String) : pureRun P (stuck s : Sem α) = none := rfl

theorem parts_ok {ρ ρ' : Operand → Value} {parts : Array (Nat × Operand)} (h : ∀ p ∈ parts, VR φ (ρ p.2) (ρ' p.2)) :
    ((parts.map fun (x : Nat × Operand) => (x.1, ρ x.2)).toList).length = ((parts.map fun (x : Nat × Operand) => (x.1, ρ' x.2)).toList).length ∧
    (∀ (i : Nat) p, (parts.map fun (x : Nat × Operand) => (x.1, ρ x.2)).toList[i]? = some p → ∃ p', (parts.map fun (x : Nat × Operand) => (x.1, ρ' x.2)).toList[i]? = some p' ∧ p'.1 = p.1 ∧ VR φ p.2 p'.2) := by
  refine ⟨by simp, fun i p hp => ?_⟩
  simp only [Array.toList_map, List.getElem?_map] at hp ⊢
  obtain ⟨q, hq, rfl⟩ := option_map_some hp
  rw [hq]
  exact ⟨_, rfl, rfl, h q (Array.mem_toList_iff.1 (List.mem_of_getElem? hq))⟩

theorem build_ok {t : TypeId} {ρ ρ' : Operand → Value} {parts : Array (Nat × Operand)} {v : Value} (hp : ∀ p ∈ parts, VR φ (ρ p.2) (ρ' p.2))
    (hz : ∀ z, zeroT P t = some z → bare 20 z = true)
    (h : pureRun P (Instr.build t (parts.map fun (x : Nat × Operand) => (x.1, ρ x.2))) = some v) :
    ∃ v', VR φ v v' ∧ ∀ w, (Instr.build t (parts.map fun (x : Nat × Operand) => (x.1, ρ' x.2))).run P w = .ok v' w := by
  obtain ⟨hp1, hp2⟩ := parts_ok hp
  unfold Instr.build at h
  rw [pureRun_bind] at h
  cases hzr : pureRun P (zeroValue t) with
  | none => rw [hzr] at h; cases h
  | some z =>
  have hz0 : zeroT P t = some z := by
    unfold zeroValue typeInfo at hzr
    unfold zeroT
    rw [pureRun_bind, pureRun_bind] at hzr
    simp only [show pureRun P program = some P from rfl, Option.bind_some] at hzr
    cases hi : P.info? t with
    | none => rw [hi] at hzr; cases hzr
    | some i =>
      rw [hi] at hzr
      simp only [pureRun_pure, Option.bind_some] at hzr
      cases hzz : i.zero with
      | none => rw [hzz] at hzr; cases hzr
      | some z' => rw [hzz] at hzr; simp only [pureRun_pure, Option.some.injEq] at hzr; subst hzr; simp [hzz]
  have hzb : AR φ z.cells z.cells := cells_ok (bare_spec 20 z (hz z hz0))
  rw [hzr] at h
  simp only [Option.bind_some] at h
  rw [pureRun_bind] at h
  cases hu : pureRun P (underlying t) with
  | none => rw [hu] at h; cases h
  | some d =>
  rw [hu] at h
  simp only [Option.bind_some] at h
  have fin : ∀ (place : Nat → Option (Nat × Nat)) (cells : Array Value),
      Instr.fill place z.cells (parts.map fun (x : Nat × Operand) => (x.1, ρ x.2)).toList = some cells →
      ∃ cells', Instr.fill place z.cells (parts.map fun (x : Nat × Operand) => (x.1, ρ' x.2)).toList = some cells' ∧ AR φ cells cells' := fun place cells hf =>
    fill_ok _ _ _ _ _ hp1 hp2 hzb hf
  cases d <;> try (cases h; done)
  case struct fields =>
    simp only at h
    rw [pureRun_bind] at h
    cases hpl : pureRun P (fields.mapM fun f => do pure (f.offset, ← sizeOf f.type)) with
    | none => rw [hpl] at h; cases h
    | some places =>
      rw [hpl] at h
      simp only [Option.bind_some] at h
      cases hf : Instr.fill (places[·]?) z.cells (parts.map fun (x : Nat × Operand) => (x.1, ρ x.2)).toList with
      | none => rw [hf] at h; cases h
      | some cells =>
        rw [hf] at h
        simp only [pureRun_pure, Option.some.injEq] at h
        subst h
        obtain ⟨cells', hf', hc⟩ := fin _ _ hf
        refine ⟨_, VR.agg' hc, pureRun_sound _ ?_⟩
        unfold Instr.build
        rw [pureRun_bind, hzr]
        simp only [Option.bind_some]
        rw [pureRun_bind, hu]
        simp only [Option.bind_some]
        rw [pureRun_bind, hpl]
        simp only [Option.bind_some, hf']
        rfl
  case array len e =>
    simp only at h
    rw [pureRun_bind] at h
    cases hpl : pureRun P (sizeOf e) with
    | none => rw [hpl] at h; cases h
    | some size =>
      rw [hpl] at h
      simp only [Option.bind_some] at h
      cases hf : Instr.fill (fun i => some (i * size, size)) z.cells (parts.map fun (x : Nat × Operand) => (x.1, ρ x.2)).toList with
      | none => rw [hf] at h; cases h
      | some cells =>
        rw [hf] at h
        simp only [pureRun_pure, Option.some.injEq] at h
        subst h
        obtain ⟨cells', hf', hc⟩ := fin _ _ hf
        refine ⟨_, VR.agg' hc, pureRun_sound _ ?_⟩
        unfold Instr.build
        rw [pureRun_bind, hzr]
        simp only [Option.bind_some]
        rw [pureRun_bind, hu]
        simp only [Option.bind_some]
        rw [pureRun_bind, hpl]
        simp only [Option.bind_some, hf']
        rfl

end Go.Vi
