/-
  EngineNotes returns true whatever the notes and what stands between them, part 3: GrA4, GrA5. Conditions: none but those of the row.
-/
import Derived.KernelRfl
import Derived.Test.YtabpbpdhapaffaaGreatDoorNts02
set_option linter.unusedSimpArgs false
set_option linter.unusedVariables false
section
namespace Go.Vi
section
variable {P : Program} {φ : Ren}

def PureOk (P : Program) (φ : Ren) (s : Sem Next) (v : Value) : Prop := ∃ v', VR φ v v' ∧ ∀ w, s.run P w = .ok (.value v') w

theorem PureOk.of_eq {s : Sem Value} {v v' : Value} (h : VR φ v v') (k : ∀ w, s.run P w = .ok v' w) : PureOk P φ (do pure (Next.value (← s))) v :=
  ⟨v', h, fun w => by simp only [Sem.run_bind, k w, Result.andThen_ok, Sem.run_pure]⟩
theorem optInt_ok {ρ ρ' : Operand → Value} {x : Option Operand} {l : Option Nat} (hx : ∀ y ∈ x.toArray, VR φ (ρ y) (ρ' y)) (h : optInt (x.map ρ) = some l) :
    (x = none ∧ l = none) ∨ ∃ y k n, x = some y ∧ l = some n ∧ ρ' y = .int k (n : Int) := by
  cases x with
  | none => simp only [Option.map_none, optInt, Option.some.injEq] at h; exact .inl ⟨rfl, h.symm⟩
  | some y =>
    simp only [Option.map_some] at h
    have hy := hx y (by simp)
    cases hv : ρ y <;> rw [hv] at h hy <;> simp only [optInt] at h <;> try (cases h; done)
    rename_i k n
    have hb : okInt n = true ∧ some n.toNat = l := bif_true h rfl |> fun ⟨a, b⟩ => by
      cases hc : okInt n with
      | true => rw [hc, cond_true] at h; exact ⟨rfl, by simpa using h⟩
      | false => rw [hc, cond_false] at h; cases h
    obtain ⟨h0, h1⟩ := hb
    refine .inr ⟨y, k, n.toNat, rfl, h1.symm, ?_⟩
    rw [hy.int_inv, Int.toNat_of_nonneg (by simpa [okInt] using h0)]

theorem sliceBound_ok (k : IntKind) {n y : Nat} (code : BoundsCode) (h : n ≤ y) (w : World) : (Instr.sliceBound (.int k (n : Int)) y code).run P w = .ok n w := by
  have h1 : (0 : Int) ≤ n ∧ (n : Int) ≤ y := ⟨by omega, by omega⟩
  simp only [Instr.sliceBound, asIntOf, Sem.run_bind, Sem.run_pure, Result.andThen_ok, Sem.run_ite, if_pos h1, Int.toNat_natCast]

theorem okInt_spec {n : Int} (h : okInt n = true) : 0 ≤ n := by simpa [okInt] using h

theorem capOk_low {c c' : Nat} (h : capOk c c') : capLow c ≤ c' := by
  unfold capLow
  rcases h with ⟨_, h2⟩ | ⟨_, h2⟩ <;> omega
theorem capOk_less {c c' l : Nat} (h : capOk c c') (hl : l ≤ capLow c) : capOk (c - 2 * l) (c' - l) := by
  unfold capLow at hl
  rcases h with ⟨h1, h2⟩ | ⟨h1, h2⟩
  · exact .inl ⟨by omega, by omega⟩
  · exact .inr ⟨by omega, by omega⟩
theorem capOk_exact (c : Nat) : capOk (2 * c) c := .inl ⟨by omega, by omega⟩
theorem capOk_open {c c' : Nat} (h : c ≤ c') : capOk (2 * c + 1) c' := .inr ⟨by omega, by omega⟩
theorem ble_true {a b : Nat} (h : Nat.ble a b = true) : a ≤ b := Nat.le_of_ble_eq_true h
theorem beq_true {a b : Nat} (h : Nat.beq a b = true) : a = b := Nat.eq_of_beq_eq_true h
theorem beq_nat (a b : Nat) : (a == b) = Nat.beq a b := by
  rw [Bool.eq_iff_iff, beq_iff_eq]
  exact ⟨fun h => h ▸ Nat.beq_refl _, Nat.eq_of_beq_eq_true⟩
theorem isOpen_false {c c' : Nat} (h : capOk c c') (k : isOpen c = false) : c' = capLow c := by
  unfold isOpen at k
  rcases h with ⟨_, h2⟩ | ⟨h1, _⟩
  · exact h2
  · rw [h1] at k; cases k

/-- 'x[l:h:m]' of a slice. -/
theorem sliceV_ok {e : TypeId} {ρ ρ' : Operand → Value} {a : Option Addr} {len cap : Nat} {lo hi mx : Option Operand} {l h m : Option Nat} {v u : Value} {t : TypeId}
    (hlo : ∀ y ∈ lo.toArray, VR φ (ρ y) (ρ' y)) (hhi : ∀ y ∈ hi.toArray, VR φ (ρ y) (ρ' y)) (hmx : ∀ y ∈ mx.toArray, VR φ (ρ y) (ρ' y))
    (hl : optInt (lo.map ρ) = some l) (hh : optInt (hi.map ρ) = some h) (hm : optInt (mx.map ρ) = some m)
    (hx : VR φ (.slice a len cap) u) (ht : P.underlying t = some (.slice e)) (hv : sliceV P e a len cap l h m = some v) :
    ∃ v', VR φ v v' ∧ ∀ w, (Instr.slice t u (lo.map ρ') (hi.map ρ') (mx.map ρ')).run P w = .ok v' w := by
  -- the concrete operands
  obtain ⟨lo', hlo', elo⟩ : ∃ lo' : Option Value, lo.map ρ' = lo' ∧ (l = none ∧ lo' = none ∨ ∃ k n, l = some n ∧ lo' = some (.int k (n : Int))) := by
    rcases optInt_ok hlo hl with ⟨rfl, rfl⟩ | ⟨y, k, n, rfl, rfl, e⟩
    · exact ⟨_, rfl, .inl ⟨rfl, rfl⟩⟩
    · exact ⟨_, rfl, .inr ⟨k, n, rfl, by simp [e]⟩⟩
  obtain ⟨hi', hhi', ehi⟩ : ∃ lo' : Option Value, hi.map ρ' = lo' ∧ (h = none ∧ lo' = none ∨ ∃ k n, h = some n ∧ lo' = some (.int k (n : Int))) := by
    rcases optInt_ok hhi hh with ⟨rfl, rfl⟩ | ⟨y, k, n, rfl, rfl, e⟩
    · exact ⟨_, rfl, .inl ⟨rfl, rfl⟩⟩
    · exact ⟨_, rfl, .inr ⟨k, n, rfl, by simp [e]⟩⟩
  obtain ⟨mx', hmx', emx⟩ : ∃ lo' : Option Value, mx.map ρ' = lo' ∧ (m = none ∧ lo' = none ∨ ∃ k n, m = some n ∧ lo' = some (.int k (n : Int))) := by
    rcases optInt_ok hmx hm with ⟨rfl, rfl⟩ | ⟨y, k, n, rfl, rfl, e⟩
    · exact ⟨_, rfl, .inl ⟨rfl, rfl⟩⟩
    · exact ⟨_, rfl, .inr ⟨k, n, rfl, by simp [e]⟩⟩
  rw [hlo', hhi', hmx']
  unfold sliceV at hv
  cases hs : sizeT P e with
  | none => rw [hs] at hv; cases hv
  | some size =>
  rw [hs] at hv
  simp only at hv
  -- what the model does, given the bounds
  have run : ∀ (a' : Option Addr) (c' L H M : Nat), L = l.getD 0 → H = h.getD len → M = m.getD c' → L ≤ H → H ≤ M → M ≤ c' → (m = none ∨ h ≠ none) → ∀ w,
      (Instr.slice t (.slice a' len c') lo' hi' mx').run P w = .ok (.slice (if M = L then a' else a'.map (·.add (L * size))) (H - L) (M - L)) w := by
    intro a' c' L H M eL eH eM h1 h2 h3 hmh w
    have hb : (Instr.sliceBounds true len c' lo' hi' mx').run P w = .ok (L, H, M) w := by
      unfold Instr.sliceBounds
      rcases emx with ⟨rfl, rfl⟩ | ⟨km, nm, rfl, rfl⟩
      · obtain rfl : M = c' := eM
        rcases ehi with ⟨rfl, rfl⟩ | ⟨kh, nh, rfl, rfl⟩
        · obtain rfl : H = len := eH
          rcases elo with ⟨rfl, rfl⟩ | ⟨kl, nl, rfl, rfl⟩
          · obtain rfl : L = 0 := eL
            simp [Sem.run_bind]
          · obtain rfl : L = nl := eL
            simp [Sem.run_bind, sliceBound_ok _ _ h1]
        · obtain rfl : H = nh := eH
          rcases elo with ⟨rfl, rfl⟩ | ⟨kl, nl, rfl, rfl⟩
          · obtain rfl : L = 0 := eL
            simp [Sem.run_bind, sliceBound_ok _ _ h2]
          · obtain rfl : L = nl := eL
            simp [Sem.run_bind, sliceBound_ok _ _ h1, sliceBound_ok _ _ h2]
      · obtain rfl : M = nm := eM
        rcases ehi with ⟨rfl, rfl⟩ | ⟨kh, nh, rfl, rfl⟩
        · simp at hmh
        · obtain rfl : H = nh := eH
          rcases elo with ⟨rfl, rfl⟩ | ⟨kl, nl, rfl, rfl⟩
          · obtain rfl : L = 0 := eL
            simp [Sem.run_bind, sliceBound_ok _ _ h2, sliceBound_ok _ _ h3]
          · obtain rfl : L = nl := eL
            simp [Sem.run_bind, sliceBound_ok _ _ h1, sliceBound_ok _ _ h2, sliceBound_ok _ _ h3]
    unfold Instr.slice
    simp only [Sem.run_bind, und_run ht, Result.andThen_ok, hb, sizeT_run hs, Sem.run_pure]
  cases a with
  | none =>
    obtain ⟨rfl, rfl, rfl⟩ := hx.sliceNil_inv
    cases m with
    | none =>
      simp only at hv
      obtain ⟨hb, hv⟩ := bif_some hv
      simp only [Bool.and_eq_true] at hb
      have e1 := beq_true hb.1
      have e2 := beq_true hb.2
      simp only [Option.some.injEq] at hv
      subst hv
      refine ⟨_, .sliceNil, fun w => ?_⟩
      rw [run none 0 0 0 0 e2.symm e1.symm rfl (by omega) (by omega) (by omega) (.inl rfl) w]
      rfl
    | some m =>
      simp only at hv
      obtain ⟨hb, hv⟩ := bif_some hv
      simp only [Bool.and_eq_true] at hb
      have e1 := beq_true hb.1.1.1
      have e2 := beq_true hb.1.1.2
      have e3 := beq_true hb.1.2
      simp only [Option.some.injEq] at hv
      subst hv
      refine ⟨_, .sliceNil, fun w => ?_⟩
      rw [run none 0 0 0 0 e2.symm e1.symm (by simp [e3]) (by omega) (by omega) (by omega) (.inr (by intro e; rw [e] at hb; simp at hb)) w]
      rfl
  | some a =>
    rcases hx.slice_inv with ⟨b, c', hb, hsp, hc, hk, rfl⟩ | ⟨a', c', rfl, rfl, hc, rfl⟩
    · have hlow := capOk_low hc
      cases m with
      | none =>
        simp only [hsp, Option.isSome_none, cond_false] at hv
        obtain ⟨hbb, hv⟩ := bif_some hv
        simp only [Bool.and_eq_true] at hbb
        have e1 := ble_true hbb.1.1
        have e2 := ble_true hbb.1.2
        have e0 := hbb.2
        have hr := run (some ⟨b, a.off, none⟩) c' (l.getD 0) (h.getD len) c' rfl rfl rfl e2 (by omega) (Nat.le_refl _) (.inl rfl)
        cases ho : (Nat.beq (capLow cap) (l.getD 0) && isOpen cap) with
        | true =>
          rw [ho, cond_true, Option.some.injEq] at hv
          subst hv
          simp only [Bool.and_eq_true] at ho
          have e3 := beq_true ho.1
          have e4 : h.getD len - l.getD 0 = 0 := by omega
          refine ⟨_, ?_, hr⟩
          rw [e4]
          have hcl := capOk_less hc (Nat.le_of_eq e3.symm)
          by_cases h5 : c' = l.getD 0
          · rw [if_pos h5]; exact .sliceDead _ hcl
          · rw [if_neg h5]; exact .sliceDead _ hcl
        | false =>
          rw [ho, cond_false, Option.some.injEq] at hv
          subst hv
          refine ⟨_, ?_, hr⟩
          have hcl := capOk_less hc (l := l.getD 0) (by omega)
          cases h5 : Nat.beq (capLow cap) (l.getD 0) with
          | true =>
            rw [h5, Bool.true_and] at ho
            have e3 := beq_true h5
            have e6 := isOpen_false hc ho
            rw [if_pos (by omega), cond_true]
            obtain ⟨ab, ao, as⟩ := a
            simp only at hsp; subst hsp
            refine .slice _ hb hcl fun _ ho' => ?_
            exfalso
            unfold isOpen at ho
            rw [show cap % 2 = 1 by omega] at ho; cases ho
          | false =>
            have e3 : capLow cap ≠ l.getD 0 := fun e => by rw [e, Nat.beq_refl] at h5; cases h5
            rw [if_neg (by omega), cond_false]
            simp only [Option.map_some, addAddr_eq, addAddr]
            refine .slice _ hb hcl fun h0 ho' => ?_
            have hop : isOpen cap = true := by unfold isOpen; rw [show cap % 2 = 1 by unfold capLow at e1; omega]; rfl
            rw [hop] at e0
            simp only [Bool.not_true, Bool.false_or, Bool.or_eq_true, Bool.not_eq_true'] at e0
            have hl0 : l.getD 0 = 0 := by
              rcases e0 with e0 | e0
              · exact beq_true e0
              · have hsz : size ≠ 0 := fun e => by rw [e] at e0; cases e0
                rcases Nat.mul_eq_zero.1 (show l.getD 0 * size = 0 by omega) with h' | h'
                · exact h'
                · exact absurd h' hsz
            rw [hl0, Nat.sub_zero]
            exact hk (by omega) (by omega)
      | some m =>
        simp only [hsp, Option.isSome_none, cond_false] at hv
        obtain ⟨hbb, hv⟩ := bif_some hv
        simp only [Bool.and_eq_true] at hbb
        have e1 := ble_true hbb.1.1.1
        have e2 := ble_true hbb.1.1.2
        have e3 := ble_true hbb.1.2
        rw [Option.some.injEq] at hv
        subst hv
        have hr := run (some ⟨b, a.off, none⟩) c' (l.getD 0) (h.getD len) m rfl rfl rfl e3 e2 (by omega) (.inr (by intro e; rw [e] at hbb; simp at hbb))
        refine ⟨_, ?_, hr⟩
        cases h5 : Nat.beq m (l.getD 0) with
        | true =>
          rw [if_pos (beq_true h5), cond_true]
          obtain ⟨ab, ao, as⟩ := a
          simp only at hsp; subst hsp
          exact .slice _ hb (capOk_exact _) (fun _ h => by omega)
        | false =>
          have e4 : m ≠ l.getD 0 := fun e => by rw [e, Nat.beq_refl] at h5; cases h5
          rw [if_neg e4, cond_false]
          simp only [Option.map_some, addAddr_eq, addAddr]
          exact .slice _ hb (capOk_exact _) (fun _ h => by omega)
    · -- an empty slice at an unknown place
      cases m with
      | none =>
        simp only [nowhere, Option.isSome_some, cond_true] at hv
        obtain ⟨hbb, hv⟩ := bif_some hv
        simp only [Bool.and_eq_true] at hbb
        have e1 := beq_true hbb.1
        have e2 := beq_true hbb.2
        rw [Option.some.injEq] at hv
        subst hv
        have hr := run (some a') c' 0 0 c' e2.symm e1.symm rfl (by omega) (by omega) (by omega) (.inl rfl)
        refine ⟨_, ?_, hr⟩
        split
        · exact .sliceDead a' hc
        · exact .sliceDead _ hc
      | some m =>
        simp only [nowhere, Option.isSome_some, cond_true] at hv
        obtain ⟨hbb, hv⟩ := bif_some hv
        simp only [Bool.and_eq_true] at hbb
        have e1 := beq_true hbb.1.1.1
        have e2 := beq_true hbb.1.1.2
        have e3 := beq_true hbb.1.2
        rw [Option.some.injEq] at hv
        subst hv
        have hr := run (some a') c' 0 0 0 e2.symm e1.symm (by simp [e3]) (by omega) (by omega) (by omega) (.inr (by intro e; rw [e] at hbb; simp at hbb))
        exact ⟨_, .sliceDead a' (capOk_exact 0), hr⟩

theorem option_map_some {α β : Type} {x : Option α} {f : α → β} {b : β} (h : x.map f = some b) : ∃ a, x = some a ∧ f a = b := by
  cases x with
  | none => cases h
  | some a => exact ⟨a, rfl, by simpa using h⟩

theorem cells_one {v : Value} (e : Go.Vi.oneCell v = true) : v.cells = #[v] := by cases v <;> first | rfl | cases e
theorem cells_ok {v v' : Value} (h : VR φ v v') : AR φ v.cells v'.cells := by
  cases h with
  | agg hx hx' => exact LR.of_get hx hx'
  | bool b => exact AR.one (.bool b)
  | int k n => exact AR.one (.int k n)
  | float k b => exact AR.one (.float k b)
  | complex k a b => exact AR.one (.complex k a b)
  | string s => exact AR.one (.string s)
  | ptrNil => exact AR.one .ptrNil
  | ptr e => exact AR.one (.ptr e)
  | sliceNil => exact AR.one .sliceNil
  | slice l e hc hk => exact AR.one (.slice l e hc hk)
  | sliceDead a hc => exact AR.one (.sliceDead a hc)
  | mapNil => exact AR.one .mapNil
  | map e => exact AR.one (.map e)
  | chanNil => exact AR.one .chanNil
  | top e => rw [cells_one (topOk_one e)]; exact AR.one (.top e)
  | nilFunc => exact AR.one .nilFunc
  | func hf hx hx' hy hy' => exact AR.one (.func hf hx hx' hy hy')
  | nilIface => exact AR.one .nilIface
  | iface t h => exact AR.one (.iface t h)
  | tuple hx hx' => exact AR.one (.tuple hx hx')

theorem fill_ok {place : Nat → Option (Nat × Nat)} : ∀ (parts parts' : List (Nat × Value)) (cells cells' r : Array Value),
    parts.length = parts'.length → (∀ (i : Nat) p, parts[i]? = some p → ∃ p', parts'[i]? = some p' ∧ p'.1 = p.1 ∧ VR φ p.2 p'.2) → AR φ cells cells' →
    Instr.fill place cells parts = some r → ∃ r', Instr.fill place cells' parts' = some r' ∧ AR φ r r' := by
  intro parts
  induction parts with
  | nil =>
    intro parts' cells cells' r hl _ hc h
    obtain rfl : parts' = [] := List.length_eq_zero_iff.1 hl.symm
    simp only [Instr.fill, Option.some.injEq] at h
    subst h
    exact ⟨cells', rfl, hc⟩
  | cons p rest ih =>
    intro parts' cells cells' r hl hp hc h
    cases parts' with
    | nil => simp at hl
    | cons p' rest' =>
      obtain ⟨q, hq, hq1, hq2⟩ := hp 0 p (by simp)
      simp only [List.getElem?_cons_zero, Option.some.injEq] at hq
      subst hq
      obtain ⟨i, v⟩ := p
      obtain ⟨i', v'⟩ := p'
      simp only at hq1 hq2
      subst hq1
      simp only [Instr.fill] at h ⊢
      cases hpl : place i' with
      | none => rw [hpl] at h; cases h
      | some os =>
        rw [hpl] at h
        obtain ⟨off, size⟩ := os
        simp only at h ⊢
        have hcells : AR φ v.cells v'.cells := cells_ok hq2
        rw [← hcells.size, ← hc.size]
        split at h
        · cases h
        · rename_i hcond
          rw [if_neg hcond]
          refine ih rest' _ _ r (by simpa using hl) (fun j q hq => hp (j + 1) q (by simpa using hq)) ?_ h
          -- the cells laid one by one
          have key : ∀ (l l' : List Value) (k : Nat) (x x' : Array Value), LR φ l l' → AR φ x x' →
              AR φ ((l.zipIdx k).foldl (fun cs (q : Value × Nat) => cs.setIfInBounds (off + q.2) q.1) x) ((l'.zipIdx k).foldl (fun cs (q : Value × Nat) => cs.setIfInBounds (off + q.2) q.1) x') := by
            intro l
            induction l with
            | nil => intro l' k x x' hll hx; rw [hll.nil_inv]; exact hx
            | cons u l ih2 =>
              intro l' k x x' hll hx
              obtain ⟨u', z, rfl, hu, hz⟩ := hll.cons_inv
              simp only [List.zipIdx_cons, List.foldl_cons]
              refine ih2 z (k + 1) _ _ hz ?_
              unfold AR at *
              rw [Array.toList_setIfInBounds, Array.toList_setIfInBounds]
              exact hx.set _ hu
          have := key v.cells.toList v'.cells.toList 0 cells cells' hcells hc
          rw [← Array.foldl_toList, ← Array.foldl_toList, Array.toList_zipIdx, Array.toList_zipIdx]
          exact this


theorem pureRun_bind' {α β : Type} (P : Program) : ∀ (x : Sem α) (f : α → Sem β), pureRun P (x.bind f) = (pureRun P x).bind fun a => pureRun P (f a) := by
  intro x
  induction x with
  | pure a => intro f; rfl
  | program k ih => intro f; exact ih P f
  | mark m k ih => intro f; exact ih f
  | choose q k ih =>
    intro f
    show (bif q.forced then pureRun P ((k 0).bind f) else none) = (bif q.forced then pureRun P (k 0) else none).bind _
    cases q.forced with
    | true => exact ih 0 f
    | false => rfl
  | load m a k _ => intro f; rfl
  | store m a v k _ => intro f; cases v <;> rfl
  | new o k _ => intro f; rfl
  | shape r k _ => intro f; rfl
  | freeze a n k _ => intro f; rfl
  | frozen a k _ => intro f; rfl
  | getObj r k _ => intro f; rfl
  | setObj r o k _ => intro f; rfl
  | sys c k _ => intro f; rfl
  | halt x => intro f; rfl
theorem pureRun_bind {α β : Type} (P : Program) (x : Sem α) (f : α → Sem β) : pureRun P (x >>= f) = (pureRun P x).bind fun a => pureRun P (f a) := pureRun_bind' P x f
theorem pureRun_pure {α : Type} (P : Program) (a : α) : pureRun P (Pure.pure a : Sem α) = some a := rfl
theorem parts_ok {ρ ρ' : Operand → Value} {parts : Array (Nat × Operand)} (h : ∀ p ∈ parts, VR φ (ρ p.2) (ρ' p.2)) :
    ((parts.map fun (x : Nat × Operand) => (x.1, ρ x.2)).toList).length = ((parts.map fun (x : Nat × Operand) => (x.1, ρ' x.2)).toList).length ∧
    (∀ (i : Nat) p, (parts.map fun (x : Nat × Operand) => (x.1, ρ x.2)).toList[i]? = some p → ∃ p', (parts.map fun (x : Nat × Operand) => (x.1, ρ' x.2)).toList[i]? = some p' ∧ p'.1 = p.1 ∧ VR φ p.2 p'.2) := by
  refine ⟨by simp, fun i p hp => ?_⟩
  simp only [Array.toList_map, List.getElem?_map] at hp ⊢
  obtain ⟨q, hq, rfl⟩ := option_map_some hp
  rw [hq]
  exact ⟨_, rfl, rfl, h q (Array.mem_toList_iff.1 (List.mem_of_getElem? hq))⟩

theorem build_ok {t : TypeId} {ρ ρ' : Operand → Value} {parts : Array (Nat × Operand)} {v : Value} (hp : ∀ p ∈ parts, VR φ (ρ p.2) (ρ' p.2))
    (hz : ∀ z, zeroT P t = some z → bare 20 z = true)
    (h : pureRun P (Instr.build t (parts.map fun (x : Nat × Operand) => (x.1, ρ x.2))) = some v) :
    ∃ v', VR φ v v' ∧ ∀ w, (Instr.build t (parts.map fun (x : Nat × Operand) => (x.1, ρ' x.2))).run P w = .ok v' w := by
  obtain ⟨hp1, hp2⟩ := parts_ok hp
  unfold Instr.build at h
  rw [pureRun_bind] at h
  cases hzr : pureRun P (zeroValue t) with
  | none => rw [hzr] at h; cases h
  | some z =>
  have hz0 : zeroT P t = some z := by
    unfold zeroValue typeInfo at hzr
    unfold zeroT
    rw [pureRun_bind, pureRun_bind] at hzr
    simp only [show pureRun P program = some P from rfl, Option.bind_some] at hzr
    cases hi : P.info? t with
    | none => rw [hi] at hzr; cases hzr
    | some i =>
      rw [hi] at hzr
      simp only [pureRun_pure, Option.bind_some] at hzr
      cases hzz : i.zero with
      | none => rw [hzz] at hzr; cases hzr
      | some z' => rw [hzz] at hzr; simp only [pureRun_pure, Option.some.injEq] at hzr; subst hzr; simp [hzz]
  have hzb : AR φ z.cells z.cells := cells_ok (bare_spec 20 z (hz z hz0))
  rw [hzr] at h
  simp only [Option.bind_some] at h
  rw [pureRun_bind] at h
  cases hu : pureRun P (underlying t) with
  | none => rw [hu] at h; cases h
  | some d =>
  rw [hu] at h
  simp only [Option.bind_some] at h
  have fin : ∀ (place : Nat → Option (Nat × Nat)) (cells : Array Value),
      Instr.fill place z.cells (parts.map fun (x : Nat × Operand) => (x.1, ρ x.2)).toList = some cells →
      ∃ cells', Instr.fill place z.cells (parts.map fun (x : Nat × Operand) => (x.1, ρ' x.2)).toList = some cells' ∧ AR φ cells cells' := fun place cells hf =>
    fill_ok _ _ _ _ _ hp1 hp2 hzb hf
  cases d <;> try (cases h; done)
  case struct fields =>
    simp only at h
    rw [pureRun_bind] at h
    cases hpl : pureRun P (fields.mapM fun f => do pure (f.offset, ← sizeOf f.type)) with
    | none => rw [hpl] at h; cases h
    | some places =>
      rw [hpl] at h
      simp only [Option.bind_some] at h
      cases hf : Instr.fill (places[·]?) z.cells (parts.map fun (x : Nat × Operand) => (x.1, ρ x.2)).toList with
      | none => rw [hf] at h; cases h
      | some cells =>
        rw [hf] at h
        simp only [pureRun_pure, Option.some.injEq] at h
        subst h
        obtain ⟨cells', hf', hc⟩ := fin _ _ hf
        refine ⟨_, VR.agg' hc, pureRun_sound _ ?_⟩
        unfold Instr.build
        rw [pureRun_bind, hzr]
        simp only [Option.bind_some]
        rw [pureRun_bind, hu]
        simp only [Option.bind_some]
        rw [pureRun_bind, hpl]
        simp only [Option.bind_some, hf']
        rfl
  case array len e =>
    simp only at h
    rw [pureRun_bind] at h
    cases hpl : pureRun P (sizeOf e) with
    | none => rw [hpl] at h; cases h
    | some size =>
      rw [hpl] at h
      simp only [Option.bind_some] at h
      cases hf : Instr.fill (fun i => some (i * size, size)) z.cells (parts.map fun (x : Nat × Operand) => (x.1, ρ x.2)).toList with
      | none => rw [hf] at h; cases h
      | some cells =>
        rw [hf] at h
        simp only [pureRun_pure, Option.some.injEq] at h
        subst h
        obtain ⟨cells', hf', hc⟩ := fin _ _ hf
        refine ⟨_, VR.agg' hc, pureRun_sound _ ?_⟩
        unfold Instr.build
        rw [pureRun_bind, hzr]
        simp only [Option.bind_some]
        rw [pureRun_bind, hu]
        simp only [Option.bind_some]
        rw [pureRun_bind, hpl]
        simp only [Option.bind_some, hf']
        rfl

end
section
variable {P : Program} {φ : Ren}

theorem VR.slice_any {a : Option Addr} {n c : Nat} {u : Value} (h : VR φ (.slice a n c) u) : ∃ a' c', u = .slice a' n c' := by
  cases h with
  | sliceNil => exact ⟨_, _, rfl⟩
  | slice => exact ⟨_, _, rfl⟩
  | sliceDead => exact ⟨_, _, rfl⟩
theorem equal_unfold (t : TypeId) (x y : Value) : Op.equal t x y = Op.equalIn (9999 + 1) t x y := rfl
section
variable {t e : TypeId} (w : World)
theorem eq_ptr_nil {a : Addr} (h : P.underlying t = some (.pointer e)) : (Op.equal t (.pointer (some a)) (.pointer none)).run P w = .ok false w := by
  rw [equal_unfold, Op.equalIn]; simp only [Sem.run_bind, und_run h, Result.andThen_ok, Sem.run_pure]
theorem eq_nil_ptr {a : Addr} (h : P.underlying t = some (.pointer e)) : (Op.equal t (.pointer none) (.pointer (some a))).run P w = .ok false w := by
  rw [equal_unfold, Op.equalIn]; simp only [Sem.run_bind, und_run h, Result.andThen_ok, Sem.run_pure, Option.isNone_some]
theorem eq_slice_nil {a : Addr} {l c l' c' : Nat} (h : P.underlying t = some (.slice e)) : (Op.equal t (.slice (some a) l c) (.slice none l' c')).run P w = .ok false w := by
  rw [equal_unfold, Op.equalIn]; simp only [Sem.run_bind, und_run h, Result.andThen_ok, Sem.run_pure]
theorem eq_nil_slice {a : Addr} {l c l' c' : Nat} (h : P.underlying t = some (.slice e)) : (Op.equal t (.slice none l' c') (.slice (some a) l c)).run P w = .ok false w := by
  rw [equal_unfold, Op.equalIn]; simp only [Sem.run_bind, und_run h, Result.andThen_ok, Sem.run_pure, Option.isNone_some]
theorem eq_map_nil {r : Nat} {k : TypeId} (h : P.underlying t = some (.map k e)) : (Op.equal t (.map (some r)) (.map none)).run P w = .ok false w := by
  rw [equal_unfold, Op.equalIn]; simp only [Sem.run_bind, und_run h, Result.andThen_ok, Sem.run_pure]
theorem eq_func_nil {f : Fn} {x y : Array Value} {ps rs : Array TypeId} {va : Bool} (h : P.underlying t = some (.func ps rs va)) : (Op.equal t (.func f x y) .nilFunc).run P w = .ok false w := by
  rw [equal_unfold, Op.equalIn]; simp only [Sem.run_bind, und_run h, Result.andThen_ok, Sem.run_pure]
end
def plainB : Value → Bool
  | .nilIface | .agg _ | .int _ _ | .float _ _ | .complex _ _ _ | .string _ => false
  | _ => true
/-- An operation that is '==' or '!=' of two values that are neither interfaces nor structs. -/
theorem eqGuard_plain (op : BinOp) (t : TypeId) (x y : Operand) {a b : Value} (ha : plainB a = true) (w : World) :
    (eqGuard op t x y a b).run P w = .ok () w := by
  cases a <;> first
    | (exact absurd ha Bool.false_ne_true)
    | (unfold eqGuard; rw [Sem.run_ite]; split <;> rfl)
theorem binOp_eql {op : BinOp} {t : TypeId} {x y : Operand} {a b : Value} {r : Bool} (ha : plainB a = true)
    (hop : op = .eql ∨ op = .neq) (h : ∀ w, (Op.equal t a b).run P w = .ok r w) (w : World) :
    (do eqGuard op t x y a b; binOp op t a b : Sem Value).run P w = .ok (.bool (if op = .eql then r else !r)) w := by
  have hg := eqGuard_plain (P := P) op t x y (a := a) (b := b) ha w
  simp only [Sem.run_bind, hg, Result.andThen_ok]
  rcases hop with rfl | rfl
  · have : binOp .eql t a b = (do pure (.bool (← Op.equal t a b)) : Sem Value) := by cases a <;> first | (exact absurd ha Bool.false_ne_true) | rfl
    rw [this]; simp only [Sem.run_bind, h w, Result.andThen_ok, Sem.run_pure, if_true]
  · have : binOp .neq t a b = (do pure (.bool (!(← Op.equal t a b))) : Sem Value) := by cases a <;> first | (exact absurd ha Bool.false_ne_true) | rfl
    rw [this]; simp only [Sem.run_bind, h w, Result.andThen_ok, Sem.run_pure, reduceCtorEq, if_false]

theorem pureV_ok {s : Sem Value} {v : Value} (h : pureV P s = some v) : VR φ v v ∧ ∀ w, s.run P w = .ok v w := by
  unfold pureV at h
  cases hs : pureRun P s with
  | none => rw [hs] at h; cases h
  | some u =>
    rw [hs] at h
    simp only at h
    obtain ⟨hb, h⟩ := bif_some h
    simp only [Option.some.injEq] at h; subst h
    exact ⟨bare_spec 20 _ hb, pureRun_sound _ hs⟩

theorem nilEq_eq {t : TypeId} {u v u' v' : Value} {r : Bool} (hu : VR φ u u') (hv : VR φ v v') (h : nilEq.eq P t u v = some r) :
    (∀ w, (Op.equal t u' v').run P w = .ok r w) ∧ plainB u' = true := by
  unfold nilEq.eq at h
  split at h <;> try (cases h; done)
  · obtain ⟨b, _, _, rfl⟩ := hu.ptr_inv
    obtain rfl := hv.ptrNil_inv
    split at h <;> try (cases h; done)
    rename_i he
    simp only [Option.some.injEq] at h; subst h
    exact ⟨fun w => eq_ptr_nil w he, rfl⟩
  · obtain ⟨b, _, _, rfl⟩ := hv.ptr_inv
    obtain rfl := hu.ptrNil_inv
    split at h <;> try (cases h; done)
    rename_i he
    simp only [Option.some.injEq] at h; subst h
    exact ⟨fun w => eq_nil_ptr w he, rfl⟩
  · obtain ⟨_, _, rfl⟩ := hv.sliceNil_inv
    split at h <;> try (cases h; done)
    rename_i he
    simp only [Option.some.injEq] at h; subst h
    rcases hu.slice_inv with ⟨b, c', _, _, _, _, rfl⟩ | ⟨a', c', _, _, _, rfl⟩
    · exact ⟨fun w => eq_slice_nil w he, rfl⟩
    · exact ⟨fun w => eq_slice_nil w he, rfl⟩
  · obtain ⟨_, _, rfl⟩ := hu.sliceNil_inv
    split at h <;> try (cases h; done)
    rename_i he
    simp only [Option.some.injEq] at h; subst h
    rcases hv.slice_inv with ⟨b, c', _, _, _, _, rfl⟩ | ⟨a', c', _, _, _, rfl⟩
    · exact ⟨fun w => eq_nil_slice w he, rfl⟩
    · exact ⟨fun w => eq_nil_slice w he, rfl⟩
  · obtain ⟨b, _, rfl⟩ := hu.map_inv
    obtain rfl := hv.mapNil_inv
    split at h <;> try (cases h; done)
    rename_i he
    simp only [Option.some.injEq] at h; subst h
    exact ⟨fun w => eq_map_nil w he, rfl⟩
  · obtain ⟨f', x', y', rfl, _, _, _⟩ := hu.func_inv
    obtain rfl := hv.nilFunc_inv
    split at h <;> try (cases h; done)
    rename_i he
    simp only [Option.some.injEq] at h; subst h
    exact ⟨fun w => eq_func_nil w he, rfl⟩
theorem nilEq_ok {t : TypeId} {op : BinOp} {u v u' v' : Value} {r : Bool} (hu : VR φ u u') (hv : VR φ v v') (h : nilEq P t op u v = some r) (x y : Operand) (w : World) :
    (do eqGuard op t x y u' v'; binOp op t u' v' : Sem Value).run P w = .ok (.bool r) w := by
  unfold nilEq at h
  cases op <;> try (cases h; done)
  case eql =>
    obtain ⟨h1, h2⟩ := nilEq_eq hu hv h
    simpa using binOp_eql (x := x) (y := y) h2 (.inl rfl) h1 w
  case neq =>
    obtain ⟨b, hb, rfl⟩ := option_map_some h
    obtain ⟨h1, h2⟩ := nilEq_eq hu hv hb
    simpa using binOp_eql (x := x) (y := y) h2 (.inr rfl) h1 w

theorem noEscape_generic : Extern.allGenericRows.lookup "internal/abi.NoEscape" = none := by decide +kernel
theorem noEscape_typed : (Extern.allTypedRows.lookup "internal/abi.NoEscape").isNone = true := by decide +kernel
theorem noEscape_rows : Extern.allRows.lookup "internal/abi.NoEscape" = some Extern.AbiNoEscape.same := by kernel_rfl
theorem noEscape_find {fn : Func} (h : fn.name = "internal/abi.NoEscape") : Extern.find fn = some Extern.AbiNoEscape.same := by
  unfold Extern.find
  have h2 := noEscape_typed
  rw [Option.isNone_iff_eq_none] at h2
  simp only [h, noEscape_generic, h2, noEscape_rows, Option.map_none]
  rfl
theorem pureOp_ok {ρ ρ' : Operand → Value} {o : Oper} {v : Value} (hfun : ∀ f, ρ' (.func f) = .func (.func f) #[] #[]) (hρ : ∀ x ∈ o.op.operands, VR φ (ρ x) (ρ' x)) (h : pureOp P ρ o = some v) :
    PureOk P φ (execOp ρ' o) v := by
  obtain ⟨dst, op, ty, pos, after, guard⟩ := o
  simp only at hρ
  cases op <;> simp only [pureOp] at h <;> try (cases h; done)
  case move x =>
    rw [Option.some.injEq] at h; subst h
    exact ⟨ρ' x, hρ x (by simp [Op.operands]), fun w => rfl⟩
  case assign x =>
    rw [Option.some.injEq] at h; subst h
    exact ⟨ρ' x, hρ x (by simp [Op.operands]), fun w => rfl⟩
  case pick c a b =>
    have hc := hρ c (by simp [Op.operands])
    have ha := hρ a (by simp [Op.operands])
    have hb := hρ b (by simp [Op.operands])
    cases hv : ρ c <;> rw [hv] at h hc <;> (try simp only at h) <;> try (cases h; done)
    rename_i t
    rw [Option.some.injEq] at h; subst h
    have e := hc.bool_inv
    cases t with
    | true => exact ⟨ρ' a, ha, fun w => by simp [execOp, e, asBool]⟩
    | false => exact ⟨ρ' b, hb, fun w => by simp [execOp, e, asBool]⟩
  case build t parts =>
    cases hz : zeroT P t with
    | none => rw [hz] at h; cases h
    | some z =>
      rw [hz] at h
      obtain ⟨hb, h⟩ := bif_some h
      obtain ⟨v', hv, hr⟩ := build_ok (ρ' := ρ') (fun p hp => hρ p.2 (by simp only [Op.operands, List.mem_toArray, List.mem_map]; exact ⟨p, by simpa using hp, rfl⟩)) (fun z' hz' => by rw [hz] at hz'; cases hz'; exact hb) h
      exact .of_eq hv hr
  case nilCheck x =>
    have hx := hρ x (by simp [Op.operands])
    cases hv : ρ x <;> rw [hv] at h hx <;> (try simp only at h) <;> try (cases h; done)
    rename_i a
    cases a with
    | none => cases h
    | some a =>
      simp only [Option.some.injEq] at h; subst h
      obtain ⟨b, hb, hs, e⟩ := hx.ptr_inv
      refine ⟨_, hx, fun w => ?_⟩
      simp only [execOp, e]; rfl
  case fieldAddr s x f =>
    have hx := hρ x (by simp [Op.operands])
    cases hu : P.underlying s with
    | none => rw [hu] at h; cases h
    | some d =>
    rw [hu] at h
    cases d <;> try (cases h; done)
    rename_i fields
    cases hv : ρ x <;> rw [hv] at h hx <;> (try simp only at h) <;> try (cases h; done)
    rename_i a
    cases a with
    | none => cases h
    | some a =>
    simp only at h
    cases hf : fields[f]? with
    | none => rw [hf] at h; cases h
    | some fd =>
    rw [hf] at h
    simp only at h
    obtain ⟨b, hb, hs, e⟩ := hx.ptr_inv
    rw [hs] at h
    cases hsz : sizeT P fd.type with
    | none => rw [hsz] at h; cases h
    | some n =>
    rw [hsz] at h
    cases n with
    | zero => cases h
    | succ n =>
    simp only [Option.some.injEq] at h; subst h
    refine .of_eq (v' := .pointer (some ⟨b, a.off + fd.offset, none⟩)) (.ptr hb) fun w => ?_
    simp only [Instr.fieldAt, Instr.sureAddr, Sem.run_bind, und_run hu, Result.andThen_ok, hf, e, Sem.run_pure, fieldPlace, sizeT_run hsz, Sem.run_ite, Nat.add_eq_zero_iff, Nat.succ_ne_zero, and_false, if_false, addAddr_eq]
  case field t x f =>
    have hx := hρ x (by simp [Op.operands])
    cases hu : P.underlying t with
    | none => rw [hu] at h; cases h
    | some d =>
    rw [hu] at h
    cases d <;> try (cases h; done)
    rename_i fields
    cases hv : ρ x <;> rw [hv] at h hx <;> (try simp only at h) <;> try (cases h; done)
    rename_i cs
    cases hf : fields[f]? with
    | none => rw [hf] at h; cases h
    | some fd =>
    rw [hf] at h
    simp only at h
    obtain ⟨cs', e, hc⟩ := hx.agg_inv
    cases hag : isAggT P fd.type with
    | none => rw [hag] at h; cases h
    | some ag =>
    rw [hag] at h
    cases ag with
    | true =>
      cases hsz : sizeT P fd.type with
      | none => rw [hsz] at h; cases h
      | some n =>
      rw [hsz] at h
      simp only [Option.some.injEq] at h; subst h
      refine .of_eq (VR.agg' (hc.extract _ _)) fun w => ?_
      simp only [Instr.field, Sem.run_bind, und_run hu, Result.andThen_ok, hf, e, asAgg, Sem.run_pure, part, isAggT_run hag, sizeT_run hsz, if_true, Sem.run_ite]
    | false =>
      simp only at h
      obtain ⟨v', hv', hr⟩ := hc.get? h
      refine .of_eq hr fun w => ?_
      simp only [Instr.field, Sem.run_bind, und_run hu, Result.andThen_ok, hf, e, asAgg, Sem.run_pure, part, isAggT_run hag, hv', Bool.false_eq_true, if_false, Sem.run_ite]
  case extract t i =>
    have hx := hρ t (by simp [Op.operands])
    cases hv : ρ t <;> rw [hv] at h hx <;> (try simp only at h) <;> try (cases h; done)
    rename_i vs
    obtain ⟨vs', e, hc⟩ := hx.tuple_inv
    obtain ⟨v', hv', hr⟩ := hc.get? h
    refine .of_eq hr fun w => ?_
    simp only [Instr.extract, e, hv', Sem.run_pure]
  case makeInterface t x =>
    have hx := hρ x (by simp [Op.operands])
    cases hu : P.underlying t with
    | none => rw [hu] at h; cases h
    | some d =>
    rw [hu] at h
    have : d ≠ .interface (match d with | .interface m => m | _ => #[]) ∧ v = .iface t (ρ x) := by
      cases d <;> simp at h <;> exact ⟨by simp, h.symm⟩
    obtain ⟨hd, rfl⟩ := this
    refine .of_eq (.iface t hx) fun w => ?_
    simp only [Instr.makeInterface, Sem.run_bind, und_run hu, Result.andThen_ok]
    cases d <;> first | rfl | (simp at hd)
  case makeFunc fn first captured =>
    cases fn <;> (try simp only at h) <;> try (cases h; done)
    rename_i f
    rw [Option.some.injEq] at h; subst h
    refine ⟨.func (.func f) (first.map ρ') (captured.map ρ'), VR.func' (.func f) (AR.map fun x hx => hρ x (by simp [Op.operands, hx])) (AR.map fun x hx => hρ x (by simp [Op.operands, hx])), fun w => ?_⟩
    simp [execOp, Instr.makeFunc]
  case unOp op xt x =>
    have hx := hρ x (by simp [Op.operands])
    obtain ⟨hb, h⟩ := bif_some h
    have e := hx.inj_bare 20 hb
    obtain ⟨hv, hr⟩ := pureV_ok (φ := φ) h
    exact .of_eq hv (by rw [e]; exact hr)
  case index t x i =>
    have hx := hρ x (by simp [Op.operands])
    have hi := hρ i (by simp [Op.operands])
    cases hv : ρ x <;> rw [hv] at h hx <;> (try simp only at h) <;> try (cases h; done)
    case string s =>
      obtain ⟨hb, h⟩ := bif_some h
      obtain ⟨hv, hr⟩ := pureV_ok (φ := φ) h
      exact .of_eq hv (by rw [hx.string_inv, hi.inj_bare 20 hb]; exact hr)
    case agg cs =>
      cases hu : P.underlying t with
      | none => rw [hu] at h; cases h
      | some d =>
      rw [hu] at h
      cases d <;> try (cases h; done)
      rename_i len e
      cases hn : ρ i <;> rw [hn] at h hi <;> (try simp only at h) <;> try (cases h; done)
      rename_i k n
      obtain ⟨cs', ex, hc⟩ := hx.agg_inv
      cases hag : isAggT P e with
      | none => rw [hag] at h; cases h
      | some ag =>
      rw [hag] at h
      cases hsz : sizeT P e with
      | none => rw [hsz] at h; cases ag <;> cases h
      | some sz =>
      rw [hsz] at h
      have hdec : ∀ {y : Option Value}, (bif okInt n && decide (n < (len : Int)) then y else none) = some v → (0 ≤ n ∧ n < (len : Int)) ∧ y = some v := fun hh => by
        obtain ⟨hb, hh⟩ := bif_some hh
        simp only [Bool.and_eq_true, decide_eq_true_eq] at hb
        exact ⟨⟨okInt_spec hb.1, hb.2⟩, hh⟩
      cases ag with
      | true =>
        simp only at h
        obtain ⟨hlt, h⟩ := hdec h
        simp only [Option.some.injEq] at h; subst h
        refine .of_eq (VR.agg' (hc.extract _ _)) fun w => ?_
        simp only [Instr.index, asIntOf, hi.int_inv, ex, Sem.run_bind, und_run hu, Result.andThen_ok, Sem.run_pure, sizeT_run hsz, part, isAggT_run hag, hlt, and_self, if_true, Sem.run_ite]
      | false =>
        simp only at h
        obtain ⟨hlt, h⟩ := hdec h
        obtain ⟨v', hv', hr⟩ := hc.get? h
        refine .of_eq hr fun w => ?_
        simp only [Instr.index, asIntOf, hi.int_inv, ex, Sem.run_bind, und_run hu, Result.andThen_ok, Sem.run_pure, sizeT_run hsz, part, isAggT_run hag, hlt, and_self, if_true, Sem.run_ite, Bool.false_eq_true, if_false, hv']
  case indexAddr t x i =>
    have hx := hρ x (by simp [Op.operands])
    have hi := hρ i (by simp [Op.operands])
    cases hu : P.underlying t with
    | none => rw [hu] at h; cases h
    | some d =>
    rw [hu] at h
    cases d <;> try (cases h; done)
    case slice e =>
      cases hv : ρ x <;> rw [hv] at h hx <;> (try simp only at h) <;> try (cases h; done)
      rename_i a len cap
      cases a with
      | none => cases h
      | some a =>
      cases hn : ρ i <;> rw [hn] at h hi <;> (try simp only at h) <;> try (cases h; done)
      rename_i k n
      cases hsp : a.spot with
      | some _ => rw [hsp] at h; cases h
      | none =>
      rw [hsp] at h
      cases hsz : sizeT P e with
      | none => rw [hsz] at h; cases h
      | some sz =>
      rw [hsz] at h
      simp only at h
      obtain ⟨hb, h⟩ := bif_some h
      simp only [Bool.and_eq_true, decide_eq_true_eq] at hb
      have h0 := okInt_spec hb.1
      simp only [Option.some.injEq] at h; subst h
      rcases hx.slice_inv with ⟨b, c', hb', _, hc, _, ex⟩ | ⟨a', c', rfl, rfl, hc, ex⟩
      · refine .of_eq (v' := .pointer (some ⟨b, a.off + n.toNat * sz, none⟩)) (.ptr hb') fun w => ?_
        simp only [Instr.indexAt, asIntOf, hi.int_inv, ex, Sem.run_bind, und_run hu, Result.andThen_ok, Sem.run_pure, sizeT_run hsz, h0, hb.2, and_self, if_true, Sem.run_ite, addAddr_eq]
      · simp [nowhere] at hsp
    case array len e =>
      cases hv : ρ x <;> rw [hv] at h hx <;> (try simp only at h) <;> try (cases h; done)
      rename_i a
      cases a with
      | none => cases h
      | some a =>
      cases hn : ρ i <;> rw [hn] at h hi <;> (try simp only at h) <;> try (cases h; done)
      rename_i k n
      cases hsp : a.spot with
      | some _ => rw [hsp] at h; cases h
      | none =>
      rw [hsp] at h
      cases hsz : sizeT P e with
      | none => rw [hsz] at h; cases h
      | some sz =>
      rw [hsz] at h
      simp only at h
      obtain ⟨hb, h⟩ := bif_some h
      simp only [Bool.and_eq_true, decide_eq_true_eq] at hb
      have h0 := okInt_spec hb.1
      simp only [Option.some.injEq] at h; subst h
      obtain ⟨b, hb', _, ex⟩ := hx.ptr_inv
      refine .of_eq (v' := .pointer (some ⟨b, a.off + n.toNat * sz, none⟩)) (.ptr hb') fun w => ?_
      simp only [Instr.indexAt, asIntOf, hi.int_inv, ex, Instr.sureAddr, Sem.run_bind, und_run hu, Result.andThen_ok, Sem.run_pure, sizeT_run hsz, h0, hb.2, and_self, if_true, Sem.run_ite, addAddr_eq]
  case slice t x lo hi mx =>
    have hx := hρ x (by simp [Op.operands])
    have hlo : ∀ y ∈ lo.toArray, VR φ (ρ y) (ρ' y) := fun y hy => hρ y (by simp [Op.operands] at hy ⊢; exact .inr (.inl hy))
    have hhi : ∀ y ∈ hi.toArray, VR φ (ρ y) (ρ' y) := fun y hy => hρ y (by simp [Op.operands] at hy ⊢; exact .inr (.inr (.inl hy)))
    have hmx : ∀ y ∈ mx.toArray, VR φ (ρ y) (ρ' y) := fun y hy => hρ y (by simp [Op.operands] at hy ⊢; exact .inr (.inr (.inr hy)))
    cases hu : P.underlying t with
    | none => rw [hu] at h; cases h
    | some d =>
    rw [hu] at h
    cases d <;> try (cases h; done)
    case slice e =>
      cases hv : ρ x <;> rw [hv] at h hx <;> (try simp only at h) <;> try (cases h; done)
      rename_i a len cap
      cases hl : optInt (lo.map ρ) with
      | none => rw [hl] at h; cases h
      | some l =>
      rw [hl] at h
      cases hh : optInt (hi.map ρ) with
      | none => rw [hh] at h; cases h
      | some hh' =>
      rw [hh] at h
      cases hm : optInt (mx.map ρ) with
      | none => rw [hm] at h; cases h
      | some m =>
      rw [hm] at h
      obtain ⟨v', hv', hr⟩ := sliceV_ok hlo hhi hmx hl hh hm hx hu h
      refine .of_eq hv' fun w => ?_
      simp only [Instr.sliceAt, Sem.run_bind, und_run hu, Result.andThen_ok]
      exact hr w
    case string =>
      cases hv : ρ x <;> rw [hv] at h hx <;> (try simp only at h) <;> try (cases h; done)
      rename_i s
      obtain ⟨hb, h⟩ := bif_some h
      simp only [Bool.and_eq_true] at hb
      obtain ⟨hv', hr⟩ := pureV_ok (φ := φ) h
      have hmap : ∀ (z : Option Operand), (∀ y ∈ z.toArray, VR φ (ρ y) (ρ' y)) → (z.map ρ).toList.all (bare 20) = true → z.map ρ' = z.map ρ := fun z hz hzb => by
        cases z with
        | none => rfl
        | some y => simp only [Option.map_some]; rw [(hz y (by simp)).inj_bare 20 (by simpa using hzb)]
      refine .of_eq hv' fun w => ?_
      simp only [Instr.sliceAt, Sem.run_bind, und_run hu, Result.andThen_ok]
      rw [hx.string_inv, hmap lo hlo hb.1.1, hmap hi hhi hb.1.2, hmap mx hmx hb.2]
      exact hr w
    case array n e =>
      cases hv : ρ x <;> rw [hv] at h hx <;> (try simp only at h) <;> try (cases h; done)
      rename_i a
      cases a with
      | none => cases h
      | some a =>
      simp only at h
      cases hsp : a.spot with
      | some _ => rw [hsp] at h; cases h
      | none =>
      rw [hsp] at h
      cases hsz : sizeT P e with
      | none => rw [hsz] at h; cases h
      | some sz =>
      rw [hsz] at h
      cases hl : optInt (lo.map ρ) with
      | none => rw [hl] at h; cases h
      | some l =>
      rw [hl] at h
      cases hh : optInt (hi.map ρ) with
      | none => rw [hh] at h; cases h
      | some hh' =>
      rw [hh] at h
      cases mx with
      | some m => cases h
      | none =>
      simp only at h
      obtain ⟨hb, h⟩ := bif_some h
      simp only [Bool.and_eq_true] at hb
      have e1 := ble_true hb.1
      have e2 := ble_true hb.2
      simp only [Option.some.injEq] at h; subst h
      obtain ⟨b, hb', _, ex⟩ := hx.ptr_inv
      have hbd : ∀ w, (Instr.sliceBounds false n n (lo.map ρ') (hi.map ρ') none).run P w = .ok (l.getD 0, hh'.getD n, n) w := fun w => by
        unfold Instr.sliceBounds
        rcases optInt_ok hhi hh with ⟨rfl, rfl⟩ | ⟨y, k, nh, rfl, rfl, eh⟩
        · rcases optInt_ok hlo hl with ⟨rfl, rfl⟩ | ⟨y, k, nl, rfl, rfl, el⟩
          · simp [Sem.run_bind]
          · simp only [Option.getD_some, Option.getD_none] at e1 e2
            simp [Sem.run_bind, el, sliceBound_ok _ _ e2]
        · rcases optInt_ok hlo hl with ⟨rfl, rfl⟩ | ⟨y', k', nl, rfl, rfl, el⟩
          · simp only [Option.getD_some, Option.getD_none] at e1 e2
            simp [Sem.run_bind, eh, sliceBound_ok _ _ e1]
          · simp only [Option.getD_some] at e1 e2
            simp [Sem.run_bind, eh, el, sliceBound_ok _ _ e1, sliceBound_ok _ _ e2]
      refine .of_eq (v' := .slice (some (if n = l.getD 0 then ⟨b, a.off, none⟩ else ⟨b, a.off + l.getD 0 * sz, none⟩)) (hh'.getD n - l.getD 0) (n - l.getD 0)) ?_ fun w => ?_
      · cases h5 : Nat.beq n (l.getD 0) with
        | true =>
          rw [if_pos (beq_true h5), cond_true]
          obtain ⟨ab, ao, as⟩ := a
          simp only at hsp; subst hsp
          exact .slice _ hb' (capOk_exact _) (fun _ h => by omega)
        | false =>
          have e4 : n ≠ l.getD 0 := fun e => by rw [e, Nat.beq_refl] at h5; cases h5
          rw [if_neg e4, cond_false]
          exact .slice _ hb' (capOk_exact _) (fun _ h => by omega)
      · simp only [Instr.sliceAt, Sem.run_bind, und_run hu, Result.andThen_ok, ex, Instr.sureAddr, Sem.run_pure, Option.map_none, hbd, sizeT_run hsz, addAddr_eq]
  case binOp op t x y yt =>
    have hx := hρ x (by simp [Op.operands])
    have hy := hρ y (by simp [Op.operands])
    cases hn : nilEq P t op (ρ x) (ρ y) with
    | some r =>
      rw [hn] at h
      simp only [Option.some.injEq] at h; subst h
      refine .of_eq (.bool r) fun w => ?_
      exact nilEq_ok hx hy hn x y w
    | none =>
      rw [hn] at h
      simp only at h
      obtain ⟨hb, h⟩ := bif_some h
      simp only [Bool.and_eq_true] at hb
      obtain ⟨hv, hr⟩ := pureV_ok (φ := φ) h
      exact .of_eq hv (by rw [hx.inj_bare 20 hb.1, hy.inj_bare 20 hb.2]; exact hr)
  case convert src dst x =>
    have hx := hρ x (by simp [Op.operands])
    have fin : (bif bare 20 (ρ x) then pureV P (convert src dst (ρ x)) else none) = some v → PureOk P φ (do pure (Next.value (← convert src dst (ρ' x)))) v := fun h => by
      obtain ⟨hb, h⟩ := bif_some h
      obtain ⟨hv, hr⟩ := pureV_ok (φ := φ) h
      exact .of_eq hv (by rw [hx.inj_bare 20 hb]; exact hr)
    refine fin ?_
    revert h
    split <;> intro h <;> first | exact h | cases h
  case typeAssert x xt at_ ok =>
    have hx := hρ x (by simp [Op.operands])
    obtain ⟨hc, h⟩ := bif_some h
    unfold concreteT at hc
    cases hu : P.underlying at_ with
    | none => rw [hu] at hc; cases hc
    | some d =>
    rw [hu] at hc
    have hd : ∀ ms, d ≠ .interface ms := fun ms e => by subst e; cases hc
    have fails : ∀ {v}, assertFails P at_ ok = some v → ok = true ∧ ∃ z, zeroT P at_ = some z ∧ v = .tuple #[z, .bool false] ∧ VR φ v v := fun {v} h => by
      unfold assertFails at h
      obtain ⟨hok, h⟩ := bif_some h
      cases hz : zeroT P at_ with
      | none => rw [hz] at h; cases h
      | some z =>
      rw [hz] at h
      obtain ⟨hb, h⟩ := bif_some h
      simp only [Option.some.injEq] at h; subst h
      exact ⟨hok, z, rfl, rfl, VR.tuple' (LR.cons (bare_spec 20 z hb) (LR.cons (.bool false) (LR.nil φ)))⟩
    cases hv : ρ x <;> rw [hv] at h hx <;> (try simp only [typeAsrt] at h) <;> try (cases h; done)
    case nilIface =>
      obtain ⟨rfl, z, hz, rfl, hvr⟩ := fails h
      refine .of_eq hvr fun w => ?_
      rw [hx.nilIface_inv]
      unfold Instr.typeAssert
      simp only [Sem.run_bind, und_run hu, Result.andThen_ok]
      cases d <;> first | (exact absurd rfl (hd _)) | simp only [if_true, Sem.run_bind, zeroT_run hz, Result.andThen_ok, Sem.run_pure]
    case iface t u =>
      obtain ⟨u', eu, hu'⟩ := hx.iface_inv
      cases ht : Nat.beq t at_ with
      | true =>
        rw [ht, cond_true, Option.some.injEq] at h
        have et := beq_true ht
        subst h
        have run : ∀ w, (Instr.typeAssert (.iface t u') xt at_ ok).run P w = .ok (if ok then .tuple #[u', .bool true] else u') w := fun w => by
          unfold Instr.typeAssert
          simp only [Sem.run_bind, und_run hu, Result.andThen_ok]
          cases d <;> first | (exact absurd rfl (hd _)) | simp only [et, if_true, Sem.run_pure]
        cases ok with
        | true => exact .of_eq (v' := .tuple #[u', .bool true]) (VR.tuple' (LR.cons hu' (LR.cons (.bool true) (LR.nil φ)))) (by rw [eu]; exact run)
        | false => exact .of_eq (v' := u') hu' (by rw [eu]; exact run)
      | false =>
        rw [ht, cond_false] at h
        have et : t ≠ at_ := fun e => by rw [e, Nat.beq_refl] at ht; cases ht
        obtain ⟨rfl, z, hz, rfl, hvr⟩ := fails h
        refine .of_eq hvr fun w => ?_
        rw [eu]
        unfold Instr.typeAssert
        simp only [Sem.run_bind, und_run hu, Result.andThen_ok]
        cases d <;> first | (exact absurd rfl (hd _)) | simp only [if_neg et, if_true, Sem.run_bind, zeroT_run hz, Result.andThen_ok, Sem.run_pure]
  case call c =>
    obtain ⟨callee, args, argTypes⟩ := c
    cases callee with
    | invoke recv m => cases h
    | builtin b =>
      have hargs : AR φ (args.map ρ) (args.map ρ') := AR.map fun x hx => hρ x (by simp [Op.operands, Call.operands, hx])
      have heq : ∀ n, (args.map ρ).toList.all (bare n) = true → args.map ρ' = args.map ρ := fun n hb => hargs.bare_eq hb
      cases b <;> try (cases h; done)
      case len =>
        simp only at h
        have harg : ∀ u, args[0]?.map ρ = some u → ∃ x, args[0]? = some x ∧ ρ x = u ∧ VR φ u (ρ' x) := fun u hu => by
          obtain ⟨x, hx, e⟩ := option_map_some hu
          exact ⟨x, hx, e, e ▸ hρ x (by simp [Op.operands, Call.operands, Array.mem_of_getElem? hx])⟩
        cases ht : argTypes[0]? with
        | none => rw [ht] at h; cases h
        | some t =>
        rw [ht] at h
        simp only [Option.bind_some] at h
        cases hu : P.underlying t with
        | none => rw [hu] at h; cases h
        | some d =>
        rw [hu] at h
        cases ha : args[0]?.map ρ with
        | none => rw [ha] at h; revert h; split <;> intro h <;> simp_all
        | some u =>
        rw [ha] at h
        obtain ⟨x, hx, e, hr⟩ := harg u ha
        have run : ∀ w r, (match d, ρ' x with
            | .string, .string s => some (goInt s.size)
            | .array n _, _ => some (goInt n)
            | .slice _, .slice _ n _ => some (goInt n)
            | .map _ _, .map none => some (goInt 0)
            | _, _ => none) = some r → (Builtin.len_ argTypes ty (args.map ρ')).run P w = .ok r w := fun w r hh => by
          unfold Builtin.len_
          simp only [Array.getElem?_map, ht, hx, Option.map_some, Sem.run_bind, und_run hu, Result.andThen_ok]
          revert hh
          generalize ρ' x = u'
          intro hh
          split at hh <;> first | (simp only [Option.some.injEq] at hh; subst hh; rfl) | cases hh
        have fin : ∀ r, (∀ w, (Builtin.len_ argTypes ty (args.map ρ')).run P w = .ok r w) → VR φ v r → PureOk P φ (execOp ρ' ⟨dst, .call ⟨.builtin .len, args, argTypes⟩, ty, pos, after, guard⟩) v := fun r hh hv => .of_eq hv hh
        revert h
        split
        · rename_i s e1 e2
          intro h
          simp only [Option.some.injEq] at h e1 e2; subst h; subst e1; subst e2
          exact fin _ (fun w => run w _ (by rw [hr.string_inv]; rfl)) (.int .i64 _)
        · rename_i et l n c e1 e2
          intro h
          simp only [Option.some.injEq] at h e1 e2; subst h; subst e1; subst e2
          obtain ⟨a', c', e'⟩ := hr.slice_any
          exact fin _ (fun w => run w _ (by rw [e']; rfl)) (.int .i64 _)
        · rename_i n et u e1 e2
          intro h
          simp only [Option.some.injEq] at h e1; subst h; subst e1
          exact fin _ (fun w => run w _ rfl) (.int .i64 _)
        · rename_i kt et e1 e2
          intro h
          simp only [Option.some.injEq] at h e1 e2; subst h; subst e1; subst e2
          exact fin _ (fun w => run w _ (by rw [hr.mapNil_inv]; rfl)) (.int .i64 _)
        · intro h; cases h
      case min =>
        obtain ⟨hb, h⟩ := bif_some h
        obtain ⟨hv, hr⟩ := pureV_ok (φ := φ) h
        refine .of_eq (s := Builtin.min_ argTypes ty (args.map ρ')) hv ?_
        rw [heq 20 hb]; exact hr
      case max =>
        obtain ⟨hb, h⟩ := bif_some h
        obtain ⟨hv, hr⟩ := pureV_ok (φ := φ) h
        refine .of_eq (s := Builtin.max_ argTypes ty (args.map ρ')) hv ?_
        rw [heq 20 hb]; exact hr
    | value g =>
      cases g <;> try (cases h; done)
      rename_i f
      simp only at h
      have hargs : AR φ (args.map ρ) (args.map ρ') := AR.map fun x hx => hρ x (by simp [Op.operands, Call.operands, hx])
      cases hf : P.funcs[f]? with
      | none => rw [hf] at h; cases h
      | some fn =>
      rw [hf] at h
      simp only at h
      obtain ⟨hb, h⟩ := bif_some h
      simp only [Bool.and_eq_true, Bool.not_eq_true'] at hb
      have hcall : ∀ (u : Value) (e : Array Value → Sem Value), Extern.findNext fn = none → Extern.find fn = some e → (∀ w, (e (args.map ρ')).run P w = .ok u w) → ∀ w,
          (execOp ρ' ⟨dst, .call ⟨.value (.func f), args, argTypes⟩, ty, pos, after, guard⟩).run P w = .ok (.value u) w := by
        intro u e h1 h2 h3 w
        have hcf : (callFunc f (args.map ρ')).run P w = .ok (.value u) w := by
          have hn : ¬ (fn.name == "runtime.NumGoroutine") = true := by rw [hb.2]; simp
          simp only [callFunc, Sem.run_bind, run_program, Result.andThen_ok, hf, if_neg hn, hb.1, if_true, run_mark, h1, h2, h3 w, Sem.run_pure]
        show (do let d ← resolve ρ' ⟨.value (.func f), args, argTypes⟩ ty; invoke d.target d.args : Sem Next).run P w = _
        have e0 := hfun f
        simp only [resolve, e0, Deferred.ofValue, pure_bind, invoke, Array.empty_append, Array.append_empty]
        exact hcf
      cases hne : (fn.name == "internal/abi.NoEscape") with
      | true =>
        rw [hne, cond_true] at h
        obtain ⟨hs, h⟩ := bif_some h
        simp only [Bool.and_eq_true, Option.isNone_iff_eq_none] at hs
        obtain ⟨x, hx, rfl⟩ := option_map_some h
        have hr := hρ x (by simp [Op.operands, Call.operands, Array.mem_of_getElem? hx])
        refine ⟨ρ' x, hr, hcall _ _ hs.2 (noEscape_find (by simpa using hne)) fun w => ?_⟩
        have ea : args = #[x] := by
          have hsz := beq_true hs.1
          apply Array.ext
          · simpa using hsz
          · intro i h1 h2
            have : i = 0 := by omega
            subst this
            rw [Array.getElem?_eq_getElem h1] at hx
            simpa using hx
        rw [ea]
        have em : Array.map ρ' #[x] = #[ρ' x] := by simp
        rw [em]
        rfl
      | false =>
        rw [hne, cond_false] at h
        obtain ⟨hall, h⟩ := bif_some h
        cases h1 : Extern.findNext fn with
        | some _ => rw [h1] at h; cases h
        | none =>
        rw [h1] at h
        cases h2 : Extern.find fn with
        | none => rw [h2] at h; cases h
        | some e =>
        rw [h2] at h
        simp only at h
        obtain ⟨hv, hr⟩ := pureV_ok (φ := φ) h
        exact ⟨v, hv, hcall _ _ h1 h2 (by rw [hargs.bare_eq hall]; exact hr)⟩
end
end Go.Vi
end
