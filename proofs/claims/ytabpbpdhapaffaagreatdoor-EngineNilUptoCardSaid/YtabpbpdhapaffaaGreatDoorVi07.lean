/-
  What 'readOp' yields is what the model's operation yields, in the world that it finds, which it leaves as it is.
-/
import Derived.Test.YtabpbpdhapaffaaGreatDoorVi06
set_option linter.unusedSimpArgs false
set_option linter.unusedVariables false
namespace Go.Vi
variable {P : Program} {φ : Ren} {H : AHeap} {w : World}

def ReadOk (P : Program) (φ : Ren) (w : World) (s : Sem Next) (v : Value) : Prop := ∃ v', VR φ v v' ∧ s.run P w = .ok (.value v') w
theorem ReadOk.of_eq {s : Sem Value} {v v' : Value} (h : VR φ v v') (k : s.run P w = .ok v' w) : ReadOk P φ w (do pure (Next.value (← s))) v :=
  ⟨v', h, by simp only [Sem.run_bind, k, Result.andThen_ok, Sem.run_pure]⟩

theorem HR.shape (h : HR φ H w) {i b : Nat} {fl : Fl} {c : List Value} {e : TypeId} (hi : H.objs.get i = some (.cells fl c e)) (hb : φ i = some b) :
    ∃ n, w.shape? b = some (e, n) ∧ c.length ≤ n ∧ (fl = .own → n = c.length) := by
  obtain ⟨c', fr, h1, h2, h3, h4, _⟩ := h.row hi hb
  exact ⟨c'.size, by simp [World.shape?, h1], h3, fun e => (h4 e).symm⟩
theorem run_viewAt_row {b : Nat} {e : TypeId} {n : Nat} (h : w.shape? b = some (e, n)) : (viewAt b).run P w = .ok none w := by
  simp [viewAt, h]
theorem run_seenAt_row {a : Addr} {e : TypeId} {n : Nat} (h : w.shape? a.block = some (e, n)) : (Conv.seenAt a).run P w = .ok a w := by
  simp only [Conv.seenAt, Sem.run_bind, run_viewAt_row h, Result.andThen_ok, Sem.run_pure]
theorem liesAt_head {e : TypeId} {count n : Nat} (hc : P.cellsOf e = n + 1) (hn : 1 ≤ count) : liesAt P P.depth e count 0 e 1 = true := by
  have hd : P.depth = (2 * (P.types.size + Made.depth) + 1) + 1 := rfl
  rw [hd]
  simp only [liesAt, Bool.or_eq_true]
  left
  rw [hd]
  simp [rowAt, hc, hn, sameLayout]

theorem frozen_none {b o : Nat} {c' : Array Value} {e : TypeId} (h : w.heap[b]? = some (.cells c' e (0, 0))) : w.frozen? ⟨b, o, none⟩ = false := by
  simp [World.frozen?, h]
/-- Two rows that no string's bytes lie in are not one. -/
theorem run_sameAddr_rows {a b : Addr} {c c' : Array Value} {e e' : TypeId} (ha : w.heap[a.block]? = some (.cells c e (0, 0))) (hb : w.heap[b.block]? = some (.cells c' e' (0, 0)))
    (hsa : a.spot = none) (hsb : b.spot = none) (hne : a.block ≠ b.block) : (sameAddr a b).run P w = .ok false w := by
  obtain ⟨ab, ao, as⟩ := a
  obtain ⟨bb, bo, bs⟩ := b
  simp only at *
  subst hsa; subst hsb
  have f1 : ∀ o, w.frozen? ⟨ab, o, none⟩ = false := fun o => frozen_none ha
  have f2 : ∀ o, w.frozen? ⟨bb, o, none⟩ = false := fun o => frozen_none hb
  have s1 : w.shape? ab = some (e, c.size) := by simp [World.shape?, ha]
  have s2 : w.shape? bb = some (e', c'.size) := by simp [World.shape?, hb]
  simp [sameAddr, hne, f1, f2, noView, run_viewAt_row s1, run_viewAt_row s2, mayBeOne, stringish, s1, s2]
theorem run_sameAddr_one {a b : Addr} (h : a.block = b.block) : (sameAddr a b).run P w = .ok (a == b) w := by
  simp [sameAddr, h]

theorem ptrEq_ok (h : HR φ H w) {t e : TypeId} {a b : Addr} {u v : Value} {r : Bool} (hu : VR φ (.pointer (some a)) u) (hv : VR φ (.pointer (some b)) v) (ht : P.underlying t = some (.pointer e))
    (hr : readOp.ptrEq P H e a b = some r) : (Op.equal t u v).run P w = .ok r w ∧ plainB u = true := by
  obtain ⟨a', ha', hsa, rfl⟩ := hu.ptr_inv
  obtain ⟨b', hb', hsb, rfl⟩ := hv.ptr_inv
  refine ⟨?_, rfl⟩
  unfold readOp.ptrEq at hr
  cases hs : sizeT P e with
  | none => rw [hs] at hr; cases hr
  | some n =>
  rw [hs] at hr
  cases n with
  | zero => cases hr
  | succ n =>
  simp only at hr
  rw [equal_unfold, Op.equalIn]
  simp only [Sem.run_bind, und_run ht, Result.andThen_ok, sizeT_run hs, Sem.run_ite, ne_eq, Nat.add_eq_zero_iff, Nat.succ_ne_zero, and_false, not_false_eq_true, if_true]
  cases hbl : Nat.beq a.block b.block with
  | true =>
    rw [hbl, cond_true, Option.some.injEq] at hr
    have e1 := beq_true hbl
    rw [e1, hb'] at ha'
    cases ha'
    rw [run_sameAddr_one (a := ⟨a', a.off, none⟩) (b := ⟨a', b.off, none⟩) rfl, ← hr]
    congr 1
    rw [Bool.eq_iff_iff]
    constructor
    · intro hh
      have := eq_of_beq hh
      simp only [Addr.mk.injEq, true_and, and_true] at this
      rw [this]; exact Nat.beq_refl _
    · intro hh
      rw [beq_true hh]; simp
  | false =>
    rw [hbl, cond_false] at hr
    have hne : a.block ≠ b.block := fun e1 => by rw [e1, Nat.beq_refl] at hbl; cases hbl
    have fin : ∀ fl fl' c c' e1 e2, H.objs.get a.block = some (.cells fl c e1) → H.objs.get b.block = some (.cells fl' c' e2) → (fl = .own ∨ ∃ s, fl = .open_ s) → (fl' = .own ∨ ∃ s, fl' = .open_ s) →
        (sameAddr ⟨a', a.off, none⟩ ⟨b', b.off, none⟩).run P w = .ok false w := fun fl fl' c c' e1 e2 g1 g2 k1 k2 => by
      obtain ⟨x, fr, r1, _, _, _, r5, _⟩ := h.row g1 ha'
      obtain ⟨y, fr', q1, _, _, _, q5, _⟩ := h.row g2 hb'
      have z1 := r5 k1
      have z2 := q5 k2
      subst z1; subst z2
      refine run_sameAddr_rows (e := e1) (e' := e2) r1 q1 rfl rfl fun e3 => hne ?_
      have e3 : a' = b' := e3
      subst e3
      exact h.inj _ _ _ _ _ g1 g2 ha' hb' (by rcases k1 with rfl | ⟨s, rfl⟩ <;> rfl)
    split at hr <;> first
      | (cases hr; done)
      | (simp only [Option.some.injEq] at hr; subst hr
         rename_i g1 g2
         exact fin _ _ _ _ _ _ g1 g2 (by first | exact .inl rfl | exact .inr ⟨_, rfl⟩) (by first | exact .inl rfl | exact .inr ⟨_, rfl⟩))

theorem readOp_ok (h : HR φ H w) {ρ ρ' : Operand → Value} {o : Oper} {v : Value} (hρ : ∀ x ∈ o.op.operands, VR φ (ρ x) (ρ' x)) (hr : readOp P H ρ o = some v) :
    ReadOk P φ w (execOp ρ' o) v := by
  obtain ⟨dst, op, ty, pos, after, guard⟩ := o
  simp only at hρ
  cases op <;> simp only [readOp] at hr <;> try (cases hr; done)
  case load t x =>
    have hx := hρ x (by simp [Op.operands])
    cases hv : ρ x <;> rw [hv] at hr hx <;> (try simp only at hr) <;> try (cases hr; done)
    rename_i a
    cases a with
    | none => cases hr
    | some a =>
    obtain ⟨v', h1, h2⟩ := loadV_ok h hx hr
    exact .of_eq h1 h2
  case binOp op t x y yt =>
    have hx := hρ x (by simp [Op.operands])
    have hy := hρ y (by simp [Op.operands])
    cases op <;> try (cases hr; done)
    case eql =>
      cases hu : P.underlying t with
      | none => rw [hu] at hr; cases hr
      | some d =>
      rw [hu] at hr
      cases d <;> try (cases hr; done)
      rename_i e
      cases hv : ρ x <;> rw [hv] at hr hx <;> (try simp only at hr) <;> try (cases hr; done)
      rename_i a
      cases a with
      | none => cases hr
      | some a =>
      cases hv2 : ρ y <;> rw [hv2] at hr hy <;> (try simp only at hr) <;> try (cases hr; done)
      rename_i b
      cases b with
      | none => cases hr
      | some b =>
      simp only at hr
      obtain ⟨r, hr2, rfl⟩ := option_map_some hr
      obtain ⟨h1, h2⟩ := ptrEq_ok h hx hy hu hr2
      refine .of_eq (.bool r) ?_
      have hg := eqGuard_plain (P := P) .eql t x y (b := ρ' y) h2 w
      have hb : binOp .eql t (ρ' x) (ρ' y) = (do pure (.bool (← Op.equal t (ρ' x) (ρ' y))) : Sem Value) := by
        obtain ⟨_, _, _, ea⟩ := hx.ptr_inv
        obtain ⟨_, _, _, eb⟩ := hy.ptr_inv
        rw [ea, eb]; rfl
      simp only [Sem.run_bind, hg, Result.andThen_ok, hb, h1, Sem.run_pure]
    case neq =>
      cases hu : P.underlying t with
      | none => rw [hu] at hr; cases hr
      | some d =>
      rw [hu] at hr
      cases d <;> try (cases hr; done)
      rename_i e
      cases hv : ρ x <;> rw [hv] at hr hx <;> (try simp only at hr) <;> try (cases hr; done)
      rename_i a
      cases a with
      | none => cases hr
      | some a =>
      cases hv2 : ρ y <;> rw [hv2] at hr hy <;> (try simp only at hr) <;> try (cases hr; done)
      rename_i b
      cases b with
      | none => cases hr
      | some b =>
      simp only at hr
      obtain ⟨r, hr2, rfl⟩ := option_map_some hr
      obtain ⟨h1, h2⟩ := ptrEq_ok h hx hy hu hr2
      refine .of_eq (.bool (!r)) ?_
      have hg := eqGuard_plain (P := P) .neq t x y (b := ρ' y) h2 w
      have hb : binOp .neq t (ρ' x) (ρ' y) = (do pure (.bool (!(← Op.equal t (ρ' x) (ρ' y)))) : Sem Value) := by
        obtain ⟨_, _, _, ea⟩ := hx.ptr_inv
        obtain ⟨_, _, _, eb⟩ := hy.ptr_inv
        rw [ea, eb]; rfl
      simp only [Sem.run_bind, hg, Result.andThen_ok, hb, h1, Sem.run_pure]
  case convert src dst' x =>
    have hx := hρ x (by simp [Op.operands])
    cases hs : P.underlying src with
    | none => rw [hs] at hr; cases hr
    | some ds =>
    rw [hs] at hr
    cases hd : P.underlying dst' with
    | none => rw [hd] at hr; cases ds <;> cases hr
    | some dd =>
    rw [hd] at hr
    cases ds <;> try (cases hr; done)
    case slice e =>
      cases dd <;> try (cases hr; done)
      case string =>
        cases hv : ρ x <;> rw [hv] at hr hx <;> (try simp only at hr) <;> try (cases hr; done)
        rename_i a len cap
        cases he : P.underlying e with
        | none => rw [he] at hr; cases hr
        | some de =>
        rw [he] at hr
        cases de <;> try (cases hr; done)
        rename_i k
        cases k <;> try (cases hr; done)
        simp only at hr
        have run : ∀ a' c' s, (Conv.bytesToString (.slice a' len c')).run P w = .ok (.string s) w → ρ' x = .slice a' len c' → (convert src dst' (ρ' x)).run P w = .ok (.string s) w := fun a' c' s hh hu => by
          rw [hu]
          unfold convert
          simp only [Sem.run_bind, und_run hs, und_run hd, Result.andThen_ok, und_run he]
          exact hh
        cases a with
        | none =>
          simp only [Option.some.injEq] at hr; subst hr
          obtain ⟨rfl, rfl, e1⟩ := hx.sliceNil_inv
          exact .of_eq (.string _) (run _ _ _ rfl e1)
        | some a =>
          simp only at hr
          cases hz : Nat.beq len 0 with
          | true =>
            rw [hz, cond_true, Option.some.injEq] at hr; subst hr
            have := beq_true hz
            subst this
            obtain ⟨a', c', e1⟩ := hx.slice_any
            refine .of_eq (.string _) (run a' c' _ ?_ e1)
            cases a' with
            | none => rfl
            | some a' =>
              have := run_bytesToString (P := P) w a' 0 c' [] (by simp [loadCells, loadCellsFrom])
              simpa using this
          | false =>
            rw [hz, cond_false] at hr
            cases hl : H.cells? a len with
            | none => rw [hl] at hr; cases hr
            | some l =>
            rw [hl] at hr
            simp only [Option.bind_some] at hr
            obtain ⟨r, hr2, rfl⟩ := option_map_some hr
            rcases hx.slice_inv with ⟨b, c', hb, hsp, hc, _, e1⟩ | ⟨a', c', rfl, rfl, hc, e1⟩
            · obtain ⟨i, o, s⟩ := a
              simp only at hsp hb; subst hsp
              obtain ⟨l', h1, h2, h3⟩ := h.loadCells (P := P) hl hb
              obtain ⟨ns, rfl, rfl⟩ := bytesL_ok l r hr2
              have h4 := h1.ints
              subst h4
              have := run_bytesToString (P := P) w ⟨b, o, none⟩ len c' ns h3
              rw [foldl_push] at this
              refine .of_eq (.string _) (run _ _ _ ?_ e1)
              rw [this]
              simp
            · cases hz
    case pointer t =>
      cases dd <;> try (cases hr; done)
      cases hv : ρ x <;> rw [hv] at hr hx <;> (try simp only at hr) <;> try (cases hr; done)
      rename_i a
      cases a with
      | none => cases hr
      | some a =>
      simp only at hr
      obtain ⟨b, hb, hsp, e1⟩ := hx.ptr_inv
      rw [hsp] at hr
      cases ho : H.objs.get a.block with
      | none => rw [ho] at hr; cases hr
      | some ob =>
      rw [ho] at hr
      cases ob <;> try (cases hr; done)
      rename_i fl c e
      cases hz : sizeT P t with
      | none => rw [hz] at hr; cases hr
      | some n =>
      rw [hz] at hr
      cases n with
      | zero => cases hr
      | succ n =>
      simp only at hr
      obtain ⟨hlt, hr⟩ := bif_some hr
      simp only [Option.some.injEq] at hr; subst hr
      have hlt : a.off < c.length := Nat.lt_of_lt_of_le (Nat.lt_succ_self _) (ble_true hlt)
      obtain ⟨m, s1, s2, _⟩ := h.shape ho hb
      refine .of_eq hx ?_
      rw [e1]
      have hge : ¬ a.off ≥ m := by omega
      unfold convert
      simp only [Sem.run_bind, und_run hs, und_run hd, Result.andThen_ok]
      have s3 : w.shape? (⟨b, a.off, none⟩ : Addr).block = some (e, m) := s1
      unfold Conv.unsafePointer
      simp only [Sem.run_bind, und_run hs, und_run hd, Result.andThen_ok, run_seenAt_row s3, cellsIn, run_shape, s1, Sem.run_pure, sizeT_run hz]
      simp [hge]
    case unsafePointer =>
      cases dd <;> try (cases hr; done)
      rename_i u
      cases hv : ρ x <;> rw [hv] at hr hx <;> (try simp only at hr) <;> try (cases hr; done)
      rename_i a
      cases a with
      | none => cases hr
      | some a =>
      simp only at hr
      obtain ⟨b, hb, hsp, e1⟩ := hx.ptr_inv
      rw [hsp] at hr
      cases ho : H.objs.get a.block with
      | none => rw [ho] at hr; cases hr
      | some ob =>
      rw [ho] at hr
      cases ob <;> try (cases hr; done)
      rename_i fl c e
      cases hz : sizeT P u with
      | none => rw [hz] at hr; cases hr
      | some n =>
      rw [hz] at hr
      cases n with
      | zero => cases hr
      | succ n =>
      simp only at hr
      obtain ⟨hcond, hr⟩ := bif_some hr
      simp only [Option.some.injEq] at hr; subst hr
      simp only [Bool.and_eq_true] at hcond
      obtain ⟨⟨⟨k1, k2⟩, k3⟩, k4⟩ := hcond
      have k1 := beq_true k1
      have k2 := beq_true k2
      have k3 := beq_true k3
      have k4 := ble_true k4
      obtain ⟨m, s1, s2, _⟩ := h.shape ho hb
      subst k2
      refine .of_eq hx ?_
      rw [e1, k1]
      have s3 : w.shape? (⟨b, 0, none⟩ : Addr).block = some (e, m) := s1
      have hlie : (variablesAt ⟨b, 0, none⟩ e 1).run P w = .ok true w := by
        simp only [variablesAt, Sem.run_bind, run_program, Result.andThen_ok, run_shape, s1, Sem.run_pure]
        rw [liesAt_head k3 ((Nat.le_div_iff_mul_le (by omega)).2 (by omega))]
      unfold convert
      simp only [Sem.run_bind, und_run hs, und_run hd, Result.andThen_ok]
      unfold Conv.unsafePointer
      simp only [Sem.run_bind, und_run hs, und_run hd, Result.andThen_ok, run_seenAt_row s3, sizeT_run hz, hlie]
      simp
  case lookup t m k ok =>
    have hm := hρ m (by simp [Op.operands])
    have hk := hρ k (by simp [Op.operands])
    cases hu : P.underlying t with
    | none => rw [hu] at hr; cases hr
    | some d =>
    rw [hu] at hr
    cases d <;> try (cases hr; done)
    rename_i kt et
    simp only at hr
    cases hes : mapOf H (ρ m) with
    | none => rw [hes] at hr; cases hr
    | some es =>
    rw [hes] at hr
    simp only at hr
    obtain ⟨hko, hr⟩ := bif_some hr
    obtain ⟨ek, hck⟩ := keyOk_ok hk hko
    -- the entries
    obtain ⟨es', her, hget⟩ : ∃ es' : Array MapEntry, ER φ es es'.toList ∧ ((ρ' m = .map none ∧ es' = #[]) ∨ ∃ b clock, ρ' m = .map (some b) ∧ w.heap[b]? = some (.map es' clock)) := by
      unfold mapOf at hes
      split at hes <;> try (cases hes; done)
      · rename_i e1
        simp only [Option.some.injEq] at hes; subst hes
        rw [e1] at hm
        exact ⟨#[], ⟨rfl, fun i e h => by simp at h⟩, .inl ⟨hm.mapNil_inv, rfl⟩⟩
      · rename_i r e1
        rw [e1] at hm
        obtain ⟨b, hb, e2⟩ := hm.map_inv
        split at hes <;> try (cases hes; done)
        rename_i es2 clock ho
        simp only [Option.some.injEq] at hes; subst hes
        obtain ⟨es', g1, g2⟩ := h.mapObj ho hb
        exact ⟨es', g2, .inr ⟨b, clock, e2, g1⟩⟩
    have hemp : es'.isEmpty = es.isEmpty := her.isEmpty
    have hku : ∃ dk, P.underlying kt = some dk := by
      cases hkk : P.underlying kt with
      | some dk => exact ⟨dk, rfl⟩
      | none =>
        exfalso
        have h1 := hck w
        rw [show (10000 : Nat) = 9999 + 1 from rfl, Instr.checkKey] at h1
        simp [underlying, hkk] at h1
    obtain ⟨dk, hdk⟩ := hku
    have run : ∀ (res : Option (Nat × Value)) (v' : Value), (∀ w, (Instr.findKey kt (ρ' k) es'.toList).run P w = .ok res w) →
        (match res with | some (_, v) => v' = (if ok then .tuple #[v, .bool true] else v) | none => ∃ z, zeroT P et = some z ∧ v' = (if ok then .tuple #[z, .bool false] else z)) →
        (Instr.lookup t (ρ' m) (ρ' k) ok).run P w = .ok v' w := fun res v' h1 h2 => by
      unfold Instr.lookup
      rcases hget with ⟨e1, e2⟩ | ⟨b, clock, e1, e2⟩
      · rw [e1]
        subst e2
        rw [← hemp] at hck
        simp only [Sem.run_bind, und_run hu, Result.andThen_ok, Sem.run_pure, hck, h1]
        cases res with
        | some p => obtain ⟨i, v⟩ := p; simp only at h2; subst h2; simp only [Sem.run_bind, Sem.run_pure, Result.andThen_ok]
        | none => obtain ⟨z, hz, rfl⟩ := h2; simp only [Sem.run_bind, zeroT_run hz, Sem.run_pure, Result.andThen_ok]
      · rw [e1]
        rw [← hemp] at hck
        simp only [Sem.run_bind, und_run hu, Result.andThen_ok, run_getObj_map e2, Sem.run_pure, hck, h1]
        cases res with
        | some p => obtain ⟨i, v⟩ := p; simp only at h2; subst h2; simp only [Sem.run_bind, Sem.run_pure, Result.andThen_ok]
        | none => obtain ⟨z, hz, rfl⟩ := h2; simp only [Sem.run_bind, zeroT_run hz, Sem.run_pure, Result.andThen_ok]
    cases hf : findK P kt (ρ k) es 0 with
    | none => rw [hf] at hr; cases hr
    | some res =>
    rw [hf] at hr
    obtain ⟨res', g1, g2⟩ := findKey_ok hdk hk her hf
    cases res with
    | some p =>
      obtain ⟨i, v0⟩ := p
      simp only [Option.some.injEq] at hr; subst hr
      cases res' with
      | none => exact g2.elim
      | some p' =>
        obtain ⟨i', v0'⟩ := p'
        obtain ⟨_, g3⟩ := g2
        cases ok with
        | true => exact .of_eq (v' := .tuple #[v0', .bool true]) (VR.tuple' (LR.cons g3 (LR.cons (.bool true) (LR.nil φ)))) (run _ _ g1 (by simp))
        | false => exact .of_eq (v' := v0') g3 (run _ _ g1 (by simp))
    | none =>
      simp only at hr
      cases hz : zeroT P et with
      | none => rw [hz] at hr; cases hr
      | some z =>
      rw [hz] at hr
      simp only at hr
      obtain ⟨hb, hr⟩ := bif_some hr
      simp only [Option.some.injEq] at hr; subst hr
      cases res' with
      | some _ => exact g2.elim
      | none =>
        have hzb := bare_spec (φ := φ) 20 z hb
        cases ok with
        | true => exact .of_eq (v' := .tuple #[z, .bool false]) (VR.tuple' (LR.cons hzb (LR.cons (.bool false) (LR.nil φ)))) (run _ _ g1 ⟨z, hz, by simp⟩)
        | false => exact .of_eq (v' := z) hzb (run _ _ g1 ⟨z, hz, by simp⟩)
  case entry it =>
    have hx := hρ it (by simp [Op.operands])
    revert hr
    split <;> intro hr <;> try (cases hr; done)
    rename_i r e0
    rw [e0] at hx
    obtain ⟨b, hb, _, e1⟩ := hx.ptr_inv
    cases ho : H.objs.get r with
    | none => rw [ho] at hr; cases hr
    | some ob =>
    rw [ho] at hr
    cases ob <;> try (cases hr; done)
    rename_i m since seen stepped
    cases m with
    | none => cases hr
    | some m =>
    simp only at hr
    cases hl : seen.getLast? with
    | none => rw [hl] at hr; cases hr
    | some stamp =>
    rw [hl] at hr
    cases hm : H.objs.get m with
    | none => rw [hm] at hr; cases hr
    | some om =>
    rw [hm] at hr
    cases om <;> try (cases hr; done)
    rename_i es clock
    simp only at hr
    obtain ⟨hc, hr⟩ := bif_some hr
    have hc := beq_true hc
    cases hf : es.find? (fun e => Nat.beq e.born stamp) with
    | none => rw [hf] at hr; cases hr
    | some en =>
    rw [hf] at hr
    simp only [Option.some.injEq] at hr; subst hr
    obtain ⟨o', g1, g2⟩ := h.obj ho hb
    cases g2 with
    | mIter _ _ _ hmb =>
      rename_i b2
      obtain ⟨es', g3, g4⟩ := h.mapObj hm hmb
      have hfind : ∀ (l l' : List MapEntry), ER φ l l' → ∀ en, l.find? (fun e => Nat.beq e.born stamp) = some en → ∃ en', l'.find? (fun e => e.born == stamp) = some en' ∧ VR φ en.key en'.key ∧ VR φ en.val en'.val := by
        intro l
        induction l with
        | nil => intro l' _ en h; simp at h
        | cons x l ih =>
          intro l' hl' en hen
          obtain ⟨x', l2, rfl, r1, r2, r3, r4⟩ := hl'.cons_inv
          simp only [List.find?_cons] at hen ⊢
          have heq : (x'.born == stamp) = Nat.beq x.born stamp := by rw [← r3, beq_nat]
          rw [heq]
          cases hq : Nat.beq x.born stamp with
          | true => rw [hq] at hen; simp only [Option.some.injEq] at hen; subst hen; exact ⟨x', rfl, r1, r2⟩
          | false => rw [hq] at hen; exact ih l2 r4 en hen
      obtain ⟨en', f1, f2, f3⟩ := hfind es es'.toList g4 en hf
      refine .of_eq (v' := .tuple #[en'.key, en'.val]) (VR.tuple' (LR.cons f2 (LR.cons f3 (LR.nil φ)))) ?_
      rw [e1]
      have q1 : (getObj b).run P w = .ok (.mapIter (some b2) since seen.toArray stepped) w := by simp only [getObj, Sem.run, g1]
      have q2 : seen.toArray.back? = some stamp := by simp [hl]
      have q3 : es'.find? (fun e => e.born == stamp) = some en' := by rw [← Array.find?_toList]; exact f1
      have q4 : (clock != stepped) = false := by simp [hc]
      simp only [Instr.entry, Sem.run_bind, q1, Result.andThen_ok, q2, run_getObj_map g3, q4, Bool.false_eq_true, if_false, q3, Sem.run_pure]
  case call c =>
    obtain ⟨callee, args, argTypes⟩ := c
    cases callee with
    | invoke recv m => cases hr
    | value g => cases hr
    | builtin b =>
      have harg : ∀ u, args[0]?.map ρ = some u → ∃ x, args[0]? = some x ∧ ρ x = u ∧ VR φ u (ρ' x) := fun u hu => by
        obtain ⟨x, hx, e⟩ := option_map_some hu
        exact ⟨x, hx, e, e ▸ hρ x (by simp [Op.operands, Call.operands, Array.mem_of_getElem? hx])⟩
      cases b <;> try (cases hr; done)
      case len =>
        simp only at hr
        cases ht : argTypes[0]? with
        | none => rw [ht] at hr; cases hr
        | some t =>
        rw [ht] at hr
        simp only [Option.bind_some] at hr
        cases hu : P.underlying t with
        | none => rw [hu] at hr; cases hr
        | some d =>
        rw [hu] at hr
        cases d <;> try (cases hr; done)
        rename_i kt et
        cases ha : args[0]?.map ρ with
        | none => rw [ha] at hr; cases hr
        | some u =>
        rw [ha] at hr
        obtain ⟨x, hx, e, hvr⟩ := harg u ha
        cases u <;> try (cases hr; done)
        rename_i r
        cases r with
        | none => cases hr
        | some r =>
        simp only at hr
        obtain ⟨b, hb, e1⟩ := hvr.map_inv
        cases ho : H.objs.get r with
        | none => rw [ho] at hr; cases hr
        | some ob =>
        rw [ho] at hr
        cases ob <;> try (cases hr; done)
        rename_i es clock
        simp only [Option.some.injEq] at hr; subst hr
        obtain ⟨es', g1, g2⟩ := h.mapObj ho hb
        refine .of_eq (s := Builtin.len_ argTypes ty (args.map ρ')) (.int .i64 _) ?_
        unfold Builtin.len_
        simp only [Array.getElem?_map, ht, hx, Option.map_some, Sem.run_bind, und_run hu, Result.andThen_ok, e1, run_getObj_map g1, Sem.run_pure, goInt, g2.1, Array.length_toList]
      case unsafeSliceData =>
        simp only at hr
        cases ha : args[0]?.map ρ with
        | none => rw [ha] at hr; cases hr
        | some u =>
        rw [ha] at hr
        obtain ⟨x, hx, e, hvr⟩ := harg u ha
        cases u <;> try (cases hr; done)
        rename_i a l c
        have hone : args.size = 1 → args = #[x] := fun hsz => by
          apply Array.ext
          · simpa using hsz
          · intro i h1 h2
            have : i = 0 := by omega
            subst this
            rw [Array.getElem?_eq_getElem h1] at hx
            simpa using hx
        have hmap : args.size = 1 → args.map ρ' = #[ρ' x] := fun hsz => by rw [hone hsz]; simp
        cases a with
        | none =>
          have hsz : args.size = 1 ∧ v = .pointer none := by
            revert hr
            split
            · rename_i e1 e2 e3; intro _; cases e2
            · rename_i e1 e2 e3; intro hr; exact ⟨e3, by simpa using hr.symm⟩
            · intro hr; cases hr
          obtain ⟨hsz, rfl⟩ := hsz
          refine .of_eq (s := Builtin.unsafeSliceData_ argTypes ty (args.map ρ')) .ptrNil ?_
          rw [hmap hsz]
          obtain ⟨_, _, e4⟩ := hvr.sliceNil_inv
          rw [e4]
          rfl
        | some a =>
          have hsz : args.size = 1 ∧ (bif Nat.beq (capLow c) 0 || a.spot.isSome then none else some (Value.pointer (some a))) = some v := by
            revert hr
            split
            · rename_i e1 e2 e3; intro hr; simp only [Option.some.injEq, Value.slice.injEq] at e2; obtain ⟨e4, _, e5⟩ := e2; subst e4; subst e5; exact ⟨e3, hr⟩
            · rename_i e1 e2 e3; intro _; cases e2
            · intro hr; cases hr
          obtain ⟨hsz, hr⟩ := hsz
          cases hcd : (Nat.beq (capLow c) 0 || a.spot.isSome) with
          | true => rw [hcd] at hr; cases hr
          | false =>
          rw [hcd, cond_false, Option.some.injEq] at hr; subst hr
          simp only [Bool.or_eq_false_iff] at hcd
          rcases hvr.slice_inv with ⟨b2, c', hb, hsp, hc, _, e4⟩ | ⟨a', c', rfl, rfl, hc, e4⟩
          · have hlow := capOk_low hc
            have hc0 : c' ≠ 0 := fun h0 => by
              have : capLow c = 0 := by omega
              rw [this] at hcd; cases hcd.1
            refine .of_eq (s := Builtin.unsafeSliceData_ argTypes ty (args.map ρ')) (v' := .pointer (some ⟨b2, a.off, none⟩)) ?_ ?_
            · obtain ⟨i, o, s⟩ := a
              simp only at hsp hb; subst hsp
              exact .ptr hb
            · rw [hmap hsz, e4]
              exact Lib.run_unsafeSliceData_row w argTypes ty _ _ c' hc0
          · cases hcd.2
end Go.Vi
