/-
  'pureOp', case by case.
-/
import Derived.Test.YtabpbpdhapaffaaGreatDoorVi04
import Derived.KernelRfl
set_option linter.unusedSimpArgs false
set_option linter.unusedVariables false
namespace Go.Vi
variable {P : Program} {φ : Ren}

theorem VR.slice_any {a : Option Addr} {n c : Nat} {u : Value} (h : VR φ (.slice a n c) u) : ∃ a' c', u = .slice a' n c' := by
  cases h with
  | sliceNil => exact ⟨_, _, rfl⟩
  | slice => exact ⟨_, _, rfl⟩
  | sliceDead => exact ⟨_, _, rfl⟩
theorem equal_unfold (t : TypeId) (x y : Value) : Op.equal t x y = Op.equalIn (9999 + 1) t x y := rfl
section
variable {t e : TypeId} (w : World)
theorem eq_ptr_nil {a : Addr} (h : P.underlying t = some (.pointer e)) : (Op.equal t (.pointer (some a)) (.pointer none)).run P w = .ok false w := by
  rw [equal_unfold, Op.equalIn]; simp only [Sem.run_bind, und_run h, Result.andThen_ok, Sem.run_pure]
theorem eq_nil_ptr {a : Addr} (h : P.underlying t = some (.pointer e)) : (Op.equal t (.pointer none) (.pointer (some a))).run P w = .ok false w := by
  rw [equal_unfold, Op.equalIn]; simp only [Sem.run_bind, und_run h, Result.andThen_ok, Sem.run_pure, Option.isNone_some]
theorem eq_slice_nil {a : Addr} {l c l' c' : Nat} (h : P.underlying t = some (.slice e)) : (Op.equal t (.slice (some a) l c) (.slice none l' c')).run P w = .ok false w := by
  rw [equal_unfold, Op.equalIn]; simp only [Sem.run_bind, und_run h, Result.andThen_ok, Sem.run_pure]
theorem eq_nil_slice {a : Addr} {l c l' c' : Nat} (h : P.underlying t = some (.slice e)) : (Op.equal t (.slice none l' c') (.slice (some a) l c)).run P w = .ok false w := by
  rw [equal_unfold, Op.equalIn]; simp only [Sem.run_bind, und_run h, Result.andThen_ok, Sem.run_pure, Option.isNone_some]
theorem eq_map_nil {r : Nat} {k : TypeId} (h : P.underlying t = some (.map k e)) : (Op.equal t (.map (some r)) (.map none)).run P w = .ok false w := by
  rw [equal_unfold, Op.equalIn]; simp only [Sem.run_bind, und_run h, Result.andThen_ok, Sem.run_pure]
theorem eq_func_nil {f : Fn} {x y : Array Value} {ps rs : Array TypeId} {va : Bool} (h : P.underlying t = some (.func ps rs va)) : (Op.equal t (.func f x y) .nilFunc).run P w = .ok false w := by
  rw [equal_unfold, Op.equalIn]; simp only [Sem.run_bind, und_run h, Result.andThen_ok, Sem.run_pure]
end
def plainB : Value → Bool
  | .nilIface | .agg _ | .int _ _ | .float _ _ | .complex _ _ _ | .string _ => false
  | _ => true
/-- An operation that is '==' or '!=' of two values that are neither interfaces nor structs. -/
theorem eqGuard_plain (op : BinOp) (t : TypeId) (x y : Operand) {a b : Value} (ha : plainB a = true) (w : World) :
    (eqGuard op t x y a b).run P w = .ok () w := by
  cases a <;> first
    | (exact absurd ha Bool.false_ne_true)
    | (unfold eqGuard; rw [Sem.run_ite]; split <;> rfl)
theorem binOp_eql {op : BinOp} {t : TypeId} {x y : Operand} {a b : Value} {r : Bool} (ha : plainB a = true)
    (hop : op = .eql ∨ op = .neq) (h : ∀ w, (Op.equal t a b).run P w = .ok r w) (w : World) :
    (do eqGuard op t x y a b; binOp op t a b : Sem Value).run P w = .ok (.bool (if op = .eql then r else !r)) w := by
  have hg := eqGuard_plain (P := P) op t x y (a := a) (b := b) ha w
  simp only [Sem.run_bind, hg, Result.andThen_ok]
  rcases hop with rfl | rfl
  · have : binOp .eql t a b = (do pure (.bool (← Op.equal t a b)) : Sem Value) := by cases a <;> first | (exact absurd ha Bool.false_ne_true) | rfl
    rw [this]; simp only [Sem.run_bind, h w, Result.andThen_ok, Sem.run_pure, if_true]
  · have : binOp .neq t a b = (do pure (.bool (!(← Op.equal t a b))) : Sem Value) := by cases a <;> first | (exact absurd ha Bool.false_ne_true) | rfl
    rw [this]; simp only [Sem.run_bind, h w, Result.andThen_ok, Sem.run_pure, reduceCtorEq, if_false]

theorem pureV_ok {s : Sem Value} {v : Value} (h : pureV P s = some v) : VR φ v v ∧ ∀ w, s.run P w = .ok v w := by
  unfold pureV at h
  cases hs : pureRun P s with
  | none => rw [hs] at h; cases h
  | some u =>
    rw [hs] at h
    simp only at h
    obtain ⟨hb, h⟩ := bif_some h
    simp only [Option.some.injEq] at h; subst h
    exact ⟨bare_spec 20 _ hb, pureRun_sound _ hs⟩

theorem nilEq_eq {t : TypeId} {u v u' v' : Value} {r : Bool} (hu : VR φ u u') (hv : VR φ v v') (h : nilEq.eq P t u v = some r) :
    (∀ w, (Op.equal t u' v').run P w = .ok r w) ∧ plainB u' = true := by
  unfold nilEq.eq at h
  split at h <;> try (cases h; done)
  · obtain ⟨b, _, _, rfl⟩ := hu.ptr_inv
    obtain rfl := hv.ptrNil_inv
    split at h <;> try (cases h; done)
    rename_i he
    simp only [Option.some.injEq] at h; subst h
    exact ⟨fun w => eq_ptr_nil w he, rfl⟩
  · obtain ⟨b, _, _, rfl⟩ := hv.ptr_inv
    obtain rfl := hu.ptrNil_inv
    split at h <;> try (cases h; done)
    rename_i he
    simp only [Option.some.injEq] at h; subst h
    exact ⟨fun w => eq_nil_ptr w he, rfl⟩
  · obtain ⟨_, _, rfl⟩ := hv.sliceNil_inv
    split at h <;> try (cases h; done)
    rename_i he
    simp only [Option.some.injEq] at h; subst h
    rcases hu.slice_inv with ⟨b, c', _, _, _, _, rfl⟩ | ⟨a', c', _, _, _, rfl⟩
    · exact ⟨fun w => eq_slice_nil w he, rfl⟩
    · exact ⟨fun w => eq_slice_nil w he, rfl⟩
  · obtain ⟨_, _, rfl⟩ := hu.sliceNil_inv
    split at h <;> try (cases h; done)
    rename_i he
    simp only [Option.some.injEq] at h; subst h
    rcases hv.slice_inv with ⟨b, c', _, _, _, _, rfl⟩ | ⟨a', c', _, _, _, rfl⟩
    · exact ⟨fun w => eq_nil_slice w he, rfl⟩
    · exact ⟨fun w => eq_nil_slice w he, rfl⟩
  · obtain ⟨b, _, rfl⟩ := hu.map_inv
    obtain rfl := hv.mapNil_inv
    split at h <;> try (cases h; done)
    rename_i he
    simp only [Option.some.injEq] at h; subst h
    exact ⟨fun w => eq_map_nil w he, rfl⟩
  · obtain ⟨f', x', y', rfl, _, _, _⟩ := hu.func_inv
    obtain rfl := hv.nilFunc_inv
    split at h <;> try (cases h; done)
    rename_i he
    simp only [Option.some.injEq] at h; subst h
    exact ⟨fun w => eq_func_nil w he, rfl⟩
theorem nilEq_ok {t : TypeId} {op : BinOp} {u v u' v' : Value} {r : Bool} (hu : VR φ u u') (hv : VR φ v v') (h : nilEq P t op u v = some r) (x y : Operand) (w : World) :
    (do eqGuard op t x y u' v'; binOp op t u' v' : Sem Value).run P w = .ok (.bool r) w := by
  unfold nilEq at h
  cases op <;> try (cases h; done)
  case eql =>
    obtain ⟨h1, h2⟩ := nilEq_eq hu hv h
    simpa using binOp_eql (x := x) (y := y) h2 (.inl rfl) h1 w
  case neq =>
    obtain ⟨b, hb, rfl⟩ := option_map_some h
    obtain ⟨h1, h2⟩ := nilEq_eq hu hv hb
    simpa using binOp_eql (x := x) (y := y) h2 (.inr rfl) h1 w

theorem noEscape_generic : Extern.allGenericRows.lookup "internal/abi.NoEscape" = none := by decide +kernel
theorem noEscape_typed : (Extern.allTypedRows.lookup "internal/abi.NoEscape").isNone = true := by decide +kernel
theorem noEscape_rows : Extern.allRows.lookup "internal/abi.NoEscape" = some Extern.AbiNoEscape.same := by kernel_rfl
theorem noEscape_find {fn : Func} (h : fn.name = "internal/abi.NoEscape") : Extern.find fn = some Extern.AbiNoEscape.same := by
  unfold Extern.find
  have h2 := noEscape_typed
  rw [Option.isNone_iff_eq_none] at h2
  simp only [h, noEscape_generic, h2, noEscape_rows, Option.map_none]
  rfl
theorem pureOp_ok {ρ ρ' : Operand → Value} {o : Oper} {v : Value} (hfun : ∀ f, ρ' (.func f) = .func (.func f) #[] #[]) (hρ : ∀ x ∈ o.op.operands, VR φ (ρ x) (ρ' x)) (h : pureOp P ρ o = some v) :
    PureOk P φ (execOp ρ' o) v := by
  obtain ⟨dst, op, ty, pos, after, guard⟩ := o
  simp only at hρ
  cases op <;> simp only [pureOp] at h <;> try (cases h; done)
  case move x =>
    rw [Option.some.injEq] at h; subst h
    exact ⟨ρ' x, hρ x (by simp [Op.operands]), fun w => rfl⟩
  case assign x =>
    rw [Option.some.injEq] at h; subst h
    exact ⟨ρ' x, hρ x (by simp [Op.operands]), fun w => rfl⟩
  case pick c a b =>
    have hc := hρ c (by simp [Op.operands])
    have ha := hρ a (by simp [Op.operands])
    have hb := hρ b (by simp [Op.operands])
    cases hv : ρ c <;> rw [hv] at h hc <;> (try simp only at h) <;> try (cases h; done)
    rename_i t
    rw [Option.some.injEq] at h; subst h
    have e := hc.bool_inv
    cases t with
    | true => exact ⟨ρ' a, ha, fun w => by simp [execOp, e, asBool]⟩
    | false => exact ⟨ρ' b, hb, fun w => by simp [execOp, e, asBool]⟩
  case build t parts =>
    cases hz : zeroT P t with
    | none => rw [hz] at h; cases h
    | some z =>
      rw [hz] at h
      obtain ⟨hb, h⟩ := bif_some h
      obtain ⟨v', hv, hr⟩ := build_ok (ρ' := ρ') (fun p hp => hρ p.2 (by simp only [Op.operands, List.mem_toArray, List.mem_map]; exact ⟨p, by simpa using hp, rfl⟩)) (fun z' hz' => by rw [hz] at hz'; cases hz'; exact hb) h
      exact .of_eq hv hr
  case nilCheck x =>
    have hx := hρ x (by simp [Op.operands])
    cases hv : ρ x <;> rw [hv] at h hx <;> (try simp only at h) <;> try (cases h; done)
    rename_i a
    cases a with
    | none => cases h
    | some a =>
      simp only [Option.some.injEq] at h; subst h
      obtain ⟨b, hb, hs, e⟩ := hx.ptr_inv
      refine ⟨_, hx, fun w => ?_⟩
      simp only [execOp, e]; rfl
  case fieldAddr s x f =>
    have hx := hρ x (by simp [Op.operands])
    cases hu : P.underlying s with
    | none => rw [hu] at h; cases h
    | some d =>
    rw [hu] at h
    cases d <;> try (cases h; done)
    rename_i fields
    cases hv : ρ x <;> rw [hv] at h hx <;> (try simp only at h) <;> try (cases h; done)
    rename_i a
    cases a with
    | none => cases h
    | some a =>
    simp only at h
    cases hf : fields[f]? with
    | none => rw [hf] at h; cases h
    | some fd =>
    rw [hf] at h
    simp only at h
    obtain ⟨b, hb, hs, e⟩ := hx.ptr_inv
    rw [hs] at h
    cases hsz : sizeT P fd.type with
    | none => rw [hsz] at h; cases h
    | some n =>
    rw [hsz] at h
    cases n with
    | zero => cases h
    | succ n =>
    simp only [Option.some.injEq] at h; subst h
    refine .of_eq (v' := .pointer (some ⟨b, a.off + fd.offset, none⟩)) (.ptr hb) fun w => ?_
    simp only [Instr.fieldAt, Instr.sureAddr, Sem.run_bind, und_run hu, Result.andThen_ok, hf, e, Sem.run_pure, fieldPlace, sizeT_run hsz, Sem.run_ite, Nat.add_eq_zero_iff, Nat.succ_ne_zero, and_false, if_false, addAddr_eq]
  case field t x f =>
    have hx := hρ x (by simp [Op.operands])
    cases hu : P.underlying t with
    | none => rw [hu] at h; cases h
    | some d =>
    rw [hu] at h
    cases d <;> try (cases h; done)
    rename_i fields
    cases hv : ρ x <;> rw [hv] at h hx <;> (try simp only at h) <;> try (cases h; done)
    rename_i cs
    cases hf : fields[f]? with
    | none => rw [hf] at h; cases h
    | some fd =>
    rw [hf] at h
    simp only at h
    obtain ⟨cs', e, hc⟩ := hx.agg_inv
    cases hag : isAggT P fd.type with
    | none => rw [hag] at h; cases h
    | some ag =>
    rw [hag] at h
    cases ag with
    | true =>
      cases hsz : sizeT P fd.type with
      | none => rw [hsz] at h; cases h
      | some n =>
      rw [hsz] at h
      simp only [Option.some.injEq] at h; subst h
      refine .of_eq (VR.agg' (hc.extract _ _)) fun w => ?_
      simp only [Instr.field, Sem.run_bind, und_run hu, Result.andThen_ok, hf, e, asAgg, Sem.run_pure, part, isAggT_run hag, sizeT_run hsz, if_true, Sem.run_ite]
    | false =>
      simp only at h
      obtain ⟨v', hv', hr⟩ := hc.get? h
      refine .of_eq hr fun w => ?_
      simp only [Instr.field, Sem.run_bind, und_run hu, Result.andThen_ok, hf, e, asAgg, Sem.run_pure, part, isAggT_run hag, hv', Bool.false_eq_true, if_false, Sem.run_ite]
  case extract t i =>
    have hx := hρ t (by simp [Op.operands])
    cases hv : ρ t <;> rw [hv] at h hx <;> (try simp only at h) <;> try (cases h; done)
    rename_i vs
    obtain ⟨vs', e, hc⟩ := hx.tuple_inv
    obtain ⟨v', hv', hr⟩ := hc.get? h
    refine .of_eq hr fun w => ?_
    simp only [Instr.extract, e, hv', Sem.run_pure]
  case makeInterface t x =>
    have hx := hρ x (by simp [Op.operands])
    cases hu : P.underlying t with
    | none => rw [hu] at h; cases h
    | some d =>
    rw [hu] at h
    have : d ≠ .interface (match d with | .interface m => m | _ => #[]) ∧ v = .iface t (ρ x) := by
      cases d <;> simp at h <;> exact ⟨by simp, h.symm⟩
    obtain ⟨hd, rfl⟩ := this
    refine .of_eq (.iface t hx) fun w => ?_
    simp only [Instr.makeInterface, Sem.run_bind, und_run hu, Result.andThen_ok]
    cases d <;> first | rfl | (simp at hd)
  case makeFunc fn first captured =>
    cases fn <;> (try simp only at h) <;> try (cases h; done)
    rename_i f
    rw [Option.some.injEq] at h; subst h
    refine ⟨.func (.func f) (first.map ρ') (captured.map ρ'), VR.func' (.func f) (AR.map fun x hx => hρ x (by simp [Op.operands, hx])) (AR.map fun x hx => hρ x (by simp [Op.operands, hx])), fun w => ?_⟩
    simp [execOp, Instr.makeFunc]
  case unOp op xt x =>
    have hx := hρ x (by simp [Op.operands])
    obtain ⟨hb, h⟩ := bif_some h
    have e := hx.inj_bare 20 hb
    obtain ⟨hv, hr⟩ := pureV_ok (φ := φ) h
    exact .of_eq hv (by rw [e]; exact hr)
  case index t x i =>
    have hx := hρ x (by simp [Op.operands])
    have hi := hρ i (by simp [Op.operands])
    cases hv : ρ x <;> rw [hv] at h hx <;> (try simp only at h) <;> try (cases h; done)
    case string s =>
      obtain ⟨hb, h⟩ := bif_some h
      obtain ⟨hv, hr⟩ := pureV_ok (φ := φ) h
      exact .of_eq hv (by rw [hx.string_inv, hi.inj_bare 20 hb]; exact hr)
    case agg cs =>
      cases hu : P.underlying t with
      | none => rw [hu] at h; cases h
      | some d =>
      rw [hu] at h
      cases d <;> try (cases h; done)
      rename_i len e
      cases hn : ρ i <;> rw [hn] at h hi <;> (try simp only at h) <;> try (cases h; done)
      rename_i k n
      obtain ⟨cs', ex, hc⟩ := hx.agg_inv
      cases hag : isAggT P e with
      | none => rw [hag] at h; cases h
      | some ag =>
      rw [hag] at h
      cases hsz : sizeT P e with
      | none => rw [hsz] at h; cases ag <;> cases h
      | some sz =>
      rw [hsz] at h
      have hdec : ∀ {y : Option Value}, (bif okInt n && decide (n < (len : Int)) then y else none) = some v → (0 ≤ n ∧ n < (len : Int)) ∧ y = some v := fun hh => by
        obtain ⟨hb, hh⟩ := bif_some hh
        simp only [Bool.and_eq_true, decide_eq_true_eq] at hb
        exact ⟨⟨okInt_spec hb.1, hb.2⟩, hh⟩
      cases ag with
      | true =>
        simp only at h
        obtain ⟨hlt, h⟩ := hdec h
        simp only [Option.some.injEq] at h; subst h
        refine .of_eq (VR.agg' (hc.extract _ _)) fun w => ?_
        simp only [Instr.index, asIntOf, hi.int_inv, ex, Sem.run_bind, und_run hu, Result.andThen_ok, Sem.run_pure, sizeT_run hsz, part, isAggT_run hag, hlt, and_self, if_true, Sem.run_ite]
      | false =>
        simp only at h
        obtain ⟨hlt, h⟩ := hdec h
        obtain ⟨v', hv', hr⟩ := hc.get? h
        refine .of_eq hr fun w => ?_
        simp only [Instr.index, asIntOf, hi.int_inv, ex, Sem.run_bind, und_run hu, Result.andThen_ok, Sem.run_pure, sizeT_run hsz, part, isAggT_run hag, hlt, and_self, if_true, Sem.run_ite, Bool.false_eq_true, if_false, hv']
  case indexAddr t x i =>
    have hx := hρ x (by simp [Op.operands])
    have hi := hρ i (by simp [Op.operands])
    cases hu : P.underlying t with
    | none => rw [hu] at h; cases h
    | some d =>
    rw [hu] at h
    cases d <;> try (cases h; done)
    case slice e =>
      cases hv : ρ x <;> rw [hv] at h hx <;> (try simp only at h) <;> try (cases h; done)
      rename_i a len cap
      cases a with
      | none => cases h
      | some a =>
      cases hn : ρ i <;> rw [hn] at h hi <;> (try simp only at h) <;> try (cases h; done)
      rename_i k n
      cases hsp : a.spot with
      | some _ => rw [hsp] at h; cases h
      | none =>
      rw [hsp] at h
      cases hsz : sizeT P e with
      | none => rw [hsz] at h; cases h
      | some sz =>
      rw [hsz] at h
      simp only at h
      obtain ⟨hb, h⟩ := bif_some h
      simp only [Bool.and_eq_true, decide_eq_true_eq] at hb
      have h0 := okInt_spec hb.1
      simp only [Option.some.injEq] at h; subst h
      rcases hx.slice_inv with ⟨b, c', hb', _, hc, _, ex⟩ | ⟨a', c', rfl, rfl, hc, ex⟩
      · refine .of_eq (v' := .pointer (some ⟨b, a.off + n.toNat * sz, none⟩)) (.ptr hb') fun w => ?_
        simp only [Instr.indexAt, asIntOf, hi.int_inv, ex, Sem.run_bind, und_run hu, Result.andThen_ok, Sem.run_pure, sizeT_run hsz, h0, hb.2, and_self, if_true, Sem.run_ite, addAddr_eq]
      · simp [nowhere] at hsp
    case array len e =>
      cases hv : ρ x <;> rw [hv] at h hx <;> (try simp only at h) <;> try (cases h; done)
      rename_i a
      cases a with
      | none => cases h
      | some a =>
      cases hn : ρ i <;> rw [hn] at h hi <;> (try simp only at h) <;> try (cases h; done)
      rename_i k n
      cases hsp : a.spot with
      | some _ => rw [hsp] at h; cases h
      | none =>
      rw [hsp] at h
      cases hsz : sizeT P e with
      | none => rw [hsz] at h; cases h
      | some sz =>
      rw [hsz] at h
      simp only at h
      obtain ⟨hb, h⟩ := bif_some h
      simp only [Bool.and_eq_true, decide_eq_true_eq] at hb
      have h0 := okInt_spec hb.1
      simp only [Option.some.injEq] at h; subst h
      obtain ⟨b, hb', _, ex⟩ := hx.ptr_inv
      refine .of_eq (v' := .pointer (some ⟨b, a.off + n.toNat * sz, none⟩)) (.ptr hb') fun w => ?_
      simp only [Instr.indexAt, asIntOf, hi.int_inv, ex, Instr.sureAddr, Sem.run_bind, und_run hu, Result.andThen_ok, Sem.run_pure, sizeT_run hsz, h0, hb.2, and_self, if_true, Sem.run_ite, addAddr_eq]
  case slice t x lo hi mx =>
    have hx := hρ x (by simp [Op.operands])
    have hlo : ∀ y ∈ lo.toArray, VR φ (ρ y) (ρ' y) := fun y hy => hρ y (by simp [Op.operands] at hy ⊢; exact .inr (.inl hy))
    have hhi : ∀ y ∈ hi.toArray, VR φ (ρ y) (ρ' y) := fun y hy => hρ y (by simp [Op.operands] at hy ⊢; exact .inr (.inr (.inl hy)))
    have hmx : ∀ y ∈ mx.toArray, VR φ (ρ y) (ρ' y) := fun y hy => hρ y (by simp [Op.operands] at hy ⊢; exact .inr (.inr (.inr hy)))
    cases hu : P.underlying t with
    | none => rw [hu] at h; cases h
    | some d =>
    rw [hu] at h
    cases d <;> try (cases h; done)
    case slice e =>
      cases hv : ρ x <;> rw [hv] at h hx <;> (try simp only at h) <;> try (cases h; done)
      rename_i a len cap
      cases hl : optInt (lo.map ρ) with
      | none => rw [hl] at h; cases h
      | some l =>
      rw [hl] at h
      cases hh : optInt (hi.map ρ) with
      | none => rw [hh] at h; cases h
      | some hh' =>
      rw [hh] at h
      cases hm : optInt (mx.map ρ) with
      | none => rw [hm] at h; cases h
      | some m =>
      rw [hm] at h
      obtain ⟨v', hv', hr⟩ := sliceV_ok hlo hhi hmx hl hh hm hx hu h
      refine .of_eq hv' fun w => ?_
      simp only [Instr.sliceAt, Sem.run_bind, und_run hu, Result.andThen_ok]
      exact hr w
    case string =>
      cases hv : ρ x <;> rw [hv] at h hx <;> (try simp only at h) <;> try (cases h; done)
      rename_i s
      obtain ⟨hb, h⟩ := bif_some h
      simp only [Bool.and_eq_true] at hb
      obtain ⟨hv', hr⟩ := pureV_ok (φ := φ) h
      have hmap : ∀ (z : Option Operand), (∀ y ∈ z.toArray, VR φ (ρ y) (ρ' y)) → (z.map ρ).toList.all (bare 20) = true → z.map ρ' = z.map ρ := fun z hz hzb => by
        cases z with
        | none => rfl
        | some y => simp only [Option.map_some]; rw [(hz y (by simp)).inj_bare 20 (by simpa using hzb)]
      refine .of_eq hv' fun w => ?_
      simp only [Instr.sliceAt, Sem.run_bind, und_run hu, Result.andThen_ok]
      rw [hx.string_inv, hmap lo hlo hb.1.1, hmap hi hhi hb.1.2, hmap mx hmx hb.2]
      exact hr w
    case array n e =>
      cases hv : ρ x <;> rw [hv] at h hx <;> (try simp only at h) <;> try (cases h; done)
      rename_i a
      cases a with
      | none => cases h
      | some a =>
      simp only at h
      cases hsp : a.spot with
      | some _ => rw [hsp] at h; cases h
      | none =>
      rw [hsp] at h
      cases hsz : sizeT P e with
      | none => rw [hsz] at h; cases h
      | some sz =>
      rw [hsz] at h
      cases hl : optInt (lo.map ρ) with
      | none => rw [hl] at h; cases h
      | some l =>
      rw [hl] at h
      cases hh : optInt (hi.map ρ) with
      | none => rw [hh] at h; cases h
      | some hh' =>
      rw [hh] at h
      cases mx with
      | some m => cases h
      | none =>
      simp only at h
      obtain ⟨hb, h⟩ := bif_some h
      simp only [Bool.and_eq_true] at hb
      have e1 := ble_true hb.1
      have e2 := ble_true hb.2
      simp only [Option.some.injEq] at h; subst h
      obtain ⟨b, hb', _, ex⟩ := hx.ptr_inv
      have hbd : ∀ w, (Instr.sliceBounds false n n (lo.map ρ') (hi.map ρ') none).run P w = .ok (l.getD 0, hh'.getD n, n) w := fun w => by
        unfold Instr.sliceBounds
        rcases optInt_ok hhi hh with ⟨rfl, rfl⟩ | ⟨y, k, nh, rfl, rfl, eh⟩
        · rcases optInt_ok hlo hl with ⟨rfl, rfl⟩ | ⟨y, k, nl, rfl, rfl, el⟩
          · simp [Sem.run_bind]
          · simp only [Option.getD_some, Option.getD_none] at e1 e2
            simp [Sem.run_bind, el, sliceBound_ok _ _ e2]
        · rcases optInt_ok hlo hl with ⟨rfl, rfl⟩ | ⟨y', k', nl, rfl, rfl, el⟩
          · simp only [Option.getD_some, Option.getD_none] at e1 e2
            simp [Sem.run_bind, eh, sliceBound_ok _ _ e1]
          · simp only [Option.getD_some] at e1 e2
            simp [Sem.run_bind, eh, el, sliceBound_ok _ _ e1, sliceBound_ok _ _ e2]
      refine .of_eq (v' := .slice (some (if n = l.getD 0 then ⟨b, a.off, none⟩ else ⟨b, a.off + l.getD 0 * sz, none⟩)) (hh'.getD n - l.getD 0) (n - l.getD 0)) ?_ fun w => ?_
      · cases h5 : Nat.beq n (l.getD 0) with
        | true =>
          rw [if_pos (beq_true h5), cond_true]
          obtain ⟨ab, ao, as⟩ := a
          simp only at hsp; subst hsp
          exact .slice _ hb' (capOk_exact _) (fun _ h => by omega)
        | false =>
          have e4 : n ≠ l.getD 0 := fun e => by rw [e, Nat.beq_refl] at h5; cases h5
          rw [if_neg e4, cond_false]
          exact .slice _ hb' (capOk_exact _) (fun _ h => by omega)
      · simp only [Instr.sliceAt, Sem.run_bind, und_run hu, Result.andThen_ok, ex, Instr.sureAddr, Sem.run_pure, Option.map_none, hbd, sizeT_run hsz, addAddr_eq]
  case binOp op t x y yt =>
    have hx := hρ x (by simp [Op.operands])
    have hy := hρ y (by simp [Op.operands])
    cases hn : nilEq P t op (ρ x) (ρ y) with
    | some r =>
      rw [hn] at h
      simp only [Option.some.injEq] at h; subst h
      refine .of_eq (.bool r) fun w => ?_
      exact nilEq_ok hx hy hn x y w
    | none =>
      rw [hn] at h
      simp only at h
      obtain ⟨hb, h⟩ := bif_some h
      simp only [Bool.and_eq_true] at hb
      obtain ⟨hv, hr⟩ := pureV_ok (φ := φ) h
      exact .of_eq hv (by rw [hx.inj_bare 20 hb.1, hy.inj_bare 20 hb.2]; exact hr)
  case convert src dst x =>
    have hx := hρ x (by simp [Op.operands])
    have fin : (bif bare 20 (ρ x) then pureV P (convert src dst (ρ x)) else none) = some v → PureOk P φ (do pure (Next.value (← convert src dst (ρ' x)))) v := fun h => by
      obtain ⟨hb, h⟩ := bif_some h
      obtain ⟨hv, hr⟩ := pureV_ok (φ := φ) h
      exact .of_eq hv (by rw [hx.inj_bare 20 hb]; exact hr)
    refine fin ?_
    revert h
    split <;> intro h <;> first | exact h | cases h
  case typeAssert x xt at_ ok =>
    have hx := hρ x (by simp [Op.operands])
    obtain ⟨hc, h⟩ := bif_some h
    unfold concreteT at hc
    cases hu : P.underlying at_ with
    | none => rw [hu] at hc; cases hc
    | some d =>
    rw [hu] at hc
    have hd : ∀ ms, d ≠ .interface ms := fun ms e => by subst e; cases hc
    have fails : ∀ {v}, assertFails P at_ ok = some v → ok = true ∧ ∃ z, zeroT P at_ = some z ∧ v = .tuple #[z, .bool false] ∧ VR φ v v := fun {v} h => by
      unfold assertFails at h
      obtain ⟨hok, h⟩ := bif_some h
      cases hz : zeroT P at_ with
      | none => rw [hz] at h; cases h
      | some z =>
      rw [hz] at h
      obtain ⟨hb, h⟩ := bif_some h
      simp only [Option.some.injEq] at h; subst h
      exact ⟨hok, z, rfl, rfl, VR.tuple' (LR.cons (bare_spec 20 z hb) (LR.cons (.bool false) (LR.nil φ)))⟩
    cases hv : ρ x <;> rw [hv] at h hx <;> (try simp only [typeAsrt] at h) <;> try (cases h; done)
    case nilIface =>
      obtain ⟨rfl, z, hz, rfl, hvr⟩ := fails h
      refine .of_eq hvr fun w => ?_
      rw [hx.nilIface_inv]
      unfold Instr.typeAssert
      simp only [Sem.run_bind, und_run hu, Result.andThen_ok]
      cases d <;> first | (exact absurd rfl (hd _)) | simp only [if_true, Sem.run_bind, zeroT_run hz, Result.andThen_ok, Sem.run_pure]
    case iface t u =>
      obtain ⟨u', eu, hu'⟩ := hx.iface_inv
      cases ht : Nat.beq t at_ with
      | true =>
        rw [ht, cond_true, Option.some.injEq] at h
        have et := beq_true ht
        subst h
        have run : ∀ w, (Instr.typeAssert (.iface t u') xt at_ ok).run P w = .ok (if ok then .tuple #[u', .bool true] else u') w := fun w => by
          unfold Instr.typeAssert
          simp only [Sem.run_bind, und_run hu, Result.andThen_ok]
          cases d <;> first | (exact absurd rfl (hd _)) | simp only [et, if_true, Sem.run_pure]
        cases ok with
        | true => exact .of_eq (v' := .tuple #[u', .bool true]) (VR.tuple' (LR.cons hu' (LR.cons (.bool true) (LR.nil φ)))) (by rw [eu]; exact run)
        | false => exact .of_eq (v' := u') hu' (by rw [eu]; exact run)
      | false =>
        rw [ht, cond_false] at h
        have et : t ≠ at_ := fun e => by rw [e, Nat.beq_refl] at ht; cases ht
        obtain ⟨rfl, z, hz, rfl, hvr⟩ := fails h
        refine .of_eq hvr fun w => ?_
        rw [eu]
        unfold Instr.typeAssert
        simp only [Sem.run_bind, und_run hu, Result.andThen_ok]
        cases d <;> first | (exact absurd rfl (hd _)) | simp only [if_neg et, if_true, Sem.run_bind, zeroT_run hz, Result.andThen_ok, Sem.run_pure]
  case call c =>
    obtain ⟨callee, args, argTypes⟩ := c
    cases callee with
    | invoke recv m => cases h
    | builtin b =>
      have hargs : AR φ (args.map ρ) (args.map ρ') := AR.map fun x hx => hρ x (by simp [Op.operands, Call.operands, hx])
      have heq : ∀ n, (args.map ρ).toList.all (bare n) = true → args.map ρ' = args.map ρ := fun n hb => hargs.bare_eq hb
      cases b <;> try (cases h; done)
      case len =>
        simp only at h
        have harg : ∀ u, args[0]?.map ρ = some u → ∃ x, args[0]? = some x ∧ ρ x = u ∧ VR φ u (ρ' x) := fun u hu => by
          obtain ⟨x, hx, e⟩ := option_map_some hu
          exact ⟨x, hx, e, e ▸ hρ x (by simp [Op.operands, Call.operands, Array.mem_of_getElem? hx])⟩
        cases ht : argTypes[0]? with
        | none => rw [ht] at h; cases h
        | some t =>
        rw [ht] at h
        simp only [Option.bind_some] at h
        cases hu : P.underlying t with
        | none => rw [hu] at h; cases h
        | some d =>
        rw [hu] at h
        cases ha : args[0]?.map ρ with
        | none => rw [ha] at h; revert h; split <;> intro h <;> simp_all
        | some u =>
        rw [ha] at h
        obtain ⟨x, hx, e, hr⟩ := harg u ha
        have run : ∀ w r, (match d, ρ' x with
            | .string, .string s => some (goInt s.size)
            | .array n _, _ => some (goInt n)
            | .slice _, .slice _ n _ => some (goInt n)
            | .map _ _, .map none => some (goInt 0)
            | _, _ => none) = some r → (Builtin.len_ argTypes ty (args.map ρ')).run P w = .ok r w := fun w r hh => by
          unfold Builtin.len_
          simp only [Array.getElem?_map, ht, hx, Option.map_some, Sem.run_bind, und_run hu, Result.andThen_ok]
          revert hh
          generalize ρ' x = u'
          intro hh
          split at hh <;> first | (simp only [Option.some.injEq] at hh; subst hh; rfl) | cases hh
        have fin : ∀ r, (∀ w, (Builtin.len_ argTypes ty (args.map ρ')).run P w = .ok r w) → VR φ v r → PureOk P φ (execOp ρ' ⟨dst, .call ⟨.builtin .len, args, argTypes⟩, ty, pos, after, guard⟩) v := fun r hh hv => .of_eq hv hh
        revert h
        split
        · rename_i s e1 e2
          intro h
          simp only [Option.some.injEq] at h e1 e2; subst h; subst e1; subst e2
          exact fin _ (fun w => run w _ (by rw [hr.string_inv]; rfl)) (.int .i64 _)
        · rename_i et l n c e1 e2
          intro h
          simp only [Option.some.injEq] at h e1 e2; subst h; subst e1; subst e2
          obtain ⟨a', c', e'⟩ := hr.slice_any
          exact fin _ (fun w => run w _ (by rw [e']; rfl)) (.int .i64 _)
        · rename_i n et u e1 e2
          intro h
          simp only [Option.some.injEq] at h e1; subst h; subst e1
          exact fin _ (fun w => run w _ rfl) (.int .i64 _)
        · rename_i kt et e1 e2
          intro h
          simp only [Option.some.injEq] at h e1 e2; subst h; subst e1; subst e2
          exact fin _ (fun w => run w _ (by rw [hr.mapNil_inv]; rfl)) (.int .i64 _)
        · intro h; cases h
      case min =>
        obtain ⟨hb, h⟩ := bif_some h
        obtain ⟨hv, hr⟩ := pureV_ok (φ := φ) h
        refine .of_eq (s := Builtin.min_ argTypes ty (args.map ρ')) hv ?_
        rw [heq 20 hb]; exact hr
      case max =>
        obtain ⟨hb, h⟩ := bif_some h
        obtain ⟨hv, hr⟩ := pureV_ok (φ := φ) h
        refine .of_eq (s := Builtin.max_ argTypes ty (args.map ρ')) hv ?_
        rw [heq 20 hb]; exact hr
    | value g =>
      cases g <;> try (cases h; done)
      rename_i f
      simp only at h
      have hargs : AR φ (args.map ρ) (args.map ρ') := AR.map fun x hx => hρ x (by simp [Op.operands, Call.operands, hx])
      cases hf : P.funcs[f]? with
      | none => rw [hf] at h; cases h
      | some fn =>
      rw [hf] at h
      simp only at h
      obtain ⟨hb, h⟩ := bif_some h
      simp only [Bool.and_eq_true, Bool.not_eq_true'] at hb
      have hcall : ∀ (u : Value) (e : Array Value → Sem Value), Extern.findNext fn = none → Extern.find fn = some e → (∀ w, (e (args.map ρ')).run P w = .ok u w) → ∀ w,
          (execOp ρ' ⟨dst, .call ⟨.value (.func f), args, argTypes⟩, ty, pos, after, guard⟩).run P w = .ok (.value u) w := by
        intro u e h1 h2 h3 w
        have hcf : (callFunc f (args.map ρ')).run P w = .ok (.value u) w := by
          have hn : ¬ (fn.name == "runtime.NumGoroutine") = true := by rw [hb.2]; simp
          simp only [callFunc, Sem.run_bind, run_program, Result.andThen_ok, hf, if_neg hn, hb.1, if_true, run_mark, h1, h2, h3 w, Sem.run_pure]
        show (do let d ← resolve ρ' ⟨.value (.func f), args, argTypes⟩ ty; invoke d.target d.args : Sem Next).run P w = _
        have e0 := hfun f
        simp only [resolve, e0, Deferred.ofValue, pure_bind, invoke, Array.empty_append, Array.append_empty]
        exact hcf
      cases hne : (fn.name == "internal/abi.NoEscape") with
      | true =>
        rw [hne, cond_true] at h
        obtain ⟨hs, h⟩ := bif_some h
        simp only [Bool.and_eq_true, Option.isNone_iff_eq_none] at hs
        obtain ⟨x, hx, rfl⟩ := option_map_some h
        have hr := hρ x (by simp [Op.operands, Call.operands, Array.mem_of_getElem? hx])
        refine ⟨ρ' x, hr, hcall _ _ hs.2 (noEscape_find (by simpa using hne)) fun w => ?_⟩
        have ea : args = #[x] := by
          have hsz := beq_true hs.1
          apply Array.ext
          · simpa using hsz
          · intro i h1 h2
            have : i = 0 := by omega
            subst this
            rw [Array.getElem?_eq_getElem h1] at hx
            simpa using hx
        rw [ea]
        have em : Array.map ρ' #[x] = #[ρ' x] := by simp
        rw [em]
        rfl
      | false =>
        rw [hne, cond_false] at h
        obtain ⟨hall, h⟩ := bif_some h
        cases h1 : Extern.findNext fn with
        | some _ => rw [h1] at h; cases h
        | none =>
        rw [h1] at h
        cases h2 : Extern.find fn with
        | none => rw [h2] at h; cases h
        | some e =>
        rw [h2] at h
        simp only at h
        obtain ⟨hv, hr⟩ := pureV_ok (φ := φ) h
        exact ⟨v, hv, hcall _ _ h1 h2 (by rw [hargs.bare_eq hall]; exact hr)⟩
end Go.Vi
