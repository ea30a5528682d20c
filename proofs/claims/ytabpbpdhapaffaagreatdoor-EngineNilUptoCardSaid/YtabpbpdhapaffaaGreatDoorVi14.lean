/-
  All that writes.
-/
import Derived.Test.YtabpbpdhapaffaaGreatDoorVi13
set_option linter.unusedSimpArgs false
set_option linter.unusedVariables false
namespace Go.Vi
variable {P : Program} {φ : Ren} {H K : AHeap} {w : World}

theorem HR.frozen (h : HR φ H w) (hf : Fresh φ H) {i b : Nat} {fl : Fl} {c : List Value} {e : TypeId} (n : Nat) (hi : H.objs.get i = some (.cells fl c e)) (hb : φ i = some b) (hw : fl.wr = true) :
    Leaves φ H w φ (H.set i (.cells .ro c e)) (w.freeze ⟨b, 0, none⟩ n) := by
  obtain ⟨cur, fr, g1, g2, _⟩ := h.row hi hb
  have hsz : (w.freeze ⟨b, 0, none⟩ n).heap.size = w.heap.size := by unfold World.freeze; split <;> simp
  have hk : ∀ k, k ≠ b → (w.freeze ⟨b, 0, none⟩ n).heap[k]? = w.heap[k]? := fun k hk => by
    unfold World.freeze; split
    · rfl
    · simp only [Array.getElem?_modify, if_neg (Ne.symm hk)]
  have hn : ∃ fr', (w.freeze ⟨b, 0, none⟩ n).heap[b]? = some (.cells cur e fr') := by
    obtain ⟨lo, hi⟩ := fr
    unfold World.freeze; split
    · exact ⟨_, g1⟩
    · simp only [Array.getElem?_modify, if_true, g1, Option.map_some]; exact ⟨_, rfl⟩
  obtain ⟨fr', hn⟩ := hn
  have ho : (w.freeze ⟨b, 0, none⟩ n).os = w.os ∧ (w.freeze ⟨b, 0, none⟩ n).tape = w.tape ∧ (w.freeze ⟨b, 0, none⟩ n).output = w.output := by unfold World.freeze; split <;> exact ⟨rfl, rfl, rfl⟩
  obtain ⟨r1, r2, r3⟩ := h.turn (ob1 := .cells .ro c e) hf hi hb (by exact hw) (.ro e fr' g2) (fun fl1 c1 e1 c1' fr1 h1 _ hs1 => by cases h1; exact absurd rfl hs1) hsz hk hn ho.1 ho.2.1 ho.2.2
  exact ⟨r1, r2, r3⟩

theorem uns_none (ts : Array TypeId) (ty : TypeId) (k : IntKind) (n : Int) : Builtin.unsafeString_ ts ty #[.pointer none, .int k n] = (do
    let n ← asInt (.int k n)
    let some _ := ts[0]? | stuck "unsafe.String: no argument types"
    if n < 0 then runtimePanic (.error "unsafe.String: len out of range")
    if n > IntKind.i64.max then unsupported (.unsafePointer "String: a length above the largest int")
    if n = 0 then pure (.string .empty)
    else runtimePanic (.error "unsafe.String: ptr is nil and len is not zero")) := rfl
theorem uns_some (ts : Array TypeId) (ty : TypeId) (k : IntKind) (n : Int) (a : Addr) : Builtin.unsafeString_ ts ty #[.pointer (some a), .int k n] = (do
    let n ← asInt (.int k n)
    let some pt := ts[0]? | stuck "unsafe.String: no argument types"
    if n < 0 then runtimePanic (.error "unsafe.String: len out of range")
    if n > IntKind.i64.max then unsupported (.unsafePointer "String: a length above the largest int")
    if n = 0 then pure (.string .empty)
    else if ← variablesAt a (← elemOf pt) n.toNat then do
      let s ← loadBytes a .empty n.toNat
      freeze a n.toNat
      pure (.string s)
    else unsupported (.unsafePointer "String: not so many bytes at ptr")) := rfl
theorem unsafeString_ok (h : HR φ H w) (hf : Fresh φ H) {argTypes : Array TypeId} {ty : TypeId} {vs : List Value} {args : Array Value} {v : Value} (hv : LR φ vs args.toList)
    (ha : unsafeStringA P H argTypes vs = some (v, K)) : ValOk P φ H w (Builtin.unsafeString_ argTypes ty args) v K := by
  have hmax : IntKind.i64.max = 9223372036854775807 := rfl
  unfold unsafeStringA at ha
  split at ha <;> try (cases ha; done)
  · rename_i k n d hu
    obtain ⟨t, ht, hu⟩ := bind_und hu
    obtain ⟨p', l', e1, r1, r2⟩ := hv.cons_inv
    obtain ⟨n', l'', rfl, r3, r4⟩ := r2.cons_inv
    rw [r4.nil_inv, r1.ptrNil_inv, r3.int_inv] at e1
    have ea : args = #[.pointer none, .int k n] := Array.ext' e1
    subst ea
    obtain ⟨hz, ha⟩ := bif_some ha
    simp only [decide_eq_true_eq] at hz; subst hz
    simp only [Option.some.injEq, Prod.mk.injEq] at ha
    obtain ⟨rfl, rfl⟩ := ha
    refine ValOk.same h hf (v' := .string .empty) ?_ (.string _)
    rw [uns_none]
    simp [asInt, asIntOf, hmax, ht]
  · rename_i a k n e hu
    obtain ⟨t, ht, hu⟩ := bind_und hu
    obtain ⟨p', l', e1, r1, r2⟩ := hv.cons_inv
    obtain ⟨n', l'', rfl, r3, r4⟩ := r2.cons_inv
    obtain ⟨b, hb, hsp, rfl⟩ := r1.ptr_inv
    rw [r4.nil_inv, r3.int_inv] at e1
    have ea : args = #[.pointer (some ⟨b, a.off, none⟩), .int k n] := Array.ext' e1
    subst ea
    cases hz : decide (n = 0) with
    | true =>
      rw [hz, cond_true] at ha
      simp only [decide_eq_true_eq] at hz; subst hz
      simp only [Option.some.injEq, Prod.mk.injEq] at ha
      obtain ⟨rfl, rfl⟩ := ha
      refine ValOk.same h hf (v' := .string .empty) ?_ (.string _)
      rw [uns_some]
      simp [asInt, asIntOf, hmax, ht]
    | false =>
      rw [hz, cond_false] at ha
      simp only [decide_eq_false_iff_not] at hz
      obtain ⟨i0, o0, s0⟩ := a
      simp only at hsp hb; subst hsp
      simp only at ha
      cases hi : H.objs.get i0 with
      | none => rw [hi] at ha; cases ha
      | some ob =>
      rw [hi] at ha
      cases ob <;> try (cases ha; done)
      rename_i fl c e'
      simp only at ha
      obtain ⟨hcond, ha⟩ := bif_some ha
      simp only [Bool.and_eq_true, decide_eq_true_eq] at hcond
      obtain ⟨⟨⟨⟨⟨c0, c1⟩, c2⟩, c3⟩, c4⟩, c5⟩ := hcond
      have c1 := okInt_spec c1; have c3 := beq_true c3; have c4 := beq_true c4; have c5 := beq_true c5
      subst c3; subst c4
      cases hl : H.cells? ⟨i0, 0, none⟩ n.toNat with
      | none => rw [hl] at ha; cases ha
      | some l =>
      rw [hl] at ha
      simp only [Option.bind_some] at ha
      obtain ⟨r, hr, ha⟩ := option_map_some ha
      simp only [Prod.mk.injEq] at ha
      obtain ⟨rfl, rfl⟩ := ha
      obtain ⟨l2, q1, q2, q3⟩ := h.cells hl hb
      obtain ⟨ns, rfl, rfl⟩ := bytesL_ok l r hr
      have hl2 := LR.ints q2
      subst hl2
      have hlen : ns.length = n.toNat := by simpa using q1
      obtain ⟨m, m1, m2, _⟩ := h.shape hi hb
      have hload : ∀ (ns : List Int) (a : Addr) (acc : ByteArray), (∀ j v, (ns.map (Value.int .u8))[j]? = some v → w.cell? (a.add j) = some v) → (loadBytes a acc ns.length).run P w = .ok ⟨acc.data ++ (ns.map fun n => UInt8.ofNat n.toNat).toArray⟩ w := by
        intro ns
        induction ns with
        | nil => intro a acc _; simp [loadBytes]
        | cons x ns ih =>
          intro a acc hc
          have h0 : w.cell? a = some (.int .u8 x) := by
            have := hc 0 (.int .u8 x) rfl
            simpa [Addr.add] using this
          have ih' := ih (a.add 1) (acc.push (x.toNat).toUInt8) (fun j y hy => by
            have := hc (j + 1) y (by simpa using hy)
            have e : (a.add 1).add j = a.add (j + 1) := by
              unfold Addr.add
              by_cases hj : j = 0
              · subst hj; simp
              · simp [hj]; omega
            rw [e]; exact this)
          simp only [List.length_cons, loadBytes, Sem.run_bind, run_load, h0, Result.andThen]
          rw [ih']
          congr 1
          apply ByteArray.ext
          simp [ByteArray.push]
      have hlb := hload ns ⟨b, 0, none⟩ .empty q3
      rw [hlen] at hlb
      have hnm : n.toNat ≤ m := by
        have h2 : H.cells? ⟨i0, 0, none⟩ n.toNat = some (ns.map (Value.int .u8)) := hl
        unfold AHeap.cells? at h2
        simp only [hi, List.drop_zero] at h2
        obtain ⟨hc, _⟩ := bif_some h2
        have := beq_true hc
        simp only [List.length_take] at this
        omega
      have hlies := Lib.liesAt_bytes (P := P) c5 (m / P.cellsOf e) n.toNat (by rw [c5]; simpa using hnm)
      refine ⟨φ, .string ⟨(ns.map fun n => UInt8.ofNat n.toNat).toArray⟩, _, ?_, h.frozen hf n.toNat hi hb c0, .string _⟩
      have t1 : ¬ n < 0 := by omega
      have t2 : ¬ 9223372036854775807 < n := by omega
      rw [uns_some]
      simp [asInt, asIntOf, hmax, ht, t1, t2, hz, elemOf, run_underlying hu, variablesAt, m1, hlies, hlb]

/-! ### All of it -/
theorem EffOk.of_val {s : Sem Value} {x : ANext} {v : Value} (hs : ValOk P φ H w s v K) (hx : x = .value v) : EffOk P φ H w (do pure (Next.value (← s))) x K := by
  subst hx
  obtain ⟨ψ, v', w', h1, h2, h3⟩ := hs
  exact EffOk.of_value h1 h2 h3
theorem asVal_some {y : Option (Value × AHeap)} {x : ANext} (h : asVal y = some (x, K)) : ∃ v, y = some (v, K) ∧ x = .value v := by
  unfold asVal at h
  obtain ⟨p, rfl, h⟩ := option_map_some h
  cases h
  exact ⟨p.1, rfl, rfl⟩
theorem getElem_map {ρ : Operand → Value} {args : Array Operand} {i : Nat} {v : Value} (h : (args.map ρ)[i]? = some v) : ∃ x, args[i]? = some x ∧ x ∈ args ∧ v = ρ x := by
  rw [Array.getElem?_map] at h
  obtain ⟨x, hx, rfl⟩ := option_map_some h
  exact ⟨x, hx, Array.mem_of_getElem? hx, rfl⟩

theorem mapUpdateA_ok (h : HR φ H w) (hf : Fresh φ H) {t : TypeId} {m m' k k' v v' : Value} {x : ANext} (hm : VR φ m m') (hk : VR φ k k') (hv : VR φ v v') (hx : mapUpdateA P H t m k v = some (x, K)) :
    EffOk P φ H w (do Instr.mapUpdate t m' k' v'; pure Next.skip) x K := by
  unfold mapUpdateA at hx
  split at hx <;> try (cases hx; done)
  rename_i kt et r hu
  split at hx <;> try (cases hx; done)
  rename_i es clock ho
  obtain ⟨hko, hx⟩ := bif_some hx
  have hxs : x = .skip := by
    cases hfk : findK P kt k es 0 with
    | none => rw [hfk] at hx; cases hx
    | some q =>
      rw [hfk] at hx
      cases q with
      | none => simp only [Option.some.injEq, Prod.mk.injEq] at hx; exact hx.1.symm
      | some p =>
        simp only at hx
        split at hx <;> try (cases hx; done)
        obtain ⟨_, hx⟩ := bif_some hx
        simp only [Option.some.injEq, Prod.mk.injEq] at hx; exact hx.1.symm
  subst hxs
  obtain ⟨w', r1, r2⟩ := mapUpdate_ok h hf hu hm hk hv ho hko hx
  refine ⟨φ, w', ?_, r2⟩
  simp only [Sem.run_bind, r1, Result.andThen_ok, Sem.run_pure]

theorem enterA_ok {s : Sem Next} {f : FuncId} {x : ANext} {args args' : Array Value} (ha : AR φ args args') (hx : enterA P H f args = some (x, K)) (hs : s.run P w = (callFunc f args').run P w) : EffOk P φ H w s x K := by
  unfold enterA at hx
  cases hfn : P.funcs[f]? with
  | none => rw [hfn] at hx; cases hx
  | some fn =>
  rw [hfn] at hx
  simp only at hx
  obtain ⟨hc, hx⟩ := bif_some hx
  simp only [Bool.and_eq_true, Bool.not_eq_true'] at hc
  simp only [Option.some.injEq, Prod.mk.injEq] at hx
  obtain ⟨rfl, rfl⟩ := hx
  refine ⟨rfl, args', ha, ?_, fn, hfn, hc.1⟩
  obtain ⟨c, hb⟩ := Option.isSome_iff_exists.1 hc.1
  have hn : ¬ (fn.name = "runtime.NumGoroutine") := by simpa using hc.2
  rw [hs]
  simp [callFunc, hfn, hn, hb]

theorem methodA_ok {t : TypeId} {name : String} {f : FuncId} (h : methodA P t name = some f) (v : Value) (n : Nat) (w : World) : (method (n + 1) t v name).run P w = .ok (f, v) w := by
  unfold methodA at h
  cases hi : P.info? t with
  | none => rw [hi] at h; cases h
  | some i =>
  rw [hi] at h
  simp only at h
  cases hm : i.methods.find? (·.name == name) with
  | none => rw [hm] at h; cases h
  | some m =>
  rw [hm] at h
  simp only at h
  split at h <;> try (cases h; done)
  rename_i g pr d hf hp hd
  have hres : ((∃ e, d = .pointer e) ∧ pr = true ∨ (∀ e, d ≠ .pointer e) ∧ pr = false) ∧ g = f := by
    split at h <;> first
      | (cases h; done)
      | (simp only [Option.some.injEq] at h; subst h; exact ⟨.inl ⟨⟨_, rfl⟩, rfl⟩, rfl⟩)
      | (simp only [Option.some.injEq] at h; subst h; rename_i h1 _; exact ⟨.inr ⟨fun e he => by subst he; simp_all, rfl⟩, rfl⟩)
  obtain ⟨hres, rfl⟩ := hres
  have hrec : ∀ wr, (receiverAt t (.val v) pr wr).run P w = .ok v w := by
    intro wr
    rcases hres with ⟨⟨e, rfl⟩, rfl⟩ | ⟨hne, rfl⟩
    · simp only [receiverAt, Sem.run_bind, und_run hd, Result.andThen_ok, Place.get, Sem.run_pure]
    · cases d <;> first | (exact absurd rfl (hne _)) | simp only [receiverAt, Sem.run_bind, und_run hd, Result.andThen_ok, Place.get, Sem.run_pure]
  simp only [method, Sem.run_bind, info_run hi, Result.andThen_ok, hm, hp, follow, Sem.run_pure, hf, hrec]

theorem callValueA_ok {g g' : Value} {args args' : Array Value} {x : ANext} (hg : VR φ g g') (ha : AR φ args args') (hx : callValueA P H g args = some (x, K)) :
    EffOk P φ H w (do let d ← Deferred.ofValue g' args'; invoke d.target d.args) x K := by
  unfold callValueA at hx
  split at hx <;> try (cases hx; done)
  · rename_i f first captured
    obtain ⟨f', x1, y1, rfl, hfn, h1, h2⟩ := hg.func_inv
    cases hfn
    exact enterA_ok ((h1.append ha).append h2) hx rfl
  · rename_i l first captured
    obtain ⟨f', x1, y1, rfl, hfn, h1, h2⟩ := hg.func_inv
    cases hfn
    rename_i b hb
    obtain ⟨hc, hx⟩ := bif_some hx
    simp only [Bool.and_eq_true] at hc
    have c1 := beq_true hc.1
    simp only [Option.some.injEq, Prod.mk.injEq] at hx
    obtain ⟨rfl, rfl⟩ := hx
    have e1 : x1 = #[] := Array.eq_empty_of_size_eq_zero (by rw [← h1.size]; exact c1)
    subst e1
    refine ⟨rfl, b, args', hb, ha, ?_⟩
    show (Instr.yield b (#[] ++ args')).run P w = _
    rw [Array.empty_append]

theorem callInvokeA_ok {recv recv' : Value} {name : String} {args args' : Array Value} {x : ANext} (hg : VR φ recv recv') (ha : AR φ args args') (hx : callInvokeA P H recv name args = some (x, K)) :
    EffOk P φ H w (do let d ← (pure { target := .fn (.method name) #[], args := #[recv'] ++ args' } : Sem Deferred); invoke d.target d.args) x K := by
  unfold callInvokeA at hx
  split at hx <;> try (cases hx; done)
  rename_i t v
  obtain ⟨u, rfl, hu⟩ := hg.iface_inv
  cases hm : methodA P t name with
  | none => rw [hm] at hx; cases hx
  | some f =>
  rw [hm] at hx
  simp only at hx
  refine enterA_ok ((AR.one hu).append ha) hx ?_
  have h1 : (#[Value.iface t u] ++ args')[0]? = some (Value.iface t u) := by
    rw [← Array.getElem?_toList, Array.toList_append]; rfl
  have h2 : (#[Value.iface t u] ++ args').extract 1 (#[Value.iface t u] ++ args').size = args' := by
    apply Array.ext'
    simp [Array.toList_extract, List.extract]
  have hmt := methodA_ok hm u (P.types.size + Made.depth - 1) w
  have h3 : 0 < Made.depth := by decide
  have hd : P.types.size + Made.depth - 1 + 1 = P.types.size + Made.depth := by omega
  rw [hd] at hmt
  simp only [Sem.run_bind, Sem.run_pure, Result.andThen_ok, invoke, h1, h2, callMethod, run_program, hmt]

theorem builtinA_ok (h : HR φ H w) (hf : Fresh φ H) {b : Builtin} {ts : Array TypeId} {ty : TypeId} {cs : Array Bool} {vs vs' : Array Value} {v : Value} (hv : AR φ vs vs') (hx : builtinA P H b ts vs = some (v, K)) :
    EffOk P φ H w (builtin b ts ty cs vs') (.value v) K := by
  have hget : ∀ {i : Nat} {u : Value}, vs[i]? = some u → ∃ u', vs'[i]? = some u' ∧ VR φ u u' := fun e => hv.get? e
  cases b <;> simp only [builtinA] at hx <;> try (cases hx; done)
  case append =>
    split at hx <;> try (cases hx; done)
    rename_i s x h0 h1
    obtain ⟨s', g0, r0⟩ := hget h0
    obtain ⟨x', g1, r1⟩ := hget h1
    exact .of_val (append_ok h hf r0 r1 g0 g1 hx) rfl
  case clear =>
    split at hx <;> try (cases hx; done)
    rename_i x h0
    obtain ⟨s', g0, r0⟩ := hget h0
    exact .of_val (clear_ok h hf r0 g0 hx) rfl
  case copy =>
    split at hx <;> try (cases hx; done)
    rename_i s x h0 h1
    obtain ⟨s', g0, r0⟩ := hget h0
    obtain ⟨x', g1, r1⟩ := hget h1
    exact .of_val (copy_ok h hf r0 r1 g0 g1 hx) rfl
  case delete =>
    split at hx <;> try (cases hx; done)
    rename_i s x h0 h1
    obtain ⟨s', g0, r0⟩ := hget h0
    obtain ⟨x', g1, r1⟩ := hget h1
    exact .of_val (deleteA_ok h hf r0 r1 g0 g1 hx) rfl
  case unsafeString => exact .of_val (unsafeString_ok h hf hv hx) rfl

theorem effOp_ok (h : HR φ H w) (hf : Fresh φ H) {ρ ρ' : Operand → Value} {o : Oper} {x : ANext} (hρ : ∀ x ∈ o.op.operands, VR φ (ρ x) (ρ' x)) (hr : effOp P H ρ o = some (x, K)) :
    EffOk P φ H w (execOp ρ' o) x K := by
  obtain ⟨dst, op, ty, pos, after, guard⟩ := o
  simp only at hρ
  cases op <;> simp only [effOp] at hr <;> try (cases hr; done)
  case store t a y =>
    have hy := hρ y (by simp [Op.operands])
    have ha := hρ a (by simp [Op.operands])
    cases hv : ρ a <;> rw [hv] at hr ha <;> (try simp only at hr) <;> try (cases hr; done)
    rename_i a0
    cases a0 with
    | none => cases hr
    | some a0 =>
    obtain ⟨K', hst, hr⟩ := option_map_some hr
    simp only [Prod.mk.injEq] at hr
    obtain ⟨rfl, rfl⟩ := hr
    obtain ⟨w', r1, r2⟩ := storeV_ok (P := P) h hf ha hy hst
    refine ⟨φ, w', ?_, r2⟩
    simp only [execOp, Sem.run_bind, r1, Result.andThen_ok, Sem.run_pure]
  case mapUpdate t m k y => exact mapUpdateA_ok h hf (hρ m (by simp [Op.operands])) (hρ k (by simp [Op.operands])) (hρ y (by simp [Op.operands])) hr
  case insert t m k y => exact mapUpdateA_ok h hf (hρ m (by simp [Op.operands])) (hρ k (by simp [Op.operands])) (hρ y (by simp [Op.operands])) hr
  case convert src dst' y =>
    have hy := hρ y (by simp [Op.operands])
    obtain ⟨v, hq, e⟩ := asVal_some hr
    exact .of_val (convSlice_ok h hf hy hq) e
  case range t y =>
    have hy := hρ y (by simp [Op.operands])
    obtain ⟨v, hq, e⟩ := asVal_some hr
    exact .of_val (range_ok h hf hy hq) e
  case next it isString =>
    have hy := hρ it (by simp [Op.operands])
    obtain ⟨v, hq, e⟩ := asVal_some hr
    exact .of_val (next_ok h hf hy hq) e
  case call c =>
    obtain ⟨callee, args, ts⟩ := c
    have hargs : AR φ (args.map ρ) (args.map ρ') := AR.map fun x hx => hρ x (by simp [Op.operands, Call.operands, hx])
    cases callee with
    | builtin b =>
      obtain ⟨v, hq, rfl⟩ := asVal_some hr
      exact builtinA_ok h hf hargs hq
    | value g => exact callValueA_ok (hρ g (by simp [Op.operands, Call.operands])) hargs hr
    | invoke recv name => exact callInvokeA_ok (hρ recv (by simp [Op.operands, Call.operands])) hargs hr
end Go.Vi
