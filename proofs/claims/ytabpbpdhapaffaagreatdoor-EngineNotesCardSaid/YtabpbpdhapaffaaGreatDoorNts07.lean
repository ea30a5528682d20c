/-
  EngineNotes returns true whatever the notes and what stands between them, part 7: GrA16, GrA17. Conditions: none but those of the row.
-/
import Derived.Test.YtabpbpdhapaffaaGreatDoorNts06
set_option linter.unusedSimpArgs false
set_option linter.unusedVariables false
section
namespace Go.Vi
section
variable {P : Program} {φ ψ : Ren} {H K : AHeap} {w : World}

theorem wpIn_any {ro : Option Nat} {n n' : Nat} {c : Code} {Q : Exit → Act → World → Prop} {a : Act} (h : c.wpIn (FW ro) n P Q a w) : c.wpIn (FW ro) n' P Q a w :=
  fun b k cs h1 h2 _ => h b k cs h1 h2 (fun d hd => by cases hd)

theorem endRound_run {b : Nat} {r : Loop} (h : w.heap[b]? = some (.loop r)) (jump : Option Code) :
    (Instr.endRound b jump).run P w = .ok (.bool jump.isNone) { w with heap := w.heap.setIfInBounds b (.loop { r with state := if jump.isNone then .ready else .done, pending := jump }) } := by
  simp only [Instr.endRound, Sem.run_bind, getLoop_run h, Result.andThen_ok, setObj_run h (fun _ _ _ e => by cases e), Sem.run_pure]

theorem HR.setLoop (h : HR φ H w) (hf : Fresh φ H) {i b : Nat} {st : LoopState} {pend : Option Code} {tm : T Value} {n : Nat} {ps : Array Tmp} {assign body : Code} {d : Nat} (st' : LoopState) (pend' : Option Code)
    (hi : H.objs.get i = some (.loop st pend tm n ps assign body d)) (hb : φ i = some b) {r : Loop} (hr : w.heap[b]? = some (.loop r)) :
    Leaves φ H w φ (H.set i (.loop st' pend' tm n ps assign body d)) { w with heap := w.heap.setIfInBounds b (.loop { r with state := st', pending := pend' }) } := by
  obtain ⟨fn, tmps, bd, h1, h2, h3, h4⟩ := h.loopObj hi hb
  rw [hr] at h1
  cases h1
  subst h3
  exact h.setOther hf hi hb hr rfl (.loop h2 h4) (fun _ _ _ e => by cases e)

theorem roundS_ok {L : Lev} (hL : LevOk P L) {ro : Option Nat} {l b nn : Nat} {args args' : Array Value} {v : Value} (h : HR φ H w) (hf : Fresh φ H) (hb : φ l = some b) (ha : AR φ args args') (hx : roundS L l args H = some (v, K)) :
    ∃ fn tmps assign body, (Instr.yield b args').run P w = .ok (.round b fn tmps assign body) w ∧ RoundIn (FW ro) nn P b fn tmps assign body w (RetOk φ H w v K) := by
  unfold roundS at hx
  cases ho : H.objs.get l with
  | none => rw [ho] at hx; cases hx
  | some ob =>
  rw [ho] at hx
  cases ob <;> try (cases hx; done)
  rename_i st0 pend0 tm0 n ps assign body d0
  simp only at hx
  obtain ⟨hsz, hx⟩ := bif_some hx
  have hsz := beq_true hsz
  cases hp : paramsT n (ps.toList.zip args.toList) tm0 with
  | none => rw [hp] at hx; cases hx
  | some tm1 =>
  rw [hp] at hx
  simp only at hx
  obtain ⟨fn, tmps, bd, h1, h2, h3, h4⟩ := h.loopObj ho hb
  obtain ⟨p1, p2⟩ := params_ok ps.toList args.toList args'.toList tm0 tm1 tmps h2 h3 ha hp
  refine ⟨fn, (ps.zip args').foldl (fun (tmps : Array Value) (x : Tmp × Value) => tmps.setIfInBounds x.1 x.2) tmps, assign, body, ?_, ?_⟩
  · have hs' : ¬ args'.size ≠ ps.size := by rw [← ha.size, hsz]; simp
    simp only [Instr.yield, Sem.run_bind, getLoop_run h1, Result.andThen_ok, hs', if_false, Sem.run_pure]
  · rw [← foldl_zip] at p1 p2
    refine roundIn_of_wpIn trivial ?_
    cases hc : L.code (some l) n assign ⟨tm1, [], H⟩ with
    | none => rw [hc] at hx; cases hx
    | some q =>
    obtain ⟨e1, st1⟩ := q
    rw [hc] at hx
    cases e1 <;> try (cases hx; done)
    simp only at hx
    have hs0 : SR P φ n ⟨tm1, [], H⟩ { tmps := (ps.zip args').foldl (fun (tmps : Array Value) (x : Tmp × Value) => tmps.setIfInBounds x.1 x.2) tmps, defers := [] } w := ⟨h, hf, p1, p2, .nil⟩
    refine wpIn_any (wpIn_mono (hL.code hc (.some hb) hs0) ?_)
    rintro x a1 w1 ⟨hxr, ψ, hs1, hg1⟩
    cases hxr
    show ∃ w₂, _
    cases hob : st1.h.objs.get l with
    | none => rw [hob] at hx; cases hx
    | some ob1 =>
    rw [hob] at hx
    cases ob1 <;> try (cases hx; done)
    rename_i s2 pend tm' n' ps' as' bo' d
    cases s2 <;> try (cases hx; done)
    simp only at hx
    have hb1 : ψ l = some b := hg1.ren.1 _ _ hb
    obtain ⟨fn1, tmps1, bd1, g1, g2, g3, g4⟩ := hs1.hr.loopObj hob hb1
    have hset := hs1.hr.setLoop hs1.fresh .busy pend hob hb1 g1
    refine ⟨{ w1 with heap := w1.heap.setIfInBounds b (.loop { state := .busy, pending := pend, fn := fn1, tmps := tmps1, params := ps', assign := as', body := bo', defers := bd1 }) }, ?_, ?_⟩
    · simp only [Instr.beginRound, Sem.run_bind, getLoop_run g1, Result.andThen_ok, setObj_run g1 (fun _ _ _ e => by cases e), Sem.run_pure]
    · cases hbd : L.code (some l) n body { st1 with h := st1.h.set l (.loop .busy pend tm' n' ps' as' bo' d) } with
      | none => rw [hbd] at hx; cases hx
      | some q2 =>
      obtain ⟨e2, st2⟩ := q2
      rw [hbd] at hx
      simp only at hx
      have hs2 : SR P ψ n { st1 with h := st1.h.set l (.loop .busy pend tm' n' ps' as' bo' d) } a1 { w1 with heap := w1.heap.setIfInBounds b (.loop { state := .busy, pending := pend, fn := fn1, tmps := tmps1, params := ps', assign := as', body := bo', defers := bd1 }) } :=
        ⟨hset.hr, hset.fresh, hs1.tr, hs1.size, hs1.ds⟩
      refine wpIn_any (wpIn_mono (hL.code hbd (.some hb1) hs2) ?_)
      rintro x a2 w2 ⟨hxr2, χ, hs3, hg3⟩
      have hb2 : χ l = some b := hg3.ren.1 _ _ hb1
      cases hob2 : st2.h.objs.get l with
      | none => rw [hob2] at hx; cases hx
      | some ob2 =>
      rw [hob2] at hx
      cases ob2 <;> try (cases hx; done)
      rename_i s3 pend3 tm3 n3 ps3 as3 bo3 d3
      obtain ⟨fn2, tmps2, bd2, k1, k2, k3, k4⟩ := hs3.hr.loopObj hob2 hb2
      have hgo : Goes φ H w χ st2.h w2 := hg1.trans (hset.goes.trans hg3)
      cases hxr2 <;> simp only [Option.some.injEq, Prod.mk.injEq] at hx <;> obtain ⟨rfl, rfl⟩ := hx
      · have hl := hs3.hr.setLoop hs3.fresh .ready none hob2 hb2 k1
        exact ⟨_, _, endRound_run k1 none, χ, .bool true, hl.hr, hl.fresh, hgo.trans hl.goes⟩
      · rename_i id
        have hl := hs3.hr.setLoop hs3.fresh .done (some (.exit id)) hob2 hb2 k1
        exact ⟨_, _, endRound_run k1 _, χ, .bool false, hl.hr, hl.fresh, hgo.trans hl.goes⟩
      · rename_i t
        have hl := hs3.hr.setLoop hs3.fresh .done (some (.goto t)) hob2 hb2 k1
        exact ⟨_, _, endRound_run k1 _, χ, .bool false, hl.hr, hl.fresh, hgo.trans hl.goes⟩
      · have hl := hs3.hr.setLoop hs3.fresh .done (some .ret) hob2 hb2 k1
        exact ⟨_, _, endRound_run k1 _, χ, .bool false, hl.hr, hl.fresh, hgo.trans hl.goes⟩

/-! ### One operation -/
theorem not_defer {ρ : Operand → Value} {o : Oper} {x : Kind × ANext × AHeap} (h : aOper P H ρ o = some x) (c : Call) : o.op ≠ .defer c := by
  intro e
  unfold aOper pureOp readOp newOp effOp at h
  rw [e] at h
  cases h
theorem pureOk_upon {n : Nat} {ro : Option Nat} {o : Oper} {a : Act} {Kc : Act → World → Prop} {Q : Exit → Act → World → Prop} (hnd : ∀ c, o.op ≠ .defer c) {v' : Value} {w' : World}
    (hs : (execOp a.eval o).run P w = .ok (.value v') w') (hk : Kc (a.put o.dst v') w') : o.wpIn (FW ro) n P a w Kc Q := by
  refine ⟨fun _ _ => trivial, ?_⟩
  rw [Oper.semAt_eq _ _ _ hnd, hs]
  exact hk

theorem operS_ok {L : Lev} (hL : LevOk P L) {ro : Option Nat} {nn i : Nat} {ops : Array Oper} {o : Oper} {st : St} {a : Act} {kk : Option Kind} {v : Value} {Kc : Act → World → Prop} {Q : Exit → Act → World → Prop}
    (hi : ops[i]? = some o) (h : HR φ st.h w) (hf : Fresh φ st.h) (hw : Region.wanted o (yielded ops a.tmps) = Region.wanted o (aYielded ops st.tm))
    (hρ : ∀ x ∈ o.op.operands, okOperand st.h.gl x = true → VR φ (aEval st.h.gl st.tm x) (a.eval x)) (hx : operS P L ops o st = some (kk, v, K))
    (hk : ∀ ψ v' w', VR ψ v v' → Leaves φ st.h w ψ K w' → Kc (a.put o.dst v') w') : wpOpIn (FW ro) nn P ops Q i Kc a w := by
  unfold wpOpIn
  simp only [hi]
  unfold operS at hx
  rw [hw]
  cases hwant : Region.wanted o (aYielded ops st.tm) with
  | false =>
    rw [hwant, cond_false] at hx
    simp only [Option.some.injEq, Prod.mk.injEq] at hx
    obtain ⟨rfl, rfl, rfl⟩ := hx
    simp only [Bool.false_eq_true, if_false]
    exact ⟨fun _ _ => trivial, hk φ Go.undef w (VR.undef φ) (Leaves.same h hf)⟩
  | true =>
    rw [hwant, cond_true] at hx
    simp only [if_true]
    obtain ⟨hok, hx⟩ := bif_some hx
    have hρ' : ∀ x ∈ o.op.operands, VR φ (aEval st.h.gl st.tm x) (a.eval x) := fun x hx => hρ x hx (List.all_eq_true.1 hok x (by simpa using hx))
    cases hop : aOper P st.h (aEval st.h.gl st.tm) o with
    | none => rw [hop] at hx; cases hx
    | some q =>
    obtain ⟨k, x, H1⟩ := q
    rw [hop] at hx
    have hnd := not_defer hop
    unfold aOper at hop
    cases h1 : pureOp P (aEval st.h.gl st.tm) o with
    | some u =>
      rw [h1] at hop
      simp only [Option.some.injEq, Prod.mk.injEq] at hop
      obtain ⟨rfl, rfl, rfl⟩ := hop
      simp only [Option.some.injEq, Prod.mk.injEq] at hx
      obtain ⟨rfl, rfl, rfl⟩ := hx
      obtain ⟨v', r1, r2⟩ := pureOp_ok (P := P) (fun f => rfl) hρ' h1
      exact pureOk_upon hnd (r2 w) (hk φ v' w r1 (Leaves.same h hf))
    | none =>
    rw [h1] at hop
    simp only at hop
    cases h2 : readOp P st.h (aEval st.h.gl st.tm) o with
    | some u =>
      rw [h2] at hop
      simp only [Option.some.injEq, Prod.mk.injEq] at hop
      obtain ⟨rfl, rfl, rfl⟩ := hop
      simp only [Option.some.injEq, Prod.mk.injEq] at hx
      obtain ⟨rfl, rfl, rfl⟩ := hx
      obtain ⟨v', r1, r2⟩ := readOp_ok h hρ' h2
      exact pureOk_upon hnd r2 (hk φ v' w r1 (Leaves.same h hf))
    | none =>
    rw [h2] at hop
    simp only at hop
    cases h3 : newOp P (aEval st.h.gl st.tm) o with
    | some u =>
      obtain ⟨ob, kv⟩ := u
      rw [h3] at hop
      simp only [Option.some.injEq, Prod.mk.injEq] at hop
      obtain ⟨rfl, rfl, rfl⟩ := hop
      simp only [Option.some.injEq, Prod.mk.injEq] at hx
      obtain ⟨rfl, rfl, rfl⟩ := hx
      obtain ⟨o', v', w1, n1, r1, r2, r3, r4, r5, r6, r7, r8⟩ := newOp_ok hρ' h3 w
      obtain ⟨s1, s2, s3⟩ := h.push hf r6 r7 r2 r3 r4 r5
      exact pureOk_upon hnd r1 (hk _ v' w1 (r8 st.h.next) ⟨s1, s2, s3⟩)
    | none =>
    rw [h3] at hop
    simp only at hop
    cases h4 : effOp P st.h (aEval st.h.gl st.tm) o with
    | none => rw [h4] at hop; cases hop
    | some u =>
    obtain ⟨y, K1⟩ := u
    rw [h4] at hop
    simp only [Option.some.injEq, Prod.mk.injEq] at hop
    obtain ⟨rfl, rfl, rfl⟩ := hop
    have heff := effOp_ok h hf hρ' h4
    cases y with
    | value u =>
      simp only [Option.some.injEq, Prod.mk.injEq] at hx
      obtain ⟨rfl, rfl, rfl⟩ := hx
      obtain ⟨ψ, v', w', r1, r2, r3⟩ := heff
      exact pureOk_upon hnd r1 (hk ψ v' w' r3 r2)
    | skip =>
      simp only [Option.some.injEq, Prod.mk.injEq] at hx
      obtain ⟨rfl, rfl, rfl⟩ := hx
      obtain ⟨ψ, w', r1, r2⟩ := heff
      refine ⟨fun _ _ => trivial, ?_⟩
      rw [Oper.semAt_eq _ _ _ hnd, r1]
      exact hk ψ Go.undef w' (VR.undef ψ) r2
    | enter f args =>
      obtain ⟨rfl, args', r1, r2, _⟩ := heff
      simp only at hx
      cases hc : L.call f args st.h with
      | none => rw [hc] at hx; cases hx
      | some q =>
      obtain ⟨u, K2⟩ := q
      rw [hc] at hx
      simp only [Option.some.injEq, Prod.mk.injEq] at hx
      obtain ⟨rfl, rfl, rfl⟩ := hx
      refine ⟨fun _ _ => trivial, ?_⟩
      rw [Oper.semAt_eq _ _ _ hnd, r2]
      refine ⟨fun hd => (by cases hd), CallsIn.mono (callsIn_any (hL.call hc r1 h hf)) ?_⟩
      intro e w' he
      cases e with
      | returned v' => obtain ⟨ψ, q1, q2⟩ := he; exact hk ψ v' w' q1 q2
      | panicked _ => exact he.elim
      | outgrown => exact he.elim
    | round l args =>
      obtain ⟨rfl, b, args', hb, r1, r2⟩ := heff
      simp only at hx
      cases hc : roundS L l args st.h with
      | none => rw [hc] at hx; cases hx
      | some q =>
      obtain ⟨u, K2⟩ := q
      rw [hc] at hx
      simp only [Option.some.injEq, Prod.mk.injEq] at hx
      obtain ⟨rfl, rfl, rfl⟩ := hx
      obtain ⟨fn, tmps, assign, body, y1, y2⟩ := roundS_ok (P := P) (ro := ro) (nn := nn - 1) hL h hf hb r1 hc
      refine ⟨fun _ _ => trivial, ?_⟩
      rw [Oper.semAt_eq _ _ _ hnd, r2, y1]
      refine ⟨fun hd => (by cases hd), RoundIn.mono y2 ?_⟩
      intro e w' he
      cases e with
      | returned v' => obtain ⟨ψ, q1, q2⟩ := he; exact hk ψ v' w' q1 q2
      | panicked _ => exact he.elim
      | outgrown => exact he.elim

theorem SR.step {n : Nat} {st : St} {a : Act} {w' : World} {dst : Option Tmp} {v v' : Value} {tm' : T Value} (hs : SR P φ n st a w) (hl : Leaves φ st.h w ψ K w') (hv : VR ψ v v') (hp : putT n st.tm dst v = some tm') :
    SR P ψ n { st with tm := tm', h := K } (a.put dst v') w' :=
  ⟨hl.hr, hl.fresh, TR.put (hs.tr.mono hl.goes.ren) hs.size hv hp, by rw [put_size]; exact hs.size, by rw [put_defers]; exact hs.ds.mono hl.goes.ren⟩

/-- A region in the text's order. -/
theorem opsS_ok {L : Lev} (hL : LevOk P L) {ro : Option Nat} {nn n : Nat} {ops : Array Oper} {Q : Exit → Act → World → Prop} : ∀ (rest : List Oper) (i : Nat) (st st' : St) (φ : Ren) (a : Act) (w : World), rest = ops.toList.drop i →
    opsS P L n ops rest st = some st' → SR P φ n st a w → (∀ ψ a' w', SR P ψ n st' a' w' → Goes φ st.h w ψ st'.h w' → Q .normal a' w') → wpOpsIn (FW ro) nn P ops Q (List.range' i rest.length) a w
  | [], i, st, st', φ, a, w, _, hx, hs, hQ => by
    simp only [opsS, Option.some.injEq] at hx; subst hx
    exact hQ φ a w hs (Goes.refl _ _ _)
  | o :: rest, i, st, st', φ, a, w, hr, hx, hs, hQ => by
    have hlt : i < ops.toList.length := by
      rcases Nat.lt_or_ge i ops.toList.length with h | h
      · exact h
      · rw [List.drop_eq_nil_of_le h] at hr; cases hr
    rw [List.drop_eq_getElem_cons hlt] at hr
    simp only [List.cons.injEq] at hr
    obtain ⟨ho, hrest⟩ := hr
    have hi : ops[i]? = some o := by
      rw [← Array.getElem?_toList, List.getElem?_eq_getElem hlt, ← ho]
    simp only [opsS] at hx
    cases hop : operS P L ops o st with
    | none => rw [hop] at hx; cases hx
    | some q =>
    obtain ⟨kk, v, K⟩ := q
    rw [hop] at hx
    simp only at hx
    cases hp : putT n st.tm o.dst v with
    | none => rw [hp] at hx; cases hx
    | some tm' =>
    rw [hp] at hx
    simp only at hx
    show wpOpsIn (FW ro) nn P ops Q (i :: List.range' (i + 1) rest.length) a w
    rw [wpOpsIn_cons]
    refine operS_ok hL hi hs.hr hs.fresh (wanted_eq hs.tr ops o) (fun x _ hx => eval_ok hs.hr.glob hs.tr hx) hop ?_
    intro ψ v' w' hv hl
    refine opsS_ok hL rest (i + 1) _ st' ψ _ w' hrest hx (hs.step hl hv hp) ?_
    intro χ a2 w2 h2 g2
    exact hQ χ a2 w2 h2 (hl.goes.trans g2)
/-- A region in the text's order, 'defer' among its operations. -/
theorem opsD_ok {L : Lev} (hL : LevOk P L) {nn n : Nat} {ops : Array Oper} {Q : Exit → Act → World → Prop} : ∀ (rest : List Oper) (i : Nat) (st st' : St) (φ : Ren) (a : Act) (w : World), rest = ops.toList.drop i →
    opsD P L n ops rest st = some st' → SR P φ n st a w → (∀ ψ a' w', SR P ψ n st' a' w' → Goes φ st.h w ψ st'.h w' → Q .normal a' w') → wpOpsIn (FW none) nn P ops Q (List.range' i rest.length) a w
  | [], i, st, st', φ, a, w, _, hx, hs, hQ => by
    simp only [opsD, Option.some.injEq] at hx; subst hx
    exact hQ φ a w hs (Goes.refl _ _ _)
  | o :: rest, i, st, st', φ, a, w, hr, hx, hs, hQ => by
    have hlt : i < ops.toList.length := by
      rcases Nat.lt_or_ge i ops.toList.length with h | h
      · exact h
      · rw [List.drop_eq_nil_of_le h] at hr; cases hr
    rw [List.drop_eq_getElem_cons hlt] at hr
    simp only [List.cons.injEq] at hr
    obtain ⟨ho, hrest⟩ := hr
    have hi : ops[i]? = some o := by
      rw [← Array.getElem?_toList, List.getElem?_eq_getElem hlt, ← ho]
    show wpOpsIn (FW none) nn P ops Q (i :: List.range' (i + 1) rest.length) a w
    rw [wpOpsIn_cons]
    have plain : ∀ {q : Option St}, (match operS P L ops o st with
        | some (_, v, h) => match putT n st.tm o.dst v with
          | some tm => opsD P L n ops rest { st with tm, h }
          | none => none
        | none => none) = q → q = some st' → wpOpIn (FW none) nn P ops Q i (wpOpsIn (FW none) nn P ops Q (List.range' (i + 1) rest.length)) a w := by
      intro q hq hx
      subst hx
      cases hop : operS P L ops o st with
      | none => rw [hop] at hq; cases hq
      | some q =>
      obtain ⟨kk, v, K⟩ := q
      rw [hop] at hq
      simp only at hq
      cases hp : putT n st.tm o.dst v with
      | none => rw [hp] at hq; cases hq
      | some tm' =>
      rw [hp] at hq
      simp only at hq
      refine operS_ok hL hi hs.hr hs.fresh (wanted_eq hs.tr ops o) (fun x _ hx => eval_ok hs.hr.glob hs.tr hx) hop ?_
      intro ψ v' w' hv hl
      refine opsD_ok hL rest (i + 1) _ st' ψ _ w' hrest hq (hs.step hl hv hp) ?_
      intro χ a2 w2 h2 g2
      exact hQ χ a2 w2 h2 (hl.goes.trans g2)
    rw [opsD] at hx
    cases hc : o.op <;> simp only [hc] at hx <;> try exact plain hx rfl
    rename_i c
    obtain ⟨hw, hx⟩ := bif_some hx
    rw [Bool.and_eq_true] at hw
    obtain ⟨hw, hd⟩ := hw
    cases hp : putT n st.tm o.dst Go.undef with
    | none => rw [hp] at hx; cases hx
    | some tm' =>
    rw [hp] at hx
    simp only at hx
    unfold deferS at hd
    cases hcal : c.callee with
    | builtin b => rw [hcal] at hd; cases hd
    | invoke r m => rw [hcal] at hd; cases hd
    | value x =>
    rw [hcal] at hd
    simp only [Bool.and_eq_true] at hd
    obtain ⟨hox, hd⟩ := hd
    have hv := eval_ok (φ := φ) (gl := st.h.gl) hs.hr.glob hs.tr hox
    cases hev : aEval st.h.gl st.tm x <;> rw [hev] at hd hv <;> try (cases hd; done)
    rename_i fn first captured
    cases fn <;> try (cases hd; done)
    rename_i f
    simp only at hd
    cases hq : L.quiet f with
    | none => rw [hq] at hd; cases hd
    | some m =>
    rw [hq] at hd
    simp only at hd
    have hm := beq_true hd
    generalize hgv : a.eval x = gv at hv
    cases hv with
    | @func _ f' _ _ x' y' hf hx1 hx2 hy1 hy2 =>
    cases hf
    have hrun : (Oper.semAt (FW none).round a.eval o).run P w = .ok (.defer { target := .fn (.func f) y', args := x' ++ c.args.map a.eval }) w := by
      show (execOp a.eval o).run P w = _
      unfold execOp
      rw [hc]
      simp only [resolve, hcal, hgv, Deferred.ofValue, Sem.run_bind, Sem.run_pure, Result.andThen_ok]
    unfold wpOpIn
    simp only [hi]
    rw [wanted_eq hs.tr ops o, hw]
    simp only [if_true]
    refine ⟨fun _ _ => trivial, ?_⟩
    rw [hrun, Oper.uponIn_defer]
    have hqd : QuietD P { target := .fn (.func f) y', args := x' ++ c.args.map a.eval } :=
      ⟨f, y', m, rfl, by simp only [Array.size_append, Array.size_map]; omega, hL.quiet hq⟩
    have hs1 : SR P φ n st { a with defers := { target := .fn (.func f) y', args := x' ++ c.args.map a.eval } :: a.defers } w :=
      ⟨hs.hr, hs.fresh, hs.tr, hs.size, .quiet hqd hs.ds⟩
    refine opsD_ok hL rest (i + 1) _ st' φ _ w hrest hx (SR.step (K := st.h) hs1 (Leaves.same hs.hr hs.fresh) (VR.undef φ) hp) ?_
    intro χ a2 w2 h2 g2
    exact hQ χ a2 w2 h2 g2
end
section
variable {P : Program} {φ ψ : Ren} {H K : AHeap} {w : World}

/-! ### Scopes -/
theorem stepR_scope {b : Frame} {a : Act} {k : List Item} {cs : List Frame} {c : Code} : step P (lone (b.atR a (.code (.scope c) :: k)) cs w) = .next (lone (b.atR a (.code c :: .inScope c :: k)) cs w) :=
  step_lone_go (by simp [stepG, stepG.exec, Frame.atR])
theorem stepR_inScope {b : Frame} {a : Act} {k : List Item} {cs : List Frame} {c : Code} : step P (lone (b.atR a (.inScope c :: k)) cs w) = .next (lone (b.atR a k) cs w) :=
  step_lone_go (by simp [stepG, stepG.exec, Frame.atR])
theorem wpIn_scope_passes {F : Fence} {n : Nat} {Q : Exit → Act → World → Prop} {c : Code} {a : Act} (m : Nat) (h : passesIn F n P c Q m c a w) : (Code.scope c).wpIn F n P Q a w := by
  intro b k cs hro hb hr
  have key : ∀ m (x : Code) a w, passesIn F n P c Q m x a w → ∃ e a' w', Q e a' w' ∧ ArrivesIn (Machine.fenced P F) P (lone (b.atR a (.code x :: .inScope c :: k)) cs w) b k cs e a' w' := by
    intro m
    induction m with
    | zero => intro x a w h; exact h.elim
    | succ m ih =>
      intro x a w h
      obtain ⟨e, a₁, w₁, hq, harr⟩ := h b (.inScope c :: k) cs hro hb hr
      cases e with
      | normal => exact ⟨.normal, a₁, w₁, hq, StepsIn.trans harr (.one (fenced_calm hb hr rfl) stepR_inScope)⟩
      | exit id =>
        have hx : exitTo id (.inScope c :: k) = exitTo id k := by simp [exitTo]
        exact ⟨_, a₁, w₁, hq, fun k' hk => harr.1 k' (by rw [hx]; exact hk), fun hr' hk => harr.2 hr' (by rw [hx]; exact hk)⟩
      | goto l =>
        simp only at hq
        cases hf : findLabel c l with
        | some rest =>
          rw [hf] at hq
          have hg : gotoIn l (.inScope c :: k) = some (.code rest :: .inScope c :: k) := by simp [gotoIn, hf]
          obtain ⟨e₂, a₂, w₂, hq₂, harr₂⟩ := ih rest a₁ w₁ hq
          exact ⟨e₂, a₂, w₂, hq₂, .of_steps (harr.1 _ hg) harr₂⟩
        | none =>
          rw [hf] at hq
          have hg : gotoIn l (.inScope c :: k) = gotoIn l k := by simp [gotoIn, hf]
          exact ⟨_, a₁, w₁, hq, fun k' hk => harr.1 k' (by rw [hg]; exact hk), fun hr' hk => harr.2 hr' (by rw [hg]; exact hk)⟩
      | ret => exact ⟨_, a₁, w₁, hq, harr⟩
      | panic ch => exact ⟨_, a₁, w₁, hq, harr⟩
      | outgrown => exact ⟨_, a₁, w₁, hq, harr⟩
  obtain ⟨e, a', w', hq, harr⟩ := key m c a w h
  exact ⟨e, a', w', hq, .of_steps (.one (fenced_calm hb hr rfl) stepR_scope) harr⟩

theorem cond_ok {gl : Nat} {tm : T Value} {a : Act} (h : TR φ tm a.tmps) {x : Operand} {t : Bool} (hx : aEval gl tm x = .bool t) : a.eval x = .bool t := by
  cases x with
  | tmp d => have := h d; simp only [aEval] at hx; rw [hx] at this; exact this.bool_inv
  | const v => exact hx
  | global g => simp only [aEval] at hx; cases hb : Nat.blt g gl <;> rw [hb] at hx <;> cases hx
  | func f => cases hx

/-- What is asked of regions that draw. -/
def DrawOk (P : Program) (L : Lev) : Prop := ∀ (ro : Option Nat) (nn n id : Nat) (ops : Array Oper) (st st' : St) (sn : List Seen) (φ : Ren) (a : Act) (w : World) (Q : Exit → Act → World → Prop),
  drawS P L n ops ops.toList st [] = some (st', sn) → drawOk P ops sn.reverse st'.h = true → SR P φ n st a w → (∀ ψ a' w', SR P ψ n st' a' w' → Goes φ st.h w ψ st'.h w' → Q .normal a' w') →
  (Code.region id ops true).wpIn (FW ro) nn P Q a w

theorem afterS_ok {L : Lev} (hL : LevOk P L) {ro ro' : Option Nat} {n l b : Nat} {st st' : St} {e : AExit} {a : Act} (hr : RoR φ ro ro') (hs : SR P φ n st a w) (hb : φ l = some b) (hx : afterS L ro n l st = some (e, st')) :
    ∃ jump w₄, (Instr.endLoop b).run P w = .ok jump w₄ ∧ (match jump with
       | none => PostC P φ n st.h w e st' .normal a w₄
       | some c => c.wpIn (FW ro') 0 P (PostC P φ n st.h w e st') a w₄) := by
  unfold afterS at hx
  cases ho : st.h.objs.get l with
  | none => rw [ho] at hx; cases hx
  | some ob =>
  rw [ho] at hx
  cases ob <;> try (cases hx; done)
  rename_i s pend tm' n' ps' as' bo' d'
  simp only at hx
  obtain ⟨fn, tmps, bd, h1, h2, h3, h4⟩ := hs.hr.loopObj ho hb
  have hset := hs.hr.setLoop hs.fresh .exhausted pend ho hb h1
  have hnb : s ≠ .busy := by rintro rfl; cases hx
  have hend : (Instr.endLoop b).run P w = .ok pend { w with heap := w.heap.setIfInBounds b (.loop { state := .exhausted, pending := pend, fn := fn, tmps := tmps, params := ps', assign := as', body := bo', defers := bd }) } := by
    have hbeq : (s == LoopState.busy) = false := by cases s <;> first | rfl | exact absurd rfl hnb
    simp only [Instr.endLoop, Sem.run_bind, getLoop_run h1, Result.andThen_ok, hbeq, Bool.false_eq_true, if_false, setObj_run h1 (fun _ _ _ e => by cases e), Sem.run_pure]
  refine ⟨pend, _, hend, ?_⟩
  have hs1 : SR P φ n { st with h := st.h.set l (.loop .exhausted pend tm' n' ps' as' bo' d') } a { w with heap := w.heap.setIfInBounds b (.loop { state := .exhausted, pending := pend, fn := fn, tmps := tmps, params := ps', assign := as', body := bo', defers := bd }) } :=
    ⟨hset.hr, hset.fresh, hs.tr, hs.size, hs.ds⟩
  cases pend with
  | none =>
    have hx : some (AExit.normal, { st with h := st.h.set l (.loop .exhausted none tm' n' ps' as' bo' d') }) = some (e, st') := by cases s <;> first | exact hx | exact absurd rfl hnb
    simp only [Option.some.injEq, Prod.mk.injEq] at hx
    obtain ⟨rfl, rfl⟩ := hx
    exact ⟨.normal, φ, hs1, hset.goes⟩
  | some c =>
    have hx : L.code ro n c { st with h := st.h.set l (.loop .exhausted (some c) tm' n' ps' as' bo' d') } = some (e, st') := by cases s <;> first | exact hx | exact absurd rfl hnb
    exact wpIn_mono (hL.code hx hr hs1) (fun x a' w' hp => hp.after hset.goes)

theorem rangeS_ok {L : Lev} (hL : LevOk P L) {ro ro' : Option Nat} {n : Nat} {g : Operand} {ps : Array Tmp} {assign body : Code} {st st' : St} {e : AExit} {a : Act} (hr : RoR φ ro ro') (hs : SR P φ n st a w)
    (hx : rangeS P L ro n g ps assign body st = some (e, st')) : (Code.rangeFunc g ps assign body).wpIn (FW ro') 0 P (PostC P φ n st.h w e st') a w := by
  unfold rangeS at hx
  cases hg : aEval st.h.gl st.tm g <;> rw [hg] at hx <;> try (cases hx; done)
  rename_i gf first captured
  cases gf <;> try (cases hx; done)
  rename_i gf
  simp only at hx
  cases hfn : P.funcs[gf]? with
  | none => rw [hfn] at hx; cases hx
  | some fn =>
  rw [hfn] at hx
  simp only at hx
  obtain ⟨hc, hx⟩ := bif_some hx
  simp only [Bool.and_eq_true, Bool.not_eq_true'] at hc
  obtain ⟨⟨c1, c2⟩, c3⟩ := hc
  have hgv := eval_ok hs.hr.glob hs.tr c3
  rw [hg] at hgv
  obtain ⟨f', x1, y1, hge, hfr, hx1, hy1⟩ := hgv.func_inv
  cases hfr
  cases har : aroundS ro st.h with
  | none => rw [har] at hx; cases hx
  | some q =>
  obtain ⟨d, mark, h1⟩ := q
  rw [har] at hx
  simp only at hx
  cases hcall : L.call gf (first ++ #[Value.func (Fn.yield h1.next) #[] #[]] ++ captured) (h1.new (.loop .ready none st.tm n ps assign body d)) with
  | none => rw [hcall] at hx; cases hx
  | some q =>
  obtain ⟨u, h2⟩ := q
  rw [hcall] at hx
  simp only at hx
  refine wpIn_rangeFunc fun fnn _ => ?_
  -- the block for deferred calls
  have harr : ∃ ψ w1 bd md, (Instr.enterLoop fnn a.tmps ps assign body ro').run P w = ((newObj (.loop { state := .ready, pending := none, fn := fnn, tmps := a.tmps, params := ps, assign := assign, body := body, defers := bd })).run P w1).andThen (fun l w => .ok (l, md) w) ∧
      Leaves φ st.h w ψ h1 w1 ∧ ψ d = some bd ∧ DR P ψ (mark ++ st.ds) (md ++ a.defers) := by
    unfold aroundS at har
    cases hr with
    | none =>
      simp only [Option.some.injEq, Prod.mk.injEq] at har
      obtain ⟨rfl, rfl, rfl⟩ := har
      have hp := hs.hr.pushOther hs.fresh (ob := .dfr true) (o' := .deferred (some [])) .dfrOn (fun _ _ _ e => by cases e)
      refine ⟨_, _, w.heap.size, [{ target := .collected w.heap.size, args := #[] }], ?_, hp, Ren.set_same _ _ _ _, ?_⟩
      · simp only [Instr.enterLoop, Sem.run_bind, run_newObj, Result.andThen_ok, Sem.run_pure]
      · exact .cons (Ren.set_same _ _ _ _) (hs.ds.mono hp.goes.ren)
    | @some l b hl =>
      simp only at har
      cases ho : st.h.objs.get l with
      | none => rw [ho] at har; cases har
      | some ob =>
      rw [ho] at har
      cases ob <;> try (cases har; done)
      simp only [Option.some.injEq, Prod.mk.injEq] at har
      obtain ⟨rfl, rfl, rfl⟩ := har
      obtain ⟨fn2, tmps2, bd, g1, g2, g3, g4⟩ := hs.hr.loopObj ho hl
      exact ⟨φ, w, bd, [], by simp only [Instr.enterLoop, Sem.run_bind, getLoop_run g1, Result.andThen_ok, Sem.run_pure], Leaves.same hs.hr hs.fresh, g4, hs.ds⟩
  obtain ⟨ψ, w1, bd, md, r1, r2, r3, r4⟩ := harr
  have hsz : a.tmps.size = n := hs.size
  subst hsz
  have hp := r2.hr.pushOther r2.fresh (ob := .loop .ready none st.tm a.tmps.size ps assign body d) (o' := .loop { state := .ready, pending := none, fn := fnn, tmps := a.tmps, params := ps, assign := assign, body := body, defers := bd })
    (.loop (hs.tr.mono r2.goes.ren) r3) (fun _ _ _ e => by cases e)
  have hlp : (ψ.set h1.next w1.heap.size 0) h1.next = some w1.heap.size := Ren.set_same _ _ _ _
  have hle : φ.le (ψ.set h1.next w1.heap.size 0) := Ren.le_trans r2.goes.ren hp.goes.ren
  have hargs : AR (ψ.set h1.next w1.heap.size 0) (first ++ #[Value.func (Fn.yield h1.next) #[] #[]] ++ captured) (x1 ++ #[Value.func (Fn.yield w1.heap.size) #[] #[]] ++ y1) :=
    ((hx1.mono hle).append (AR.one (VR.func' (.yield hlp) (LR.nil _) (LR.nil _)))).append (hy1.mono hle)
  have hcl := hL.call hcall hargs hp.hr hp.fresh
  refine ⟨w1.heap.size, md, ({ w1 with heap := w1.heap.push (.loop { state := .ready, pending := none, fn := fnn, tmps := a.tmps, params := ps, assign := assign, body := body, defers := bd }) } : World), { target := .fn (.func gf) y1, args := x1 ++ #[Value.func (Fn.yield w1.heap.size) #[] #[]] }, ({ w1 with heap := w1.heap.push (.loop { state := .ready, pending := none, fn := fnn, tmps := a.tmps, params := ps, assign := assign, body := body, defers := bd }) } : World), gf, x1 ++ #[Value.func (Fn.yield w1.heap.size) #[] #[]] ++ y1, ({ w1 with heap := w1.heap.push (.loop { state := .ready, pending := none, fn := fnn, tmps := a.tmps, params := ps, assign := assign, body := body, defers := bd }) } : World), ?_, ?_, fun _ _ => trivial, ?_, fun hd => (by cases hd), CallsIn.mono (callsIn_any hcl) ?_⟩
  · show (Instr.enterLoop fnn a.tmps ps assign body ro').run P w = _
    rw [r1]
    simp only [run_newObj, Result.andThen_ok]
  · have em : (#[Operand.const (.func (.yield w1.heap.size) #[] #[])]).map a.eval = #[Value.func (Fn.yield w1.heap.size) #[] #[]] := by simp [Act.eval]
    simp only [resolve, hge, Deferred.ofValue, Sem.run_pure, em]
  · obtain ⟨c, hb⟩ := Option.isSome_iff_exists.1 c1
    have hn : ¬ (fn.name = "runtime.NumGoroutine") := by simpa using c2
    simp [invoke, callFunc, hfn, hn, hb]
  · intro e1 w' he
    cases e1 with
    | panicked _ => exact he.elim
    | outgrown => exact he.elim
    | returned v' =>
    obtain ⟨χ, q1, q2⟩ := he
    have hs2 : SR P χ a.tmps.size ⟨st.tm, mark ++ st.ds, h2⟩ { a with defers := md ++ a.defers } w' :=
      ⟨q2.hr, q2.fresh, hs.tr.mono (Ren.le_trans hle q2.goes.ren), rfl, r4.mono (Ren.le_trans hp.goes.ren q2.goes.ren)⟩
    have hgo : Goes φ st.h w χ h2 w' := r2.goes.trans (hp.goes.trans q2.goes)
    obtain ⟨jump, w4, z1, z2⟩ := afterS_ok hL (hr.mono (Ren.le_trans hle q2.goes.ren)) hs2 (q2.goes.ren.1 _ _ hlp) hx
    refine ⟨jump, w4, z1, ?_⟩
    cases jump with
    | none => exact PostC.after hgo z2
    | some c => exact wpIn_mono z2 (fun x a' w' hp => hp.after hgo)

/-! ### Code -/
structure LevN (P : Program) (L : Lev) (f : Nat) : Prop where
  ok : LevOk P L
  loop : ∀ {ro ro' : Option Nat} {n : Nat} {c : Code} {st st' : St} {e : AExit} {φ : Ren} {a : Act} {w : World}, L.code ro n (.loop c) st = some (e, st') → RoR φ ro ro' → SR P φ n st a w →
    Code.roundsIn (FW ro') 0 P c (PostC P φ n st.h w e st') f a w
  scope : ∀ {ro ro' : Option Nat} {n : Nat} {whole c : Code} {st st' : St} {e : AExit} {φ : Ren} {a : Act} {w : World}, L.scope ro n whole c st = some (e, st') → RoR φ ro ro' → SR P φ n st a w →
    passesIn (FW ro') 0 P whole (PostC P φ n st.h w e st') f c a w

theorem roundsIn_mono {F : Fence} {n : Nat} {c : Code} {Q Q' : Exit → Act → World → Prop} (hq : ∀ e a w, Q e a w → Q' e a w) : ∀ (m : Nat) (a : Act) (w : World), Code.roundsIn F n P c Q m a w → Code.roundsIn F n P c Q' m a w
  | 0, _, _, h => h
  | m + 1, a, w, h => wpIn_mono (c := c) h fun e a w he => by cases e <;> first | exact roundsIn_mono hq m _ _ he | exact hq _ _ _ he
theorem passesIn_mono {F : Fence} {n : Nat} {whole : Code} {Q Q' : Exit → Act → World → Prop} (hq : ∀ e a w, Q e a w → Q' e a w) : ∀ (m : Nat) (c : Code) (a : Act) (w : World), passesIn F n P whole Q m c a w → passesIn F n P whole Q' m c a w
  | 0, _, _, _, h => h
  | m + 1, c, a, w, h => wpIn_mono (c := c) h fun e a w he => by
      cases e <;> first
        | exact hq _ _ _ he
        | (simp only at he ⊢
           split at he
           · exact passesIn_mono hq m _ _ _ he
           · exact hq _ _ _ he)

section
variable {L : Lev} {f : Nat}
/-- The first round of a loop. -/
theorem loop_ok (hN : LevN P L f) {ro ro' : Option Nat} {n : Nat} {c : Code} {st st' : St} {e : AExit} {a : Act}
    (hc : ∀ {st1 : St} {e1 : AExit}, codeS P L ro n c st = some (e1, st1) → c.wpIn (FW ro') 0 P (PostC P φ n st.h w e1 st1) a w)
    (hx : codeS P L ro n (.loop c) st = some (e, st')) (hr : RoR φ ro ro') : Code.roundsIn (FW ro') 0 P c (PostC P φ n st.h w e st') (f + 1) a w := by
  simp only [codeS] at hx
  cases h1 : codeS P L ro n c st with
  | none => rw [h1] at hx; cases hx
  | some q =>
  obtain ⟨e1, st1⟩ := q
  rw [h1] at hx
  refine wpIn_mono (hc h1) ?_
  rintro x a1 w1 ⟨hxr, ψ, hs1, hg1⟩
  cases hxr with
  | normal => exact roundsIn_mono (fun x a w hp => hp.after hg1) _ _ _ (hN.loop hx (hr.mono hg1.ren) hs1)
  | exit id => simp only [Option.some.injEq, Prod.mk.injEq] at hx; obtain ⟨rfl, rfl⟩ := hx; exact ⟨.exit id, ψ, hs1, hg1⟩
  | goto l => simp only [Option.some.injEq, Prod.mk.injEq] at hx; obtain ⟨rfl, rfl⟩ := hx; exact ⟨.goto l, ψ, hs1, hg1⟩
  | ret => simp only [Option.some.injEq, Prod.mk.injEq] at hx; obtain ⟨rfl, rfl⟩ := hx; exact ⟨.ret, ψ, hs1, hg1⟩

theorem codeS_ok (hN : LevN P L f) (hD : DrawOk P L) : ∀ (c : Code) {ro ro' : Option Nat} {n : Nat} {st st' : St} {e : AExit} {φ : Ren} {a : Act} {w : World}, codeS P L ro n c st = some (e, st') → RoR φ ro ro' → SR P φ n st a w →
    c.wpIn (FW ro') 0 P (PostC P φ n st.h w e st') a w := by
  intro c
  induction c with
  | skip =>
    intro ro ro' n st st' e φ a w hx hr hs
    simp only [codeS, Option.some.injEq, Prod.mk.injEq] at hx; obtain ⟨rfl, rfl⟩ := hx
    exact wpIn_skip ⟨.normal, φ, hs, Goes.refl _ _ _⟩
  | label l =>
    intro ro ro' n st st' e φ a w hx hr hs
    simp only [codeS, Option.some.injEq, Prod.mk.injEq] at hx; obtain ⟨rfl, rfl⟩ := hx
    exact wpIn_label ⟨.normal, φ, hs, Goes.refl _ _ _⟩
  | ret =>
    intro ro ro' n st st' e φ a w hx hr hs
    simp only [codeS, Option.some.injEq, Prod.mk.injEq] at hx; obtain ⟨rfl, rfl⟩ := hx
    exact wpIn_ret ⟨.ret, φ, hs, Goes.refl _ _ _⟩
  | exit id =>
    intro ro ro' n st st' e φ a w hx hr hs
    simp only [codeS, Option.some.injEq, Prod.mk.injEq] at hx; obtain ⟨rfl, rfl⟩ := hx
    exact wpIn_exit ⟨.exit id, φ, hs, Goes.refl _ _ _⟩
  | goto l =>
    intro ro ro' n st st' e φ a w hx hr hs
    simp only [codeS, Option.some.injEq, Prod.mk.injEq] at hx; obtain ⟨rfl, rfl⟩ := hx
    exact wpIn_goto ⟨.goto l, φ, hs, Goes.refl _ _ _⟩
  | refuse s =>
    intro ro ro' n st st' e φ a w hx hr hs
    cases hx
  | seq x y ihx ihy =>
    intro ro ro' n st st' e φ a w hx hr hs
    simp only [codeS] at hx
    cases h1 : codeS P L ro n x st with
    | none => rw [h1] at hx; cases hx
    | some q =>
    obtain ⟨e1, st1⟩ := q
    rw [h1] at hx
    refine wpIn_seq (wpIn_mono (ihx h1 hr hs) ?_)
    rintro z a1 w1 ⟨hxr, ψ, hs1, hg1⟩
    cases hxr with
    | normal => exact wpIn_mono (ihy hx (hr.mono hg1.ren) hs1) (fun x a w hp => hp.after hg1)
    | exit id => simp only [Option.some.injEq, Prod.mk.injEq] at hx; obtain ⟨rfl, rfl⟩ := hx; exact ⟨.exit id, ψ, hs1, hg1⟩
    | goto l => simp only [Option.some.injEq, Prod.mk.injEq] at hx; obtain ⟨rfl, rfl⟩ := hx; exact ⟨.goto l, ψ, hs1, hg1⟩
    | ret => simp only [Option.some.injEq, Prod.mk.injEq] at hx; obtain ⟨rfl, rfl⟩ := hx; exact ⟨.ret, ψ, hs1, hg1⟩
  | cond x y z ihy ihz =>
    intro ro ro' n st st' e φ a w hx hr hs
    simp only [codeS] at hx
    cases hv : aEval st.h.gl st.tm x <;> rw [hv] at hx <;> try (cases hx; done)
    rename_i t
    have hc := cond_ok hs.tr hv
    cases t with
    | true => exact wpIn_cond_true hc (ihy hx hr hs)
    | false => exact wpIn_cond_false hc (ihz hx hr hs)
  | block id x ih =>
    intro ro ro' n st st' e φ a w hx hr hs
    simp only [codeS] at hx
    cases h1 : codeS P L ro n x st with
    | none => rw [h1] at hx; cases hx
    | some q =>
    obtain ⟨e1, st1⟩ := q
    rw [h1] at hx
    refine wpIn_block (wpIn_mono (ih h1 hr hs) ?_)
    rintro z a1 w1 ⟨hxr, ψ, hs1, hg1⟩
    cases hxr with
    | normal => simp only [Option.some.injEq, Prod.mk.injEq] at hx; obtain ⟨rfl, rfl⟩ := hx; exact ⟨.normal, ψ, hs1, hg1⟩
    | exit id' =>
      simp only at hx
      show (if id' = id then _ else _)
      cases hb : Nat.beq id' id with
      | true =>
        rw [hb, cond_true, Option.some.injEq, Prod.mk.injEq] at hx; obtain ⟨rfl, rfl⟩ := hx
        rw [if_pos (beq_true hb)]
        exact ⟨.normal, ψ, hs1, hg1⟩
      | false =>
        rw [hb, cond_false, Option.some.injEq, Prod.mk.injEq] at hx; obtain ⟨rfl, rfl⟩ := hx
        rw [if_neg (fun h => by rw [h, Nat.beq_refl] at hb; cases hb)]
        exact ⟨.exit id', ψ, hs1, hg1⟩
    | goto l => simp only [Option.some.injEq, Prod.mk.injEq] at hx; obtain ⟨rfl, rfl⟩ := hx; exact ⟨.goto l, ψ, hs1, hg1⟩
    | ret => simp only [Option.some.injEq, Prod.mk.injEq] at hx; obtain ⟨rfl, rfl⟩ := hx; exact ⟨.ret, ψ, hs1, hg1⟩
  | loop x ih =>
    intro ro ro' n st st' e φ a w hx hr hs
    exact wpIn_loop_rounds (f + 1) (loop_ok hN (fun h1 => ih h1 hr hs) hx hr)
  | scope x ih =>
    intro ro ro' n st st' e φ a w hx hr hs
    simp only [codeS] at hx
    refine wpIn_scope_passes (f + 1) ?_
    cases h1 : codeS P L ro n x st with
    | none => rw [h1] at hx; cases hx
    | some q =>
    obtain ⟨e1, st1⟩ := q
    rw [h1] at hx
    refine wpIn_mono (ih h1 hr hs) ?_
    rintro z a1 w1 ⟨hxr, ψ, hs1, hg1⟩
    cases hxr with
    | normal => simp only [Option.some.injEq, Prod.mk.injEq] at hx; obtain ⟨rfl, rfl⟩ := hx; exact ⟨.normal, ψ, hs1, hg1⟩
    | exit id => simp only [Option.some.injEq, Prod.mk.injEq] at hx; obtain ⟨rfl, rfl⟩ := hx; exact ⟨.exit id, ψ, hs1, hg1⟩
    | goto l =>
      simp only at hx ⊢
      cases hf : findLabel x l with
      | some rest =>
        rw [hf] at hx
        exact passesIn_mono (fun x a w hp => hp.after hg1) _ _ _ _ (hN.scope hx (hr.mono hg1.ren) hs1)
      | none =>
        rw [hf] at hx
        simp only [Option.some.injEq, Prod.mk.injEq] at hx; obtain ⟨rfl, rfl⟩ := hx
        exact ⟨.goto l, ψ, hs1, hg1⟩
    | ret => simp only [Option.some.injEq, Prod.mk.injEq] at hx; obtain ⟨rfl, rfl⟩ := hx; exact ⟨.ret, ψ, hs1, hg1⟩
  | region id ops draw =>
    intro ro ro' n st st' e φ a w hx hr hs
    simp only [codeS] at hx
    cases draw with
    | false =>
      simp only at hx
      cases h1 : opsS P L n ops ops.toList st with
      | none =>
        rw [h1] at hx
        cases hr with
        | some _ => cases hx
        | none =>
        simp only at hx
        cases h2 : opsD P L n ops ops.toList st with
        | none => rw [h2] at hx; cases hx
        | some st1 =>
        rw [h2] at hx
        simp only [Option.some.injEq, Prod.mk.injEq] at hx; obtain ⟨rfl, rfl⟩ := hx
        refine wpIn_region ?_
        have := opsD_ok (nn := 0) (Q := PostC P φ n st.h w .normal st1) hN.ok ops.toList 0 st st1 φ a w (by simp) h2 hs (fun ψ a' w' h1 h2 => ⟨.normal, ψ, h1, h2⟩)
        rw [List.range_eq_range']
        simpa using this
      | some st1 =>
      rw [h1] at hx
      simp only [Option.some.injEq, Prod.mk.injEq] at hx; obtain ⟨rfl, rfl⟩ := hx
      refine wpIn_region ?_
      have := opsS_ok (nn := 0) (ro := ro') (Q := PostC P φ n st.h w .normal st1) hN.ok ops.toList 0 st st1 φ a w (by simp) h1 hs (fun ψ a' w' h1 h2 => ⟨.normal, ψ, h1, h2⟩)
      rw [List.range_eq_range']
      simpa using this
    | true =>
      simp only at hx
      cases h1 : drawS P L n ops ops.toList st [] with
      | none => rw [h1] at hx; cases hx
      | some q =>
      obtain ⟨st1, sn⟩ := q
      rw [h1] at hx
      simp only at hx
      obtain ⟨hok, hx⟩ := bif_some hx
      simp only [Option.some.injEq, Prod.mk.injEq] at hx; obtain ⟨rfl, rfl⟩ := hx
      exact hD ro' 0 n id ops st st1 sn φ a w _ h1 hok hs (fun ψ a' w' h1 h2 => ⟨.normal, ψ, h1, h2⟩)
  | rangeFunc g ps assign body _ _ =>
    intro ro ro' n st st' e φ a w hx hr hs
    simp only [codeS] at hx
    exact rangeS_ok hN.ok hr hs hx

theorem scopeS_ok (hN : LevN P L f) (hD : DrawOk P L) {ro ro' : Option Nat} {n : Nat} {whole c : Code} {st st' : St} {e : AExit} {a : Act} (hx : scopeS P L ro n whole c st = some (e, st')) (hr : RoR φ ro ro') (hs : SR P φ n st a w) :
    passesIn (FW ro') 0 P whole (PostC P φ n st.h w e st') (f + 1) c a w := by
  unfold scopeS at hx
  cases h1 : codeS P L ro n c st with
  | none => rw [h1] at hx; cases hx
  | some q =>
  obtain ⟨e1, st1⟩ := q
  rw [h1] at hx
  refine wpIn_mono (codeS_ok hN hD c h1 hr hs) ?_
  rintro z a1 w1 ⟨hxr, ψ, hs1, hg1⟩
  cases hxr with
  | normal => simp only [Option.some.injEq, Prod.mk.injEq] at hx; obtain ⟨rfl, rfl⟩ := hx; exact ⟨.normal, ψ, hs1, hg1⟩
  | exit id => simp only [Option.some.injEq, Prod.mk.injEq] at hx; obtain ⟨rfl, rfl⟩ := hx; exact ⟨.exit id, ψ, hs1, hg1⟩
  | goto l =>
    simp only at hx ⊢
    cases hf : findLabel whole l with
    | some rest =>
      rw [hf] at hx
      exact passesIn_mono (fun x a w hp => hp.after hg1) _ _ _ _ (hN.scope hx (hr.mono hg1.ren) hs1)
    | none =>
      rw [hf] at hx
      simp only [Option.some.injEq, Prod.mk.injEq] at hx; obtain ⟨rfl, rfl⟩ := hx
      exact ⟨.goto l, ψ, hs1, hg1⟩
  | ret => simp only [Option.some.injEq, Prod.mk.injEq] at hx; obtain ⟨rfl, rfl⟩ := hx; exact ⟨.ret, ψ, hs1, hg1⟩

/-! ### Calls -/
theorem asAddr_ptr (a : Addr) (w : World) : (asAddr (.pointer (some a))).run P w = .ok a w := rfl
def resF (tmps : Array Value) : ResultVar → Sem Value
  | .tmp t => pure (tmps.getD t Go.undef)
  | .cell a t => do loadVar t (← asAddr (tmps.getD a Go.undef))
theorem results_eq (fn : Func) (tmps : Array Value) : results fn tmps = (do let vs ← fn.results.mapM (resF tmps); pure (if h : vs.size = 1 then vs[0] else .tuple vs)) := by
  rfl
theorem resultA_ok (h : HR φ H w) {tm : T Value} {tmps : Array Value} (ht : TR φ tm tmps) {r : ResultVar} {v : Value} (hx : resultA P H tm r = some v) :
    ∃ v', VR φ v v' ∧ (resF tmps r).run P w = .ok v' w := by
  cases r with
  | tmp t =>
    simp only [resultA, Option.some.injEq] at hx; subst hx
    exact ⟨_, ht t, rfl⟩
  | cell a t =>
    simp only [resultA] at hx
    have ha := ht a
    cases hv : (tm.get a).getD Go.undef <;> rw [hv] at hx ha <;> try (cases hx; done)
    rename_i p
    cases p with
    | none => cases hx
    | some p =>
    simp only at hx
    obtain ⟨v', h1, h2⟩ := loadV_ok (P := P) h ha hx
    obtain ⟨b, hb, hsp, e⟩ := ha.ptr_inv
    refine ⟨v', h1, ?_⟩
    rw [e] at h2
    simp only [resF, e, Sem.run_bind, asAddr_ptr, Result.andThen_ok]
    simpa only [Instr.loadAt, Instr.sureAddr, Sem.run_bind, Sem.run_pure, Result.andThen_ok] using h2
theorem resultsL_ok (h : HR φ H w) {tm : T Value} {tmps : Array Value} (ht : TR φ tm tmps) : ∀ (rs : List ResultVar) (vs : List Value), resultsL P H tm rs = some vs →
    ∃ vs', LR φ vs vs' ∧ (rs.mapM (resF tmps)).run P w = .ok vs' w
  | [], vs, hx => by
    simp only [resultsL, Option.some.injEq] at hx; subst hx
    exact ⟨[], LR.nil φ, rfl⟩
  | r :: rs, vs, hx => by
    simp only [resultsL] at hx
    cases h1 : resultA P H tm r with
    | none => rw [h1] at hx; cases hx
    | some v =>
    rw [h1] at hx
    cases h2 : resultsL P H tm rs with
    | none => rw [h2] at hx; cases hx
    | some l =>
    rw [h2] at hx
    simp only [Option.some.injEq] at hx; subst hx
    obtain ⟨v', r1, r2⟩ := resultA_ok h ht h1
    obtain ⟨l', r3, r4⟩ := resultsL_ok h ht rs l h2
    refine ⟨v' :: l', LR.cons r1 r3, ?_⟩
    rw [List.mapM_cons]
    simp only [Sem.run_bind, r2, Result.andThen_ok, r4, Sem.run_pure]
theorem resultsA_ok (h : HR φ H w) {tm : T Value} {tmps : Array Value} (ht : TR φ tm tmps) {fn : Func} {v : Value} (hx : resultsA P H fn tm = some v) : ∃ v', VR φ v v' ∧ (results fn tmps).run P w = .ok v' w := by
  unfold resultsA at hx
  cases h1 : resultsL P H tm fn.results.toList with
  | none => rw [h1] at hx; cases hx
  | some vs =>
  obtain ⟨vs', r1, r2⟩ := resultsL_ok h ht _ vs h1
  have hm : (fn.results.mapM (resF tmps)).run P w = .ok vs'.toArray w := by
    rw [Array.mapM_eq_mapM_toList, ← bind_pure_comp]
    simp only [Sem.run_bind, r2, Result.andThen_ok, Sem.run_pure]
  rw [h1] at hx
  have hr : (results fn tmps).run P w = .ok (if h : vs'.toArray.size = 1 then vs'.toArray[0] else .tuple vs'.toArray) w := by
    rw [results_eq]
    simp only [Sem.run_bind, hm, Result.andThen_ok, Sem.run_pure]
  cases vs with
  | nil =>
    simp only [Option.some.injEq] at hx; subst hx
    rw [r1.nil_inv] at hr
    exact ⟨_, VR.tuple' (LR.nil φ), hr⟩
  | cons u l =>
    cases l with
    | nil =>
      simp only [Option.some.injEq] at hx; subst hx
      obtain ⟨u', l', rfl, hu, hl⟩ := r1.cons_inv
      rw [hl.nil_inv] at hr
      exact ⟨u', hu, hr⟩
    | cons u2 l =>
      simp only [Option.some.injEq] at hx; subst hx
      have hlen : ¬ vs'.toArray.size = 1 := by
        have := r1.1
        simp only [List.length_cons] at this
        simp only [List.size_toArray]; omega
      rw [dif_neg hlen] at hr
      exact ⟨_, VR.tuple' (AR.mk r1), hr⟩

theorem takeDeferred_run {b : Nat} {ds : List Deferred} (h : w.heap[b]? = some (.deferred (some ds))) : (Instr.takeDeferred b).run P w = .ok ds { w with heap := w.heap.setIfInBounds b (.deferred none) } := by
  simp only [Instr.takeDeferred, Sem.run_bind, getObj_run h (fun _ _ _ e => by cases e), Result.andThen_ok, setObj_run h (fun _ _ _ e => by cases e), Sem.run_pure]

theorem leaves_ok {fn : Func} {R : Ending → World → Prop} {tm : T Value} {tmps : Array Value} {v : Value} {K : AHeap} {φ : Ren} {ds : List Nat} {defers : List Deferred} (hd : DR P φ ds defers) : ∀ (H : AHeap) (w : World), HR φ H w → Fresh φ H → TR φ tm tmps →
    takeAll ds H = some K → resultsA P K fn tm = some v → (∀ v' w', VR φ v v' → Leaves φ H w φ K w' → R (.returned v') w') → LeavesInM (FW none) 0 P fn tmps R defers .returning w := by
  induction hd with
  | nil =>
    intro H w h hf ht hx hv hR
    simp only [takeAll, Option.some.injEq] at hx; subst hx
    obtain ⟨v', r1, r2⟩ := resultsA_ok h ht hv
    exact ⟨v', r2, hR v' w r1 (Leaves.same h hf)⟩
  | @cons i b l ds hb _ ih =>
    intro H w h hf ht hx hv hR
    simp only [takeAll] at hx
    cases ho : H.objs.get i with
    | none => rw [ho] at hx; cases hx
    | some ob =>
    rw [ho] at hx
    cases ob <;> try (cases hx; done)
    rename_i on
    cases on with
    | false => cases hx
    | true =>
    simp only at hx
    obtain ⟨o', g1, g2⟩ := h.obj ho hb
    cases g2
    have hset := h.setOther hf (ob1 := .dfr false) (o1 := .deferred none) ho hb g1 rfl .dfrOff (fun _ _ _ e => by cases e)
    refine ⟨by simp, .inl ⟨b, _, rfl, takeDeferred_run g1, ?_⟩⟩
    exact ih _ _ hset.hr hset.fresh ht hx hv (fun v' w' h1 h2 => hR v' w' h1 (hset.trans h2))
  | @quiet d l ds hq _ ih =>
    intro H w h hf ht hx hv hR
    obtain ⟨K1, cap, m, htar, hsz, ⟨fn1, e1, e2, e3⟩, hcall⟩ := hq
    refine ⟨by simp, .inr ⟨(fun h => by cases h), .func K1, cap, K1, d.args ++ cap, htar, ?_, fun _ _ => trivial, ?_⟩⟩
    · rw [htar]
      simp only [invoke, callFunc, Sem.run_bind, run_program, Result.andThen_ok, e1, e2, e3, Bool.false_eq_true, if_false, Sem.run_pure]
    · refine (hcall (d.args ++ cap) w hsz).mono ?_
      rintro e u w' ⟨⟨v1, rfl⟩, rfl, rfl⟩
      exact ih H w' h hf ht hx hv hR

theorem args_ok : ∀ (l l' : List Value) (i : Nat) (t : T Value) (tmps : Array Value), LR φ l l' → TR φ t tmps → i + l.length ≤ tmps.size → TR φ (argsT l i t) (⟨tmps.toList.take i ++ (l' ++ tmps.toList.drop (i + l.length))⟩)
  | [], l', i, t, tmps, hl, ht, hn => by
    rw [hl.nil_inv]
    simp only [argsT, List.nil_append, List.length_nil, Nat.add_zero, List.take_append_drop]
    exact ht
  | v :: l, l', i, t, tmps, hl, ht, hn => by
    obtain ⟨v', l', rfl, hv, hl⟩ := hl.cons_inv
    simp only [List.length_cons] at hn
    have h1 := TR.put (a := ⟨tmps, []⟩) (n := tmps.size) (dst := some i) (tm' := t.put i v) ht rfl hv (by
      simp only [putT]
      have : Nat.blt i tmps.size = true := Nat.ble_eq_true_of_le (by omega)
      rw [this]; rfl)
    have h2 := args_ok l l' (i + 1) (t.put i v) (tmps.setIfInBounds i v') hl h1 (by simp; omega)
    have e : (tmps.setIfInBounds i v').toList.take (i + 1) ++ (l' ++ (tmps.setIfInBounds i v').toList.drop (i + 1 + l.length)) = tmps.toList.take i ++ ((v' :: l') ++ tmps.toList.drop (i + (v :: l).length)) := by
      rw [Array.toList_setIfInBounds]
      have hlt : i < tmps.toList.length := by simp; omega
      rw [List.take_set, List.take_succ_eq_append_getElem hlt, List.set_append_right _ _ (by simp; omega), List.drop_set_of_lt (by omega)]
      simp only [List.length_take, List.length_cons]
      rw [Nat.min_eq_left (by omega), Nat.sub_self]
      simp only [List.set_cons_zero, List.append_assoc, List.cons_append, List.nil_append]
      congr 4
      omega
    rw [e] at h2
    exact h2
theorem TR.undef (φ : Ren) (n : Nat) : TR φ .nil (Array.replicate n Go.undef) := by
  intro t
  have : (Array.replicate n Go.undef).getD t Go.undef = Go.undef := by
    rw [Array.getD_eq_getD_getElem?, Array.getElem?_replicate]; split <;> rfl
  rw [this]
  exact VR.undef φ

theorem callS_ok {L : Lev} {f : Nat} (hN : LevN P L f) (hD : DrawOk P L) {g : FuncId} {args args' : Array Value} {v : Value} (hx : callS P L g args H = some (v, K)) (ha : AR φ args args') (h : HR φ H w) (hf : Fresh φ H) :
    CallsIn (FW none) 0 P g args' w (RetOk φ H w v K) := by
  unfold callS at hx
  cases hfn : P.funcs[g]? with
  | none => rw [hfn] at hx; cases hx
  | some fn =>
  rw [hfn] at hx
  simp only at hx
  cases hb : fn.body with
  | none => rw [hb] at hx; cases hx
  | some c =>
  rw [hb] at hx
  simp only at hx
  obtain ⟨hle, hx⟩ := bif_some hx
  have hle := ble_true hle
  cases hc : codeS P L none fn.ntmps c ⟨argsT args.toList 0 .nil, [], H⟩ with
  | none => rw [hc] at hx; cases hx
  | some q =>
  obtain ⟨e, st1⟩ := q
  rw [hc] at hx
  have hsz : args'.size ≤ fn.ntmps := by rw [← ha.size]; exact hle
  have htr : TR φ (argsT args.toList 0 .nil) (args' ++ Array.replicate (fn.ntmps - args'.size) Go.undef) := by
    have := args_ok args.toList args'.toList 0 .nil (Array.replicate fn.ntmps Go.undef) ha (TR.undef φ _) (by simpa using hle)
    have e : (⟨(Array.replicate fn.ntmps Go.undef).toList.take 0 ++ (args'.toList ++ (Array.replicate fn.ntmps Go.undef).toList.drop (0 + args.toList.length))⟩ : Array Value) = args' ++ Array.replicate (fn.ntmps - args'.size) Go.undef := by
      apply Array.ext'
      simp [ha.size]
    rwa [e] at this
  have hs0 : SR P φ fn.ntmps ⟨argsT args.toList 0 .nil, [], H⟩ { tmps := args' ++ Array.replicate (fn.ntmps - args'.size) Go.undef, defers := [] } w :=
    ⟨h, hf, htr, by simp; omega, .nil⟩
  refine callsIn_of_wp_marks hfn hb trivial ?_ rfl
  refine wpIn_mono (codeS_ok hN hD c hc .none hs0) ?_
  rintro x a1 w1 ⟨hxr, ψ, hs1, hg1⟩
  have fin : (match takeAll st1.ds st1.h with
          | some h => match resultsA P h fn st1.tm with
            | some v => some (v, h)
            | none => none
          | none => none) = some (v, K) → LeavesInM (FW none) 0 P fn a1.tmps (RetOk φ H w v K) a1.defers .returning w1 := by
    intro hx
    cases ht : takeAll st1.ds st1.h with
    | none => rw [ht] at hx; cases hx
    | some h2 =>
    rw [ht] at hx
    simp only at hx
    cases hr : resultsA P h2 fn st1.tm with
    | none => rw [hr] at hx; cases hx
    | some v2 =>
    rw [hr] at hx
    simp only [Option.some.injEq, Prod.mk.injEq] at hx
    obtain ⟨rfl, rfl⟩ := hx
    exact leaves_ok hs1.ds st1.h w1 hs1.hr hs1.fresh hs1.tr ht hr (fun v' w' h1 h2 => ⟨ψ, h1, h2.hr, h2.fresh, hg1.trans h2.goes⟩)
  cases hxr with
  | normal => exact fin hx
  | ret => exact fin hx
  | exit id => cases hx
  | goto l => cases hx
end
end
end Go.Vi
end
