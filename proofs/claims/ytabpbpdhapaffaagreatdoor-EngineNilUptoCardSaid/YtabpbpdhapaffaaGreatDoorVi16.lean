/-
  A round of a loop over a function; one operation; a region in the text's order.
-/
import Derived.Test.YtabpbpdhapaffaaGreatDoorVi15
set_option linter.unusedSimpArgs false
set_option linter.unusedVariables false
namespace Go.Vi
variable {P : Program} {φ ψ : Ren} {H K : AHeap} {w : World}

theorem wpIn_any {ro : Option Nat} {n n' : Nat} {c : Code} {Q : Exit → Act → World → Prop} {a : Act} (h : c.wpIn (FW ro) n P Q a w) : c.wpIn (FW ro) n' P Q a w :=
  fun b k cs h1 h2 _ => h b k cs h1 h2 (fun d hd => by cases hd)

theorem endRound_run {b : Nat} {r : Loop} (h : w.heap[b]? = some (.loop r)) (jump : Option Code) :
    (Instr.endRound b jump).run P w = .ok (.bool jump.isNone) { w with heap := w.heap.setIfInBounds b (.loop { r with state := if jump.isNone then .ready else .done, pending := jump }) } := by
  simp only [Instr.endRound, Sem.run_bind, getLoop_run h, Result.andThen_ok, setObj_run h (fun _ _ _ e => by cases e), Sem.run_pure]

theorem HR.setLoop (h : HR φ H w) (hf : Fresh φ H) {i b : Nat} {st : LoopState} {pend : Option Code} {tm : T Value} {n : Nat} {ps : Array Tmp} {assign body : Code} {d : Nat} (st' : LoopState) (pend' : Option Code)
    (hi : H.objs.get i = some (.loop st pend tm n ps assign body d)) (hb : φ i = some b) {r : Loop} (hr : w.heap[b]? = some (.loop r)) :
    Leaves φ H w φ (H.set i (.loop st' pend' tm n ps assign body d)) { w with heap := w.heap.setIfInBounds b (.loop { r with state := st', pending := pend' }) } := by
  obtain ⟨fn, tmps, bd, h1, h2, h3, h4⟩ := h.loopObj hi hb
  rw [hr] at h1
  cases h1
  subst h3
  exact h.setOther hf hi hb hr rfl (.loop h2 h4) (fun _ _ _ e => by cases e)

theorem roundS_ok {L : Lev} (hL : LevOk P L) {ro : Option Nat} {l b nn : Nat} {args args' : Array Value} {v : Value} (h : HR φ H w) (hf : Fresh φ H) (hb : φ l = some b) (ha : AR φ args args') (hx : roundS L l args H = some (v, K)) :
    ∃ fn tmps assign body, (Instr.yield b args').run P w = .ok (.round b fn tmps assign body) w ∧ RoundIn (FW ro) nn P b fn tmps assign body w (RetOk φ H w v K) := by
  unfold roundS at hx
  cases ho : H.objs.get l with
  | none => rw [ho] at hx; cases hx
  | some ob =>
  rw [ho] at hx
  cases ob <;> try (cases hx; done)
  rename_i st0 pend0 tm0 n ps assign body d0
  simp only at hx
  obtain ⟨hsz, hx⟩ := bif_some hx
  have hsz := beq_true hsz
  cases hp : paramsT n (ps.toList.zip args.toList) tm0 with
  | none => rw [hp] at hx; cases hx
  | some tm1 =>
  rw [hp] at hx
  simp only at hx
  obtain ⟨fn, tmps, bd, h1, h2, h3, h4⟩ := h.loopObj ho hb
  obtain ⟨p1, p2⟩ := params_ok ps.toList args.toList args'.toList tm0 tm1 tmps h2 h3 ha hp
  refine ⟨fn, (ps.zip args').foldl (fun (tmps : Array Value) (x : Tmp × Value) => tmps.setIfInBounds x.1 x.2) tmps, assign, body, ?_, ?_⟩
  · have hs' : ¬ args'.size ≠ ps.size := by rw [← ha.size, hsz]; simp
    simp only [Instr.yield, Sem.run_bind, getLoop_run h1, Result.andThen_ok, hs', if_false, Sem.run_pure]
  · rw [← foldl_zip] at p1 p2
    refine roundIn_of_wpIn trivial ?_
    cases hc : L.code (some l) n assign ⟨tm1, [], H⟩ with
    | none => rw [hc] at hx; cases hx
    | some q =>
    obtain ⟨e1, st1⟩ := q
    rw [hc] at hx
    cases e1 <;> try (cases hx; done)
    simp only at hx
    have hs0 : SR φ n ⟨tm1, [], H⟩ { tmps := (ps.zip args').foldl (fun (tmps : Array Value) (x : Tmp × Value) => tmps.setIfInBounds x.1 x.2) tmps, defers := [] } w := ⟨h, hf, p1, p2, .nil⟩
    refine wpIn_any (wpIn_mono (hL.code hc (.some hb) hs0) ?_)
    rintro x a1 w1 ⟨hxr, ψ, hs1, hg1⟩
    cases hxr
    show ∃ w₂, _
    cases hob : st1.h.objs.get l with
    | none => rw [hob] at hx; cases hx
    | some ob1 =>
    rw [hob] at hx
    cases ob1 <;> try (cases hx; done)
    rename_i s2 pend tm' n' ps' as' bo' d
    cases s2 <;> try (cases hx; done)
    simp only at hx
    have hb1 : ψ l = some b := hg1.ren.1 _ _ hb
    obtain ⟨fn1, tmps1, bd1, g1, g2, g3, g4⟩ := hs1.hr.loopObj hob hb1
    have hset := hs1.hr.setLoop hs1.fresh .busy pend hob hb1 g1
    refine ⟨{ w1 with heap := w1.heap.setIfInBounds b (.loop { state := .busy, pending := pend, fn := fn1, tmps := tmps1, params := ps', assign := as', body := bo', defers := bd1 }) }, ?_, ?_⟩
    · simp only [Instr.beginRound, Sem.run_bind, getLoop_run g1, Result.andThen_ok, setObj_run g1 (fun _ _ _ e => by cases e), Sem.run_pure]
    · cases hbd : L.code (some l) n body { st1 with h := st1.h.set l (.loop .busy pend tm' n' ps' as' bo' d) } with
      | none => rw [hbd] at hx; cases hx
      | some q2 =>
      obtain ⟨e2, st2⟩ := q2
      rw [hbd] at hx
      simp only at hx
      have hs2 : SR ψ n { st1 with h := st1.h.set l (.loop .busy pend tm' n' ps' as' bo' d) } a1 { w1 with heap := w1.heap.setIfInBounds b (.loop { state := .busy, pending := pend, fn := fn1, tmps := tmps1, params := ps', assign := as', body := bo', defers := bd1 }) } :=
        ⟨hset.hr, hset.fresh, hs1.tr, hs1.size, hs1.ds⟩
      refine wpIn_any (wpIn_mono (hL.code hbd (.some hb1) hs2) ?_)
      rintro x a2 w2 ⟨hxr2, χ, hs3, hg3⟩
      have hb2 : χ l = some b := hg3.ren.1 _ _ hb1
      cases hob2 : st2.h.objs.get l with
      | none => rw [hob2] at hx; cases hx
      | some ob2 =>
      rw [hob2] at hx
      cases ob2 <;> try (cases hx; done)
      rename_i s3 pend3 tm3 n3 ps3 as3 bo3 d3
      obtain ⟨fn2, tmps2, bd2, k1, k2, k3, k4⟩ := hs3.hr.loopObj hob2 hb2
      have hgo : Goes φ H w χ st2.h w2 := hg1.trans (hset.goes.trans hg3)
      cases hxr2 <;> simp only [Option.some.injEq, Prod.mk.injEq] at hx <;> obtain ⟨rfl, rfl⟩ := hx
      · have hl := hs3.hr.setLoop hs3.fresh .ready none hob2 hb2 k1
        exact ⟨_, _, endRound_run k1 none, χ, .bool true, hl.hr, hl.fresh, hgo.trans hl.goes⟩
      · rename_i id
        have hl := hs3.hr.setLoop hs3.fresh .done (some (.exit id)) hob2 hb2 k1
        exact ⟨_, _, endRound_run k1 _, χ, .bool false, hl.hr, hl.fresh, hgo.trans hl.goes⟩
      · rename_i t
        have hl := hs3.hr.setLoop hs3.fresh .done (some (.goto t)) hob2 hb2 k1
        exact ⟨_, _, endRound_run k1 _, χ, .bool false, hl.hr, hl.fresh, hgo.trans hl.goes⟩
      · have hl := hs3.hr.setLoop hs3.fresh .done (some .ret) hob2 hb2 k1
        exact ⟨_, _, endRound_run k1 _, χ, .bool false, hl.hr, hl.fresh, hgo.trans hl.goes⟩

/-! ### One operation -/
theorem not_defer {ρ : Operand → Value} {o : Oper} {x : Kind × ANext × AHeap} (h : aOper P H ρ o = some x) (c : Call) : o.op ≠ .defer c := by
  intro e
  unfold aOper pureOp readOp newOp effOp at h
  rw [e] at h
  cases h
theorem pureOk_upon {n : Nat} {ro : Option Nat} {o : Oper} {a : Act} {Kc : Act → World → Prop} {Q : Exit → Act → World → Prop} (hnd : ∀ c, o.op ≠ .defer c) {v' : Value} {w' : World}
    (hs : (execOp a.eval o).run P w = .ok (.value v') w') (hk : Kc (a.put o.dst v') w') : o.wpIn (FW ro) n P a w Kc Q := by
  refine ⟨fun _ _ => trivial, ?_⟩
  rw [Oper.semAt_eq _ _ _ hnd, hs]
  exact hk

theorem operS_ok {L : Lev} (hL : LevOk P L) {ro : Option Nat} {nn i : Nat} {ops : Array Oper} {o : Oper} {st : St} {a : Act} {kk : Option Kind} {v : Value} {Kc : Act → World → Prop} {Q : Exit → Act → World → Prop}
    (hi : ops[i]? = some o) (h : HR φ st.h w) (hf : Fresh φ st.h) (hw : Region.wanted o (yielded ops a.tmps) = Region.wanted o (aYielded ops st.tm))
    (hρ : ∀ x ∈ o.op.operands, okOperand st.h.gl x = true → VR φ (aEval st.h.gl st.tm x) (a.eval x)) (hx : operS P L ops o st = some (kk, v, K))
    (hk : ∀ ψ v' w', VR ψ v v' → Leaves φ st.h w ψ K w' → Kc (a.put o.dst v') w') : wpOpIn (FW ro) nn P ops Q i Kc a w := by
  unfold wpOpIn
  simp only [hi]
  unfold operS at hx
  rw [hw]
  cases hwant : Region.wanted o (aYielded ops st.tm) with
  | false =>
    rw [hwant, cond_false] at hx
    simp only [Option.some.injEq, Prod.mk.injEq] at hx
    obtain ⟨rfl, rfl, rfl⟩ := hx
    simp only [Bool.false_eq_true, if_false]
    exact ⟨fun _ _ => trivial, hk φ Go.undef w (VR.undef φ) (Leaves.same h hf)⟩
  | true =>
    rw [hwant, cond_true] at hx
    simp only [if_true]
    obtain ⟨hok, hx⟩ := bif_some hx
    have hρ' : ∀ x ∈ o.op.operands, VR φ (aEval st.h.gl st.tm x) (a.eval x) := fun x hx => hρ x hx (List.all_eq_true.1 hok x (by simpa using hx))
    cases hop : aOper P st.h (aEval st.h.gl st.tm) o with
    | none => rw [hop] at hx; cases hx
    | some q =>
    obtain ⟨k, x, H1⟩ := q
    rw [hop] at hx
    have hnd := not_defer hop
    unfold aOper at hop
    cases h1 : pureOp P (aEval st.h.gl st.tm) o with
    | some u =>
      rw [h1] at hop
      simp only [Option.some.injEq, Prod.mk.injEq] at hop
      obtain ⟨rfl, rfl, rfl⟩ := hop
      simp only [Option.some.injEq, Prod.mk.injEq] at hx
      obtain ⟨rfl, rfl, rfl⟩ := hx
      obtain ⟨v', r1, r2⟩ := pureOp_ok (P := P) (fun f => rfl) hρ' h1
      exact pureOk_upon hnd (r2 w) (hk φ v' w r1 (Leaves.same h hf))
    | none =>
    rw [h1] at hop
    simp only at hop
    cases h2 : readOp P st.h (aEval st.h.gl st.tm) o with
    | some u =>
      rw [h2] at hop
      simp only [Option.some.injEq, Prod.mk.injEq] at hop
      obtain ⟨rfl, rfl, rfl⟩ := hop
      simp only [Option.some.injEq, Prod.mk.injEq] at hx
      obtain ⟨rfl, rfl, rfl⟩ := hx
      obtain ⟨v', r1, r2⟩ := readOp_ok h hρ' h2
      exact pureOk_upon hnd r2 (hk φ v' w r1 (Leaves.same h hf))
    | none =>
    rw [h2] at hop
    simp only at hop
    cases h3 : newOp P (aEval st.h.gl st.tm) o with
    | some u =>
      obtain ⟨ob, kv⟩ := u
      rw [h3] at hop
      simp only [Option.some.injEq, Prod.mk.injEq] at hop
      obtain ⟨rfl, rfl, rfl⟩ := hop
      simp only [Option.some.injEq, Prod.mk.injEq] at hx
      obtain ⟨rfl, rfl, rfl⟩ := hx
      obtain ⟨o', v', w1, n1, r1, r2, r3, r4, r5, r6, r7, r8⟩ := newOp_ok hρ' h3 w
      obtain ⟨s1, s2, s3⟩ := h.push hf r6 r7 r2 r3 r4 r5
      exact pureOk_upon hnd r1 (hk _ v' w1 (r8 st.h.next) ⟨s1, s2, s3⟩)
    | none =>
    rw [h3] at hop
    simp only at hop
    cases h4 : effOp P st.h (aEval st.h.gl st.tm) o with
    | none => rw [h4] at hop; cases hop
    | some u =>
    obtain ⟨y, K1⟩ := u
    rw [h4] at hop
    simp only [Option.some.injEq, Prod.mk.injEq] at hop
    obtain ⟨rfl, rfl, rfl⟩ := hop
    have heff := effOp_ok h hf hρ' h4
    cases y with
    | value u =>
      simp only [Option.some.injEq, Prod.mk.injEq] at hx
      obtain ⟨rfl, rfl, rfl⟩ := hx
      obtain ⟨ψ, v', w', r1, r2, r3⟩ := heff
      exact pureOk_upon hnd r1 (hk ψ v' w' r3 r2)
    | skip =>
      simp only [Option.some.injEq, Prod.mk.injEq] at hx
      obtain ⟨rfl, rfl, rfl⟩ := hx
      obtain ⟨ψ, w', r1, r2⟩ := heff
      refine ⟨fun _ _ => trivial, ?_⟩
      rw [Oper.semAt_eq _ _ _ hnd, r1]
      exact hk ψ Go.undef w' (VR.undef ψ) r2
    | enter f args =>
      obtain ⟨rfl, args', r1, r2, _⟩ := heff
      simp only at hx
      cases hc : L.call f args st.h with
      | none => rw [hc] at hx; cases hx
      | some q =>
      obtain ⟨u, K2⟩ := q
      rw [hc] at hx
      simp only [Option.some.injEq, Prod.mk.injEq] at hx
      obtain ⟨rfl, rfl, rfl⟩ := hx
      refine ⟨fun _ _ => trivial, ?_⟩
      rw [Oper.semAt_eq _ _ _ hnd, r2]
      refine ⟨fun hd => (by cases hd), CallsIn.mono (callsIn_any (hL.call hc r1 h hf)) ?_⟩
      intro e w' he
      cases e with
      | returned v' => obtain ⟨ψ, q1, q2⟩ := he; exact hk ψ v' w' q1 q2
      | panicked _ => exact he.elim
      | outgrown => exact he.elim
    | round l args =>
      obtain ⟨rfl, b, args', hb, r1, r2⟩ := heff
      simp only at hx
      cases hc : roundS L l args st.h with
      | none => rw [hc] at hx; cases hx
      | some q =>
      obtain ⟨u, K2⟩ := q
      rw [hc] at hx
      simp only [Option.some.injEq, Prod.mk.injEq] at hx
      obtain ⟨rfl, rfl, rfl⟩ := hx
      obtain ⟨fn, tmps, assign, body, y1, y2⟩ := roundS_ok (P := P) (ro := ro) (nn := nn - 1) hL h hf hb r1 hc
      refine ⟨fun _ _ => trivial, ?_⟩
      rw [Oper.semAt_eq _ _ _ hnd, r2, y1]
      refine ⟨fun hd => (by cases hd), RoundIn.mono y2 ?_⟩
      intro e w' he
      cases e with
      | returned v' => obtain ⟨ψ, q1, q2⟩ := he; exact hk ψ v' w' q1 q2
      | panicked _ => exact he.elim
      | outgrown => exact he.elim

theorem SR.step {n : Nat} {st : St} {a : Act} {w' : World} {dst : Option Tmp} {v v' : Value} {tm' : T Value} (hs : SR φ n st a w) (hl : Leaves φ st.h w ψ K w') (hv : VR ψ v v') (hp : putT n st.tm dst v = some tm') :
    SR ψ n { st with tm := tm', h := K } (a.put dst v') w' :=
  ⟨hl.hr, hl.fresh, TR.put (hs.tr.mono hl.goes.ren) hs.size hv hp, by rw [put_size]; exact hs.size, by rw [put_defers]; exact hs.ds.mono hl.goes.ren⟩

/-- A region in the text's order. -/
theorem opsS_ok {L : Lev} (hL : LevOk P L) {ro : Option Nat} {nn n : Nat} {ops : Array Oper} {Q : Exit → Act → World → Prop} : ∀ (rest : List Oper) (i : Nat) (st st' : St) (φ : Ren) (a : Act) (w : World), rest = ops.toList.drop i →
    opsS P L n ops rest st = some st' → SR φ n st a w → (∀ ψ a' w', SR ψ n st' a' w' → Goes φ st.h w ψ st'.h w' → Q .normal a' w') → wpOpsIn (FW ro) nn P ops Q (List.range' i rest.length) a w
  | [], i, st, st', φ, a, w, _, hx, hs, hQ => by
    simp only [opsS, Option.some.injEq] at hx; subst hx
    exact hQ φ a w hs (Goes.refl _ _ _)
  | o :: rest, i, st, st', φ, a, w, hr, hx, hs, hQ => by
    have hlt : i < ops.toList.length := by
      rcases Nat.lt_or_ge i ops.toList.length with h | h
      · exact h
      · rw [List.drop_eq_nil_of_le h] at hr; cases hr
    rw [List.drop_eq_getElem_cons hlt] at hr
    simp only [List.cons.injEq] at hr
    obtain ⟨ho, hrest⟩ := hr
    have hi : ops[i]? = some o := by
      rw [← Array.getElem?_toList, List.getElem?_eq_getElem hlt, ← ho]
    simp only [opsS] at hx
    cases hop : operS P L ops o st with
    | none => rw [hop] at hx; cases hx
    | some q =>
    obtain ⟨kk, v, K⟩ := q
    rw [hop] at hx
    simp only at hx
    cases hp : putT n st.tm o.dst v with
    | none => rw [hp] at hx; cases hx
    | some tm' =>
    rw [hp] at hx
    simp only at hx
    show wpOpsIn (FW ro) nn P ops Q (i :: List.range' (i + 1) rest.length) a w
    rw [wpOpsIn_cons]
    refine operS_ok hL hi hs.hr hs.fresh (wanted_eq hs.tr ops o) (fun x _ hx => eval_ok hs.hr.glob hs.tr hx) hop ?_
    intro ψ v' w' hv hl
    refine opsS_ok hL rest (i + 1) _ st' ψ _ w' hrest hx (hs.step hl hv hp) ?_
    intro χ a2 w2 h2 g2
    exact hQ χ a2 w2 h2 (hl.goes.trans g2)
end Go.Vi
