/-
  States of an activation, and one operation within it.
-/
import Derived.Test.YtabpbpdhapaffaaGreatDoorVi14
import Derived.LoopNIn
set_option linter.unusedSimpArgs false
set_option linter.unusedVariables false
namespace Go.Vi
variable {P : Program} {φ ψ : Ren} {H K : AHeap} {w : World}

/-! ### States -/
/-- The marks among the deferred calls. -/
inductive DR (φ : Ren) : List Nat → List Deferred → Prop
  | nil : DR φ [] []
  | cons {i b : Nat} {l : List Nat} {ds : List Deferred} (h : φ i = some b) (k : DR φ l ds) : DR φ (i :: l) ({ target := .collected b, args := #[] } :: ds)
theorem DR.mono (h : φ.le ψ) {l : List Nat} {ds : List Deferred} (k : DR φ l ds) : DR ψ l ds := by
  induction k with
  | nil => exact .nil
  | cons e _ ih => exact .cons (h.1 _ _ e) ih
structure SR (φ : Ren) (n : Nat) (st : St) (a : Act) (w : World) : Prop where
  hr : HR φ st.h w
  fresh : Fresh φ st.h
  tr : TR φ st.tm a.tmps
  size : a.tmps.size = n
  ds : DR φ st.ds a.defers

theorem VR.undef_bool {v : Value} (h : VR φ v (.bool true) ∨ VR φ v (.bool false)) : ∃ b, v = .bool b := by
  rcases h with h | h <;> cases h <;> exact ⟨_, rfl⟩
theorem yielded_eq {tm : T Value} {tmps : Array Value} (h : TR φ tm tmps) (ops : Array Oper) (j : Nat) : yielded ops tmps j = aYielded ops tm j := by
  unfold yielded aYielded
  cases hd : (ops[j]?).bind (·.dst) with
  | none => rfl
  | some d =>
    simp only [Option.bind_some]
    have ht := h d
    cases hg : tm.get d with
    | none =>
      rw [hg] at ht
      simp only [Option.getD_none] at ht
      cases hx : tmps[d]? with
      | none => rfl
      | some x =>
        have e : tmps.getD d Go.undef = x := by rw [Array.getD_eq_getD_getElem?, hx]; rfl
        rw [e] at ht
        cases x <;> first | rfl | (cases ht; done)
    | some y =>
      rw [hg] at ht
      simp only [Option.getD_some] at ht
      cases hx : tmps[d]? with
      | none =>
        have e : tmps.getD d Go.undef = Go.undef := by rw [Array.getD_eq_getD_getElem?, hx]; rfl
        rw [e] at ht
        cases y <;> first | rfl | (cases ht; done)
      | some x =>
        have e : tmps.getD d Go.undef = x := by rw [Array.getD_eq_getD_getElem?, hx]; rfl
        rw [e] at ht
        cases ht <;> rfl
theorem wanted_eq {tm : T Value} {tmps : Array Value} (h : TR φ tm tmps) (ops : Array Oper) (o : Oper) : Region.wanted o (yielded ops tmps) = Region.wanted o (aYielded ops tm) := by
  congr 1; funext j; exact yielded_eq h ops j
theorem eval_ok {gl : Nat} (hg : ∀ i, i < gl → φ i = some i) {tm : T Value} {a : Act} (h : TR φ tm a.tmps) {x : Operand} (hx : okOperand gl x = true) : VR φ (aEval gl tm x) (a.eval x) := by
  cases x with
  | tmp t => exact h t
  | const v => exact bare_spec 20 v hx
  | global g =>
    have hb : Nat.blt g gl = true := hx
    have hlt : g < gl := Nat.le_of_ble_eq_true hb
    simp only [aEval, hb, cond_true, Act.eval]
    exact .ptr (hg g hlt)
  | func f => exact VR.func' (.func f) (LR.nil φ) (LR.nil φ)
theorem TR.put {n : Nat} {tm tm' : T Value} {a : Act} {dst : Option Tmp} {v v' : Value} (h : TR φ tm a.tmps) (hn : a.tmps.size = n) (hv : VR φ v v') (hp : putT n tm dst v = some tm') : TR φ tm' (a.put dst v').tmps := by
  cases dst with
  | none => simp only [putT, Option.some.injEq] at hp; subst hp; exact h
  | some d =>
    simp only [putT] at hp
    obtain ⟨hlt, hp⟩ := bif_some hp
    have hlt : d < n := Nat.le_of_ble_eq_true hlt
    simp only [Option.some.injEq] at hp; subst hp
    intro t
    simp only [Act.put, Array.getD_eq_getD_getElem?, Array.getElem?_setIfInBounds]
    rw [T.get_put]
    by_cases ht : t = d
    · subst ht
      rw [if_pos rfl, if_pos rfl, if_pos (hn ▸ hlt)]
      exact hv
    · rw [if_neg ht, if_neg (Ne.symm ht)]
      have := h t
      rwa [Array.getD_eq_getD_getElem?] at this
theorem put_size (a : Act) (dst : Option Tmp) (v : Value) : (a.put dst v).tmps.size = a.tmps.size := by cases dst <;> simp [Act.put]
theorem put_defers (a : Act) (dst : Option Tmp) (v : Value) : (a.put dst v).defers = a.defers := by cases dst <;> rfl

/-! ### The fence -/
def FW (ro : Option Nat) : Fence := { Fence.wide with round := ro }
inductive RoR (φ : Ren) : Option Nat → Option Nat → Prop
  | none : RoR φ none none
  | some {l b : Nat} (h : φ l = some b) : RoR φ (some l) (some b)
theorem RoR.mono (h : φ.le ψ) {x y : Option Nat} (k : RoR φ x y) : RoR ψ x y := by
  cases k with
  | none => exact .none
  | some e => exact .some (h.1 _ _ e)
theorem callsIn_any {ro ro' : Option Nat} {n n' : Nat} {f : FuncId} {args : Array Value} {R : Ending → World → Prop} (h : CallsIn (FW ro) n P f args w R) : CallsIn (FW ro') n' P f args w R :=
  ⟨trivial, fun cs _ => h.2 cs (fun d hd => by cases hd)⟩

/-- What a call leaves. -/
def RetOk (φ : Ren) (H : AHeap) (w : World) (v : Value) (K : AHeap) : Ending → World → Prop
  | .returned v', w' => ∃ ψ, VR ψ v v' ∧ Leaves φ H w ψ K w'
  | _, _ => False
inductive XR : AExit → Exit → Prop
  | normal : XR .normal .normal
  | exit (id : Nat) : XR (.exit id) (.exit id)
  | goto (l : Nat) : XR (.goto l) (.goto l)
  | ret : XR .ret .ret
/-- What a piece of code leaves. -/
def PostC (φ : Ren) (n : Nat) (H : AHeap) (w : World) (e : AExit) (st' : St) (x : Exit) (a' : Act) (w' : World) : Prop :=
  XR e x ∧ ∃ ψ, SR ψ n st' a' w' ∧ Goes φ H w ψ st'.h w'
theorem PostC.after {n : Nat} {w1 : World} {e : AExit} {st' : St} {x : Exit} {a' : Act} {w' : World} (hg : Goes φ H w ψ K w1) (h : PostC ψ n K w1 e st' x a' w') : PostC φ n H w e st' x a' w' :=
  ⟨h.1, let ⟨χ, h1, h2⟩ := h.2; ⟨χ, h1, hg.trans h2⟩⟩

/-- Code of a scope, walked from label to label. -/
def passesIn (F : Fence) (n : Nat) (P : Program) (whole : Code) (Q : Exit → Act → World → Prop) : Nat → Code → Act → World → Prop
  | 0, _, _, _ => False
  | m + 1, c, a, w => c.wpIn F n P (fun e a w => match e with
      | .goto l => match findLabel whole l with
        | some rest => passesIn F n P whole Q m rest a w
        | none => Q (.goto l) a w
      | e => Q e a w) a w

/-- One level's word. -/
structure LevOk (P : Program) (L : Lev) : Prop where
  call : ∀ {g : FuncId} {args args' : Array Value} {H K : AHeap} {v : Value} {φ : Ren} {w : World}, L.call g args H = some (v, K) → AR φ args args' → HR φ H w → Fresh φ H →
    CallsIn (FW none) 0 P g args' w (RetOk φ H w v K)
  code : ∀ {ro ro' : Option Nat} {n : Nat} {c : Code} {st st' : St} {e : AExit} {φ : Ren} {a : Act} {w : World}, L.code ro n c st = some (e, st') → RoR φ ro ro' → SR φ n st a w →
    c.wpIn (FW ro') 0 P (PostC φ n st.h w e st') a w

/-! ### Loops over functions: their records -/
theorem HR.loopObj (h : HR φ H w) {i b : Nat} {st : LoopState} {pend : Option Code} {tm : T Value} {n : Nat} {ps : Array Tmp} {assign body : Code} {d : Nat} (hi : H.objs.get i = some (.loop st pend tm n ps assign body d)) (hb : φ i = some b) :
    ∃ fn tmps bd, w.heap[b]? = some (.loop ⟨st, pend, fn, tmps, ps, assign, body, bd⟩) ∧ TR φ tm tmps ∧ tmps.size = n ∧ φ d = some bd := by
  obtain ⟨o', h1, h2⟩ := h.obj hi hb
  cases h2
  rename_i ht hd
  exact ⟨_, _, _, h1, ht, rfl, hd⟩
theorem getLoop_run {b : Nat} {r : Loop} (h : w.heap[b]? = some (.loop r)) : (Instr.getLoop b).run P w = .ok r w := by
  simp only [Instr.getLoop, Sem.run_bind, getObj_run h (fun _ _ _ e => by cases e), Result.andThen_ok, Sem.run_pure]
theorem foldl_zip (ps : Array Tmp) (args : Array Value) (tmps : Array Value) : ((ps.zip args).foldl (fun (tmps : Array Value) (x : Tmp × Value) => tmps.setIfInBounds x.1 x.2) tmps) = ((ps.toList.zip args.toList).foldl (fun (tmps : Array Value) (x : Tmp × Value) => tmps.setIfInBounds x.1 x.2) tmps) := by
  rw [← Array.foldl_toList, Array.toList_zip]
theorem params_ok {n : Nat} : ∀ (ps : List Tmp) (args args' : List Value) (tm tm' : T Value) (tmps : Array Value), TR φ tm tmps → tmps.size = n → LR φ args args' → paramsT n (ps.zip args) tm = some tm' →
    TR φ tm' ((ps.zip args').foldl (fun (tmps : Array Value) (x : Tmp × Value) => tmps.setIfInBounds x.1 x.2) tmps) ∧ ((ps.zip args').foldl (fun (tmps : Array Value) (x : Tmp × Value) => tmps.setIfInBounds x.1 x.2) tmps).size = n
  | [], args, args', tm, tm', tmps, ht, hn, _, hp => by simp [paramsT] at hp; subst hp; exact ⟨ht, hn⟩
  | p :: ps, [], args', tm, tm', tmps, ht, hn, ha, hp => by
    rw [ha.nil_inv]
    simp [paramsT] at hp; subst hp; exact ⟨ht, hn⟩
  | p :: ps, v :: args, args', tm, tm', tmps, ht, hn, ha, hp => by
    obtain ⟨v', l', rfl, hv, hl⟩ := ha.cons_inv
    simp only [List.zip_cons_cons, paramsT] at hp
    obtain ⟨hlt, hp⟩ := bif_some hp
    have h1 := TR.put (a := ⟨tmps, []⟩) (dst := some p) (v' := v') ht hn hv (tm' := tm.put p v) (by simp only [putT]; rw [hlt]; rfl)
    exact params_ok ps args l' _ tm' _ h1 (by simpa [Act.put] using hn) hl hp
end Go.Vi
