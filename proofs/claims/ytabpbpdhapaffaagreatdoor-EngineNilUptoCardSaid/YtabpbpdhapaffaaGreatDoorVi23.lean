/-
  Calls whose arguments name no block, in whatever world.
-/
import Derived.Test.YtabpbpdhapaffaaGreatDoorVi22
import Derived.Below
set_option linter.unusedSimpArgs false
set_option linter.unusedVariables false
namespace Go.Vi
variable {P : Program} {w : World}

theorem HR.empty (w : World) (n : Nat) : HR ⟨fun _ => none, fun _ => 0⟩ ⟨n, 0, .nil⟩ w where
  dom := fun i o h => by cases h
  inj := fun i j o o' b h => by cases h
  glob := fun i h => absurd h (Nat.not_lt_zero _)
  rng := fun i b h => by cases h
  caps := fun i fl c e b c' fr h => by cases h
theorem below_of_goes {φ ψ : Ren} {n gl : Nat} {K : AHeap} {w' : World} (h : Goes φ ⟨n, gl, .nil⟩ w ψ K w') : RowKit.Below w.heap.size w w' :=
  ⟨h.os, h.tape, h.output, h.size, fun b hb => h.keep b hb (fun ⟨i, o, ho, _⟩ => by cases ho)⟩
/-- 'v', and what was there is as it was. -/
theorem closed_call (hm : P.follows .mixedOrders = true) (f : Nat) {g : FuncId} {args : Array Value} {v : Value} (hb : args.toList.all (bare 20) = true) (hv : bare 20 v = true)
    (hx : ((lev P f).call g args ⟨0, 0, .nil⟩).map (·.1) = some v) : Calls P g args w fun e w' => e = .returned v ∧ RowKit.Below w.heap.size w w' := by
  obtain ⟨q, hq, e⟩ := option_map_some hx
  obtain ⟨v', K⟩ := q
  simp only at e
  subst e
  have ha : AR ⟨fun _ => none, fun _ => 0⟩ args args := LR.refl_of fun u hu => bare_spec 20 u (List.all_eq_true.1 hb u hu)
  refine Calls.mono (call_sound hm f hq ha (HR.empty w 0) (fun _ _ => rfl)) ?_
  intro e w' he
  cases e with
  | returned u =>
    obtain ⟨ψ, h1, h2⟩ := he
    have := h1.inj_bare 20 hv
    subst this
    exact ⟨rfl, below_of_goes h2.goes⟩
  | panicked _ => exact he.elim
  | outgrown => exact he.elim
end Go.Vi
