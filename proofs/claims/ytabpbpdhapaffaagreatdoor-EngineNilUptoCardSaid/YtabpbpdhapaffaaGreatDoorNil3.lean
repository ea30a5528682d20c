import Derived.Test.YtabpbpdhapaffaaGreatDoorProg
import Derived.Test.YtabpbpdhapaffaaGreatDoorVi23
import Derived.WalkKit
set_option linter.unusedSimpArgs false
set_option linter.unusedVariables false
namespace Go.Proofs.YtabpbpdhapaffaaGreatDoor
open Go.RowKit
set_option maxRecDepth 100000
theorem mixed : Tryz.prog.follows .mixedOrders = true := by kernel_rfl
theorem awake_any (w : World) : Calls Tryz.prog 12 #[] w fun e w' => e = .returned (.bool true) ∧ Below w.heap.size w w' :=
  Vi.closed_call mixed 200 rfl rfl (by kernel_rfl)
theorem open_nil (w : World) : Calls Tryz.prog 34 #[.pointer none] w fun e w' => e = .returned (.tuple #[.pointer none, .int .i64 8]) ∧ Below w.heap.size w w' :=
  Vi.closed_call mixed 60 rfl rfl (by kernel_rfl)
theorem merge_nil (w : World) : Calls Tryz.prog 28 #[.pointer none] w fun e w' => e = .returned (.tuple #[.bool false, .int .i64 8]) ∧ Below w.heap.size w w' :=
  Vi.closed_call mixed 60 rfl rfl (by kernel_rfl)
theorem index_names : (((Vi.lev Tryz.prog 60).call 40 #[.pointer none] ⟨0, 0, .nil⟩).bind fun p => ((Vi.lev Tryz.prog 60).call 41 #[p.1] p.2).map (·.1)) = some (.slice none 0 0) := by kernel_rfl
theorem index_nil (w : World) : Calls Tryz.prog 40 #[.pointer none] w fun e w' => ∃ p, e = .returned p ∧ Below w.heap.size w w' ∧ Calls Tryz.prog 41 #[p] w' fun e w'' => e = .returned (.slice none 0 0) ∧ Below w.heap.size w w'' := by
  have h := index_names
  obtain ⟨p, h1, h2⟩ := Option.bind_eq_some_iff.1 h
  obtain ⟨v, K⟩ := p
  obtain ⟨q, h3, h4⟩ := Option.map_eq_some_iff.1 h2
  obtain ⟨u, K2⟩ := q
  simp only at h4
  subst h4
  have ha : Vi.AR ⟨fun _ => none, fun _ => 0⟩ #[Value.pointer none] #[Value.pointer none] := Vi.AR.one .ptrNil
  refine Calls.mono (Vi.call_sound mixed 60 h1 ha (Vi.HR.empty w 0) (fun _ _ => rfl)) ?_
  intro e w' he
  cases e with
  | returned x =>
    obtain ⟨ψ, r1, r2⟩ := he
    refine ⟨x, rfl, Vi.below_of_goes r2.goes, Calls.mono (Vi.call_sound mixed 60 h3 (Vi.AR.one r1) r2.hr r2.fresh) ?_⟩
    intro e w'' he
    cases e with
    | returned y =>
      obtain ⟨χ, r3, r4⟩ := he
      have := r3.inj_bare 20 rfl
      subst this
      exact ⟨rfl, Vi.below_of_goes (r2.goes.trans r4.goes)⟩
    | panicked _ => exact he.elim
    | outgrown => exact he.elim
  | panicked _ => exact he.elim
  | outgrown => exact he.elim
theorem read_nil (s t : ByteArray) (a b : Int) (w : World) : Calls Tryz.prog 39 #[.pointer none, .string s, .string t, .int .i64 a, .int .i64 b] w fun e w' => e = .returned (.slice none 0 0) ∧ Below w.heap.size w w' :=
  Vi.closed_call mixed 60 rfl rfl (by kernel_rfl)
end Go.Proofs.YtabpbpdhapaffaaGreatDoor
