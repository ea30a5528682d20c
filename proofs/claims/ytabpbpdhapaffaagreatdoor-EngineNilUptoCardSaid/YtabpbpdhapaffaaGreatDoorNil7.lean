import Derived.Test.YtabpbpdhapaffaaGreatDoorNil6
set_option linter.unusedSimpArgs false
set_option linter.unusedVariables false
namespace Go.Proofs.YtabpbpdhapaffaaGreatDoor.engineNil
open Go.ChangeShapes Go.WideShapes Go.ChangeAt Go.RowKit
def cellsOfLaid {H : Type} : DataW H → Array Value
  | .agg xs => (xs.map fun | .lit (.int k n) => Value.int k n | _ => .bool false).toArray
  | _ => #[]
def arg : Value := .agg #[.int .i64 0, .int .i64 0, .slice none 0 0, .slice none 0 0, .int .i64 0, .int .i64 0, .string .empty, .slice none 0 0]
def setCells (h : Array Obj) (g : Nat) (cs : Array Value) : Array Obj := h.modify g fun | .cells _ t frozen => .cells cs t frozen | o => o
/-- The heap with the tables laid. -/
def laidHeap (h : Array Obj) : Array Obj := setCells (setCells (setCells h 2 (cellsOfLaid (H := Unit) Rows.laid_internal_strconv_uint64pow10)) 3 (cellsOfLaid (H := Unit) Rows.laid_math_bits_deBruijn64tab)) 4 (cellsOfLaid (H := Unit) Rows.laid_math_bits_deBruijn32tab)
/-- A world for the witness: the tables hold what their initialisers lay. -/
noncomputable def laidWorld (os : Os) : World := { World.holding Tryz.prog os ⟨#[], #[], []⟩ with heap := laidHeap (World.holding Tryz.prog os ⟨#[], #[], []⟩).heap }
set_option maxRecDepth 100000 in
theorem laid_met (os : Os) : laidMet Tryz.prog Rows.engineNilRow.laid ((laidWorld os).forCall (fun _ _ => 0) ⟨#[], #[arg], []⟩).memory :=
  laidMet_of_run' 8 (by kernel_rfl) (by kernel_rfl)
set_option maxRecDepth 100000 in
theorem reads (os : Os) {H : Type} (enc : TypeId × Value → H) : ∃ places, DataW.whole enc Tryz.prog ((laidWorld os).forCall (fun _ _ => 0) ⟨#[], #[arg], []⟩).memory Tryz.f10.params.toList Rows.engineNilSpec.vars false #[arg].toList 8 =
    some ([.agg [.lit (.int .i64 0), .lit (.int .i64 0), .nil, .nil, .lit (.int .i64 0), .lit (.int .i64 0), .lit (.string []), .nil]], [], places) :=
  ⟨[], by kernel_rfl⟩

set_option maxRecDepth 100000 in
theorem lifted (os : Os) (started : os.Started) (H : Type) (enc : TypeId × Value → H) (F : Stop.Interp) :
    ReturnsInHanded {} Tryz.checked os 10 .any ((OpenSpec.ofChange Rows.engineNilSpec).preRow enc Tryz.prog Tryz.f10 Rows.engineNilRow.domain false Rows.engineNilRow.laid) (((OpenSpec.ofChange Rows.engineNilSpec).at F).post enc Tryz.prog Tryz.f10 false true false false) := by
  obtain ⟨places, hx⟩ := reads os enc
  refine returnsInHanded_of_row (C := Tryz.checked) (s := OpenSpec.ofChange Rows.engineNilSpec) own started (by kernel_rfl) Tryz.func10
    (witness_row_at (enc := enc) (C := Tryz.checked) false (laidWorld os) #[arg] rfl (by kernel_rfl) (by kernel_rfl) (by kernel_rfl)
      (OpenSpec.preRow_of_cond 8 hx (by kernel_rfl) (fun k hk => by cases hk) (by kernel_rfl) (laid_met os))) ?_
  intro W base args ds gs before hval hW _ _ _ _ _ _
  exact contract H enc W base args ds gs before hval hW

end Go.Proofs.YtabpbpdhapaffaaGreatDoor.engineNil
