/-
  Closed facts of the row of 'EngineNotes', part 3: each by the kernel. Printed by a program of mine (mkrow.py).
-/
import Derived.Test.YtabpbpdhapaffaaGreatDoorChecked
import Derived.Test.YtabpbpdhapaffaaGreatDoorRows
import Derived.JoinedOf
import Derived.KernelRfl
namespace Go.Proofs.YtabpbpdhapaffaaGreatDoor.engineNotes
set_option maxRecDepth 100000
set_option linter.unusedVariables false
theorem k23 : (fun (P : Program) (f : FuncId) (fn : Func) (s : ChangeSpec) (c : OpenClaim) => ((c.plainKeys == P.plainKeys) : Bool)) Tryz.prog 5 Tryz.f5 Rows.engineNotesSpec Rows.engineNotesRow = true := by kernel_rfl
theorem k24 : (fun (P : Program) (f : FuncId) (fn : Func) (s : ChangeSpec) (c : OpenClaim) => (c.shortTexts.isNone : Bool)) Tryz.prog 5 Tryz.f5 Rows.engineNotesSpec Rows.engineNotesRow = true := by kernel_rfl
theorem k25 : (fun (P : Program) (f : FuncId) (fn : Func) (s : ChangeSpec) (c : OpenClaim) => (P.stopsHeard : Bool)) Tryz.prog 5 Tryz.f5 Rows.engineNotesSpec Rows.engineNotesRow = true := by kernel_rfl
theorem k26 : (fun (P : Program) (f : FuncId) (fn : Func) (s : ChangeSpec) (c : OpenClaim) => (P.mayEnter : Bool)) Tryz.prog 5 Tryz.f5 Rows.engineNotesSpec Rows.engineNotesRow = true := by kernel_rfl
theorem k27 : (fun (P : Program) (f : FuncId) (fn : Func) (s : ChangeSpec) (c : OpenClaim) => ((c.lifted == P.liftsFinal) : Bool)) Tryz.prog 5 Tryz.f5 Rows.engineNotesSpec Rows.engineNotesRow = true := by kernel_rfl
theorem k28 : (fun (P : Program) (f : FuncId) (fn : Func) (s : ChangeSpec) (c : OpenClaim) => ((P.make == some c.make) : Bool)) Tryz.prog 5 Tryz.f5 Rows.engineNotesSpec Rows.engineNotesRow = true := by kernel_rfl
theorem k29 : (fun (P : Program) (f : FuncId) (fn : Func) (s : ChangeSpec) (c : OpenClaim) => ((c.kinds == (if c.domain.isEmpty then [] else fn.params.toList.map fun t => match P.underlying t with | some (.int k) => some k | _ => none)) : Bool)) Tryz.prog 5 Tryz.f5 Rows.engineNotesSpec Rows.engineNotesRow = true := by kernel_rfl
theorem k30 : (fun (P : Program) (f : FuncId) (fn : Func) (s : ChangeSpec) (c : OpenClaim) => ((c.pinned == c.pinnedBy) : Bool)) Tryz.prog 5 Tryz.f5 Rows.engineNotesSpec Rows.engineNotesRow = true := by kernel_rfl
theorem k31 : (fun (P : Program) (f : FuncId) (fn : Func) (s : ChangeSpec) (c : OpenClaim) => ((c.veiled == (fn.params.toList ++ s.plain.varTypes P ++ fn.resultTypes.toList).any (P.veiledRec ·)) : Bool)) Tryz.prog 5 Tryz.f5 Rows.engineNotesSpec Rows.engineNotesRow = true := by kernel_rfl
theorem k32 : (fun (P : Program) (f : FuncId) (fn : Func) (s : ChangeSpec) (c : OpenClaim) => (c.veiledFits P fn.params.toList (fn.params.toList ++ s.plain.varTypes P ++ fn.resultTypes.toList) : Bool)) Tryz.prog 5 Tryz.f5 Rows.engineNotesSpec Rows.engineNotesRow = true := by kernel_rfl
end Go.Proofs.YtabpbpdhapaffaaGreatDoor.engineNotes
