/-
  Closed facts of the row of 'EngineNotes', part 2: each by the kernel. Printed by a program of mine (mkrow.py).
-/
import Derived.Test.YtabpbpdhapaffaaGreatDoorChecked
import Derived.Test.YtabpbpdhapaffaaGreatDoorRows
import Derived.JoinedOf
import Derived.KernelRfl
namespace Go.Proofs.YtabpbpdhapaffaaGreatDoor.engineNotes
set_option maxRecDepth 100000
set_option linter.unusedVariables false
theorem k12 : (fun (P : Program) (f : FuncId) (fn : Func) (s : ChangeSpec) (c : OpenClaim) => ((c.recurses == P.recurses f) : Bool)) Tryz.prog 5 Tryz.f5 Rows.engineNotesSpec Rows.engineNotesRow = true := by kernel_rfl
theorem k13 : (fun (P : Program) (f : FuncId) (fn : Func) (s : ChangeSpec) (c : OpenClaim) => ((c.named == P.varsNamed f) : Bool)) Tryz.prog 5 Tryz.f5 Rows.engineNotesSpec Rows.engineNotesRow = true := by kernel_rfl
theorem k14 : (fun (P : Program) (f : FuncId) (fn : Func) (s : ChangeSpec) (c : OpenClaim) => ((c.maps == (fn.params.toList ++ s.plain.varTypes P).any (P.mapsRec ·)) : Bool)) Tryz.prog 5 Tryz.f5 Rows.engineNotesSpec Rows.engineNotesRow = true := by kernel_rfl
theorem k15 : (fun (P : Program) (f : FuncId) (fn : Func) (s : ChangeSpec) (c : OpenClaim) => ((c.ifaces == (fn.params.toList ++ s.plain.varTypes P).any (P.ifacesRec ·)) : Bool)) Tryz.prog 5 Tryz.f5 Rows.engineNotesSpec Rows.engineNotesRow = true := by kernel_rfl
theorem k16 : (fun (P : Program) (f : FuncId) (fn : Func) (s : ChangeSpec) (c : OpenClaim) => ((c.mapsOut == P.mapsAmong fn.resultTypes.toList) : Bool)) Tryz.prog 5 Tryz.f5 Rows.engineNotesSpec Rows.engineNotesRow = true := by kernel_rfl
theorem k17 : (fun (P : Program) (f : FuncId) (fn : Func) (s : ChangeSpec) (c : OpenClaim) => ((c.loops == (fn.params.toList ++ s.plain.varTypes P).any (P.loopsFrom ·)) : Bool)) Tryz.prog 5 Tryz.f5 Rows.engineNotesSpec Rows.engineNotesRow = true := by kernel_rfl
theorem k18 : (fun (P : Program) (f : FuncId) (fn : Func) (s : ChangeSpec) (c : OpenClaim) => ((c.wideKeys == (fn.params.toList ++ s.plain.varTypes P ++ fn.resultTypes.toList).any (P.wideKeysFrom ·)) : Bool)) Tryz.prog 5 Tryz.f5 Rows.engineNotesSpec Rows.engineNotesRow = true := by kernel_rfl
theorem k19 : (fun (P : Program) (f : FuncId) (fn : Func) (s : ChangeSpec) (c : OpenClaim) => (s.vars.all (P.varReadable ·) : Bool)) Tryz.prog 5 Tryz.f5 Rows.engineNotesSpec Rows.engineNotesRow = true := by kernel_rfl
theorem k20 : (fun (P : Program) (f : FuncId) (fn : Func) (s : ChangeSpec) (c : OpenClaim) => (fn.resultTypes.all (fun t => P.readableRec t && decide (t < P.types.size)) : Bool)) Tryz.prog 5 Tryz.f5 Rows.engineNotesSpec Rows.engineNotesRow = true := by kernel_rfl
theorem k21 : (fun (P : Program) (f : FuncId) (fn : Func) (s : ChangeSpec) (c : OpenClaim) => ((c.ifacesOut == fn.resultTypes.toList.any (P.ifacesRec ·)) : Bool)) Tryz.prog 5 Tryz.f5 Rows.engineNotesSpec Rows.engineNotesRow = true := by kernel_rfl
theorem k22 : (fun (P : Program) (f : FuncId) (fn : Func) (s : ChangeSpec) (c : OpenClaim) => ((c.loopsOut == fn.resultTypes.toList.any (P.loopsFrom ·)) : Bool)) Tryz.prog 5 Tryz.f5 Rows.engineNotesSpec Rows.engineNotesRow = true := by kernel_rfl
end Go.Proofs.YtabpbpdhapaffaaGreatDoor.engineNotes
