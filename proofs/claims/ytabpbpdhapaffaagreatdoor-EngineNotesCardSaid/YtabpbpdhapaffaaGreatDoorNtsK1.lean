/-
  Closed facts of the row of 'EngineNotes', part 1: each by the kernel. Printed by a program of mine (mkrow.py).
-/
import Derived.Test.YtabpbpdhapaffaaGreatDoorChecked
import Derived.Test.YtabpbpdhapaffaaGreatDoorRows
import Derived.JoinedOf
import Derived.KernelRfl
namespace Go.Proofs.YtabpbpdhapaffaaGreatDoor.engineNotes
set_option maxRecDepth 100000
set_option linter.unusedVariables false
theorem k1 : (fun (P : Program) (f : FuncId) (fn : Func) (s : ChangeSpec) (c : OpenClaim) => (c.wf (OpenSpec.ofChange s) : Bool)) Tryz.prog 5 Tryz.f5 Rows.engineNotesSpec Rows.engineNotesRow = true := by kernel_rfl
theorem k2 : (fun (P : Program) (f : FuncId) (fn : Func) (s : ChangeSpec) (c : OpenClaim) => (laidOutB P : Bool)) Tryz.prog 5 Tryz.f5 Rows.engineNotesSpec Rows.engineNotesRow = true := by kernel_rfl
theorem k3 : (fun (P : Program) (f : FuncId) (fn : Func) (s : ChangeSpec) (c : OpenClaim) => (mapsRowed P : Bool)) Tryz.prog 5 Tryz.f5 Rows.engineNotesSpec Rows.engineNotesRow = true := by kernel_rfl
theorem k4 : (fun (P : Program) (f : FuncId) (fn : Func) (s : ChangeSpec) (c : OpenClaim) => (fn.params.all (P.readableRec ·) : Bool)) Tryz.prog 5 Tryz.f5 Rows.engineNotesSpec Rows.engineNotesRow = true := by kernel_rfl
theorem k5 : (fun (P : Program) (f : FuncId) (fn : Func) (s : ChangeSpec) (c : OpenClaim) => (namedTie P c.named s.vars : Bool)) Tryz.prog 5 Tryz.f5 Rows.engineNotesSpec Rows.engineNotesRow = true := by kernel_rfl
theorem k6 : (fun (P : Program) (f : FuncId) (fn : Func) (s : ChangeSpec) (c : OpenClaim) => ((c.stops == []) : Bool)) Tryz.prog 5 Tryz.f5 Rows.engineNotesSpec Rows.engineNotesRow = true := by kernel_rfl
theorem k7 : (fun (P : Program) (f : FuncId) (fn : Func) (s : ChangeSpec) (c : OpenClaim) => ((P.stops == []) : Bool)) Tryz.prog 5 Tryz.f5 Rows.engineNotesSpec Rows.engineNotesRow = true := by kernel_rfl
theorem k8 : (fun (P : Program) (f : FuncId) (fn : Func) (s : ChangeSpec) (c : OpenClaim) => ((c.knobs == []) : Bool)) Tryz.prog 5 Tryz.f5 Rows.engineNotesSpec Rows.engineNotesRow = true := by kernel_rfl
theorem k9 : (fun (P : Program) (f : FuncId) (fn : Func) (s : ChangeSpec) (c : OpenClaim) => ((P.stopKnobs == []) : Bool)) Tryz.prog 5 Tryz.f5 Rows.engineNotesSpec Rows.engineNotesRow = true := by kernel_rfl
theorem k10 : (fun (P : Program) (f : FuncId) (fn : Func) (s : ChangeSpec) (c : OpenClaim) => ((c.inPlace == P.inPlace f) : Bool)) Tryz.prog 5 Tryz.f5 Rows.engineNotesSpec Rows.engineNotesRow = true := by kernel_rfl
theorem k11 : (fun (P : Program) (f : FuncId) (fn : Func) (s : ChangeSpec) (c : OpenClaim) => ((c.unfollowed == P.unfollowed f) : Bool)) Tryz.prog 5 Tryz.f5 Rows.engineNotesSpec Rows.engineNotesRow = true := by kernel_rfl
end Go.Proofs.YtabpbpdhapaffaaGreatDoor.engineNotes
