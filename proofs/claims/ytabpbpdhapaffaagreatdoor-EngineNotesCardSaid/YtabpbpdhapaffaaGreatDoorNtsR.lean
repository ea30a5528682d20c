/-
  'EngineNotes' returns true whatever the input, and the input reads as it did: the row and its card. Conditions: the tables that the row lists hold what the program lays. Printed by a program of mine (mkrow.py).
-/
import Derived.Test.YtabpbpdhapaffaaGreatDoorNtsK1
import Derived.Test.YtabpbpdhapaffaaGreatDoorNtsK2
import Derived.Test.YtabpbpdhapaffaaGreatDoorNtsK3
import Derived.Test.YtabpbpdhapaffaaGreatDoorNts27
import Derived.Test.YtabpbpdhapaffaaGreatDoorCards
import Derived.Test.YtabpbpdhapaffaaGreatDoorTie
import Derived.JoinedCond
import Derived.SevenTiedAt
import Derived.Deep.DeepHandedRow
namespace Go.Proofs.YtabpbpdhapaffaaGreatDoor.engineNotes
open Go.ChangeShapes Go.WideShapes Go.ChangeAt Go.RowKit
set_option maxRecDepth 100000
set_option linter.unusedVariables false
theorem and2 {a b : Bool} (h : a = true) (k : b = true) : (a && b) = true := by rw [h, k]; rfl
theorem joined_of {P : Program} {f : FuncId} {fn : Func} {s : ChangeSpec} {c : OpenClaim} 
    (h1 : (c.wf (OpenSpec.ofChange s)) = true)
    (h2 : (laidOutB P) = true)
    (h3 : (mapsRowed P) = true)
    (h4 : (fn.params.all (P.readableRec ·)) = true)
    (h5 : (namedTie P c.named s.vars) = true)
    (h6 : ((c.stops == [])) = true)
    (h7 : ((P.stops == [])) = true)
    (h8 : ((c.knobs == [])) = true)
    (h9 : ((P.stopKnobs == [])) = true)
    (h10 : ((c.inPlace == P.inPlace f)) = true)
    (h11 : ((c.unfollowed == P.unfollowed f)) = true)
    (h12 : ((c.recurses == P.recurses f)) = true)
    (h13 : ((c.named == P.varsNamed f)) = true)
    (h14 : ((c.maps == (fn.params.toList ++ s.plain.varTypes P).any (P.mapsRec ·))) = true)
    (h15 : ((c.ifaces == (fn.params.toList ++ s.plain.varTypes P).any (P.ifacesRec ·))) = true)
    (h16 : ((c.mapsOut == P.mapsAmong fn.resultTypes.toList)) = true)
    (h17 : ((c.loops == (fn.params.toList ++ s.plain.varTypes P).any (P.loopsFrom ·))) = true)
    (h18 : ((c.wideKeys == (fn.params.toList ++ s.plain.varTypes P ++ fn.resultTypes.toList).any (P.wideKeysFrom ·))) = true)
    (h19 : (s.vars.all (P.varReadable ·)) = true)
    (h20 : (fn.resultTypes.all (fun t => P.readableRec t && decide (t < P.types.size))) = true)
    (h21 : ((c.ifacesOut == fn.resultTypes.toList.any (P.ifacesRec ·))) = true)
    (h22 : ((c.loopsOut == fn.resultTypes.toList.any (P.loopsFrom ·))) = true)
    (h23 : ((c.plainKeys == P.plainKeys)) = true)
    (h24 : (c.shortTexts.isNone) = true)
    (h25 : (P.stopsHeard) = true)
    (h26 : (P.mayEnter) = true)
    (h27 : ((c.lifted == P.liftsFinal)) = true)
    (h28 : ((P.make == some c.make)) = true)
    (h29 : ((c.kinds == (if c.domain.isEmpty then [] else fn.params.toList.map fun t => match P.underlying t with | some (.int k) => some k | _ => none))) = true)
    (h30 : ((c.pinned == c.pinnedBy)) = true)
    (h31 : ((c.veiled == (fn.params.toList ++ s.plain.varTypes P ++ fn.resultTypes.toList).any (P.veiledRec ·))) = true)
    (h32 : (c.veiledFits P fn.params.toList (fn.params.toList ++ s.plain.varTypes P ++ fn.resultTypes.toList)) = true) : joinedFacts P f fn s c = true := by
  unfold joinedFacts
  exact and2 (and2 (and2 (and2 (and2 (and2 (and2 (and2 (and2 (and2 (and2 (and2 (and2 (and2 (and2 (and2 (and2 (and2 (and2 (and2 (and2 (and2 (and2 (and2 (and2 (and2 (and2 (and2 (and2 (and2 (and2 h1 h2) h3) h4) h5) h6) h7) h8) h9) h10) h11) h12) h13) h14) h15) h16) h17) h18) h19) h20) h21) h22) h23) h24) h25) h26) h27) h28) h29) h30) h31) h32
theorem joined : joinedFacts Tryz.prog 5 Tryz.f5 Rows.engineNotesSpec Rows.engineNotesRow = true :=
  joined_of k1 k2 k3 k4 k5 k6 k7 k8 k9 k10 k11 k12 k13 k14 k15 k16 k17 k18 k19 k20 k21 k22 k23 k24 k25 k26 k27 k28 k29 k30 k31 k32
theorem named : Tryz.prog.funcNamed "grist/gristlaw22.EngineNotes" = some 5 := by kernel_rfl
theorem inst : Tryz.f5.isInstance Tryz.prog (Rows.engineNotesRow).origin (Rows.engineNotesRow).targs := of_decide_eq_true (by kernel_rfl)
theorem wraps : Tryz.f5.isWrapper Tryz.prog (Rows.engineNotesRow).wrapper (Rows.engineNotesRow).mainSum := by
  unfold Func.isWrapper
  first
    | (rw [if_pos (by decide +kernel)]; kernel_rfl)
    | (rw [if_neg (by decide +kernel)]; exact ⟨rfl, rfl⟩)
theorem said : Rows.EngineNotesSaid :=
  OpenClaim.holds_of_cond (p := Tryz.pinned) (s := OpenSpec.ofChange Rows.engineNotesSpec) (c := Rows.engineNotesRow) 5 Tryz.f5 rfl rfl rfl rfl rfl rfl rfl ⟨rfl, rfl, rfl, rfl, rfl⟩ rfl rfl rfl rfl rfl named Tryz.func5 joined inst wraps
    (fun os started H enc _ F => by rw [OpenClaim.pre_eq_preRow]; exact lifted os started H enc F)
theorem noLooks : false = Tryz.prog.looks [] := by kernel_rfl
theorem stand57 : Tryz.prog.wantsStandIn 57 = false := by kernel_rfl
theorem stand70 : Tryz.prog.wantsStandIn 70 = false := by kernel_rfl
theorem plain (f : FuncId) (fn : Func) (hf : Tryz.pinned.checked.prog.funcNamed "grist/gristlaw22.EngineNotes" = some f) (hfn : Tryz.pinned.checked.prog.funcs[f]? = some fn) :
    false = Tryz.pinned.checked.prog.looks [] ∧ ∀ (j : Nat) t, fn.params[j]? = some t → Tryz.pinned.checked.prog.wantsStandIn t = false := by
  obtain rfl : f = 5 := Option.some.inj (named.symm.trans hf) |>.symm
  obtain rfl : fn = Tryz.f5 := (Option.some.inj (Tryz.func5.symm.trans hfn)).symm
  refine ⟨noLooks, fun j t ht => ?_⟩
  rw [Tryz.params5] at ht
  have hm : t = 70 ∨ t = 57 := by simpa using Array.mem_of_getElem? ht
  rcases hm with rfl | rfl
  · exact stand70
  · exact stand57
theorem byText : (Rows.engineNotesRow).wfByText (OpenSpec.ofChange Rows.engineNotesSpec) = true := by kernel_rfl
theorem mains : Tryz.prog.mainIs = some (true, String.toList "1bd5727939eb60332ba23d63a6f49e8c14776e1f2ea46ff6c5eb7d806c18cbe3") := by kernel_rfl
theorem goes : false = (Rows.engineNotesRow).goesBy Tryz.prog := by kernel_rfl
theorem card : Rows.EngineNotesCardSaid :=
  Claim7.holds_tied_plain_at .later [] _ _ _ _ said (fun _ h => by cases h) byText (fun _ h => by cases h) engineNotes_row_tie rfl ⟨rfl, rfl⟩ mains rfl plain goes
#print axioms card
end Go.Proofs.YtabpbpdhapaffaaGreatDoor.engineNotes
