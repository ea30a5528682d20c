/-
  NARROWER THAN 'FOR EVERY INPUT', by the rows' own cells (each row's printed sentence says how): EngineKinds: laid · EngineRooms: laid · EngineNotes: laid · EnginePlays: laid · EngineAll: laid · EngineTwice: laid · EngineMerges: laid · EngineNil: laid · EngineTables: laid.
  DERIVED. THE GIVEN ROWS OF THIS SEAT. 9 by the template 'for every input the law returns true; each argument reads behind the call as it read before'; 0 by the template 'total and deterministic' (their statements: YtabpbpdhapaffaaGreatDoorTotals.lean).
  GIVEN WITH THE SEED: the statements are not yours to turn. If you find one false, say at which input.
  Laid BY PROGRAM, IN A SANDBOX (cutbox-rows.mjs): the forced cells as the released guide's own fill.sh prints them over the translation ce86a8c0cbbdd4b9… (all of the seat's roots in one cut). By AI agents, Wed Nov 11 2026. No macro, syntax, notation, axiom, sorry.
-/
import Derived.Test.YtabpbpdhapaffaaGreatDoorChecked
import GoSem.Claim
import GoSem.ClaimJoined
import GoSem.ClaimMapViews
import Derived.JoinedTies
import Derived.KernelRfl
namespace Go.Proofs.YtabpbpdhapaffaaGreatDoor
/- THE CELL 'sum', in the pinned program and in every row, IS THE sha256 OF THE DUMP (.gsa) THAT YtabpbpdhapaffaaGreatDoorProg.lean LOADS. Nothing in Lean hashes anything: it is a label: what it is worth is what the hold of that sum in a sandbox is worth. -/
noncomputable def Tryz.pinned : Pinned := { name := "ytabpbpdhapaffaagreatdoor", sum := "ce86a8c0cbbdd4b9c49b263541c6489511adf4a2d40f61f72c7d74bd79dd9f04", checked := Tryz.checked }
namespace Rows
def none {H : Type} : Left H := { results := [], args := [] }

/- WHAT THE LISTED PACKAGE-LEVEL VARIABLES READ AS WHEN THE CALL BEGINS. Each datum BY PROGRAM (the guide's laid-datum.mjs) off the statement by which the dump's own 'gosem.cut.vars' lays the variable. In a bare row this is a premise. The card (YtabpbpdhapaffaaGreatDoorCards.lean) ties it to the program's text. -/
def laid_math_bits_deBruijn32tab {H : Type} : DataW H := .agg [.lit (.int .u8 0), .lit (.int .u8 1), .lit (.int .u8 28), .lit (.int .u8 2), .lit (.int .u8 29), .lit (.int .u8 14), .lit (.int .u8 24), .lit (.int .u8 3), .lit (.int .u8 30), .lit (.int .u8 22), .lit (.int .u8 20), .lit (.int .u8 15), .lit (.int .u8 25), .lit (.int .u8 17), .lit (.int .u8 4), .lit (.int .u8 8), .lit (.int .u8 31), .lit (.int .u8 27), .lit (.int .u8 13), .lit (.int .u8 23), .lit (.int .u8 21), .lit (.int .u8 19), .lit (.int .u8 16), .lit (.int .u8 7), .lit (.int .u8 26), .lit (.int .u8 12), .lit (.int .u8 18), .lit (.int .u8 6), .lit (.int .u8 11), .lit (.int .u8 5), .lit (.int .u8 10), .lit (.int .u8 9)]
def laid_math_bits_deBruijn64tab {H : Type} : DataW H := .agg [.lit (.int .u8 0), .lit (.int .u8 1), .lit (.int .u8 56), .lit (.int .u8 2), .lit (.int .u8 57), .lit (.int .u8 49), .lit (.int .u8 28), .lit (.int .u8 3), .lit (.int .u8 61), .lit (.int .u8 58), .lit (.int .u8 42), .lit (.int .u8 50), .lit (.int .u8 38), .lit (.int .u8 29), .lit (.int .u8 17), .lit (.int .u8 4), .lit (.int .u8 62), .lit (.int .u8 47), .lit (.int .u8 59), .lit (.int .u8 36), .lit (.int .u8 45), .lit (.int .u8 43), .lit (.int .u8 51), .lit (.int .u8 22), .lit (.int .u8 53), .lit (.int .u8 39), .lit (.int .u8 33), .lit (.int .u8 30), .lit (.int .u8 24), .lit (.int .u8 18), .lit (.int .u8 12), .lit (.int .u8 5), .lit (.int .u8 63), .lit (.int .u8 55), .lit (.int .u8 48), .lit (.int .u8 27), .lit (.int .u8 60), .lit (.int .u8 41), .lit (.int .u8 37), .lit (.int .u8 16), .lit (.int .u8 46), .lit (.int .u8 35), .lit (.int .u8 44), .lit (.int .u8 21), .lit (.int .u8 52), .lit (.int .u8 32), .lit (.int .u8 23), .lit (.int .u8 11), .lit (.int .u8 54), .lit (.int .u8 26), .lit (.int .u8 40), .lit (.int .u8 15), .lit (.int .u8 34), .lit (.int .u8 20), .lit (.int .u8 31), .lit (.int .u8 10), .lit (.int .u8 25), .lit (.int .u8 14), .lit (.int .u8 19), .lit (.int .u8 9), .lit (.int .u8 13), .lit (.int .u8 8), .lit (.int .u8 7), .lit (.int .u8 6)]
def laid_internal_strconv_uint64pow10 {H : Type} : DataW H := .agg [.lit (.int .u64 1), .lit (.int .u64 10), .lit (.int .u64 100), .lit (.int .u64 1000), .lit (.int .u64 10000), .lit (.int .u64 100000), .lit (.int .u64 1000000), .lit (.int .u64 10000000), .lit (.int .u64 100000000), .lit (.int .u64 1000000000), .lit (.int .u64 10000000000), .lit (.int .u64 100000000000), .lit (.int .u64 1000000000000), .lit (.int .u64 10000000000000), .lit (.int .u64 100000000000000), .lit (.int .u64 1000000000000000), .lit (.int .u64 10000000000000000), .lit (.int .u64 100000000000000000), .lit (.int .u64 1000000000000000000), .lit (.int .u64 10000000000000000000)]

/-- 'gristlaw22.EngineKinds': WHATEVER THE INPUT: true; the input reads as it did. -/
def engineKindsSpec : ChangeSpec := { name := "engineKinds", fn := fun _ => fun
  | [d1, d2, d3, d4, d5] => { results := [.lit (.bool true)], args := [d1, d2, d3, d4, d5] }
  | _ => none }
def engineKindsRow : OpenClaim := { program := "ytabpbpdhapaffaagreatdoor", sum := "ce86a8c0cbbdd4b9c49b263541c6489511adf4a2d40f61f72c7d74bd79dd9f04", func := "grist/gristlaw22.EngineKinds", spec := "engineKinds", inPlace := ["math.Float64frombits", "math.Float64bits", "slices.overlaps[grist/api.Point]", "internal/bytealg.IndexByteString", "internal/abi.NoEscape"], unfollowed := true, recurses := true, named := ["math/bits.deBruijn64tab", "internal/strconv.uint64pow10", "math/bits.deBruijn32tab"], plainKeys := false, apart := false, laid := [("math/bits.deBruijn32tab", laid_math_bits_deBruijn32tab), ("math/bits.deBruijn64tab", laid_math_bits_deBruijn64tab), ("internal/strconv.uint64pow10", laid_internal_strconv_uint64pow10)] }
def EngineKindsSaid : Prop := engineKindsRow.holds Tryz.pinned (OpenSpec.ofChange engineKindsSpec)

/-- ITS FALSE NEIGHBOUR: 'it returns false'. Refute it at one input. -/
def engineKindsWrong : ChangeSpec := { name := "engineKinds", fn := fun _ => fun
  | [d1, d2, d3, d4, d5] => { results := [.lit (.bool false)], args := [d1, d2, d3, d4, d5] }
  | _ => none }
def EngineKindsWrongFalsely : Prop := engineKindsRow.holds Tryz.pinned (OpenSpec.ofChange engineKindsWrong)

/-- 'gristlaw22.EngineRooms': WHATEVER THE INPUT: true; the input reads as it did. -/
def engineRoomsSpec : ChangeSpec := { name := "engineRooms", fn := fun _ => fun
  | [d1, d2] => { results := [.lit (.bool true)], args := [d1, d2] }
  | _ => none }
def engineRoomsRow : OpenClaim := { program := "ytabpbpdhapaffaagreatdoor", sum := "ce86a8c0cbbdd4b9c49b263541c6489511adf4a2d40f61f72c7d74bd79dd9f04", func := "grist/gristlaw22.EngineRooms", spec := "engineRooms", inPlace := ["math.Float64frombits", "math.Float64bits", "slices.overlaps[grist/api.Point]", "internal/bytealg.IndexByteString", "internal/abi.NoEscape"], unfollowed := true, recurses := true, named := ["math/bits.deBruijn64tab", "internal/strconv.uint64pow10", "math/bits.deBruijn32tab"], plainKeys := false, apart := false, laid := [("math/bits.deBruijn32tab", laid_math_bits_deBruijn32tab), ("math/bits.deBruijn64tab", laid_math_bits_deBruijn64tab), ("internal/strconv.uint64pow10", laid_internal_strconv_uint64pow10)] }
def EngineRoomsSaid : Prop := engineRoomsRow.holds Tryz.pinned (OpenSpec.ofChange engineRoomsSpec)

/-- ITS FALSE NEIGHBOUR: 'it returns false'. Refute it at one input. -/
def engineRoomsWrong : ChangeSpec := { name := "engineRooms", fn := fun _ => fun
  | [d1, d2] => { results := [.lit (.bool false)], args := [d1, d2] }
  | _ => none }
def EngineRoomsWrongFalsely : Prop := engineRoomsRow.holds Tryz.pinned (OpenSpec.ofChange engineRoomsWrong)

/-- 'gristlaw22.EngineNotes': WHATEVER THE INPUT: true; the input reads as it did. -/
def engineNotesSpec : ChangeSpec := { name := "engineNotes", fn := fun _ => fun
  | [d1, d2] => { results := [.lit (.bool true)], args := [d1, d2] }
  | _ => none }
def engineNotesRow : OpenClaim := { program := "ytabpbpdhapaffaagreatdoor", sum := "ce86a8c0cbbdd4b9c49b263541c6489511adf4a2d40f61f72c7d74bd79dd9f04", func := "grist/gristlaw22.EngineNotes", spec := "engineNotes", inPlace := ["math.Float64frombits", "math.Float64bits", "slices.overlaps[grist/api.Point]", "internal/bytealg.IndexByteString", "internal/abi.NoEscape"], unfollowed := true, recurses := true, named := ["math/bits.deBruijn64tab", "internal/strconv.uint64pow10", "math/bits.deBruijn32tab"], plainKeys := false, apart := false, laid := [("math/bits.deBruijn32tab", laid_math_bits_deBruijn32tab), ("math/bits.deBruijn64tab", laid_math_bits_deBruijn64tab), ("internal/strconv.uint64pow10", laid_internal_strconv_uint64pow10)] }
def EngineNotesSaid : Prop := engineNotesRow.holds Tryz.pinned (OpenSpec.ofChange engineNotesSpec)

/-- ITS FALSE NEIGHBOUR: 'it returns false'. Refute it at one input. -/
def engineNotesWrong : ChangeSpec := { name := "engineNotes", fn := fun _ => fun
  | [d1, d2] => { results := [.lit (.bool false)], args := [d1, d2] }
  | _ => none }
def EngineNotesWrongFalsely : Prop := engineNotesRow.holds Tryz.pinned (OpenSpec.ofChange engineNotesWrong)

/-- 'gristlaw22.EnginePlays': WHATEVER THE INPUT: true; the input reads as it did. -/
def enginePlaysSpec : ChangeSpec := { name := "enginePlays", fn := fun _ => fun
  | [d] => { results := [.lit (.bool true)], args := [d] }
  | _ => none }
def enginePlaysRow : OpenClaim := { program := "ytabpbpdhapaffaagreatdoor", sum := "ce86a8c0cbbdd4b9c49b263541c6489511adf4a2d40f61f72c7d74bd79dd9f04", func := "grist/gristlaw22.EnginePlays", spec := "enginePlays", inPlace := ["math.Float64frombits", "math.Float64bits", "slices.overlaps[grist/api.Point]", "internal/bytealg.IndexByteString", "internal/abi.NoEscape"], unfollowed := true, recurses := true, named := ["math/bits.deBruijn64tab", "internal/strconv.uint64pow10", "math/bits.deBruijn32tab"], plainKeys := false, apart := false, laid := [("math/bits.deBruijn32tab", laid_math_bits_deBruijn32tab), ("math/bits.deBruijn64tab", laid_math_bits_deBruijn64tab), ("internal/strconv.uint64pow10", laid_internal_strconv_uint64pow10)] }
def EnginePlaysSaid : Prop := enginePlaysRow.holds Tryz.pinned (OpenSpec.ofChange enginePlaysSpec)

/-- ITS FALSE NEIGHBOUR: 'it returns false'. Refute it at one input. -/
def enginePlaysWrong : ChangeSpec := { name := "enginePlays", fn := fun _ => fun
  | [d] => { results := [.lit (.bool false)], args := [d] }
  | _ => none }
def EnginePlaysWrongFalsely : Prop := enginePlaysRow.holds Tryz.pinned (OpenSpec.ofChange enginePlaysWrong)

/-- 'gristlaw22.EngineAll': WHATEVER THE INPUT: true; the input reads as it did. -/
def engineAllSpec : ChangeSpec := { name := "engineAll", fn := fun _ => fun
  | [d1, d2, d3, d4] => { results := [.lit (.bool true)], args := [d1, d2, d3, d4] }
  | _ => none }
def engineAllRow : OpenClaim := { program := "ytabpbpdhapaffaagreatdoor", sum := "ce86a8c0cbbdd4b9c49b263541c6489511adf4a2d40f61f72c7d74bd79dd9f04", func := "grist/gristlaw22.EngineAll", spec := "engineAll", inPlace := ["math.Float64frombits", "math.Float64bits", "slices.overlaps[grist/api.Point]", "internal/bytealg.IndexByteString", "internal/abi.NoEscape"], unfollowed := true, recurses := true, named := ["math/bits.deBruijn64tab", "internal/strconv.uint64pow10", "math/bits.deBruijn32tab"], plainKeys := false, apart := false, laid := [("math/bits.deBruijn32tab", laid_math_bits_deBruijn32tab), ("math/bits.deBruijn64tab", laid_math_bits_deBruijn64tab), ("internal/strconv.uint64pow10", laid_internal_strconv_uint64pow10)] }
def EngineAllSaid : Prop := engineAllRow.holds Tryz.pinned (OpenSpec.ofChange engineAllSpec)

/-- ITS FALSE NEIGHBOUR: 'it returns false'. Refute it at one input. -/
def engineAllWrong : ChangeSpec := { name := "engineAll", fn := fun _ => fun
  | [d1, d2, d3, d4] => { results := [.lit (.bool false)], args := [d1, d2, d3, d4] }
  | _ => none }
def EngineAllWrongFalsely : Prop := engineAllRow.holds Tryz.pinned (OpenSpec.ofChange engineAllWrong)

/-- 'gristlaw22.EngineTwice': WHATEVER THE INPUT: true; the input reads as it did. -/
def engineTwiceSpec : ChangeSpec := { name := "engineTwice", fn := fun _ => fun
  | [d1, d2, d3, d4] => { results := [.lit (.bool true)], args := [d1, d2, d3, d4] }
  | _ => none }
def engineTwiceRow : OpenClaim := { program := "ytabpbpdhapaffaagreatdoor", sum := "ce86a8c0cbbdd4b9c49b263541c6489511adf4a2d40f61f72c7d74bd79dd9f04", func := "grist/gristlaw22.EngineTwice", spec := "engineTwice", inPlace := ["math.Float64frombits", "math.Float64bits", "slices.overlaps[grist/api.Point]", "internal/bytealg.IndexByteString", "internal/abi.NoEscape"], unfollowed := true, recurses := true, named := ["math/bits.deBruijn64tab", "internal/strconv.uint64pow10", "math/bits.deBruijn32tab"], plainKeys := false, apart := false, laid := [("math/bits.deBruijn32tab", laid_math_bits_deBruijn32tab), ("math/bits.deBruijn64tab", laid_math_bits_deBruijn64tab), ("internal/strconv.uint64pow10", laid_internal_strconv_uint64pow10)] }
def EngineTwiceSaid : Prop := engineTwiceRow.holds Tryz.pinned (OpenSpec.ofChange engineTwiceSpec)

/-- ITS FALSE NEIGHBOUR: 'it returns false'. Refute it at one input. -/
def engineTwiceWrong : ChangeSpec := { name := "engineTwice", fn := fun _ => fun
  | [d1, d2, d3, d4] => { results := [.lit (.bool false)], args := [d1, d2, d3, d4] }
  | _ => none }
def EngineTwiceWrongFalsely : Prop := engineTwiceRow.holds Tryz.pinned (OpenSpec.ofChange engineTwiceWrong)

/-- 'gristlaw22.EngineMerges': WHATEVER THE INPUT: true; the input reads as it did. -/
def engineMergesSpec : ChangeSpec := { name := "engineMerges", fn := fun _ => fun
  | [d] => { results := [.lit (.bool true)], args := [d] }
  | _ => none }
def engineMergesRow : OpenClaim := { program := "ytabpbpdhapaffaagreatdoor", sum := "ce86a8c0cbbdd4b9c49b263541c6489511adf4a2d40f61f72c7d74bd79dd9f04", func := "grist/gristlaw22.EngineMerges", spec := "engineMerges", inPlace := ["math.Float64frombits", "math.Float64bits", "slices.overlaps[grist/api.Point]", "internal/bytealg.IndexByteString", "internal/abi.NoEscape"], unfollowed := true, recurses := true, named := ["math/bits.deBruijn64tab", "internal/strconv.uint64pow10", "math/bits.deBruijn32tab"], plainKeys := false, apart := false, laid := [("math/bits.deBruijn32tab", laid_math_bits_deBruijn32tab), ("math/bits.deBruijn64tab", laid_math_bits_deBruijn64tab), ("internal/strconv.uint64pow10", laid_internal_strconv_uint64pow10)] }
def EngineMergesSaid : Prop := engineMergesRow.holds Tryz.pinned (OpenSpec.ofChange engineMergesSpec)

/-- ITS FALSE NEIGHBOUR: 'it returns false'. Refute it at one input. -/
def engineMergesWrong : ChangeSpec := { name := "engineMerges", fn := fun _ => fun
  | [d] => { results := [.lit (.bool false)], args := [d] }
  | _ => none }
def EngineMergesWrongFalsely : Prop := engineMergesRow.holds Tryz.pinned (OpenSpec.ofChange engineMergesWrong)

/-- 'gristlaw22.EngineNil': WHATEVER THE INPUT: true; the input reads as it did. -/
def engineNilSpec : ChangeSpec := { name := "engineNil", fn := fun _ => fun
  | [d] => { results := [.lit (.bool true)], args := [d] }
  | _ => none }
def engineNilRow : OpenClaim := { program := "ytabpbpdhapaffaagreatdoor", sum := "ce86a8c0cbbdd4b9c49b263541c6489511adf4a2d40f61f72c7d74bd79dd9f04", func := "grist/gristlaw22.EngineNil", spec := "engineNil", inPlace := ["math.Float64frombits", "math.Float64bits", "slices.overlaps[grist/api.Point]", "internal/bytealg.IndexByteString", "internal/abi.NoEscape"], unfollowed := true, recurses := true, named := ["math/bits.deBruijn64tab", "internal/strconv.uint64pow10", "math/bits.deBruijn32tab"], plainKeys := false, apart := false, laid := [("math/bits.deBruijn32tab", laid_math_bits_deBruijn32tab), ("math/bits.deBruijn64tab", laid_math_bits_deBruijn64tab), ("internal/strconv.uint64pow10", laid_internal_strconv_uint64pow10)] }
def EngineNilSaid : Prop := engineNilRow.holds Tryz.pinned (OpenSpec.ofChange engineNilSpec)

/-- ITS FALSE NEIGHBOUR: 'it returns false'. Refute it at one input. -/
def engineNilWrong : ChangeSpec := { name := "engineNil", fn := fun _ => fun
  | [d] => { results := [.lit (.bool false)], args := [d] }
  | _ => none }
def EngineNilWrongFalsely : Prop := engineNilRow.holds Tryz.pinned (OpenSpec.ofChange engineNilWrong)

/-- 'gristlaw22.EngineTables': WHATEVER THE INPUT: true; the input reads as it did. -/
def engineTablesSpec : ChangeSpec := { name := "engineTables", fn := fun _ => fun
  | [d1, d2, d3, d4, d5] => { results := [.lit (.bool true)], args := [d1, d2, d3, d4, d5] }
  | _ => none }
def engineTablesRow : OpenClaim := { program := "ytabpbpdhapaffaagreatdoor", sum := "ce86a8c0cbbdd4b9c49b263541c6489511adf4a2d40f61f72c7d74bd79dd9f04", func := "grist/gristlaw22.EngineTables", spec := "engineTables", inPlace := ["math.Float64frombits", "math.Float64bits", "slices.overlaps[grist/api.Point]", "internal/bytealg.IndexByteString", "internal/abi.NoEscape"], unfollowed := true, recurses := true, named := ["math/bits.deBruijn64tab", "internal/strconv.uint64pow10", "math/bits.deBruijn32tab"], plainKeys := false, apart := false, laid := [("math/bits.deBruijn32tab", laid_math_bits_deBruijn32tab), ("math/bits.deBruijn64tab", laid_math_bits_deBruijn64tab), ("internal/strconv.uint64pow10", laid_internal_strconv_uint64pow10)] }
def EngineTablesSaid : Prop := engineTablesRow.holds Tryz.pinned (OpenSpec.ofChange engineTablesSpec)

/-- ITS FALSE NEIGHBOUR: 'it returns false'. Refute it at one input. -/
def engineTablesWrong : ChangeSpec := { name := "engineTables", fn := fun _ => fun
  | [d1, d2, d3, d4, d5] => { results := [.lit (.bool false)], args := [d1, d2, d3, d4, d5] }
  | _ => none }
def EngineTablesWrongFalsely : Prop := engineTablesRow.holds Tryz.pinned (OpenSpec.ofChange engineTablesWrong)

/- THE SECOND FORM. 'bulk': how many values and letters a reading holds, each counted each time it is reached (what is shared counts as often as it is met; a slice's spare places count too). A statement '..UptoSaid' is the law's where the arguments, and the package variables that the reading takes, are together of bulk at most 1048576: NARROWER than '..Said'. Prove '..Said' where nothing that the law and all that it calls make is longer than what came in: it says more and counts as full. Else prove '..UptoSaid'. A law counts once. -/
mutual
def uptoBulk {H : Type} : DataW H → Nat
  | .lit (.string bytes) => bytes.length + 1
  | .lit _ => 1
  | .nil => 1
  | .ptr d => uptoBulk d + 1
  | .slice elems spare => uptoBulkAll elems + uptoBulkAll spare + 1
  | .agg parts => uptoBulkAll parts + 1
  | .iface _ d => uptoBulk d + 1
  | .map entries => uptoBulkEntries entries + 1
  | .held _ => 1
def uptoBulkAll {H : Type} : List (DataW H) → Nat
  | [] => 0
  | d :: r => uptoBulk d + uptoBulkAll r
def uptoBulkEntries {H : Type} : List (Lit × DataW H) → Nat
  | [] => 0
  | x :: r => uptoBulkEntry x + uptoBulkEntries r
def uptoBulkEntry {H : Type} : Lit × DataW H → Nat
  | (.string bytes, d) => bytes.length + uptoBulk d + 1
  | (_, d) => uptoBulk d + 1
 end
def uptoSmall : (H : Type) → List (DataW H) → Bool := fun _ ds => decide (uptoBulkAll ds ≤ 1048576)
def OpenSpec.upto (s : _root_.Go.ChangeSpec) : _root_.Go.OpenSpec := { _root_.Go.OpenSpec.ofChange s with cond := some uptoSmall }

/-- 'gristlaw22.EngineKinds', WHERE WHAT IT READS IS OF BULK AT MOST 1048576: true; the input reads as it did. -/
def engineKindsUptoRow : OpenClaim := { program := "ytabpbpdhapaffaagreatdoor", sum := "ce86a8c0cbbdd4b9c49b263541c6489511adf4a2d40f61f72c7d74bd79dd9f04", func := "grist/gristlaw22.EngineKinds", spec := "engineKinds", inPlace := ["math.Float64frombits", "math.Float64bits", "slices.overlaps[grist/api.Point]", "internal/bytealg.IndexByteString", "internal/abi.NoEscape"], unfollowed := true, recurses := true, named := ["math/bits.deBruijn64tab", "internal/strconv.uint64pow10", "math/bits.deBruijn32tab"], plainKeys := false, apart := false, laid := [("math/bits.deBruijn32tab", laid_math_bits_deBruijn32tab), ("math/bits.deBruijn64tab", laid_math_bits_deBruijn64tab), ("internal/strconv.uint64pow10", laid_internal_strconv_uint64pow10)], narrowed := true }
def EngineKindsUptoSaid : Prop := engineKindsUptoRow.holds Tryz.pinned (OpenSpec.upto engineKindsSpec)

/-- 'gristlaw22.EngineRooms', WHERE WHAT IT READS IS OF BULK AT MOST 1048576: true; the input reads as it did. -/
def engineRoomsUptoRow : OpenClaim := { program := "ytabpbpdhapaffaagreatdoor", sum := "ce86a8c0cbbdd4b9c49b263541c6489511adf4a2d40f61f72c7d74bd79dd9f04", func := "grist/gristlaw22.EngineRooms", spec := "engineRooms", inPlace := ["math.Float64frombits", "math.Float64bits", "slices.overlaps[grist/api.Point]", "internal/bytealg.IndexByteString", "internal/abi.NoEscape"], unfollowed := true, recurses := true, named := ["math/bits.deBruijn64tab", "internal/strconv.uint64pow10", "math/bits.deBruijn32tab"], plainKeys := false, apart := false, laid := [("math/bits.deBruijn32tab", laid_math_bits_deBruijn32tab), ("math/bits.deBruijn64tab", laid_math_bits_deBruijn64tab), ("internal/strconv.uint64pow10", laid_internal_strconv_uint64pow10)], narrowed := true }
def EngineRoomsUptoSaid : Prop := engineRoomsUptoRow.holds Tryz.pinned (OpenSpec.upto engineRoomsSpec)

/-- 'gristlaw22.EngineNotes', WHERE WHAT IT READS IS OF BULK AT MOST 1048576: true; the input reads as it did. -/
def engineNotesUptoRow : OpenClaim := { program := "ytabpbpdhapaffaagreatdoor", sum := "ce86a8c0cbbdd4b9c49b263541c6489511adf4a2d40f61f72c7d74bd79dd9f04", func := "grist/gristlaw22.EngineNotes", spec := "engineNotes", inPlace := ["math.Float64frombits", "math.Float64bits", "slices.overlaps[grist/api.Point]", "internal/bytealg.IndexByteString", "internal/abi.NoEscape"], unfollowed := true, recurses := true, named := ["math/bits.deBruijn64tab", "internal/strconv.uint64pow10", "math/bits.deBruijn32tab"], plainKeys := false, apart := false, laid := [("math/bits.deBruijn32tab", laid_math_bits_deBruijn32tab), ("math/bits.deBruijn64tab", laid_math_bits_deBruijn64tab), ("internal/strconv.uint64pow10", laid_internal_strconv_uint64pow10)], narrowed := true }
def EngineNotesUptoSaid : Prop := engineNotesUptoRow.holds Tryz.pinned (OpenSpec.upto engineNotesSpec)

/-- 'gristlaw22.EnginePlays', WHERE WHAT IT READS IS OF BULK AT MOST 1048576: true; the input reads as it did. -/
def enginePlaysUptoRow : OpenClaim := { program := "ytabpbpdhapaffaagreatdoor", sum := "ce86a8c0cbbdd4b9c49b263541c6489511adf4a2d40f61f72c7d74bd79dd9f04", func := "grist/gristlaw22.EnginePlays", spec := "enginePlays", inPlace := ["math.Float64frombits", "math.Float64bits", "slices.overlaps[grist/api.Point]", "internal/bytealg.IndexByteString", "internal/abi.NoEscape"], unfollowed := true, recurses := true, named := ["math/bits.deBruijn64tab", "internal/strconv.uint64pow10", "math/bits.deBruijn32tab"], plainKeys := false, apart := false, laid := [("math/bits.deBruijn32tab", laid_math_bits_deBruijn32tab), ("math/bits.deBruijn64tab", laid_math_bits_deBruijn64tab), ("internal/strconv.uint64pow10", laid_internal_strconv_uint64pow10)], narrowed := true }
def EnginePlaysUptoSaid : Prop := enginePlaysUptoRow.holds Tryz.pinned (OpenSpec.upto enginePlaysSpec)

/-- 'gristlaw22.EngineAll', WHERE WHAT IT READS IS OF BULK AT MOST 1048576: true; the input reads as it did. -/
def engineAllUptoRow : OpenClaim := { program := "ytabpbpdhapaffaagreatdoor", sum := "ce86a8c0cbbdd4b9c49b263541c6489511adf4a2d40f61f72c7d74bd79dd9f04", func := "grist/gristlaw22.EngineAll", spec := "engineAll", inPlace := ["math.Float64frombits", "math.Float64bits", "slices.overlaps[grist/api.Point]", "internal/bytealg.IndexByteString", "internal/abi.NoEscape"], unfollowed := true, recurses := true, named := ["math/bits.deBruijn64tab", "internal/strconv.uint64pow10", "math/bits.deBruijn32tab"], plainKeys := false, apart := false, laid := [("math/bits.deBruijn32tab", laid_math_bits_deBruijn32tab), ("math/bits.deBruijn64tab", laid_math_bits_deBruijn64tab), ("internal/strconv.uint64pow10", laid_internal_strconv_uint64pow10)], narrowed := true }
def EngineAllUptoSaid : Prop := engineAllUptoRow.holds Tryz.pinned (OpenSpec.upto engineAllSpec)

/-- 'gristlaw22.EngineTwice', WHERE WHAT IT READS IS OF BULK AT MOST 1048576: true; the input reads as it did. -/
def engineTwiceUptoRow : OpenClaim := { program := "ytabpbpdhapaffaagreatdoor", sum := "ce86a8c0cbbdd4b9c49b263541c6489511adf4a2d40f61f72c7d74bd79dd9f04", func := "grist/gristlaw22.EngineTwice", spec := "engineTwice", inPlace := ["math.Float64frombits", "math.Float64bits", "slices.overlaps[grist/api.Point]", "internal/bytealg.IndexByteString", "internal/abi.NoEscape"], unfollowed := true, recurses := true, named := ["math/bits.deBruijn64tab", "internal/strconv.uint64pow10", "math/bits.deBruijn32tab"], plainKeys := false, apart := false, laid := [("math/bits.deBruijn32tab", laid_math_bits_deBruijn32tab), ("math/bits.deBruijn64tab", laid_math_bits_deBruijn64tab), ("internal/strconv.uint64pow10", laid_internal_strconv_uint64pow10)], narrowed := true }
def EngineTwiceUptoSaid : Prop := engineTwiceUptoRow.holds Tryz.pinned (OpenSpec.upto engineTwiceSpec)

/-- 'gristlaw22.EngineMerges', WHERE WHAT IT READS IS OF BULK AT MOST 1048576: true; the input reads as it did. -/
def engineMergesUptoRow : OpenClaim := { program := "ytabpbpdhapaffaagreatdoor", sum := "ce86a8c0cbbdd4b9c49b263541c6489511adf4a2d40f61f72c7d74bd79dd9f04", func := "grist/gristlaw22.EngineMerges", spec := "engineMerges", inPlace := ["math.Float64frombits", "math.Float64bits", "slices.overlaps[grist/api.Point]", "internal/bytealg.IndexByteString", "internal/abi.NoEscape"], unfollowed := true, recurses := true, named := ["math/bits.deBruijn64tab", "internal/strconv.uint64pow10", "math/bits.deBruijn32tab"], plainKeys := false, apart := false, laid := [("math/bits.deBruijn32tab", laid_math_bits_deBruijn32tab), ("math/bits.deBruijn64tab", laid_math_bits_deBruijn64tab), ("internal/strconv.uint64pow10", laid_internal_strconv_uint64pow10)], narrowed := true }
def EngineMergesUptoSaid : Prop := engineMergesUptoRow.holds Tryz.pinned (OpenSpec.upto engineMergesSpec)

/-- 'gristlaw22.EngineNil', WHERE WHAT IT READS IS OF BULK AT MOST 1048576: true; the input reads as it did. -/
def engineNilUptoRow : OpenClaim := { program := "ytabpbpdhapaffaagreatdoor", sum := "ce86a8c0cbbdd4b9c49b263541c6489511adf4a2d40f61f72c7d74bd79dd9f04", func := "grist/gristlaw22.EngineNil", spec := "engineNil", inPlace := ["math.Float64frombits", "math.Float64bits", "slices.overlaps[grist/api.Point]", "internal/bytealg.IndexByteString", "internal/abi.NoEscape"], unfollowed := true, recurses := true, named := ["math/bits.deBruijn64tab", "internal/strconv.uint64pow10", "math/bits.deBruijn32tab"], plainKeys := false, apart := false, laid := [("math/bits.deBruijn32tab", laid_math_bits_deBruijn32tab), ("math/bits.deBruijn64tab", laid_math_bits_deBruijn64tab), ("internal/strconv.uint64pow10", laid_internal_strconv_uint64pow10)], narrowed := true }
def EngineNilUptoSaid : Prop := engineNilUptoRow.holds Tryz.pinned (OpenSpec.upto engineNilSpec)

/-- 'gristlaw22.EngineTables', WHERE WHAT IT READS IS OF BULK AT MOST 1048576: true; the input reads as it did. -/
def engineTablesUptoRow : OpenClaim := { program := "ytabpbpdhapaffaagreatdoor", sum := "ce86a8c0cbbdd4b9c49b263541c6489511adf4a2d40f61f72c7d74bd79dd9f04", func := "grist/gristlaw22.EngineTables", spec := "engineTables", inPlace := ["math.Float64frombits", "math.Float64bits", "slices.overlaps[grist/api.Point]", "internal/bytealg.IndexByteString", "internal/abi.NoEscape"], unfollowed := true, recurses := true, named := ["math/bits.deBruijn64tab", "internal/strconv.uint64pow10", "math/bits.deBruijn32tab"], plainKeys := false, apart := false, laid := [("math/bits.deBruijn32tab", laid_math_bits_deBruijn32tab), ("math/bits.deBruijn64tab", laid_math_bits_deBruijn64tab), ("internal/strconv.uint64pow10", laid_internal_strconv_uint64pow10)], narrowed := true }
def EngineTablesUptoSaid : Prop := engineTablesUptoRow.holds Tryz.pinned (OpenSpec.upto engineTablesSpec)

end Rows
end Go.Proofs.YtabpbpdhapaffaaGreatDoor
