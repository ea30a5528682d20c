/-
  EngineNotes returns true whatever the notes and what stands between them, part 27: GrLV7, GrLV8. Conditions: none but those of the row.
-/
import Derived.Test.YtabpbpdhapaffaaGreatDoorCards
import Derived.Test.YtabpbpdhapaffaaGreatDoorTie
import Derived.ProofKit
import Derived.OpenShut
import Derived.Deep.DeepHandedRow
import Derived.Lib.LaidTab
import Derived.Test.YtabpbpdhapaffaaGreatDoorNts26
set_option linter.unusedSimpArgs false
set_option linter.unusedVariables false
section
namespace Go.Proofs.YtabpbpdhapaffaaGreatDoor
open Go.ChangeShapes Go.WideShapes Go.ChangeAt Go.RowKit
section
section
variable {H : Type} {enc : TypeId × Value → H} {W : World} {sp : Nat → Bool} {hd : Bool} {fuel : Nat}
theorem cells5 : Tryz.prog.cellsOf 5 = 1 := by kernel_rfl
theorem cells57 : Tryz.prog.cellsOf 57 = 1 := by kernel_rfl
theorem spotN {a : Addr} {v : Value} (h : W.cell? a = some v) : a.spot = none := by
  obtain ⟨b, o, s⟩ := a
  cases s with
  | none => rfl
  | some k =>
    unfold World.cell? at h
    split at h
    · simp at h
    · cases h
theorem cells_one {a : Addr} {cs : List Value} (h : W.cells? 0 a 1 = some cs) : ∃ x0, cs = [x0] ∧ a.spot = none ∧ a.block < W.heap.size ∧ W.cell? ⟨a.block, a.off, none⟩ = some x0 := by
  have hb := World.cells?_block h (by decide)
  obtain ⟨_, hl, hc⟩ := World.cells?_some h
  obtain ⟨x0, rfl⟩ := List.length_eq_one_iff.1 hl
  obtain ⟨b, o, s⟩ := a
  have h0 : W.cell? ⟨b, o, s⟩ = some x0 := by
    have := hc 0 (by decide)
    simpa [Addr.add] using this
  have hs := spotN h0
  simp only at hs
  subst hs
  exact ⟨x0, rfl, rfl, hb, h0⟩
/-- A byte's reading. -/
theorem byte_of {a : Addr} {n : Nat} {y : Option (DataW H × List MemPlace)} (hy : y.isSome) (h : (W.cells? 0 a 1).bind (DataW.trod enc Tryz.prog W 0 sp hd n 5) = y) : a.spot = none ∧ a.block < W.heap.size ∧ ∃ u : UInt8, W.cell? ⟨a.block, a.off, none⟩ = some (.int .u8 (u.toNat : Int)) := by
  obtain ⟨z, rfl⟩ := Option.isSome_iff_exists.1 hy
  obtain ⟨cs, h1, h2⟩ := Option.bind_eq_some_iff.1 h
  obtain ⟨x0, rfl, hs, hb, hc⟩ := cells_one h1
  obtain ⟨m, e, _, hw⟩ := DataW.trod_int Tryz.underlying5 h2
  have e : x0 = .int .u8 m := by simpa using e
  subst e
  have hr : 0 ≤ m ∧ m < 256 := by
    simp [Lit.wf, IntKind.min, IntKind.max, IntKind.signed, IntKind.bits] at hw
    omega
  refine ⟨hs, hb, UInt8.ofNat m.toNat, ?_⟩
  rw [hc]
  have : ((UInt8.ofNat m.toNat).toNat : Int) = m := by
    have h1 : (UInt8.ofNat m.toNat).toNat = m.toNat % 256 := by simp
    rw [h1]; omega
  rw [this]
/-- A row of bytes. -/
theorem bytes_of {b : Addr} {l n : Nat} {elems : List (DataW H × List MemPlace)} (hel : elems.length = l) (hi : ∀ i, i < l → (W.cells? 0 (b.add (i * Tryz.prog.cellsOf 5)) (Tryz.prog.cellsOf 5)).bind (DataW.trod enc Tryz.prog W 0 sp hd n 5) = elems[i]?) :
    ∃ x : List UInt8, x.length = l ∧ (0 < l → b.spot = none ∧ b.block < W.heap.size) ∧ ∀ (j : Nat) (u : UInt8), x[j]? = some u → W.cell? ⟨b.block, b.off + j, none⟩ = some (.int .u8 (u.toNat : Int)) := by
  have key : ∀ i, i < l → (b.spot = none ∧ b.block < W.heap.size) ∧ ∃ u : UInt8, W.cell? ⟨b.block, b.off + i, none⟩ = some (.int .u8 (u.toNat : Int)) := fun i hil => by
    have h := hi i hil
    rw [cells5, Nat.mul_one] at h
    have h0 := hi 0 (by omega)
    rw [cells5, Nat.zero_mul] at h0
    obtain ⟨s0, b0, _⟩ := byte_of (by rw [List.getElem?_eq_getElem (by omega)]; rfl) h0
    obtain ⟨bb, bo, bs⟩ := b
    have e0 : (⟨bb, bo, bs⟩ : Addr).add 0 = ⟨bb, bo, bs⟩ := by simp [Addr.add]
    rw [e0] at s0 b0
    simp only at s0 b0
    subst s0
    obtain ⟨_, _, u, hu⟩ := byte_of (by rw [List.getElem?_eq_getElem (by omega)]; rfl) h
    rw [Vi.addAddr_eq] at hu
    exact ⟨⟨rfl, b0⟩, u, hu⟩
  have hch : ∀ i : Fin l, ∃ u : UInt8, W.cell? ⟨b.block, b.off + i, none⟩ = some (.int .u8 (u.toNat : Int)) := fun i => (key i i.2).2
  refine ⟨List.ofFn fun i => Classical.choose (hch i), by simp, fun h => (key 0 h).1, fun j u hj => ?_⟩
  obtain ⟨hlt, e⟩ := List.getElem?_eq_some_iff.1 hj
  rw [List.getElem_ofFn] at e
  have hlt' : j < l := by simpa using hlt
  have := Classical.choose_spec (hch ⟨j, hlt'⟩)
  rw [← e]
  exact this
theorem cell_heap {b o : Nat} {v : Value} (h : W.cell? ⟨b, o, none⟩ = some v) : ∃ cs e fr, W.heap[b]? = some (.cells cs e fr) ∧ cs[o]? = some v := by
  unfold World.cell? at h
  simp only at h
  split at h
  · rename_i cs e fr hb; exact ⟨cs, e, fr, hb, h⟩
  · cases h
/-- A note. -/
theorem note_of {x0 : Value} {n : Nat} {y : DataW H × List MemPlace} (h : DataW.trod enc Tryz.prog W 0 sp hd n 57 [x0] = some y) : ∃ a c x, x0 = .slice a x.length c ∧ x.length ≤ maxLen ∧ Adr W.heap.size W x (.slice a x.length c) := by
  rcases DataW.trod_slice Tryz.underlying57 h with ⟨e, _⟩ | ⟨b, l, c, elems, rest, m, _, e, _, _, hl, hm, hel, hi, _⟩
  · have e : x0 = .slice none 0 0 := by simpa using e
    exact ⟨none, 0, [], e, Nat.zero_le _, .nil rfl⟩
  · have e : x0 = .slice (some b) l c := by simpa using e
    obtain ⟨x, hx, hpos, hb⟩ := bytes_of hel hi
    subst hx
    refine ⟨some b, c, x, e, by omega, ?_⟩
    by_cases h0 : x = []
    · subst h0; exact .dead b c rfl
    · obtain ⟨s, bl⟩ := hpos (List.length_pos_iff.2 h0)
      obtain ⟨bb, bo, bs⟩ := b
      simp only at s bl hb
      subst s
      obtain ⟨u, r, rfl⟩ := List.exists_cons_of_ne_nil h0
      obtain ⟨cs, e1, fr, hw, _⟩ := cell_heap (hb 0 u rfl)
      refine .live bb bo c cs e1 fr h0 bl hw (fun j v hj => ?_)
      obtain ⟨cs', e', fr', hw', hv⟩ := cell_heap (hb j v hj)
      rw [hw] at hw'
      cases hw'
      exact hv
theorem notes_of {a : Option Addr} {l c n : Nat} {y : DataW H × List MemPlace} (h : DataW.trod enc Tryz.prog W 0 sp hd n 70 [.slice a l c] = some y) : NotesOk W a l ∧ l ≤ maxLen := by
  rcases DataW.trod_slice Tryz.underlying70 h with ⟨e, _⟩ | ⟨b, l', c', elems, rest, m, _, e, _, _, hl, hm, hel, hi, _⟩
  · simp at e
    obtain ⟨_, rfl, _⟩ := e
    exact ⟨.inl rfl, Nat.zero_le _⟩
  · simp at e
    obtain ⟨rfl, rfl, rfl⟩ := e
    refine ⟨?_, by omega⟩
    by_cases h0 : l = 0
    · exact .inl h0
    · right
      have key : ∀ i, i < l → (b.add i).spot = none ∧ (b.add i).block < W.heap.size ∧ NoteAt W (b.add i).block (b.add i).off := fun i hil => by
        have := hi i hil
        rw [cells57, Nat.mul_one, List.getElem?_eq_getElem (by omega)] at this
        obtain ⟨cs, h1, h2⟩ := Option.bind_eq_some_iff.1 this
        obtain ⟨x0, rfl, hs, hb, hc⟩ := cells_one h1
        obtain ⟨a, c, x, rfl, hx, hadr⟩ := note_of h2
        exact ⟨hs, hb, a, c, x, hc, hx, hadr⟩
      obtain ⟨bb, bo, bs⟩ := b
      have k0 := key 0 (by omega)
      have e0 : (⟨bb, bo, bs⟩ : Addr).add 0 = ⟨bb, bo, bs⟩ := by simp [Addr.add]
      rw [e0] at k0
      obtain ⟨hs, hb, _⟩ := k0
      simp only at hs
      subst hs
      refine ⟨bb, bo, rfl, hb, fun j hj => ?_⟩
      have := (key j hj).2.2
      rwa [Vi.addAddr_eq] at this
theorem betw_of {a : Option Addr} {l c n : Nat} {y : DataW H × List MemPlace} (h : DataW.trod enc Tryz.prog W 0 sp hd n 57 [.slice a l c] = some y) : BetwOk W a l ∧ l ≤ maxLen := by
  rcases DataW.trod_slice Tryz.underlying57 h with ⟨e, _⟩ | ⟨b, l', c', elems, rest, m, _, e, _, _, hl, hm, hel, hi, _⟩
  · simp at e
    obtain ⟨_, rfl, _⟩ := e
    exact ⟨.inl rfl, Nat.zero_le _⟩
  · simp at e
    obtain ⟨rfl, rfl, rfl⟩ := e
    refine ⟨?_, by omega⟩
    by_cases h0 : l = 0
    · exact .inl h0
    · right
      obtain ⟨x, hx, hpos, hb⟩ := bytes_of hel hi
      obtain ⟨s, bl⟩ := hpos (by omega)
      obtain ⟨bb, bo, bs⟩ := b
      simp only at s bl hb
      subst s
      refine ⟨bb, bo, rfl, bl, fun j hj => ⟨(x[j]'(by omega)).toNat, hb j _ (List.getElem?_eq_getElem (by omega)), by omega, ?_⟩⟩
      have := (x[j]'(by omega)).toNat_lt
      omega
end
namespace engineNotes
theorem own : ownKnob Tryz.prog.godebug = none := by kernel_rfl
theorem laidOut : laidOutB Tryz.prog = true := by kernel_rfl
theorem readable70 : Tryz.prog.readableRec 70 = true := by kernel_rfl
theorem readable57 : Tryz.prog.readableRec 57 = true := by kernel_rfl
theorem types70 : 70 < Tryz.prog.types.size := of_decide_eq_true (by kernel_rfl)
theorem types57 : 57 < Tryz.prog.types.size := of_decide_eq_true (by kernel_rfl)
set_option maxRecDepth 100000 in
theorem contract (H : Type) (enc : TypeId × Value → H) (W : World) (base : Nat) (args : Array Value) (ds gs : List (DataW H)) (before : List MemPlace) (h5 : 5 ≤ W.heap.size)
    (hval : ∀ (j : Nat) t v, Tryz.f5.params[j]? = some t → args[j]? = some v → Value.okWide Tryz.prog W .any base t v)
    (hW : DataW.Whole enc Tryz.prog Tryz.f5.params.toList Rows.engineNotesSpec.vars false W args.toList ds gs before) :
    Calls Tryz.prog 5 args W fun e W' => ∃ v, e = .returned v ∧ Rows.engineNotesSpec.post enc Tryz.prog Tryz.f5 false true false false W args v W' := by
  have hW' := hW
  have hlt := hW.lt
  obtain ⟨p, q, hA0, hV, rfl, hfz, hnd⟩ := hW
  have hA : DataW.TrodAll enc Tryz.prog W 0 (fun _ => true) true Tryz.f5.params.toList args.toList ds p := hA0
  rw [Tryz.params5] at hA hval
  obtain ⟨v0, vs0, d0, ds0, p0, q0, hargs, rfl, rfl, h0, r0⟩ := trodAll_cons hA
  obtain ⟨v1, vs1, d1, ds1, p1, q1, rfl, rfl, rfl, h1, r1⟩ := trodAll_cons r0
  obtain ⟨rfl, rfl, rfl⟩ := trodAll_nil r1
  obtain rfl : args = #[v0, v1] := by cases args; simp_all
  obtain ⟨rfl, rfl⟩ := trodVars_none hV
  obtain ⟨nb, nl, nc, rfl⟩ := okWide_slice Tryz.underlying70 (hval 0 70 v0 rfl rfl)
  obtain ⟨bb, bl, bc, rfl⟩ := okWide_slice Tryz.underlying57 (hval 1 57 v1 rfl rfl)
  have h0' := h0
  have h1' := h1
  obtain ⟨fuel0, hf0⟩ := h0'
  obtain ⟨fuel1, hf1⟩ := h1'
  obtain ⟨hn, hnl⟩ := notes_of (enc := enc) hf0
  obtain ⟨hbt, hbl⟩ := betw_of (enc := enc) hf1
  refine (walk_notes W h5 nb bb nl nc bl bc hnl hbl hn hbt).mono fun e W' ⟨he, hg⟩ => ?_
  subst he
  refine ⟨_, rfl, _, _, _, [], p0 ++ (p1 ++ []), [], hW', ?_, ?_, rfl, hg.frame _, fun h => by cases h⟩
  · exact trodAll_cons_mk (shut_bool Tryz.underlying4 _) trodAll_mk0
  · exact trodAll_cons_mk (Below.trod laidOut readable70 types70 h0 hg (fun y hy => hlt y (by simp at hy ⊢; exact .inl hy))) (trodAll_cons_mk (Below.trod laidOut readable57 types57 h1 hg (fun y hy => hlt y (by simp at hy ⊢; exact .inr hy))) trodAll_mk0)
end engineNotes
end
end Go.Proofs.YtabpbpdhapaffaaGreatDoor
end
section
namespace Go.Proofs.YtabpbpdhapaffaaGreatDoor.engineNotes
open Go.ChangeShapes Go.WideShapes Go.ChangeAt Go.RowKit
set_option maxRecDepth 100000 in
theorem row4 : (((begin Tryz.checked.prog (fun _ _ => 0) default).world.heap[4]?).bind Obj.row?).isSome = true := by kernel_rfl
theorem globals5 : 4 < Tryz.checked.prog.globals.size := of_decide_eq_true (by kernel_rfl)
theorem size5 {W : World} (h : World.ShapedOpen Tryz.checked.prog W) : 5 ≤ W.heap.size := by
  obtain ⟨⟨zero, t⟩, e⟩ := Option.isSome_iff_exists.1 row4
  obtain ⟨cs, h1, _⟩ := h.1 4 zero t globals5 e
  exact (Array.getElem?_eq_some_iff.1 h1).1
def cellsOfLaid {H : Type} : DataW H → Array Value
  | .agg xs => (xs.map fun | .lit (.int k n) => Value.int k n | _ => .bool false).toArray
  | _ => #[]
def args0 : Array Value := #[.slice none 0 0, .slice none 0 0]
def setCells (h : Array Obj) (g : Nat) (cs : Array Value) : Array Obj := h.modify g fun | .cells _ t frozen => .cells cs t frozen | o => o
/-- The heap with the tables laid. -/
def laidHeap (h : Array Obj) : Array Obj := setCells (setCells (setCells h 2 (cellsOfLaid (H := Unit) Rows.laid_internal_strconv_uint64pow10)) 3 (cellsOfLaid (H := Unit) Rows.laid_math_bits_deBruijn64tab)) 4 (cellsOfLaid (H := Unit) Rows.laid_math_bits_deBruijn32tab)
/-- A world for the witness: the tables hold what their initialisers lay. -/
noncomputable def laidWorld (os : Os) : World := { World.holding Tryz.prog os ⟨#[], #[], []⟩ with heap := laidHeap (World.holding Tryz.prog os ⟨#[], #[], []⟩).heap }
set_option maxRecDepth 100000 in
theorem laid_met (os : Os) : laidMet Tryz.prog Rows.engineNotesRow.laid ((laidWorld os).forCall (fun _ _ => 0) ⟨#[], args0, []⟩).memory :=
  laidMet_of_run' 8 (by kernel_rfl) (by kernel_rfl)
set_option maxRecDepth 100000 in
theorem reads (os : Os) {H : Type} (enc : TypeId × Value → H) : ∃ places, DataW.whole enc Tryz.prog ((laidWorld os).forCall (fun _ _ => 0) ⟨#[], args0, []⟩).memory Tryz.f5.params.toList Rows.engineNotesSpec.vars false args0.toList 8 =
    some ([.nil, .nil], [], places) :=
  ⟨[], by kernel_rfl⟩
set_option maxRecDepth 100000 in
theorem lifted (os : Os) (started : os.Started) (H : Type) (enc : TypeId × Value → H) (F : Stop.Interp) :
    ReturnsInHanded {} Tryz.checked os 5 .any ((OpenSpec.ofChange Rows.engineNotesSpec).preRow enc Tryz.prog Tryz.f5 Rows.engineNotesRow.domain false Rows.engineNotesRow.laid) (((OpenSpec.ofChange Rows.engineNotesSpec).at F).post enc Tryz.prog Tryz.f5 false true false false) := by
  obtain ⟨places, hx⟩ := reads os enc
  refine returnsInHanded_of_row (C := Tryz.checked) (s := OpenSpec.ofChange Rows.engineNotesSpec) own started (by kernel_rfl) Tryz.func5
    (witness_row_at (enc := enc) (C := Tryz.checked) false (laidWorld os) args0 rfl (by kernel_rfl) (by kernel_rfl) (by kernel_rfl)
      (OpenSpec.preRow_of_cond 8 hx (by kernel_rfl) (fun k hk => by cases hk) (by kernel_rfl) (laid_met os))) ?_
  intro W base args ds gs before hval hW _ _ _ _ a5 _
  exact contract H enc W base args ds gs before (size5 a5) hval hW
end Go.Proofs.YtabpbpdhapaffaaGreatDoor.engineNotes
end
