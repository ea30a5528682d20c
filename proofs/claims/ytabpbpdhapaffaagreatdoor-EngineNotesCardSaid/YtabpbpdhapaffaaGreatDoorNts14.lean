/-
  EngineNotes returns true whatever the notes and what stands between them, part 14: GrWRfl, GrWRgn, GrWRgl, GrWXx, GrW1, GrW2, GrW3, GrQ6. Conditions: none but those of the row.
-/
import Derived.Test.YtabpbpdhapaffaaGreatDoorNts11
import Derived.Test.YtabpbpdhapaffaaGreatDoorNts13
set_option linter.unusedSimpArgs false
set_option linter.unusedVariables false
section
set_option maxRecDepth 100000
namespace Go.Proofs.YtabpbpdhapaffaaGreatDoor
open Go.Vi
def WWRfl : Word := fun o _ => match o.dst with
  | some 58 => bif o.pos == "wal.go:65" then some 1 else none
  | some 60 => bif o.pos == "wal.go:66" then some 0 else none
  | some 63 => bif o.pos == "wal.go:67" then some 0 else none
  | some 66 => bif o.pos == "wal.go:67" then some 0 else none
  | some 72 => bif o.pos == "wal.go:67" then some 3 else none
  | some 73 => bif o.pos == "wal.go:67" then some 0 else none
  | some 82 => bif o.pos == "wal.go:70" then some 2 else none
  | some 83 => bif o.pos == "wal.go:70" then some 0 else none
  | some 85 => bif o.pos == "wal.go:70" then some 0 else none
  | some 93 => bif o.pos == "wal.go:71" then some 2 else none
  | some 94 => bif o.pos == "wal.go:71" then some 2 else none
  | some 99 => bif o.pos == "wal.go:72" then some 2 else none
  | some 100 => bif o.pos == "wal.go:72" then some 1 else none
  | _ => none
noncomputable def SWRfl (first m : Nat) (rest : List UInt8) (o5 o6 o13 o14 : AObj) : St := seenAs (heapOf 23 5 ([(20, .cells .own [P 6, I (first : Nat), .slice none 0 0, I 12, .bool false] 219), (22, .cells (.open_ 1) (byteVals (hd first ++ rest)) 5)] ++ [(5, o5), (6, o6), (13, o13), (14, o14)])) (LWA1a 0 0 first rest)
def LWRfl (first m : Nat) (rest : List UInt8) (o5 o6 o13 o14 : AObj) : List (Nat × Slot) := LW rest (.slice (some nowhere) 0 1)
noncomputable def TWRfl (first m : Nat) (rest : List UInt8) (o5 o6 o13 o14 : AObj) : List Bool := [true && (true && (true && ((rest.length + 12 - 12).ble (capLow (2 * (rest.length + 12) + 1 - 24)) && ((4 + (m : Int)).toNat.ble (rest.length + 12 - 12) && ((!isOpen (2 * (rest.length + 12) + 1 - 24) || (4 + (m : Int)).toNat.beq 0 || !Nat.beq 1 0) && ((capLow (2 * (rest.length + 12) + 1 - 24)).beq (4 + (m : Int)).toNat && isOpen (2 * (rest.length + 12) + 1 - 24))))))),
  decide (IntKind.wrap .i64 (Int.ofNat 4 + (m : Int)) = 4 + (m : Int)),
  decide (IntKind.wrap .i64 (12 + (4 + (m : Int))) = 12 + (4 + (m : Int))),
  decide (IntKind.wrap .i64 (Int.ofNat 4 + (m : Int)) = 4 + (m : Int)),
  true,
  !Nat.beq 1 0 && [Value.slice (some { block := 22, off := 12 + 4 * 1 }) ((4 + (m : Int)).toNat - 4) (2 * (rest.length + 12) + 1 - 24 - 2 * 4)].length.beq (1 * 1) && (!(0 + 1).ble (capLow 0) && (((0 + 1) * 2 * (24 + 1)).ble 140737488355328 && ([Value.slice (some { block := 22, off := 12 + 4 * 1 }) ((4 + (m : Int)).toNat - 4) (2 * (rest.length + 12) + 1 - 24 - 2 * 4)].all oneCell && [Value.slice (some { block := 22, off := 12 + 4 * 1 }) ((4 + (m : Int)).toNat - 4) (2 * (rest.length + 12) + 1 - 24 - 2 * 4)].length.beq (1 * 1)))) && (Nat.beq 0 0 && Nat.beq 0 0),
  true && (true && (true && ((4 + (m : Int)).toNat.ble (capLow (2 * (rest.length + 12) + 1 - 24)) && (Nat.ble 4 (4 + (m : Int)).toNat && ((!isOpen (2 * (rest.length + 12) + 1 - 24) && true || !Nat.beq 1 0) && !(capLow (2 * (rest.length + 12) + 1 - 24)).beq 4))))),
  decide (IntKind.wrap .i64 (Int.ofNat 4 + (m : Int)) = 4 + (m : Int)),
  !decide ((m : Int) > ↑(rest.length + 12 - 12) - 4),
  decide (IntKind.wrap .i64 (↑(rest.length + 12 - 12) - 4) = ↑(rest.length + 12 - 12) - 4),
  !decide ((m : Int) > Int.ofNat 1048576),
  !decide ((m : Int) < Int.ofNat 1),
  twice (Value.slice (some ⟨22, 12, none⟩) 4 (2 * (rest.length + 12) + 1 - 24)),
  Nat.beq 5 5,
  twice (some (AObj.cells (.open_ 1) (byteVals (hd first ++ rest)) 5)),
  true && (true && (true && (Nat.ble 4 (capLow (2 * (rest.length + 12) + 1 - 24)) && (Nat.ble 0 4 && ((!isOpen (2 * (rest.length + 12) + 1 - 24) || Nat.beq 0 0 || !Nat.beq 1 0) && !(capLow (2 * (rest.length + 12) + 1 - 24)).beq 0))))),
  decide (Int.ofNat 4 ≤ ↑(rest.length + 12 - 12))]
theorem runWRfl (first m : Nat) (rest : List UInt8) (o5 o6 o13 o14 : AObj) :
  (codeO Tryz.prog WWRfl (levX Tryz.prog (extS.with [conRD4 (byteVals (hd first ++ rest)) 12 (2 * (rest.length + 12) + 1 - 24) 23 m]).ext 300) (levO Tryz.prog (extS.with [conRD4 (byteVals (hd first ++ rest)) 12 (2 * (rest.length + 12) + 1 - 24) 23 m]) WWRfl 300) none 123 (b96) (SWRfl first m rest o5 o6 o13 o14)).map (fun r => (r.1, r.2.1.ds, r.2.1.h.gl, [20, 22, 24, 5, 6, 13, 14].map r.2.1.h.objs.get, [0, 4, 6, 8, 15, 26, 28].map (fun t => (r.2.1.tm.get t).getD Go.undef), (LWRfl first m rest o5 o6 o13 o14).all (fun x => x.2.fits ((r.2.1.tm.get x.1).getD Go.undef)), (List.range 123).all (fun t => ((LWRfl first m rest o5 o6 o13 o14).any fun x => Nat.beq x.1 t) || Slot.undef.fits ((r.2.1.tm.get t).getD Go.undef)), r.2.2)) =
  some (.normal, [], 5, [
    some (.cells .own [P 6, I (first : Nat), S 24 1, I (12 + (4 + (m : Int))), .bool false] 219),
    some (.cells (.open_ 1) (byteVals (hd first ++ rest)) 5),
    some (.cells (.open_ 1) [(.slice (some ⟨22, 12 + 4 * 1, none⟩) ((4 + (m : Int)).toNat - 4) (2 * (rest.length + 12) + 1 - 24 - 8))] 57),
    some (o5),
    some (o6),
    some (o13),
    some (o14)], [P 6, P 20, S 22 (rest.length + 12), .slice (some nowhere) 0 (2 * (rest.length + 12) + 1 - 24 - 2 * (4 + (m : Int)).toNat), .agg #[P 6, I 0, .slice none 0 0, I 0, .bool false], .tuple #[S 22 (rest.length + 12), I 0], .tuple #[S 22 (rest.length + 12), I 0]], true, true, TWRfl first m rest o5 o6 o13 o14) := by kernel_rfl
theorem testsWRfl (first m : Nat) (rest : List UInt8) (o5 o6 o13 o14 : AObj) (hm : 0 < m) (hm2 : m ≤ 5001) (hT : rest.length ≤ 1000000) (hr : 12 + 4 + m = (rest.length + 12)) : allT (TWRfl first m rest o5 o6 o13 o14) := by
  intro b hb
  simp only [TWRfl, List.mem_cons, List.not_mem_nil, or_false] at hb
  have e0 := wrap_a (Int.ofNat 4 + (m : Int))
  have e1 := wrap_a (12 + (4 + (m : Int)))
  have e2 := wrap_a (↑(rest.length + 12 - 12) - 4)
  rcases hb with hb | hb | hb | hb | hb | hb | hb | hb | hb | hb | hb | hb | hb | hb | hb | hb | hb <;> refine hb.trans ?_ <;> clear hb <;>
  first
  | with_reducible rfl
  | with_reducible exact isSame_refl _
  | with_reducible exact twice_ok _
  | (unfold ltT; rw [decide_eq_true_eq]; (try simp only [Int.ofNat_eq_natCast]); omega)
  | (unfold bornT; simp <;> omega)
  | (simp only [e0, e1, e2, wrapM, decide_true, Bool.not_eq_true', decide_eq_true_eq, decide_eq_false_iff_not, Int.ofNat_eq_natCast, gt_iff_lt]; omega)
  | (simp only [bun, capLow, isOpen, oneCell]; omega)
  | (simp only [wrapM, Int.ofNat_eq_natCast, decide_eq_true_eq]; split <;> omega)
  | (simp only [e0, e1, e2, wrapM, Int.ofNat_eq_natCast, decide_eq_true_eq, gt_iff_lt]; (repeat' split) <;> omega)
  | (first | exact z1 (by omega) | exact z2 (by omega) | exact z3 (by omega) | exact z4 (by omega) | exact z5 (by omega) | exact z6 (by omega))
  | (simp [beq_t]; done)
  | rfl
theorem gotWRfl (first m : Nat) (rest : List UInt8) (o5 o6 o13 o14 : AObj) (hm : 0 < m) (hr : 12 + 4 + m = (rest.length + 12)) (l5 : LowO o5) (l6 : LowO o6) (l13 : LowO o13) (l14 : LowO o14) :
  ∃ M, codeO Tryz.prog WWRfl (levX Tryz.prog (extS.with [conRD4 (byteVals (hd first ++ rest)) 12 (2 * (rest.length + 12) + 1 - 24) 23 m]).ext 300) (levO Tryz.prog (extS.with [conRD4 (byteVals (hd first ++ rest)) 12 (2 * (rest.length + 12) + 1 - 24) 23 m]) WWRfl 300) none 123 (b96) (SWRfl first m rest o5 o6 o13 o14) = some (.normal, M, TWRfl first m rest o5 o6 o13 o14) ∧ GenT 123 (pairs 5 [(5, 5), (6, 6), (7, 7), (8, 8), (9, 9), (10, 10), (11, 11), (12, 12), (13, 13), (14, 14), (15, 15), (16, 16), (17, 17), (18, 18), (19, 19), (20, 20), (22, 22), (24, 24)]) M (heapOf 25 5 ([(20, .cells .own [P 6, I (first : Nat), S 24 1, I (((12 + 4 + m) : Nat) : Int), .bool false] 219)] ++ [(22, .cells (.open_ 1) (byteVals (hd first ++ rest)) 5)] ++ [(24, .cells (.open_ 1) [ent (rest.length + 12) 12 m] 57)] ++ [(5, o5)] ++ [(6, o6)] ++ [(13, o13)] ++ [(14, o14)])) (LWRfl first m rest o5 o6 o13 o14) := by
  obtain ⟨⟨e, M, ts⟩, hc, h⟩ := Option.map_eq_some_iff.1 (runWRfl first m rest o5 o6 o13 o14)
  simp only [Prod.mk.injEq, List.map_cons, List.map_nil, List.cons.injEq, and_true] at h
  obtain ⟨rfl, hds, hgl, ⟨h20, h22, h24, h5, h6, h13, h14⟩, ⟨v0, v4, v6, v8, v15, v26, v28⟩, hfit, hall, rfl⟩ := h
  refine ⟨M, hc, Gen.of_pairs hgl (by decide) ?_, hfit, ?_, hall, once_of ?_, hds⟩
  · intro x hm
    simp only [base, fileO, walE, manE, tops, rowO, noneO, List.cons_append, List.nil_append, List.mem_cons, List.not_mem_nil, or_false] at hm
    rcases hm with rfl | rfl | rfl | rfl | rfl | rfl | rfl
    · refine fit rfl h20 (OG.own _ ?_) rfl sameFl
      rw [show (12 + (4 + (m : Int))) = (((12 + 4 + m) : Nat) : Int) by omega]
      exact LS.ok (by repeat' constructor)
    · refine fit rfl h22 (OG.open_ _ _ ?_) rfl sameFl
      exact LG.bytes _
    · refine fit rfl h24 (OG.open_ _ _ ?_) rfl sameFl
      refine LG.cons ?_ LG.nil
      have e4 : (4 + (m : Int)).toNat - 4 = m := by omega
      rw [e4]
      exact ent_ok rfl (by omega) (by omega)
    · exact fit rfl h5 (l5 _ (low_of (by decide))) rfl fun _ _ _ h => ⟨_, h⟩
    · exact fit rfl h6 (l6 _ (low_of (by decide))) rfl fun _ _ _ h => ⟨_, h⟩
    · exact fit rfl h13 (l13 _ (low_of (by decide))) rfl fun _ _ _ h => ⟨_, h⟩
    · exact fit rfl h14 (l14 _ (low_of (by decide))) rfl fun _ _ _ h => ⟨_, h⟩
  · intro x hx v hv
    simp only [LWRfl, LW, List.mem_cons, List.not_mem_nil, or_false] at hx
    rcases hx with rfl | rfl | rfl | rfl | rfl | rfl | rfl | rfl | rfl | rfl | rfl | rfl | rfl | rfl | rfl | rfl | rfl | rfl | rfl | rfl | rfl | rfl | rfl | rfl | rfl | rfl | rfl | rfl | rfl | rfl | rfl | rfl | rfl | rfl | rfl | rfl | rfl | rfl | rfl | rfl | rfl | rfl | rfl | rfl | rfl | rfl | rfl | rfl | rfl | rfl | rfl | rfl | rfl | rfl | rfl | rfl | rfl | rfl | rfl | rfl | rfl | rfl | rfl | rfl | rfl | rfl | rfl | rfl | rfl | rfl | rfl | rfl | rfl | rfl | rfl | rfl | rfl | rfl | rfl | rfl | rfl | rfl | rfl | rfl | rfl | rfl | rfl | rfl | rfl | rfl | rfl | rfl | rfl | rfl | rfl | rfl <;> first | (cases hv; done) | (simp only [Slot.val.injEq] at hv; subst hv)
    · simp only [v0]
      first | exact VG.ptr _ rfl | exact VG.slice _ _ _ rfl | exact VG.int _ _ | exact VG.bool _
    · simp only [v4]
      first | exact VG.ptr _ rfl | exact VG.slice _ _ _ rfl | exact VG.int _ _ | exact VG.bool _
    · simp only [v6]
      first | exact VG.ptr _ rfl | exact VG.slice _ _ _ rfl | exact VG.int _ _ | exact VG.bool _
    · simp only [v8]
      rw [show 2 * (rest.length + 12) + 1 - 24 - 2 * (4 + (m : Int)).toNat = 1 by omega]; exact VG.dead _
    · simp only [v15]
      exact VG.agg (LG.cons (VG.ptr _ rfl) (LG.cons (VG.int _ _) (LG.cons VG.sliceNil (LG.cons (VG.int _ _) (LG.cons (VG.bool _) LG.nil)))))
    · simp only [v26]
      exact VG.tuple (LG.cons (VG.slice _ _ _ rfl) (LG.cons (VG.int _ _) LG.nil))
    · simp only [v28]
      exact VG.tuple (LG.cons (VG.slice _ _ _ rfl) (LG.cons (VG.int _ _) LG.nil))
  · show (List.map (·.1) (LWRfl first m rest o5 o6 o13 o14)).Nodup
    simp only [LWRfl, LW, List.map_cons, List.map_nil]
    decide
def WWRgn : Word := fun o _ => match o.dst with
  | some 58 => bif o.pos == "wal.go:65" then some 1 else none
  | some 60 => bif o.pos == "wal.go:66" then some 0 else none
  | some 63 => bif o.pos == "wal.go:67" then some 0 else none
  | some 66 => bif o.pos == "wal.go:67" then some 0 else none
  | some 72 => bif o.pos == "wal.go:67" then some 3 else none
  | some 73 => bif o.pos == "wal.go:67" then some 0 else none
  | some 82 => bif o.pos == "wal.go:70" then some 2 else none
  | some 83 => bif o.pos == "wal.go:70" then some 0 else none
  | some 85 => bif o.pos == "wal.go:70" then some 12 else none
  | some 93 => bif o.pos == "wal.go:71" then some 2 else none
  | some 94 => bif o.pos == "wal.go:71" then some 2 else none
  | some 99 => bif o.pos == "wal.go:72" then some 2 else none
  | some 100 => bif o.pos == "wal.go:72" then some 0 else none
  | _ => none
noncomputable def SWRgn (first m j off : Nat) (rest : List UInt8) (lj : List Value) (o5 o6 o13 o14 : AObj) : St := seenAs (heapOf 25 5 ([(20, .cells .own [P 6, I (first : Nat), S 24 j, I (off : Nat), .bool false] 219), (22, .cells (.open_ 1) (byteVals (hd first ++ rest)) 5), (24, .cells (.open_ 1) lj 57)] ++ [(5, o5), (6, o6), (13, o13), (14, o14)])) (LWV rest off)
def LWRgn (first m j off : Nat) (rest : List UInt8) (lj : List Value) (o5 o6 o13 o14 : AObj) : List (Nat × Slot) := LW rest (restV (rest.length + 12) (off + 4 + m))
noncomputable def TWRgn (first m j off : Nat) (rest : List UInt8) (lj : List Value) (o5 o6 o13 o14 : AObj) : List Bool := [true && (true && (true && ((rest.length + 12 - off).ble (capLow (2 * (rest.length + 12) + 1 - 2 * off)) && ((4 + (m : Int)).toNat.ble (rest.length + 12 - off) && ((!isOpen (2 * (rest.length + 12) + 1 - 2 * off) || (4 + (m : Int)).toNat.beq 0 || !Nat.beq 1 0) && !(capLow (2 * (rest.length + 12) + 1 - 2 * off)).beq (4 + (m : Int)).toNat))))),
  decide (IntKind.wrap .i64 (Int.ofNat 4 + (m : Int)) = 4 + (m : Int)),
  decide (IntKind.wrap .i64 ((off : Int) + (4 + (m : Int))) = (off : Int) + (4 + (m : Int))),
  decide (IntKind.wrap .i64 (Int.ofNat 4 + (m : Int)) = 4 + (m : Int)),
  Nat.beq 24 24 && Nat.beq 0 0 && true && true && j.beq j && (2 * j + 1).beq (2 * j + 1) && true && true,
  !Nat.beq 1 0 && [Value.slice (some { block := 22, off := off + 4 * 1 }) ((4 + (m : Int)).toNat - 4) (2 * (rest.length + 12) + 1 - 2 * off - 2 * 4)].length.beq (1 * 1) && (!(j + 1).ble (capLow (2 * j + 1)) && (((j + 1) * 2 * (24 + 1)).ble 140737488355328 && ([Value.slice (some { block := 22, off := off + 4 * 1 }) ((4 + (m : Int)).toNat - 4) (2 * (rest.length + 12) + 1 - 2 * off - 2 * 4)].all oneCell && [Value.slice (some { block := 22, off := off + 4 * 1 }) ((4 + (m : Int)).toNat - 4) (2 * (rest.length + 12) + 1 - 2 * off - 2 * 4)].length.beq (1 * 1)))) && (isOpen (2 * j + 1) && (Nat.beq 0 0 && (lj.length.beq (j * 1) && (Nat.beq 1 1 && (!Nat.beq 1 0 && Nat.beq 57 57))))),
  true && (true && (true && ((4 + (m : Int)).toNat.ble (capLow (2 * (rest.length + 12) + 1 - 2 * off)) && (Nat.ble 4 (4 + (m : Int)).toNat && ((!isOpen (2 * (rest.length + 12) + 1 - 2 * off) && true || !Nat.beq 1 0) && !(capLow (2 * (rest.length + 12) + 1 - 2 * off)).beq 4))))),
  decide (IntKind.wrap .i64 (Int.ofNat 4 + (m : Int)) = 4 + (m : Int)),
  !decide ((m : Int) > ↑(rest.length + 12 - off) - 4),
  decide (IntKind.wrap .i64 (↑(rest.length + 12 - off) - 4) = ↑(rest.length + 12 - off) - 4),
  !decide ((m : Int) > Int.ofNat 1048576),
  !decide ((m : Int) < Int.ofNat 1),
  twice (Value.slice (some { block := 22, off := off }) 4 (2 * (rest.length + 12) + 1 - 2 * off)),
  Nat.beq 5 5,
  twice (some (AObj.cells (.open_ 1) (byteVals (hd first ++ rest)) 5)),
  true && (true && (true && (Nat.ble 4 (capLow (2 * (rest.length + 12) + 1 - 2 * off)) && (Nat.ble 0 4 && ((!isOpen (2 * (rest.length + 12) + 1 - 2 * off) || Nat.beq 0 0 || !Nat.beq 1 0) && !(capLow (2 * (rest.length + 12) + 1 - 2 * off)).beq 0))))),
  decide (Int.ofNat 4 ≤ ↑(rest.length + 12 - off))]
theorem runWRgn (first m j off : Nat) (rest : List UInt8) (lj : List Value) (o5 o6 o13 o14 : AObj) :
  (codeO Tryz.prog WWRgn (levX Tryz.prog (extS.with [conRD4 (byteVals (hd first ++ rest)) off (2 * (rest.length + 12) + 1 - 2 * off) 25 m]).ext 300) (levO Tryz.prog (extS.with [conRD4 (byteVals (hd first ++ rest)) off (2 * (rest.length + 12) + 1 - 2 * off) 25 m]) WWRgn 300) none 123 (b96) (SWRgn first m j off rest lj o5 o6 o13 o14)).map (fun r => (r.1, r.2.1.ds, r.2.1.h.gl, [20, 22, 26, 5, 6, 13, 14].map r.2.1.h.objs.get, [0, 4, 6, 8, 15, 26, 28].map (fun t => (r.2.1.tm.get t).getD Go.undef), (LWRgn first m j off rest lj o5 o6 o13 o14).all (fun x => x.2.fits ((r.2.1.tm.get x.1).getD Go.undef)), (List.range 123).all (fun t => ((LWRgn first m j off rest lj o5 o6 o13 o14).any fun x => Nat.beq x.1 t) || Slot.undef.fits ((r.2.1.tm.get t).getD Go.undef)), r.2.2)) =
  some (.normal, [], 5, [
    some (.cells .own [P 6, I (first : Nat), S 26 (j + 1), I (((off : Nat) : Int) + (4 + (m : Int))), .bool false] 219),
    some (.cells (.open_ 1) (byteVals (hd first ++ rest)) 5),
    some (.cells (.open_ 1) (lj ++ [(.slice (some ⟨22, off + 4 * 1, none⟩) ((4 + (m : Int)).toNat - 4) (2 * (rest.length + 12) + 1 - 2 * off - 2 * 4))]) 57),
    some (o5),
    some (o6),
    some (o13),
    some (o14)], [P 6, P 20, S 22 (rest.length + 12), .slice (some ⟨22, off + (4 + (m : Int)).toNat * 1, none⟩) (((rest.length + 12) - off) - (4 + (m : Int)).toNat) (2 * (rest.length + 12) + 1 - 2 * off - 2 * (4 + (m : Int)).toNat), .agg #[P 6, I 0, .slice none 0 0, I 0, .bool false], .tuple #[S 22 (rest.length + 12), I 0], .tuple #[S 22 (rest.length + 12), I 0]], true, true, TWRgn first m j off rest lj o5 o6 o13 o14) := by kernel_rfl
theorem testsWRgn (first m j off : Nat) (rest : List UInt8) (lj : List Value) (o5 o6 o13 o14 : AObj) (hm : 0 < m) (hm2 : m ≤ 5001) (hT : rest.length ≤ 1000000) (hj : j ≤ 30) (hl : lj.length = j) (ho : ∀ v ∈ lj, oneCell v = true) (hr : off + 4 + m < (rest.length + 12)) : allT (TWRgn first m j off rest lj o5 o6 o13 o14) := by
  intro b hb
  simp only [TWRgn, List.mem_cons, List.not_mem_nil, or_false] at hb
  have e0 := wrap_a (Int.ofNat 4 + (m : Int))
  have e1 := wrap_a ((off : Int) + (4 + (m : Int)))
  have e2 := wrap_a (↑(rest.length + 12 - off) - 4)
  rcases hb with hb | hb | hb | hb | hb | hb | hb | hb | hb | hb | hb | hb | hb | hb | hb | hb | hb <;> refine hb.trans ?_ <;> clear hb <;>
  first
  | with_reducible rfl
  | with_reducible exact isSame_refl _
  | with_reducible exact twice_ok _
  | (unfold ltT; rw [decide_eq_true_eq]; (try simp only [Int.ofNat_eq_natCast]); omega)
  | (unfold bornT; simp <;> omega)
  | (simp only [e0, e1, e2, wrapM, decide_true, Bool.not_eq_true', decide_eq_true_eq, decide_eq_false_iff_not, Int.ofNat_eq_natCast, gt_iff_lt]; omega)
  | (simp only [bun, capLow, isOpen, oneCell]; omega)
  | (simp only [wrapM, Int.ofNat_eq_natCast, decide_eq_true_eq]; split <;> omega)
  | (simp only [e0, e1, e2, wrapM, Int.ofNat_eq_natCast, decide_eq_true_eq, gt_iff_lt]; (repeat' split) <;> omega)
  | (first | exact z1 (by omega) | exact z2 (by omega) | exact z3 (by omega) | exact z4 (by omega) | exact z5 (by omega) | exact z6 (by omega))
  | (simp [beq_t]; done)
  | rfl
theorem gotWRgn (first m j off : Nat) (rest : List UInt8) (lj : List Value) (o5 o6 o13 o14 : AObj) (hm : 0 < m) (hr : off + 4 + m < (rest.length + 12)) (lj_ok : ∀ ρ : Nat → Option Nat, ρ 22 = some 22 → LG ρ lj lj) (l5 : LowO o5) (l6 : LowO o6) (l13 : LowO o13) (l14 : LowO o14) :
  ∃ M, codeO Tryz.prog WWRgn (levX Tryz.prog (extS.with [conRD4 (byteVals (hd first ++ rest)) off (2 * (rest.length + 12) + 1 - 2 * off) 25 m]).ext 300) (levO Tryz.prog (extS.with [conRD4 (byteVals (hd first ++ rest)) off (2 * (rest.length + 12) + 1 - 2 * off) 25 m]) WWRgn 300) none 123 (b96) (SWRgn first m j off rest lj o5 o6 o13 o14) = some (.normal, M, TWRgn first m j off rest lj o5 o6 o13 o14) ∧ GenT 123 (pairs 5 [(5, 5), (6, 6), (7, 7), (8, 8), (9, 9), (10, 10), (11, 11), (12, 12), (13, 13), (14, 14), (15, 15), (16, 16), (17, 17), (18, 18), (19, 19), (20, 20), (22, 22), (24, 26)]) M (heapOf 25 5 ([(20, .cells .own [P 6, I (first : Nat), S 24 (j + 1), I (((off + 4 + m) : Nat) : Int), .bool false] 219)] ++ [(22, .cells (.open_ 1) (byteVals (hd first ++ rest)) 5)] ++ [(24, .cells (.open_ 1) (lj ++ [ent (rest.length + 12) off m]) 57)] ++ [(5, o5)] ++ [(6, o6)] ++ [(13, o13)] ++ [(14, o14)])) (LWRgn first m j off rest lj o5 o6 o13 o14) := by
  obtain ⟨⟨e, M, ts⟩, hc, h⟩ := Option.map_eq_some_iff.1 (runWRgn first m j off rest lj o5 o6 o13 o14)
  simp only [Prod.mk.injEq, List.map_cons, List.map_nil, List.cons.injEq, and_true] at h
  obtain ⟨rfl, hds, hgl, ⟨h20, h22, h26, h5, h6, h13, h14⟩, ⟨v0, v4, v6, v8, v15, v26, v28⟩, hfit, hall, rfl⟩ := h
  refine ⟨M, hc, Gen.of_pairs hgl (by decide) ?_, hfit, ?_, hall, once_of ?_, hds⟩
  · intro x hm
    simp only [base, fileO, walE, manE, tops, rowO, noneO, List.cons_append, List.nil_append, List.mem_cons, List.not_mem_nil, or_false] at hm
    rcases hm with rfl | rfl | rfl | rfl | rfl | rfl | rfl
    · refine fit rfl h20 (OG.own _ ?_) rfl sameFl
      rw [show (((off : Nat) : Int) + (4 + (m : Int))) = (((off + 4 + m) : Nat) : Int) by omega]
      exact LS.ok (by repeat' constructor)
    · refine fit rfl h22 (OG.open_ _ _ ?_) rfl sameFl
      exact LG.bytes _
    · refine fit rfl h26 (OG.open_ _ _ ?_) rfl sameFl
      refine LG.append (lj_ok _ rfl) ?_
      refine LG.cons ?_ LG.nil
      have e4 : (4 + (m : Int)).toNat - 4 = m := by omega
      rw [e4]
      exact ent_ok rfl (by omega) (by omega)
    · exact fit rfl h5 (l5 _ (low_of (by decide))) rfl fun _ _ _ h => ⟨_, h⟩
    · exact fit rfl h6 (l6 _ (low_of (by decide))) rfl fun _ _ _ h => ⟨_, h⟩
    · exact fit rfl h13 (l13 _ (low_of (by decide))) rfl fun _ _ _ h => ⟨_, h⟩
    · exact fit rfl h14 (l14 _ (low_of (by decide))) rfl fun _ _ _ h => ⟨_, h⟩
  · intro x hx v hv
    simp only [LWRgn, LW, List.mem_cons, List.not_mem_nil, or_false] at hx
    rcases hx with rfl | rfl | rfl | rfl | rfl | rfl | rfl | rfl | rfl | rfl | rfl | rfl | rfl | rfl | rfl | rfl | rfl | rfl | rfl | rfl | rfl | rfl | rfl | rfl | rfl | rfl | rfl | rfl | rfl | rfl | rfl | rfl | rfl | rfl | rfl | rfl | rfl | rfl | rfl | rfl | rfl | rfl | rfl | rfl | rfl | rfl | rfl | rfl | rfl | rfl | rfl | rfl | rfl | rfl | rfl | rfl | rfl | rfl | rfl | rfl | rfl | rfl | rfl | rfl | rfl | rfl | rfl | rfl | rfl | rfl | rfl | rfl | rfl | rfl | rfl | rfl | rfl | rfl | rfl | rfl | rfl | rfl | rfl | rfl | rfl | rfl | rfl | rfl | rfl | rfl | rfl | rfl | rfl | rfl | rfl | rfl <;> first | (cases hv; done) | (simp only [Slot.val.injEq] at hv; subst hv)
    · simp only [v0]
      first | exact VG.ptr _ rfl | exact VG.slice _ _ _ rfl | exact VG.int _ _ | exact VG.bool _
    · simp only [v4]
      first | exact VG.ptr _ rfl | exact VG.slice _ _ _ rfl | exact VG.int _ _ | exact VG.bool _
    · simp only [v6]
      first | exact VG.ptr _ rfl | exact VG.slice _ _ _ rfl | exact VG.int _ _ | exact VG.bool _
    · simp only [v8]
      exact rest_ok rfl (by omega) (by omega) (by omega)
    · simp only [v15]
      exact VG.agg (LG.cons (VG.ptr _ rfl) (LG.cons (VG.int _ _) (LG.cons VG.sliceNil (LG.cons (VG.int _ _) (LG.cons (VG.bool _) LG.nil)))))
    · simp only [v26]
      exact VG.tuple (LG.cons (VG.slice _ _ _ rfl) (LG.cons (VG.int _ _) LG.nil))
    · simp only [v28]
      exact VG.tuple (LG.cons (VG.slice _ _ _ rfl) (LG.cons (VG.int _ _) LG.nil))
  · show (List.map (·.1) (LWRgn first m j off rest lj o5 o6 o13 o14)).Nodup
    simp only [LWRgn, LW, List.map_cons, List.map_nil]
    decide
def WWRgl : Word := fun o _ => match o.dst with
  | some 58 => bif o.pos == "wal.go:65" then some 1 else none
  | some 60 => bif o.pos == "wal.go:66" then some 0 else none
  | some 63 => bif o.pos == "wal.go:67" then some 0 else none
  | some 66 => bif o.pos == "wal.go:67" then some 0 else none
  | some 72 => bif o.pos == "wal.go:67" then some 3 else none
  | some 73 => bif o.pos == "wal.go:67" then some 0 else none
  | some 82 => bif o.pos == "wal.go:70" then some 2 else none
  | some 83 => bif o.pos == "wal.go:70" then some 0 else none
  | some 85 => bif o.pos == "wal.go:70" then some 12 else none
  | some 93 => bif o.pos == "wal.go:71" then some 2 else none
  | some 94 => bif o.pos == "wal.go:71" then some 2 else none
  | some 99 => bif o.pos == "wal.go:72" then some 2 else none
  | some 100 => bif o.pos == "wal.go:72" then some 1 else none
  | _ => none
noncomputable def SWRgl (first m j off : Nat) (rest : List UInt8) (lj : List Value) (o5 o6 o13 o14 : AObj) : St := seenAs (heapOf 25 5 ([(20, .cells .own [P 6, I (first : Nat), S 24 j, I (off : Nat), .bool false] 219), (22, .cells (.open_ 1) (byteVals (hd first ++ rest)) 5), (24, .cells (.open_ 1) lj 57)] ++ [(5, o5), (6, o6), (13, o13), (14, o14)])) (LWV rest off)
def LWRgl (first m j off : Nat) (rest : List UInt8) (lj : List Value) (o5 o6 o13 o14 : AObj) : List (Nat × Slot) := LW rest (.slice (some nowhere) 0 1)
noncomputable def TWRgl (first m j off : Nat) (rest : List UInt8) (lj : List Value) (o5 o6 o13 o14 : AObj) : List Bool := [true && (true && (true && ((rest.length + 12 - off).ble (capLow (2 * (rest.length + 12) + 1 - 2 * off)) && ((4 + (m : Int)).toNat.ble (rest.length + 12 - off) && ((!isOpen (2 * (rest.length + 12) + 1 - 2 * off) || (4 + (m : Int)).toNat.beq 0 || !Nat.beq 1 0) && ((capLow (2 * (rest.length + 12) + 1 - 2 * off)).beq (4 + (m : Int)).toNat && isOpen (2 * (rest.length + 12) + 1 - 2 * off))))))),
  decide (IntKind.wrap .i64 (Int.ofNat 4 + (m : Int)) = 4 + (m : Int)),
  decide (IntKind.wrap .i64 ((off : Int) + (4 + (m : Int))) = (off : Int) + (4 + (m : Int))),
  decide (IntKind.wrap .i64 (Int.ofNat 4 + (m : Int)) = 4 + (m : Int)),
  Nat.beq 24 24 && Nat.beq 0 0 && true && true && j.beq j && (2 * j + 1).beq (2 * j + 1) && true && true,
  !Nat.beq 1 0 && [Value.slice (some { block := 22, off := off + 4 * 1 }) ((4 + (m : Int)).toNat - 4) (2 * (rest.length + 12) + 1 - 2 * off - 2 * 4)].length.beq (1 * 1) && (!(j + 1).ble (capLow (2 * j + 1)) && (((j + 1) * 2 * (24 + 1)).ble 140737488355328 && ([Value.slice (some { block := 22, off := off + 4 * 1 }) ((4 + (m : Int)).toNat - 4) (2 * (rest.length + 12) + 1 - 2 * off - 2 * 4)].all oneCell && [Value.slice (some { block := 22, off := off + 4 * 1 }) ((4 + (m : Int)).toNat - 4) (2 * (rest.length + 12) + 1 - 2 * off - 2 * 4)].length.beq (1 * 1)))) && (isOpen (2 * j + 1) && (Nat.beq 0 0 && (lj.length.beq (j * 1) && (Nat.beq 1 1 && (!Nat.beq 1 0 && Nat.beq 57 57))))),
  true && (true && (true && ((4 + (m : Int)).toNat.ble (capLow (2 * (rest.length + 12) + 1 - 2 * off)) && (Nat.ble 4 (4 + (m : Int)).toNat && ((!isOpen (2 * (rest.length + 12) + 1 - 2 * off) && true || !Nat.beq 1 0) && !(capLow (2 * (rest.length + 12) + 1 - 2 * off)).beq 4))))),
  decide (IntKind.wrap .i64 (Int.ofNat 4 + (m : Int)) = 4 + (m : Int)),
  !decide ((m : Int) > ↑(rest.length + 12 - off) - 4),
  decide (IntKind.wrap .i64 (↑(rest.length + 12 - off) - 4) = ↑(rest.length + 12 - off) - 4),
  !decide ((m : Int) > Int.ofNat 1048576),
  !decide ((m : Int) < Int.ofNat 1),
  twice (Value.slice (some { block := 22, off := off }) 4 (2 * (rest.length + 12) + 1 - 2 * off)),
  Nat.beq 5 5,
  twice (some (AObj.cells (.open_ 1) (byteVals (hd first ++ rest)) 5)),
  true && (true && (true && (Nat.ble 4 (capLow (2 * (rest.length + 12) + 1 - 2 * off)) && (Nat.ble 0 4 && ((!isOpen (2 * (rest.length + 12) + 1 - 2 * off) || Nat.beq 0 0 || !Nat.beq 1 0) && !(capLow (2 * (rest.length + 12) + 1 - 2 * off)).beq 0))))),
  decide (Int.ofNat 4 ≤ ↑(rest.length + 12 - off))]
theorem runWRgl (first m j off : Nat) (rest : List UInt8) (lj : List Value) (o5 o6 o13 o14 : AObj) :
  (codeO Tryz.prog WWRgl (levX Tryz.prog (extS.with [conRD4 (byteVals (hd first ++ rest)) off (2 * (rest.length + 12) + 1 - 2 * off) 25 m]).ext 300) (levO Tryz.prog (extS.with [conRD4 (byteVals (hd first ++ rest)) off (2 * (rest.length + 12) + 1 - 2 * off) 25 m]) WWRgl 300) none 123 (b96) (SWRgl first m j off rest lj o5 o6 o13 o14)).map (fun r => (r.1, r.2.1.ds, r.2.1.h.gl, [20, 22, 26, 5, 6, 13, 14].map r.2.1.h.objs.get, [0, 4, 6, 8, 15, 26, 28].map (fun t => (r.2.1.tm.get t).getD Go.undef), (LWRgl first m j off rest lj o5 o6 o13 o14).all (fun x => x.2.fits ((r.2.1.tm.get x.1).getD Go.undef)), (List.range 123).all (fun t => ((LWRgl first m j off rest lj o5 o6 o13 o14).any fun x => Nat.beq x.1 t) || Slot.undef.fits ((r.2.1.tm.get t).getD Go.undef)), r.2.2)) =
  some (.normal, [], 5, [
    some (.cells .own [P 6, I (first : Nat), S 26 (j + 1), I (((off : Nat) : Int) + (4 + (m : Int))), .bool false] 219),
    some (.cells (.open_ 1) (byteVals (hd first ++ rest)) 5),
    some (.cells (.open_ 1) (lj ++ [(.slice (some ⟨22, off + 4 * 1, none⟩) ((4 + (m : Int)).toNat - 4) (2 * (rest.length + 12) + 1 - 2 * off - 2 * 4))]) 57),
    some (o5),
    some (o6),
    some (o13),
    some (o14)], [P 6, P 20, S 22 (rest.length + 12), .slice (some nowhere) 0 (2 * (rest.length + 12) + 1 - 2 * off - 2 * (4 + (m : Int)).toNat), .agg #[P 6, I 0, .slice none 0 0, I 0, .bool false], .tuple #[S 22 (rest.length + 12), I 0], .tuple #[S 22 (rest.length + 12), I 0]], true, true, TWRgl first m j off rest lj o5 o6 o13 o14) := by kernel_rfl
theorem testsWRgl (first m j off : Nat) (rest : List UInt8) (lj : List Value) (o5 o6 o13 o14 : AObj) (hm : 0 < m) (hm2 : m ≤ 5001) (hT : rest.length ≤ 1000000) (hj : j ≤ 30) (hl : lj.length = j) (ho : ∀ v ∈ lj, oneCell v = true) (hr : off + 4 + m = (rest.length + 12)) : allT (TWRgl first m j off rest lj o5 o6 o13 o14) := by
  intro b hb
  simp only [TWRgl, List.mem_cons, List.not_mem_nil, or_false] at hb
  have e0 := wrap_a (Int.ofNat 4 + (m : Int))
  have e1 := wrap_a ((off : Int) + (4 + (m : Int)))
  have e2 := wrap_a (↑(rest.length + 12 - off) - 4)
  rcases hb with hb | hb | hb | hb | hb | hb | hb | hb | hb | hb | hb | hb | hb | hb | hb | hb | hb <;> refine hb.trans ?_ <;> clear hb <;>
  first
  | with_reducible rfl
  | with_reducible exact isSame_refl _
  | with_reducible exact twice_ok _
  | (unfold ltT; rw [decide_eq_true_eq]; (try simp only [Int.ofNat_eq_natCast]); omega)
  | (unfold bornT; simp <;> omega)
  | (simp only [e0, e1, e2, wrapM, decide_true, Bool.not_eq_true', decide_eq_true_eq, decide_eq_false_iff_not, Int.ofNat_eq_natCast, gt_iff_lt]; omega)
  | (simp only [bun, capLow, isOpen, oneCell]; omega)
  | (simp only [wrapM, Int.ofNat_eq_natCast, decide_eq_true_eq]; split <;> omega)
  | (simp only [e0, e1, e2, wrapM, Int.ofNat_eq_natCast, decide_eq_true_eq, gt_iff_lt]; (repeat' split) <;> omega)
  | (first | exact z1 (by omega) | exact z2 (by omega) | exact z3 (by omega) | exact z4 (by omega) | exact z5 (by omega) | exact z6 (by omega))
  | (simp [beq_t]; done)
  | rfl
theorem gotWRgl (first m j off : Nat) (rest : List UInt8) (lj : List Value) (o5 o6 o13 o14 : AObj) (hm : 0 < m) (hr : off + 4 + m = (rest.length + 12)) (lj_ok : ∀ ρ : Nat → Option Nat, ρ 22 = some 22 → LG ρ lj lj) (l5 : LowO o5) (l6 : LowO o6) (l13 : LowO o13) (l14 : LowO o14) :
  ∃ M, codeO Tryz.prog WWRgl (levX Tryz.prog (extS.with [conRD4 (byteVals (hd first ++ rest)) off (2 * (rest.length + 12) + 1 - 2 * off) 25 m]).ext 300) (levO Tryz.prog (extS.with [conRD4 (byteVals (hd first ++ rest)) off (2 * (rest.length + 12) + 1 - 2 * off) 25 m]) WWRgl 300) none 123 (b96) (SWRgl first m j off rest lj o5 o6 o13 o14) = some (.normal, M, TWRgl first m j off rest lj o5 o6 o13 o14) ∧ GenT 123 (pairs 5 [(5, 5), (6, 6), (7, 7), (8, 8), (9, 9), (10, 10), (11, 11), (12, 12), (13, 13), (14, 14), (15, 15), (16, 16), (17, 17), (18, 18), (19, 19), (20, 20), (22, 22), (24, 26)]) M (heapOf 25 5 ([(20, .cells .own [P 6, I (first : Nat), S 24 (j + 1), I (((off + 4 + m) : Nat) : Int), .bool false] 219)] ++ [(22, .cells (.open_ 1) (byteVals (hd first ++ rest)) 5)] ++ [(24, .cells (.open_ 1) (lj ++ [ent (rest.length + 12) off m]) 57)] ++ [(5, o5)] ++ [(6, o6)] ++ [(13, o13)] ++ [(14, o14)])) (LWRgl first m j off rest lj o5 o6 o13 o14) := by
  obtain ⟨⟨e, M, ts⟩, hc, h⟩ := Option.map_eq_some_iff.1 (runWRgl first m j off rest lj o5 o6 o13 o14)
  simp only [Prod.mk.injEq, List.map_cons, List.map_nil, List.cons.injEq, and_true] at h
  obtain ⟨rfl, hds, hgl, ⟨h20, h22, h26, h5, h6, h13, h14⟩, ⟨v0, v4, v6, v8, v15, v26, v28⟩, hfit, hall, rfl⟩ := h
  refine ⟨M, hc, Gen.of_pairs hgl (by decide) ?_, hfit, ?_, hall, once_of ?_, hds⟩
  · intro x hm
    simp only [base, fileO, walE, manE, tops, rowO, noneO, List.cons_append, List.nil_append, List.mem_cons, List.not_mem_nil, or_false] at hm
    rcases hm with rfl | rfl | rfl | rfl | rfl | rfl | rfl
    · refine fit rfl h20 (OG.own _ ?_) rfl sameFl
      rw [show (((off : Nat) : Int) + (4 + (m : Int))) = (((off + 4 + m) : Nat) : Int) by omega]
      exact LS.ok (by repeat' constructor)
    · refine fit rfl h22 (OG.open_ _ _ ?_) rfl sameFl
      exact LG.bytes _
    · refine fit rfl h26 (OG.open_ _ _ ?_) rfl sameFl
      refine LG.append (lj_ok _ rfl) ?_
      refine LG.cons ?_ LG.nil
      have e4 : (4 + (m : Int)).toNat - 4 = m := by omega
      rw [e4]
      exact ent_ok rfl (by omega) (by omega)
    · exact fit rfl h5 (l5 _ (low_of (by decide))) rfl fun _ _ _ h => ⟨_, h⟩
    · exact fit rfl h6 (l6 _ (low_of (by decide))) rfl fun _ _ _ h => ⟨_, h⟩
    · exact fit rfl h13 (l13 _ (low_of (by decide))) rfl fun _ _ _ h => ⟨_, h⟩
    · exact fit rfl h14 (l14 _ (low_of (by decide))) rfl fun _ _ _ h => ⟨_, h⟩
  · intro x hx v hv
    simp only [LWRgl, LW, List.mem_cons, List.not_mem_nil, or_false] at hx
    rcases hx with rfl | rfl | rfl | rfl | rfl | rfl | rfl | rfl | rfl | rfl | rfl | rfl | rfl | rfl | rfl | rfl | rfl | rfl | rfl | rfl | rfl | rfl | rfl | rfl | rfl | rfl | rfl | rfl | rfl | rfl | rfl | rfl | rfl | rfl | rfl | rfl | rfl | rfl | rfl | rfl | rfl | rfl | rfl | rfl | rfl | rfl | rfl | rfl | rfl | rfl | rfl | rfl | rfl | rfl | rfl | rfl | rfl | rfl | rfl | rfl | rfl | rfl | rfl | rfl | rfl | rfl | rfl | rfl | rfl | rfl | rfl | rfl | rfl | rfl | rfl | rfl | rfl | rfl | rfl | rfl | rfl | rfl | rfl | rfl | rfl | rfl | rfl | rfl | rfl | rfl | rfl | rfl | rfl | rfl | rfl | rfl <;> first | (cases hv; done) | (simp only [Slot.val.injEq] at hv; subst hv)
    · simp only [v0]
      first | exact VG.ptr _ rfl | exact VG.slice _ _ _ rfl | exact VG.int _ _ | exact VG.bool _
    · simp only [v4]
      first | exact VG.ptr _ rfl | exact VG.slice _ _ _ rfl | exact VG.int _ _ | exact VG.bool _
    · simp only [v6]
      first | exact VG.ptr _ rfl | exact VG.slice _ _ _ rfl | exact VG.int _ _ | exact VG.bool _
    · simp only [v8]
      rw [show 2 * (rest.length + 12) + 1 - 2 * off - 2 * (4 + (m : Int)).toNat = 1 by omega]; exact VG.dead _
    · simp only [v15]
      exact VG.agg (LG.cons (VG.ptr _ rfl) (LG.cons (VG.int _ _) (LG.cons VG.sliceNil (LG.cons (VG.int _ _) (LG.cons (VG.bool _) LG.nil)))))
    · simp only [v26]
      exact VG.tuple (LG.cons (VG.slice _ _ _ rfl) (LG.cons (VG.int _ _) LG.nil))
    · simp only [v28]
      exact VG.tuple (LG.cons (VG.slice _ _ _ rfl) (LG.cons (VG.int _ _) LG.nil))
  · show (List.map (·.1) (LWRgl first m j off rest lj o5 o6 o13 o14)).Nodup
    simp only [LWRgl, LW, List.map_cons, List.map_nil]
    decide
def WWXx : Word := fun o _ => match o.dst with
  | _ => none
noncomputable def SWXx (first j off : Nat) (rest : List UInt8) (lj : List Value) (o5 o6 o13 o14 : AObj) : St := seenAs (heapOf 25 5 ([(20, .cells .own [P 6, I (first : Nat), S 24 j, I (off : Nat), .bool false] 219), (22, .cells (.open_ 1) (byteVals (hd first ++ rest)) 5), (24, .cells (.open_ 1) lj 57)] ++ [(5, o5), (6, o6), (13, o13), (14, o14)])) (LW rest (.slice (some nowhere) 0 1))
def LWXx (first j off : Nat) (rest : List UInt8) (lj : List Value) (o5 o6 o13 o14 : AObj) : List (Nat × Slot) := [(0, .val (P 6)), (2, .top), (3, .top), (4, .val (P 20)), (5, .top), (6, .val (S 22 (rest.length + 12))), (7, .top), (8, .val (.slice (some nowhere) 0 1)), (9, .top), (12, .top), (13, .bool false), (14, .top), (15, .val (.agg #[P 6, I 0, .slice none 0 0, I 0, .bool false])), (16, .top), (17, .top), (18, .top), (19, .top), (20, .bool true), (21, .bool true), (22, .top), (23, .bool false), (24, .bool false), (26, .val (.tuple #[S 22 (rest.length + 12), I 0])), (27, .top), (28, .val (.tuple #[S 22 (rest.length + 12), I 0])), (29, .top), (30, .top), (31, .top), (32, .bool false), (33, .bool false), (34, .top), (35, .top), (36, .bool false), (37, .bool false), (38, .bool false), (39, .top), (40, .top), (41, .top), (42, .bool false), (43, .bool false), (45, .top), (46, .top), (47, .top), (48, .top), (49, .top), (50, .top), (51, .top), (52, .top), (53, .top), (54, .top), (55, .top), (56, .top), (57, .top), (58, .bool false), (59, .top), (60, .top), (61, .top), (62, .top), (63, .bool false), (64, .bool false), (65, .top), (66, .bool false), (67, .bool false), (68, .bool false), (69, .top), (70, .top), (71, .top), (72, .top), (73, .bool false), (74, .bool false), (75, .top), (76, .top), (77, .top), (78, .top), (79, .top), (80, .top), (81, .top), (82, .top), (83, .top), (84, .top), (85, .top), (86, .top), (87, .top), (88, .top), (89, .top), (90, .top), (91, .top), (92, .top), (93, .top), (94, .top), (95, .top), (96, .top), (97, .top), (98, .top), (99, .top), (100, .top)]
noncomputable def TWXx (first j off : Nat) (rest : List UInt8) (lj : List Value) (o5 o6 o13 o14 : AObj) : List Bool := []
theorem runWXx (first j off : Nat) (rest : List UInt8) (lj : List Value) (o5 o6 o13 o14 : AObj) :
  (codeO Tryz.prog WWXx (levX Tryz.prog extS.ext 300) (levO Tryz.prog extS WWXx 300) none 123 (b96) (SWXx first j off rest lj o5 o6 o13 o14)).map (fun r => (r.1, r.2.1.ds, r.2.1.h.gl, [20, 22, 24, 5, 6, 13, 14].map r.2.1.h.objs.get, [0, 4, 6, 8, 15, 26, 28].map (fun t => (r.2.1.tm.get t).getD Go.undef), (LWXx first j off rest lj o5 o6 o13 o14).all (fun x => x.2.fits ((r.2.1.tm.get x.1).getD Go.undef)), (List.range 123).all (fun t => ((LWXx first j off rest lj o5 o6 o13 o14).any fun x => Nat.beq x.1 t) || Slot.undef.fits ((r.2.1.tm.get t).getD Go.undef)), r.2.2)) =
  some (.exit 0, [], 5, [
    some (.cells .own [P 6, I (first : Nat), S 24 j, I (off : Nat), .bool false] 219),
    some (.cells (.open_ 1) (byteVals (hd first ++ rest)) 5),
    some (.cells (.open_ 1) lj 57),
    some (o5),
    some (o6),
    some (o13),
    some (o14)], [P 6, P 20, S 22 (rest.length + 12), .slice (some nowhere) 0 1, .agg #[P 6, I 0, .slice none 0 0, I 0, .bool false], .tuple #[S 22 (rest.length + 12), I 0], .tuple #[S 22 (rest.length + 12), I 0]], true, true, TWXx first j off rest lj o5 o6 o13 o14) := by kernel_rfl
theorem testsWXx (first j off : Nat) (rest : List UInt8) (lj : List Value) (o5 o6 o13 o14 : AObj)  : allT (TWXx first j off rest lj o5 o6 o13 o14) := fun b hb => absurd hb List.not_mem_nil
theorem gotWXx (first j off : Nat) (rest : List UInt8) (lj : List Value) (o5 o6 o13 o14 : AObj) (lj_ok : ∀ ρ : Nat → Option Nat, ρ 22 = some 22 → LG ρ lj lj) (l5 : LowO o5) (l6 : LowO o6) (l13 : LowO o13) (l14 : LowO o14) :
  ∃ M, codeO Tryz.prog WWXx (levX Tryz.prog extS.ext 300) (levO Tryz.prog extS WWXx 300) none 123 (b96) (SWXx first j off rest lj o5 o6 o13 o14) = some (.exit 0, M, TWXx first j off rest lj o5 o6 o13 o14) ∧ GenT 123 (pairs 5 [(5, 5), (6, 6), (7, 7), (8, 8), (9, 9), (10, 10), (11, 11), (12, 12), (13, 13), (14, 14), (15, 15), (16, 16), (17, 17), (18, 18), (19, 19), (20, 20), (22, 22), (24, 24)]) M (heapOf 25 5 ([(20, .cells .own [P 6, I (first : Nat), S 24 j, I (off : Nat), .bool false] 219)] ++ [(22, .cells (.open_ 1) (byteVals (hd first ++ rest)) 5)] ++ [(24, .cells (.open_ 1) lj 57)] ++ [(5, o5)] ++ [(6, o6)] ++ [(13, o13)] ++ [(14, o14)])) (LWXx first j off rest lj o5 o6 o13 o14) := by
  obtain ⟨⟨e, M, ts⟩, hc, h⟩ := Option.map_eq_some_iff.1 (runWXx first j off rest lj o5 o6 o13 o14)
  simp only [Prod.mk.injEq, List.map_cons, List.map_nil, List.cons.injEq, and_true] at h
  obtain ⟨rfl, hds, hgl, ⟨h20, h22, h24, h5, h6, h13, h14⟩, ⟨v0, v4, v6, v8, v15, v26, v28⟩, hfit, hall, rfl⟩ := h
  refine ⟨M, hc, Gen.of_pairs hgl (by decide) ?_, hfit, ?_, hall, once_of ?_, hds⟩
  · intro x hm
    simp only [base, fileO, walE, manE, tops, rowO, noneO, List.cons_append, List.nil_append, List.mem_cons, List.not_mem_nil, or_false] at hm
    rcases hm with rfl | rfl | rfl | rfl | rfl | rfl | rfl
    · refine fit rfl h20 (OG.own _ ?_) rfl sameFl
      exact LS.ok (by repeat' constructor)
    · refine fit rfl h22 (OG.open_ _ _ ?_) rfl sameFl
      exact LG.bytes _
    · exact fit rfl h24 (OG.open_ _ _ (lj_ok _ rfl)) rfl sameFl
    · exact fit rfl h5 (l5 _ (low_of (by decide))) rfl fun _ _ _ h => ⟨_, h⟩
    · exact fit rfl h6 (l6 _ (low_of (by decide))) rfl fun _ _ _ h => ⟨_, h⟩
    · exact fit rfl h13 (l13 _ (low_of (by decide))) rfl fun _ _ _ h => ⟨_, h⟩
    · exact fit rfl h14 (l14 _ (low_of (by decide))) rfl fun _ _ _ h => ⟨_, h⟩
  · intro x hx v hv
    simp only [LWXx, List.mem_cons, List.not_mem_nil, or_false] at hx
    rcases hx with rfl | rfl | rfl | rfl | rfl | rfl | rfl | rfl | rfl | rfl | rfl | rfl | rfl | rfl | rfl | rfl | rfl | rfl | rfl | rfl | rfl | rfl | rfl | rfl | rfl | rfl | rfl | rfl | rfl | rfl | rfl | rfl | rfl | rfl | rfl | rfl | rfl | rfl | rfl | rfl | rfl | rfl | rfl | rfl | rfl | rfl | rfl | rfl | rfl | rfl | rfl | rfl | rfl | rfl | rfl | rfl | rfl | rfl | rfl | rfl | rfl | rfl | rfl | rfl | rfl | rfl | rfl | rfl | rfl | rfl | rfl | rfl | rfl | rfl | rfl | rfl | rfl | rfl | rfl | rfl | rfl | rfl | rfl | rfl | rfl | rfl | rfl | rfl | rfl | rfl | rfl | rfl | rfl | rfl | rfl | rfl <;> first | (cases hv; done) | (simp only [Slot.val.injEq] at hv; subst hv)
    · simp only [v0]
      first | exact VG.ptr _ rfl | exact VG.slice _ _ _ rfl | exact VG.int _ _ | exact VG.bool _
    · simp only [v4]
      first | exact VG.ptr _ rfl | exact VG.slice _ _ _ rfl | exact VG.int _ _ | exact VG.bool _
    · simp only [v6]
      first | exact VG.ptr _ rfl | exact VG.slice _ _ _ rfl | exact VG.int _ _ | exact VG.bool _
    · simp only [v8]
      exact VG.dead _
    · simp only [v15]
      exact VG.agg (LG.cons (VG.ptr _ rfl) (LG.cons (VG.int _ _) (LG.cons VG.sliceNil (LG.cons (VG.int _ _) (LG.cons (VG.bool _) LG.nil)))))
    · simp only [v26]
      exact VG.tuple (LG.cons (VG.slice _ _ _ rfl) (LG.cons (VG.int _ _) LG.nil))
    · simp only [v28]
      exact VG.tuple (LG.cons (VG.slice _ _ _ rfl) (LG.cons (VG.int _ _) LG.nil))
  · show (List.map (·.1) (LWXx first j off rest lj o5 o6 o13 o14)).Nodup
    simp only [LWXx, List.map_cons, List.map_nil]
    decide
end Go.Proofs.YtabpbpdhapaffaaGreatDoor
end
section
namespace Go.Proofs.YtabpbpdhapaffaaGreatDoor
open Go.Vi
/-- A note as it lies in the log. -/
def frm (e : List UInt8) : List UInt8 := beb (1 + e.length) ++ 6 :: e
def frms (es : List (List UInt8)) : List UInt8 := (es.map frm).flatten
theorem frm_length (e : List UInt8) : (frm e).length = 4 + (1 + e.length) := by simp [frm, beb]; omega
/-- How many bytes the first entries have. -/
def span (es : List (List UInt8)) : Nat := (frms es).length
theorem span_snoc (es : List (List UInt8)) (e : List UInt8) : span (es ++ [e]) = span es + (4 + (1 + e.length)) := by
  simp [span, frms, frm_length]
/-- The log's list. -/
def ents (t : Nat) : Nat → List (List UInt8) → List Value
  | _, [] => []
  | off, e :: es => ent t off (1 + e.length) :: ents t (off + 4 + (1 + e.length)) es
theorem ents_snoc (t : Nat) : ∀ (es : List (List UInt8)) (off : Nat) (e : List UInt8), ents t off (es ++ [e]) = ents t off es ++ [ent t (off + span es) (1 + e.length)]
  | [], off, e => by simp [ents, span, frms]
  | x :: es, off, e => by
    have : off + 4 + (1 + x.length) + span es = off + span (x :: es) := by simp [span, frms, frm_length]; omega
    simp only [List.cons_append, ents, ents_snoc t es, this]
theorem ents_length (t : Nat) : ∀ (es : List (List UInt8)) (off : Nat), (ents t off es).length = es.length
  | [], _ => rfl
  | x :: es, off => by simp [ents, ents_length t es]
theorem ents_one (t : Nat) : ∀ (es : List (List UInt8)) (off : Nat), ∀ v ∈ ents t off es, oneCell v = true
  | [], _, v, h => by cases h
  | x :: es, off, v, h => by
    rcases List.mem_cons.1 h with rfl | h
    · rfl
    · exact ents_one t es _ v h
theorem ents_ok (t : Nat) {ρ : Nat → Option Nat} (h : ρ 22 = some 22) : ∀ (es : List (List UInt8)) (off : Nat), LG ρ (ents t off es) (ents t off es)
  | [], _ => LG.nil
  | x :: es, off => LG.cons (VG.slice _ _ _ h) (ents_ok t h es _)
theorem num_beb {n : Nat} (h : n < 4294967296) : num (beb n) = n := by
  have e : ∀ i, (UInt8.ofNat (n / 2 ^ i)).toNat = (n / 2 ^ i) % 256 := fun i => by simp
  simp only [num, beb, List.map_cons, List.map_nil, List.foldl_cons, List.foldl_nil, e]
  have h24 : (2 : Nat) ^ 24 = 16777216 := by decide
  have h16 : (2 : Nat) ^ 16 = 65536 := by decide
  have h8 : (2 : Nat) ^ 8 = 256 := by decide
  have h0 : (2 : Nat) ^ 0 = 1 := by decide
  rw [h24, h16, h8, h0]
  omega
theorem beb_length (n : Nat) : (beb n).length = 4 := rfl
/-- The length of the entry that begins behind the first ones. -/
theorem bytes_entry (first : Nat) (es fs : List (List UInt8)) (e : List UInt8) : bytesAt (byteVals (hd first ++ frms (es ++ e :: fs))) (12 + span es) (beb (1 + e.length)) := by
  have h : byteVals (hd first ++ frms (es ++ e :: fs)) = byteVals (hd first ++ frms es) ++ (byteVals (beb (1 + e.length)) ++ byteVals (6 :: e ++ frms fs)) := by
    simp [byteVals, frms, frm]
  have hl : (byteVals (hd first ++ frms es)).length = 12 + span es := by
    rw [byteVals_length, List.length_append, hd_length]; rfl
  rw [h, ← hl]
  exact bytesAt_of
section
variable {first m j off : Nat} {rest : List UInt8} {lj : List Value} {o5 o6 o13 o14 : AObj}
theorem lt_of_all {n : Nat} {l : List (Nat × Slot)} (h : (l.all fun x => Nat.blt x.1 n) = true) : ∀ x ∈ l, x.1 < n := fun x hx => Nat.le_of_ble_eq_true (List.all_eq_true.1 h x hx)
/-- Ahead of the first entry. -/
noncomputable def st0 (first : Nat) (rest : List UInt8) (o5 o6 o13 o14 : AObj) : St :=
  seenAs (heapOf 23 5 ([(20, .cells .own [P 6, I (first : Nat), .slice none 0 0, I 12, .bool false] 219), (22, .cells (.open_ 1) (byteVals (hd first ++ rest)) 5)] ++ [(5, o5), (6, o6), (13, o13), (14, o14)])) (LWA1a 0 0 first rest)
/-- Behind some entries. -/
noncomputable def stV (first j off : Nat) (rest : List UInt8) (lj : List Value) (r8 : Value) (o5 o6 o13 o14 : AObj) : St :=
  seenAs (heapOf 25 5 ([(20, .cells .own [P 6, I (first : Nat), S 24 j, I (off : Nat), .bool false] 219), (22, .cells (.open_ 1) (byteVals (hd first ++ rest)) 5), (24, .cells (.open_ 1) lj 57)] ++ [(5, o5), (6, o6), (13, o13), (14, o14)])) (LW rest r8)
theorem con4 {c : List Value} {o cp n0 n : Nat} (h : bytesAt c o (beb n)) (hn : n ≤ 5001) : ExtOk Tryz.prog (extS.with [conRD4 c o cp n0 n]).ext := by
  refine ExtOk.with extS_ok fun x hx => ?_
  rw [List.mem_singleton.1 hx]
  have hnum : num (beb n) = n := num_beb (by omega)
  have := conRD4_ok c o cp n0 (l := beb n) rfl h (by rw [hnum]; omega)
  rw [hnum] at this
  exact this
theorem round_fn (hm : 0 < m) (hm2 : m ≤ 5001) (hT : rest.length ≤ 1000000) (hr : 12 + 4 + m < rest.length + 12) (hb : bytesAt (byteVals (hd first ++ rest)) 12 (beb m)) (l5 : LowO o5) (l6 : LowO o6) (l13 : LowO o13) (l14 : LowO o14) :
    TriW Tryz.prog 20 123 (st0 first rest o5 o6 o13 o14) b96 .normal (stV first 1 (12 + 4 + m) rest [ent (rest.length + 12) 12 m] (restV (rest.length + 12) (12 + 4 + m)) o5 o6 o13 o14) := by
  obtain ⟨M, hc, g⟩ := gotWRfn first m rest o5 o6 o13 o14 hm hr l5 l6 l13 l14
  exact TriW.seen (TriW.run mixedO (con4 hb hm2) 300 hc (testsWRfn first m rest o5 o6 o13 o14 hm hm2 hT hr)) g (lt_of_all rfl) (low_of (by decide))
theorem round_fl (hm : 0 < m) (hm2 : m ≤ 5001) (hT : rest.length ≤ 1000000) (hr : 12 + 4 + m = rest.length + 12) (hb : bytesAt (byteVals (hd first ++ rest)) 12 (beb m)) (l5 : LowO o5) (l6 : LowO o6) (l13 : LowO o13) (l14 : LowO o14) :
    TriW Tryz.prog 20 123 (st0 first rest o5 o6 o13 o14) b96 .normal (stV first 1 (12 + 4 + m) rest [ent (rest.length + 12) 12 m] (.slice (some nowhere) 0 1) o5 o6 o13 o14) := by
  obtain ⟨M, hc, g⟩ := gotWRfl first m rest o5 o6 o13 o14 hm hr l5 l6 l13 l14
  exact TriW.seen (TriW.run mixedO (con4 hb hm2) 300 hc (testsWRfl first m rest o5 o6 o13 o14 hm hm2 hT hr)) g (lt_of_all rfl) (low_of (by decide))
theorem round_gn (hm : 0 < m) (hm2 : m ≤ 5001) (hT : rest.length ≤ 1000000) (hj : j ≤ 30) (hl : lj.length = j) (ho : ∀ v ∈ lj, oneCell v = true) (hr : off + 4 + m < rest.length + 12) (lk : ∀ ρ : Nat → Option Nat, ρ 22 = some 22 → LG ρ lj lj)
    (hb : bytesAt (byteVals (hd first ++ rest)) off (beb m)) (l5 : LowO o5) (l6 : LowO o6) (l13 : LowO o13) (l14 : LowO o14) :
    TriW Tryz.prog 20 123 (stV first j off rest lj (restV (rest.length + 12) off) o5 o6 o13 o14) b96 .normal (stV first (j + 1) (off + 4 + m) rest (lj ++ [ent (rest.length + 12) off m]) (restV (rest.length + 12) (off + 4 + m)) o5 o6 o13 o14) := by
  obtain ⟨M, hc, g⟩ := gotWRgn first m j off rest lj o5 o6 o13 o14 hm hr lk l5 l6 l13 l14
  exact TriW.seen (TriW.run mixedO (con4 hb hm2) 300 hc (testsWRgn first m j off rest lj o5 o6 o13 o14 hm hm2 hT hj hl ho hr)) g (lt_of_all rfl) (low_of (by decide))
theorem round_gl (hm : 0 < m) (hm2 : m ≤ 5001) (hT : rest.length ≤ 1000000) (hj : j ≤ 30) (hl : lj.length = j) (ho : ∀ v ∈ lj, oneCell v = true) (hr : off + 4 + m = rest.length + 12) (lk : ∀ ρ : Nat → Option Nat, ρ 22 = some 22 → LG ρ lj lj)
    (hb : bytesAt (byteVals (hd first ++ rest)) off (beb m)) (l5 : LowO o5) (l6 : LowO o6) (l13 : LowO o13) (l14 : LowO o14) :
    TriW Tryz.prog 20 123 (stV first j off rest lj (restV (rest.length + 12) off) o5 o6 o13 o14) b96 .normal (stV first (j + 1) (off + 4 + m) rest (lj ++ [ent (rest.length + 12) off m]) (.slice (some nowhere) 0 1) o5 o6 o13 o14) := by
  obtain ⟨M, hc, g⟩ := gotWRgl first m j off rest lj o5 o6 o13 o14 hm hr lk l5 l6 l13 l14
  exact TriW.seen (TriW.run mixedO (con4 hb hm2) 300 hc (testsWRgl first m j off rest lj o5 o6 o13 o14 hm hm2 hT hj hl ho hr)) g (lt_of_all rfl) (low_of (by decide))
end
section
variable {first : Nat} {es : List (List UInt8)} {o5 o6 o13 o14 : AObj}
/-- Behind the first 'i' entries. -/
noncomputable def stI (first : Nat) (es : List (List UInt8)) (o5 o6 o13 o14 : AObj) : Nat → St
  | 0 => st0 first (frms es) o5 o6 o13 o14
  | i + 1 => stV first (i + 1) (12 + span (es.take (i + 1))) (frms es) (ents ((frms es).length + 12) 12 (es.take (i + 1)))
      (if i + 1 < es.length then restV ((frms es).length + 12) (12 + span (es.take (i + 1))) else .slice (some nowhere) 0 1) o5 o6 o13 o14
theorem span_take {i : Nat} (h : i < es.length) : span (es.take (i + 1)) = span (es.take i) + (4 + (1 + es[i].length)) := by
  rw [List.take_succ_eq_append_getElem h, span_snoc]
theorem span_all (l r : List (List UInt8)) : span (l ++ r) = span l + span r := by simp [span, frms]
theorem span_cons (e : List UInt8) (l : List (List UInt8)) : span (e :: l) = (4 + (1 + e.length)) + span l := by simp [span, frms, frm_length]
theorem span_lt {i : Nat} (h : i < es.length) : span (es.take i) + 5 ≤ span es := by
  have h2 : span es = span (es.take i) + span (es.drop i) := by rw [← span_all, List.take_append_drop]
  have h3 : es.drop i = es[i] :: es.drop (i + 1) := List.drop_eq_getElem_cons h
  have h4 : span (es.drop i) = (4 + (1 + es[i].length)) + span (es.drop (i + 1)) := by
    rw [h3, span_cons]
  omega
theorem round_i (he : ∀ e ∈ es, e.length ≤ 5000) (hk : es.length ≤ 30) (hT : (frms es).length ≤ 1000000) (l5 : LowO o5) (l6 : LowO o6) (l13 : LowO o13) (l14 : LowO o14) (i : Nat) (hi : i < es.length) :
    TriW Tryz.prog 20 123 (stI first es o5 o6 o13 o14 i) b96 .normal (stI first es o5 o6 o13 o14 (i + 1)) := by
  have hm2 : 1 + es[i].length ≤ 5001 := by have := he _ (List.getElem_mem hi); omega
  have hb : bytesAt (byteVals (hd first ++ frms es)) (12 + span (es.take i)) (beb (1 + es[i].length)) := by
    have := bytes_entry first (es.take i) (es.drop (i + 1)) es[i]
    rwa [show es.take i ++ es[i] :: es.drop (i + 1) = es by rw [← List.drop_eq_getElem_cons hi, List.take_append_drop]] at this
  have hs := span_take hi
  have ht : es.take (i + 1) = es.take i ++ [es[i]] := List.take_succ_eq_append_getElem hi
  have hoff : 12 + span (es.take i) + 4 + (1 + es[i].length) = 12 + span (es.take (i + 1)) := by omega
  have hents : ents ((frms es).length + 12) 12 (es.take i) ++ [ent ((frms es).length + 12) (12 + span (es.take i)) (1 + es[i].length)] = ents ((frms es).length + 12) 12 (es.take (i + 1)) := by
    rw [ht, ents_snoc]
  have hlen : (es.take i).length = i := by rw [List.length_take]; omega
  have hfr : (frms es).length = span es := rfl
  match i, hi, hm2, hb, hs, ht, hoff, hents, hlen with
  | 0, hi, hm2, hb, hs, ht, hoff, hents, hlen =>
    have e0 : es.take 0 = [] := rfl
    rw [e0] at hb hoff hents
    have hsp : span ([] : List (List UInt8)) = 0 := rfl
    rw [hsp] at hb hoff hents
    simp only [Nat.add_zero] at hb hoff hents
    by_cases hl : 0 + 1 < es.length
    · have h1 := span_lt hl
      have key := round_fn (first := first) (o5 := o5) (o6 := o6) (o13 := o13) (o14 := o14) (m := 1 + es[0].length) (rest := frms es) (by omega) hm2 hT (by rw [hoff]; omega) hb l5 l6 l13 l14
      simp only [stI, if_pos hl]
      rw [← hents, ← hoff]
      exact key
    · have hlast : es.take (0 + 1) = es := List.take_of_length_le (by omega)
      have key := round_fl (first := first) (o5 := o5) (o6 := o6) (o13 := o13) (o14 := o14) (m := 1 + es[0].length) (rest := frms es) (by omega) hm2 hT (by rw [hoff, hlast]; omega) hb l5 l6 l13 l14
      simp only [stI, if_neg hl]
      rw [← hents, ← hoff]
      exact key
  | i + 1, hi, hm2, hb, hs, ht, hoff, hents, hlen =>
    have hones := ents_one ((frms es).length + 12) (es.take (i + 1)) 12
    have hle : (ents ((frms es).length + 12) 12 (es.take (i + 1))).length = i + 1 := by rw [ents_length]; exact hlen
    have hok : ∀ ρ : Nat → Option Nat, ρ 22 = some 22 → LG ρ (ents ((frms es).length + 12) 12 (es.take (i + 1))) (ents ((frms es).length + 12) 12 (es.take (i + 1))) := fun ρ h => ents_ok _ h _ _
    by_cases hl : i + 1 + 1 < es.length
    · have h1 := span_lt hl
      have key := round_gn (first := first) (o5 := o5) (o6 := o6) (o13 := o13) (o14 := o14) (m := 1 + es[i + 1].length) (j := i + 1) (off := 12 + span (es.take (i + 1))) (rest := frms es) (by omega) hm2 hT (by omega) hle hones (by rw [hoff]; omega) hok hb l5 l6 l13 l14
      simp only [stI, if_pos hl, if_pos hi]
      rw [← hents, ← hoff]
      exact key
    · have hlast : es.take (i + 1 + 1) = es := List.take_of_length_le (by omega)
      have key := round_gl (first := first) (o5 := o5) (o6 := o6) (o13 := o13) (o14 := o14) (m := 1 + es[i + 1].length) (j := i + 1) (off := 12 + span (es.take (i + 1))) (rest := frms es) (by omega) hm2 hT (by omega) hle hones (by rw [hoff, hlast]; omega) hok hb l5 l6 l13 l14
      simp only [stI, if_neg hl, if_pos hi]
      rw [← hents, ← hoff]
      exact key
/-- Behind the loop. -/
noncomputable def stX (first : Nat) (es : List (List UInt8)) (o5 o6 o13 o14 : AObj) : St :=
  seenAs (heapOf 25 5 ([(20, .cells .own [P 6, I (first : Nat), S 24 es.length, I (((frms es).length + 12 : Nat) : Int), .bool false] 219), (22, .cells (.open_ 1) (byteVals (hd first ++ frms es)) 5), (24, .cells (.open_ 1) (ents ((frms es).length + 12) 12 es) 57)] ++ [(5, o5), (6, o6), (13, o13), (14, o14)]))
    (LWXx first es.length ((frms es).length + 12) (frms es) (ents ((frms es).length + 12) 12 es) o5 o6 o13 o14)
theorem loop96 (hne : 0 < es.length) (he : ∀ e ∈ es, e.length ≤ 5000) (hk : es.length ≤ 30) (hT : (frms es).length ≤ 1000000) (l5 : LowO o5) (l6 : LowO o6) (l13 : LowO o13) (l14 : LowO o14) :
    TriW Tryz.prog 20 123 (st0 first (frms es) o5 o6 o13 o14) (.block 0 (.loop b96)) .normal (stX first es o5 o6 o13 o14) := by
  refine TriW.block (TriW.loop (by intro h; cases h) (stI first es o5 o6 o13 o14) es.length (round_i he hk hT l5 l6 l13 l14) ?_)
  obtain ⟨k, hk'⟩ : ∃ k, es.length = k + 1 := ⟨es.length - 1, by omega⟩
  have hall : es.take (k + 1) = es := List.take_of_length_le (by omega)
  have hst : stI first es o5 o6 o13 o14 es.length = stV first es.length ((frms es).length + 12) (frms es) (ents ((frms es).length + 12) 12 es) (.slice (some nowhere) 0 1) o5 o6 o13 o14 := by
    have e1 : 12 + span es = (frms es).length + 12 := by show 12 + (frms es).length = _; omega
    rw [hk']
    simp only [stI, hall, if_neg (show ¬ k + 1 < es.length by omega), e1]
  rw [hst]
  obtain ⟨M, hc, g⟩ := gotWXx first es.length ((frms es).length + 12) (frms es) (ents ((frms es).length + 12) 12 es) o5 o6 o13 o14 (fun ρ h => ents_ok _ h _ _) l5 l6 l13 l14
  exact TriW.seen (TriW.run mixedO extS_ok 300 hc (testsWXx _ _ _ _ _ _ _ _ _)) g (lt_of_all rfl) (low_of (by decide))
end
end Go.Proofs.YtabpbpdhapaffaaGreatDoor
end
section

end
