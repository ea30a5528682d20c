/-
  EngineNotes returns true whatever the notes and what stands between them, part 24: GrF1l, GrF2e, GrF2s. Conditions: none but those of the row.
-/
import Derived.Test.YtabpbpdhapaffaaGreatDoorNts12
set_option linter.unusedSimpArgs false
set_option linter.unusedVariables false
section
set_option maxRecDepth 100000
namespace Go.Proofs.YtabpbpdhapaffaaGreatDoor
open Go.Vi
def WF1l : Word := fun o n => match o.dst with
  | some 4 => bif o.pos == "bits.go:90" then some 2 else none
  | some 5 => bif o.pos == "bits.go:90" then some 4 else bif o.pos == "bits.go:98" then (bif Nat.beq n 21 then some 0 else bif Nat.beq n 27 then some 1 else bif Nat.beq n 29 then some 0 else none) else none
  | some 7 => bif o.pos == "bits.go:90" then some 5 else bif o.pos == "bits.go:98" then some 5 else none
  | some 9 => bif o.pos == "bits.go:90" then some 6 else none
  | some 11 => bif o.pos == "bits.go:99" then some 7 else none
  | some 12 => bif o.pos == "engine.go:140" then some 12 else none
  | some 14 => bif o.pos == "engine.go:144" then some 12 else bif o.pos == "wal.go:98" then some 2 else none
  | some 22 => bif o.pos == "wal.go:177" then some 0 else none
  | some 27 => bif o.pos == "wal.go:177" then some 0 else none
  | some 35 => bif o.pos == "wal.go:179" then some 0 else none
  | some 38 => bif o.pos == "engine.go:514" then some 0 else none
  | some 45 => bif o.pos == "wal.go:182" then some 3 else none
  | some 46 => bif o.pos == "wal.go:182" then some 1 else none
  | some 47 => bif o.pos == "disk.go:76" then some 3 else none
  | some 48 => bif o.pos == "disk.go:76" then some 0 else none
  | some 49 => bif o.pos == "disk.go:76" then some 0 else none
  | some 57 => bif o.pos == "disk.go:77" then some 0 else none
  | some 58 => bif o.pos == "disk.go:77" then some 10 else none
  | some 64 => bif o.pos == "disk.go:78" then some 0 else none
  | _ => none

def HF1l (wb nb : List UInt8) (clock born first k : Nat) (taken : Int) (rv : Value) (o17 : AObj) : AHeap := heapOf 20 5 ([(15, tops (k))] ++ [(17, o17)] ++ [(16, rowO (nb))] ++ (fileO 13 (wb)) ++ (base [walE born] clock (rv) ((first : Nat)) (S 15 k) ((wb.length : Nat)) (taken) (S 16 nb.length)))
def TF1l (wb nb : List UInt8) (clock born first k : Nat) (taken : Int) (rv : Value) (o17 : AObj) : List Bool := [true,
  true,
  true,
  !(12 - 0).beq 0 && (hdV (first + k)).length.beq ((12 - 0) * 1) && (!(0 + (12 - 0)).ble (capLow 0) && (((0 + (12 - 0)) * 2 * (1 + 1)).ble 140737488355328 && ((hdV (first + k)).all oneCell && (hdV (first + k)).length.beq ((12 - 0) * 1)))) && (Nat.beq 0 0 && Nat.beq 0 0),
  true && (true && (true && (Nat.ble 12 (capLow (2 * (4 + (Int.ofNat 8).toNat) + 1)) && (Nat.ble 0 12 && (true && !(capLow (2 * (4 + (Int.ofNat 8).toNat) + 1)).beq 0))))),
  true,
  decide ((if 1073741824 - (0 + 0 + ↑(0 + (4 + nb.length + 1)) + (wb.length : Int)) < ↑(4 + (Int.ofNat 8).toNat) then 1073741824 - (0 + 0 + ↑(0 + (4 + nb.length + 1)) + (wb.length : Int)) else ↑(4 + (Int.ofNat 8).toNat)) = Int.ofNat 12),
  decide ((if Int.ofNat 0 > 1073741824 - (0 + 0 + ↑(0 + (4 + nb.length + 1)) + (wb.length : Int)) then Int.ofNat 0 else 1073741824 - (0 + 0 + ↑(0 + (4 + nb.length + 1)) + (wb.length : Int))) = 1073741824 - (0 + 0 + ↑(0 + (4 + nb.length + 1)) + (wb.length : Int))),
  decide (IntKind.wrap .i64 (1073741824 - (0 + 0 + ↑(0 + (4 + nb.length + 1)) + (wb.length : Int))) = 1073741824 - (0 + 0 + ↑(0 + (4 + nb.length + 1)) + (wb.length : Int))),
  bornT [born, clock.succ, clock.succ.succ] (clock + 1 + 1 + 1),
  ltT (0 + 0 + ↑(0 + (4 + nb.length + 1)) + (wb.length : Int)) (Int.ofNat 1073741824),
  Nat.beq 15 15 && Nat.beq 0 0 && true && true && k.beq k && (2 * k + 1).beq (2 * k + 1) && true && (decide ((first : Int) = (first : Int)) && true && true),
  decide (Int.ofNat 0 ≤ Int.ofNat (first + k) - Int.ofNat first) && (true && (true && (k.ble (capLow (2 * k + 1)) && ((Int.ofNat (first + k) - Int.ofNat first).toNat.ble k && ((!isOpen (2 * k + 1) || (Int.ofNat (first + k) - Int.ofNat first).toNat.beq 0 || !Nat.beq 1 0) && ((capLow (2 * k + 1)).beq (Int.ofNat (first + k) - Int.ofNat first).toNat && isOpen (2 * k + 1))))))),
  decide (IntKind.wrap .i64 (Int.ofNat (first + k) - (first : Int)) = Int.ofNat (first + k) - Int.ofNat first),
  !decide (Int.ofNat (first + k) = (first : Int)),
  !decide (Int.ofNat (first + k) > Int.ofNat (first + k)),
  decide ((first : Int) = (first : Int)) && true && (Nat.beq 15 15 && Nat.beq 0 0 && true && true && k.beq k && (2 * k + 1).beq (2 * k + 1) && true && true),
  decide (IntKind.wrap .i64 ((first : Int) + (k : Int)) = Int.ofNat (first + k)),
  !decide (Int.ofNat (first + k) < (first : Int)),
  decide ((first : Int) = (first : Int)) && true && (Nat.beq 15 15 && Nat.beq 0 0 && true && true && k.beq k && (2 * k + 1).beq (2 * k + 1) && true && true),
  decide (IntKind.wrap .i64 ((first : Int) + (k : Int)) = Int.ofNat (first + k)),
  Nat.beq 35 35 && Nat.beq 0 0 && true && true && (4 + nb.length + 1).beq (4 + nb.length + 1) && (2 * (4 + nb.length + 1) + 1).beq (2 * (4 + nb.length + 1) + 1) && true && true,
  !decide (Int.ofNat (4 + nb.length + 1) < Int.ofNat (4 + nb.length + 1)),
  true,
  !(4 + nb.length + 1).beq 0 && (manVl (first + k) nb).length.beq (0 + (4 + nb.length + 1)) && (!(0 + (4 + nb.length + 1)).ble (capLow 0) && (((0 + (4 + nb.length + 1)) * 2 * (1 + 1)).ble 140737488355328 && ((manVl (first + k) nb).all oneCell && (manVl (first + k) nb).length.beq (0 + (4 + nb.length + 1))))) && (Nat.beq 0 0 && Nat.beq 0 0),
  true && (true && (true && ((4 + nb.length + 1).ble (capLow (2 * (4 + nb.length + 1) + 1)) && (Nat.ble 0 (4 + nb.length + 1) && ((!isOpen (2 * (4 + nb.length + 1) + 1) || Nat.beq 0 0 || !Nat.beq 1 0) && !(capLow (2 * (4 + nb.length + 1) + 1)).beq 0))))),
  true,
  decide ((if 1073741824 - (0 + 0 + (wb.length : Int)) < Int.ofNat (4 + nb.length + 1) then 1073741824 - (0 + 0 + (wb.length : Int)) else Int.ofNat (4 + nb.length + 1)) = Int.ofNat (4 + nb.length + 1)),
  decide ((if Int.ofNat 0 > 1073741824 - (0 + 0 + (wb.length : Int)) then Int.ofNat 0 else 1073741824 - (0 + 0 + (wb.length : Int))) = 1073741824 - (0 + 0 + (wb.length : Int))),
  decide (IntKind.wrap .i64 (1073741824 - (0 + 0 + (wb.length : Int))) = 1073741824 - (0 + 0 + (wb.length : Int))),
  bornT [born, clock] (clock + 1),
  ltT (0 + 0 + (wb.length : Int)) (Int.ofNat 1073741824),
  Nat.beq 32 32 && Nat.beq 0 0 && true && true && (4 + nb.length).beq (4 + nb.length) && (2 * (4 + nb.length) + 1).beq (2 * (4 + nb.length) + 1) && (Nat.beq 32 32 && Nat.beq 0 0 && true && true && (4 + nb.length).beq (4 + nb.length) && (2 * (4 + nb.length) + 1).beq (2 * (4 + nb.length) + 1) && (Nat.beq 32 32 && Nat.beq 0 0 && true && true && (4 + nb.length).beq (4 + nb.length) && (2 * (4 + nb.length) + 1).beq (2 * (4 + nb.length) + 1) && true)) && true,
  !(0 + 1).beq 0 && [Value.int .u8 (Int.ofNat 0)].length.beq ((0 + 1) * 1) && (!(4 + nb.length + 1).ble (capLow (2 * (4 + nb.length) + 1)) && (((4 + nb.length + 1) * 2 * (1 + 1)).ble 140737488355328 && ([Value.int .u8 (Int.ofNat 0)].all oneCell && [Value.int .u8 (Int.ofNat 0)].length.beq ((0 + 1) * 1)))) && (isOpen (2 * (4 + nb.length) + 1) && (Nat.beq 0 0 && (([Value.int .u8 (IntKind.wrap .u8 (Int.ofNat (first + k) * 2 ^ 1))] ++ [Value.int .u8 (Int.ofNat 0)] ++ [Value.int .u8 (IntKind.wrap .u8 (Int.ofNat nb.length * 2 ^ 1) % 128 + 128), Value.int .u8 (IntKind.wrap .u8 (Int.ofNat nb.length * 2 ^ 1 / 2 ^ 7))] ++ byteVals nb).length.beq ((4 + nb.length) * 1) && (Nat.beq 1 1 && (!Nat.beq 1 0 && Nat.beq 5 5))))),
  bitOk .xor .u64 .u64 (Int.ofNat 0 * Int.ofNat 2 ^ (Int.ofNat 1).toNat) (IntKind.wrap .u64 (Int.ofNat 0 / Int.ofNat 2 ^ (Int.ofNat 63).toNat)) (Int.ofNat 0),
  bitOk .shr .i64 .u64 (↑0) (Int.ofNat 63) (Int.ofNat 0 / Int.ofNat 2 ^ (Int.ofNat 63).toNat),
  bitOk .shl .u64 .u64 (Int.ofNat 0) (Int.ofNat 1) (Int.ofNat 0 * Int.ofNat 2 ^ (Int.ofNat 1).toNat),
  decide (IntKind.wrap .u64 ↑0 = Int.ofNat 0),
  !nb.length.beq 0 && (byteVals nb).length.beq (nb.length * 1) && (!(4 + nb.length).ble (capLow (2 * (0 + (0 + 1) + (0 + 1) + (0 + 1 + 1)) + 1)) && (((4 + nb.length) * 2 * (1 + 1)).ble 140737488355328 && ((byteVals nb).all oneCell && (byteVals nb).length.beq (nb.length * 1)))) && (isOpen (2 * (0 + (0 + 1) + (0 + 1) + (0 + 1 + 1)) + 1) && (Nat.beq 0 0 && (([Value.int .u8 (IntKind.wrap .u8 (Int.ofNat (first + k) * 2 ^ 1))] ++ [Value.int .u8 (Int.ofNat 0)] ++ [Value.int .u8 (IntKind.wrap .u8 (Int.ofNat nb.length * 2 ^ 1) % 128 + 128), Value.int .u8 (IntKind.wrap .u8 (Int.ofNat nb.length * 2 ^ 1 / 2 ^ 7))]).length.beq ((0 + (0 + 1) + (0 + 1) + (0 + 1 + 1)) * 1) && (Nat.beq 1 1 && (!Nat.beq 1 0 && Nat.beq 5 5))))),
  true,
  !(0 + 1 + 1).beq 0 && [Value.int .u8 (IntKind.wrap .u8 (Int.ofNat nb.length * 2 ^ 1) % 128 + 128), Value.int .u8 (IntKind.wrap .u8 (Int.ofNat nb.length * 2 ^ 1 / 2 ^ 7))].length.beq ((0 + 1 + 1) * 1) && (!(0 + (0 + 1) + (0 + 1) + (0 + 1 + 1)).ble (capLow (2 * (0 + (0 + 1) + (0 + 1)) + 1)) && (((0 + (0 + 1) + (0 + 1) + (0 + 1 + 1)) * 2 * (1 + 1)).ble 140737488355328 && ([Value.int .u8 (IntKind.wrap .u8 (Int.ofNat nb.length * 2 ^ 1) % 128 + 128), Value.int .u8 (IntKind.wrap .u8 (Int.ofNat nb.length * 2 ^ 1 / 2 ^ 7))].all oneCell && [Value.int .u8 (IntKind.wrap .u8 (Int.ofNat nb.length * 2 ^ 1) % 128 + 128), Value.int .u8 (IntKind.wrap .u8 (Int.ofNat nb.length * 2 ^ 1 / 2 ^ 7))].length.beq ((0 + 1 + 1) * 1)))) && (isOpen (2 * (0 + (0 + 1) + (0 + 1)) + 1) && (Nat.beq 0 0 && (([Value.int .u8 (IntKind.wrap .u8 (Int.ofNat (first + k) * 2 ^ 1))] ++ [Value.int .u8 (Int.ofNat 0)]).length.beq ((0 + (0 + 1) + (0 + 1)) * 1) && (Nat.beq 1 1 && (!Nat.beq 1 0 && Nat.beq 5 5))))),
  !decide (Int.ofNat nb.length * 2 ^ 1 / 2 ^ 7 > Int.ofNat 127),
  bitOk .shr .u64 .u64 (Int.ofNat nb.length * 2 ^ 1) (Int.ofNat 7) (Int.ofNat nb.length * 2 ^ 1 / 2 ^ 7),
  bitOk .or .u8 .u8 (IntKind.wrap .u8 (Int.ofNat nb.length * 2 ^ 1)) (Int.ofNat 128) (IntKind.wrap .u8 (Int.ofNat nb.length * 2 ^ 1) % 128 + 128),
  decide (Int.ofNat 127 < Int.ofNat nb.length * 2 ^ 1),
  bitOk .xor .u64 .u64 (Int.ofNat nb.length * 2 ^ 1) (IntKind.wrap .u64 (Int.ofNat nb.length / Int.ofNat 2 ^ (Int.ofNat 63).toNat)) (Int.ofNat nb.length * 2 ^ 1),
  bitOk .shr .i64 .u64 ((nb.length : Int)) (Int.ofNat 63) (Int.ofNat nb.length / Int.ofNat 2 ^ (Int.ofNat 63).toNat),
  bitOk .shl .u64 .u64 (Int.ofNat nb.length) (Int.ofNat 1) (Int.ofNat nb.length * 2 ^ 1),
  decide (IntKind.wrap .u64 (nb.length : Int) = Int.ofNat nb.length),
  true,
  !(0 + 1).beq 0 && [Value.int .u8 (Int.ofNat 0)].length.beq ((0 + 1) * 1) && (!(0 + (0 + 1) + (0 + 1)).ble (capLow (2 * (0 + (0 + 1)) + 1)) && (((0 + (0 + 1) + (0 + 1)) * 2 * (1 + 1)).ble 140737488355328 && ([Value.int .u8 (Int.ofNat 0)].all oneCell && [Value.int .u8 (Int.ofNat 0)].length.beq ((0 + 1) * 1)))) && (isOpen (2 * (0 + (0 + 1)) + 1) && (Nat.beq 0 0 && ([Value.int .u8 (IntKind.wrap .u8 (Int.ofNat (first + k) * 2 ^ 1))].length.beq ((0 + (0 + 1)) * 1) && (Nat.beq 1 1 && (!Nat.beq 1 0 && Nat.beq 5 5))))),
  bitOk .xor .u64 .u64 (Int.ofNat 0 * Int.ofNat 2 ^ (Int.ofNat 1).toNat) (IntKind.wrap .u64 (Int.ofNat 0 / Int.ofNat 2 ^ (Int.ofNat 63).toNat)) (Int.ofNat 0),
  bitOk .shr .i64 .u64 (Int.ofNat 0) (Int.ofNat 63) (Int.ofNat 0 / Int.ofNat 2 ^ (Int.ofNat 63).toNat),
  bitOk .shl .u64 .u64 (Int.ofNat 0) (Int.ofNat 1) (Int.ofNat 0 * Int.ofNat 2 ^ (Int.ofNat 1).toNat),
  decide (IntKind.wrap .u64 (Int.ofNat 0) = Int.ofNat 0),
  true,
  !(0 + 1).beq 0 && [Value.int .u8 (IntKind.wrap .u8 (Int.ofNat (first + k) * 2 ^ 1))].length.beq ((0 + 1) * 1) && (!(0 + (0 + 1)).ble (capLow 0) && (((0 + (0 + 1)) * 2 * (1 + 1)).ble 140737488355328 && ([Value.int .u8 (IntKind.wrap .u8 (Int.ofNat (first + k) * 2 ^ 1))].all oneCell && [Value.int .u8 (IntKind.wrap .u8 (Int.ofNat (first + k) * 2 ^ 1))].length.beq ((0 + 1) * 1)))) && (Nat.beq 0 0 && Nat.beq 0 0),
  !decide (Int.ofNat (first + k) * 2 ^ 1 > Int.ofNat 127),
  bitOk .xor .u64 .u64 (Int.ofNat (first + k) * 2 ^ 1) (IntKind.wrap .u64 (Int.ofNat (first + k) / Int.ofNat 2 ^ (Int.ofNat 63).toNat)) (Int.ofNat (first + k) * 2 ^ 1),
  bitOk .shr .i64 .u64 (Int.ofNat (first + k)) (Int.ofNat 63) (Int.ofNat (first + k) / Int.ofNat 2 ^ (Int.ofNat 63).toNat),
  bitOk .shl .u64 .u64 (Int.ofNat (first + k)) (Int.ofNat 1) (Int.ofNat (first + k) * 2 ^ 1),
  decide (IntKind.wrap .u64 (Int.ofNat (first + k)) = Int.ofNat (first + k)),
  decide ((first : Int) = (first : Int)) && true && (Nat.beq 15 15 && Nat.beq 0 0 && true && true && k.beq k && (2 * k + 1).beq (2 * k + 1) && true && true),
  decide (IntKind.wrap .i64 ((first : Int) + (k : Int)) = Int.ofNat (first + k)),
  decide (taken = taken) && true && true,
  true,
  !decide (Int.ofNat (first + k) = (first : Int)),
  decide ((first : Int) = (first : Int)) && true && (Nat.beq 15 15 && Nat.beq 0 0 && true && true && k.beq k && (2 * k + 1).beq (2 * k + 1) && true && true),
  decide (IntKind.wrap .i64 ((first : Int) + (k : Int)) = Int.ofNat (first + k))]
theorem runF1l (wb nb : List UInt8) (clock born first k : Nat) (taken : Int) (rv : Value) (o17 : AObj) :
  ((levO Tryz.prog ext WF1l 300).call 17 #[P 12] (HF1l wb nb clock born first k taken rv o17)).map (fun r => (r.1, r.2.1.gl, [17, 16, 44, 45, 37, 38, 5, 6, 7, 8, 9, 47, 11, 12].map r.2.1.objs.get, r.2.2)) =
  some (.tuple #[.bool false, I 0], 5, [
    some (o17),
    some (.cells (.open_ 1) (byteVals (nb)) 5),
    some (.cells .own [S 45 (hd (first + k)).length, I ((hd (first + k)).length : Nat)] 143),
    some (.cells (.open_ 1) (hdV (first + k)) 5),
    some (.cells .own [S 38 (0 + (4 + nb.length + 1)), I (((0 + (4 + nb.length + 1)) : Nat) : Int)] 143),
    some (.cells (.open_ 1) (manVl (first + k) nb) 5),
    some (.map [⟨.string "wal".toUTF8, P 44, born⟩, ⟨.string "manifest".toUTF8, P 37, (clock + 1)⟩] (clock + 3)),
    some (.cells .own [.map (some 5), I 1073741824, I (-1), .bool false] 140),
    some (.cells .own [.slice none 0 0, rv] 84),
    some (.cells .own [P 6, P 12, P 7, .pointer none, .bool false] 46),
    some (.cells .own [P 6, I (((first + k : Nat))), .slice none 0 0, I (12), .bool false] 219),
    some (.map [] 0),
    some (.cells .own [I 9223372036854775807, I 0, .map (some 47)] 216),
    some (.cells .own [P 6, P 9, P 11, .slice none 0 0, I 0, I (((first + k : Nat))), S 16 nb.length, .map none, .bool false] 118)], TF1l wb nb clock born first k taken rv o17) := by kernel_rfl
theorem testsF1l (wb nb : List UInt8) (clock born first k : Nat) (taken : Int) (rv : Value) (o17 : AObj) (hw2 : wb.length ≤ 1000000) (hk0 : 0 < k) (hn : first + k ≤ 60) (hbo : born < clock) (hx : 64 ≤ nb.length) (hx2 : nb.length ≤ 5000) : allT (TF1l wb nb clock born first k taken rv o17) := by
  intro b hb
  simp only [TF1l, List.mem_cons, List.not_mem_nil, or_false] at hb
  have e0 := wrap_a (1073741824 - (0 + 0 + ↑(0 + (4 + nb.length + 1)) + (wb.length : Int)))
  have e1 := wrap_a (Int.ofNat (first + k) - (first : Int))
  have e2 := wrap_a ((first : Int) + (k : Int))
  have e3 := wrap_a (1073741824 - (0 + 0 + (wb.length : Int)))
  rcases hb with hb | hb | hb | hb | hb | hb | hb | hb | hb | hb | hb | hb | hb | hb | hb | hb | hb | hb | hb | hb | hb | hb | hb | hb | hb | hb | hb | hb | hb | hb | hb | hb | hb | hb | hb | hb | hb | hb | hb | hb | hb | hb | hb | hb | hb | hb | hb | hb | hb | hb | hb | hb | hb | hb | hb | hb | hb | hb | hb | hb | hb | hb | hb | hb | hb | hb | hb | hb | hb <;> refine hb.trans ?_ <;> clear hb <;>
  first
  | with_reducible rfl
  | (unfold ltT; rw [decide_eq_true_eq]; (try simp only [Int.ofNat_eq_natCast]); omega)
  | (unfold bornT; simp <;> omega)
  | (simp only [e0, e1, e2, e3, wrapM, decide_true, Bool.not_eq_true', decide_eq_true_eq, decide_eq_false_iff_not, Int.ofNat_eq_natCast, gt_iff_lt]; omega)
  | (simp only [Bool.and_eq_true, Bool.or_eq_true, Bool.not_eq_true', beq_t, beq_f, ble_t, ble_f, byteVals_length, oneCell_bytes, capLow, isOpen, len_F0, len_be, one_F0, one_be, len_hd0, one_hd0, len_manVs, one_manVs, len_manVl, one_manVl, List.length_append, List.all_append, List.length_replicate, decide_eq_true_eq, Int.ofNat_eq_natCast, and_true, true_and, or_true, List.length_cons, List.length_nil, List.all_cons, List.all_nil, oneCell, Int.toNat_natCast, List.length_take, List.length_drop, Bool.and_self, Bool.not_false, Bool.not_true]; omega)
  | (simp only [wrapM, Int.ofNat_eq_natCast, decide_eq_true_eq]; split <;> omega)
  | (simp only [e0, e1, e2, e3, wrapM, Int.ofNat_eq_natCast, decide_eq_true_eq, gt_iff_lt]; (repeat' split) <;> omega)
  | (first | exact z1 (by omega) | exact z2 (by omega) | exact z3 (by omega) | exact z4 (by omega) | exact z5 (by omega) | exact z6 (by omega))
  | (simp [beq_t]; done)
  | rfl
theorem stepF1l (wb nb : List UInt8) (clock born first k : Nat) (taken : Int) (rv : Value) (o17 : AObj) (hn : first + k ≤ 60) (hx : 64 ≤ nb.length) (hx2 : nb.length ≤ 5000) (hv : VG (pairs 5 [(17, 17), (16, 16), (13, 44), (14, 45), (18, 37), (19, 38), (5, 5), (6, 6), (7, 7), (8, 8), (9, 9), (10, 47), (11, 11), (12, 12)]) rv rv) (ho : OG (pairs 5 [(17, 17), (16, 16), (13, 44), (14, 45), (18, 37), (19, 38), (5, 5), (6, 6), (7, 7), (8, 8), (9, 9), (10, 47), (11, 11), (12, 12)]) o17 o17) :
  ∃ K, (levO Tryz.prog ext WF1l 300).call 17 #[P 12] (HF1l wb nb clock born first k taken rv o17) = some (.tuple #[.bool false, I 0], K, TF1l wb nb clock born first k taken rv o17) ∧
    Gen (pairs 5 [(17, 17), (16, 16), (13, 44), (14, 45), (18, 37), (19, 38), (5, 5), (6, 6), (7, 7), (8, 8), (9, 9), (10, 47), (11, 11), (12, 12)]) K (heapOf 20 5 ([(17, o17)] ++ [(16, rowO (nb))] ++ (fileO 13 (hd (first + k))) ++ (fileO 18 (man (first + k) nb)) ++ (base [walE born, manE (clock + 1)] (clock + 3) (rv) (((first + k : Nat))) (.slice none 0 0) (12) (((first + k : Nat))) (S 16 nb.length)))) := by
  obtain ⟨⟨v, K, ts⟩, hc, h⟩ := Option.map_eq_some_iff.1 (runF1l wb nb clock born first k taken rv o17)
  simp only [Prod.mk.injEq, List.map_cons, List.map_nil, List.cons.injEq, and_true] at h
  obtain ⟨rfl, hgl, ⟨h17, h16, h44, h45, h37, h38, h5, h6, h7, h8, h9, h47, h11, h12⟩, rfl⟩ := h
  refine ⟨K, hc, Gen.of_pairs hgl (by decide) ?_⟩
  intro x hm
  simp only [base, fileO, walE, manE, tops, rowO, noneO, List.cons_append, List.nil_append, List.mem_cons, List.not_mem_nil, or_false] at hm
  rcases hm with rfl | rfl | rfl | rfl | rfl | rfl | rfl | rfl | rfl | rfl | rfl | rfl | rfl | rfl
  · exact fit rfl h17 ho rfl fun _ _ _ h => ⟨_, h⟩
  · refine fit rfl h16 (OG.open_ _ _ ?_) rfl sameFl
    exact LG.bytes _
  · refine fit rfl h44 (OG.own _ ?_) rfl sameFl
    first | exact LG.cons VG.sliceNil (LG.cons hv LG.nil) | exact LS.ok (by repeat' constructor)
  · refine fit rfl h45 (OG.open_ _ _ ?_) rfl sameFl
    rw [← hdV_eq]
    exact LG.bytes _
  · refine fit rfl h37 (OG.own _ ?_) rfl sameFl
    rw [Nat.zero_add, manl_length (by omega) (by omega) (by omega)]
    first | exact LG.cons VG.sliceNil (LG.cons hv LG.nil) | exact LS.ok (by repeat' constructor)
  · refine fit rfl h38 (OG.open_ _ _ ?_) rfl sameFl
    rw [← manl_vals (by omega) (by omega) (by omega)]
    exact LG.bytes _
  · exact fit rfl h5 (OG.map2 (VG.string _) (VG.ptr _ rfl) (VG.string _) (VG.ptr _ rfl)) rfl noFl
  · refine fit rfl h6 (OG.own _ ?_) rfl sameFl
    first | exact LG.cons VG.sliceNil (LG.cons hv LG.nil) | exact LS.ok (by repeat' constructor)
  · refine fit rfl h7 (OG.own _ ?_) rfl sameFl
    first | exact LG.cons VG.sliceNil (LG.cons hv LG.nil) | exact LS.ok (by repeat' constructor)
  · refine fit rfl h8 (OG.own _ ?_) rfl sameFl
    first | exact LG.cons VG.sliceNil (LG.cons hv LG.nil) | exact LS.ok (by repeat' constructor)
  · refine fit rfl h9 (OG.own _ ?_) rfl sameFl
    first | exact LG.cons VG.sliceNil (LG.cons hv LG.nil) | exact LS.ok (by repeat' constructor)
  · exact fit rfl h47 OG.map0 rfl noFl
  · refine fit rfl h11 (OG.own _ ?_) rfl sameFl
    first | exact LG.cons VG.sliceNil (LG.cons hv LG.nil) | exact LS.ok (by repeat' constructor)
  · refine fit rfl h12 (OG.own _ ?_) rfl sameFl
    first | exact LG.cons VG.sliceNil (LG.cons hv LG.nil) | exact LS.ok (by repeat' constructor)
def WF2e : Word := fun o _ => match o.dst with
  | some 4 => bif o.pos == "bits.go:90" then some 2 else none
  | some 5 => bif o.pos == "bits.go:90" then some 4 else bif o.pos == "bits.go:98" then some 0 else none
  | some 7 => bif o.pos == "bits.go:90" then some 5 else none
  | some 9 => bif o.pos == "bits.go:90" then some 6 else none
  | some 14 => bif o.pos == "wal.go:98" then some 2 else none
  | some 22 => bif o.pos == "wal.go:177" then some 0 else none
  | some 27 => bif o.pos == "wal.go:177" then some 0 else none
  | some 35 => bif o.pos == "wal.go:179" then some 0 else none
  | some 38 => bif o.pos == "engine.go:514" then some 0 else none
  | some 45 => bif o.pos == "wal.go:182" then some 3 else none
  | some 46 => bif o.pos == "wal.go:182" then some 1 else none
  | some 47 => bif o.pos == "disk.go:76" then some 3 else none
  | some 48 => bif o.pos == "disk.go:76" then some 0 else none
  | some 49 => bif o.pos == "disk.go:76" then some 0 else none
  | _ => none

def HF2e (wb mb : List UInt8) (clock born born2 first k : Nat) (taken : Int) (rv : Value) (o17 : AObj) : AHeap := heapOf 20 5 ([(15, tops (k))] ++ [(17, o17)] ++ [(16, noneO)] ++ (fileO 13 (wb)) ++ (fileO 18 (mb)) ++ (base [walE born, manE born2] clock (rv) ((first : Nat)) (S 15 k) ((wb.length : Nat)) (taken) (E 16)))
def TF2e (wb mb : List UInt8) (clock born born2 first k : Nat) (taken : Int) (rv : Value) (o17 : AObj) : List Bool := [true,
  true,
  true,
  decide ((if 1073741824 - (0 + 0 + ↑(0 + 4) + (wb.length : Int)) < ↑(4 + (Int.ofNat 8).toNat) then 1073741824 - (0 + 0 + ↑(0 + 4) + (wb.length : Int)) else ↑(4 + (Int.ofNat 8).toNat)) = Int.ofNat 12),
  decide ((if Int.ofNat 0 > 1073741824 - (0 + 0 + ↑(0 + 4) + (wb.length : Int)) then Int.ofNat 0 else 1073741824 - (0 + 0 + ↑(0 + 4) + (wb.length : Int))) = 1073741824 - (0 + 0 + ↑(0 + 4) + (wb.length : Int))),
  decide (IntKind.wrap .i64 (1073741824 - (0 + 0 + ↑(0 + 4) + (wb.length : Int))) = 1073741824 - (0 + 0 + ↑(0 + 4) + (wb.length : Int))),
  bornT [born, born2, clock.succ] (clock + 1 + 1),
  ltT (0 + 0 + ↑(0 + 4) + (wb.length : Int)) (Int.ofNat 1073741824),
  Nat.beq 15 15 && Nat.beq 0 0 && true && true && k.beq k && (2 * k + 1).beq (2 * k + 1) && true && (decide ((first : Int) = (first : Int)) && true && true),
  decide (Int.ofNat 0 ≤ Int.ofNat (first + k) - Int.ofNat first) && (true && (true && (k.ble (capLow (2 * k + 1)) && ((Int.ofNat (first + k) - Int.ofNat first).toNat.ble k && ((!isOpen (2 * k + 1) || (Int.ofNat (first + k) - Int.ofNat first).toNat.beq 0 || !Nat.beq 1 0) && ((capLow (2 * k + 1)).beq (Int.ofNat (first + k) - Int.ofNat first).toNat && isOpen (2 * k + 1))))))),
  decide (IntKind.wrap .i64 (Int.ofNat (first + k) - (first : Int)) = Int.ofNat (first + k) - Int.ofNat first),
  !decide (Int.ofNat (first + k) = (first : Int)),
  !decide (Int.ofNat (first + k) > Int.ofNat (first + k)),
  decide ((first : Int) = (first : Int)) && true && (Nat.beq 15 15 && Nat.beq 0 0 && true && true && k.beq k && (2 * k + 1).beq (2 * k + 1) && true && true),
  decide (IntKind.wrap .i64 ((first : Int) + (k : Int)) = Int.ofNat (first + k)),
  !decide (Int.ofNat (first + k) < (first : Int)),
  decide ((first : Int) = (first : Int)) && true && (Nat.beq 15 15 && Nat.beq 0 0 && true && true && k.beq k && (2 * k + 1).beq (2 * k + 1) && true && true),
  decide (IntKind.wrap .i64 ((first : Int) + (k : Int)) = Int.ofNat (first + k)),
  true,
  true,
  true,
  decide ((if 1073741824 - (0 + 0 + (mb.length : Int) + (wb.length : Int)) < ↑(0 + (0 + 1) + (0 + 1) + (0 + 1) + 0 + (0 + 1)) then 1073741824 - (0 + 0 + (mb.length : Int) + (wb.length : Int)) else ↑(0 + (0 + 1) + (0 + 1) + (0 + 1) + 0 + (0 + 1))) = Int.ofNat 4),
  decide ((if Int.ofNat 0 > 1073741824 - (0 + 0 + (mb.length : Int) + (wb.length : Int)) then Int.ofNat 0 else 1073741824 - (0 + 0 + (mb.length : Int) + (wb.length : Int))) = 1073741824 - (0 + 0 + (mb.length : Int) + (wb.length : Int))),
  decide (IntKind.wrap .i64 (1073741824 - (0 + 0 + (mb.length : Int) + (wb.length : Int))) = 1073741824 - (0 + 0 + (mb.length : Int) + (wb.length : Int))),
  bornT [born, born2, clock] (clock + 1),
  ltT (0 + 0 + (mb.length : Int) + (wb.length : Int)) (Int.ofNat 1073741824),
  true,
  true,
  bitOk .xor .u64 .u64 (Int.ofNat 0 * Int.ofNat 2 ^ (Int.ofNat 1).toNat) (IntKind.wrap .u64 (Int.ofNat 0 / Int.ofNat 2 ^ (Int.ofNat 63).toNat)) (Int.ofNat 0),
  bitOk .shr .i64 .u64 (↑0) (Int.ofNat 63) (Int.ofNat 0 / Int.ofNat 2 ^ (Int.ofNat 63).toNat),
  bitOk .shl .u64 .u64 (Int.ofNat 0) (Int.ofNat 1) (Int.ofNat 0 * Int.ofNat 2 ^ (Int.ofNat 1).toNat),
  decide (IntKind.wrap .u64 ↑0 = Int.ofNat 0),
  true,
  true,
  bitOk .xor .u64 .u64 (Int.ofNat 0 * Int.ofNat 2 ^ (Int.ofNat 1).toNat) (IntKind.wrap .u64 (Int.ofNat 0 / Int.ofNat 2 ^ (Int.ofNat 63).toNat)) (Int.ofNat 0),
  bitOk .shr .i64 .u64 (↑0) (Int.ofNat 63) (Int.ofNat 0 / Int.ofNat 2 ^ (Int.ofNat 63).toNat),
  bitOk .shl .u64 .u64 (Int.ofNat 0) (Int.ofNat 1) (Int.ofNat 0 * Int.ofNat 2 ^ (Int.ofNat 1).toNat),
  decide (IntKind.wrap .u64 ↑0 = Int.ofNat 0),
  true,
  true,
  bitOk .xor .u64 .u64 (Int.ofNat 0 * Int.ofNat 2 ^ (Int.ofNat 1).toNat) (IntKind.wrap .u64 (Int.ofNat 0 / Int.ofNat 2 ^ (Int.ofNat 63).toNat)) (Int.ofNat 0),
  bitOk .shr .i64 .u64 (Int.ofNat 0) (Int.ofNat 63) (Int.ofNat 0 / Int.ofNat 2 ^ (Int.ofNat 63).toNat),
  bitOk .shl .u64 .u64 (Int.ofNat 0) (Int.ofNat 1) (Int.ofNat 0 * Int.ofNat 2 ^ (Int.ofNat 1).toNat),
  decide (IntKind.wrap .u64 (Int.ofNat 0) = Int.ofNat 0),
  true,
  !decide (Int.ofNat (first + k) * 2 ^ 1 > Int.ofNat 127),
  bitOk .xor .u64 .u64 (Int.ofNat (first + k) * 2 ^ 1) (IntKind.wrap .u64 (Int.ofNat (first + k) / Int.ofNat 2 ^ (Int.ofNat 63).toNat)) (Int.ofNat (first + k) * 2 ^ 1),
  bitOk .shr .i64 .u64 (Int.ofNat (first + k)) (Int.ofNat 63) (Int.ofNat (first + k) / Int.ofNat 2 ^ (Int.ofNat 63).toNat),
  bitOk .shl .u64 .u64 (Int.ofNat (first + k)) (Int.ofNat 1) (Int.ofNat (first + k) * 2 ^ 1),
  decide (IntKind.wrap .u64 (Int.ofNat (first + k)) = Int.ofNat (first + k)),
  decide ((first : Int) = (first : Int)) && true && (Nat.beq 15 15 && Nat.beq 0 0 && true && true && k.beq k && (2 * k + 1).beq (2 * k + 1) && true && true),
  decide (IntKind.wrap .i64 ((first : Int) + (k : Int)) = Int.ofNat (first + k)),
  decide (taken = taken) && true && true,
  true,
  !decide (Int.ofNat (first + k) = (first : Int)),
  decide ((first : Int) = (first : Int)) && true && (Nat.beq 15 15 && Nat.beq 0 0 && true && true && k.beq k && (2 * k + 1).beq (2 * k + 1) && true && true),
  decide (IntKind.wrap .i64 ((first : Int) + (k : Int)) = Int.ofNat (first + k))]
theorem runF2e (wb mb : List UInt8) (clock born born2 first k : Nat) (taken : Int) (rv : Value) (o17 : AObj) :
  ((levO Tryz.prog ext WF2e 300).call 17 #[P 12] (HF2e wb mb clock born born2 first k taken rv o17)).map (fun r => (r.1, r.2.1.gl, [17, 16, 41, 42, 34, 35, 5, 6, 7, 8, 9, 44, 11, 12].map r.2.1.objs.get, r.2.2)) =
  some (.tuple #[.bool false, I 0], 5, [
    some (o17),
    some (.cells .own [] 5),
    some (.cells .own [S 42 (hd (first + k)).length, I ((hd (first + k)).length : Nat)] 143),
    some (.cells (.open_ 1) (hdV (first + k)) 5),
    some (.cells .own [S 35 (0 + 4), I (((0 + 4) : Nat) : Int)] 143),
    some (.cells (.open_ 1) (manVe (first + k) []) 5),
    some (.map [⟨.string "wal".toUTF8, P 41, born⟩, ⟨.string "manifest".toUTF8, P 34, born2⟩] (clock + 2)),
    some (.cells .own [.map (some 5), I 1073741824, I (-1), .bool false] 140),
    some (.cells .own [.slice none 0 0, rv] 84),
    some (.cells .own [P 6, P 12, P 7, .pointer none, .bool false] 46),
    some (.cells .own [P 6, I (((first + k : Nat))), .slice none 0 0, I (12), .bool false] 219),
    some (.map [] 0),
    some (.cells .own [I 9223372036854775807, I 0, .map (some 44)] 216),
    some (.cells .own [P 6, P 9, P 11, .slice none 0 0, I 0, I (((first + k : Nat))), E 16, .map none, .bool false] 118)], TF2e wb mb clock born born2 first k taken rv o17) := by kernel_rfl
theorem testsF2e (wb mb : List UInt8) (clock born born2 first k : Nat) (taken : Int) (rv : Value) (o17 : AObj) (hw2 : wb.length ≤ 1000000) (hk0 : 0 < k) (hn : first + k ≤ 60) (hbo : born < clock) (hb2 : born2 < clock) (hbb : born ≠ born2) (hm2 : mb.length ≤ 10000) : allT (TF2e wb mb clock born born2 first k taken rv o17) := by
  intro b hb
  simp only [TF2e, List.mem_cons, List.not_mem_nil, or_false] at hb
  have e0 := wrap_a (1073741824 - (0 + 0 + ↑(0 + 4) + (wb.length : Int)))
  have e1 := wrap_a (Int.ofNat (first + k) - (first : Int))
  have e2 := wrap_a ((first : Int) + (k : Int))
  have e3 := wrap_a (1073741824 - (0 + 0 + (mb.length : Int) + (wb.length : Int)))
  rcases hb with hb | hb | hb | hb | hb | hb | hb | hb | hb | hb | hb | hb | hb | hb | hb | hb | hb | hb | hb | hb | hb | hb | hb | hb | hb | hb | hb | hb | hb | hb | hb | hb | hb | hb | hb | hb | hb | hb | hb | hb | hb | hb | hb | hb | hb | hb | hb | hb | hb | hb | hb | hb | hb | hb | hb | hb | hb <;> refine hb.trans ?_ <;> clear hb <;>
  first
  | with_reducible rfl
  | (unfold ltT; rw [decide_eq_true_eq]; (try simp only [Int.ofNat_eq_natCast]); omega)
  | (unfold bornT; simp <;> omega)
  | (simp only [e0, e1, e2, e3, wrapM, decide_true, Bool.not_eq_true', decide_eq_true_eq, decide_eq_false_iff_not, Int.ofNat_eq_natCast, gt_iff_lt]; omega)
  | (simp only [Bool.and_eq_true, Bool.or_eq_true, Bool.not_eq_true', beq_t, beq_f, ble_t, ble_f, byteVals_length, oneCell_bytes, capLow, isOpen, len_F0, len_be, one_F0, one_be, len_hd0, one_hd0, len_manVs, one_manVs, len_manVl, one_manVl, List.length_append, List.all_append, List.length_replicate, decide_eq_true_eq, Int.ofNat_eq_natCast, and_true, true_and, or_true, List.length_cons, List.length_nil, List.all_cons, List.all_nil, oneCell, Int.toNat_natCast, List.length_take, List.length_drop, Bool.and_self, Bool.not_false, Bool.not_true]; omega)
  | (simp only [wrapM, Int.ofNat_eq_natCast, decide_eq_true_eq]; split <;> omega)
  | (simp only [e0, e1, e2, e3, wrapM, Int.ofNat_eq_natCast, decide_eq_true_eq, gt_iff_lt]; (repeat' split) <;> omega)
  | (first | exact z1 (by omega) | exact z2 (by omega) | exact z3 (by omega) | exact z4 (by omega) | exact z5 (by omega) | exact z6 (by omega))
  | (simp [beq_t]; done)
  | rfl
theorem stepF2e (wb mb : List UInt8) (clock born born2 first k : Nat) (taken : Int) (rv : Value) (o17 : AObj) (hn : first + k ≤ 60) (hv : VG (pairs 5 [(17, 17), (16, 16), (13, 41), (14, 42), (18, 34), (19, 35), (5, 5), (6, 6), (7, 7), (8, 8), (9, 9), (10, 44), (11, 11), (12, 12)]) rv rv) (ho : OG (pairs 5 [(17, 17), (16, 16), (13, 41), (14, 42), (18, 34), (19, 35), (5, 5), (6, 6), (7, 7), (8, 8), (9, 9), (10, 44), (11, 11), (12, 12)]) o17 o17) :
  ∃ K, (levO Tryz.prog ext WF2e 300).call 17 #[P 12] (HF2e wb mb clock born born2 first k taken rv o17) = some (.tuple #[.bool false, I 0], K, TF2e wb mb clock born born2 first k taken rv o17) ∧
    Gen (pairs 5 [(17, 17), (16, 16), (13, 41), (14, 42), (18, 34), (19, 35), (5, 5), (6, 6), (7, 7), (8, 8), (9, 9), (10, 44), (11, 11), (12, 12)]) K (heapOf 20 5 ([(17, o17)] ++ [(16, noneO)] ++ (fileO 13 (hd (first + k))) ++ (fileO 18 (man (first + k) [])) ++ (base [walE born, manE born2] (clock + 2) (rv) (((first + k : Nat))) (.slice none 0 0) (12) (((first + k : Nat))) (E 16)))) := by
  obtain ⟨⟨v, K, ts⟩, hc, h⟩ := Option.map_eq_some_iff.1 (runF2e wb mb clock born born2 first k taken rv o17)
  simp only [Prod.mk.injEq, List.map_cons, List.map_nil, List.cons.injEq, and_true] at h
  obtain ⟨rfl, hgl, ⟨h17, h16, h41, h42, h34, h35, h5, h6, h7, h8, h9, h44, h11, h12⟩, rfl⟩ := h
  refine ⟨K, hc, Gen.of_pairs hgl (by decide) ?_⟩
  intro x hm
  simp only [base, fileO, walE, manE, tops, rowO, noneO, List.cons_append, List.nil_append, List.mem_cons, List.not_mem_nil, or_false] at hm
  rcases hm with rfl | rfl | rfl | rfl | rfl | rfl | rfl | rfl | rfl | rfl | rfl | rfl | rfl | rfl
  · exact fit rfl h17 ho rfl fun _ _ _ h => ⟨_, h⟩
  · refine fit rfl h16 (OG.own _ ?_) rfl sameFl
    first | exact LG.cons VG.sliceNil (LG.cons hv LG.nil) | exact LS.ok (by repeat' constructor)
  · refine fit rfl h41 (OG.own _ ?_) rfl sameFl
    first | exact LG.cons VG.sliceNil (LG.cons hv LG.nil) | exact LS.ok (by repeat' constructor)
  · refine fit rfl h42 (OG.open_ _ _ ?_) rfl sameFl
    rw [← hdV_eq]
    exact LG.bytes _
  · refine fit rfl h34 (OG.own _ ?_) rfl sameFl
    rw [Nat.zero_add, mane_length (by omega)]
    first | exact LG.cons VG.sliceNil (LG.cons hv LG.nil) | exact LS.ok (by repeat' constructor)
  · refine fit rfl h35 (OG.open_ _ _ ?_) rfl sameFl
    rw [← mane_vals (by omega)]
    exact LG.bytes _
  · exact fit rfl h5 (OG.map2 (VG.string _) (VG.ptr _ rfl) (VG.string _) (VG.ptr _ rfl)) rfl noFl
  · refine fit rfl h6 (OG.own _ ?_) rfl sameFl
    first | exact LG.cons VG.sliceNil (LG.cons hv LG.nil) | exact LS.ok (by repeat' constructor)
  · refine fit rfl h7 (OG.own _ ?_) rfl sameFl
    first | exact LG.cons VG.sliceNil (LG.cons hv LG.nil) | exact LS.ok (by repeat' constructor)
  · refine fit rfl h8 (OG.own _ ?_) rfl sameFl
    first | exact LG.cons VG.sliceNil (LG.cons hv LG.nil) | exact LS.ok (by repeat' constructor)
  · refine fit rfl h9 (OG.own _ ?_) rfl sameFl
    first | exact LG.cons VG.sliceNil (LG.cons hv LG.nil) | exact LS.ok (by repeat' constructor)
  · exact fit rfl h44 OG.map0 rfl noFl
  · refine fit rfl h11 (OG.own _ ?_) rfl sameFl
    first | exact LG.cons VG.sliceNil (LG.cons hv LG.nil) | exact LS.ok (by repeat' constructor)
  · refine fit rfl h12 (OG.own _ ?_) rfl sameFl
    first | exact LG.cons VG.sliceNil (LG.cons hv LG.nil) | exact LS.ok (by repeat' constructor)
def WF2s : Word := fun o _ => match o.dst with
  | some 4 => bif o.pos == "bits.go:90" then some 2 else none
  | some 5 => bif o.pos == "bits.go:90" then some 4 else bif o.pos == "bits.go:98" then some 0 else none
  | some 7 => bif o.pos == "bits.go:90" then some 5 else none
  | some 9 => bif o.pos == "bits.go:90" then some 6 else none
  | some 12 => bif o.pos == "engine.go:140" then some 12 else none
  | some 14 => bif o.pos == "engine.go:144" then some 12 else bif o.pos == "wal.go:98" then some 2 else none
  | some 22 => bif o.pos == "wal.go:177" then some 0 else none
  | some 27 => bif o.pos == "wal.go:177" then some 0 else none
  | some 35 => bif o.pos == "wal.go:179" then some 0 else none
  | some 38 => bif o.pos == "engine.go:514" then some 0 else none
  | some 45 => bif o.pos == "wal.go:182" then some 3 else none
  | some 46 => bif o.pos == "wal.go:182" then some 1 else none
  | some 47 => bif o.pos == "disk.go:76" then some 3 else none
  | some 48 => bif o.pos == "disk.go:76" then some 0 else none
  | some 49 => bif o.pos == "disk.go:76" then some 0 else none
  | some 57 => bif o.pos == "disk.go:77" then some 0 else none
  | some 58 => bif o.pos == "disk.go:77" then some 10 else none
  | some 64 => bif o.pos == "disk.go:78" then some 0 else none
  | _ => none

def HF2s (wb mb nb : List UInt8) (clock born born2 first k : Nat) (taken : Int) (rv : Value) (o17 : AObj) : AHeap := heapOf 20 5 ([(15, tops (k))] ++ [(17, o17)] ++ [(16, rowO (nb))] ++ (fileO 13 (wb)) ++ (fileO 18 (mb)) ++ (base [walE born, manE born2] clock (rv) ((first : Nat)) (S 15 k) ((wb.length : Nat)) (taken) (S 16 nb.length)))
def TF2s (wb mb nb : List UInt8) (clock born born2 first k : Nat) (taken : Int) (rv : Value) (o17 : AObj) : List Bool := [true,
  true,
  true,
  !(12 - 0).beq 0 && (hdV (first + k)).length.beq ((12 - 0) * 1) && (!(0 + (12 - 0)).ble (capLow 0) && (((0 + (12 - 0)) * 2 * (1 + 1)).ble 140737488355328 && ((hdV (first + k)).all oneCell && (hdV (first + k)).length.beq ((12 - 0) * 1)))) && (Nat.beq 0 0 && Nat.beq 0 0),
  true && (true && (true && (Nat.ble 12 (capLow (2 * (4 + (Int.ofNat 8).toNat) + 1)) && (Nat.ble 0 12 && (true && !(capLow (2 * (4 + (Int.ofNat 8).toNat) + 1)).beq 0))))),
  true,
  decide ((if 1073741824 - (0 + 0 + ↑(0 + (3 + nb.length + 1)) + (wb.length : Int)) < ↑(4 + (Int.ofNat 8).toNat) then 1073741824 - (0 + 0 + ↑(0 + (3 + nb.length + 1)) + (wb.length : Int)) else ↑(4 + (Int.ofNat 8).toNat)) = Int.ofNat 12),
  decide ((if Int.ofNat 0 > 1073741824 - (0 + 0 + ↑(0 + (3 + nb.length + 1)) + (wb.length : Int)) then Int.ofNat 0 else 1073741824 - (0 + 0 + ↑(0 + (3 + nb.length + 1)) + (wb.length : Int))) = 1073741824 - (0 + 0 + ↑(0 + (3 + nb.length + 1)) + (wb.length : Int))),
  decide (IntKind.wrap .i64 (1073741824 - (0 + 0 + ↑(0 + (3 + nb.length + 1)) + (wb.length : Int))) = 1073741824 - (0 + 0 + ↑(0 + (3 + nb.length + 1)) + (wb.length : Int))),
  bornT [born, born2, clock.succ] (clock + 1 + 1),
  ltT (0 + 0 + ↑(0 + (3 + nb.length + 1)) + (wb.length : Int)) (Int.ofNat 1073741824),
  Nat.beq 15 15 && Nat.beq 0 0 && true && true && k.beq k && (2 * k + 1).beq (2 * k + 1) && true && (decide ((first : Int) = (first : Int)) && true && true),
  decide (Int.ofNat 0 ≤ Int.ofNat (first + k) - Int.ofNat first) && (true && (true && (k.ble (capLow (2 * k + 1)) && ((Int.ofNat (first + k) - Int.ofNat first).toNat.ble k && ((!isOpen (2 * k + 1) || (Int.ofNat (first + k) - Int.ofNat first).toNat.beq 0 || !Nat.beq 1 0) && ((capLow (2 * k + 1)).beq (Int.ofNat (first + k) - Int.ofNat first).toNat && isOpen (2 * k + 1))))))),
  decide (IntKind.wrap .i64 (Int.ofNat (first + k) - (first : Int)) = Int.ofNat (first + k) - Int.ofNat first),
  !decide (Int.ofNat (first + k) = (first : Int)),
  !decide (Int.ofNat (first + k) > Int.ofNat (first + k)),
  decide ((first : Int) = (first : Int)) && true && (Nat.beq 15 15 && Nat.beq 0 0 && true && true && k.beq k && (2 * k + 1).beq (2 * k + 1) && true && true),
  decide (IntKind.wrap .i64 ((first : Int) + (k : Int)) = Int.ofNat (first + k)),
  !decide (Int.ofNat (first + k) < (first : Int)),
  decide ((first : Int) = (first : Int)) && true && (Nat.beq 15 15 && Nat.beq 0 0 && true && true && k.beq k && (2 * k + 1).beq (2 * k + 1) && true && true),
  decide (IntKind.wrap .i64 ((first : Int) + (k : Int)) = Int.ofNat (first + k)),
  Nat.beq 33 33 && Nat.beq 0 0 && true && true && (3 + nb.length + 1).beq (3 + nb.length + 1) && (2 * (3 + nb.length + 1) + 1).beq (2 * (3 + nb.length + 1) + 1) && true && true,
  !decide (Int.ofNat (3 + nb.length + 1) < Int.ofNat (3 + nb.length + 1)),
  true,
  !(3 + nb.length + 1).beq 0 && (manVs (first + k) nb).length.beq (0 + (3 + nb.length + 1)) && (!(0 + (3 + nb.length + 1)).ble (capLow 0) && (((0 + (3 + nb.length + 1)) * 2 * (1 + 1)).ble 140737488355328 && ((manVs (first + k) nb).all oneCell && (manVs (first + k) nb).length.beq (0 + (3 + nb.length + 1))))) && (Nat.beq 0 0 && Nat.beq 0 0),
  true && (true && (true && ((3 + nb.length + 1).ble (capLow (2 * (3 + nb.length + 1) + 1)) && (Nat.ble 0 (3 + nb.length + 1) && ((!isOpen (2 * (3 + nb.length + 1) + 1) || Nat.beq 0 0 || !Nat.beq 1 0) && !(capLow (2 * (3 + nb.length + 1) + 1)).beq 0))))),
  true,
  decide ((if 1073741824 - (0 + 0 + (mb.length : Int) + (wb.length : Int)) < Int.ofNat (3 + nb.length + 1) then 1073741824 - (0 + 0 + (mb.length : Int) + (wb.length : Int)) else Int.ofNat (3 + nb.length + 1)) = Int.ofNat (3 + nb.length + 1)),
  decide ((if Int.ofNat 0 > 1073741824 - (0 + 0 + (mb.length : Int) + (wb.length : Int)) then Int.ofNat 0 else 1073741824 - (0 + 0 + (mb.length : Int) + (wb.length : Int))) = 1073741824 - (0 + 0 + (mb.length : Int) + (wb.length : Int))),
  decide (IntKind.wrap .i64 (1073741824 - (0 + 0 + (mb.length : Int) + (wb.length : Int))) = 1073741824 - (0 + 0 + (mb.length : Int) + (wb.length : Int))),
  bornT [born, born2, clock] (clock + 1),
  ltT (0 + 0 + (mb.length : Int) + (wb.length : Int)) (Int.ofNat 1073741824),
  Nat.beq 30 30 && Nat.beq 0 0 && true && true && (3 + nb.length).beq (3 + nb.length) && (2 * (3 + nb.length) + 1).beq (2 * (3 + nb.length) + 1) && (Nat.beq 30 30 && Nat.beq 0 0 && true && true && (3 + nb.length).beq (3 + nb.length) && (2 * (3 + nb.length) + 1).beq (2 * (3 + nb.length) + 1) && (Nat.beq 30 30 && Nat.beq 0 0 && true && true && (3 + nb.length).beq (3 + nb.length) && (2 * (3 + nb.length) + 1).beq (2 * (3 + nb.length) + 1) && true)) && true,
  !(0 + 1).beq 0 && [Value.int .u8 (Int.ofNat 0)].length.beq ((0 + 1) * 1) && (!(3 + nb.length + 1).ble (capLow (2 * (3 + nb.length) + 1)) && (((3 + nb.length + 1) * 2 * (1 + 1)).ble 140737488355328 && ([Value.int .u8 (Int.ofNat 0)].all oneCell && [Value.int .u8 (Int.ofNat 0)].length.beq ((0 + 1) * 1)))) && (isOpen (2 * (3 + nb.length) + 1) && (Nat.beq 0 0 && (([Value.int .u8 (IntKind.wrap .u8 (Int.ofNat (first + k) * 2 ^ 1))] ++ [Value.int .u8 (Int.ofNat 0)] ++ [Value.int .u8 (IntKind.wrap .u8 (Int.ofNat nb.length * 2 ^ 1))] ++ byteVals nb).length.beq ((3 + nb.length) * 1) && (Nat.beq 1 1 && (!Nat.beq 1 0 && Nat.beq 5 5))))),
  true,
  bitOk .xor .u64 .u64 (Int.ofNat 0 * Int.ofNat 2 ^ (Int.ofNat 1).toNat) (IntKind.wrap .u64 (Int.ofNat 0 / Int.ofNat 2 ^ (Int.ofNat 63).toNat)) (Int.ofNat 0),
  bitOk .shr .i64 .u64 (↑0) (Int.ofNat 63) (Int.ofNat 0 / Int.ofNat 2 ^ (Int.ofNat 63).toNat),
  bitOk .shl .u64 .u64 (Int.ofNat 0) (Int.ofNat 1) (Int.ofNat 0 * Int.ofNat 2 ^ (Int.ofNat 1).toNat),
  decide (IntKind.wrap .u64 ↑0 = Int.ofNat 0),
  !nb.length.beq 0 && (byteVals nb).length.beq (nb.length * 1) && (!(3 + nb.length).ble (capLow (2 * (0 + (0 + 1) + (0 + 1) + (0 + 1)) + 1)) && (((3 + nb.length) * 2 * (1 + 1)).ble 140737488355328 && ((byteVals nb).all oneCell && (byteVals nb).length.beq (nb.length * 1)))) && (isOpen (2 * (0 + (0 + 1) + (0 + 1) + (0 + 1)) + 1) && (Nat.beq 0 0 && (([Value.int .u8 (IntKind.wrap .u8 (Int.ofNat (first + k) * 2 ^ 1))] ++ [Value.int .u8 (Int.ofNat 0)] ++ [Value.int .u8 (IntKind.wrap .u8 (Int.ofNat nb.length * 2 ^ 1))]).length.beq ((0 + (0 + 1) + (0 + 1) + (0 + 1)) * 1) && (Nat.beq 1 1 && (!Nat.beq 1 0 && Nat.beq 5 5))))),
  true,
  !(0 + 1).beq 0 && [Value.int .u8 (IntKind.wrap .u8 (Int.ofNat nb.length * 2 ^ 1))].length.beq ((0 + 1) * 1) && (!(0 + (0 + 1) + (0 + 1) + (0 + 1)).ble (capLow (2 * (0 + (0 + 1) + (0 + 1)) + 1)) && (((0 + (0 + 1) + (0 + 1) + (0 + 1)) * 2 * (1 + 1)).ble 140737488355328 && ([Value.int .u8 (IntKind.wrap .u8 (Int.ofNat nb.length * 2 ^ 1))].all oneCell && [Value.int .u8 (IntKind.wrap .u8 (Int.ofNat nb.length * 2 ^ 1))].length.beq ((0 + 1) * 1)))) && (isOpen (2 * (0 + (0 + 1) + (0 + 1)) + 1) && (Nat.beq 0 0 && (([Value.int .u8 (IntKind.wrap .u8 (Int.ofNat (first + k) * 2 ^ 1))] ++ [Value.int .u8 (Int.ofNat 0)]).length.beq ((0 + (0 + 1) + (0 + 1)) * 1) && (Nat.beq 1 1 && (!Nat.beq 1 0 && Nat.beq 5 5))))),
  !decide (Int.ofNat nb.length * 2 ^ 1 > Int.ofNat 127),
  bitOk .xor .u64 .u64 (Int.ofNat nb.length * 2 ^ 1) (IntKind.wrap .u64 (Int.ofNat nb.length / Int.ofNat 2 ^ (Int.ofNat 63).toNat)) (Int.ofNat nb.length * 2 ^ 1),
  bitOk .shr .i64 .u64 ((nb.length : Int)) (Int.ofNat 63) (Int.ofNat nb.length / Int.ofNat 2 ^ (Int.ofNat 63).toNat),
  bitOk .shl .u64 .u64 (Int.ofNat nb.length) (Int.ofNat 1) (Int.ofNat nb.length * 2 ^ 1),
  decide (IntKind.wrap .u64 (nb.length : Int) = Int.ofNat nb.length),
  true,
  !(0 + 1).beq 0 && [Value.int .u8 (Int.ofNat 0)].length.beq ((0 + 1) * 1) && (!(0 + (0 + 1) + (0 + 1)).ble (capLow (2 * (0 + (0 + 1)) + 1)) && (((0 + (0 + 1) + (0 + 1)) * 2 * (1 + 1)).ble 140737488355328 && ([Value.int .u8 (Int.ofNat 0)].all oneCell && [Value.int .u8 (Int.ofNat 0)].length.beq ((0 + 1) * 1)))) && (isOpen (2 * (0 + (0 + 1)) + 1) && (Nat.beq 0 0 && ([Value.int .u8 (IntKind.wrap .u8 (Int.ofNat (first + k) * 2 ^ 1))].length.beq ((0 + (0 + 1)) * 1) && (Nat.beq 1 1 && (!Nat.beq 1 0 && Nat.beq 5 5))))),
  true,
  bitOk .xor .u64 .u64 (Int.ofNat 0 * Int.ofNat 2 ^ (Int.ofNat 1).toNat) (IntKind.wrap .u64 (Int.ofNat 0 / Int.ofNat 2 ^ (Int.ofNat 63).toNat)) (Int.ofNat 0),
  bitOk .shr .i64 .u64 (Int.ofNat 0) (Int.ofNat 63) (Int.ofNat 0 / Int.ofNat 2 ^ (Int.ofNat 63).toNat),
  bitOk .shl .u64 .u64 (Int.ofNat 0) (Int.ofNat 1) (Int.ofNat 0 * Int.ofNat 2 ^ (Int.ofNat 1).toNat),
  decide (IntKind.wrap .u64 (Int.ofNat 0) = Int.ofNat 0),
  true,
  !(0 + 1).beq 0 && [Value.int .u8 (IntKind.wrap .u8 (Int.ofNat (first + k) * 2 ^ 1))].length.beq ((0 + 1) * 1) && (!(0 + (0 + 1)).ble (capLow 0) && (((0 + (0 + 1)) * 2 * (1 + 1)).ble 140737488355328 && ([Value.int .u8 (IntKind.wrap .u8 (Int.ofNat (first + k) * 2 ^ 1))].all oneCell && [Value.int .u8 (IntKind.wrap .u8 (Int.ofNat (first + k) * 2 ^ 1))].length.beq ((0 + 1) * 1)))) && (Nat.beq 0 0 && Nat.beq 0 0),
  !decide (Int.ofNat (first + k) * 2 ^ 1 > Int.ofNat 127),
  bitOk .xor .u64 .u64 (Int.ofNat (first + k) * 2 ^ 1) (IntKind.wrap .u64 (Int.ofNat (first + k) / Int.ofNat 2 ^ (Int.ofNat 63).toNat)) (Int.ofNat (first + k) * 2 ^ 1),
  bitOk .shr .i64 .u64 (Int.ofNat (first + k)) (Int.ofNat 63) (Int.ofNat (first + k) / Int.ofNat 2 ^ (Int.ofNat 63).toNat),
  bitOk .shl .u64 .u64 (Int.ofNat (first + k)) (Int.ofNat 1) (Int.ofNat (first + k) * 2 ^ 1),
  decide (IntKind.wrap .u64 (Int.ofNat (first + k)) = Int.ofNat (first + k)),
  decide ((first : Int) = (first : Int)) && true && (Nat.beq 15 15 && Nat.beq 0 0 && true && true && k.beq k && (2 * k + 1).beq (2 * k + 1) && true && true),
  decide (IntKind.wrap .i64 ((first : Int) + (k : Int)) = Int.ofNat (first + k)),
  decide (taken = taken) && true && true,
  true,
  !decide (Int.ofNat (first + k) = (first : Int)),
  decide ((first : Int) = (first : Int)) && true && (Nat.beq 15 15 && Nat.beq 0 0 && true && true && k.beq k && (2 * k + 1).beq (2 * k + 1) && true && true),
  decide (IntKind.wrap .i64 ((first : Int) + (k : Int)) = Int.ofNat (first + k))]
theorem runF2s (wb mb nb : List UInt8) (clock born born2 first k : Nat) (taken : Int) (rv : Value) (o17 : AObj) :
  ((levO Tryz.prog ext WF2s 300).call 17 #[P 12] (HF2s wb mb nb clock born born2 first k taken rv o17)).map (fun r => (r.1, r.2.1.gl, [17, 16, 42, 43, 35, 36, 5, 6, 7, 8, 9, 45, 11, 12].map r.2.1.objs.get, r.2.2)) =
  some (.tuple #[.bool false, I 0], 5, [
    some (o17),
    some (.cells (.open_ 1) (byteVals (nb)) 5),
    some (.cells .own [S 43 (hd (first + k)).length, I ((hd (first + k)).length : Nat)] 143),
    some (.cells (.open_ 1) (hdV (first + k)) 5),
    some (.cells .own [S 36 (0 + (3 + nb.length + 1)), I (((0 + (3 + nb.length + 1)) : Nat) : Int)] 143),
    some (.cells (.open_ 1) (manVs (first + k) nb) 5),
    some (.map [⟨.string "wal".toUTF8, P 42, born⟩, ⟨.string "manifest".toUTF8, P 35, born2⟩] (clock + 2)),
    some (.cells .own [.map (some 5), I 1073741824, I (-1), .bool false] 140),
    some (.cells .own [.slice none 0 0, rv] 84),
    some (.cells .own [P 6, P 12, P 7, .pointer none, .bool false] 46),
    some (.cells .own [P 6, I (((first + k : Nat))), .slice none 0 0, I (12), .bool false] 219),
    some (.map [] 0),
    some (.cells .own [I 9223372036854775807, I 0, .map (some 45)] 216),
    some (.cells .own [P 6, P 9, P 11, .slice none 0 0, I 0, I (((first + k : Nat))), S 16 nb.length, .map none, .bool false] 118)], TF2s wb mb nb clock born born2 first k taken rv o17) := by kernel_rfl
theorem testsF2s (wb mb nb : List UInt8) (clock born born2 first k : Nat) (taken : Int) (rv : Value) (o17 : AObj) (hw2 : wb.length ≤ 1000000) (hk0 : 0 < k) (hn : first + k ≤ 60) (hbo : born < clock) (hb2 : born2 < clock) (hbb : born ≠ born2) (hm2 : mb.length ≤ 10000) (hx : 0 < nb.length) (hx2 : nb.length < 64) : allT (TF2s wb mb nb clock born born2 first k taken rv o17) := by
  intro b hb
  simp only [TF2s, List.mem_cons, List.not_mem_nil, or_false] at hb
  have e0 := wrap_a (1073741824 - (0 + 0 + ↑(0 + (3 + nb.length + 1)) + (wb.length : Int)))
  have e1 := wrap_a (Int.ofNat (first + k) - (first : Int))
  have e2 := wrap_a ((first : Int) + (k : Int))
  have e3 := wrap_a (1073741824 - (0 + 0 + (mb.length : Int) + (wb.length : Int)))
  rcases hb with hb | hb | hb | hb | hb | hb | hb | hb | hb | hb | hb | hb | hb | hb | hb | hb | hb | hb | hb | hb | hb | hb | hb | hb | hb | hb | hb | hb | hb | hb | hb | hb | hb | hb | hb | hb | hb | hb | hb | hb | hb | hb | hb | hb | hb | hb | hb | hb | hb | hb | hb | hb | hb | hb | hb | hb | hb | hb | hb | hb | hb | hb | hb | hb | hb | hb | hb | hb <;> refine hb.trans ?_ <;> clear hb <;>
  first
  | with_reducible rfl
  | (unfold ltT; rw [decide_eq_true_eq]; (try simp only [Int.ofNat_eq_natCast]); omega)
  | (unfold bornT; simp <;> omega)
  | (simp only [e0, e1, e2, e3, wrapM, decide_true, Bool.not_eq_true', decide_eq_true_eq, decide_eq_false_iff_not, Int.ofNat_eq_natCast, gt_iff_lt]; omega)
  | (simp only [Bool.and_eq_true, Bool.or_eq_true, Bool.not_eq_true', beq_t, beq_f, ble_t, ble_f, byteVals_length, oneCell_bytes, capLow, isOpen, len_F0, len_be, one_F0, one_be, len_hd0, one_hd0, len_manVs, one_manVs, len_manVl, one_manVl, List.length_append, List.all_append, List.length_replicate, decide_eq_true_eq, Int.ofNat_eq_natCast, and_true, true_and, or_true, List.length_cons, List.length_nil, List.all_cons, List.all_nil, oneCell, Int.toNat_natCast, List.length_take, List.length_drop, Bool.and_self, Bool.not_false, Bool.not_true]; omega)
  | (simp only [wrapM, Int.ofNat_eq_natCast, decide_eq_true_eq]; split <;> omega)
  | (simp only [e0, e1, e2, e3, wrapM, Int.ofNat_eq_natCast, decide_eq_true_eq, gt_iff_lt]; (repeat' split) <;> omega)
  | (first | exact z1 (by omega) | exact z2 (by omega) | exact z3 (by omega) | exact z4 (by omega) | exact z5 (by omega) | exact z6 (by omega))
  | (simp [beq_t]; done)
  | rfl
theorem stepF2s (wb mb nb : List UInt8) (clock born born2 first k : Nat) (taken : Int) (rv : Value) (o17 : AObj) (hn : first + k ≤ 60) (hx : 0 < nb.length) (hx2 : nb.length < 64) (hv : VG (pairs 5 [(17, 17), (16, 16), (13, 42), (14, 43), (18, 35), (19, 36), (5, 5), (6, 6), (7, 7), (8, 8), (9, 9), (10, 45), (11, 11), (12, 12)]) rv rv) (ho : OG (pairs 5 [(17, 17), (16, 16), (13, 42), (14, 43), (18, 35), (19, 36), (5, 5), (6, 6), (7, 7), (8, 8), (9, 9), (10, 45), (11, 11), (12, 12)]) o17 o17) :
  ∃ K, (levO Tryz.prog ext WF2s 300).call 17 #[P 12] (HF2s wb mb nb clock born born2 first k taken rv o17) = some (.tuple #[.bool false, I 0], K, TF2s wb mb nb clock born born2 first k taken rv o17) ∧
    Gen (pairs 5 [(17, 17), (16, 16), (13, 42), (14, 43), (18, 35), (19, 36), (5, 5), (6, 6), (7, 7), (8, 8), (9, 9), (10, 45), (11, 11), (12, 12)]) K (heapOf 20 5 ([(17, o17)] ++ [(16, rowO (nb))] ++ (fileO 13 (hd (first + k))) ++ (fileO 18 (man (first + k) nb)) ++ (base [walE born, manE born2] (clock + 2) (rv) (((first + k : Nat))) (.slice none 0 0) (12) (((first + k : Nat))) (S 16 nb.length)))) := by
  obtain ⟨⟨v, K, ts⟩, hc, h⟩ := Option.map_eq_some_iff.1 (runF2s wb mb nb clock born born2 first k taken rv o17)
  simp only [Prod.mk.injEq, List.map_cons, List.map_nil, List.cons.injEq, and_true] at h
  obtain ⟨rfl, hgl, ⟨h17, h16, h42, h43, h35, h36, h5, h6, h7, h8, h9, h45, h11, h12⟩, rfl⟩ := h
  refine ⟨K, hc, Gen.of_pairs hgl (by decide) ?_⟩
  intro x hm
  simp only [base, fileO, walE, manE, tops, rowO, noneO, List.cons_append, List.nil_append, List.mem_cons, List.not_mem_nil, or_false] at hm
  rcases hm with rfl | rfl | rfl | rfl | rfl | rfl | rfl | rfl | rfl | rfl | rfl | rfl | rfl | rfl
  · exact fit rfl h17 ho rfl fun _ _ _ h => ⟨_, h⟩
  · refine fit rfl h16 (OG.open_ _ _ ?_) rfl sameFl
    exact LG.bytes _
  · refine fit rfl h42 (OG.own _ ?_) rfl sameFl
    first | exact LG.cons VG.sliceNil (LG.cons hv LG.nil) | exact LS.ok (by repeat' constructor)
  · refine fit rfl h43 (OG.open_ _ _ ?_) rfl sameFl
    rw [← hdV_eq]
    exact LG.bytes _
  · refine fit rfl h35 (OG.own _ ?_) rfl sameFl
    rw [Nat.zero_add, mans_length (by omega) (by omega)]
    first | exact LG.cons VG.sliceNil (LG.cons hv LG.nil) | exact LS.ok (by repeat' constructor)
  · refine fit rfl h36 (OG.open_ _ _ ?_) rfl sameFl
    rw [← mans_vals (by omega) (by omega)]
    exact LG.bytes _
  · exact fit rfl h5 (OG.map2 (VG.string _) (VG.ptr _ rfl) (VG.string _) (VG.ptr _ rfl)) rfl noFl
  · refine fit rfl h6 (OG.own _ ?_) rfl sameFl
    first | exact LG.cons VG.sliceNil (LG.cons hv LG.nil) | exact LS.ok (by repeat' constructor)
  · refine fit rfl h7 (OG.own _ ?_) rfl sameFl
    first | exact LG.cons VG.sliceNil (LG.cons hv LG.nil) | exact LS.ok (by repeat' constructor)
  · refine fit rfl h8 (OG.own _ ?_) rfl sameFl
    first | exact LG.cons VG.sliceNil (LG.cons hv LG.nil) | exact LS.ok (by repeat' constructor)
  · refine fit rfl h9 (OG.own _ ?_) rfl sameFl
    first | exact LG.cons VG.sliceNil (LG.cons hv LG.nil) | exact LS.ok (by repeat' constructor)
  · exact fit rfl h45 OG.map0 rfl noFl
  · refine fit rfl h11 (OG.own _ ?_) rfl sameFl
    first | exact LG.cons VG.sliceNil (LG.cons hv LG.nil) | exact LS.ok (by repeat' constructor)
  · refine fit rfl h12 (OG.own _ ?_) rfl sameFl
    first | exact LG.cons VG.sliceNil (LG.cons hv LG.nil) | exact LS.ok (by repeat' constructor)
end Go.Proofs.YtabpbpdhapaffaaGreatDoor
end
