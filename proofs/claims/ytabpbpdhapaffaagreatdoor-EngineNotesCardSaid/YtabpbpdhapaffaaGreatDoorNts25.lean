/-
  EngineNotes returns true whatever the notes and what stands between them, part 25: GrF2l, GrM1k, GrM2k, GrR1k, GrR2k, GrLV3, GrO1n. Conditions: none but those of the row.
-/
import Derived.Test.YtabpbpdhapaffaaGreatDoorNts12
import Derived.Test.YtabpbpdhapaffaaGreatDoorNts13
import Derived.Test.YtabpbpdhapaffaaGreatDoorNts18
import Derived.Test.YtabpbpdhapaffaaGreatDoorNts19
import Derived.Test.YtabpbpdhapaffaaGreatDoorNts23
import Derived.Test.YtabpbpdhapaffaaGreatDoorNts24
set_option linter.unusedSimpArgs false
set_option linter.unusedVariables false
section
set_option maxRecDepth 100000
namespace Go.Proofs.YtabpbpdhapaffaaGreatDoor
open Go.Vi
def WF2l : Word := fun o n => match o.dst with
  | some 4 => bif o.pos == "bits.go:90" then some 2 else none
  | some 5 => bif o.pos == "bits.go:90" then some 4 else bif o.pos == "bits.go:98" then (bif Nat.beq n 21 then some 0 else bif Nat.beq n 27 then some 1 else bif Nat.beq n 29 then some 0 else none) else none
  | some 7 => bif o.pos == "bits.go:90" then some 5 else bif o.pos == "bits.go:98" then some 5 else none
  | some 9 => bif o.pos == "bits.go:90" then some 6 else none
  | some 11 => bif o.pos == "bits.go:99" then some 7 else none
  | some 12 => bif o.pos == "engine.go:140" then some 12 else none
  | some 14 => bif o.pos == "engine.go:144" then some 12 else bif o.pos == "wal.go:98" then some 2 else none
  | some 22 => bif o.pos == "wal.go:177" then some 0 else none
  | some 27 => bif o.pos == "wal.go:177" then some 0 else none
  | some 35 => bif o.pos == "wal.go:179" then some 0 else none
  | some 38 => bif o.pos == "engine.go:514" then some 0 else none
  | some 45 => bif o.pos == "wal.go:182" then some 3 else none
  | some 46 => bif o.pos == "wal.go:182" then some 1 else none
  | some 47 => bif o.pos == "disk.go:76" then some 3 else none
  | some 48 => bif o.pos == "disk.go:76" then some 0 else none
  | some 49 => bif o.pos == "disk.go:76" then some 0 else none
  | some 57 => bif o.pos == "disk.go:77" then some 0 else none
  | some 58 => bif o.pos == "disk.go:77" then some 10 else none
  | some 64 => bif o.pos == "disk.go:78" then some 0 else none
  | _ => none

def HF2l (wb mb nb : List UInt8) (clock born born2 first k : Nat) (taken : Int) (rv : Value) (o17 : AObj) : AHeap := heapOf 20 5 ([(15, tops (k))] ++ [(17, o17)] ++ [(16, rowO (nb))] ++ (fileO 13 (wb)) ++ (fileO 18 (mb)) ++ (base [walE born, manE born2] clock (rv) ((first : Nat)) (S 15 k) ((wb.length : Nat)) (taken) (S 16 nb.length)))
def TF2l (wb mb nb : List UInt8) (clock born born2 first k : Nat) (taken : Int) (rv : Value) (o17 : AObj) : List Bool := [true,
  true,
  true,
  !(12 - 0).beq 0 && (hdV (first + k)).length.beq ((12 - 0) * 1) && (!(0 + (12 - 0)).ble (capLow 0) && (((0 + (12 - 0)) * 2 * (1 + 1)).ble 140737488355328 && ((hdV (first + k)).all oneCell && (hdV (first + k)).length.beq ((12 - 0) * 1)))) && (Nat.beq 0 0 && Nat.beq 0 0),
  true && (true && (true && (Nat.ble 12 (capLow (2 * (4 + (Int.ofNat 8).toNat) + 1)) && (Nat.ble 0 12 && (true && !(capLow (2 * (4 + (Int.ofNat 8).toNat) + 1)).beq 0))))),
  true,
  decide ((if 1073741824 - (0 + 0 + ↑(0 + (4 + nb.length + 1)) + (wb.length : Int)) < ↑(4 + (Int.ofNat 8).toNat) then 1073741824 - (0 + 0 + ↑(0 + (4 + nb.length + 1)) + (wb.length : Int)) else ↑(4 + (Int.ofNat 8).toNat)) = Int.ofNat 12),
  decide ((if Int.ofNat 0 > 1073741824 - (0 + 0 + ↑(0 + (4 + nb.length + 1)) + (wb.length : Int)) then Int.ofNat 0 else 1073741824 - (0 + 0 + ↑(0 + (4 + nb.length + 1)) + (wb.length : Int))) = 1073741824 - (0 + 0 + ↑(0 + (4 + nb.length + 1)) + (wb.length : Int))),
  decide (IntKind.wrap .i64 (1073741824 - (0 + 0 + ↑(0 + (4 + nb.length + 1)) + (wb.length : Int))) = 1073741824 - (0 + 0 + ↑(0 + (4 + nb.length + 1)) + (wb.length : Int))),
  bornT [born, born2, clock.succ] (clock + 1 + 1),
  ltT (0 + 0 + ↑(0 + (4 + nb.length + 1)) + (wb.length : Int)) (Int.ofNat 1073741824),
  Nat.beq 15 15 && Nat.beq 0 0 && true && true && k.beq k && (2 * k + 1).beq (2 * k + 1) && true && (decide ((first : Int) = (first : Int)) && true && true),
  decide (Int.ofNat 0 ≤ Int.ofNat (first + k) - Int.ofNat first) && (true && (true && (k.ble (capLow (2 * k + 1)) && ((Int.ofNat (first + k) - Int.ofNat first).toNat.ble k && ((!isOpen (2 * k + 1) || (Int.ofNat (first + k) - Int.ofNat first).toNat.beq 0 || !Nat.beq 1 0) && ((capLow (2 * k + 1)).beq (Int.ofNat (first + k) - Int.ofNat first).toNat && isOpen (2 * k + 1))))))),
  decide (IntKind.wrap .i64 (Int.ofNat (first + k) - (first : Int)) = Int.ofNat (first + k) - Int.ofNat first),
  !decide (Int.ofNat (first + k) = (first : Int)),
  !decide (Int.ofNat (first + k) > Int.ofNat (first + k)),
  decide ((first : Int) = (first : Int)) && true && (Nat.beq 15 15 && Nat.beq 0 0 && true && true && k.beq k && (2 * k + 1).beq (2 * k + 1) && true && true),
  decide (IntKind.wrap .i64 ((first : Int) + (k : Int)) = Int.ofNat (first + k)),
  !decide (Int.ofNat (first + k) < (first : Int)),
  decide ((first : Int) = (first : Int)) && true && (Nat.beq 15 15 && Nat.beq 0 0 && true && true && k.beq k && (2 * k + 1).beq (2 * k + 1) && true && true),
  decide (IntKind.wrap .i64 ((first : Int) + (k : Int)) = Int.ofNat (first + k)),
  Nat.beq 35 35 && Nat.beq 0 0 && true && true && (4 + nb.length + 1).beq (4 + nb.length + 1) && (2 * (4 + nb.length + 1) + 1).beq (2 * (4 + nb.length + 1) + 1) && true && true,
  !decide (Int.ofNat (4 + nb.length + 1) < Int.ofNat (4 + nb.length + 1)),
  true,
  !(4 + nb.length + 1).beq 0 && (manVl (first + k) nb).length.beq (0 + (4 + nb.length + 1)) && (!(0 + (4 + nb.length + 1)).ble (capLow 0) && (((0 + (4 + nb.length + 1)) * 2 * (1 + 1)).ble 140737488355328 && ((manVl (first + k) nb).all oneCell && (manVl (first + k) nb).length.beq (0 + (4 + nb.length + 1))))) && (Nat.beq 0 0 && Nat.beq 0 0),
  true && (true && (true && ((4 + nb.length + 1).ble (capLow (2 * (4 + nb.length + 1) + 1)) && (Nat.ble 0 (4 + nb.length + 1) && ((!isOpen (2 * (4 + nb.length + 1) + 1) || Nat.beq 0 0 || !Nat.beq 1 0) && !(capLow (2 * (4 + nb.length + 1) + 1)).beq 0))))),
  true,
  decide ((if 1073741824 - (0 + 0 + (mb.length : Int) + (wb.length : Int)) < Int.ofNat (4 + nb.length + 1) then 1073741824 - (0 + 0 + (mb.length : Int) + (wb.length : Int)) else Int.ofNat (4 + nb.length + 1)) = Int.ofNat (4 + nb.length + 1)),
  decide ((if Int.ofNat 0 > 1073741824 - (0 + 0 + (mb.length : Int) + (wb.length : Int)) then Int.ofNat 0 else 1073741824 - (0 + 0 + (mb.length : Int) + (wb.length : Int))) = 1073741824 - (0 + 0 + (mb.length : Int) + (wb.length : Int))),
  decide (IntKind.wrap .i64 (1073741824 - (0 + 0 + (mb.length : Int) + (wb.length : Int))) = 1073741824 - (0 + 0 + (mb.length : Int) + (wb.length : Int))),
  bornT [born, born2, clock] (clock + 1),
  ltT (0 + 0 + (mb.length : Int) + (wb.length : Int)) (Int.ofNat 1073741824),
  Nat.beq 32 32 && Nat.beq 0 0 && true && true && (4 + nb.length).beq (4 + nb.length) && (2 * (4 + nb.length) + 1).beq (2 * (4 + nb.length) + 1) && (Nat.beq 32 32 && Nat.beq 0 0 && true && true && (4 + nb.length).beq (4 + nb.length) && (2 * (4 + nb.length) + 1).beq (2 * (4 + nb.length) + 1) && (Nat.beq 32 32 && Nat.beq 0 0 && true && true && (4 + nb.length).beq (4 + nb.length) && (2 * (4 + nb.length) + 1).beq (2 * (4 + nb.length) + 1) && true)) && true,
  !(0 + 1).beq 0 && [Value.int .u8 (Int.ofNat 0)].length.beq ((0 + 1) * 1) && (!(4 + nb.length + 1).ble (capLow (2 * (4 + nb.length) + 1)) && (((4 + nb.length + 1) * 2 * (1 + 1)).ble 140737488355328 && ([Value.int .u8 (Int.ofNat 0)].all oneCell && [Value.int .u8 (Int.ofNat 0)].length.beq ((0 + 1) * 1)))) && (isOpen (2 * (4 + nb.length) + 1) && (Nat.beq 0 0 && (([Value.int .u8 (IntKind.wrap .u8 (Int.ofNat (first + k) * 2 ^ 1))] ++ [Value.int .u8 (Int.ofNat 0)] ++ [Value.int .u8 (IntKind.wrap .u8 (Int.ofNat nb.length * 2 ^ 1) % 128 + 128), Value.int .u8 (IntKind.wrap .u8 (Int.ofNat nb.length * 2 ^ 1 / 2 ^ 7))] ++ byteVals nb).length.beq ((4 + nb.length) * 1) && (Nat.beq 1 1 && (!Nat.beq 1 0 && Nat.beq 5 5))))),
  bitOk .xor .u64 .u64 (Int.ofNat 0 * Int.ofNat 2 ^ (Int.ofNat 1).toNat) (IntKind.wrap .u64 (Int.ofNat 0 / Int.ofNat 2 ^ (Int.ofNat 63).toNat)) (Int.ofNat 0),
  bitOk .shr .i64 .u64 (↑0) (Int.ofNat 63) (Int.ofNat 0 / Int.ofNat 2 ^ (Int.ofNat 63).toNat),
  bitOk .shl .u64 .u64 (Int.ofNat 0) (Int.ofNat 1) (Int.ofNat 0 * Int.ofNat 2 ^ (Int.ofNat 1).toNat),
  decide (IntKind.wrap .u64 ↑0 = Int.ofNat 0),
  !nb.length.beq 0 && (byteVals nb).length.beq (nb.length * 1) && (!(4 + nb.length).ble (capLow (2 * (0 + (0 + 1) + (0 + 1) + (0 + 1 + 1)) + 1)) && (((4 + nb.length) * 2 * (1 + 1)).ble 140737488355328 && ((byteVals nb).all oneCell && (byteVals nb).length.beq (nb.length * 1)))) && (isOpen (2 * (0 + (0 + 1) + (0 + 1) + (0 + 1 + 1)) + 1) && (Nat.beq 0 0 && (([Value.int .u8 (IntKind.wrap .u8 (Int.ofNat (first + k) * 2 ^ 1))] ++ [Value.int .u8 (Int.ofNat 0)] ++ [Value.int .u8 (IntKind.wrap .u8 (Int.ofNat nb.length * 2 ^ 1) % 128 + 128), Value.int .u8 (IntKind.wrap .u8 (Int.ofNat nb.length * 2 ^ 1 / 2 ^ 7))]).length.beq ((0 + (0 + 1) + (0 + 1) + (0 + 1 + 1)) * 1) && (Nat.beq 1 1 && (!Nat.beq 1 0 && Nat.beq 5 5))))),
  true,
  !(0 + 1 + 1).beq 0 && [Value.int .u8 (IntKind.wrap .u8 (Int.ofNat nb.length * 2 ^ 1) % 128 + 128), Value.int .u8 (IntKind.wrap .u8 (Int.ofNat nb.length * 2 ^ 1 / 2 ^ 7))].length.beq ((0 + 1 + 1) * 1) && (!(0 + (0 + 1) + (0 + 1) + (0 + 1 + 1)).ble (capLow (2 * (0 + (0 + 1) + (0 + 1)) + 1)) && (((0 + (0 + 1) + (0 + 1) + (0 + 1 + 1)) * 2 * (1 + 1)).ble 140737488355328 && ([Value.int .u8 (IntKind.wrap .u8 (Int.ofNat nb.length * 2 ^ 1) % 128 + 128), Value.int .u8 (IntKind.wrap .u8 (Int.ofNat nb.length * 2 ^ 1 / 2 ^ 7))].all oneCell && [Value.int .u8 (IntKind.wrap .u8 (Int.ofNat nb.length * 2 ^ 1) % 128 + 128), Value.int .u8 (IntKind.wrap .u8 (Int.ofNat nb.length * 2 ^ 1 / 2 ^ 7))].length.beq ((0 + 1 + 1) * 1)))) && (isOpen (2 * (0 + (0 + 1) + (0 + 1)) + 1) && (Nat.beq 0 0 && (([Value.int .u8 (IntKind.wrap .u8 (Int.ofNat (first + k) * 2 ^ 1))] ++ [Value.int .u8 (Int.ofNat 0)]).length.beq ((0 + (0 + 1) + (0 + 1)) * 1) && (Nat.beq 1 1 && (!Nat.beq 1 0 && Nat.beq 5 5))))),
  !decide (Int.ofNat nb.length * 2 ^ 1 / 2 ^ 7 > Int.ofNat 127),
  bitOk .shr .u64 .u64 (Int.ofNat nb.length * 2 ^ 1) (Int.ofNat 7) (Int.ofNat nb.length * 2 ^ 1 / 2 ^ 7),
  bitOk .or .u8 .u8 (IntKind.wrap .u8 (Int.ofNat nb.length * 2 ^ 1)) (Int.ofNat 128) (IntKind.wrap .u8 (Int.ofNat nb.length * 2 ^ 1) % 128 + 128),
  decide (Int.ofNat 127 < Int.ofNat nb.length * 2 ^ 1),
  bitOk .xor .u64 .u64 (Int.ofNat nb.length * 2 ^ 1) (IntKind.wrap .u64 (Int.ofNat nb.length / Int.ofNat 2 ^ (Int.ofNat 63).toNat)) (Int.ofNat nb.length * 2 ^ 1),
  bitOk .shr .i64 .u64 ((nb.length : Int)) (Int.ofNat 63) (Int.ofNat nb.length / Int.ofNat 2 ^ (Int.ofNat 63).toNat),
  bitOk .shl .u64 .u64 (Int.ofNat nb.length) (Int.ofNat 1) (Int.ofNat nb.length * 2 ^ 1),
  decide (IntKind.wrap .u64 (nb.length : Int) = Int.ofNat nb.length),
  true,
  !(0 + 1).beq 0 && [Value.int .u8 (Int.ofNat 0)].length.beq ((0 + 1) * 1) && (!(0 + (0 + 1) + (0 + 1)).ble (capLow (2 * (0 + (0 + 1)) + 1)) && (((0 + (0 + 1) + (0 + 1)) * 2 * (1 + 1)).ble 140737488355328 && ([Value.int .u8 (Int.ofNat 0)].all oneCell && [Value.int .u8 (Int.ofNat 0)].length.beq ((0 + 1) * 1)))) && (isOpen (2 * (0 + (0 + 1)) + 1) && (Nat.beq 0 0 && ([Value.int .u8 (IntKind.wrap .u8 (Int.ofNat (first + k) * 2 ^ 1))].length.beq ((0 + (0 + 1)) * 1) && (Nat.beq 1 1 && (!Nat.beq 1 0 && Nat.beq 5 5))))),
  bitOk .xor .u64 .u64 (Int.ofNat 0 * Int.ofNat 2 ^ (Int.ofNat 1).toNat) (IntKind.wrap .u64 (Int.ofNat 0 / Int.ofNat 2 ^ (Int.ofNat 63).toNat)) (Int.ofNat 0),
  bitOk .shr .i64 .u64 (Int.ofNat 0) (Int.ofNat 63) (Int.ofNat 0 / Int.ofNat 2 ^ (Int.ofNat 63).toNat),
  bitOk .shl .u64 .u64 (Int.ofNat 0) (Int.ofNat 1) (Int.ofNat 0 * Int.ofNat 2 ^ (Int.ofNat 1).toNat),
  decide (IntKind.wrap .u64 (Int.ofNat 0) = Int.ofNat 0),
  true,
  !(0 + 1).beq 0 && [Value.int .u8 (IntKind.wrap .u8 (Int.ofNat (first + k) * 2 ^ 1))].length.beq ((0 + 1) * 1) && (!(0 + (0 + 1)).ble (capLow 0) && (((0 + (0 + 1)) * 2 * (1 + 1)).ble 140737488355328 && ([Value.int .u8 (IntKind.wrap .u8 (Int.ofNat (first + k) * 2 ^ 1))].all oneCell && [Value.int .u8 (IntKind.wrap .u8 (Int.ofNat (first + k) * 2 ^ 1))].length.beq ((0 + 1) * 1)))) && (Nat.beq 0 0 && Nat.beq 0 0),
  !decide (Int.ofNat (first + k) * 2 ^ 1 > Int.ofNat 127),
  bitOk .xor .u64 .u64 (Int.ofNat (first + k) * 2 ^ 1) (IntKind.wrap .u64 (Int.ofNat (first + k) / Int.ofNat 2 ^ (Int.ofNat 63).toNat)) (Int.ofNat (first + k) * 2 ^ 1),
  bitOk .shr .i64 .u64 (Int.ofNat (first + k)) (Int.ofNat 63) (Int.ofNat (first + k) / Int.ofNat 2 ^ (Int.ofNat 63).toNat),
  bitOk .shl .u64 .u64 (Int.ofNat (first + k)) (Int.ofNat 1) (Int.ofNat (first + k) * 2 ^ 1),
  decide (IntKind.wrap .u64 (Int.ofNat (first + k)) = Int.ofNat (first + k)),
  decide ((first : Int) = (first : Int)) && true && (Nat.beq 15 15 && Nat.beq 0 0 && true && true && k.beq k && (2 * k + 1).beq (2 * k + 1) && true && true),
  decide (IntKind.wrap .i64 ((first : Int) + (k : Int)) = Int.ofNat (first + k)),
  decide (taken = taken) && true && true,
  true,
  !decide (Int.ofNat (first + k) = (first : Int)),
  decide ((first : Int) = (first : Int)) && true && (Nat.beq 15 15 && Nat.beq 0 0 && true && true && k.beq k && (2 * k + 1).beq (2 * k + 1) && true && true),
  decide (IntKind.wrap .i64 ((first : Int) + (k : Int)) = Int.ofNat (first + k))]
theorem runF2l (wb mb nb : List UInt8) (clock born born2 first k : Nat) (taken : Int) (rv : Value) (o17 : AObj) :
  ((levO Tryz.prog ext WF2l 300).call 17 #[P 12] (HF2l wb mb nb clock born born2 first k taken rv o17)).map (fun r => (r.1, r.2.1.gl, [17, 16, 44, 45, 37, 38, 5, 6, 7, 8, 9, 47, 11, 12].map r.2.1.objs.get, r.2.2)) =
  some (.tuple #[.bool false, I 0], 5, [
    some (o17),
    some (.cells (.open_ 1) (byteVals (nb)) 5),
    some (.cells .own [S 45 (hd (first + k)).length, I ((hd (first + k)).length : Nat)] 143),
    some (.cells (.open_ 1) (hdV (first + k)) 5),
    some (.cells .own [S 38 (0 + (4 + nb.length + 1)), I (((0 + (4 + nb.length + 1)) : Nat) : Int)] 143),
    some (.cells (.open_ 1) (manVl (first + k) nb) 5),
    some (.map [⟨.string "wal".toUTF8, P 44, born⟩, ⟨.string "manifest".toUTF8, P 37, born2⟩] (clock + 2)),
    some (.cells .own [.map (some 5), I 1073741824, I (-1), .bool false] 140),
    some (.cells .own [.slice none 0 0, rv] 84),
    some (.cells .own [P 6, P 12, P 7, .pointer none, .bool false] 46),
    some (.cells .own [P 6, I (((first + k : Nat))), .slice none 0 0, I (12), .bool false] 219),
    some (.map [] 0),
    some (.cells .own [I 9223372036854775807, I 0, .map (some 47)] 216),
    some (.cells .own [P 6, P 9, P 11, .slice none 0 0, I 0, I (((first + k : Nat))), S 16 nb.length, .map none, .bool false] 118)], TF2l wb mb nb clock born born2 first k taken rv o17) := by kernel_rfl
theorem testsF2l (wb mb nb : List UInt8) (clock born born2 first k : Nat) (taken : Int) (rv : Value) (o17 : AObj) (hw2 : wb.length ≤ 1000000) (hk0 : 0 < k) (hn : first + k ≤ 60) (hbo : born < clock) (hb2 : born2 < clock) (hbb : born ≠ born2) (hm2 : mb.length ≤ 10000) (hx : 64 ≤ nb.length) (hx2 : nb.length ≤ 5000) : allT (TF2l wb mb nb clock born born2 first k taken rv o17) := by
  intro b hb
  simp only [TF2l, List.mem_cons, List.not_mem_nil, or_false] at hb
  have e0 := wrap_a (1073741824 - (0 + 0 + ↑(0 + (4 + nb.length + 1)) + (wb.length : Int)))
  have e1 := wrap_a (Int.ofNat (first + k) - (first : Int))
  have e2 := wrap_a ((first : Int) + (k : Int))
  have e3 := wrap_a (1073741824 - (0 + 0 + (mb.length : Int) + (wb.length : Int)))
  rcases hb with hb | hb | hb | hb | hb | hb | hb | hb | hb | hb | hb | hb | hb | hb | hb | hb | hb | hb | hb | hb | hb | hb | hb | hb | hb | hb | hb | hb | hb | hb | hb | hb | hb | hb | hb | hb | hb | hb | hb | hb | hb | hb | hb | hb | hb | hb | hb | hb | hb | hb | hb | hb | hb | hb | hb | hb | hb | hb | hb | hb | hb | hb | hb | hb | hb | hb | hb | hb | hb <;> refine hb.trans ?_ <;> clear hb <;>
  first
  | with_reducible rfl
  | (unfold ltT; rw [decide_eq_true_eq]; (try simp only [Int.ofNat_eq_natCast]); omega)
  | (unfold bornT; simp <;> omega)
  | (simp only [e0, e1, e2, e3, wrapM, decide_true, Bool.not_eq_true', decide_eq_true_eq, decide_eq_false_iff_not, Int.ofNat_eq_natCast, gt_iff_lt]; omega)
  | (simp only [Bool.and_eq_true, Bool.or_eq_true, Bool.not_eq_true', beq_t, beq_f, ble_t, ble_f, byteVals_length, oneCell_bytes, capLow, isOpen, len_F0, len_be, one_F0, one_be, len_hd0, one_hd0, len_manVs, one_manVs, len_manVl, one_manVl, List.length_append, List.all_append, List.length_replicate, decide_eq_true_eq, Int.ofNat_eq_natCast, and_true, true_and, or_true, List.length_cons, List.length_nil, List.all_cons, List.all_nil, oneCell, Int.toNat_natCast, List.length_take, List.length_drop, Bool.and_self, Bool.not_false, Bool.not_true]; omega)
  | (simp only [wrapM, Int.ofNat_eq_natCast, decide_eq_true_eq]; split <;> omega)
  | (simp only [e0, e1, e2, e3, wrapM, Int.ofNat_eq_natCast, decide_eq_true_eq, gt_iff_lt]; (repeat' split) <;> omega)
  | (first | exact z1 (by omega) | exact z2 (by omega) | exact z3 (by omega) | exact z4 (by omega) | exact z5 (by omega) | exact z6 (by omega))
  | (simp [beq_t]; done)
  | rfl
theorem stepF2l (wb mb nb : List UInt8) (clock born born2 first k : Nat) (taken : Int) (rv : Value) (o17 : AObj) (hn : first + k ≤ 60) (hx : 64 ≤ nb.length) (hx2 : nb.length ≤ 5000) (hv : VG (pairs 5 [(17, 17), (16, 16), (13, 44), (14, 45), (18, 37), (19, 38), (5, 5), (6, 6), (7, 7), (8, 8), (9, 9), (10, 47), (11, 11), (12, 12)]) rv rv) (ho : OG (pairs 5 [(17, 17), (16, 16), (13, 44), (14, 45), (18, 37), (19, 38), (5, 5), (6, 6), (7, 7), (8, 8), (9, 9), (10, 47), (11, 11), (12, 12)]) o17 o17) :
  ∃ K, (levO Tryz.prog ext WF2l 300).call 17 #[P 12] (HF2l wb mb nb clock born born2 first k taken rv o17) = some (.tuple #[.bool false, I 0], K, TF2l wb mb nb clock born born2 first k taken rv o17) ∧
    Gen (pairs 5 [(17, 17), (16, 16), (13, 44), (14, 45), (18, 37), (19, 38), (5, 5), (6, 6), (7, 7), (8, 8), (9, 9), (10, 47), (11, 11), (12, 12)]) K (heapOf 20 5 ([(17, o17)] ++ [(16, rowO (nb))] ++ (fileO 13 (hd (first + k))) ++ (fileO 18 (man (first + k) nb)) ++ (base [walE born, manE born2] (clock + 2) (rv) (((first + k : Nat))) (.slice none 0 0) (12) (((first + k : Nat))) (S 16 nb.length)))) := by
  obtain ⟨⟨v, K, ts⟩, hc, h⟩ := Option.map_eq_some_iff.1 (runF2l wb mb nb clock born born2 first k taken rv o17)
  simp only [Prod.mk.injEq, List.map_cons, List.map_nil, List.cons.injEq, and_true] at h
  obtain ⟨rfl, hgl, ⟨h17, h16, h44, h45, h37, h38, h5, h6, h7, h8, h9, h47, h11, h12⟩, rfl⟩ := h
  refine ⟨K, hc, Gen.of_pairs hgl (by decide) ?_⟩
  intro x hm
  simp only [base, fileO, walE, manE, tops, rowO, noneO, List.cons_append, List.nil_append, List.mem_cons, List.not_mem_nil, or_false] at hm
  rcases hm with rfl | rfl | rfl | rfl | rfl | rfl | rfl | rfl | rfl | rfl | rfl | rfl | rfl | rfl
  · exact fit rfl h17 ho rfl fun _ _ _ h => ⟨_, h⟩
  · refine fit rfl h16 (OG.open_ _ _ ?_) rfl sameFl
    exact LG.bytes _
  · refine fit rfl h44 (OG.own _ ?_) rfl sameFl
    first | exact LG.cons VG.sliceNil (LG.cons hv LG.nil) | exact LS.ok (by repeat' constructor)
  · refine fit rfl h45 (OG.open_ _ _ ?_) rfl sameFl
    rw [← hdV_eq]
    exact LG.bytes _
  · refine fit rfl h37 (OG.own _ ?_) rfl sameFl
    rw [Nat.zero_add, manl_length (by omega) (by omega) (by omega)]
    first | exact LG.cons VG.sliceNil (LG.cons hv LG.nil) | exact LS.ok (by repeat' constructor)
  · refine fit rfl h38 (OG.open_ _ _ ?_) rfl sameFl
    rw [← manl_vals (by omega) (by omega) (by omega)]
    exact LG.bytes _
  · exact fit rfl h5 (OG.map2 (VG.string _) (VG.ptr _ rfl) (VG.string _) (VG.ptr _ rfl)) rfl noFl
  · refine fit rfl h6 (OG.own _ ?_) rfl sameFl
    first | exact LG.cons VG.sliceNil (LG.cons hv LG.nil) | exact LS.ok (by repeat' constructor)
  · refine fit rfl h7 (OG.own _ ?_) rfl sameFl
    first | exact LG.cons VG.sliceNil (LG.cons hv LG.nil) | exact LS.ok (by repeat' constructor)
  · refine fit rfl h8 (OG.own _ ?_) rfl sameFl
    first | exact LG.cons VG.sliceNil (LG.cons hv LG.nil) | exact LS.ok (by repeat' constructor)
  · refine fit rfl h9 (OG.own _ ?_) rfl sameFl
    first | exact LG.cons VG.sliceNil (LG.cons hv LG.nil) | exact LS.ok (by repeat' constructor)
  · exact fit rfl h47 OG.map0 rfl noFl
  · refine fit rfl h11 (OG.own _ ?_) rfl sameFl
    first | exact LG.cons VG.sliceNil (LG.cons hv LG.nil) | exact LS.ok (by repeat' constructor)
  · refine fit rfl h12 (OG.own _ ?_) rfl sameFl
    first | exact LG.cons VG.sliceNil (LG.cons hv LG.nil) | exact LS.ok (by repeat' constructor)
def WM1k : Word := fun o _ => match o.dst with
  | _ => none

def HM1k (wb : List UInt8) (clock born first k : Nat) (taken : Int) (nv rv : Value) (o16 o17 : AObj) : AHeap := heapOf 20 5 ([(15, tops (k))] ++ [(16, o16)] ++ [(17, o17)] ++ (fileO 13 (wb)) ++ (base [walE born] clock (rv) ((first : Nat)) (S 15 k) ((wb.length : Nat)) (taken) (nv)))
def TM1k (wb : List UInt8) (clock born first k : Nat) (taken : Int) (nv rv : Value) (o16 o17 : AObj) : List Bool := []
theorem runM1k (wb : List UInt8) (clock born first k : Nat) (taken : Int) (nv rv : Value) (o16 o17 : AObj) :
  ((levO Tryz.prog extS WM1k 300).call 28 #[P 12] (HM1k wb clock born first k taken nv rv o16 o17)).map (fun r => (r.1, r.2.1.gl, [15, 16, 17, 13, 14, 5, 6, 7, 8, 9, 10, 11, 12].map r.2.1.objs.get, r.2.2)) =
  some (.tuple #[.bool false, I 0], 5, [
    some (.cells (.open_ 1) (List.replicate (k) (.chan (some 0))) 57),
    some (o16),
    some (o17),
    some (.cells .own [S 14 (wb).length, I ((wb).length : Nat)] 143),
    some (.cells (.open_ 1) (byteVals (wb)) 5),
    some (.map [⟨.string "wal".toUTF8, P 13, born⟩] clock),
    some (.cells .own [.map (some 5), I 1073741824, I (-1), .bool false] 140),
    some (.cells .own [.slice none 0 0, rv] 84),
    some (.cells .own [P 6, P 12, P 7, .pointer none, .bool false] 46),
    some (.cells .own [P 6, I ((first : Nat)), S 15 k, I ((wb.length : Nat)), .bool false] 219),
    some (.map [] 0),
    some (.cells .own [I 9223372036854775807, I 0, .map (some 10)] 216),
    some (.cells .own [P 6, P 9, P 11, .slice none 0 0, I 0, I (taken), nv, .map none, .bool false] 118)], TM1k wb clock born first k taken nv rv o16 o17) := by kernel_rfl
theorem testsM1k (wb : List UInt8) (clock born first k : Nat) (taken : Int) (nv rv : Value) (o16 o17 : AObj) (hw : 0 < wb.length) (hw2 : wb.length ≤ 1000000) (hbo : born < clock) (hk0 : 0 < k) (hf : first ≤ 30) (hk : k ≤ 30) : allT (TM1k wb clock born first k taken nv rv o16 o17) := fun b hb => absurd hb List.not_mem_nil
theorem keepM1k (wb : List UInt8) (clock born first k : Nat) (taken : Int) (nv rv : Value) (o16 o17 : AObj) :
  ∃ K, (levO Tryz.prog extS WM1k 300).call 28 #[P 12] (HM1k wb clock born first k taken nv rv o16 o17) = some (.tuple #[.bool false, I 0], K, TM1k wb clock born first k taken nv rv o16 o17) ∧ K.gl = 5 ∧ ∀ i o, (HM1k wb clock born first k taken nv rv o16 o17).objs.get i = some o → K.objs.get i = some o := by
  obtain ⟨⟨v, K, ts⟩, hc, h⟩ := Option.map_eq_some_iff.1 (runM1k wb clock born first k taken nv rv o16 o17)
  simp only [Prod.mk.injEq, List.map_cons, List.map_nil, List.cons.injEq, and_true] at h
  obtain ⟨rfl, hgl, ⟨h15, h16, h17, h13, h14, h5, h6, h7, h8, h9, h10, h11, h12⟩, rfl⟩ := h
  refine ⟨K, hc, hgl, fun i o ho => ?_⟩
  have hm := heapOf_get ho
  simp only [base, fileO, walE, manE, tops, rowO, noneO, roO, List.cons_append, List.nil_append, List.mem_cons, List.not_mem_nil, or_false, Prod.mk.injEq] at hm
  rcases hm with ⟨rfl, rfl⟩ | ⟨rfl, rfl⟩ | ⟨rfl, rfl⟩ | ⟨rfl, rfl⟩ | ⟨rfl, rfl⟩ | ⟨rfl, rfl⟩ | ⟨rfl, rfl⟩ | ⟨rfl, rfl⟩ | ⟨rfl, rfl⟩ | ⟨rfl, rfl⟩ | ⟨rfl, rfl⟩ | ⟨rfl, rfl⟩ | ⟨rfl, rfl⟩
  · exact h15
  · exact h16
  · exact h17
  · exact h13
  · exact h14
  · exact h5
  · exact h6
  · exact h7
  · exact h8
  · exact h9
  · exact h10
  · exact h11
  · exact h12
def WM2k : Word := fun o _ => match o.dst with
  | _ => none

def HM2k (wb mb : List UInt8) (clock born born2 first k : Nat) (taken : Int) (nv rv : Value) (o16 o17 : AObj) : AHeap := heapOf 20 5 ([(15, tops (k))] ++ [(16, o16)] ++ [(17, o17)] ++ (fileO 13 (wb)) ++ (fileO 18 (mb)) ++ (base [walE born, manE born2] clock (rv) ((first : Nat)) (S 15 k) ((wb.length : Nat)) (taken) (nv)))
def TM2k (wb mb : List UInt8) (clock born born2 first k : Nat) (taken : Int) (nv rv : Value) (o16 o17 : AObj) : List Bool := []
theorem runM2k (wb mb : List UInt8) (clock born born2 first k : Nat) (taken : Int) (nv rv : Value) (o16 o17 : AObj) :
  ((levO Tryz.prog extS WM2k 300).call 28 #[P 12] (HM2k wb mb clock born born2 first k taken nv rv o16 o17)).map (fun r => (r.1, r.2.1.gl, [15, 16, 17, 13, 14, 18, 19, 5, 6, 7, 8, 9, 10, 11, 12].map r.2.1.objs.get, r.2.2)) =
  some (.tuple #[.bool false, I 0], 5, [
    some (.cells (.open_ 1) (List.replicate (k) (.chan (some 0))) 57),
    some (o16),
    some (o17),
    some (.cells .own [S 14 (wb).length, I ((wb).length : Nat)] 143),
    some (.cells (.open_ 1) (byteVals (wb)) 5),
    some (.cells .own [S 19 (mb).length, I ((mb).length : Nat)] 143),
    some (.cells (.open_ 1) (byteVals (mb)) 5),
    some (.map [⟨.string "wal".toUTF8, P 13, born⟩, ⟨.string "manifest".toUTF8, P 18, born2⟩] clock),
    some (.cells .own [.map (some 5), I 1073741824, I (-1), .bool false] 140),
    some (.cells .own [.slice none 0 0, rv] 84),
    some (.cells .own [P 6, P 12, P 7, .pointer none, .bool false] 46),
    some (.cells .own [P 6, I ((first : Nat)), S 15 k, I ((wb.length : Nat)), .bool false] 219),
    some (.map [] 0),
    some (.cells .own [I 9223372036854775807, I 0, .map (some 10)] 216),
    some (.cells .own [P 6, P 9, P 11, .slice none 0 0, I 0, I (taken), nv, .map none, .bool false] 118)], TM2k wb mb clock born born2 first k taken nv rv o16 o17) := by kernel_rfl
theorem testsM2k (wb mb : List UInt8) (clock born born2 first k : Nat) (taken : Int) (nv rv : Value) (o16 o17 : AObj) (hw : 0 < wb.length) (hw2 : wb.length ≤ 1000000) (hm : 0 < mb.length) (hm2 : mb.length ≤ 10000) (hbo : born < clock) (hb2 : born2 < clock) (hbb : born ≠ born2) (hk0 : 0 < k) (hf : first ≤ 30) (hk : k ≤ 30) : allT (TM2k wb mb clock born born2 first k taken nv rv o16 o17) := fun b hb => absurd hb List.not_mem_nil
theorem keepM2k (wb mb : List UInt8) (clock born born2 first k : Nat) (taken : Int) (nv rv : Value) (o16 o17 : AObj) :
  ∃ K, (levO Tryz.prog extS WM2k 300).call 28 #[P 12] (HM2k wb mb clock born born2 first k taken nv rv o16 o17) = some (.tuple #[.bool false, I 0], K, TM2k wb mb clock born born2 first k taken nv rv o16 o17) ∧ K.gl = 5 ∧ ∀ i o, (HM2k wb mb clock born born2 first k taken nv rv o16 o17).objs.get i = some o → K.objs.get i = some o := by
  obtain ⟨⟨v, K, ts⟩, hc, h⟩ := Option.map_eq_some_iff.1 (runM2k wb mb clock born born2 first k taken nv rv o16 o17)
  simp only [Prod.mk.injEq, List.map_cons, List.map_nil, List.cons.injEq, and_true] at h
  obtain ⟨rfl, hgl, ⟨h15, h16, h17, h13, h14, h18, h19, h5, h6, h7, h8, h9, h10, h11, h12⟩, rfl⟩ := h
  refine ⟨K, hc, hgl, fun i o ho => ?_⟩
  have hm := heapOf_get ho
  simp only [base, fileO, walE, manE, tops, rowO, noneO, roO, List.cons_append, List.nil_append, List.mem_cons, List.not_mem_nil, or_false, Prod.mk.injEq] at hm
  rcases hm with ⟨rfl, rfl⟩ | ⟨rfl, rfl⟩ | ⟨rfl, rfl⟩ | ⟨rfl, rfl⟩ | ⟨rfl, rfl⟩ | ⟨rfl, rfl⟩ | ⟨rfl, rfl⟩ | ⟨rfl, rfl⟩ | ⟨rfl, rfl⟩ | ⟨rfl, rfl⟩ | ⟨rfl, rfl⟩ | ⟨rfl, rfl⟩ | ⟨rfl, rfl⟩ | ⟨rfl, rfl⟩ | ⟨rfl, rfl⟩
  · exact h15
  · exact h16
  · exact h17
  · exact h13
  · exact h14
  · exact h18
  · exact h19
  · exact h5
  · exact h6
  · exact h7
  · exact h8
  · exact h9
  · exact h10
  · exact h11
  · exact h12
def WR1k : Word := fun o _ => match o.dst with
  | some 37 => bif o.pos == "disk.go:186" then some 3 else none
  | some 39 => bif o.pos == "disk.go:186" then some 0 else none
  | _ => none

def HR1k (wb : List UInt8) (clock born first k : Nat) (taken : Int) (nv rv : Value) (o16 o17 : AObj) : AHeap := heapOf 20 5 ([(15, tops (k))] ++ [(16, o16)] ++ [(17, o17)] ++ (fileO 13 (wb)) ++ (base [walE born] clock (rv) ((first : Nat)) (S 15 k) ((wb.length : Nat)) (taken) (nv)))
def TR1k (wb : List UInt8) (clock born first k : Nat) (taken : Int) (nv rv : Value) (o16 o17 : AObj) : List Bool := [!decide ((wb.length : Int) - (wb.length : Int) > Int.ofNat 0),
  Nat.beq 14 14 && Nat.beq 0 0 && true && true && wb.length.beq wb.length && (2 * wb.length + 1).beq (2 * wb.length + 1) && true && (decide ((wb.length : Int) = (wb.length : Int)) && true && true),
  decide (IntKind.wrap .i64 ((wb.length : Int) - (wb.length : Int)) = (wb.length : Int) - (wb.length : Int)),
  bornT [born] clock]
theorem runR1k (wb : List UInt8) (clock born first k : Nat) (taken : Int) (nv rv : Value) (o16 o17 : AObj) :
  ((levO Tryz.prog extS WR1k 300).call 29 #[P 6, .slice none 0 0] (HR1k wb clock born first k taken nv rv o16 o17)).map (fun r => (r.1, r.2.1.gl, [15, 16, 17, 13, 14, 5, 6, 7, 8, 9, 10, 11, 12].map r.2.1.objs.get, r.2.2)) =
  some (.tuple #[], 5, [
    some (.cells (.open_ 1) (List.replicate (k) (.chan (some 0))) 57),
    some (o16),
    some (o17),
    some (.cells .own [S 14 (wb).length, I ((wb).length : Nat)] 143),
    some (.cells (.open_ 1) (byteVals (wb)) 5),
    some (.map [⟨.string "wal".toUTF8, P 13, born⟩] clock),
    some (.cells .own [.map (some 5), I 1073741824, I (-1), .bool false] 140),
    some (.cells .own [.slice none 0 0, rv] 84),
    some (.cells .own [P 6, P 12, P 7, .pointer none, .bool false] 46),
    some (.cells .own [P 6, I ((first : Nat)), S 15 k, I ((wb.length : Nat)), .bool false] 219),
    some (.map [] 0),
    some (.cells .own [I 9223372036854775807, I 0, .map (some 10)] 216),
    some (.cells .own [P 6, P 9, P 11, .slice none 0 0, I 0, I (taken), nv, .map none, .bool false] 118)], TR1k wb clock born first k taken nv rv o16 o17) := by kernel_rfl
theorem testsR1k (wb : List UInt8) (clock born first k : Nat) (taken : Int) (nv rv : Value) (o16 o17 : AObj) (hw : 0 < wb.length) (hw2 : wb.length ≤ 1000000) (hbo : born < clock) (hk0 : 0 < k) (hf : first ≤ 30) (hk : k ≤ 30) : allT (TR1k wb clock born first k taken nv rv o16 o17) := by
  intro b hb
  simp only [TR1k, List.mem_cons, List.not_mem_nil, or_false] at hb
  have e0 := wrap_a ((wb.length : Int) - (wb.length : Int))
  rcases hb with hb | hb | hb | hb <;> refine hb.trans ?_ <;> clear hb <;>
  first
  | with_reducible rfl
  | (unfold ltT; rw [decide_eq_true_eq]; (try simp only [Int.ofNat_eq_natCast]); omega)
  | (unfold bornT; simp <;> omega)
  | (simp only [e0, wrapM, decide_true, Bool.not_eq_true', decide_eq_true_eq, decide_eq_false_iff_not, Int.ofNat_eq_natCast, gt_iff_lt]; omega)
  | (simp only [Bool.and_eq_true, Bool.or_eq_true, Bool.not_eq_true', beq_t, beq_f, ble_t, ble_f, byteVals_length, oneCell_bytes, capLow, isOpen, len_F0, len_be, one_F0, one_be, len_hd0, one_hd0, len_manVs, one_manVs, len_manVl, one_manVl, List.length_append, List.all_append, List.length_replicate, decide_eq_true_eq, Int.ofNat_eq_natCast, and_true, true_and, or_true, List.length_cons, List.length_nil, List.all_cons, List.all_nil, oneCell, Int.toNat_natCast, List.length_take, List.length_drop, Bool.and_self, Bool.not_false, Bool.not_true]; omega)
  | (simp only [wrapM, Int.ofNat_eq_natCast, decide_eq_true_eq]; split <;> omega)
  | (simp only [e0, wrapM, Int.ofNat_eq_natCast, decide_eq_true_eq, gt_iff_lt]; (repeat' split) <;> omega)
  | (first | exact z1 (by omega) | exact z2 (by omega) | exact z3 (by omega) | exact z4 (by omega) | exact z5 (by omega) | exact z6 (by omega))
  | (simp [beq_t]; done)
  | rfl
theorem keepR1k (wb : List UInt8) (clock born first k : Nat) (taken : Int) (nv rv : Value) (o16 o17 : AObj) :
  ∃ K, (levO Tryz.prog extS WR1k 300).call 29 #[P 6, .slice none 0 0] (HR1k wb clock born first k taken nv rv o16 o17) = some (.tuple #[], K, TR1k wb clock born first k taken nv rv o16 o17) ∧ K.gl = 5 ∧ ∀ i o, (HR1k wb clock born first k taken nv rv o16 o17).objs.get i = some o → K.objs.get i = some o := by
  obtain ⟨⟨v, K, ts⟩, hc, h⟩ := Option.map_eq_some_iff.1 (runR1k wb clock born first k taken nv rv o16 o17)
  simp only [Prod.mk.injEq, List.map_cons, List.map_nil, List.cons.injEq, and_true] at h
  obtain ⟨rfl, hgl, ⟨h15, h16, h17, h13, h14, h5, h6, h7, h8, h9, h10, h11, h12⟩, rfl⟩ := h
  refine ⟨K, hc, hgl, fun i o ho => ?_⟩
  have hm := heapOf_get ho
  simp only [base, fileO, walE, manE, tops, rowO, noneO, roO, List.cons_append, List.nil_append, List.mem_cons, List.not_mem_nil, or_false, Prod.mk.injEq] at hm
  rcases hm with ⟨rfl, rfl⟩ | ⟨rfl, rfl⟩ | ⟨rfl, rfl⟩ | ⟨rfl, rfl⟩ | ⟨rfl, rfl⟩ | ⟨rfl, rfl⟩ | ⟨rfl, rfl⟩ | ⟨rfl, rfl⟩ | ⟨rfl, rfl⟩ | ⟨rfl, rfl⟩ | ⟨rfl, rfl⟩ | ⟨rfl, rfl⟩ | ⟨rfl, rfl⟩
  · exact h15
  · exact h16
  · exact h17
  · exact h13
  · exact h14
  · exact h5
  · exact h6
  · exact h7
  · exact h8
  · exact h9
  · exact h10
  · exact h11
  · exact h12
def WR2k : Word := fun o _ => match o.dst with
  | some 37 => bif o.pos == "disk.go:186" then some 3 else none
  | some 39 => bif o.pos == "disk.go:186" then some 0 else none
  | _ => none

def HR2k (wb mb : List UInt8) (clock born born2 first k : Nat) (taken : Int) (nv rv : Value) (o16 o17 : AObj) : AHeap := heapOf 20 5 ([(15, tops (k))] ++ [(16, o16)] ++ [(17, o17)] ++ (fileO 13 (wb)) ++ (fileO 18 (mb)) ++ (base [walE born, manE born2] clock (rv) ((first : Nat)) (S 15 k) ((wb.length : Nat)) (taken) (nv)))
def TR2k (wb mb : List UInt8) (clock born born2 first k : Nat) (taken : Int) (nv rv : Value) (o16 o17 : AObj) : List Bool := [!decide ((wb.length : Int) - (wb.length : Int) > Int.ofNat 0),
  Nat.beq 14 14 && Nat.beq 0 0 && true && true && wb.length.beq wb.length && (2 * wb.length + 1).beq (2 * wb.length + 1) && true && (decide ((wb.length : Int) = (wb.length : Int)) && true && true),
  decide (IntKind.wrap .i64 ((wb.length : Int) - (wb.length : Int)) = (wb.length : Int) - (wb.length : Int)),
  !decide ((mb.length : Int) - (mb.length : Int) > Int.ofNat 0),
  Nat.beq 19 19 && Nat.beq 0 0 && true && true && mb.length.beq mb.length && (2 * mb.length + 1).beq (2 * mb.length + 1) && true && (decide ((mb.length : Int) = (mb.length : Int)) && true && true),
  decide (IntKind.wrap .i64 ((mb.length : Int) - (mb.length : Int)) = (mb.length : Int) - (mb.length : Int)),
  bornT [born, born2] clock]
theorem runR2k (wb mb : List UInt8) (clock born born2 first k : Nat) (taken : Int) (nv rv : Value) (o16 o17 : AObj) :
  ((levO Tryz.prog extS WR2k 300).call 29 #[P 6, .slice none 0 0] (HR2k wb mb clock born born2 first k taken nv rv o16 o17)).map (fun r => (r.1, r.2.1.gl, [15, 16, 17, 13, 14, 18, 19, 5, 6, 7, 8, 9, 10, 11, 12].map r.2.1.objs.get, r.2.2)) =
  some (.tuple #[], 5, [
    some (.cells (.open_ 1) (List.replicate (k) (.chan (some 0))) 57),
    some (o16),
    some (o17),
    some (.cells .own [S 14 (wb).length, I ((wb).length : Nat)] 143),
    some (.cells (.open_ 1) (byteVals (wb)) 5),
    some (.cells .own [S 19 (mb).length, I ((mb).length : Nat)] 143),
    some (.cells (.open_ 1) (byteVals (mb)) 5),
    some (.map [⟨.string "wal".toUTF8, P 13, born⟩, ⟨.string "manifest".toUTF8, P 18, born2⟩] clock),
    some (.cells .own [.map (some 5), I 1073741824, I (-1), .bool false] 140),
    some (.cells .own [.slice none 0 0, rv] 84),
    some (.cells .own [P 6, P 12, P 7, .pointer none, .bool false] 46),
    some (.cells .own [P 6, I ((first : Nat)), S 15 k, I ((wb.length : Nat)), .bool false] 219),
    some (.map [] 0),
    some (.cells .own [I 9223372036854775807, I 0, .map (some 10)] 216),
    some (.cells .own [P 6, P 9, P 11, .slice none 0 0, I 0, I (taken), nv, .map none, .bool false] 118)], TR2k wb mb clock born born2 first k taken nv rv o16 o17) := by kernel_rfl
theorem testsR2k (wb mb : List UInt8) (clock born born2 first k : Nat) (taken : Int) (nv rv : Value) (o16 o17 : AObj) (hw : 0 < wb.length) (hw2 : wb.length ≤ 1000000) (hm : 0 < mb.length) (hm2 : mb.length ≤ 10000) (hbo : born < clock) (hb2 : born2 < clock) (hbb : born ≠ born2) (hk0 : 0 < k) (hf : first ≤ 30) (hk : k ≤ 30) : allT (TR2k wb mb clock born born2 first k taken nv rv o16 o17) := by
  intro b hb
  simp only [TR2k, List.mem_cons, List.not_mem_nil, or_false] at hb
  have e0 := wrap_a ((wb.length : Int) - (wb.length : Int))
  have e1 := wrap_a ((mb.length : Int) - (mb.length : Int))
  rcases hb with hb | hb | hb | hb | hb | hb | hb <;> refine hb.trans ?_ <;> clear hb <;>
  first
  | with_reducible rfl
  | (unfold ltT; rw [decide_eq_true_eq]; (try simp only [Int.ofNat_eq_natCast]); omega)
  | (unfold bornT; simp <;> omega)
  | (simp only [e0, e1, wrapM, decide_true, Bool.not_eq_true', decide_eq_true_eq, decide_eq_false_iff_not, Int.ofNat_eq_natCast, gt_iff_lt]; omega)
  | (simp only [Bool.and_eq_true, Bool.or_eq_true, Bool.not_eq_true', beq_t, beq_f, ble_t, ble_f, byteVals_length, oneCell_bytes, capLow, isOpen, len_F0, len_be, one_F0, one_be, len_hd0, one_hd0, len_manVs, one_manVs, len_manVl, one_manVl, List.length_append, List.all_append, List.length_replicate, decide_eq_true_eq, Int.ofNat_eq_natCast, and_true, true_and, or_true, List.length_cons, List.length_nil, List.all_cons, List.all_nil, oneCell, Int.toNat_natCast, List.length_take, List.length_drop, Bool.and_self, Bool.not_false, Bool.not_true]; omega)
  | (simp only [wrapM, Int.ofNat_eq_natCast, decide_eq_true_eq]; split <;> omega)
  | (simp only [e0, e1, wrapM, Int.ofNat_eq_natCast, decide_eq_true_eq, gt_iff_lt]; (repeat' split) <;> omega)
  | (first | exact z1 (by omega) | exact z2 (by omega) | exact z3 (by omega) | exact z4 (by omega) | exact z5 (by omega) | exact z6 (by omega))
  | (simp [beq_t]; done)
  | rfl
theorem keepR2k (wb mb : List UInt8) (clock born born2 first k : Nat) (taken : Int) (nv rv : Value) (o16 o17 : AObj) :
  ∃ K, (levO Tryz.prog extS WR2k 300).call 29 #[P 6, .slice none 0 0] (HR2k wb mb clock born born2 first k taken nv rv o16 o17) = some (.tuple #[], K, TR2k wb mb clock born born2 first k taken nv rv o16 o17) ∧ K.gl = 5 ∧ ∀ i o, (HR2k wb mb clock born born2 first k taken nv rv o16 o17).objs.get i = some o → K.objs.get i = some o := by
  obtain ⟨⟨v, K, ts⟩, hc, h⟩ := Option.map_eq_some_iff.1 (runR2k wb mb clock born born2 first k taken nv rv o16 o17)
  simp only [Prod.mk.injEq, List.map_cons, List.map_nil, List.cons.injEq, and_true] at h
  obtain ⟨rfl, hgl, ⟨h15, h16, h17, h13, h14, h18, h19, h5, h6, h7, h8, h9, h10, h11, h12⟩, rfl⟩ := h
  refine ⟨K, hc, hgl, fun i o ho => ?_⟩
  have hm := heapOf_get ho
  simp only [base, fileO, walE, manE, tops, rowO, noneO, roO, List.cons_append, List.nil_append, List.mem_cons, List.not_mem_nil, or_false, Prod.mk.injEq] at hm
  rcases hm with ⟨rfl, rfl⟩ | ⟨rfl, rfl⟩ | ⟨rfl, rfl⟩ | ⟨rfl, rfl⟩ | ⟨rfl, rfl⟩ | ⟨rfl, rfl⟩ | ⟨rfl, rfl⟩ | ⟨rfl, rfl⟩ | ⟨rfl, rfl⟩ | ⟨rfl, rfl⟩ | ⟨rfl, rfl⟩ | ⟨rfl, rfl⟩ | ⟨rfl, rfl⟩ | ⟨rfl, rfl⟩ | ⟨rfl, rfl⟩
  · exact h15
  · exact h16
  · exact h17
  · exact h13
  · exact h14
  · exact h18
  · exact h19
  · exact h5
  · exact h6
  · exact h7
  · exact h8
  · exact h9
  · exact h10
  · exact h11
  · exact h12
section
variable {N : Nat} {w0 w : World} {φ : Ren}
theorem vr_flush {χ : Ren} {v' : Value} (h : VR χ (.tuple #[.bool false, I 0]) v') : v' = .tuple #[.bool false, I 0] := by first | exact h.inj_bare 20 rfl | exact (h.inj_bare 20 rfl).symm
theorem vr_unit {χ : Ren} {v' : Value} (h : VR χ (.tuple #[]) v') : v' = .tuple #[] := by first | exact h.inj_bare 20 rfl | exact (h.inj_bare 20 rfl).symm
theorem plain_of {n g : Nat} {l : List (Nat × AObj)} (h : (l.all fun p => p.2.plain) = true) : ∀ i o, (heapOf n g l).objs.get i = some o → o.plain = true := fun _ _ ho => List.all_eq_true.1 h _ (heapOf_mem ho)
theorem flush1 {born clock k b b12 : Nat} {wb e : List UInt8} (h : At N w0 φ (hF1 born clock k wb e) w) (hb : φ 8 = some b) (h12 : φ 12 = some b12) (he5 : e.length ≤ 5000) (hw2 : wb.length ≤ 1000000) (hk0 : 0 < k) (hk : k ≤ 30) (hbo : born < clock) :
    Calls Tryz.prog 17 #[.pointer (some ⟨b12, 0, none⟩)] w fun r w' => r = .returned (.tuple #[.bool false, I 0]) ∧ ∃ ψ, At N w0 ψ (hFz born (clock + 1) (clock + 3) (0 + k) (hd (0 + k)) (man (0 + k) e) e) w' ∧ ψ 8 = some b := by
  cases e with
  | nil =>
    obtain ⟨K, hK, g⟩ := stepF1e wb clock born 0 k (0 : Nat) (eV 17 []) (eO []) (by omega) (VG.slice _ _ _ rfl) (OG.own _ LG.nil)
    exact fin ext_ok h rfl rfl (by kernel_rfl) hK (testsF1e wb clock born 0 k (0 : Nat) (eV 17 []) (eO []) hw2 hk0 (by omega) hbo) vr_flush (AR.one (.ptr h12)) g (by kernel_rfl) rfl hb
  | cons a e =>
    by_cases h64 : (a :: e).length < 64
    · obtain ⟨K, hK, g⟩ := stepF1s wb (a :: e) clock born 0 k (0 : Nat) (eV 17 (a :: e)) (eO (a :: e)) (by omega) (by simp) h64 (VG.slice _ _ _ rfl) (OG.open_ _ _ (LG.bytes _))
      exact fin ext_ok h rfl rfl (by kernel_rfl) hK (testsF1s wb (a :: e) clock born 0 k (0 : Nat) (eV 17 (a :: e)) (eO (a :: e)) hw2 hk0 (by omega) hbo (by simp) h64) vr_flush (AR.one (.ptr h12)) g (by kernel_rfl) rfl hb
    · obtain ⟨K, hK, g⟩ := stepF1l wb (a :: e) clock born 0 k (0 : Nat) (eV 17 (a :: e)) (eO (a :: e)) (by omega) (by omega) he5 (VG.slice _ _ _ rfl) (OG.open_ _ _ (LG.bytes _))
      exact fin ext_ok h rfl rfl (by kernel_rfl) hK (testsF1l wb (a :: e) clock born 0 k (0 : Nat) (eV 17 (a :: e)) (eO (a :: e)) hw2 hk0 (by omega) hbo (by omega) he5) vr_flush (AR.one (.ptr h12)) g (by kernel_rfl) rfl hb
theorem flush2 {born born2 clock first k b b12 : Nat} {wb mb e : List UInt8} (h : At N w0 φ (hF2 born born2 clock first k wb mb e) w) (hb : φ 8 = some b) (h12 : φ 12 = some b12) (he5 : e.length ≤ 5000) (hw2 : wb.length ≤ 1000000) (hk0 : 0 < k) (hk : k ≤ 30) (hbo : born < clock) (hb2 : born2 < clock) (hbb : born ≠ born2) (hm2 : mb.length ≤ 10000) (hf : first ≤ 30) :
    Calls Tryz.prog 17 #[.pointer (some ⟨b12, 0, none⟩)] w fun r w' => r = .returned (.tuple #[.bool false, I 0]) ∧ ∃ ψ, At N w0 ψ (hFz born born2 (clock + 2) (first + k) (hd (first + k)) (man (first + k) e) e) w' ∧ ψ 8 = some b := by
  cases e with
  | nil =>
    obtain ⟨K, hK, g⟩ := stepF2e wb mb clock born born2 first k (first : Nat) (eV 17 []) (eO []) (by omega) (VG.slice _ _ _ rfl) (OG.own _ LG.nil)
    exact fin ext_ok h rfl rfl (by kernel_rfl) hK (testsF2e wb mb clock born born2 first k (first : Nat) (eV 17 []) (eO []) hw2 hk0 (by omega) hbo hb2 hbb hm2) vr_flush (AR.one (.ptr h12)) g (by kernel_rfl) rfl hb
  | cons a e =>
    by_cases h64 : (a :: e).length < 64
    · obtain ⟨K, hK, g⟩ := stepF2s wb mb (a :: e) clock born born2 first k (first : Nat) (eV 17 (a :: e)) (eO (a :: e)) (by omega) (by simp) h64 (VG.slice _ _ _ rfl) (OG.open_ _ _ (LG.bytes _))
      exact fin ext_ok h rfl rfl (by kernel_rfl) hK (testsF2s wb mb (a :: e) clock born born2 first k (first : Nat) (eV 17 (a :: e)) (eO (a :: e)) hw2 hk0 (by omega) hbo hb2 hbb hm2 (by simp) h64) vr_flush (AR.one (.ptr h12)) g (by kernel_rfl) rfl hb
    · obtain ⟨K, hK, g⟩ := stepF2l wb mb (a :: e) clock born born2 first k (first : Nat) (eV 17 (a :: e)) (eO (a :: e)) (by omega) (by omega) he5 (VG.slice _ _ _ rfl) (OG.open_ _ _ (LG.bytes _))
      exact fin ext_ok h rfl rfl (by kernel_rfl) hK (testsF2l wb mb (a :: e) clock born born2 first k (first : Nat) (eV 17 (a :: e)) (eO (a :: e)) hw2 hk0 (by omega) hbo hb2 hbb hm2 (by omega) he5) vr_flush (AR.one (.ptr h12)) g (by kernel_rfl) rfl hb
theorem merge1 {born clock k b b12 : Nat} {wb e : List UInt8} (h : At N w0 φ (hF1 born clock k wb e) w) (hb : φ 8 = some b) (hp : φ 12 = some b12) (hw : 0 < wb.length) (hw2 : wb.length ≤ 1000000) (hk0 : 0 < k) (hk : k ≤ 30) (hbo : born < clock) :
    Calls Tryz.prog 28 #[.pointer (some ⟨b12, 0, none⟩)] w fun r w' => r = .returned (.tuple #[.bool false, I 0]) ∧ ∃ ψ, At N w0 ψ (hF1 born clock k wb e) w' ∧ ψ 8 = some b := by
  obtain ⟨K, hK, hgl, hs⟩ := keepM1k wb clock born 0 k (0 : Nat) (eV 16 e) (eV 17 e) (eO e) (eO e)
  have e1 : hF1 born clock k wb e = HM1k wb clock born 0 k (0 : Nat) (eV 16 e) (eV 17 e) (eO e) (eO e) := by kernel_rfl
  rw [e1] at h
  refine Calls.mono (h.call_same mixedO extS_ok hK (testsM1k wb clock born 0 k (0 : Nat) (eV 16 e) (eV 17 e) (eO e) (eO e) hw hw2 hbo hk0 (by omega) (by omega)) (AR.one (.ptr hp)) hgl.symm hs (plain_of (by cases e <;> kernel_rfl)) (show 5 ≤ 20 by decide) vr_flush) ?_
  rintro r w' ⟨h1, χ, h2, h3⟩
  exact ⟨h1, χ, by rw [e1]; exact h2, h3 8 b hb⟩
theorem merge2 {born born2 clock first k b b12 : Nat} {wb mb e : List UInt8} (h : At N w0 φ (hF2 born born2 clock first k wb mb e) w) (hb : φ 8 = some b) (hp : φ 12 = some b12) (hw : 0 < wb.length) (hw2 : wb.length ≤ 1000000) (hk0 : 0 < k) (hk : k ≤ 30) (hbo : born < clock) (hb2 : born2 < clock) (hbb : born ≠ born2) (hm : 0 < mb.length) (hm2 : mb.length ≤ 10000) (hf : first ≤ 30) :
    Calls Tryz.prog 28 #[.pointer (some ⟨b12, 0, none⟩)] w fun r w' => r = .returned (.tuple #[.bool false, I 0]) ∧ ∃ ψ, At N w0 ψ (hF2 born born2 clock first k wb mb e) w' ∧ ψ 8 = some b := by
  obtain ⟨K, hK, hgl, hs⟩ := keepM2k wb mb clock born born2 first k (first : Nat) (eV 16 e) (eV 17 e) (eO e) (eO e)
  have e1 : hF2 born born2 clock first k wb mb e = HM2k wb mb clock born born2 first k (first : Nat) (eV 16 e) (eV 17 e) (eO e) (eO e) := by kernel_rfl
  rw [e1] at h
  refine Calls.mono (h.call_same mixedO extS_ok hK (testsM2k wb mb clock born born2 first k (first : Nat) (eV 16 e) (eV 17 e) (eO e) (eO e) hw hw2 hm hm2 hbo hb2 hbb hk0 (by omega) (by omega)) (AR.one (.ptr hp)) hgl.symm hs (plain_of (by cases e <;> kernel_rfl)) (show 5 ≤ 20 by decide) vr_flush) ?_
  rintro r w' ⟨h1, χ, h2, h3⟩
  exact ⟨h1, χ, by rw [e1]; exact h2, h3 8 b hb⟩
theorem restart1 {born clock k b b12 : Nat} {wb e : List UInt8} (h : At N w0 φ (hF1 born clock k wb e) w) (hb : φ 8 = some b) (hp : φ 6 = some b12) (hw : 0 < wb.length) (hw2 : wb.length ≤ 1000000) (hk0 : 0 < k) (hk : k ≤ 30) (hbo : born < clock) :
    Calls Tryz.prog 29 #[.pointer (some ⟨b12, 0, none⟩), .slice none 0 0] w fun r w' => r = .returned (.tuple #[]) ∧ ∃ ψ, At N w0 ψ (hF1 born clock k wb e) w' ∧ ψ 8 = some b := by
  obtain ⟨K, hK, hgl, hs⟩ := keepR1k wb clock born 0 k (0 : Nat) (eV 16 e) (eV 17 e) (eO e) (eO e)
  have e1 : hF1 born clock k wb e = HR1k wb clock born 0 k (0 : Nat) (eV 16 e) (eV 17 e) (eO e) (eO e) := by kernel_rfl
  rw [e1] at h
  refine Calls.mono (h.call_same mixedO extS_ok hK (testsR1k wb clock born 0 k (0 : Nat) (eV 16 e) (eV 17 e) (eO e) (eO e) hw hw2 hbo hk0 (by omega) (by omega)) (AR.two (.ptr hp) .sliceNil) hgl.symm hs (plain_of (by cases e <;> kernel_rfl)) (show 5 ≤ 20 by decide) vr_unit) ?_
  rintro r w' ⟨h1, χ, h2, h3⟩
  exact ⟨h1, χ, by rw [e1]; exact h2, h3 8 b hb⟩
theorem restart2 {born born2 clock first k b b12 : Nat} {wb mb e : List UInt8} (h : At N w0 φ (hF2 born born2 clock first k wb mb e) w) (hb : φ 8 = some b) (hp : φ 6 = some b12) (hw : 0 < wb.length) (hw2 : wb.length ≤ 1000000) (hk0 : 0 < k) (hk : k ≤ 30) (hbo : born < clock) (hb2 : born2 < clock) (hbb : born ≠ born2) (hm : 0 < mb.length) (hm2 : mb.length ≤ 10000) (hf : first ≤ 30) :
    Calls Tryz.prog 29 #[.pointer (some ⟨b12, 0, none⟩), .slice none 0 0] w fun r w' => r = .returned (.tuple #[]) ∧ ∃ ψ, At N w0 ψ (hF2 born born2 clock first k wb mb e) w' ∧ ψ 8 = some b := by
  obtain ⟨K, hK, hgl, hs⟩ := keepR2k wb mb clock born born2 first k (first : Nat) (eV 16 e) (eV 17 e) (eO e) (eO e)
  have e1 : hF2 born born2 clock first k wb mb e = HR2k wb mb clock born born2 first k (first : Nat) (eV 16 e) (eV 17 e) (eO e) (eO e) := by kernel_rfl
  rw [e1] at h
  refine Calls.mono (h.call_same mixedO extS_ok hK (testsR2k wb mb clock born born2 first k (first : Nat) (eV 16 e) (eV 17 e) (eO e) (eO e) hw hw2 hm hm2 hbo hb2 hbb hk0 (by omega) (by omega)) (AR.two (.ptr hp) .sliceNil) hgl.symm hs (plain_of (by cases e <;> kernel_rfl)) (show 5 ≤ 20 by decide) vr_unit) ?_
  rintro r w' ⟨h1, χ, h2, h3⟩
  exact ⟨h1, χ, by rw [e1]; exact h2, h3 8 b hb⟩
end
def WO1n : Word := fun o _ => match o.dst with
  | some 4 => bif o.pos == "bytes.go:1392" then some 0 else none
  | some 7 => bif o.pos == "bytes.go:1395" then some 14 else none
  | some 16 => bif o.pos == "law.go:57" then some 0 else none
  | some 21 => bif o.pos == "law.go:57" then some 0 else none
  | some 22 => bif o.pos == "law.go:57" then some 1 else none
  | _ => none
noncomputable def HO1n (born clock : Nat) (es : List (List UInt8)) (e : List UInt8) : AHeap := heapOf 20 5 (disk96 [walE born] clock 0 (frms es) ++ [] ++ [(7, .cells .own [.slice none 0 0, S 17 e.length] 84), (17, rowO e), (8, .cells .own [P 6, P 12, P 7, .pointer none, .bool false] 46)])
noncomputable def TO1n (born clock : Nat) (es : List (List UInt8)) (e : List UInt8) : List Bool := [reRead e && true && (Nat.beq 17 17 && Nat.beq 0 0 && true && true && e.length.beq e.length && (2 * e.length + 1).beq (2 * e.length + 1) && (Nat.beq 17 17 && Nat.beq 0 0 && true && true && e.length.beq e.length && (2 * e.length + 1).beq (2 * e.length + 1) && true) && (reRead e && (reRead e && true) && true)),
  eqStr e,
  !e.length.beq 0 && ((List.take e.length (List.drop 0 (byteVals e))).length.beq e.length && (bytesL (List.take e.length (byteVals e))).isSome),
  !e.length.beq 0 && ((List.take e.length (byteVals e)).length.beq e.length && (bytesL (List.take e.length (byteVals e))).isSome),
  !e.length.beq 0 && (byteVals e).length.beq (0 + e.length) && (!(0 + e.length).ble (capLow (2 * 0)) && (((0 + e.length) * 2 * (1 + 1)).ble 140737488355328 && ((byteVals e).all oneCell && (byteVals e).length.beq (0 + e.length)))) && (!isOpen (2 * 0) && Nat.beq 0 0),
  true,
  twice (P 6),
  Nat.beq 5 5,
  twice (some (AObj.map [walE born] clock)),
  twice (some (AObj.cells .own [.map (some 5), I 1073741824, Value.int .i64 (Int.negSucc 0), .bool false] 140)),
  twice (some (AObj.cells .own [S 14 ((frms es).length + 12), I ((((frms es).length + 12) : Nat) : Int)] 143)),
  twice (some (AObj.cells (.open_ 1) (byteVals (hd 0 ++ frms es)) 5))]
theorem runO1n (born clock : Nat) (es : List (List UInt8)) (e : List UInt8) :
  ((levO Tryz.prog (extS.with [conE [walE born] clock 0 0 es (.slice (some ⟨23, 0, none⟩) e.length (2 * e.length + 1)) (.cells (.open_ 1) (byteVals e) 5) ([])]) WO1n 300).call 30 #[P 8, .slice none 0 0] (HO1n born clock es e)).map (fun r => (r.1, r.2.1.gl, [24, 23, 17, 13, 14, 5, 6, 7, 8, 20, 25, 26, 27].map r.2.1.objs.get, r.2.2)) =
  some (.bool true, 5, [
    some (.cells (.open_ 1) (ents ((frms es).length + 12) 12 es) 57),
    some (.cells (.open_ 1) (byteVals (e)) 5),
    some (.cells (.open_ 1) (byteVals (e)) 5),
    some (.cells .own [S 14 ((frms es).length + 12), I ((((frms es).length + 12) : Nat) : Int)] 143),
    some (.cells (.open_ 1) (byteVals (hd 0 ++ frms es)) 5),
    some (.map [⟨.string "wal".toUTF8, P 13, born⟩] clock),
    some (.cells .own [.map (some 5), I 1073741824, I (-1), .bool false] 140),
    some (.cells .own [.slice none 0 0, S 17 e.length] 84),
    some (.cells .own [P 6, P 27, P 7, .pointer none, .bool false] 46),
    some (.cells .own [P 6, I (0), S 24 es.length, I ((((frms es).length + 12) : Nat) : Int), .bool false] 219),
    some (.map [] 0),
    some (.cells .own [I 9223372036854775807, I 0, .map (some 25)] 216),
    some (.cells .own [P 6, P 20, P 26, .slice none 0 0, I 0, I (0), S 23 e.length, .map none, .bool false] 118)], TO1n born clock es e) := by kernel_rfl
theorem testsO1n (born clock : Nat) (es : List (List UInt8)) (e : List UInt8) (h0 : 0 < e.length) (h5 : e.length ≤ 5000) : allT (TO1n born clock es e) := by
  intro b hb
  simp only [TO1n, List.mem_cons, List.not_mem_nil, or_false] at hb
  rcases hb with hb | hb | hb | hb | hb | hb | hb | hb | hb | hb | hb | hb <;> refine hb.trans ?_ <;> clear hb <;> 
  first
  | with_reducible rfl
  | with_reducible exact isSame_refl _
  | with_reducible exact twice_ok _
  | exact eqStr_ok _
  | (simp only [reRead_ok h0, Nat.beq_refl, Bool.and_self]; done)
  | (simp only [bytesL_byteVals, take_byteVals, List.drop_zero, Bool.and_eq_true, Bool.not_eq_true', beq_t, beq_f, byteVals_length, Option.isSome_some, and_true]; omega)
  | (unfold ltT; rw [decide_eq_true_eq]; (try simp only [Int.ofNat_eq_natCast]); omega)
  | (unfold bornT; simp <;> omega)
  | (simp only [wrapM, decide_true, Bool.not_eq_true', decide_eq_true_eq, decide_eq_false_iff_not, Int.ofNat_eq_natCast, gt_iff_lt]; omega)
  | (simp only [bun, capLow, isOpen, oneCell]; omega)
  | (simp only [wrapM, Int.ofNat_eq_natCast, decide_eq_true_eq]; split <;> omega)
  | (simp only [wrapM, Int.ofNat_eq_natCast, decide_eq_true_eq, gt_iff_lt]; (repeat' split) <;> omega)
  | (first | exact z1 (by omega) | exact z2 (by omega) | exact z3 (by omega) | exact z4 (by omega) | exact z5 (by omega) | exact z6 (by omega))
  | (simp [beq_t]; done)
  | rfl
theorem stepO1n (born clock : Nat) (es : List (List UInt8)) (e : List UInt8)  :
  ∃ K, (levO Tryz.prog (extS.with [conE [walE born] clock 0 0 es (.slice (some ⟨23, 0, none⟩) e.length (2 * e.length + 1)) (.cells (.open_ 1) (byteVals e) 5) ([])]) WO1n 300).call 30 #[P 8, .slice none 0 0] (HO1n born clock es e) = some (.bool true, K, TO1n born clock es e) ∧
    Gen (pairs 5 [(15, 24), (16, 23), (17, 17), (13, 13), (14, 14), (5, 5), (6, 6), (7, 7), (8, 8), (9, 20), (10, 25), (11, 26), (12, 27)]) K (heapOf 20 5 ([(15, tops (es.length))] ++ [(16, rowO (e))] ++ [(17, rowO (e))] ++ (fileO 13 (hd 0 ++ frms es)) ++ (base [walE born] clock (S 17 e.length) (0) (S 15 es.length) (((hd 0 ++ frms es).length : Nat)) (0) (S 16 e.length)))) := by
  obtain ⟨⟨v, K, ts⟩, hc, h⟩ := Option.map_eq_some_iff.1 (runO1n born clock es e)
  simp only [Prod.mk.injEq, List.map_cons, List.map_nil, List.cons.injEq, and_true] at h
  obtain ⟨rfl, hgl, ⟨h24, h23, h17, h13, h14, h5, h6, h7, h8, h20, h25, h26, h27⟩, rfl⟩ := h
  refine ⟨K, hc, Gen.of_pairs hgl (by decide) ?_⟩
  intro x hm
  simp only [base, fileO, walE, manE, tops, rowO, noneO, List.cons_append, List.nil_append, List.mem_cons, List.not_mem_nil, or_false] at hm
  rcases hm with rfl | rfl | rfl | rfl | rfl | rfl | rfl | rfl | rfl | rfl | rfl | rfl | rfl
  · refine fit rfl h24 (OG.open_ _ _ ?_) rfl sameFl
    exact ents_tops _ _ _
  · refine fit rfl h23 (OG.open_ _ _ ?_) rfl sameFl
    exact LG.bytes _
  · refine fit rfl h17 (OG.open_ _ _ ?_) rfl sameFl
    exact LG.bytes _
  · refine fit rfl h13 (OG.own _ ?_) rfl sameFl
    rw [hlen]
    exact LS.ok (by repeat' constructor)
  · refine fit rfl h14 (OG.open_ _ _ ?_) rfl sameFl
    exact LG.bytes _
  · exact fit rfl h5 (OG.map1 (VG.string _) (VG.ptr _ rfl)) rfl noFl
  · refine fit rfl h6 (OG.own _ ?_) rfl sameFl
    exact LS.ok (by repeat' constructor)
  · refine fit rfl h7 (OG.own _ ?_) rfl sameFl
    exact LS.ok (by repeat' constructor)
  · refine fit rfl h8 (OG.own _ ?_) rfl sameFl
    exact LS.ok (by repeat' constructor)
  · refine fit rfl h20 (OG.own _ ?_) rfl sameFl
    rw [hlen]
    exact LS.ok (by repeat' constructor)
  · exact fit rfl h25 OG.map0 rfl noFl
  · refine fit rfl h26 (OG.own _ ?_) rfl sameFl
    exact LS.ok (by repeat' constructor)
  · refine fit rfl h27 (OG.own _ ?_) rfl sameFl
    exact LS.ok (by repeat' constructor)
end Go.Proofs.YtabpbpdhapaffaaGreatDoor
end
