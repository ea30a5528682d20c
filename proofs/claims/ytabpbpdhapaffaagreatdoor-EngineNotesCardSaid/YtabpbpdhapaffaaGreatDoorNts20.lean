/-
  EngineNotes returns true whatever the notes and what stands between them, part 20: GrN1knz, GrN1ken, GrN1kee, GrN1kez, GrN2knn. Conditions: none but those of the row.
-/
import Derived.Test.YtabpbpdhapaffaaGreatDoorNts19
set_option linter.unusedSimpArgs false
set_option linter.unusedVariables false
section
set_option maxRecDepth 100000
namespace Go.Proofs.YtabpbpdhapaffaaGreatDoor
open Go.Vi
def WN1knz : Word := fun o _ => match o.dst with
  | some 14 => bif o.pos == "ref.go:19" then some 14 else bif o.pos == "wal.go:98" then some 2 else none
  | some 25 => bif o.pos == "engine.go:218" then some 3 else none
  | some 26 => bif o.pos == "engine.go:218" then some 0 else none
  | some 28 => bif o.pos == "wal.go:118" then some 0 else none
  | some 47 => bif o.pos == "disk.go:76" then some 3 else none
  | some 48 => bif o.pos == "disk.go:76" then some 0 else none
  | some 49 => bif o.pos == "disk.go:76" then some 0 else none
  | some 50 => bif o.pos == "wal.go:141" then some 2 else none
  | some 51 => bif o.pos == "wal.go:124" then some 12 else none
  | some 58 => bif o.pos == "disk.go:77" then some 12 else none
  | _ => none

def HN1knz (wb rb : List UInt8) (clock born k : Nat) (first taken : Int) (nv : Value) (o16 : AObj) : AHeap := heapOf 20 5 ([(15, tops (k))] ++ [(17, rowO (rb))] ++ (fileO 13 (wb)) ++ [(16, o16)] ++ (base [walE born] clock (S 17 rb.length) (first) (S 15 k) ((wb.length : Nat)) (taken) (nv)))
def TN1knz (wb rb : List UInt8) (clock born k : Nat) (first taken : Int) (nv : Value) (o16 : AObj) : List Bool := [true,
  Nat.beq 15 15 && Nat.beq 0 0 && true && true && k.beq k && (2 * k + 1).beq (2 * k + 1) && (Nat.beq 15 15 && Nat.beq 0 0 && true && true && k.beq k && (2 * k + 1).beq (2 * k + 1) && true) && true,
  !Nat.beq 1 0 && [Value.slice (some { block := 34, off := 0 }) 1 3].length.beq (1 * 1) && (!(k + 1).ble (capLow (2 * k + 1)) && (((k + 1) * 2 * (24 + 1)).ble 140737488355328 && ([Value.slice (some { block := 34, off := 0 }) 1 3].all oneCell && [Value.slice (some { block := 34, off := 0 }) 1 3].length.beq (1 * 1)))) && (isOpen (2 * k + 1) && (Nat.beq 0 0 && ((List.replicate k (Value.chan (some 0))).length.beq (k * 1) && (Nat.beq 1 1 && (!Nat.beq 1 0 && Nat.beq 57 57))))),
  decide (IntKind.wrap .i64 (Int.ofNat (wb.length + (4 + (1 + 0)))) = Int.ofNat (wb.length + (4 + (1 + 0)))),
  Nat.beq 14 14 && Nat.beq 0 0 && true && true && wb.length.beq wb.length && (2 * wb.length + 1).beq (2 * wb.length + 1) && true && true,
  !(5 - 0).beq 0 && [Value.int .u8 (Int.ofNat 0), Value.int .u8 (Int.ofNat 0), Value.int .u8 (Int.ofNat 0), Value.int .u8 (Int.ofNat 1), Value.int .u8 (Int.ofNat 6)].length.beq ((5 - 0) * 1) && (!(wb.length + (4 + (1 + 0))).ble (capLow (2 * wb.length + 1)) && (((wb.length + (4 + (1 + 0))) * 2 * (1 + 1)).ble 140737488355328 && ([Value.int .u8 (Int.ofNat 0), Value.int .u8 (Int.ofNat 0), Value.int .u8 (Int.ofNat 0), Value.int .u8 (Int.ofNat 1), Value.int .u8 (Int.ofNat 6)].all oneCell && [Value.int .u8 (Int.ofNat 0), Value.int .u8 (Int.ofNat 0), Value.int .u8 (Int.ofNat 0), Value.int .u8 (Int.ofNat 1), Value.int .u8 (Int.ofNat 6)].length.beq ((5 - 0) * 1)))) && (isOpen (2 * wb.length + 1) && (Nat.beq 0 0 && ((byteVals wb).length.beq (wb.length * 1) && (Nat.beq 1 1 && (!Nat.beq 1 0 && Nat.beq 5 5))))),
  true,
  decide ((if 1073741824 - (0 + (wb.length : Int)) < ((((Int.ofNat 4).toNat + (0 + (0 + 1) + 0)) : Nat) : Int) then 1073741824 - (0 + (wb.length : Int)) else ((((Int.ofNat 4).toNat + (0 + (0 + 1) + 0)) : Nat) : Int)) = Int.ofNat 5),
  decide ((if Int.ofNat 0 > 1073741824 - (0 + (wb.length : Int)) then Int.ofNat 0 else 1073741824 - (0 + (wb.length : Int))) = 1073741824 - (0 + (wb.length : Int))),
  decide (IntKind.wrap .i64 (1073741824 - (0 + (wb.length : Int))) = 1073741824 - (0 + (wb.length : Int))),
  bornT [born] clock,
  ltT (0 + (wb.length : Int)) (Int.ofNat 1073741824),
  !decide ((wb.length : Int) = Int.ofNat 0),
  true,
  !decide (first + (k : Int) - first > Int.ofNat 256),
  decide (IntKind.wrap .i64 (first + (k : Int) - first) = first + (k : Int) - first),
  decide (first = first) && true && (Nat.beq 15 15 && Nat.beq 0 0 && true && true && k.beq k && (2 * k + 1).beq (2 * k + 1) && true && true),
  decide (IntKind.wrap .i64 (first + (k : Int)) = first + (k : Int)),
  true,
  Nat.beq 17 17 && Nat.beq 0 0 && true && true && rb.length.beq rb.length && (2 * rb.length + 1).beq (2 * rb.length + 1) && (Nat.beq 17 17 && Nat.beq 0 0 && true && true && rb.length.beq rb.length && (2 * rb.length + 1).beq (2 * rb.length + 1) && true) && true,
  !rb.length.beq 0 && (byteVals rb).length.beq (rb.length * 1) && (!(0 + rb.length).ble (capLow (2 * 0)) && (((0 + rb.length) * 2 * (1 + 1)).ble 140737488355328 && ((byteVals rb).all oneCell && (byteVals rb).length.beq (rb.length * 1)))) && (!isOpen (2 * 0) && Nat.beq 0 0)]
theorem runN1knz (wb rb : List UInt8) (clock born k : Nat) (first taken : Int) (nv : Value) (o16 : AObj) :
  ((levO Tryz.prog ext WN1knz 300).call 24 #[P 8, opV (.slice none 0 0)] (HN1knz wb rb clock born k first taken nv o16)).map (fun r => (r.1, r.2.1.gl, [36, 38, 39, 13, 32, 5, 6, 24, 8, 9, 10, 11, 12].map r.2.1.objs.get, r.2.2)) =
  some (.bool true, 5, [
    some (.cells (.open_ 1) (List.replicate k (.chan (some 0)) ++ [S 34 (1 + 0)]) 57),
    some (.cells .own [] 5),
    some (.cells .own [] 5),
    some (.cells .own [S 32 (wb.length + (4 + (1 + 0))), I ((wb.length + (4 + (1 + 0))) : Nat)] 143),
    some (.cells (.open_ 1) (byteVals wb ++ (be (Int.ofNat (1 + 0)) ++ F0 ([] : List UInt8))) 5),
    some (.map [⟨.string "wal".toUTF8, P 13, born⟩] clock),
    some (.cells .own [.map (some 5), I 1073741824, I (-1), .bool false] 140),
    some (.cells .own [.slice none 0 0, E 39] 84),
    some (.cells .own [P 6, P 12, P 24, .pointer none, .bool false] 46),
    some (.cells .own [P 6, I first, S 36 (k + 1), I ((wb.length + (4 + (1 + 0))) : Nat), .bool false] 219),
    some (.map [] 0),
    some (.cells .own [I 9223372036854775807, I 0, .map (some 10)] 216),
    some (.cells .own [P 6, P 9, P 11, .slice none 0 0, I 0, I (taken), E 38, .map none, .bool false] 118)], TN1knz wb rb clock born k first taken nv o16) := by kernel_rfl
theorem testsN1knz (wb rb : List UInt8) (clock born k : Nat) (first taken : Int) (nv : Value) (o16 : AObj) (hw : 0 < wb.length) (hw2 : wb.length ≤ 1000000) (hr : 0 < rb.length) (hr2 : rb.length ≤ 5000) (hbo : born < clock) (hk0 : 0 < k) (hk : k ≤ 30) (h0 : 0 ≤ first) (h1 : first ≤ 30) : allT (TN1knz wb rb clock born k first taken nv o16) := by
  intro b hb
  simp only [TN1knz, List.mem_cons, List.not_mem_nil, or_false] at hb
  have e0 := wrap_a (Int.ofNat (wb.length + (4 + (1 + 0))))
  have e1 := wrap_a (1073741824 - (0 + (wb.length : Int)))
  have e2 := wrap_a (first + (k : Int) - first)
  have e3 := wrap_a (first + (k : Int))
  rcases hb with hb | hb | hb | hb | hb | hb | hb | hb | hb | hb | hb | hb | hb | hb | hb | hb | hb | hb | hb | hb | hb <;> refine hb.trans ?_ <;> clear hb <;> 
  first
  | with_reducible rfl
  | with_reducible exact isSame_refl _
  | (unfold ltT; rw [decide_eq_true_eq]; (try simp only [Int.ofNat_eq_natCast]); omega)
  | (unfold bornT; simp <;> omega)
  | (simp only [e0, e1, e2, e3, wrapM, decide_true, Bool.not_eq_true', decide_eq_true_eq, decide_eq_false_iff_not, Int.ofNat_eq_natCast, gt_iff_lt]; omega)
  | (simp only [bun, capLow, isOpen, oneCell]; omega)
  | (simp only [wrapM, Int.ofNat_eq_natCast, decide_eq_true_eq]; split <;> omega)
  | (simp only [e0, e1, e2, e3, wrapM, Int.ofNat_eq_natCast, decide_eq_true_eq, gt_iff_lt]; (repeat' split) <;> omega)
  | (first | exact z1 (by omega) | exact z2 (by omega) | exact z3 (by omega) | exact z4 (by omega) | exact z5 (by omega) | exact z6 (by omega))
  | (simp [beq_t]; done)
  | rfl
theorem stepN1knz (wb rb : List UInt8) (clock born k : Nat) (first taken : Int) (nv : Value) (o16 : AObj)  :
  ∃ K, (levO Tryz.prog ext WN1knz 300).call 24 #[P 8, opV (.slice none 0 0)] (HN1knz wb rb clock born k first taken nv o16) = some (.bool true, K, TN1knz wb rb clock born k first taken nv o16) ∧
    Gen (pairs 5 [(15, 36), (16, 38), (17, 39), (13, 13), (14, 32), (5, 5), (6, 6), (7, 24), (8, 8), (9, 9), (10, 10), (11, 11), (12, 12)]) K (heapOf 20 5 ([(15, tops (k + 1))] ++ [(16, noneO)] ++ [(17, noneO)] ++ (fileO 13 (more wb ([] : List UInt8))) ++ (base [walE born] clock (E 17) (first) (S 15 (k + 1)) (((more wb ([] : List UInt8)).length : Nat)) (taken) (E 16)))) := by
  obtain ⟨⟨v, K, ts⟩, hc, h⟩ := Option.map_eq_some_iff.1 (runN1knz wb rb clock born k first taken nv o16)
  simp only [Prod.mk.injEq, List.map_cons, List.map_nil, List.cons.injEq, and_true] at h
  obtain ⟨rfl, hgl, ⟨h36, h38, h39, h13, h32, h5, h6, h24, h8, h9, h10, h11, h12⟩, rfl⟩ := h
  refine ⟨K, hc, Gen.of_pairs hgl (by decide) ?_⟩
  intro x hm
  simp only [base, fileO, walE, manE, tops, rowO, noneO, List.cons_append, List.nil_append, List.mem_cons, List.not_mem_nil, or_false] at hm
  rcases hm with rfl | rfl | rfl | rfl | rfl | rfl | rfl | rfl | rfl | rfl | rfl | rfl | rfl
  · refine fit rfl h36 (OG.open_ _ _ ?_) rfl sameFl
    exact tops_snoc _ _ rfl
  · refine fit rfl h38 (OG.own _ ?_) rfl sameFl
    exact LS.ok (by repeat' constructor)
  · refine fit rfl h39 (OG.own _ ?_) rfl sameFl
    exact LS.ok (by repeat' constructor)
  · refine fit rfl h13 (OG.own _ ?_) rfl sameFl
    rw [more_length]
    exact LS.ok (by repeat' constructor)
  · refine fit rfl h32 (OG.open_ _ _ ?_) rfl sameFl
    rw [show byteVals wb ++ (be (Int.ofNat (1 + 0)) ++ F0 []) = byteVals (more wb []) from (more_vals wb []).symm]
    exact LG.bytes _
  · exact fit rfl h5 (OG.map1 (VG.string _) (VG.ptr _ rfl)) rfl noFl
  · refine fit rfl h6 (OG.own _ ?_) rfl sameFl
    exact LS.ok (by repeat' constructor)
  · refine fit rfl h24 (OG.own _ ?_) rfl sameFl
    exact LS.ok (by repeat' constructor)
  · refine fit rfl h8 (OG.own _ ?_) rfl sameFl
    exact LS.ok (by repeat' constructor)
  · refine fit rfl h9 (OG.own _ ?_) rfl sameFl
    rw [more_length]
    exact LS.ok (by repeat' constructor)
  · exact fit rfl h10 OG.map0 rfl noFl
  · refine fit rfl h11 (OG.own _ ?_) rfl sameFl
    exact LS.ok (by repeat' constructor)
  · refine fit rfl h12 (OG.own _ ?_) rfl sameFl
    exact LS.ok (by repeat' constructor)
def WN1ken : Word := fun o _ => match o.dst with
  | some 4 => bif o.pos == "bytes.go:1392" then some 0 else none
  | some 7 => bif o.pos == "bytes.go:1395" then some 14 else bif o.pos == "wal.go:48" then some 13 else none
  | some 10 => bif o.pos == "bits.go:107" then some 1 else none
  | some 12 => bif o.pos == "bits.go:107" then some 0 else none
  | some 13 => bif o.pos == "bits.go:107" then some 0 else none
  | some 14 => bif o.pos == "wal.go:98" then some 2 else none
  | some 16 => bif o.pos == "engine.go:366" then some 0 else none
  | some 18 => bif o.pos == "wal.go:114" then some 0 else none
  | some 19 => bif o.pos == "engine.go:123" then some 0 else none
  | some 22 => bif o.pos == "wal.go:114" then some 0 else none
  | some 25 => bif o.pos == "engine.go:218" then some 3 else none
  | some 26 => bif o.pos == "engine.go:218" then some 0 else none
  | some 27 => bif o.pos == "engine.go:371" then some 12 else none
  | some 28 => bif o.pos == "wal.go:118" then some 0 else none
  | some 38 => bif o.pos == "engine.go:223" then some 0 else none
  | some 47 => bif o.pos == "disk.go:76" then some 3 else none
  | some 48 => bif o.pos == "disk.go:76" then some 0 else none
  | some 49 => bif o.pos == "disk.go:76" then some 0 else none
  | some 50 => bif o.pos == "wal.go:141" then some 2 else none
  | some 51 => bif o.pos == "wal.go:124" then some 12 else none
  | some 57 => bif o.pos == "disk.go:77" then some 0 else none
  | some 58 => bif o.pos == "disk.go:77" then some 12 else none
  | some 64 => bif o.pos == "disk.go:78" then some 0 else none
  | some 90 => bif o.pos == "law.go:116" then some 1 else none
  | some 95 => bif o.pos == "law.go:117" then some 14 else none
  | _ => none

def HN1ken (c : List Value) (wb xb : List UInt8) (p te xc clock born k : Nat) (first taken : Int) (nv : Value) (o16 : AObj) : AHeap := heapOf 21 5 ([(20, .cells .ro c te)] ++ [(15, tops (k))] ++ [(17, noneO)] ++ (fileO 13 (wb)) ++ [(16, o16)] ++ (base [walE born] clock (E 17) (first) (S 15 k) ((wb.length : Nat)) (taken) (nv)))
def TN1ken (c : List Value) (wb xb : List UInt8) (p te xc clock born k : Nat) (first taken : Int) (nv : Value) (o16 : AObj) : List Bool := [!xb.length.beq 0 && (List.drop p c).length.beq (xb.length * 1) && (!(0 + xb.length).ble (capLow (2 * 0)) && (((0 + xb.length) * 2 * (1 + 1)).ble 140737488355328 && ((List.drop p c).all oneCell && (List.drop p c).length.beq (xb.length * 1)))) && (!isOpen (2 * 0) && Nat.beq 0 0),
  decide ((xb.length : Int) ≤ Int.ofNat 1048576),
  Nat.beq 20 20 && p.beq p && true && true && xb.length.beq xb.length && (2 * xc).beq (2 * xc) && true && true,
  !(1 + xb.length - 1).beq 0 && (List.drop p c).length.beq ((1 + xb.length - 1) * 1) && (!(0 + (1 + xb.length - 1)).ble (capLow (2 * 0)) && (((0 + (1 + xb.length - 1)) * 2 * (1 + 1)).ble 140737488355328 && ((List.drop p c).all oneCell && (List.drop p c).length.beq ((1 + xb.length - 1) * 1)))) && (!isOpen (2 * 0) && Nat.beq 0 0),
  true,
  true && (true && (true && ((1 + xb.length).ble (capLow (2 * (1 + xb.length) + 1)) && (Nat.ble 1 (1 + xb.length) && ((!isOpen (2 * (1 + xb.length) + 1) && true || !Nat.beq 1 0) && !(capLow (2 * (1 + xb.length) + 1)).beq 1))))),
  isIntIn .u8 (some (Value.int .u8 (Int.ofNat 6))),
  true && decide (Int.ofNat 0 < Int.ofNat (1 + xb.length)),
  decide (Int.ofNat 0 < Int.ofNat (1 + xb.length)),
  Nat.beq 15 15 && Nat.beq 0 0 && true && true && k.beq k && (2 * k + 1).beq (2 * k + 1) && (Nat.beq 15 15 && Nat.beq 0 0 && true && true && k.beq k && (2 * k + 1).beq (2 * k + 1) && true) && true,
  !Nat.beq 1 0 && [Value.slice (some { block := 35, off := 0 }) (1 + xb.length) (2 * (1 + xb.length) + 1)].length.beq (1 * 1) && (!(k + 1).ble (capLow (2 * k + 1)) && (((k + 1) * 2 * (24 + 1)).ble 140737488355328 && ([Value.slice (some { block := 35, off := 0 }) (1 + xb.length) (2 * (1 + xb.length) + 1)].all oneCell && [Value.slice (some { block := 35, off := 0 }) (1 + xb.length) (2 * (1 + xb.length) + 1)].length.beq (1 * 1)))) && (isOpen (2 * k + 1) && (Nat.beq 0 0 && ((List.replicate k (Value.chan (some 0))).length.beq (k * 1) && (Nat.beq 1 1 && (!Nat.beq 1 0 && Nat.beq 57 57))))),
  !(1 + xb.length).beq 0 && (F1 (List.drop p c)).length.beq ((1 + xb.length) * 1) && (!(0 + (1 + xb.length)).ble (capLow (2 * 0)) && (((0 + (1 + xb.length)) * 2 * (1 + 1)).ble 140737488355328 && ((F1 (List.drop p c)).all oneCell && (F1 (List.drop p c)).length.beq ((1 + xb.length) * 1)))) && (!isOpen (2 * 0) && Nat.beq 0 0),
  true,
  decide (IntKind.wrap .i64 (Int.ofNat (wb.length + (4 + (1 + xb.length)))) = Int.ofNat (wb.length + (4 + (1 + xb.length)))),
  !decide (Int.ofNat (4 + (1 + xb.length)) < Int.ofNat (4 + (1 + xb.length))),
  Nat.beq 14 14 && Nat.beq 0 0 && true && true && wb.length.beq wb.length && (2 * wb.length + 1).beq (2 * wb.length + 1) && true && true,
  !(4 + (1 + xb.length)).beq 0 && (be (Int.ofNat (1 + xb.length)) ++ F1 (List.drop p c)).length.beq ((4 + (1 + xb.length)) * 1) && (!(wb.length + (4 + (1 + xb.length))).ble (capLow (2 * wb.length + 1)) && (((wb.length + (4 + (1 + xb.length))) * 2 * (1 + 1)).ble 140737488355328 && ((be (Int.ofNat (1 + xb.length)) ++ F1 (List.drop p c)).all oneCell && (be (Int.ofNat (1 + xb.length)) ++ F1 (List.drop p c)).length.beq ((4 + (1 + xb.length)) * 1)))) && (isOpen (2 * wb.length + 1) && (Nat.beq 0 0 && ((byteVals wb).length.beq (wb.length * 1) && (Nat.beq 1 1 && (!Nat.beq 1 0 && Nat.beq 5 5))))),
  true && (true && (true && ((4 + (1 + xb.length)).ble (capLow (2 * (4 + (1 + xb.length)) + 1)) && (Nat.ble 0 (4 + (1 + xb.length)) && ((!isOpen (2 * (4 + (1 + xb.length)) + 1) || Nat.beq 0 0 || !Nat.beq 1 0) && !(capLow (2 * (4 + (1 + xb.length)) + 1)).beq 0))))),
  true,
  decide ((if 1073741824 - (0 + (wb.length : Int)) < Int.ofNat (4 + (1 + xb.length)) then 1073741824 - (0 + (wb.length : Int)) else Int.ofNat (4 + (1 + xb.length))) = Int.ofNat (4 + (1 + xb.length))),
  decide ((if Int.ofNat 0 > 1073741824 - (0 + (wb.length : Int)) then Int.ofNat 0 else 1073741824 - (0 + (wb.length : Int))) = 1073741824 - (0 + (wb.length : Int))),
  decide (IntKind.wrap .i64 (1073741824 - (0 + (wb.length : Int))) = 1073741824 - (0 + (wb.length : Int))),
  bornT [born] clock,
  ltT (0 + (wb.length : Int)) (Int.ofNat 1073741824),
  !(1 + xb.length).beq 0 && (F1 (List.drop p c)).length.beq ((1 + xb.length) * 1) && (!(4 + (1 + xb.length)).ble (capLow (2 * (Int.ofNat 4).toNat)) && (((4 + (1 + xb.length)) * 2 * (1 + 1)).ble 140737488355328 && ((F1 (List.drop p c)).all oneCell && (F1 (List.drop p c)).length.beq ((1 + xb.length) * 1)))) && (!isOpen (2 * (Int.ofNat 4).toNat) && (be (Int.ofNat (1 + xb.length))).length.beq ((Int.ofNat 4).toNat * 1)),
  !decide ((wb.length : Int) = Int.ofNat 0),
  !decide (Int.ofNat (1 + xb.length) > Int.ofNat 1048576),
  !decide (Int.ofNat (1 + xb.length) = Int.ofNat 0),
  !decide (Int.ofNat (1 + xb.length) > Int.ofNat 1048576),
  true,
  !decide (first + (k : Int) - first > Int.ofNat 256),
  decide (IntKind.wrap .i64 (first + (k : Int) - first) = first + (k : Int) - first),
  decide (first = first) && true && (Nat.beq 15 15 && Nat.beq 0 0 && true && true && k.beq k && (2 * k + 1).beq (2 * k + 1) && true && true),
  decide (IntKind.wrap .i64 (first + (k : Int)) = first + (k : Int)),
  !xb.length.beq 0 && (List.drop p c).length.beq (xb.length * 1) && (!(1 + xb.length).ble (capLow (2 * (0 + (0 + 1)) + 1)) && (((1 + xb.length) * 2 * (1 + 1)).ble 140737488355328 && ((List.drop p c).all oneCell && (List.drop p c).length.beq (xb.length * 1)))) && (isOpen (2 * (0 + (0 + 1)) + 1) && (Nat.beq 0 0 && ([Value.int .u8 6].length.beq ((0 + (0 + 1)) * 1) && (Nat.beq 1 1 && (!Nat.beq 1 0 && Nat.beq 5 5))))),
  true,
  !decide ((xb.length : Int) > Int.ofNat 1048576),
  true]
theorem runN1ken (c : List Value) (wb xb : List UInt8) (p te xc clock born k : Nat) (first taken : Int) (nv : Value) (o16 : AObj) :
  ((levO Tryz.prog ext WN1ken 300).call 24 #[P 8, opV (.slice (some ⟨20, p, none⟩) xb.length (2 * xc))] (HN1ken c wb xb p te xc clock born k first taken nv o16)).map (fun r => (r.1, r.2.1.gl, [37, 40, 42, 13, 33, 5, 6, 24, 8, 9, 10, 11, 12].map r.2.1.objs.get, r.2.2)) =
  some (.bool true, 5, [
    some (.cells (.open_ 1) (List.replicate k (.chan (some 0)) ++ [S 35 (1 + xb.length)]) 57),
    some (.cells (.open_ 1) (List.drop p c) 5),
    some (.cells (.open_ 1) (List.drop p c) 5),
    some (.cells .own [S 33 (wb.length + (4 + (1 + xb.length))), I ((wb.length + (4 + (1 + xb.length))) : Nat)] 143),
    some (.cells (.open_ 1) (byteVals wb ++ (be (Int.ofNat (1 + xb.length)) ++ F1 (List.drop p c))) 5),
    some (.map [⟨.string "wal".toUTF8, P 13, born⟩] clock),
    some (.cells .own [.map (some 5), I 1073741824, I (-1), .bool false] 140),
    some (.cells .own [.slice none 0 0, S 42 xb.length] 84),
    some (.cells .own [P 6, P 12, P 24, .pointer none, .bool false] 46),
    some (.cells .own [P 6, I first, S 37 (k + 1), I ((wb.length + (4 + (1 + xb.length))) : Nat), .bool false] 219),
    some (.map [] 0),
    some (.cells .own [I 9223372036854775807, I 0, .map (some 10)] 216),
    some (.cells .own [P 6, P 9, P 11, .slice none 0 0, I 0, I taken, S 40 (1 + xb.length - 1), .map none, .bool false] 118)], TN1ken c wb xb p te xc clock born k first taken nv o16) := by kernel_rfl
theorem testsN1ken (c : List Value) (wb xb : List UInt8) (p te xc clock born k : Nat) (first taken : Int) (nv : Value) (o16 : AObj) (hw : 0 < wb.length) (hw2 : wb.length ≤ 1000000) (hx : 0 < xb.length) (hx2 : xb.length ≤ 5000) (hcc : List.drop p c = byteVals xb) (hbo : born < clock) (hk0 : 0 < k) (hk : k ≤ 30) (h0 : 0 ≤ first) (h1 : first ≤ 30) : allT (TN1ken c wb xb p te xc clock born k first taken nv o16) := by
  intro b hb
  simp only [TN1ken, List.mem_cons, List.not_mem_nil, or_false] at hb
  have e0 := wrap_a (Int.ofNat (wb.length + (4 + (1 + xb.length))))
  have e1 := wrap_a (1073741824 - (0 + (wb.length : Int)))
  have e2 := wrap_a (first + (k : Int) - first)
  have e3 := wrap_a (first + (k : Int))
  rcases hb with hb | hb | hb | hb | hb | hb | hb | hb | hb | hb | hb | hb | hb | hb | hb | hb | hb | hb | hb | hb | hb | hb | hb | hb | hb | hb | hb | hb | hb | hb | hb | hb | hb | hb | hb | hb | hb | hb <;> refine hb.trans ?_ <;> clear hb <;> (try rw [hcc]) <;> (try rw [F1_bytes]) <;> 
  first
  | with_reducible rfl
  | with_reducible exact isSame_refl _
  | (unfold ltT; rw [decide_eq_true_eq]; (try simp only [Int.ofNat_eq_natCast]); omega)
  | (unfold bornT; simp <;> omega)
  | (simp only [e0, e1, e2, e3, wrapM, decide_true, Bool.not_eq_true', decide_eq_true_eq, decide_eq_false_iff_not, Int.ofNat_eq_natCast, gt_iff_lt]; omega)
  | (simp only [bun, capLow, isOpen, oneCell]; omega)
  | (simp only [wrapM, Int.ofNat_eq_natCast, decide_eq_true_eq]; split <;> omega)
  | (simp only [e0, e1, e2, e3, wrapM, Int.ofNat_eq_natCast, decide_eq_true_eq, gt_iff_lt]; (repeat' split) <;> omega)
  | (first | exact z1 (by omega) | exact z2 (by omega) | exact z3 (by omega) | exact z4 (by omega) | exact z5 (by omega) | exact z6 (by omega))
  | (simp [beq_t]; done)
  | rfl
theorem stepN1ken (c : List Value) (wb xb : List UInt8) (p te xc clock born k : Nat) (first taken : Int) (nv : Value) (o16 : AObj) (hcc : List.drop p c = byteVals xb) :
  ∃ K, (levO Tryz.prog ext WN1ken 300).call 24 #[P 8, opV (.slice (some ⟨20, p, none⟩) xb.length (2 * xc))] (HN1ken c wb xb p te xc clock born k first taken nv o16) = some (.bool true, K, TN1ken c wb xb p te xc clock born k first taken nv o16) ∧
    Gen (pairs 5 [(15, 37), (16, 40), (17, 42), (13, 13), (14, 33), (5, 5), (6, 6), (7, 24), (8, 8), (9, 9), (10, 10), (11, 11), (12, 12)]) K (heapOf 20 5 ([(15, tops (k + 1))] ++ [(16, rowO (xb))] ++ [(17, rowO (xb))] ++ (fileO 13 (more wb xb)) ++ (base [walE born] clock (S 17 xb.length) (first) (S 15 (k + 1)) (((more wb xb).length : Nat)) (taken) (S 16 xb.length)))) := by
  obtain ⟨⟨v, K, ts⟩, hc, h⟩ := Option.map_eq_some_iff.1 (runN1ken c wb xb p te xc clock born k first taken nv o16)
  simp only [Prod.mk.injEq, List.map_cons, List.map_nil, List.cons.injEq, and_true] at h
  obtain ⟨rfl, hgl, ⟨h37, h40, h42, h13, h33, h5, h6, h24, h8, h9, h10, h11, h12⟩, rfl⟩ := h
  refine ⟨K, hc, Gen.of_pairs hgl (by decide) ?_⟩
  intro x hm
  simp only [base, fileO, walE, manE, tops, rowO, noneO, List.cons_append, List.nil_append, List.mem_cons, List.not_mem_nil, or_false] at hm
  rcases hm with rfl | rfl | rfl | rfl | rfl | rfl | rfl | rfl | rfl | rfl | rfl | rfl | rfl
  · refine fit rfl h37 (OG.open_ _ _ ?_) rfl sameFl
    exact tops_snoc _ _ rfl
  · refine fit rfl h40 (OG.open_ _ _ ?_) rfl sameFl
    rw [hcc]
    exact LG.bytes _
  · refine fit rfl h42 (OG.open_ _ _ ?_) rfl sameFl
    rw [hcc]
    exact LG.bytes _
  · refine fit rfl h13 (OG.own _ ?_) rfl sameFl
    rw [more_length]
    exact LS.ok (by repeat' constructor)
  · refine fit rfl h33 (OG.open_ _ _ ?_) rfl sameFl
    rw [hcc, show F1 (byteVals xb) = F0 xb from rfl, ← more_vals]
    exact LG.bytes _
  · exact fit rfl h5 (OG.map1 (VG.string _) (VG.ptr _ rfl)) rfl noFl
  · refine fit rfl h6 (OG.own _ ?_) rfl sameFl
    exact LS.ok (by repeat' constructor)
  · refine fit rfl h24 (OG.own _ ?_) rfl sameFl
    exact LS.ok (by repeat' constructor)
  · refine fit rfl h8 (OG.own _ ?_) rfl sameFl
    exact LS.ok (by repeat' constructor)
  · refine fit rfl h9 (OG.own _ ?_) rfl sameFl
    rw [more_length]
    exact LS.ok (by repeat' constructor)
  · exact fit rfl h10 OG.map0 rfl noFl
  · refine fit rfl h11 (OG.own _ ?_) rfl sameFl
    exact LS.ok (by repeat' constructor)
  · refine fit rfl h12 (OG.own _ ?_) rfl sameFl
    rw [show 1 + xb.length - 1 = xb.length by omega]
    exact LS.ok (by repeat' constructor)
def WN1kee : Word := fun o _ => match o.dst with
  | some 14 => bif o.pos == "wal.go:98" then some 2 else none
  | some 25 => bif o.pos == "engine.go:218" then some 3 else none
  | some 26 => bif o.pos == "engine.go:218" then some 0 else none
  | some 28 => bif o.pos == "wal.go:118" then some 0 else none
  | some 47 => bif o.pos == "disk.go:76" then some 3 else none
  | some 48 => bif o.pos == "disk.go:76" then some 0 else none
  | some 49 => bif o.pos == "disk.go:76" then some 0 else none
  | some 50 => bif o.pos == "wal.go:141" then some 2 else none
  | some 51 => bif o.pos == "wal.go:124" then some 12 else none
  | some 58 => bif o.pos == "disk.go:77" then some 12 else none
  | _ => none

def HN1kee (wb : List UInt8) (xc clock born k : Nat) (first taken : Int) (nv : Value) (o16 : AObj) : AHeap := heapOf 20 5 ([(15, tops (k))] ++ [(17, noneO)] ++ (fileO 13 (wb)) ++ [(16, o16)] ++ (base [walE born] clock (E 17) (first) (S 15 k) ((wb.length : Nat)) (taken) (nv)))
def TN1kee (wb : List UInt8) (xc clock born k : Nat) (first taken : Int) (nv : Value) (o16 : AObj) : List Bool := [Nat.beq (2 * xc) (2 * xc) && true && true,
  Nat.beq 15 15 && Nat.beq 0 0 && true && true && k.beq k && (2 * k + 1).beq (2 * k + 1) && (Nat.beq 15 15 && Nat.beq 0 0 && true && true && k.beq k && (2 * k + 1).beq (2 * k + 1) && true) && true,
  !Nat.beq 1 0 && [Value.slice (some { block := 33, off := 0 }) 1 3].length.beq (1 * 1) && (!(k + 1).ble (capLow (2 * k + 1)) && (((k + 1) * 2 * (24 + 1)).ble 140737488355328 && ([Value.slice (some { block := 33, off := 0 }) 1 3].all oneCell && [Value.slice (some { block := 33, off := 0 }) 1 3].length.beq (1 * 1)))) && (isOpen (2 * k + 1) && (Nat.beq 0 0 && ((List.replicate k (Value.chan (some 0))).length.beq (k * 1) && (Nat.beq 1 1 && (!Nat.beq 1 0 && Nat.beq 57 57))))),
  decide (IntKind.wrap .i64 (Int.ofNat (wb.length + (4 + (1 + 0)))) = Int.ofNat (wb.length + (4 + (1 + 0)))),
  Nat.beq 14 14 && Nat.beq 0 0 && true && true && wb.length.beq wb.length && (2 * wb.length + 1).beq (2 * wb.length + 1) && true && true,
  !(5 - 0).beq 0 && [Value.int .u8 (Int.ofNat 0), Value.int .u8 (Int.ofNat 0), Value.int .u8 (Int.ofNat 0), Value.int .u8 (Int.ofNat 1), Value.int .u8 (Int.ofNat 6)].length.beq ((5 - 0) * 1) && (!(wb.length + (4 + (1 + 0))).ble (capLow (2 * wb.length + 1)) && (((wb.length + (4 + (1 + 0))) * 2 * (1 + 1)).ble 140737488355328 && ([Value.int .u8 (Int.ofNat 0), Value.int .u8 (Int.ofNat 0), Value.int .u8 (Int.ofNat 0), Value.int .u8 (Int.ofNat 1), Value.int .u8 (Int.ofNat 6)].all oneCell && [Value.int .u8 (Int.ofNat 0), Value.int .u8 (Int.ofNat 0), Value.int .u8 (Int.ofNat 0), Value.int .u8 (Int.ofNat 1), Value.int .u8 (Int.ofNat 6)].length.beq ((5 - 0) * 1)))) && (isOpen (2 * wb.length + 1) && (Nat.beq 0 0 && ((byteVals wb).length.beq (wb.length * 1) && (Nat.beq 1 1 && (!Nat.beq 1 0 && Nat.beq 5 5))))),
  true,
  decide ((if 1073741824 - (0 + (wb.length : Int)) < ((((Int.ofNat 4).toNat + (0 + (0 + 1) + 0)) : Nat) : Int) then 1073741824 - (0 + (wb.length : Int)) else ((((Int.ofNat 4).toNat + (0 + (0 + 1) + 0)) : Nat) : Int)) = Int.ofNat 5),
  decide ((if Int.ofNat 0 > 1073741824 - (0 + (wb.length : Int)) then Int.ofNat 0 else 1073741824 - (0 + (wb.length : Int))) = 1073741824 - (0 + (wb.length : Int))),
  decide (IntKind.wrap .i64 (1073741824 - (0 + (wb.length : Int))) = 1073741824 - (0 + (wb.length : Int))),
  bornT [born] clock,
  ltT (0 + (wb.length : Int)) (Int.ofNat 1073741824),
  !decide ((wb.length : Int) = Int.ofNat 0),
  true,
  !decide (first + (k : Int) - first > Int.ofNat 256),
  decide (IntKind.wrap .i64 (first + (k : Int) - first) = first + (k : Int) - first),
  decide (first = first) && true && (Nat.beq 15 15 && Nat.beq 0 0 && true && true && k.beq k && (2 * k + 1).beq (2 * k + 1) && true && true),
  decide (IntKind.wrap .i64 (first + (k : Int)) = first + (k : Int)),
  true,
  true]
theorem runN1kee (wb : List UInt8) (xc clock born k : Nat) (first taken : Int) (nv : Value) (o16 : AObj) :
  ((levO Tryz.prog ext WN1kee 300).call 24 #[P 8, opV (.slice (some nowhere) 0 (2 * xc))] (HN1kee wb xc clock born k first taken nv o16)).map (fun r => (r.1, r.2.1.gl, [35, 37, 38, 13, 31, 5, 6, 23, 8, 9, 10, 11, 12].map r.2.1.objs.get, r.2.2)) =
  some (.bool true, 5, [
    some (.cells (.open_ 1) (List.replicate k (.chan (some 0)) ++ [S 33 (1 + 0)]) 57),
    some (.cells .own [] 5),
    some (.cells .own [] 5),
    some (.cells .own [S 31 (wb.length + (4 + (1 + 0))), I ((wb.length + (4 + (1 + 0))) : Nat)] 143),
    some (.cells (.open_ 1) (byteVals wb ++ (be (Int.ofNat (1 + 0)) ++ F0 ([] : List UInt8))) 5),
    some (.map [⟨.string "wal".toUTF8, P 13, born⟩] clock),
    some (.cells .own [.map (some 5), I 1073741824, I (-1), .bool false] 140),
    some (.cells .own [.slice none 0 0, E 38] 84),
    some (.cells .own [P 6, P 12, P 23, .pointer none, .bool false] 46),
    some (.cells .own [P 6, I first, S 35 (k + 1), I ((wb.length + (4 + (1 + 0))) : Nat), .bool false] 219),
    some (.map [] 0),
    some (.cells .own [I 9223372036854775807, I 0, .map (some 10)] 216),
    some (.cells .own [P 6, P 9, P 11, .slice none 0 0, I 0, I (taken), E 37, .map none, .bool false] 118)], TN1kee wb xc clock born k first taken nv o16) := by kernel_rfl
theorem testsN1kee (wb : List UInt8) (xc clock born k : Nat) (first taken : Int) (nv : Value) (o16 : AObj) (hw : 0 < wb.length) (hw2 : wb.length ≤ 1000000) (hbo : born < clock) (hk0 : 0 < k) (hk : k ≤ 30) (h0 : 0 ≤ first) (h1 : first ≤ 30) : allT (TN1kee wb xc clock born k first taken nv o16) := by
  intro b hb
  simp only [TN1kee, List.mem_cons, List.not_mem_nil, or_false] at hb
  have e0 := wrap_a (Int.ofNat (wb.length + (4 + (1 + 0))))
  have e1 := wrap_a (1073741824 - (0 + (wb.length : Int)))
  have e2 := wrap_a (first + (k : Int) - first)
  have e3 := wrap_a (first + (k : Int))
  rcases hb with hb | hb | hb | hb | hb | hb | hb | hb | hb | hb | hb | hb | hb | hb | hb | hb | hb | hb | hb | hb <;> refine hb.trans ?_ <;> clear hb <;> 
  first
  | with_reducible rfl
  | with_reducible exact isSame_refl _
  | (unfold ltT; rw [decide_eq_true_eq]; (try simp only [Int.ofNat_eq_natCast]); omega)
  | (unfold bornT; simp <;> omega)
  | (simp only [e0, e1, e2, e3, wrapM, decide_true, Bool.not_eq_true', decide_eq_true_eq, decide_eq_false_iff_not, Int.ofNat_eq_natCast, gt_iff_lt]; omega)
  | (simp only [bun, capLow, isOpen, oneCell]; omega)
  | (simp only [wrapM, Int.ofNat_eq_natCast, decide_eq_true_eq]; split <;> omega)
  | (simp only [e0, e1, e2, e3, wrapM, Int.ofNat_eq_natCast, decide_eq_true_eq, gt_iff_lt]; (repeat' split) <;> omega)
  | (first | exact z1 (by omega) | exact z2 (by omega) | exact z3 (by omega) | exact z4 (by omega) | exact z5 (by omega) | exact z6 (by omega))
  | (simp [beq_t]; done)
  | rfl
theorem stepN1kee (wb : List UInt8) (xc clock born k : Nat) (first taken : Int) (nv : Value) (o16 : AObj)  :
  ∃ K, (levO Tryz.prog ext WN1kee 300).call 24 #[P 8, opV (.slice (some nowhere) 0 (2 * xc))] (HN1kee wb xc clock born k first taken nv o16) = some (.bool true, K, TN1kee wb xc clock born k first taken nv o16) ∧
    Gen (pairs 5 [(15, 35), (16, 37), (17, 38), (13, 13), (14, 31), (5, 5), (6, 6), (7, 23), (8, 8), (9, 9), (10, 10), (11, 11), (12, 12)]) K (heapOf 20 5 ([(15, tops (k + 1))] ++ [(16, noneO)] ++ [(17, noneO)] ++ (fileO 13 (more wb ([] : List UInt8))) ++ (base [walE born] clock (E 17) (first) (S 15 (k + 1)) (((more wb ([] : List UInt8)).length : Nat)) (taken) (E 16)))) := by
  obtain ⟨⟨v, K, ts⟩, hc, h⟩ := Option.map_eq_some_iff.1 (runN1kee wb xc clock born k first taken nv o16)
  simp only [Prod.mk.injEq, List.map_cons, List.map_nil, List.cons.injEq, and_true] at h
  obtain ⟨rfl, hgl, ⟨h35, h37, h38, h13, h31, h5, h6, h23, h8, h9, h10, h11, h12⟩, rfl⟩ := h
  refine ⟨K, hc, Gen.of_pairs hgl (by decide) ?_⟩
  intro x hm
  simp only [base, fileO, walE, manE, tops, rowO, noneO, List.cons_append, List.nil_append, List.mem_cons, List.not_mem_nil, or_false] at hm
  rcases hm with rfl | rfl | rfl | rfl | rfl | rfl | rfl | rfl | rfl | rfl | rfl | rfl | rfl
  · refine fit rfl h35 (OG.open_ _ _ ?_) rfl sameFl
    exact tops_snoc _ _ rfl
  · refine fit rfl h37 (OG.own _ ?_) rfl sameFl
    exact LS.ok (by repeat' constructor)
  · refine fit rfl h38 (OG.own _ ?_) rfl sameFl
    exact LS.ok (by repeat' constructor)
  · refine fit rfl h13 (OG.own _ ?_) rfl sameFl
    rw [more_length]
    exact LS.ok (by repeat' constructor)
  · refine fit rfl h31 (OG.open_ _ _ ?_) rfl sameFl
    rw [show byteVals wb ++ (be (Int.ofNat (1 + 0)) ++ F0 []) = byteVals (more wb []) from (more_vals wb []).symm]
    exact LG.bytes _
  · exact fit rfl h5 (OG.map1 (VG.string _) (VG.ptr _ rfl)) rfl noFl
  · refine fit rfl h6 (OG.own _ ?_) rfl sameFl
    exact LS.ok (by repeat' constructor)
  · refine fit rfl h23 (OG.own _ ?_) rfl sameFl
    exact LS.ok (by repeat' constructor)
  · refine fit rfl h8 (OG.own _ ?_) rfl sameFl
    exact LS.ok (by repeat' constructor)
  · refine fit rfl h9 (OG.own _ ?_) rfl sameFl
    rw [more_length]
    exact LS.ok (by repeat' constructor)
  · exact fit rfl h10 OG.map0 rfl noFl
  · refine fit rfl h11 (OG.own _ ?_) rfl sameFl
    exact LS.ok (by repeat' constructor)
  · refine fit rfl h12 (OG.own _ ?_) rfl sameFl
    exact LS.ok (by repeat' constructor)
def WN1kez : Word := fun o _ => match o.dst with
  | some 14 => bif o.pos == "wal.go:98" then some 2 else none
  | some 25 => bif o.pos == "engine.go:218" then some 3 else none
  | some 26 => bif o.pos == "engine.go:218" then some 0 else none
  | some 28 => bif o.pos == "wal.go:118" then some 0 else none
  | some 47 => bif o.pos == "disk.go:76" then some 3 else none
  | some 48 => bif o.pos == "disk.go:76" then some 0 else none
  | some 49 => bif o.pos == "disk.go:76" then some 0 else none
  | some 50 => bif o.pos == "wal.go:141" then some 2 else none
  | some 51 => bif o.pos == "wal.go:124" then some 12 else none
  | some 58 => bif o.pos == "disk.go:77" then some 12 else none
  | _ => none

def HN1kez (wb : List UInt8) (clock born k : Nat) (first taken : Int) (nv : Value) (o16 : AObj) : AHeap := heapOf 20 5 ([(15, tops (k))] ++ [(17, noneO)] ++ (fileO 13 (wb)) ++ [(16, o16)] ++ (base [walE born] clock (E 17) (first) (S 15 k) ((wb.length : Nat)) (taken) (nv)))
def TN1kez (wb : List UInt8) (clock born k : Nat) (first taken : Int) (nv : Value) (o16 : AObj) : List Bool := [true,
  Nat.beq 15 15 && Nat.beq 0 0 && true && true && k.beq k && (2 * k + 1).beq (2 * k + 1) && (Nat.beq 15 15 && Nat.beq 0 0 && true && true && k.beq k && (2 * k + 1).beq (2 * k + 1) && true) && true,
  !Nat.beq 1 0 && [Value.slice (some { block := 33, off := 0 }) 1 3].length.beq (1 * 1) && (!(k + 1).ble (capLow (2 * k + 1)) && (((k + 1) * 2 * (24 + 1)).ble 140737488355328 && ([Value.slice (some { block := 33, off := 0 }) 1 3].all oneCell && [Value.slice (some { block := 33, off := 0 }) 1 3].length.beq (1 * 1)))) && (isOpen (2 * k + 1) && (Nat.beq 0 0 && ((List.replicate k (Value.chan (some 0))).length.beq (k * 1) && (Nat.beq 1 1 && (!Nat.beq 1 0 && Nat.beq 57 57))))),
  decide (IntKind.wrap .i64 (Int.ofNat (wb.length + (4 + (1 + 0)))) = Int.ofNat (wb.length + (4 + (1 + 0)))),
  Nat.beq 14 14 && Nat.beq 0 0 && true && true && wb.length.beq wb.length && (2 * wb.length + 1).beq (2 * wb.length + 1) && true && true,
  !(5 - 0).beq 0 && [Value.int .u8 (Int.ofNat 0), Value.int .u8 (Int.ofNat 0), Value.int .u8 (Int.ofNat 0), Value.int .u8 (Int.ofNat 1), Value.int .u8 (Int.ofNat 6)].length.beq ((5 - 0) * 1) && (!(wb.length + (4 + (1 + 0))).ble (capLow (2 * wb.length + 1)) && (((wb.length + (4 + (1 + 0))) * 2 * (1 + 1)).ble 140737488355328 && ([Value.int .u8 (Int.ofNat 0), Value.int .u8 (Int.ofNat 0), Value.int .u8 (Int.ofNat 0), Value.int .u8 (Int.ofNat 1), Value.int .u8 (Int.ofNat 6)].all oneCell && [Value.int .u8 (Int.ofNat 0), Value.int .u8 (Int.ofNat 0), Value.int .u8 (Int.ofNat 0), Value.int .u8 (Int.ofNat 1), Value.int .u8 (Int.ofNat 6)].length.beq ((5 - 0) * 1)))) && (isOpen (2 * wb.length + 1) && (Nat.beq 0 0 && ((byteVals wb).length.beq (wb.length * 1) && (Nat.beq 1 1 && (!Nat.beq 1 0 && Nat.beq 5 5))))),
  true,
  decide ((if 1073741824 - (0 + (wb.length : Int)) < ((((Int.ofNat 4).toNat + (0 + (0 + 1) + 0)) : Nat) : Int) then 1073741824 - (0 + (wb.length : Int)) else ((((Int.ofNat 4).toNat + (0 + (0 + 1) + 0)) : Nat) : Int)) = Int.ofNat 5),
  decide ((if Int.ofNat 0 > 1073741824 - (0 + (wb.length : Int)) then Int.ofNat 0 else 1073741824 - (0 + (wb.length : Int))) = 1073741824 - (0 + (wb.length : Int))),
  decide (IntKind.wrap .i64 (1073741824 - (0 + (wb.length : Int))) = 1073741824 - (0 + (wb.length : Int))),
  bornT [born] clock,
  ltT (0 + (wb.length : Int)) (Int.ofNat 1073741824),
  !decide ((wb.length : Int) = Int.ofNat 0),
  true,
  !decide (first + (k : Int) - first > Int.ofNat 256),
  decide (IntKind.wrap .i64 (first + (k : Int) - first) = first + (k : Int) - first),
  decide (first = first) && true && (Nat.beq 15 15 && Nat.beq 0 0 && true && true && k.beq k && (2 * k + 1).beq (2 * k + 1) && true && true),
  decide (IntKind.wrap .i64 (first + (k : Int)) = first + (k : Int)),
  true,
  true]
theorem runN1kez (wb : List UInt8) (clock born k : Nat) (first taken : Int) (nv : Value) (o16 : AObj) :
  ((levO Tryz.prog ext WN1kez 300).call 24 #[P 8, opV (.slice none 0 0)] (HN1kez wb clock born k first taken nv o16)).map (fun r => (r.1, r.2.1.gl, [35, 37, 38, 13, 31, 5, 6, 23, 8, 9, 10, 11, 12].map r.2.1.objs.get, r.2.2)) =
  some (.bool true, 5, [
    some (.cells (.open_ 1) (List.replicate k (.chan (some 0)) ++ [S 33 (1 + 0)]) 57),
    some (.cells .own [] 5),
    some (.cells .own [] 5),
    some (.cells .own [S 31 (wb.length + (4 + (1 + 0))), I ((wb.length + (4 + (1 + 0))) : Nat)] 143),
    some (.cells (.open_ 1) (byteVals wb ++ (be (Int.ofNat (1 + 0)) ++ F0 ([] : List UInt8))) 5),
    some (.map [⟨.string "wal".toUTF8, P 13, born⟩] clock),
    some (.cells .own [.map (some 5), I 1073741824, I (-1), .bool false] 140),
    some (.cells .own [.slice none 0 0, E 38] 84),
    some (.cells .own [P 6, P 12, P 23, .pointer none, .bool false] 46),
    some (.cells .own [P 6, I first, S 35 (k + 1), I ((wb.length + (4 + (1 + 0))) : Nat), .bool false] 219),
    some (.map [] 0),
    some (.cells .own [I 9223372036854775807, I 0, .map (some 10)] 216),
    some (.cells .own [P 6, P 9, P 11, .slice none 0 0, I 0, I (taken), E 37, .map none, .bool false] 118)], TN1kez wb clock born k first taken nv o16) := by kernel_rfl
theorem testsN1kez (wb : List UInt8) (clock born k : Nat) (first taken : Int) (nv : Value) (o16 : AObj) (hw : 0 < wb.length) (hw2 : wb.length ≤ 1000000) (hbo : born < clock) (hk0 : 0 < k) (hk : k ≤ 30) (h0 : 0 ≤ first) (h1 : first ≤ 30) : allT (TN1kez wb clock born k first taken nv o16) := by
  intro b hb
  simp only [TN1kez, List.mem_cons, List.not_mem_nil, or_false] at hb
  have e0 := wrap_a (Int.ofNat (wb.length + (4 + (1 + 0))))
  have e1 := wrap_a (1073741824 - (0 + (wb.length : Int)))
  have e2 := wrap_a (first + (k : Int) - first)
  have e3 := wrap_a (first + (k : Int))
  rcases hb with hb | hb | hb | hb | hb | hb | hb | hb | hb | hb | hb | hb | hb | hb | hb | hb | hb | hb | hb | hb <;> refine hb.trans ?_ <;> clear hb <;> 
  first
  | with_reducible rfl
  | with_reducible exact isSame_refl _
  | (unfold ltT; rw [decide_eq_true_eq]; (try simp only [Int.ofNat_eq_natCast]); omega)
  | (unfold bornT; simp <;> omega)
  | (simp only [e0, e1, e2, e3, wrapM, decide_true, Bool.not_eq_true', decide_eq_true_eq, decide_eq_false_iff_not, Int.ofNat_eq_natCast, gt_iff_lt]; omega)
  | (simp only [bun, capLow, isOpen, oneCell]; omega)
  | (simp only [wrapM, Int.ofNat_eq_natCast, decide_eq_true_eq]; split <;> omega)
  | (simp only [e0, e1, e2, e3, wrapM, Int.ofNat_eq_natCast, decide_eq_true_eq, gt_iff_lt]; (repeat' split) <;> omega)
  | (first | exact z1 (by omega) | exact z2 (by omega) | exact z3 (by omega) | exact z4 (by omega) | exact z5 (by omega) | exact z6 (by omega))
  | (simp [beq_t]; done)
  | rfl
theorem stepN1kez (wb : List UInt8) (clock born k : Nat) (first taken : Int) (nv : Value) (o16 : AObj)  :
  ∃ K, (levO Tryz.prog ext WN1kez 300).call 24 #[P 8, opV (.slice none 0 0)] (HN1kez wb clock born k first taken nv o16) = some (.bool true, K, TN1kez wb clock born k first taken nv o16) ∧
    Gen (pairs 5 [(15, 35), (16, 37), (17, 38), (13, 13), (14, 31), (5, 5), (6, 6), (7, 23), (8, 8), (9, 9), (10, 10), (11, 11), (12, 12)]) K (heapOf 20 5 ([(15, tops (k + 1))] ++ [(16, noneO)] ++ [(17, noneO)] ++ (fileO 13 (more wb ([] : List UInt8))) ++ (base [walE born] clock (E 17) (first) (S 15 (k + 1)) (((more wb ([] : List UInt8)).length : Nat)) (taken) (E 16)))) := by
  obtain ⟨⟨v, K, ts⟩, hc, h⟩ := Option.map_eq_some_iff.1 (runN1kez wb clock born k first taken nv o16)
  simp only [Prod.mk.injEq, List.map_cons, List.map_nil, List.cons.injEq, and_true] at h
  obtain ⟨rfl, hgl, ⟨h35, h37, h38, h13, h31, h5, h6, h23, h8, h9, h10, h11, h12⟩, rfl⟩ := h
  refine ⟨K, hc, Gen.of_pairs hgl (by decide) ?_⟩
  intro x hm
  simp only [base, fileO, walE, manE, tops, rowO, noneO, List.cons_append, List.nil_append, List.mem_cons, List.not_mem_nil, or_false] at hm
  rcases hm with rfl | rfl | rfl | rfl | rfl | rfl | rfl | rfl | rfl | rfl | rfl | rfl | rfl
  · refine fit rfl h35 (OG.open_ _ _ ?_) rfl sameFl
    exact tops_snoc _ _ rfl
  · refine fit rfl h37 (OG.own _ ?_) rfl sameFl
    exact LS.ok (by repeat' constructor)
  · refine fit rfl h38 (OG.own _ ?_) rfl sameFl
    exact LS.ok (by repeat' constructor)
  · refine fit rfl h13 (OG.own _ ?_) rfl sameFl
    rw [more_length]
    exact LS.ok (by repeat' constructor)
  · refine fit rfl h31 (OG.open_ _ _ ?_) rfl sameFl
    rw [show byteVals wb ++ (be (Int.ofNat (1 + 0)) ++ F0 []) = byteVals (more wb []) from (more_vals wb []).symm]
    exact LG.bytes _
  · exact fit rfl h5 (OG.map1 (VG.string _) (VG.ptr _ rfl)) rfl noFl
  · refine fit rfl h6 (OG.own _ ?_) rfl sameFl
    exact LS.ok (by repeat' constructor)
  · refine fit rfl h23 (OG.own _ ?_) rfl sameFl
    exact LS.ok (by repeat' constructor)
  · refine fit rfl h8 (OG.own _ ?_) rfl sameFl
    exact LS.ok (by repeat' constructor)
  · refine fit rfl h9 (OG.own _ ?_) rfl sameFl
    rw [more_length]
    exact LS.ok (by repeat' constructor)
  · exact fit rfl h10 OG.map0 rfl noFl
  · refine fit rfl h11 (OG.own _ ?_) rfl sameFl
    exact LS.ok (by repeat' constructor)
  · refine fit rfl h12 (OG.own _ ?_) rfl sameFl
    exact LS.ok (by repeat' constructor)
def WN2knn : Word := fun o _ => match o.dst with
  | some 4 => bif o.pos == "bytes.go:1392" then some 0 else none
  | some 7 => bif o.pos == "bytes.go:1395" then some 14 else bif o.pos == "wal.go:48" then some 13 else none
  | some 10 => bif o.pos == "bits.go:107" then some 1 else none
  | some 12 => bif o.pos == "bits.go:107" then some 0 else none
  | some 13 => bif o.pos == "bits.go:107" then some 0 else none
  | some 14 => bif o.pos == "ref.go:19" then some 14 else bif o.pos == "wal.go:98" then some 2 else none
  | some 16 => bif o.pos == "engine.go:366" then some 0 else none
  | some 18 => bif o.pos == "wal.go:114" then some 0 else none
  | some 19 => bif o.pos == "engine.go:123" then some 0 else none
  | some 22 => bif o.pos == "wal.go:114" then some 0 else none
  | some 25 => bif o.pos == "engine.go:218" then some 3 else none
  | some 26 => bif o.pos == "engine.go:218" then some 0 else none
  | some 27 => bif o.pos == "engine.go:371" then some 12 else none
  | some 28 => bif o.pos == "wal.go:118" then some 0 else none
  | some 38 => bif o.pos == "engine.go:223" then some 0 else none
  | some 47 => bif o.pos == "disk.go:76" then some 3 else none
  | some 48 => bif o.pos == "disk.go:76" then some 0 else none
  | some 49 => bif o.pos == "disk.go:76" then some 0 else none
  | some 50 => bif o.pos == "wal.go:141" then some 2 else none
  | some 51 => bif o.pos == "wal.go:124" then some 12 else none
  | some 57 => bif o.pos == "disk.go:77" then some 0 else none
  | some 58 => bif o.pos == "disk.go:77" then some 12 else none
  | some 64 => bif o.pos == "disk.go:78" then some 0 else none
  | some 90 => bif o.pos == "law.go:116" then some 1 else none
  | some 95 => bif o.pos == "law.go:117" then some 14 else none
  | _ => none

def HN2knn (c : List Value) (wb mb rb xb : List UInt8) (p te xc clock born born2 k : Nat) (first taken : Int) (nv : Value) (o16 : AObj) : AHeap := heapOf 21 5 ([(20, .cells .ro c te)] ++ [(15, tops (k))] ++ [(17, rowO (rb))] ++ (fileO 13 (wb)) ++ (fileO 18 (mb)) ++ [(16, o16)] ++ (base [walE born, manE born2] clock (S 17 rb.length) (first) (S 15 k) ((wb.length : Nat)) (taken) (nv)))
def TN2knn (c : List Value) (wb mb rb xb : List UInt8) (p te xc clock born born2 k : Nat) (first taken : Int) (nv : Value) (o16 : AObj) : List Bool := [!xb.length.beq 0 && (List.drop p c).length.beq (xb.length * 1) && (!(0 + xb.length).ble (capLow (2 * 0)) && (((0 + xb.length) * 2 * (1 + 1)).ble 140737488355328 && ((List.drop p c).all oneCell && (List.drop p c).length.beq (xb.length * 1)))) && (!isOpen (2 * 0) && Nat.beq 0 0),
  decide ((xb.length : Int) ≤ Int.ofNat 1048576),
  Nat.beq 20 20 && p.beq p && true && true && xb.length.beq xb.length && (2 * xc).beq (2 * xc) && true && true,
  !(1 + xb.length - 1).beq 0 && (List.drop p c).length.beq ((1 + xb.length - 1) * 1) && (!(0 + (1 + xb.length - 1)).ble (capLow (2 * 0)) && (((0 + (1 + xb.length - 1)) * 2 * (1 + 1)).ble 140737488355328 && ((List.drop p c).all oneCell && (List.drop p c).length.beq ((1 + xb.length - 1) * 1)))) && (!isOpen (2 * 0) && Nat.beq 0 0),
  true,
  true && (true && (true && ((1 + xb.length).ble (capLow (2 * (1 + xb.length) + 1)) && (Nat.ble 1 (1 + xb.length) && ((!isOpen (2 * (1 + xb.length) + 1) && true || !Nat.beq 1 0) && !(capLow (2 * (1 + xb.length) + 1)).beq 1))))),
  isIntIn .u8 (some (Value.int .u8 (Int.ofNat 6))),
  true && decide (Int.ofNat 0 < Int.ofNat (1 + xb.length)),
  decide (Int.ofNat 0 < Int.ofNat (1 + xb.length)),
  Nat.beq 15 15 && Nat.beq 0 0 && true && true && k.beq k && (2 * k + 1).beq (2 * k + 1) && (Nat.beq 15 15 && Nat.beq 0 0 && true && true && k.beq k && (2 * k + 1).beq (2 * k + 1) && true) && true,
  !Nat.beq 1 0 && [Value.slice (some { block := 36, off := 0 }) (1 + xb.length) (2 * (1 + xb.length) + 1)].length.beq (1 * 1) && (!(k + 1).ble (capLow (2 * k + 1)) && (((k + 1) * 2 * (24 + 1)).ble 140737488355328 && ([Value.slice (some { block := 36, off := 0 }) (1 + xb.length) (2 * (1 + xb.length) + 1)].all oneCell && [Value.slice (some { block := 36, off := 0 }) (1 + xb.length) (2 * (1 + xb.length) + 1)].length.beq (1 * 1)))) && (isOpen (2 * k + 1) && (Nat.beq 0 0 && ((List.replicate k (Value.chan (some 0))).length.beq (k * 1) && (Nat.beq 1 1 && (!Nat.beq 1 0 && Nat.beq 57 57))))),
  !(1 + xb.length).beq 0 && (F1 (List.drop p c)).length.beq ((1 + xb.length) * 1) && (!(0 + (1 + xb.length)).ble (capLow (2 * 0)) && (((0 + (1 + xb.length)) * 2 * (1 + 1)).ble 140737488355328 && ((F1 (List.drop p c)).all oneCell && (F1 (List.drop p c)).length.beq ((1 + xb.length) * 1)))) && (!isOpen (2 * 0) && Nat.beq 0 0),
  true,
  decide (IntKind.wrap .i64 (Int.ofNat (wb.length + (4 + (1 + xb.length)))) = Int.ofNat (wb.length + (4 + (1 + xb.length)))),
  !decide (Int.ofNat (4 + (1 + xb.length)) < Int.ofNat (4 + (1 + xb.length))),
  Nat.beq 14 14 && Nat.beq 0 0 && true && true && wb.length.beq wb.length && (2 * wb.length + 1).beq (2 * wb.length + 1) && true && true,
  !(4 + (1 + xb.length)).beq 0 && (be (Int.ofNat (1 + xb.length)) ++ F1 (List.drop p c)).length.beq ((4 + (1 + xb.length)) * 1) && (!(wb.length + (4 + (1 + xb.length))).ble (capLow (2 * wb.length + 1)) && (((wb.length + (4 + (1 + xb.length))) * 2 * (1 + 1)).ble 140737488355328 && ((be (Int.ofNat (1 + xb.length)) ++ F1 (List.drop p c)).all oneCell && (be (Int.ofNat (1 + xb.length)) ++ F1 (List.drop p c)).length.beq ((4 + (1 + xb.length)) * 1)))) && (isOpen (2 * wb.length + 1) && (Nat.beq 0 0 && ((byteVals wb).length.beq (wb.length * 1) && (Nat.beq 1 1 && (!Nat.beq 1 0 && Nat.beq 5 5))))),
  true && (true && (true && ((4 + (1 + xb.length)).ble (capLow (2 * (4 + (1 + xb.length)) + 1)) && (Nat.ble 0 (4 + (1 + xb.length)) && ((!isOpen (2 * (4 + (1 + xb.length)) + 1) || Nat.beq 0 0 || !Nat.beq 1 0) && !(capLow (2 * (4 + (1 + xb.length)) + 1)).beq 0))))),
  true,
  decide ((if 1073741824 - (0 + (mb.length : Int) + (wb.length : Int)) < Int.ofNat (4 + (1 + xb.length)) then 1073741824 - (0 + (mb.length : Int) + (wb.length : Int)) else Int.ofNat (4 + (1 + xb.length))) = Int.ofNat (4 + (1 + xb.length))),
  decide ((if Int.ofNat 0 > 1073741824 - (0 + (mb.length : Int) + (wb.length : Int)) then Int.ofNat 0 else 1073741824 - (0 + (mb.length : Int) + (wb.length : Int))) = 1073741824 - (0 + (mb.length : Int) + (wb.length : Int))),
  decide (IntKind.wrap .i64 (1073741824 - (0 + (mb.length : Int) + (wb.length : Int))) = 1073741824 - (0 + (mb.length : Int) + (wb.length : Int))),
  bornT [born, born2] clock,
  ltT (0 + (mb.length : Int) + (wb.length : Int)) (Int.ofNat 1073741824),
  !(1 + xb.length).beq 0 && (F1 (List.drop p c)).length.beq ((1 + xb.length) * 1) && (!(4 + (1 + xb.length)).ble (capLow (2 * (Int.ofNat 4).toNat)) && (((4 + (1 + xb.length)) * 2 * (1 + 1)).ble 140737488355328 && ((F1 (List.drop p c)).all oneCell && (F1 (List.drop p c)).length.beq ((1 + xb.length) * 1)))) && (!isOpen (2 * (Int.ofNat 4).toNat) && (be (Int.ofNat (1 + xb.length))).length.beq ((Int.ofNat 4).toNat * 1)),
  !decide ((wb.length : Int) = Int.ofNat 0),
  !decide (Int.ofNat (1 + xb.length) > Int.ofNat 1048576),
  !decide (Int.ofNat (1 + xb.length) = Int.ofNat 0),
  !decide (Int.ofNat (1 + xb.length) > Int.ofNat 1048576),
  true,
  !decide (first + (k : Int) - first > Int.ofNat 256),
  decide (IntKind.wrap .i64 (first + (k : Int) - first) = first + (k : Int) - first),
  decide (first = first) && true && (Nat.beq 15 15 && Nat.beq 0 0 && true && true && k.beq k && (2 * k + 1).beq (2 * k + 1) && true && true),
  decide (IntKind.wrap .i64 (first + (k : Int)) = first + (k : Int)),
  !xb.length.beq 0 && (List.drop p c).length.beq (xb.length * 1) && (!(1 + xb.length).ble (capLow (2 * (0 + (0 + 1)) + 1)) && (((1 + xb.length) * 2 * (1 + 1)).ble 140737488355328 && ((List.drop p c).all oneCell && (List.drop p c).length.beq (xb.length * 1)))) && (isOpen (2 * (0 + (0 + 1)) + 1) && (Nat.beq 0 0 && ([Value.int .u8 6].length.beq ((0 + (0 + 1)) * 1) && (Nat.beq 1 1 && (!Nat.beq 1 0 && Nat.beq 5 5))))),
  true,
  !decide ((xb.length : Int) > Int.ofNat 1048576),
  Nat.beq 17 17 && Nat.beq 0 0 && true && true && rb.length.beq rb.length && (2 * rb.length + 1).beq (2 * rb.length + 1) && (Nat.beq 17 17 && Nat.beq 0 0 && true && true && rb.length.beq rb.length && (2 * rb.length + 1).beq (2 * rb.length + 1) && true) && true,
  !rb.length.beq 0 && (byteVals rb).length.beq (rb.length * 1) && (!(0 + rb.length).ble (capLow (2 * 0)) && (((0 + rb.length) * 2 * (1 + 1)).ble 140737488355328 && ((byteVals rb).all oneCell && (byteVals rb).length.beq (rb.length * 1)))) && (!isOpen (2 * 0) && Nat.beq 0 0)]
theorem runN2knn (c : List Value) (wb mb rb xb : List UInt8) (p te xc clock born born2 k : Nat) (first taken : Int) (nv : Value) (o16 : AObj) :
  ((levO Tryz.prog ext WN2knn 300).call 24 #[P 8, opV (.slice (some ⟨20, p, none⟩) xb.length (2 * xc))] (HN2knn c wb mb rb xb p te xc clock born born2 k first taken nv o16)).map (fun r => (r.1, r.2.1.gl, [38, 41, 43, 13, 34, 18, 19, 5, 6, 25, 8, 9, 10, 11, 12].map r.2.1.objs.get, r.2.2)) =
  some (.bool true, 5, [
    some (.cells (.open_ 1) (List.replicate k (.chan (some 0)) ++ [S 36 (1 + xb.length)]) 57),
    some (.cells (.open_ 1) (List.drop p c) 5),
    some (.cells (.open_ 1) (List.drop p c) 5),
    some (.cells .own [S 34 (wb.length + (4 + (1 + xb.length))), I ((wb.length + (4 + (1 + xb.length))) : Nat)] 143),
    some (.cells (.open_ 1) (byteVals wb ++ (be (Int.ofNat (1 + xb.length)) ++ F1 (List.drop p c))) 5),
    some (.cells .own [S 19 (mb).length, I ((mb).length : Nat)] 143),
    some (.cells (.open_ 1) (byteVals (mb)) 5),
    some (.map [⟨.string "wal".toUTF8, P 13, born⟩, ⟨.string "manifest".toUTF8, P 18, born2⟩] clock),
    some (.cells .own [.map (some 5), I 1073741824, I (-1), .bool false] 140),
    some (.cells .own [.slice none 0 0, S 43 xb.length] 84),
    some (.cells .own [P 6, P 12, P 25, .pointer none, .bool false] 46),
    some (.cells .own [P 6, I first, S 38 (k + 1), I ((wb.length + (4 + (1 + xb.length))) : Nat), .bool false] 219),
    some (.map [] 0),
    some (.cells .own [I 9223372036854775807, I 0, .map (some 10)] 216),
    some (.cells .own [P 6, P 9, P 11, .slice none 0 0, I 0, I taken, S 41 (1 + xb.length - 1), .map none, .bool false] 118)], TN2knn c wb mb rb xb p te xc clock born born2 k first taken nv o16) := by kernel_rfl
theorem testsN2knn (c : List Value) (wb mb rb xb : List UInt8) (p te xc clock born born2 k : Nat) (first taken : Int) (nv : Value) (o16 : AObj) (hw : 0 < wb.length) (hw2 : wb.length ≤ 1000000) (hm2 : mb.length ≤ 10000) (hr : 0 < rb.length) (hr2 : rb.length ≤ 5000) (hx : 0 < xb.length) (hx2 : xb.length ≤ 5000) (hcc : List.drop p c = byteVals xb) (hbo : born < clock) (hb2 : born2 < clock) (hbb : born ≠ born2) (hk0 : 0 < k) (hk : k ≤ 30) (h0 : 0 ≤ first) (h1 : first ≤ 30) : allT (TN2knn c wb mb rb xb p te xc clock born born2 k first taken nv o16) := by
  intro b hb
  simp only [TN2knn, List.mem_cons, List.not_mem_nil, or_false] at hb
  have e0 := wrap_a (Int.ofNat (wb.length + (4 + (1 + xb.length))))
  have e1 := wrap_a (1073741824 - (0 + (mb.length : Int) + (wb.length : Int)))
  have e2 := wrap_a (first + (k : Int) - first)
  have e3 := wrap_a (first + (k : Int))
  rcases hb with hb | hb | hb | hb | hb | hb | hb | hb | hb | hb | hb | hb | hb | hb | hb | hb | hb | hb | hb | hb | hb | hb | hb | hb | hb | hb | hb | hb | hb | hb | hb | hb | hb | hb | hb | hb | hb | hb | hb <;> refine hb.trans ?_ <;> clear hb <;> (try rw [hcc]) <;> (try rw [F1_bytes]) <;> 
  first
  | with_reducible rfl
  | with_reducible exact isSame_refl _
  | (unfold ltT; rw [decide_eq_true_eq]; (try simp only [Int.ofNat_eq_natCast]); omega)
  | (unfold bornT; simp <;> omega)
  | (simp only [e0, e1, e2, e3, wrapM, decide_true, Bool.not_eq_true', decide_eq_true_eq, decide_eq_false_iff_not, Int.ofNat_eq_natCast, gt_iff_lt]; omega)
  | (simp only [bun, capLow, isOpen, oneCell]; omega)
  | (simp only [wrapM, Int.ofNat_eq_natCast, decide_eq_true_eq]; split <;> omega)
  | (simp only [e0, e1, e2, e3, wrapM, Int.ofNat_eq_natCast, decide_eq_true_eq, gt_iff_lt]; (repeat' split) <;> omega)
  | (first | exact z1 (by omega) | exact z2 (by omega) | exact z3 (by omega) | exact z4 (by omega) | exact z5 (by omega) | exact z6 (by omega))
  | (simp [beq_t]; done)
  | rfl
theorem stepN2knn (c : List Value) (wb mb rb xb : List UInt8) (p te xc clock born born2 k : Nat) (first taken : Int) (nv : Value) (o16 : AObj) (hcc : List.drop p c = byteVals xb) :
  ∃ K, (levO Tryz.prog ext WN2knn 300).call 24 #[P 8, opV (.slice (some ⟨20, p, none⟩) xb.length (2 * xc))] (HN2knn c wb mb rb xb p te xc clock born born2 k first taken nv o16) = some (.bool true, K, TN2knn c wb mb rb xb p te xc clock born born2 k first taken nv o16) ∧
    Gen (pairs 5 [(15, 38), (16, 41), (17, 43), (13, 13), (14, 34), (18, 18), (19, 19), (5, 5), (6, 6), (7, 25), (8, 8), (9, 9), (10, 10), (11, 11), (12, 12)]) K (heapOf 20 5 ([(15, tops (k + 1))] ++ [(16, rowO (xb))] ++ [(17, rowO (xb))] ++ (fileO 13 (more wb xb)) ++ (fileO 18 (mb)) ++ (base [walE born, manE born2] clock (S 17 xb.length) (first) (S 15 (k + 1)) (((more wb xb).length : Nat)) (taken) (S 16 xb.length)))) := by
  obtain ⟨⟨v, K, ts⟩, hc, h⟩ := Option.map_eq_some_iff.1 (runN2knn c wb mb rb xb p te xc clock born born2 k first taken nv o16)
  simp only [Prod.mk.injEq, List.map_cons, List.map_nil, List.cons.injEq, and_true] at h
  obtain ⟨rfl, hgl, ⟨h38, h41, h43, h13, h34, h18, h19, h5, h6, h25, h8, h9, h10, h11, h12⟩, rfl⟩ := h
  refine ⟨K, hc, Gen.of_pairs hgl (by decide) ?_⟩
  intro x hm
  simp only [base, fileO, walE, manE, tops, rowO, noneO, List.cons_append, List.nil_append, List.mem_cons, List.not_mem_nil, or_false] at hm
  rcases hm with rfl | rfl | rfl | rfl | rfl | rfl | rfl | rfl | rfl | rfl | rfl | rfl | rfl | rfl | rfl
  · refine fit rfl h38 (OG.open_ _ _ ?_) rfl sameFl
    exact tops_snoc _ _ rfl
  · refine fit rfl h41 (OG.open_ _ _ ?_) rfl sameFl
    rw [hcc]
    exact LG.bytes _
  · refine fit rfl h43 (OG.open_ _ _ ?_) rfl sameFl
    rw [hcc]
    exact LG.bytes _
  · refine fit rfl h13 (OG.own _ ?_) rfl sameFl
    rw [more_length]
    exact LS.ok (by repeat' constructor)
  · refine fit rfl h34 (OG.open_ _ _ ?_) rfl sameFl
    rw [hcc, show F1 (byteVals xb) = F0 xb from rfl, ← more_vals]
    exact LG.bytes _
  · refine fit rfl h18 (OG.own _ ?_) rfl sameFl
    exact LS.ok (by repeat' constructor)
  · refine fit rfl h19 (OG.open_ _ _ ?_) rfl sameFl
    exact LG.bytes _
  · exact fit rfl h5 (OG.map2 (VG.string _) (VG.ptr _ rfl) (VG.string _) (VG.ptr _ rfl)) rfl noFl
  · refine fit rfl h6 (OG.own _ ?_) rfl sameFl
    exact LS.ok (by repeat' constructor)
  · refine fit rfl h25 (OG.own _ ?_) rfl sameFl
    exact LS.ok (by repeat' constructor)
  · refine fit rfl h8 (OG.own _ ?_) rfl sameFl
    exact LS.ok (by repeat' constructor)
  · refine fit rfl h9 (OG.own _ ?_) rfl sameFl
    rw [more_length]
    exact LS.ok (by repeat' constructor)
  · exact fit rfl h10 OG.map0 rfl noFl
  · refine fit rfl h11 (OG.own _ ?_) rfl sameFl
    exact LS.ok (by repeat' constructor)
  · refine fit rfl h12 (OG.own _ ?_) rfl sameFl
    rw [show 1 + xb.length - 1 = xb.length by omega]
    exact LS.ok (by repeat' constructor)
end Go.Proofs.YtabpbpdhapaffaaGreatDoor
end
