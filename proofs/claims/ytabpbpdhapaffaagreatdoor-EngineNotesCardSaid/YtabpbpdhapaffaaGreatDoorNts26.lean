/-
  EngineNotes returns true whatever the notes and what stands between them, part 26: GrO1e, GrO2n, GrO2e, GrND, GrLV4, GrB0, GrLV5, GrLVc, GrLV6. Conditions: none but those of the row.
-/
import Derived.WalkKit
import Derived.Laws.BytesArg
import Derived.Deep.CutRange
import Derived.Deep.RegionWith
import Derived.Deep.LoopGhost
import Derived.Test.YtabpbpdhapaffaaGreatDoorNts13
import Derived.Test.YtabpbpdhapaffaaGreatDoorNts18
import Derived.Test.YtabpbpdhapaffaaGreatDoorNts23
import Derived.Test.YtabpbpdhapaffaaGreatDoorNts25
set_option linter.unusedSimpArgs false
set_option linter.unusedVariables false
section
set_option maxRecDepth 100000
namespace Go.Proofs.YtabpbpdhapaffaaGreatDoor
open Go.Vi
def WO1e : Word := fun _ _ => none
noncomputable def HO1e (born clock : Nat) (es : List (List UInt8)) : AHeap := heapOf 20 5 (disk96 [walE born] clock 0 (frms es) ++ [] ++ [(7, .cells .own [.slice none 0 0, E 17] 84), (17, noneO), (8, .cells .own [P 6, P 12, P 7, .pointer none, .bool false] 46)])
noncomputable def TO1e (born clock : Nat) (es : List (List UInt8)) : List Bool := [true,
  twice (P 6),
  Nat.beq 5 5,
  twice (some (AObj.map [walE born] clock)),
  twice (some (AObj.cells .own [.map (some 5), I 1073741824, Value.int .i64 (Int.negSucc 0), .bool false] 140)),
  twice (some (AObj.cells .own [S 14 ((frms es).length + 12), I ((((frms es).length + 12) : Nat) : Int)] 143)),
  twice (some (AObj.cells (.open_ 1) (byteVals (hd 0 ++ frms es)) 5))]
theorem runO1e (born clock : Nat) (es : List (List UInt8)) :
  ((levO Tryz.prog (extS.with [conE [walE born] clock 0 0 es (.slice (some ⟨23, 0, none⟩) 0 0) (.cells .own [] 5) ([])]) WO1e 300).call 30 #[P 8, .slice none 0 0] (HO1e born clock es)).map (fun r => (r.1, r.2.1.gl, [24, 23, 17, 13, 14, 5, 6, 7, 8, 20, 25, 26, 27].map r.2.1.objs.get, r.2.2)) =
  some (.bool true, 5, [
    some (.cells (.open_ 1) (ents ((frms es).length + 12) 12 es) 57),
    some (.cells .own [] 5),
    some (.cells .own [] 5),
    some (.cells .own [S 14 ((frms es).length + 12), I ((((frms es).length + 12) : Nat) : Int)] 143),
    some (.cells (.open_ 1) (byteVals (hd 0 ++ frms es)) 5),
    some (.map [⟨.string "wal".toUTF8, P 13, born⟩] clock),
    some (.cells .own [.map (some 5), I 1073741824, I (-1), .bool false] 140),
    some (.cells .own [.slice none 0 0, E 17] 84),
    some (.cells .own [P 6, P 27, P 7, .pointer none, .bool false] 46),
    some (.cells .own [P 6, I (0), S 24 es.length, I ((((frms es).length + 12) : Nat) : Int), .bool false] 219),
    some (.map [] 0),
    some (.cells .own [I 9223372036854775807, I 0, .map (some 25)] 216),
    some (.cells .own [P 6, P 20, P 26, .slice none 0 0, I 0, I (0), E 23, .map none, .bool false] 118)], TO1e born clock es) := by kernel_rfl
theorem testsO1e (born clock : Nat) (es : List (List UInt8))  : allT (TO1e born clock es) := by
  intro b hb
  simp only [TO1e, List.mem_cons, List.not_mem_nil, or_false] at hb
  rcases hb with hb | hb | hb | hb | hb | hb | hb <;> refine hb.trans ?_ <;> clear hb <;> 
  first
  | with_reducible rfl
  | with_reducible exact isSame_refl _
  | with_reducible exact twice_ok _
  | (unfold ltT; rw [decide_eq_true_eq]; (try simp only [Int.ofNat_eq_natCast]); omega)
  | (unfold bornT; simp <;> omega)
  | (simp only [wrapM, decide_true, Bool.not_eq_true', decide_eq_true_eq, decide_eq_false_iff_not, Int.ofNat_eq_natCast, gt_iff_lt]; omega)
  | (simp only [bun, capLow, isOpen, oneCell]; omega)
  | (simp only [wrapM, Int.ofNat_eq_natCast, decide_eq_true_eq]; split <;> omega)
  | (simp only [wrapM, Int.ofNat_eq_natCast, decide_eq_true_eq, gt_iff_lt]; (repeat' split) <;> omega)
  | (first | exact z1 (by omega) | exact z2 (by omega) | exact z3 (by omega) | exact z4 (by omega) | exact z5 (by omega) | exact z6 (by omega))
  | (simp [beq_t]; done)
  | rfl
theorem stepO1e (born clock : Nat) (es : List (List UInt8))  :
  ∃ K, (levO Tryz.prog (extS.with [conE [walE born] clock 0 0 es (.slice (some ⟨23, 0, none⟩) 0 0) (.cells .own [] 5) ([])]) WO1e 300).call 30 #[P 8, .slice none 0 0] (HO1e born clock es) = some (.bool true, K, TO1e born clock es) ∧
    Gen (pairs 5 [(15, 24), (16, 23), (17, 17), (13, 13), (14, 14), (5, 5), (6, 6), (7, 7), (8, 8), (9, 20), (10, 25), (11, 26), (12, 27)]) K (heapOf 20 5 ([(15, tops (es.length))] ++ [(16, noneO)] ++ [(17, noneO)] ++ (fileO 13 (hd 0 ++ frms es)) ++ (base [walE born] clock (E 17) (0) (S 15 es.length) (((hd 0 ++ frms es).length : Nat)) (0) (E 16)))) := by
  obtain ⟨⟨v, K, ts⟩, hc, h⟩ := Option.map_eq_some_iff.1 (runO1e born clock es)
  simp only [Prod.mk.injEq, List.map_cons, List.map_nil, List.cons.injEq, and_true] at h
  obtain ⟨rfl, hgl, ⟨h24, h23, h17, h13, h14, h5, h6, h7, h8, h20, h25, h26, h27⟩, rfl⟩ := h
  refine ⟨K, hc, Gen.of_pairs hgl (by decide) ?_⟩
  intro x hm
  simp only [base, fileO, walE, manE, tops, rowO, noneO, List.cons_append, List.nil_append, List.mem_cons, List.not_mem_nil, or_false] at hm
  rcases hm with rfl | rfl | rfl | rfl | rfl | rfl | rfl | rfl | rfl | rfl | rfl | rfl | rfl
  · refine fit rfl h24 (OG.open_ _ _ ?_) rfl sameFl
    exact ents_tops _ _ _
  · refine fit rfl h23 (OG.own _ ?_) rfl sameFl
    exact LS.ok (by repeat' constructor)
  · refine fit rfl h17 (OG.own _ ?_) rfl sameFl
    exact LS.ok (by repeat' constructor)
  · refine fit rfl h13 (OG.own _ ?_) rfl sameFl
    rw [hlen]
    exact LS.ok (by repeat' constructor)
  · refine fit rfl h14 (OG.open_ _ _ ?_) rfl sameFl
    exact LG.bytes _
  · exact fit rfl h5 (OG.map1 (VG.string _) (VG.ptr _ rfl)) rfl noFl
  · refine fit rfl h6 (OG.own _ ?_) rfl sameFl
    exact LS.ok (by repeat' constructor)
  · refine fit rfl h7 (OG.own _ ?_) rfl sameFl
    exact LS.ok (by repeat' constructor)
  · refine fit rfl h8 (OG.own _ ?_) rfl sameFl
    exact LS.ok (by repeat' constructor)
  · refine fit rfl h20 (OG.own _ ?_) rfl sameFl
    rw [hlen]
    exact LS.ok (by repeat' constructor)
  · exact fit rfl h25 OG.map0 rfl noFl
  · refine fit rfl h26 (OG.own _ ?_) rfl sameFl
    exact LS.ok (by repeat' constructor)
  · refine fit rfl h27 (OG.own _ ?_) rfl sameFl
    exact LS.ok (by repeat' constructor)
def WO2n : Word := fun o _ => match o.dst with
  | some 4 => bif o.pos == "bytes.go:1392" then some 0 else none
  | some 7 => bif o.pos == "bytes.go:1395" then some 14 else none
  | some 16 => bif o.pos == "law.go:57" then some 0 else none
  | some 21 => bif o.pos == "law.go:57" then some 0 else none
  | some 22 => bif o.pos == "law.go:57" then some 1 else none
  | _ => none
noncomputable def HO2n (born born2 clock first : Nat) (es : List (List UInt8)) (e : List UInt8) (mb : List UInt8) : AHeap := heapOf 20 5 (disk96 [walE born, manE born2] clock first (frms es) ++ manO mb.length (byteVals mb) ++ [(7, .cells .own [.slice none 0 0, S 17 e.length] 84), (17, rowO e), (8, .cells .own [P 6, P 12, P 7, .pointer none, .bool false] 46)])
noncomputable def TO2n (born born2 clock first : Nat) (es : List (List UInt8)) (e : List UInt8) (mb : List UInt8) : List Bool := [reRead e && true && (Nat.beq 17 17 && Nat.beq 0 0 && true && true && e.length.beq e.length && (2 * e.length + 1).beq (2 * e.length + 1) && (Nat.beq 17 17 && Nat.beq 0 0 && true && true && e.length.beq e.length && (2 * e.length + 1).beq (2 * e.length + 1) && true) && (reRead e && (reRead e && true) && true)),
  eqStr e,
  !e.length.beq 0 && ((List.take e.length (List.drop 0 (byteVals e))).length.beq e.length && (bytesL (List.take e.length (byteVals e))).isSome),
  !e.length.beq 0 && ((List.take e.length (byteVals e)).length.beq e.length && (bytesL (List.take e.length (byteVals e))).isSome),
  !e.length.beq 0 && (byteVals e).length.beq (0 + e.length) && (!(0 + e.length).ble (capLow (2 * 0)) && (((0 + e.length) * 2 * (1 + 1)).ble 140737488355328 && ((byteVals e).all oneCell && (byteVals e).length.beq (0 + e.length)))) && (!isOpen (2 * 0) && Nat.beq 0 0),
  true,
  twice (P 6),
  Nat.beq 5 5,
  twice (some (AObj.map [walE born, manE born2] clock)),
  twice (some (AObj.cells .own [.map (some 5), I 1073741824, Value.int .i64 (Int.negSucc 0), .bool false] 140)),
  twice (some (AObj.cells .own [S 14 ((frms es).length + 12), I ((((frms es).length + 12) : Nat) : Int)] 143)),
  twice (some (AObj.cells (.open_ 1) (byteVals (hd first ++ frms es)) 5)),
  twice (some (AObj.cells .own [S 19 mb.length, I (mb.length : Int)] 143)),
  twice (some (AObj.cells (.open_ 1) (byteVals mb) 5))]
theorem runO2n (born born2 clock first : Nat) (es : List (List UInt8)) (e : List UInt8) (mb : List UInt8) :
  ((levO Tryz.prog (extS.with [conE [walE born, manE born2] clock first first es (.slice (some ⟨23, 0, none⟩) e.length (2 * e.length + 1)) (.cells (.open_ 1) (byteVals e) 5) (manO mb.length (byteVals mb))]) WO2n 300).call 30 #[P 8, .slice none 0 0] (HO2n born born2 clock first es e mb)).map (fun r => (r.1, r.2.1.gl, [24, 23, 17, 13, 14, 18, 19, 5, 6, 7, 8, 20, 25, 26, 27].map r.2.1.objs.get, r.2.2)) =
  some (.bool true, 5, [
    some (.cells (.open_ 1) (ents ((frms es).length + 12) 12 es) 57),
    some (.cells (.open_ 1) (byteVals (e)) 5),
    some (.cells (.open_ 1) (byteVals (e)) 5),
    some (.cells .own [S 14 ((frms es).length + 12), I ((((frms es).length + 12) : Nat) : Int)] 143),
    some (.cells (.open_ 1) (byteVals (hd first ++ frms es)) 5),
    some (.cells .own [S 19 (mb).length, I ((mb).length : Nat)] 143),
    some (.cells (.open_ 1) (byteVals (mb)) 5),
    some (.map [⟨.string "wal".toUTF8, P 13, born⟩, ⟨.string "manifest".toUTF8, P 18, born2⟩] clock),
    some (.cells .own [.map (some 5), I 1073741824, I (-1), .bool false] 140),
    some (.cells .own [.slice none 0 0, S 17 e.length] 84),
    some (.cells .own [P 6, P 27, P 7, .pointer none, .bool false] 46),
    some (.cells .own [P 6, I ((first : Nat)), S 24 es.length, I ((((frms es).length + 12) : Nat) : Int), .bool false] 219),
    some (.map [] 0),
    some (.cells .own [I 9223372036854775807, I 0, .map (some 25)] 216),
    some (.cells .own [P 6, P 20, P 26, .slice none 0 0, I 0, I ((first : Nat)), S 23 e.length, .map none, .bool false] 118)], TO2n born born2 clock first es e mb) := by kernel_rfl
theorem testsO2n (born born2 clock first : Nat) (es : List (List UInt8)) (e : List UInt8) (mb : List UInt8) (h0 : 0 < e.length) (h5 : e.length ≤ 5000) : allT (TO2n born born2 clock first es e mb) := by
  intro b hb
  simp only [TO2n, List.mem_cons, List.not_mem_nil, or_false] at hb
  rcases hb with hb | hb | hb | hb | hb | hb | hb | hb | hb | hb | hb | hb | hb | hb <;> refine hb.trans ?_ <;> clear hb <;> 
  first
  | with_reducible rfl
  | with_reducible exact isSame_refl _
  | with_reducible exact twice_ok _
  | exact eqStr_ok _
  | (simp only [reRead_ok h0, Nat.beq_refl, Bool.and_self]; done)
  | (simp only [bytesL_byteVals, take_byteVals, List.drop_zero, Bool.and_eq_true, Bool.not_eq_true', beq_t, beq_f, byteVals_length, Option.isSome_some, and_true]; omega)
  | (unfold ltT; rw [decide_eq_true_eq]; (try simp only [Int.ofNat_eq_natCast]); omega)
  | (unfold bornT; simp <;> omega)
  | (simp only [wrapM, decide_true, Bool.not_eq_true', decide_eq_true_eq, decide_eq_false_iff_not, Int.ofNat_eq_natCast, gt_iff_lt]; omega)
  | (simp only [bun, capLow, isOpen, oneCell]; omega)
  | (simp only [wrapM, Int.ofNat_eq_natCast, decide_eq_true_eq]; split <;> omega)
  | (simp only [wrapM, Int.ofNat_eq_natCast, decide_eq_true_eq, gt_iff_lt]; (repeat' split) <;> omega)
  | (first | exact z1 (by omega) | exact z2 (by omega) | exact z3 (by omega) | exact z4 (by omega) | exact z5 (by omega) | exact z6 (by omega))
  | (simp [beq_t]; done)
  | rfl
theorem stepO2n (born born2 clock first : Nat) (es : List (List UInt8)) (e : List UInt8) (mb : List UInt8)  :
  ∃ K, (levO Tryz.prog (extS.with [conE [walE born, manE born2] clock first first es (.slice (some ⟨23, 0, none⟩) e.length (2 * e.length + 1)) (.cells (.open_ 1) (byteVals e) 5) (manO mb.length (byteVals mb))]) WO2n 300).call 30 #[P 8, .slice none 0 0] (HO2n born born2 clock first es e mb) = some (.bool true, K, TO2n born born2 clock first es e mb) ∧
    Gen (pairs 5 [(15, 24), (16, 23), (17, 17), (13, 13), (14, 14), (18, 18), (19, 19), (5, 5), (6, 6), (7, 7), (8, 8), (9, 20), (10, 25), (11, 26), (12, 27)]) K (heapOf 20 5 ([(15, tops (es.length))] ++ [(16, rowO (e))] ++ [(17, rowO (e))] ++ (fileO 13 (hd first ++ frms es)) ++ (fileO 18 (mb)) ++ (base [walE born, manE born2] clock (S 17 e.length) ((first : Nat)) (S 15 es.length) (((hd first ++ frms es).length : Nat)) ((first : Nat)) (S 16 e.length)))) := by
  obtain ⟨⟨v, K, ts⟩, hc, h⟩ := Option.map_eq_some_iff.1 (runO2n born born2 clock first es e mb)
  simp only [Prod.mk.injEq, List.map_cons, List.map_nil, List.cons.injEq, and_true] at h
  obtain ⟨rfl, hgl, ⟨h24, h23, h17, h13, h14, h18, h19, h5, h6, h7, h8, h20, h25, h26, h27⟩, rfl⟩ := h
  refine ⟨K, hc, Gen.of_pairs hgl (by decide) ?_⟩
  intro x hm
  simp only [base, fileO, walE, manE, tops, rowO, noneO, List.cons_append, List.nil_append, List.mem_cons, List.not_mem_nil, or_false] at hm
  rcases hm with rfl | rfl | rfl | rfl | rfl | rfl | rfl | rfl | rfl | rfl | rfl | rfl | rfl | rfl | rfl
  · refine fit rfl h24 (OG.open_ _ _ ?_) rfl sameFl
    exact ents_tops _ _ _
  · refine fit rfl h23 (OG.open_ _ _ ?_) rfl sameFl
    exact LG.bytes _
  · refine fit rfl h17 (OG.open_ _ _ ?_) rfl sameFl
    exact LG.bytes _
  · refine fit rfl h13 (OG.own _ ?_) rfl sameFl
    rw [hlen]
    exact LS.ok (by repeat' constructor)
  · refine fit rfl h14 (OG.open_ _ _ ?_) rfl sameFl
    exact LG.bytes _
  · refine fit rfl h18 (OG.own _ ?_) rfl sameFl
    exact LS.ok (by repeat' constructor)
  · refine fit rfl h19 (OG.open_ _ _ ?_) rfl sameFl
    exact LG.bytes _
  · exact fit rfl h5 (OG.map2 (VG.string _) (VG.ptr _ rfl) (VG.string _) (VG.ptr _ rfl)) rfl noFl
  · refine fit rfl h6 (OG.own _ ?_) rfl sameFl
    exact LS.ok (by repeat' constructor)
  · refine fit rfl h7 (OG.own _ ?_) rfl sameFl
    exact LS.ok (by repeat' constructor)
  · refine fit rfl h8 (OG.own _ ?_) rfl sameFl
    exact LS.ok (by repeat' constructor)
  · refine fit rfl h20 (OG.own _ ?_) rfl sameFl
    rw [hlen]
    exact LS.ok (by repeat' constructor)
  · exact fit rfl h25 OG.map0 rfl noFl
  · refine fit rfl h26 (OG.own _ ?_) rfl sameFl
    exact LS.ok (by repeat' constructor)
  · refine fit rfl h27 (OG.own _ ?_) rfl sameFl
    exact LS.ok (by repeat' constructor)
def WO2e : Word := fun _ _ => none
noncomputable def HO2e (born born2 clock first : Nat) (es : List (List UInt8)) (mb : List UInt8) : AHeap := heapOf 20 5 (disk96 [walE born, manE born2] clock first (frms es) ++ manO mb.length (byteVals mb) ++ [(7, .cells .own [.slice none 0 0, E 17] 84), (17, noneO), (8, .cells .own [P 6, P 12, P 7, .pointer none, .bool false] 46)])
noncomputable def TO2e (born born2 clock first : Nat) (es : List (List UInt8)) (mb : List UInt8) : List Bool := [true,
  twice (P 6),
  Nat.beq 5 5,
  twice (some (AObj.map [walE born, manE born2] clock)),
  twice (some (AObj.cells .own [.map (some 5), I 1073741824, Value.int .i64 (Int.negSucc 0), .bool false] 140)),
  twice (some (AObj.cells .own [S 14 ((frms es).length + 12), I ((((frms es).length + 12) : Nat) : Int)] 143)),
  twice (some (AObj.cells (.open_ 1) (byteVals (hd first ++ frms es)) 5)),
  twice (some (AObj.cells .own [S 19 mb.length, I (mb.length : Int)] 143)),
  twice (some (AObj.cells (.open_ 1) (byteVals mb) 5))]
theorem runO2e (born born2 clock first : Nat) (es : List (List UInt8)) (mb : List UInt8) :
  ((levO Tryz.prog (extS.with [conE [walE born, manE born2] clock first first es (.slice (some ⟨23, 0, none⟩) 0 0) (.cells .own [] 5) (manO mb.length (byteVals mb))]) WO2e 300).call 30 #[P 8, .slice none 0 0] (HO2e born born2 clock first es mb)).map (fun r => (r.1, r.2.1.gl, [24, 23, 17, 13, 14, 18, 19, 5, 6, 7, 8, 20, 25, 26, 27].map r.2.1.objs.get, r.2.2)) =
  some (.bool true, 5, [
    some (.cells (.open_ 1) (ents ((frms es).length + 12) 12 es) 57),
    some (.cells .own [] 5),
    some (.cells .own [] 5),
    some (.cells .own [S 14 ((frms es).length + 12), I ((((frms es).length + 12) : Nat) : Int)] 143),
    some (.cells (.open_ 1) (byteVals (hd first ++ frms es)) 5),
    some (.cells .own [S 19 (mb).length, I ((mb).length : Nat)] 143),
    some (.cells (.open_ 1) (byteVals (mb)) 5),
    some (.map [⟨.string "wal".toUTF8, P 13, born⟩, ⟨.string "manifest".toUTF8, P 18, born2⟩] clock),
    some (.cells .own [.map (some 5), I 1073741824, I (-1), .bool false] 140),
    some (.cells .own [.slice none 0 0, E 17] 84),
    some (.cells .own [P 6, P 27, P 7, .pointer none, .bool false] 46),
    some (.cells .own [P 6, I ((first : Nat)), S 24 es.length, I ((((frms es).length + 12) : Nat) : Int), .bool false] 219),
    some (.map [] 0),
    some (.cells .own [I 9223372036854775807, I 0, .map (some 25)] 216),
    some (.cells .own [P 6, P 20, P 26, .slice none 0 0, I 0, I ((first : Nat)), E 23, .map none, .bool false] 118)], TO2e born born2 clock first es mb) := by kernel_rfl
theorem testsO2e (born born2 clock first : Nat) (es : List (List UInt8)) (mb : List UInt8)  : allT (TO2e born born2 clock first es mb) := by
  intro b hb
  simp only [TO2e, List.mem_cons, List.not_mem_nil, or_false] at hb
  rcases hb with hb | hb | hb | hb | hb | hb | hb | hb | hb <;> refine hb.trans ?_ <;> clear hb <;> 
  first
  | with_reducible rfl
  | with_reducible exact isSame_refl _
  | with_reducible exact twice_ok _
  | (unfold ltT; rw [decide_eq_true_eq]; (try simp only [Int.ofNat_eq_natCast]); omega)
  | (unfold bornT; simp <;> omega)
  | (simp only [wrapM, decide_true, Bool.not_eq_true', decide_eq_true_eq, decide_eq_false_iff_not, Int.ofNat_eq_natCast, gt_iff_lt]; omega)
  | (simp only [bun, capLow, isOpen, oneCell]; omega)
  | (simp only [wrapM, Int.ofNat_eq_natCast, decide_eq_true_eq]; split <;> omega)
  | (simp only [wrapM, Int.ofNat_eq_natCast, decide_eq_true_eq, gt_iff_lt]; (repeat' split) <;> omega)
  | (first | exact z1 (by omega) | exact z2 (by omega) | exact z3 (by omega) | exact z4 (by omega) | exact z5 (by omega) | exact z6 (by omega))
  | (simp [beq_t]; done)
  | rfl
theorem stepO2e (born born2 clock first : Nat) (es : List (List UInt8)) (mb : List UInt8)  :
  ∃ K, (levO Tryz.prog (extS.with [conE [walE born, manE born2] clock first first es (.slice (some ⟨23, 0, none⟩) 0 0) (.cells .own [] 5) (manO mb.length (byteVals mb))]) WO2e 300).call 30 #[P 8, .slice none 0 0] (HO2e born born2 clock first es mb) = some (.bool true, K, TO2e born born2 clock first es mb) ∧
    Gen (pairs 5 [(15, 24), (16, 23), (17, 17), (13, 13), (14, 14), (18, 18), (19, 19), (5, 5), (6, 6), (7, 7), (8, 8), (9, 20), (10, 25), (11, 26), (12, 27)]) K (heapOf 20 5 ([(15, tops (es.length))] ++ [(16, noneO)] ++ [(17, noneO)] ++ (fileO 13 (hd first ++ frms es)) ++ (fileO 18 (mb)) ++ (base [walE born, manE born2] clock (E 17) ((first : Nat)) (S 15 es.length) (((hd first ++ frms es).length : Nat)) ((first : Nat)) (E 16)))) := by
  obtain ⟨⟨v, K, ts⟩, hc, h⟩ := Option.map_eq_some_iff.1 (runO2e born born2 clock first es mb)
  simp only [Prod.mk.injEq, List.map_cons, List.map_nil, List.cons.injEq, and_true] at h
  obtain ⟨rfl, hgl, ⟨h24, h23, h17, h13, h14, h18, h19, h5, h6, h7, h8, h20, h25, h26, h27⟩, rfl⟩ := h
  refine ⟨K, hc, Gen.of_pairs hgl (by decide) ?_⟩
  intro x hm
  simp only [base, fileO, walE, manE, tops, rowO, noneO, List.cons_append, List.nil_append, List.mem_cons, List.not_mem_nil, or_false] at hm
  rcases hm with rfl | rfl | rfl | rfl | rfl | rfl | rfl | rfl | rfl | rfl | rfl | rfl | rfl | rfl | rfl
  · refine fit rfl h24 (OG.open_ _ _ ?_) rfl sameFl
    exact ents_tops _ _ _
  · refine fit rfl h23 (OG.own _ ?_) rfl sameFl
    exact LS.ok (by repeat' constructor)
  · refine fit rfl h17 (OG.own _ ?_) rfl sameFl
    exact LS.ok (by repeat' constructor)
  · refine fit rfl h13 (OG.own _ ?_) rfl sameFl
    rw [hlen]
    exact LS.ok (by repeat' constructor)
  · refine fit rfl h14 (OG.open_ _ _ ?_) rfl sameFl
    exact LG.bytes _
  · refine fit rfl h18 (OG.own _ ?_) rfl sameFl
    exact LS.ok (by repeat' constructor)
  · refine fit rfl h19 (OG.open_ _ _ ?_) rfl sameFl
    exact LG.bytes _
  · exact fit rfl h5 (OG.map2 (VG.string _) (VG.ptr _ rfl) (VG.string _) (VG.ptr _ rfl)) rfl noFl
  · refine fit rfl h6 (OG.own _ ?_) rfl sameFl
    exact LS.ok (by repeat' constructor)
  · refine fit rfl h7 (OG.own _ ?_) rfl sameFl
    exact LS.ok (by repeat' constructor)
  · refine fit rfl h8 (OG.own _ ?_) rfl sameFl
    exact LS.ok (by repeat' constructor)
  · refine fit rfl h20 (OG.own _ ?_) rfl sameFl
    rw [hlen]
    exact LS.ok (by repeat' constructor)
  · exact fit rfl h25 OG.map0 rfl noFl
  · refine fit rfl h26 (OG.own _ ?_) rfl sameFl
    exact LS.ok (by repeat' constructor)
  · refine fit rfl h27 (OG.own _ ?_) rfl sameFl
    exact LS.ok (by repeat' constructor)
def WNDn : Word := fun o _ => match o.dst with
  | some 4 => bif o.pos == "bytes.go:1392" then some 0 else none
  | some 7 => bif o.pos == "bytes.go:1395" then some 14 else none
  | _ => none

def HNDn (e : List UInt8) (taken : Int) : AHeap := heapOf 20 5 [(12, .cells .own [P 6, P 9, P 11, .slice none 0 0, I 0, I taken, S 16 e.length, .map none, .bool false] 118), (16, rowO e)]
def TNDn (e : List UInt8) (taken : Int) : List Bool := [!e.length.beq 0 && (byteVals e).length.beq (0 + e.length) && (!(0 + e.length).ble (capLow (2 * 0)) && (((0 + e.length) * 2 * (1 + 1)).ble 140737488355328 && ((byteVals e).all oneCell && (byteVals e).length.beq (0 + e.length)))) && (!isOpen (2 * 0) && Nat.beq 0 0),
  true]
theorem runNDn (e : List UInt8) (taken : Int) :
  ((levO Tryz.prog extS WNDn 300).call 31 #[P 12] (HNDn e taken)).map (fun r => (r.1, r.2.1.gl, r.2.1.next, r.2.1.objs.get 12, r.2.1.objs.get 16, r.2.1.objs.get 21, r.2.2)) =
  some (S 21 e.length, 5, 22, some (.cells .own [P 6, P 9, P 11, .slice none 0 0, I 0, I taken, S 16 e.length, .map none, .bool false] 118), some (rowO e), some (rowO e), TNDn e taken) := by kernel_rfl
theorem testsNDn (e : List UInt8) (taken : Int) (h0 : 0 < e.length) (h5 : e.length ≤ 5000) : allT (TNDn e taken) := by
  intro b hb
  simp only [TNDn, List.mem_cons, List.not_mem_nil, or_false] at hb
  rcases hb with hb | hb <;> refine hb.trans ?_ <;> clear hb <;> 
  first
  | with_reducible rfl
  | with_reducible exact isSame_refl _
  | (unfold ltT; rw [decide_eq_true_eq]; (try simp only [Int.ofNat_eq_natCast]); omega)
  | (unfold bornT; simp <;> omega)
  | (simp only [wrapM, decide_true, Bool.not_eq_true', decide_eq_true_eq, decide_eq_false_iff_not, Int.ofNat_eq_natCast, gt_iff_lt]; omega)
  | (simp only [bun, capLow, isOpen, oneCell]; omega)
  | (simp only [wrapM, Int.ofNat_eq_natCast, decide_eq_true_eq]; split <;> omega)
  | (simp only [wrapM, Int.ofNat_eq_natCast, decide_eq_true_eq, gt_iff_lt]; (repeat' split) <;> omega)
  | (first | exact z1 (by omega) | exact z2 (by omega) | exact z3 (by omega) | exact z4 (by omega) | exact z5 (by omega) | exact z6 (by omega))
  | (simp [beq_t]; done)
  | rfl
def conNDn (e : List UInt8) (taken : Int) : Con := ⟨31, 20, 5, [P 12], [(12, .cells .own [P 6, P 9, P 11, .slice none 0 0, I 0, I taken, S 16 e.length, .map none, .bool false] 118), (16, rowO e)], S 21 e.length, 22, [(12, .cells .own [P 6, P 9, P 11, .slice none 0 0, I 0, I taken, S 16 e.length, .map none, .bool false] 118), (16, rowO e), (21, rowO e)]⟩
theorem conNDn_ok (e : List UInt8) (taken : Int) (h0 : 0 < e.length) (h5 : e.length ≤ 5000) : Con.Ok Tryz.prog (conNDn e taken) := by
  have hr := runNDn e taken
  cases hc : ((levO Tryz.prog extS WNDn 300).call 31 #[P 12] (HNDn e taken)) with
  | none => rw [hc] at hr; cases hr
  | some r =>
    obtain ⟨v, K, ts⟩ := r
    rw [hc] at hr
    simp only [Option.map_some, Option.some.injEq, Prod.mk.injEq] at hr
    obtain ⟨rfl, hgl, hnx, h12, h16, h20, rfl⟩ := hr
    exact Con.ok_of_run (c := conNDn e taken) mixedO extS_ok 300 hc (testsNDn e taken h0 h5) hnx hgl (fun x hx => by
      simp only [conNDn, List.mem_cons, List.not_mem_nil, or_false] at hx
      rcases hx with rfl | rfl | rfl
      · exact h12
      · exact h16
      · exact h20) (by first | (simp [Con.fits, conNDn]; done) | (simp [Con.fits, conNDn]; rfl))
def WNDe : Word := fun o _ => match o.dst with
  | _ => none

def HNDe (taken : Int) : AHeap := heapOf 20 5 [(12, .cells .own [P 6, P 9, P 11, .slice none 0 0, I 0, I taken, E 16, .map none, .bool false] 118), (16, noneO)]
def TNDe (taken : Int) : List Bool := []
theorem runNDe (taken : Int) :
  ((levO Tryz.prog extS WNDe 300).call 31 #[P 12] (HNDe taken)).map (fun r => (r.1, r.2.1.gl, r.2.1.next, r.2.1.objs.get 12, r.2.1.objs.get 16, r.2.1.objs.get 20, r.2.2)) =
  some (E 20, 5, 21, some (.cells .own [P 6, P 9, P 11, .slice none 0 0, I 0, I taken, E 16, .map none, .bool false] 118), some (noneO), some (noneO), TNDe taken) := by kernel_rfl
theorem testsNDe (taken : Int)  : allT (TNDe taken) := fun b hb => absurd hb List.not_mem_nil
def conNDe (taken : Int) : Con := ⟨31, 20, 5, [P 12], [(12, .cells .own [P 6, P 9, P 11, .slice none 0 0, I 0, I taken, E 16, .map none, .bool false] 118), (16, noneO)], E 20, 21, [(12, .cells .own [P 6, P 9, P 11, .slice none 0 0, I 0, I taken, E 16, .map none, .bool false] 118), (16, noneO), (20, noneO)]⟩
theorem conNDe_ok (taken : Int)  : Con.Ok Tryz.prog (conNDe taken) := by
  have hr := runNDe taken
  cases hc : ((levO Tryz.prog extS WNDe 300).call 31 #[P 12] (HNDe taken)) with
  | none => rw [hc] at hr; cases hr
  | some r =>
    obtain ⟨v, K, ts⟩ := r
    rw [hc] at hr
    simp only [Option.map_some, Option.some.injEq, Prod.mk.injEq] at hr
    obtain ⟨rfl, hgl, hnx, h12, h16, h20, rfl⟩ := hr
    exact Con.ok_of_run (c := conNDe taken) mixedO extS_ok 300 hc (testsNDe taken) hnx hgl (fun x hx => by
      simp only [conNDe, List.mem_cons, List.not_mem_nil, or_false] at hx
      rcases hx with rfl | rfl | rfl
      · exact h12
      · exact h16
      · exact h20) (by first | (simp [Con.fits, conNDe]; done) | (simp [Con.fits, conNDe]; rfl))
section
variable {N : Nat} {w0 w : World} {φ : Ren}
theorem open1 {born clock b : Nat} {es : List (List UInt8)} {e : List UInt8} (h : At N w0 φ (hF1 born clock es.length (hd 0 ++ frms es) e) w) (hb : φ 8 = some b) (hl : lastOf es = e) (hne : 0 < es.length) (he : ∀ e ∈ es, e.length ≤ 5000) (he5 : e.length ≤ 5000) (hk : es.length ≤ 30) (hT : (frms es).length ≤ 1000000) (hbo : born < clock) :
    Calls Tryz.prog 30 #[.pointer (some ⟨b, 0, none⟩), .slice none 0 0] w fun r w' => r = .returned (.bool true) ∧ ∃ ψ, At N w0 ψ (hF1 born clock es.length (hd 0 ++ frms es) e) w' ∧ ψ 8 = some b := by
  have hc := conE1_ok hl hne he hk hT hbo
  cases e with
  | nil =>
    obtain ⟨K, hK, g⟩ := stepO1e born clock es
    exact fin (ExtOk.with extS_ok fun x hx => by rw [List.mem_singleton.1 hx]; exact hc) h rfl rfl (by kernel_rfl) hK (testsO1e born clock es) vr_bool (AR.two (.ptr hb) .sliceNil) g (by kernel_rfl) rfl hb
  | cons a e =>
    obtain ⟨K, hK, g⟩ := stepO1n born clock es (a :: e)
    exact fin (ExtOk.with extS_ok fun x hx => by rw [List.mem_singleton.1 hx]; exact hc) h rfl rfl (by kernel_rfl) hK (testsO1n born clock es (a :: e) (by simp) he5) vr_bool (AR.two (.ptr hb) .sliceNil) g (by kernel_rfl) rfl hb
theorem open2 {born born2 clock first b : Nat} {es : List (List UInt8)} {e nb : List UInt8} (h : At N w0 φ (hF2 born born2 clock first es.length (hd first ++ frms es) (man first nb) e) w) (hb : φ 8 = some b) (hl : lastOf es = e) (hne : 0 < es.length) (he : ∀ e ∈ es, e.length ≤ 5000) (he5 : e.length ≤ 5000) (hk : es.length ≤ 30) (hT : (frms es).length ≤ 1000000)
    (hbo : born < clock) (hb2 : born2 < clock) (hbb : born ≠ born2) (hf : first ≤ 60) (h0 : 0 < first) (hn : nb.length ≤ 5000) :
    Calls Tryz.prog 30 #[.pointer (some ⟨b, 0, none⟩), .slice none 0 0] w fun r w' => r = .returned (.bool true) ∧ ∃ ψ, At N w0 ψ (hF2 born born2 clock first es.length (hd first ++ frms es) (man first nb) e) w' ∧ ψ 8 = some b := by
  have hc := conE2_ok hl hne he hk hT hbo hb2 hbb hf h0 hn
  cases e with
  | nil =>
    obtain ⟨K, hK, g⟩ := stepO2e born born2 clock first es (man first nb)
    exact fin (ExtOk.with extS_ok fun x hx => by rw [List.mem_singleton.1 hx]; exact hc) h rfl rfl (by kernel_rfl) hK (testsO2e born born2 clock first es (man first nb)) vr_bool (AR.two (.ptr hb) .sliceNil) g (by kernel_rfl) rfl hb
  | cons a e =>
    obtain ⟨K, hK, g⟩ := stepO2n born born2 clock first es (a :: e) (man first nb)
    exact fin (ExtOk.with extS_ok fun x hx => by rw [List.mem_singleton.1 hx]; exact hc) h rfl rfl (by kernel_rfl) hK (testsO2n born born2 clock first es (a :: e) (man first nb) (by simp) he5) vr_bool (AR.two (.ptr hb) .sliceNil) g (by kernel_rfl) rfl hb
def engV (taken : Int) (e : List UInt8) : AObj := .cells .own [P 6, P 9, P 11, .slice none 0 0, I 0, I taken, eV 16 e, .map none, .bool false] 118
theorem con_keep {H : AHeap} {o12 o16 r : AObj} {i12 n : Nat} (hn : 20 ≤ n) (hlt : ∀ i o, H.objs.get i = some o → i < 20) (p12 : H.objs.get 12 = some o12) (p16 : H.objs.get 16 = some o16) :
    ∀ i o, H.objs.get i = some o → (puts [(12, o12), (16, o16), (n, r)] (dels [(12, o12), (16, o16)] H.objs)).get i = some o := by
  intro i o hi
  have hi20 := hlt i o hi
  show (T.put (T.put (T.put (T.del (T.del H.objs 16) 12) n r) 16 o16) 12 o12).get i = some o
  rw [T.get_put, T.get_put, T.get_put, T.get_del, T.get_del]
  by_cases h1 : i = 12
  · subst h1; rw [if_pos rfl]; rw [p12] at hi; exact hi
  · rw [if_neg h1]
    by_cases h2 : i = 16
    · subst h2; rw [if_pos rfl]; rw [p16] at hi; exact hi
    · rw [if_neg h2, if_neg (by omega), if_neg h1, if_neg h2]; exact hi
/-- The engine's note, told. -/
theorem noted {l : List (Nat × AObj)} {b b12 : Nat} {e : List UInt8} {taken : Int} (h : At N w0 φ (heapOf 20 5 l) w) (hb : φ 8 = some b) (h12 : φ 12 = some b12) (p12 : (heapOf 20 5 l).objs.get 12 = some (engV taken e)) (p16 : (heapOf 20 5 l).objs.get 16 = some (eO e)) (hpl : (l.all fun p => p.2.plain) = true) (he5 : e.length ≤ 5000) :
    Calls Tryz.prog 31 #[.pointer (some ⟨b12, 0, none⟩)] w fun r w' => ∃ k c, r = .returned (.slice (some ⟨k, 0, none⟩) e.length c) ∧ (∀ (j : Nat) (u : UInt8), e[j]? = some u → w'.cell? ⟨k, j, none⟩ = some (.int .u8 (u.toNat : Int))) ∧ ∃ ψ, At N w0 ψ (heapOf 20 5 l) w' ∧ ψ 8 = some b := by
  have hlt : ∀ i o, (heapOf 20 5 l).objs.get i = some o → i < 20 := fun i o hi => h.hr.lt h.fresh hi
  cases e with
  | nil =>
    refine Calls.mono (h.con (conNDe_ok taken) rfl rfl (fun p hp => ?_) (AR.one (.ptr h12))) ?_
    · simp only [conNDe, List.mem_cons, List.not_mem_nil, or_false] at hp
      rcases hp with rfl | rfl
      · exact p12
      · exact p16
    · rintro r w' ⟨v', ψ, rfl, hv, hle, hat⟩
      obtain ⟨hu, hx⟩ := At.upto h.hr h.fresh hle hat rfl (con_keep (i12 := 12) (Nat.le_refl _) hlt p12 p16) (plain_of hpl) (show 5 ≤ 20 by decide)
      cases hv with
      | slice _ e1 hc hk => exact ⟨_, _, rfl, fun j u hj => by simp at hj, _, hu, hx 8 b hb⟩
  | cons a e =>
    refine Calls.mono (h.con (conNDn_ok (a :: e) taken (by simp) he5) rfl rfl (fun p hp => ?_) (AR.one (.ptr h12))) ?_
    · simp only [conNDn, List.mem_cons, List.not_mem_nil, or_false] at hp
      rcases hp with rfl | rfl
      · exact p12
      · exact p16
    · rintro r w' ⟨v', ψ, rfl, hv, hle, hat⟩
      obtain ⟨hu, hx⟩ := At.upto h.hr h.fresh hle hat rfl (con_keep (i12 := 12) (by decide) hlt p12 p16) (plain_of hpl) (show 5 ≤ 20 by decide)
      cases hv with
      | slice _ e1 hc hk =>
        refine ⟨_, _, rfl, fun j u hj => ?_, _, hu, hx 8 b hb⟩
        have h21 : ((conNDn (a :: e) taken).heap (heapOf 20 5 l)).objs.get 21 = some (rowO (a :: e)) := by
          show (T.put (T.put (T.put (T.del (T.del (heapOf 20 5 l).objs 16) 12) 21 (rowO (a :: e))) 16 _) 12 _).get 21 = _
          rw [T.get_put, if_neg (by decide), T.get_put, if_neg (by decide), T.get_put, if_pos rfl]
        obtain ⟨k, z, ek, hz, hor⟩ := hat.hr.dom 21 _ h21
        rw [e1] at ek
        cases ek
        cases hor with
        | open_ s e hk2 =>
          have hj' : (byteVals (a :: e))[j]? = some (.int .u8 (u.toNat : Int)) := by
            simp only [byteVals, List.getElem?_map, hj, Option.map_some]
          obtain ⟨v', hv1, hv2⟩ := hk2.take_get hj'
          cases hv2
          rw [Array.getElem?_toList] at hv1
          simp only [World.cell?, hz]
          exact hv1
end
def WB0 : Word := fun _ _ => none
def HB0 (u : Nat) : AHeap := heapOf 5 5 []
def TB0 (u : Nat) : List Bool := [true,
  true]
theorem runB0 (u : Nat) :
  ((levO Tryz.prog extS WB0 300).call 15 #[] (HB0 u)).map (fun r => (r.1, r.2.1.gl, [5, 6, 7, 8, 9, 10, 11, 12].map r.2.1.objs.get, r.2.2)) =
  some (P 8, 5, [
    some (.map [] 0),
    some (.cells .own [.map (some 5), I 1073741824, I (-1), .bool false] 140),
    some (.cells .own [.slice none 0 0, .slice none 0 0] 84),
    some (.cells .own [P 6, P 12, P 7, .pointer none, .bool false] 46),
    some (.cells .own [P 6, I (0), .slice none 0 0, I (0), .bool false] 219),
    some (.map [] 0),
    some (.cells .own [I 9223372036854775807, I 0, .map (some 10)] 216),
    some (.cells .own [P 6, P 9, P 11, .slice none 0 0, I 0, I (0), .slice none 0 0, .map none, .bool false] 118)], TB0 u) := by kernel_rfl
theorem testsB0 (u : Nat)  : allT (TB0 u) := by
  intro b hb
  simp only [TB0, List.mem_cons, List.not_mem_nil, or_false] at hb
  rcases hb with hb | hb <;> refine hb.trans ?_ <;> clear hb <;> 
  first
  | with_reducible rfl
  | with_reducible exact isSame_refl _
  | (unfold ltT; rw [decide_eq_true_eq]; (try simp only [Int.ofNat_eq_natCast]); omega)
  | (unfold bornT; simp <;> omega)
  | (simp only [wrapM, decide_true, Bool.not_eq_true', decide_eq_true_eq, decide_eq_false_iff_not, Int.ofNat_eq_natCast, gt_iff_lt]; omega)
  | (simp only [bun, capLow, isOpen, oneCell]; omega)
  | (simp only [wrapM, Int.ofNat_eq_natCast, decide_eq_true_eq]; split <;> omega)
  | (simp only [wrapM, Int.ofNat_eq_natCast, decide_eq_true_eq, gt_iff_lt]; (repeat' split) <;> omega)
  | (first | exact z1 (by omega) | exact z2 (by omega) | exact z3 (by omega) | exact z4 (by omega) | exact z5 (by omega) | exact z6 (by omega))
  | (simp [beq_t]; done)
  | rfl
theorem stepB0 (u : Nat)  :
  ∃ K, (levO Tryz.prog extS WB0 300).call 15 #[] (HB0 u) = some (P 8, K, TB0 u) ∧
    Gen (pairs 5 [(5, 5), (6, 6), (7, 7), (8, 8), (9, 9), (10, 10), (11, 11), (12, 12)]) K (heapOf 20 5 ((base [] 0 (.slice none 0 0) (0) (.slice none 0 0) (0) (0) (.slice none 0 0)))) := by
  obtain ⟨⟨v, K, ts⟩, hc, h⟩ := Option.map_eq_some_iff.1 (runB0 u)
  simp only [Prod.mk.injEq, List.map_cons, List.map_nil, List.cons.injEq, and_true] at h
  obtain ⟨rfl, hgl, ⟨h5, h6, h7, h8, h9, h10, h11, h12⟩, rfl⟩ := h
  refine ⟨K, hc, Gen.of_pairs hgl (by decide) ?_⟩
  intro x hm
  simp only [base, fileO, walE, manE, tops, rowO, noneO, List.cons_append, List.nil_append, List.mem_cons, List.not_mem_nil, or_false] at hm
  rcases hm with rfl | rfl | rfl | rfl | rfl | rfl | rfl | rfl
  · exact fit rfl h5 OG.map0 rfl noFl
  · refine fit rfl h6 (OG.own _ ?_) rfl sameFl
    exact LS.ok (by repeat' constructor)
  · refine fit rfl h7 (OG.own _ ?_) rfl sameFl
    exact LS.ok (by repeat' constructor)
  · refine fit rfl h8 (OG.own _ ?_) rfl sameFl
    exact LS.ok (by repeat' constructor)
  · refine fit rfl h9 (OG.own _ ?_) rfl sameFl
    exact LS.ok (by repeat' constructor)
  · exact fit rfl h10 OG.map0 rfl noFl
  · refine fit rfl h11 (OG.own _ ?_) rfl sameFl
    exact LS.ok (by repeat' constructor)
  · refine fit rfl h12 (OG.own _ ?_) rfl sameFl
    exact LS.ok (by repeat' constructor)
section
variable {N n b : Nat} {w0 w : World} {φ : Ren} {e x : List UInt8}
/-- States with a log that has entries: 'n' notes so far, the last one 'e'. -/
inductive SitK (n : Nat) (e : List UInt8) : AHeap → Prop
  | one (born clock : Nat) (es : List (List UInt8)) : born < clock → lastOf es = e → es.length = n → 0 < es.length → (∀ y ∈ es, y.length ≤ 5000) → SitK n e (hF1 born clock es.length (hd 0 ++ frms es) e)
  | two (born born2 clock first : Nat) (es : List (List UInt8)) (nb : List UInt8) : born < clock → born2 < clock → born ≠ born2 → lastOf es = e → first + es.length = n → 0 < first → 0 < es.length → nb.length ≤ 5000 → (∀ y ∈ es, y.length ≤ 5000) →
      SitK n e (hF2 born born2 clock first es.length (hd first ++ frms es) (man first nb) e)
inductive Sit (n : Nat) (e : List UInt8) : AHeap → Prop
  | k {H : AHeap} : SitK n e H → Sit n e H
  | z (born born2 clock : Nat) : born < clock → born2 < clock → born ≠ born2 → 0 < n → Sit n e (hFz born born2 clock n (hd n) (man n e) e)
def LiveK (N : Nat) (w0 : World) (n : Nat) (e : List UInt8) (b : Nat) (w : World) : Prop := ∃ φ H, At N w0 φ H w ∧ SitK n e H ∧ φ 8 = some b
def Live (N : Nat) (w0 : World) (n : Nat) (e : List UInt8) (b : Nat) (w : World) : Prop := ∃ φ H, At N w0 φ H w ∧ Sit n e H ∧ φ 8 = some b
theorem LiveK.live (h : LiveK N w0 n e b w) : Live N w0 n e b w := let ⟨φ, H, h1, h2, h3⟩ := h; ⟨φ, H, h1, .k h2, h3⟩
/-- Ahead of a round. -/
def Ready (N : Nat) (w0 : World) (n b : Nat) (w : World) : Prop := (n = 0 ∧ ∃ φ, At N w0 φ hF0 w ∧ φ 8 = some b) ∨ ∃ e, e.length ≤ 5000 ∧ Live N w0 n e b w
theorem frms_le {es : List (List UInt8)} (h : ∀ y ∈ es, y.length ≤ 5000) : (frms es).length ≤ es.length * 5005 := by
  induction es with
  | nil => exact Nat.zero_le _
  | cons y es ih =>
    have h1 := h y List.mem_cons_self
    have h2 := ih (fun z hz => h z (List.mem_cons_of_mem _ hz))
    have h3 : (frms (y :: es)).length = 4 + (1 + y.length) + (frms es).length := by
      show ((frm y) ++ frms es).length = _
      rw [List.length_append, frm_length]
    rw [h3, List.length_cons]
    omega
theorem more_hd (f : Nat) (es : List (List UInt8)) (x : List UInt8) : more (hd f ++ frms es) x = hd f ++ frms (es ++ [x]) := by
  simp [more, frms, frm]
theorem start_hd (x : List UInt8) : start 0 x = hd 0 ++ frms [x] := by simp [start, frms, frm]
theorem lastOf_snoc (es : List (List UInt8)) (x : List UInt8) : lastOf (es ++ [x]) = x := by simp [lastOf]
theorem snoc5 {es : List (List UInt8)} (h : ∀ y ∈ es, y.length ≤ 5000) (hx : x.length ≤ 5000) : ∀ y ∈ es ++ [x], y.length ≤ 5000 := fun y hy => by
  rcases List.mem_append.1 hy with hy | hy
  · exact h y hy
  · rw [List.mem_singleton.1 hy]; exact hx
theorem man_le {f : Nat} {nb : List UInt8} (hf : f ≤ 30) (h : nb.length ≤ 5000) : 0 < (man f nb).length ∧ (man f nb).length ≤ 10000 := by
  by_cases h1 : nb.length < 64
  · rw [mans_length (by omega) h1]; omega
  · rw [manl_length (by omega) (by omega) h]; omega
theorem wb_pos (f : Nat) (es : List (List UInt8)) : 0 < (hd f ++ frms es).length := by rw [hlen]; omega
theorem wb_le {f : Nat} {es : List (List UInt8)} (h : ∀ y ∈ es, y.length ≤ 5000) (hk : es.length ≤ 30) : (hd f ++ frms es).length ≤ 1000000 := by
  have := frms_le h
  rw [hlen]; omega
/-- A round's note. -/
theorem note_live {v : Value} (h : Ready N w0 n b w) (hn : n < 30) (ha : Adr N w0 x v) (hx : x.length ≤ 5000) :
    Calls Tryz.prog 24 #[.pointer (some ⟨b, 0, none⟩), opA v] w fun r w' => r = .returned (.bool true) ∧ LiveK N w0 (n + 1) x b w' := by
  rcases h with ⟨rfl, φ, hat, hb⟩ | ⟨e, he5, φ, H, hat, hs, hb⟩
  · refine Calls.mono (note0 hat hb ha hx) ?_
    rintro r w' ⟨h1, ψ, h2, h3⟩
    refine ⟨h1, ψ, _, h2, ?_, h3⟩
    rw [start_hd]
    exact .one (0 + 1) (0 + 2) [x] (by omega) (by simp [lastOf]) rfl (by simp) (fun y hy => by rw [List.mem_singleton.1 hy]; exact hx)
  · cases hs with
    | k hs =>
      cases hs with
      | one born clock es hbo hl hen hne he =>
        refine Calls.mono (note1 hat hb ha hx he5 (wb_pos 0 es) (wb_le he (by omega)) hbo hne (by omega)) ?_
        rintro r w' ⟨h1, ψ, h2, h3⟩
        refine ⟨h1, ψ, _, h2, ?_, h3⟩
        rw [more_hd, show es.length + 1 = (es ++ [x]).length by simp]
        exact .one born clock (es ++ [x]) hbo (lastOf_snoc _ _) (by simp; omega) (by simp) (snoc5 he hx)
      | two born born2 clock first es nb hbo hb2 hbb hl hen h0 hne hnb he =>
        refine Calls.mono (note2 hat hb ha hx he5 (wb_pos first es) (wb_le he (by omega)) (man_le (by omega) hnb).2 hbo hb2 hbb hne (by omega) (by omega)) ?_
        rintro r w' ⟨h1, ψ, h2, h3⟩
        refine ⟨h1, ψ, _, h2, ?_, h3⟩
        rw [more_hd, show es.length + 1 = (es ++ [x]).length by simp]
        exact .two born born2 clock first (es ++ [x]) nb hbo hb2 hbb (lastOf_snoc _ _) (by simp; omega) h0 (by simp) hnb (snoc5 he hx)
    | z born born2 clock hbo hb2 hbb h0 =>
      refine Calls.mono (notez hat hb ha hx he5 (by rw [hd_length]; omega) (by rw [hd_length]; omega) (man_le (by omega) he5).2 hbo hb2 hbb (by omega)) ?_
      rintro r w' ⟨h1, ψ, h2, h3⟩
      refine ⟨h1, ψ, _, h2, ?_, h3⟩
      have e1 : more (hd n) x = hd n ++ frms [x] := by
        have := more_hd n [] x
        simpa [frms] using this
      rw [e1]
      exact .two born born2 clock n [x] e hbo hb2 hbb (by simp [lastOf]) rfl h0 (by simp) he5 (fun y hy => by rw [List.mem_singleton.1 hy]; exact hx)
/-- The run's cells. -/
theorem run_cells {H : AHeap} (h : At N w0 φ H w) (hb : φ 8 = some b) (h8 : H.objs.get 8 = some (.cells .own [P 6, P 12, P 7, .pointer none, .bool false] 46)) :
    ∃ b6 b12, φ 6 = some b6 ∧ φ 12 = some b12 ∧ w.cell? ⟨b, 0, none⟩ = some (.pointer (some ⟨b6, 0, none⟩)) ∧ w.cell? ⟨b, 1, none⟩ = some (.pointer (some ⟨b12, 0, none⟩)) := by
  obtain ⟨k, z, ek, hz, hor⟩ := h.hr.dom 8 _ h8
  rw [hb] at ek
  cases ek
  cases hor with
  | own e hl =>
    obtain ⟨v0, e0, r0⟩ := hl.2 0 (P 6) rfl
    obtain ⟨v1, e1, r1⟩ := hl.2 1 (P 12) rfl
    cases r0 with
    | ptr p0 =>
    cases r1 with
    | ptr p1 =>
    rw [Array.getElem?_toList] at e0 e1
    exact ⟨_, _, p0, p1, by simp only [World.cell?, hz]; exact e0, by simp only [World.cell?, hz]; exact e1⟩
theorem sitK_run {H : AHeap} (h : SitK n e H) : H.objs.get 8 = some (.cells .own [P 6, P 12, P 7, .pointer none, .bool false] 46) := by
  cases h <;> kernel_rfl
/-- Flush, Merge and Restart behind a note. -/
theorem between_live (h : LiveK N w0 n e b w) (hn : n ≤ 30) (he5 : e.length ≤ 5000) : ∃ b6 b12, w.cell? ⟨b, 0, none⟩ = some (.pointer (some ⟨b6, 0, none⟩)) ∧ w.cell? ⟨b, 1, none⟩ = some (.pointer (some ⟨b12, 0, none⟩)) ∧
    (Calls Tryz.prog 17 #[.pointer (some ⟨b12, 0, none⟩)] w fun r w' => r = .returned (.tuple #[.bool false, I 0]) ∧ Live N w0 n e b w') ∧
    (Calls Tryz.prog 28 #[.pointer (some ⟨b12, 0, none⟩)] w fun r w' => r = .returned (.tuple #[.bool false, I 0]) ∧ Live N w0 n e b w') ∧
    (Calls Tryz.prog 29 #[.pointer (some ⟨b6, 0, none⟩), .slice none 0 0] w fun r w' => r = .returned (.tuple #[]) ∧ LiveK N w0 n e b w') := by
  obtain ⟨φ, H, hat, hs, hb⟩ := h
  obtain ⟨b6, b12, p6, p12, c0, c1⟩ := run_cells hat hb (sitK_run hs)
  refine ⟨b6, b12, c0, c1, ?_⟩
  cases hs with
  | one born clock es hbo hl hen hne he =>
    have hs : SitK n e (hF1 born clock es.length (hd 0 ++ frms es) e) := .one born clock es hbo hl hen hne he
    refine ⟨?_, ?_, ?_⟩
    · refine Calls.mono (flush1 hat hb p12 he5 (wb_le he (by omega)) hne (by omega) hbo) ?_
      rintro r w' ⟨h1, ψ, h2, h3⟩
      refine ⟨h1, ψ, _, h2, ?_, h3⟩
      rw [show 0 + es.length = n by omega]
      exact .z born (clock + 1) (clock + 3) (by omega) (by omega) (by omega) (by omega)
    · refine Calls.mono (merge1 hat hb p12 (wb_pos 0 es) (wb_le he (by omega)) hne (by omega) hbo) ?_
      rintro r w' ⟨h1, ψ, h2, h3⟩
      exact ⟨h1, ψ, _, h2, .k hs, h3⟩
    · refine Calls.mono (restart1 hat hb p6 (wb_pos 0 es) (wb_le he (by omega)) hne (by omega) hbo) ?_
      rintro r w' ⟨h1, ψ, h2, h3⟩
      exact ⟨h1, ψ, _, h2, hs, h3⟩
  | two born born2 clock first es nb hbo hb2 hbb hl hen h0 hne hnb he =>
    have hs : SitK n e (hF2 born born2 clock first es.length (hd first ++ frms es) (man first nb) e) := .two born born2 clock first es nb hbo hb2 hbb hl hen h0 hne hnb he
    have hm := man_le (f := first) (nb := nb) (by omega) hnb
    refine ⟨?_, ?_, ?_⟩
    · refine Calls.mono (flush2 hat hb p12 he5 (wb_le he (by omega)) hne (by omega) hbo hb2 hbb hm.2 (by omega)) ?_
      rintro r w' ⟨h1, ψ, h2, h3⟩
      refine ⟨h1, ψ, _, h2, ?_, h3⟩
      rw [hen]
      exact .z born born2 (clock + 2) (by omega) (by omega) hbb (by omega)
    · refine Calls.mono (merge2 hat hb p12 (wb_pos first es) (wb_le he (by omega)) hne (by omega) hbo hb2 hbb hm.1 hm.2 (by omega)) ?_
      rintro r w' ⟨h1, ψ, h2, h3⟩
      exact ⟨h1, ψ, _, h2, .k hs, h3⟩
    · refine Calls.mono (restart2 hat hb p6 (wb_pos first es) (wb_le he (by omega)) hne (by omega) hbo hb2 hbb hm.1 hm.2 (by omega)) ?_
      rintro r w' ⟨h1, ψ, h2, h3⟩
      exact ⟨h1, ψ, _, h2, hs, h3⟩
theorem open_live (h : LiveK N w0 n e b w) (hn : n ≤ 30) (he5 : e.length ≤ 5000) :
    Calls Tryz.prog 30 #[.pointer (some ⟨b, 0, none⟩), .slice none 0 0] w fun r w' => r = .returned (.bool true) ∧ Live N w0 n e b w' := by
  obtain ⟨φ, H, hat, hs, hb⟩ := h
  cases hs with
  | one born clock es hbo hl hen hne he =>
    have hf := frms_le he
    refine Calls.mono (open1 hat hb hl hne he he5 (by omega) (by omega) hbo) ?_
    rintro r w' ⟨h1, ψ, h2, h3⟩
    exact ⟨h1, ψ, _, h2, .k (.one born clock es hbo hl hen hne he), h3⟩
  | two born born2 clock first es nb hbo hb2 hbb hl hen h0 hne hnb he =>
    have hf := frms_le he
    refine Calls.mono (open2 hat hb hl hne he he5 (by omega) (by omega) hbo hb2 hbb (by omega) h0 hnb) ?_
    rintro r w' ⟨h1, ψ, h2, h3⟩
    exact ⟨h1, ψ, _, h2, .k (.two born born2 clock first es nb hbo hb2 hbb hl hen h0 hne hnb he), h3⟩
/-- The note told. -/
theorem noted_live (h : Live N w0 n e b w) (he5 : e.length ≤ 5000) : ∃ b12, w.cell? ⟨b, 1, none⟩ = some (.pointer (some ⟨b12, 0, none⟩)) ∧
    Calls Tryz.prog 31 #[.pointer (some ⟨b12, 0, none⟩)] w fun r w' => ∃ k c, r = .returned (.slice (some ⟨k, 0, none⟩) e.length c) ∧ (∀ (j : Nat) (u : UInt8), e[j]? = some u → w'.cell? ⟨k, j, none⟩ = some (.int .u8 (u.toNat : Int))) ∧ Live N w0 n e b w' := by
  obtain ⟨φ, H, hat, hs, hb⟩ := h
  have key : ∀ {l : List (Nat × AObj)} {taken : Int}, H = heapOf 20 5 l → (heapOf 20 5 l).objs.get 8 = some (.cells .own [P 6, P 12, P 7, .pointer none, .bool false] 46) → (heapOf 20 5 l).objs.get 12 = some (engV taken e) → (heapOf 20 5 l).objs.get 16 = some (eO e) → (l.all fun p => p.2.plain) = true →
      ∃ b12, w.cell? ⟨b, 1, none⟩ = some (.pointer (some ⟨b12, 0, none⟩)) ∧
        Calls Tryz.prog 31 #[.pointer (some ⟨b12, 0, none⟩)] w fun r w' => ∃ k c, r = .returned (.slice (some ⟨k, 0, none⟩) e.length c) ∧ (∀ (j : Nat) (u : UInt8), e[j]? = some u → w'.cell? ⟨k, j, none⟩ = some (.int .u8 (u.toNat : Int))) ∧ Live N w0 n e b w' := by
    intro l taken eH p8 p12 p16 hpl
    subst eH
    obtain ⟨b6, b12, q6, q12, c0, c1⟩ := run_cells hat hb p8
    refine ⟨b12, c1, Calls.mono (noted hat hb q12 p12 p16 hpl he5) ?_⟩
    rintro r w' ⟨k, c, h1, h2, ψ, h3, h4⟩
    exact ⟨k, c, h1, h2, ψ, _, h3, hs, h4⟩
  cases hs with
  | k hs =>
    cases hs with
    | one born clock es hbo hl hen hne he => exact key (taken := 0) rfl (by kernel_rfl) (by kernel_rfl) (by kernel_rfl) (by cases e <;> kernel_rfl)
    | two born born2 clock first es nb hbo hb2 hbb hl hen h0 hne hnb he => exact key (taken := (first : Nat)) rfl (by kernel_rfl) (by kernel_rfl) (by kernel_rfl) (by cases e <;> kernel_rfl)
  | z born born2 clock hbo hb2 hbb h0 => exact key (taken := (n : Nat)) rfl (by kernel_rfl) (by kernel_rfl) (by kernel_rfl) (by cases e <;> kernel_rfl)
/-- The run begun. -/
theorem begin_live (w0 w : World) (h5 : 5 ≤ w0.heap.size) (hB : RowKit.Below w0.heap.size w0 w) :
    Calls Tryz.prog 15 #[] w fun r w' => ∃ b, r = .returned (.pointer (some ⟨b, 0, none⟩)) ∧ Ready w0.heap.size w0 0 b w' := by
  obtain ⟨K, hK, g⟩ := stepB0 0
  have hat : At w0.heap.size w0 ⟨fun i => if i < 5 then some i else none, fun _ => 0⟩ (heapOf 5 5 []) w := by
    have hno : ∀ i o, (heapOf 5 5 []).objs.get i = some o → False := fun i o hi => absurd (heapOf_mem hi) List.not_mem_nil
    refine ⟨⟨fun i o hi => (hno i o hi).elim, fun i j o o' b hi => (hno i o hi).elim, fun i hi => if_pos hi, fun i b e => ?_, fun i fl c e b c' fr hi => (hno _ _ hi).elim⟩, fun i hi => if_neg (by have : 5 ≤ i := hi; omega), fun b ⟨i, o, hi, _⟩ => (hno i o hi).elim, hB.size, hB⟩
    have e' : (if i < 5 then some i else none) = some b := e
    split at e'
    · cases e'; have := hB.size; omega
    · cases e'
  refine Calls.mono (hat.call_gen mixedO extS_ok hK (testsB0 0) (LR.nil _) g) ?_
  rintro r w' ⟨v', ψ, rfl, hv, hle, h2⟩
  cases hv with
  | ptr hp => exact ⟨_, rfl, .inl ⟨rfl, _, h2, Ren.via_some rfl hp⟩⟩
end
end Go.Proofs.YtabpbpdhapaffaaGreatDoor
end
section
namespace Go.Proofs.YtabpbpdhapaffaaGreatDoor
open Go.Vi Go.RowKit
def numsOf (x : List UInt8) : List Int := x.map fun u => (u.toNat : Int)
theorem strOf_nums (x : List UInt8) : strOfNums (numsOf x) = ⟨x.toArray⟩ := by
  simp only [strOfNums, numsOf, List.map_map]
  congr 2
  have : ((fun n : Int => UInt8.ofNat n.toNat) ∘ fun u : UInt8 => (u.toNat : Int)) = id := by
    funext u; simp
  rw [this, List.map_id]
theorem conv_told {w : World} {k o c : Nat} {x : List UInt8} (h : ∀ (j : Nat) (u : UInt8), x[j]? = some u → w.cell? ⟨k, o + j, none⟩ = some (.int .u8 (u.toNat : Int))) :
    (convert 57 9 (.slice (some ⟨k, o, none⟩) x.length c)).run Tryz.prog w = .ok (.string ⟨x.toArray⟩) w := by
  rw [← strOf_nums]
  refine run_convert_bytes_arg w 57 5 Tryz.underlying57 Tryz.underlying5 k o x.length c (numsOf x) (by simp [numsOf]) (fun i hi => ?_) 9 Tryz.underlying9
  rw [h i x[i] (List.getElem?_eq_getElem hi)]
  simp [numsOf, List.getD, List.getElem?_eq_getElem hi]
theorem conv_note {W w : World} {a : Option Addr} {c : Nat} {x : List UInt8} (h : Adr W.heap.size W x (.slice a x.length c)) (hB : Below W.heap.size W w) :
    (convert 57 9 (.slice a x.length c)).run Tryz.prog w = .ok (.string ⟨x.toArray⟩) w := by
  generalize hn : x.length = n at h
  generalize hv : Value.slice a n c = v at h
  cases h with
  | nil hx =>
    cases hv; subst hx
    exact run_convert_bytes_nil w 57 5 Tryz.underlying57 Tryz.underlying5 0 0 9 Tryz.underlying9
  | dead a0 c0 hx =>
    cases hv; subst hx
    rw [run_convert_bytes_string w 57 9 5 _ 0 _ Tryz.underlying57 Tryz.underlying5 Tryz.underlying9]
    rw [run_bytesToString w _ 0 _ [] (by unfold loadCells loadCellsFrom; simp [Sem.run_pure])]
    rfl
  | live b o c0 cs e fr hx hb hw hd =>
    cases hv
    refine conv_told fun j u hj => ?_
    have h1 := hd j u hj
    have h2 : w.heap[b]? = some (.cells cs e fr) := (hB.block b hb).trans hw
    simp only [World.cell?, h2]
    exact h1
theorem awake_any (w : World) : Calls Tryz.prog 12 #[] w fun e w' => e = .returned (.bool true) ∧ Below w.heap.size w w' :=
  Vi.closed_call mixedO 200 rfl rfl (by kernel_rfl)
/-- A note lies at a cell. -/
def NoteAt (W : World) (b o : Nat) : Prop := ∃ a c x, W.cell? ⟨b, o, none⟩ = some (.slice a x.length c) ∧ x.length ≤ maxLen ∧ Adr W.heap.size W x (.slice a x.length c)
def NotesOk (W : World) (nb : Option Addr) (nl : Nat) : Prop := nl = 0 ∨ ∃ b o, nb = some ⟨b, o, none⟩ ∧ b < W.heap.size ∧ ∀ j, j < nl → NoteAt W b (o + j)
def BetwOk (W : World) (bb : Option Addr) (bl : Nat) : Prop := bl = 0 ∨ ∃ b o, bb = some ⟨b, o, none⟩ ∧ b < W.heap.size ∧ ∀ j, j < bl → ∃ n, W.cell? ⟨b, o + j, none⟩ = some (.int .u8 n) ∧ 0 ≤ n ∧ n < 256
theorem Live.drew {N n b : Nat} {w0 w : World} {e : List UInt8} (h : Live N w0 n e b w) : Live N w0 n e b w.drew := by
  obtain ⟨φ, H, h1, h2, h3⟩ := h
  exact ⟨φ, H, ⟨⟨h1.hr.dom, h1.hr.inj, h1.hr.glob, h1.hr.rng, h1.hr.caps⟩, h1.fresh, h1.high, h1.room, h1.below.drew⟩, h2, h3⟩
theorem Live.below {N n b : Nat} {w0 w : World} {e : List UInt8} (h : Live N w0 n e b w) : Below N w0 w := let ⟨_, _, h1, _⟩ := h; h1.below
theorem LiveK.below {N n b : Nat} {w0 w : World} {e : List UInt8} (h : LiveK N w0 n e b w) : Below N w0 w := h.live.below
theorem Ready.below {N n b : Nat} {w0 w : World} (h : Ready N w0 n b w) : Below N w0 w := by
  rcases h with ⟨_, _, h, _⟩ | ⟨_, _, h⟩
  · exact h.below
  · exact h.below
set_option maxRecDepth 100000 in
set_option maxHeartbeats 4000000 in
theorem walk_notes (W : World) (h5 : 5 ≤ W.heap.size) (nb bb : Option Addr) (nl nc bl bc : Nat) (hnl : nl ≤ maxLen) (hbl : bl ≤ maxLen) (hn : Hid (NotesOk W nb nl)) (hbt : Hid (BetwOk W bb bl)) :
    Calls Tryz.prog 5 #[.slice nb nl nc, .slice bb bl bc] W fun e w' => e = .returned (.bool true) ∧ Below W.heap.size W w' := by
  unfold maxLen at hnl hbl
  go_enter Tryz.func5, Tryz.ntmps5
  go_wp2_with fail
  go_at_call 12
  refine (awake_any _).mono ?_
  rintro e w1 ⟨rfl, hb⟩
  have H1 : Hid (Below W.heap.size W w1) := hb
  clear hb
  by_cases h30 : nl > 30
  · go_wp2_with fail
    go_at_call 12
    refine (awake_any _).mono ?_
    rintro e w2 ⟨rfl, hb⟩
    go_wp2_with fail
    go_ret
    exact ⟨rfl, H1.trans (hb.mono (by have := Below.size H1; omega))⟩
  · go_wp2_with fail
    go_at_call 15
    refine Calls.mono (begin_live W w1 h5 H1) ?_
    rintro e w2 ⟨b, rfl, hR⟩
    have H2 : Hid (Ready W.heap.size W 0 b w2) := hR
    clear hR
    go_wp2_with fail
    go_loopg [18] nl (fun k i wr => ∃ j : Nat, j + k = nl ∧ i = .int .i64 j ∧ Ready W.heap.size W j b wr)
    case atStart => exact ⟨0, by omega, rfl, H2⟩
    case round =>
      obtain ⟨j, hj, rfl, hR⟩ := hrel
      by_cases hlt : j < nl
      · obtain ⟨k', rfl⟩ : ∃ k', gk = k' + 1 := ⟨gk - 1, by omega⟩
        have hn' : NotesOk W nb nl := hn
        obtain h0 | ⟨nbk, no, rfl, hnb, hnote⟩ := hn'
        · omega
        obtain ⟨a, c, x, hc, hx, hadr⟩ := hnote j hlt
        have hc0 := hc
        have hc := (hR.below.cell (p := ⟨nbk, no + j, none⟩) hnb).trans hc
        unfold maxLen at hx
        have hR : Hid (Ready W.heap.size W j b wr) := hR
        have hadr : Hid (Adr W.heap.size W x (.slice a x.length c)) := hadr
        clear hnote
        by_cases h5000 : x.length > 5000
        · go_wp2_with fail
          go_ret
          exact ⟨rfl, Ready.below hR⟩
        · go_wp2_with fail
          go_at_call 24
          refine Calls.mono (note_live (x := x) hR (by omega) hadr (by omega)) ?_
          rintro e w3 ⟨rfl, hK⟩
          have hK : Hid (LiveK W.heap.size W (j + 1) x b w3) := hK
          clear hR
          have hcv : ∀ wx, Below W.heap.size W wx → (convert 57 9 (.slice a x.length c)).run Tryz.prog wx = .ok (.string ⟨x.toArray⟩) wx := fun wx hwx => conv_note hadr hwx
          have hcc : ∀ wx, Below W.heap.size W wx → wx.cell? ⟨nbk, no + j, none⟩ = some (.slice a x.length c) := fun wx hwx => (hwx.cell (p := ⟨nbk, no + j, none⟩) hnb).trans hc0
          go_upto_if 38 with fail
          go_cut [] from 19 to 80 (fun wx => Live W.heap.size W (j + 1) x b wx)
          case first =>
            by_cases hbl2 : j < bl
            · have hbt' : BetwOk W bb bl := hbt
              obtain h0 | ⟨bbk, bo, rfl, hbb, hbet⟩ := hbt'
              · omega
              obtain ⟨m, hm, hm0, hm1⟩ := hbet j hbl2
              have hm := (LiveK.below hK).cell (p := ⟨bbk, bo + j, none⟩) hbb |>.trans hm
              obtain ⟨b6, b12, c0, c1, hF, hM, hS⟩ := between_live hK (by omega) (by omega)
              clear hbet hcv hcc hc
              go_wp2_with fail
              all_goals first
                | (go_at_call 17
                   refine Calls.mono hF ?_
                   rintro e w4 ⟨rfl, hL⟩
                   go_wp2_with fail
                   go_meet
                   exact hL)
                | (go_at_call 28
                   refine Calls.mono hM ?_
                   rintro e w4 ⟨rfl, hL⟩
                   go_wp2_with fail
                   go_meet
                   exact hL)
                | (go_at_call 29
                   refine Calls.mono hS ?_
                   rintro e w4 ⟨rfl, hK4⟩
                   have hO := open_live hK4 (by omega) (by omega)
                   clear c0 c1
                   go_wp2_with fail
                   go_at_call 30
                   refine Calls.mono hO ?_
                   rintro e w5 ⟨rfl, hL⟩
                   go_wp2_with fail
                   go_meet
                   exact hL)
                | (go_meet; exact LiveK.live hK)
            · go_wp2_with fail
              go_meet
              exact LiveK.live hK
          case rest =>
            go_upto_region 21 with fail
            have hL : Hid (Live W.heap.size W (j + 1) x b wc) := hcut
            clear hcut hK hc
            go_cut [79] from 19 to 80 (fun v wx => v = .bool false ∧ Live W.heap.size W (j + 1) x b wx)
            case first =>
              have hD : Hid (Live W.heap.size W (j + 1) x b wc.drew) := Live.drew hL
              obtain ⟨k12, c1, hN⟩ := noted_live (Live.drew hL) (by omega)
              have c1 : wc.cell? ⟨b, 1, none⟩ = some (.pointer (some ⟨k12, 0, none⟩)) := c1
              have d0 := hcv wc.drew (Live.below hD)
              have d1 := hcc wc (Live.below hL)
              have hcv : Hid (∀ wx, Below W.heap.size W wx → (convert 57 9 (.slice a x.length c)).run Tryz.prog wx = .ok (.string ⟨x.toArray⟩) wx) := hcv
              have hcc : Hid (∀ wx, Below W.heap.size W wx → wx.cell? ⟨nbk, no + j, none⟩ = some (.slice a x.length c)) := hcc
              go_region_with (go_at_call 31; refine Calls.mono hN ?_; rintro e w4 ⟨k, c4, rfl, hbytes, hL4⟩; have d2 := hcv.out w4 (Live.below hL4); have d3 := hcc.out w4 (Live.below hL4); have d4 := conv_told (w := w4) (k := k) (o := 0) (c := c4) (x := x) (fun j u h => by rw [Nat.zero_add]; exact hbytes j u h))
              all_goals (try go_wp2_with fail)
              all_goals go_meet
              all_goals exact ⟨by simp, hL4⟩
            case rest =>
              obtain ⟨rfl, hL2⟩ := hcut
              go_wp2_with fail
              go_roundg k'
              case measure => omega
              case rel =>
                refine ⟨j + 1, by omega, ?_, .inr ⟨x, by omega, hL2⟩⟩
                go_num
      · go_wp2_with fail
        go_ret
        exact ⟨rfl, hR.below⟩
end Go.Proofs.YtabpbpdhapaffaaGreatDoor
end
