/-
  EngineNotes returns true whatever the notes and what stands between them, part 19: GrLV1, GrQ1b, GrN0nen, GrN0nee, GrN0nez, GrN1knn, GrN1kne. Conditions: none but those of the row.
-/
import Derived.Test.YtabpbpdhapaffaaGreatDoorNts12
import Derived.Test.YtabpbpdhapaffaaGreatDoorNts18
set_option linter.unusedSimpArgs false
set_option linter.unusedVariables false
section
namespace Go.Proofs.YtabpbpdhapaffaaGreatDoor
open Go.Vi
section
variable {N : Nat} {w0 w : World} {φ : Ren} {H H1 H2 H3 K : AHeap} {ρ : Nat → Option Nat}
/-- A note's value and row. -/
def eV (i : Nat) : List UInt8 → Value
  | [] => E i
  | a :: e => S i (a :: e).length
def eO : List UInt8 → AObj
  | [] => noneO
  | a :: e => rowO (a :: e)
def hF0 : AHeap := heapOf 20 5 (base [] 0 (.slice none 0 0) 0 (.slice none 0 0) 0 0 (.slice none 0 0))
def hF1 (born clock k : Nat) (wb e : List UInt8) : AHeap := heapOf 20 5 ([(15, tops k)] ++ [(16, eO e)] ++ [(17, eO e)] ++ fileO 13 wb ++ base [walE born] clock (eV 17 e) 0 (S 15 k) (wb.length : Nat) 0 (eV 16 e))
def hF2 (born born2 clock first k : Nat) (wb mb e : List UInt8) : AHeap := heapOf 20 5 ([(15, tops k)] ++ [(16, eO e)] ++ [(17, eO e)] ++ fileO 13 wb ++ fileO 18 mb ++ base [walE born, manE born2] clock (eV 17 e) (first : Nat) (S 15 k) (wb.length : Nat) (first : Nat) (eV 16 e))
def hFz (born born2 clock first : Nat) (wb mb e : List UInt8) : AHeap := heapOf 20 5 ([(17, eO e)] ++ [(16, eO e)] ++ fileO 13 wb ++ fileO 18 mb ++ base [walE born, manE born2] clock (eV 17 e) (first : Nat) (.slice none 0 0) (wb.length : Nat) (first : Nat) (eV 16 e))
theorem AR.two {a a' b b' : Value} (h : VR φ a a') (k : VR φ b b') : AR φ #[a, b] #[a', b'] := LR.cons h (LR.cons k (LR.nil φ))
theorem LR.bytes (l : List UInt8) : LR φ (byteVals l) (byteVals l) := LR.refl_of fun v hv => by
  obtain ⟨b, _, rfl⟩ := List.mem_map.1 hv
  exact .int _ _
/-- The call's argument. -/
def opA (v : Value) : Value := .agg #[.int .i64 4, .int .i64 0, .slice none 0 0, .slice none 0 0, .int .i64 0, .int .i64 0, .string .empty, v]
theorem VR.opV {s v : Value} (h : VR φ s v) : VR φ (opV s) (opA v) := by
  have hl : LR φ [.int .i64 4, .int .i64 0, .slice none 0 0, .slice none 0 0, .int .i64 0, .int .i64 0, .string .empty, s] [.int .i64 4, .int .i64 0, .slice none 0 0, .slice none 0 0, .int .i64 0, .int .i64 0, .string .empty, v] :=
    LR.cons (.int _ _) (LR.cons (.int _ _) (LR.cons .sliceNil (LR.cons .sliceNil (LR.cons (.int _ _) (LR.cons (.int _ _) (LR.cons (.string _) (LR.cons h (LR.nil φ))))))))
  have ha : AR φ #[.int .i64 4, .int .i64 0, .slice none 0 0, .slice none 0 0, .int .i64 0, .int .i64 0, .string .empty, s] #[.int .i64 4, .int .i64 0, .slice none 0 0, .slice none 0 0, .int .i64 0, .int .i64 0, .string .empty, v] := hl
  exact .agg rfl (fun i h1 h2 => ha.get i h1 h2)
/-- What a call of the interpreter's word ends with. -/
theorem fin {X : ExtO} (hX : ExtOk Tryz.prog X.ext) {F : Word} {f : Nat} {g : FuncId} {args args' : Array Value} {v : Value} {ts : List Bool} {b next : Nat} {l : List (Nat × AObj)} (h : At N w0 φ H w) (hn : H.next = next) (hg5 : H.gl = 5) (hs : l.map (fun p => H.objs.get p.1) = l.map (fun p => some p.2))
    (hx : (levO Tryz.prog X F f).call g args (heapOf next 5 l) = some (v, K, ts)) (ht : allT ts) (hv : ∀ {χ : Ren} {v' : Value}, VR χ v v' → v' = v) (ha : AR φ args args') (hg : Gen ρ K H2) (e2 : H2 = H3) (h8 : ρ 8 = some 8) (hb : φ 8 = some b) :
    Calls Tryz.prog g args' w fun e w' => e = .returned v ∧ ∃ ψ, At N w0 ψ H3 w' ∧ ψ 8 = some b := by
  subst e2
  have h1 := h.less hn hs
  rw [hg5] at h1
  exact Calls.mono (h1.step mixedO hX hx ht ha hg h8 hb) fun _ _ ⟨v', χ, ψ, h1, h2, h3, h4⟩ => by
    have := hv h2
    subst this
    exact ⟨h1, ψ, h3, h4⟩
theorem vr_bool {χ : Ren} {b : Bool} {v' : Value} (h : VR χ (.bool b) v') : v' = .bool b := by cases h; rfl
/-- The bytes 'x' lie where 'v' says, below 'N'. -/
inductive Adr (N : Nat) (w0 : World) (x : List UInt8) : Value → Prop
  | nil : x = [] → Adr N w0 x (.slice none 0 0)
  | dead (a : Addr) (c : Nat) : x = [] → Adr N w0 x (.slice (some a) 0 c)
  | live (b o c : Nat) (cs : Array Value) (e : TypeId) (fr : Nat × Nat) : x ≠ [] → b < N → w0.heap[b]? = some (.cells cs e fr) → (∀ (j : Nat) (u : UInt8), x[j]? = some u → cs[o + j]? = some (.int .u8 (u.toNat : Int))) → Adr N w0 x (.slice (some ⟨b, o, none⟩) x.length c)
/-- The row's cells, up to the end of the bytes: their picture. -/
theorem row_pic {x : List UInt8} {cs : Array Value} {o : Nat} (hx : x ≠ []) (h : ∀ (j : Nat) (u : UInt8), x[j]? = some u → cs[o + j]? = some (.int .u8 (u.toNat : Int))) :
    ∃ c : List Value, List.drop o c = byteVals x ∧ LR φ c (cs.toList.take c.length) := by
  obtain ⟨c0, hc0⟩ := pics (φ := φ) (cs.toList.take o)
  have hlast : o + (x.length - 1) < cs.size := by
    have hpos : 0 < x.length := List.length_pos_iff.2 hx
    have := h (x.length - 1) x[x.length - 1] (List.getElem?_eq_getElem (by omega))
    exact (Array.getElem?_eq_some_iff.1 this).1
  have hpos : 0 < x.length := List.length_pos_iff.2 hx
  have hl0 : c0.length = o := by
    rw [hc0.1, List.length_take, Array.length_toList]; omega
  have htk : cs.toList.take (o + x.length) = cs.toList.take o ++ byteVals x := by
    apply List.ext_getElem?
    intro i
    rw [List.getElem?_take]
    by_cases h1 : i < o
    · rw [if_pos (by omega), List.getElem?_append_left (by rw [List.length_take, Array.length_toList]; omega), List.getElem?_take, if_pos h1]
    · have hlt : (cs.toList.take o).length = o := by rw [List.length_take, Array.length_toList]; omega
      rw [List.getElem?_append_right (by omega), hlt]
      by_cases h2 : i < o + x.length
      · rw [if_pos h2]
        have h3 := h (i - o) x[i - o] (List.getElem?_eq_getElem (by omega))
        rw [show o + (i - o) = i by omega] at h3
        rw [Array.getElem?_toList, h3]
        simp only [byteVals, List.getElem?_map, List.getElem?_eq_getElem (show i - o < x.length by omega), Option.map_some]
      · rw [if_neg h2]
        symm
        apply List.getElem?_eq_none
        rw [byteVals_length]; omega
  refine ⟨c0 ++ byteVals x, by rw [← hl0, List.drop_left], ?_⟩
  rw [List.length_append, hl0, byteVals_length, htk]
  exact LR.append hc0 (LR.bytes x)
theorem at_here (h : At N w0 φ H w) {b : Nat} (hb : b < N) : w.heap[b]? = w0.heap[b]? := h.below.block b hb
/-- The argument's row taken in: the argument's picture. -/
theorem live_in {x : List UInt8} {b o c : Nat} {cs : Array Value} {e : TypeId} {fr : Nat × Nat} (h : At N w0 φ H w) (hn : H.next = 20) (hx : x ≠ []) (hb : b < N) (hw : w0.heap[b]? = some (.cells cs e fr)) (hd : ∀ (j : Nat) (u : UInt8), x[j]? = some u → cs[o + j]? = some (.int .u8 (u.toNat : Int))) :
    ∃ (d : List Value) (ψ : Ren), List.drop o d = byteVals x ∧ At N w0 ψ (H.new (.cells .ro d e)) w ∧ φ.le ψ ∧ VR ψ (.slice (some ⟨20, o, none⟩) x.length (2 * c)) (.slice (some ⟨b, o, none⟩) x.length c) := by
  obtain ⟨d, h1, h2⟩ := row_pic (φ := φ) hx hd
  refine ⟨d, _, h1, h.add hb ((at_here h hb).trans hw) h2, Ren.le_set (h.fresh _ (Nat.le_refl _)) (.inr rfl), ?_⟩
  refine .slice _ ?_ (.inl ⟨by omega, by omega⟩) (fun _ hk => by omega)
  rw [hn]
  exact Ren.set_same _ _ _ _
end
def F1 (d : List Value) : List Value := Value.int .u8 6 :: d
theorem F1_bytes (xb : List UInt8) : F1 (byteVals xb) = F0 xb := rfl
end Go.Proofs.YtabpbpdhapaffaaGreatDoor
end
section
set_option maxRecDepth 100000
namespace Go.Proofs.YtabpbpdhapaffaaGreatDoor
open Go.Vi
def WN0nen : Word := fun o _ => match o.dst with
  | some 4 => bif o.pos == "bytes.go:1392" then some 0 else none
  | some 7 => bif o.pos == "bytes.go:1395" then some 14 else bif o.pos == "wal.go:48" then some 13 else none
  | some 10 => bif o.pos == "bits.go:107" then some 1 else none
  | some 12 => bif o.pos == "bits.go:107" then some 0 else none
  | some 13 => bif o.pos == "bits.go:107" then some 0 else none
  | some 16 => bif o.pos == "engine.go:366" then some 0 else none
  | some 18 => bif o.pos == "wal.go:114" then some 0 else none
  | some 19 => bif o.pos == "engine.go:123" then some 0 else none
  | some 22 => bif o.pos == "wal.go:114" then some 0 else none
  | some 27 => bif o.pos == "engine.go:371" then some 12 else bif o.pos == "wal.go:151" then some 12 else none
  | some 38 => bif o.pos == "engine.go:223" then some 0 else none
  | some 47 => bif o.pos == "disk.go:76" then some 3 else none
  | some 48 => bif o.pos == "disk.go:76" then some 0 else none
  | some 49 => bif o.pos == "disk.go:76" then some 0 else none
  | some 57 => bif o.pos == "disk.go:77" then some 0 else none
  | some 58 => bif o.pos == "disk.go:77" then some 10 else none
  | some 64 => bif o.pos == "disk.go:78" then some 0 else none
  | some 90 => bif o.pos == "law.go:116" then some 1 else none
  | some 95 => bif o.pos == "law.go:117" then some 14 else none
  | _ => none

def HN0nen (c : List Value) (xb : List UInt8) (p te xc clock : Nat)  : AHeap := heapOf 21 5 ([(20, .cells .ro c te)] ++ (base [] clock (.slice none 0 0) (0) (.slice none 0 0) (0) (0) (.slice none 0 0)))
def TN0nen (c : List Value) (xb : List UInt8) (p te xc clock : Nat)  : List Bool := [!xb.length.beq 0 && (List.drop p c).length.beq (xb.length * 1) && (!(0 + xb.length).ble (capLow (2 * 0)) && (((0 + xb.length) * 2 * (1 + 1)).ble 140737488355328 && ((List.drop p c).all oneCell && (List.drop p c).length.beq (xb.length * 1)))) && (!isOpen (2 * 0) && Nat.beq 0 0),
  decide ((xb.length : Int) ≤ Int.ofNat 1048576),
  Nat.beq 20 20 && p.beq p && true && true && xb.length.beq xb.length && (2 * xc).beq (2 * xc) && true && true,
  !(1 + xb.length - 1).beq 0 && (List.drop p c).length.beq ((1 + xb.length - 1) * 1) && (!(0 + (1 + xb.length - 1)).ble (capLow (2 * 0)) && (((0 + (1 + xb.length - 1)) * 2 * (1 + 1)).ble 140737488355328 && ((List.drop p c).all oneCell && (List.drop p c).length.beq ((1 + xb.length - 1) * 1)))) && (!isOpen (2 * 0) && Nat.beq 0 0),
  true,
  true && (true && (true && ((1 + xb.length).ble (capLow (2 * (1 + xb.length) + 1)) && (Nat.ble 1 (1 + xb.length) && ((!isOpen (2 * (1 + xb.length) + 1) && true || !Nat.beq 1 0) && !(capLow (2 * (1 + xb.length) + 1)).beq 1))))),
  isIntIn .u8 (some (Value.int .u8 (Int.ofNat 6))),
  true && decide (Int.ofNat 0 < Int.ofNat (1 + xb.length)),
  decide (Int.ofNat 0 < Int.ofNat (1 + xb.length)),
  true,
  !(1 + xb.length).beq 0 && (F1 (List.drop p c)).length.beq ((1 + xb.length) * 1) && (!(0 + (1 + xb.length)).ble (capLow (2 * 0)) && (((0 + (1 + xb.length)) * 2 * (1 + 1)).ble 140737488355328 && ((F1 (List.drop p c)).all oneCell && (F1 (List.drop p c)).length.beq ((1 + xb.length) * 1)))) && (!isOpen (2 * 0) && Nat.beq 0 0),
  true,
  !decide (Int.ofNat (12 + (4 + (1 + xb.length))) < Int.ofNat (12 + (4 + (1 + xb.length)))),
  true,
  !(12 + (4 + (1 + xb.length))).beq 0 && (hd0 ++ (be (Int.ofNat (1 + xb.length)) ++ F1 (List.drop p c))).length.beq (0 + (12 + (4 + (1 + xb.length)))) && (!(0 + (12 + (4 + (1 + xb.length)))).ble (capLow 0) && (((0 + (12 + (4 + (1 + xb.length)))) * 2 * (1 + 1)).ble 140737488355328 && ((hd0 ++ (be (Int.ofNat (1 + xb.length)) ++ F1 (List.drop p c))).all oneCell && (hd0 ++ (be (Int.ofNat (1 + xb.length)) ++ F1 (List.drop p c))).length.beq (0 + (12 + (4 + (1 + xb.length))))))) && (Nat.beq 0 0 && Nat.beq 0 0),
  true && (true && (true && ((12 + (4 + (1 + xb.length))).ble (capLow (2 * (12 + (4 + (1 + xb.length))) + 1)) && (Nat.ble 0 (12 + (4 + (1 + xb.length))) && ((!isOpen (2 * (12 + (4 + (1 + xb.length))) + 1) || Nat.beq 0 0 || !Nat.beq 1 0) && !(capLow (2 * (12 + (4 + (1 + xb.length))) + 1)).beq 0))))),
  true,
  decide ((if Int.ofNat 1073741824 < Int.ofNat (12 + (4 + (1 + xb.length))) then Int.ofNat 1073741824 else Int.ofNat (12 + (4 + (1 + xb.length)))) = Int.ofNat (12 + (4 + (1 + xb.length)))),
  decide ((if Int.ofNat 0 > Int.ofNat 1073741824 - Int.ofNat 0 then Int.ofNat 0 else Int.ofNat 1073741824 - Int.ofNat 0) = Int.ofNat 1073741824),
  decide (IntKind.wrap .i64 (Int.ofNat 1073741824 - Int.ofNat 0) = Int.ofNat 1073741824 - Int.ofNat 0),
  bornT [clock] (clock + 1),
  ltT (Int.ofNat 0) (Int.ofNat 1073741824),
  !(4 + (1 + xb.length)).beq 0 && (be (Int.ofNat (1 + xb.length)) ++ F1 (List.drop p c)).length.beq ((4 + (1 + xb.length)) * 1) && (!(12 + (4 + (1 + xb.length))).ble (capLow (2 * (4 + (Int.ofNat 8).toNat) + 1)) && (((12 + (4 + (1 + xb.length))) * 2 * (1 + 1)).ble 140737488355328 && ((be (Int.ofNat (1 + xb.length)) ++ F1 (List.drop p c)).all oneCell && (be (Int.ofNat (1 + xb.length)) ++ F1 (List.drop p c)).length.beq ((4 + (1 + xb.length)) * 1)))) && (isOpen (2 * (4 + (Int.ofNat 8).toNat) + 1) && (Nat.beq 0 0 && ((List.take (4 * 1) (List.drop 0 [Value.int .u8 (Int.ofNat 119), Value.int .u8 (Int.ofNat 97), Value.int .u8 (Int.ofNat 108), Value.int .u8 (Int.ofNat 49)]) ++ List.take ((Int.ofNat 8).toNat * 1) (List.drop 0 [Value.int .u8 (Int.ofNat 0), Value.int .u8 (Int.ofNat 0), Value.int .u8 (Int.ofNat 0), Value.int .u8 (Int.ofNat 0), Value.int .u8 (Int.ofNat 0), Value.int .u8 (Int.ofNat 0), Value.int .u8 (Int.ofNat 0), Value.int .u8 (Int.ofNat 0)])).length.beq ((4 + (Int.ofNat 8).toNat) * 1) && (Nat.beq 1 1 && (!Nat.beq 1 0 && Nat.beq 5 5))))),
  !(1 + xb.length).beq 0 && (F1 (List.drop p c)).length.beq ((1 + xb.length) * 1) && (!(4 + (1 + xb.length)).ble (capLow (2 * (Int.ofNat 4).toNat)) && (((4 + (1 + xb.length)) * 2 * (1 + 1)).ble 140737488355328 && ((F1 (List.drop p c)).all oneCell && (F1 (List.drop p c)).length.beq ((1 + xb.length) * 1)))) && (!isOpen (2 * (Int.ofNat 4).toNat) && (be (Int.ofNat (1 + xb.length))).length.beq ((Int.ofNat 4).toNat * 1)),
  !decide (Int.ofNat (1 + xb.length) > Int.ofNat 1048576),
  !decide (Int.ofNat (1 + xb.length) = Int.ofNat 0),
  !decide (Int.ofNat (1 + xb.length) > Int.ofNat 1048576),
  true,
  true,
  !xb.length.beq 0 && (List.drop p c).length.beq (xb.length * 1) && (!(1 + xb.length).ble (capLow (2 * (0 + (0 + 1)) + 1)) && (((1 + xb.length) * 2 * (1 + 1)).ble 140737488355328 && ((List.drop p c).all oneCell && (List.drop p c).length.beq (xb.length * 1)))) && (isOpen (2 * (0 + (0 + 1)) + 1) && (Nat.beq 0 0 && ([Value.int .u8 6].length.beq ((0 + (0 + 1)) * 1) && (Nat.beq 1 1 && (!Nat.beq 1 0 && Nat.beq 5 5))))),
  true,
  !decide ((xb.length : Int) > Int.ofNat 1048576),
  true]
theorem runN0nen (c : List Value) (xb : List UInt8) (p te xc clock : Nat)  :
  ((levO Tryz.prog ext WN0nen 300).call 24 #[P 8, opV (.slice (some ⟨20, p, none⟩) xb.length (2 * xc))] (HN0nen c xb p te xc clock)).map (fun r => (r.1, r.2.1.gl, [44, 47, 49, 38, 39, 5, 6, 24, 8, 9, 10, 11, 12].map r.2.1.objs.get, r.2.2)) =
  some (.bool true, 5, [
    some (.cells (.open_ 1) [S 42 (1 + xb.length)] 57),
    some (.cells (.open_ 1) (List.drop p c) 5),
    some (.cells (.open_ 1) (List.drop p c) 5),
    some (.cells .own [S 39 (0 + (12 + (4 + (1 + xb.length)))), I ((0 + (12 + (4 + (1 + xb.length)))) : Nat)] 143),
    some (.cells (.open_ 1) (hd0 ++ (be (Int.ofNat (1 + xb.length)) ++ F1 (List.drop p c))) 5),
    some (.map [⟨.string "wal".toUTF8, P 38, (clock + 1)⟩] (clock + 2)),
    some (.cells .own [.map (some 5), I 1073741824, I (-1), .bool false] 140),
    some (.cells .own [.slice none 0 0, S 49 xb.length] 84),
    some (.cells .own [P 6, P 12, P 24, .pointer none, .bool false] 46),
    some (.cells .own [P 6, I 0, S 44 (1), I ((12 + (4 + (1 + xb.length))) : Nat), .bool false] 219),
    some (.map [] 0),
    some (.cells .own [I 9223372036854775807, I 0, .map (some 10)] 216),
    some (.cells .own [P 6, P 9, P 11, .slice none 0 0, I 0, I 0, S 47 (1 + xb.length - 1), .map none, .bool false] 118)], TN0nen c xb p te xc clock) := by kernel_rfl
theorem testsN0nen (c : List Value) (xb : List UInt8) (p te xc clock : Nat)  (hx : 0 < xb.length) (hx2 : xb.length ≤ 5000) (hcc : List.drop p c = byteVals xb) : allT (TN0nen c xb p te xc clock) := by
  intro b hb
  simp only [TN0nen, List.mem_cons, List.not_mem_nil, or_false] at hb
  have e0 := wrap_a (Int.ofNat 1073741824 - Int.ofNat 0)
  rcases hb with hb | hb | hb | hb | hb | hb | hb | hb | hb | hb | hb | hb | hb | hb | hb | hb | hb | hb | hb | hb | hb | hb | hb | hb | hb | hb | hb | hb | hb | hb | hb | hb | hb <;> refine hb.trans ?_ <;> clear hb <;> (try rw [hcc]) <;> (try rw [F1_bytes]) <;> 
  first
  | with_reducible rfl
  | with_reducible exact isSame_refl _
  | (unfold ltT; rw [decide_eq_true_eq]; (try simp only [Int.ofNat_eq_natCast]); omega)
  | (unfold bornT; simp <;> omega)
  | (simp only [e0, wrapM, decide_true, Bool.not_eq_true', decide_eq_true_eq, decide_eq_false_iff_not, Int.ofNat_eq_natCast, gt_iff_lt]; omega)
  | (simp only [bun, capLow, isOpen, oneCell]; omega)
  | (simp only [wrapM, Int.ofNat_eq_natCast, decide_eq_true_eq]; split <;> omega)
  | (simp only [e0, wrapM, Int.ofNat_eq_natCast, decide_eq_true_eq, gt_iff_lt]; (repeat' split) <;> omega)
  | (first | exact z1 (by omega) | exact z2 (by omega) | exact z3 (by omega) | exact z4 (by omega) | exact z5 (by omega) | exact z6 (by omega))
  | (simp [beq_t]; done)
  | rfl
theorem stepN0nen (c : List Value) (xb : List UInt8) (p te xc clock : Nat)  (hcc : List.drop p c = byteVals xb) :
  ∃ K, (levO Tryz.prog ext WN0nen 300).call 24 #[P 8, opV (.slice (some ⟨20, p, none⟩) xb.length (2 * xc))] (HN0nen c xb p te xc clock) = some (.bool true, K, TN0nen c xb p te xc clock) ∧
    Gen (pairs 5 [(15, 44), (16, 47), (17, 49), (13, 38), (14, 39), (5, 5), (6, 6), (7, 24), (8, 8), (9, 9), (10, 10), (11, 11), (12, 12)]) K (heapOf 20 5 ([(15, tops (1))] ++ [(16, rowO (xb))] ++ [(17, rowO (xb))] ++ (fileO 13 (start 0 xb)) ++ (base [walE (clock + 1)] (clock + 2) (S 17 xb.length) (0) (S 15 (1)) (((start 0 xb).length : Nat)) (0) (S 16 xb.length)))) := by
  obtain ⟨⟨v, K, ts⟩, hc, h⟩ := Option.map_eq_some_iff.1 (runN0nen c xb p te xc clock)
  simp only [Prod.mk.injEq, List.map_cons, List.map_nil, List.cons.injEq, and_true] at h
  obtain ⟨rfl, hgl, ⟨h44, h47, h49, h38, h39, h5, h6, h24, h8, h9, h10, h11, h12⟩, rfl⟩ := h
  refine ⟨K, hc, Gen.of_pairs hgl (by decide) ?_⟩
  intro x hm
  simp only [base, fileO, walE, manE, tops, rowO, noneO, List.cons_append, List.nil_append, List.mem_cons, List.not_mem_nil, or_false] at hm
  rcases hm with rfl | rfl | rfl | rfl | rfl | rfl | rfl | rfl | rfl | rfl | rfl | rfl | rfl
  · refine fit rfl h44 (OG.open_ _ _ ?_) rfl sameFl
    exact tops_snoc 0 _ rfl
  · refine fit rfl h47 (OG.open_ _ _ ?_) rfl sameFl
    rw [hcc]
    exact LG.bytes _
  · refine fit rfl h49 (OG.open_ _ _ ?_) rfl sameFl
    rw [hcc]
    exact LG.bytes _
  · refine fit rfl h38 (OG.own _ ?_) rfl sameFl
    rw [Nat.zero_add, start_length]
    exact LS.ok (by repeat' constructor)
  · refine fit rfl h39 (OG.open_ _ _ ?_) rfl sameFl
    rw [hcc, show F1 (byteVals xb) = F0 xb from rfl, ← start_vals]
    exact LG.bytes _
  · exact fit rfl h5 (OG.map1 (VG.string _) (VG.ptr _ rfl)) rfl noFl
  · refine fit rfl h6 (OG.own _ ?_) rfl sameFl
    exact LS.ok (by repeat' constructor)
  · refine fit rfl h24 (OG.own _ ?_) rfl sameFl
    exact LS.ok (by repeat' constructor)
  · refine fit rfl h8 (OG.own _ ?_) rfl sameFl
    exact LS.ok (by repeat' constructor)
  · refine fit rfl h9 (OG.own _ ?_) rfl sameFl
    rw [start_length]
    exact LS.ok (by repeat' constructor)
  · exact fit rfl h10 OG.map0 rfl noFl
  · refine fit rfl h11 (OG.own _ ?_) rfl sameFl
    exact LS.ok (by repeat' constructor)
  · refine fit rfl h12 (OG.own _ ?_) rfl sameFl
    rw [show 1 + xb.length - 1 = xb.length by omega]
    exact LS.ok (by repeat' constructor)
def WN0nee : Word := fun o _ => match o.dst with
  | _ => none

def HN0nee (xc clock : Nat)  : AHeap := heapOf 20 5 ((base [] clock (.slice none 0 0) (0) (.slice none 0 0) (0) (0) (.slice none 0 0)))
def TN0nee (xc clock : Nat)  : List Bool := [Nat.beq (2 * xc) (2 * xc) && true && true,
  true,
  true,
  true,
  bornT [clock] (clock + 1),
  ltT (Int.ofNat 0) (Int.ofNat 1073741824),
  true,
  true,
  true,
  true]
theorem runN0nee (xc clock : Nat)  :
  ((levO Tryz.prog ext WN0nee 300).call 24 #[P 8, opV (.slice (some nowhere) 0 (2 * xc))] (HN0nee xc clock)).map (fun r => (r.1, r.2.1.gl, [42, 44, 45, 36, 37, 5, 6, 23, 8, 9, 10, 11, 12].map r.2.1.objs.get, r.2.2)) =
  some (.bool true, 5, [
    some (.cells (.open_ 1) [S 40 (1 + 0)] 57),
    some (.cells .own [] 5),
    some (.cells .own [] 5),
    some (.cells .own [S 37 (0 + (12 + (4 + (1 + 0)))), I ((0 + (12 + (4 + (1 + 0)))) : Nat)] 143),
    some (.cells (.open_ 1) (hd0 ++ (be (Int.ofNat (1 + 0)) ++ F0 ([] : List UInt8))) 5),
    some (.map [⟨.string "wal".toUTF8, P 36, (clock + 1)⟩] (clock + 2)),
    some (.cells .own [.map (some 5), I 1073741824, I (-1), .bool false] 140),
    some (.cells .own [.slice none 0 0, E 45] 84),
    some (.cells .own [P 6, P 12, P 23, .pointer none, .bool false] 46),
    some (.cells .own [P 6, I 0, S 42 (1), I ((12 + (4 + (1 + 0))) : Nat), .bool false] 219),
    some (.map [] 0),
    some (.cells .own [I 9223372036854775807, I 0, .map (some 10)] 216),
    some (.cells .own [P 6, P 9, P 11, .slice none 0 0, I 0, I (0), E 44, .map none, .bool false] 118)], TN0nee xc clock) := by kernel_rfl
theorem testsN0nee (xc clock : Nat)   : allT (TN0nee xc clock) := by
  intro b hb
  simp only [TN0nee, List.mem_cons, List.not_mem_nil, or_false] at hb
  rcases hb with hb | hb | hb | hb | hb | hb | hb | hb | hb | hb <;> refine hb.trans ?_ <;> clear hb <;> 
  first
  | with_reducible rfl
  | with_reducible exact isSame_refl _
  | (unfold ltT; rw [decide_eq_true_eq]; (try simp only [Int.ofNat_eq_natCast]); omega)
  | (unfold bornT; simp <;> omega)
  | (simp only [wrapM, decide_true, Bool.not_eq_true', decide_eq_true_eq, decide_eq_false_iff_not, Int.ofNat_eq_natCast, gt_iff_lt]; omega)
  | (simp only [bun, capLow, isOpen, oneCell]; omega)
  | (simp only [wrapM, Int.ofNat_eq_natCast, decide_eq_true_eq]; split <;> omega)
  | (simp only [wrapM, Int.ofNat_eq_natCast, decide_eq_true_eq, gt_iff_lt]; (repeat' split) <;> omega)
  | (first | exact z1 (by omega) | exact z2 (by omega) | exact z3 (by omega) | exact z4 (by omega) | exact z5 (by omega) | exact z6 (by omega))
  | (simp [beq_t]; done)
  | rfl
theorem stepN0nee (xc clock : Nat)   :
  ∃ K, (levO Tryz.prog ext WN0nee 300).call 24 #[P 8, opV (.slice (some nowhere) 0 (2 * xc))] (HN0nee xc clock) = some (.bool true, K, TN0nee xc clock) ∧
    Gen (pairs 5 [(15, 42), (16, 44), (17, 45), (13, 36), (14, 37), (5, 5), (6, 6), (7, 23), (8, 8), (9, 9), (10, 10), (11, 11), (12, 12)]) K (heapOf 20 5 ([(15, tops (1))] ++ [(16, noneO)] ++ [(17, noneO)] ++ (fileO 13 (start 0 ([] : List UInt8))) ++ (base [walE (clock + 1)] (clock + 2) (E 17) (0) (S 15 (1)) (((start 0 ([] : List UInt8)).length : Nat)) (0) (E 16)))) := by
  obtain ⟨⟨v, K, ts⟩, hc, h⟩ := Option.map_eq_some_iff.1 (runN0nee xc clock)
  simp only [Prod.mk.injEq, List.map_cons, List.map_nil, List.cons.injEq, and_true] at h
  obtain ⟨rfl, hgl, ⟨h42, h44, h45, h36, h37, h5, h6, h23, h8, h9, h10, h11, h12⟩, rfl⟩ := h
  refine ⟨K, hc, Gen.of_pairs hgl (by decide) ?_⟩
  intro x hm
  simp only [base, fileO, walE, manE, tops, rowO, noneO, List.cons_append, List.nil_append, List.mem_cons, List.not_mem_nil, or_false] at hm
  rcases hm with rfl | rfl | rfl | rfl | rfl | rfl | rfl | rfl | rfl | rfl | rfl | rfl | rfl
  · refine fit rfl h42 (OG.open_ _ _ ?_) rfl sameFl
    exact tops_snoc 0 _ rfl
  · refine fit rfl h44 (OG.own _ ?_) rfl sameFl
    exact LS.ok (by repeat' constructor)
  · refine fit rfl h45 (OG.own _ ?_) rfl sameFl
    exact LS.ok (by repeat' constructor)
  · refine fit rfl h36 (OG.own _ ?_) rfl sameFl
    rw [Nat.zero_add, start_length]
    exact LS.ok (by repeat' constructor)
  · refine fit rfl h37 (OG.open_ _ _ ?_) rfl sameFl
    rw [show hd0 ++ (be (Int.ofNat (1 + 0)) ++ F0 []) = byteVals (start 0 []) from (start_vals []).symm]
    exact LG.bytes _
  · exact fit rfl h5 (OG.map1 (VG.string _) (VG.ptr _ rfl)) rfl noFl
  · refine fit rfl h6 (OG.own _ ?_) rfl sameFl
    exact LS.ok (by repeat' constructor)
  · refine fit rfl h23 (OG.own _ ?_) rfl sameFl
    exact LS.ok (by repeat' constructor)
  · refine fit rfl h8 (OG.own _ ?_) rfl sameFl
    exact LS.ok (by repeat' constructor)
  · refine fit rfl h9 (OG.own _ ?_) rfl sameFl
    rw [start_length]
    exact LS.ok (by repeat' constructor)
  · exact fit rfl h10 OG.map0 rfl noFl
  · refine fit rfl h11 (OG.own _ ?_) rfl sameFl
    exact LS.ok (by repeat' constructor)
  · refine fit rfl h12 (OG.own _ ?_) rfl sameFl
    exact LS.ok (by repeat' constructor)
def WN0nez : Word := fun o _ => match o.dst with
  | _ => none

def HN0nez (clock : Nat)  : AHeap := heapOf 20 5 ((base [] clock (.slice none 0 0) (0) (.slice none 0 0) (0) (0) (.slice none 0 0)))
def TN0nez (clock : Nat)  : List Bool := [true,
  true,
  true,
  true,
  bornT [clock] (clock + 1),
  ltT (Int.ofNat 0) (Int.ofNat 1073741824),
  true,
  true,
  true,
  true]
theorem runN0nez (clock : Nat)  :
  ((levO Tryz.prog ext WN0nez 300).call 24 #[P 8, opV (.slice none 0 0)] (HN0nez clock)).map (fun r => (r.1, r.2.1.gl, [42, 44, 45, 36, 37, 5, 6, 23, 8, 9, 10, 11, 12].map r.2.1.objs.get, r.2.2)) =
  some (.bool true, 5, [
    some (.cells (.open_ 1) [S 40 (1 + 0)] 57),
    some (.cells .own [] 5),
    some (.cells .own [] 5),
    some (.cells .own [S 37 (0 + (12 + (4 + (1 + 0)))), I ((0 + (12 + (4 + (1 + 0)))) : Nat)] 143),
    some (.cells (.open_ 1) (hd0 ++ (be (Int.ofNat (1 + 0)) ++ F0 ([] : List UInt8))) 5),
    some (.map [⟨.string "wal".toUTF8, P 36, (clock + 1)⟩] (clock + 2)),
    some (.cells .own [.map (some 5), I 1073741824, I (-1), .bool false] 140),
    some (.cells .own [.slice none 0 0, E 45] 84),
    some (.cells .own [P 6, P 12, P 23, .pointer none, .bool false] 46),
    some (.cells .own [P 6, I 0, S 42 (1), I ((12 + (4 + (1 + 0))) : Nat), .bool false] 219),
    some (.map [] 0),
    some (.cells .own [I 9223372036854775807, I 0, .map (some 10)] 216),
    some (.cells .own [P 6, P 9, P 11, .slice none 0 0, I 0, I (0), E 44, .map none, .bool false] 118)], TN0nez clock) := by kernel_rfl
theorem testsN0nez (clock : Nat)   : allT (TN0nez clock) := by
  intro b hb
  simp only [TN0nez, List.mem_cons, List.not_mem_nil, or_false] at hb
  rcases hb with hb | hb | hb | hb | hb | hb | hb | hb | hb | hb <;> refine hb.trans ?_ <;> clear hb <;> 
  first
  | with_reducible rfl
  | with_reducible exact isSame_refl _
  | (unfold ltT; rw [decide_eq_true_eq]; (try simp only [Int.ofNat_eq_natCast]); omega)
  | (unfold bornT; simp <;> omega)
  | (simp only [wrapM, decide_true, Bool.not_eq_true', decide_eq_true_eq, decide_eq_false_iff_not, Int.ofNat_eq_natCast, gt_iff_lt]; omega)
  | (simp only [bun, capLow, isOpen, oneCell]; omega)
  | (simp only [wrapM, Int.ofNat_eq_natCast, decide_eq_true_eq]; split <;> omega)
  | (simp only [wrapM, Int.ofNat_eq_natCast, decide_eq_true_eq, gt_iff_lt]; (repeat' split) <;> omega)
  | (first | exact z1 (by omega) | exact z2 (by omega) | exact z3 (by omega) | exact z4 (by omega) | exact z5 (by omega) | exact z6 (by omega))
  | (simp [beq_t]; done)
  | rfl
theorem stepN0nez (clock : Nat)   :
  ∃ K, (levO Tryz.prog ext WN0nez 300).call 24 #[P 8, opV (.slice none 0 0)] (HN0nez clock) = some (.bool true, K, TN0nez clock) ∧
    Gen (pairs 5 [(15, 42), (16, 44), (17, 45), (13, 36), (14, 37), (5, 5), (6, 6), (7, 23), (8, 8), (9, 9), (10, 10), (11, 11), (12, 12)]) K (heapOf 20 5 ([(15, tops (1))] ++ [(16, noneO)] ++ [(17, noneO)] ++ (fileO 13 (start 0 ([] : List UInt8))) ++ (base [walE (clock + 1)] (clock + 2) (E 17) (0) (S 15 (1)) (((start 0 ([] : List UInt8)).length : Nat)) (0) (E 16)))) := by
  obtain ⟨⟨v, K, ts⟩, hc, h⟩ := Option.map_eq_some_iff.1 (runN0nez clock)
  simp only [Prod.mk.injEq, List.map_cons, List.map_nil, List.cons.injEq, and_true] at h
  obtain ⟨rfl, hgl, ⟨h42, h44, h45, h36, h37, h5, h6, h23, h8, h9, h10, h11, h12⟩, rfl⟩ := h
  refine ⟨K, hc, Gen.of_pairs hgl (by decide) ?_⟩
  intro x hm
  simp only [base, fileO, walE, manE, tops, rowO, noneO, List.cons_append, List.nil_append, List.mem_cons, List.not_mem_nil, or_false] at hm
  rcases hm with rfl | rfl | rfl | rfl | rfl | rfl | rfl | rfl | rfl | rfl | rfl | rfl | rfl
  · refine fit rfl h42 (OG.open_ _ _ ?_) rfl sameFl
    exact tops_snoc 0 _ rfl
  · refine fit rfl h44 (OG.own _ ?_) rfl sameFl
    exact LS.ok (by repeat' constructor)
  · refine fit rfl h45 (OG.own _ ?_) rfl sameFl
    exact LS.ok (by repeat' constructor)
  · refine fit rfl h36 (OG.own _ ?_) rfl sameFl
    rw [Nat.zero_add, start_length]
    exact LS.ok (by repeat' constructor)
  · refine fit rfl h37 (OG.open_ _ _ ?_) rfl sameFl
    rw [show hd0 ++ (be (Int.ofNat (1 + 0)) ++ F0 []) = byteVals (start 0 []) from (start_vals []).symm]
    exact LG.bytes _
  · exact fit rfl h5 (OG.map1 (VG.string _) (VG.ptr _ rfl)) rfl noFl
  · refine fit rfl h6 (OG.own _ ?_) rfl sameFl
    exact LS.ok (by repeat' constructor)
  · refine fit rfl h23 (OG.own _ ?_) rfl sameFl
    exact LS.ok (by repeat' constructor)
  · refine fit rfl h8 (OG.own _ ?_) rfl sameFl
    exact LS.ok (by repeat' constructor)
  · refine fit rfl h9 (OG.own _ ?_) rfl sameFl
    rw [start_length]
    exact LS.ok (by repeat' constructor)
  · exact fit rfl h10 OG.map0 rfl noFl
  · refine fit rfl h11 (OG.own _ ?_) rfl sameFl
    exact LS.ok (by repeat' constructor)
  · refine fit rfl h12 (OG.own _ ?_) rfl sameFl
    exact LS.ok (by repeat' constructor)
def WN1knn : Word := fun o _ => match o.dst with
  | some 4 => bif o.pos == "bytes.go:1392" then some 0 else none
  | some 7 => bif o.pos == "bytes.go:1395" then some 14 else bif o.pos == "wal.go:48" then some 13 else none
  | some 10 => bif o.pos == "bits.go:107" then some 1 else none
  | some 12 => bif o.pos == "bits.go:107" then some 0 else none
  | some 13 => bif o.pos == "bits.go:107" then some 0 else none
  | some 14 => bif o.pos == "ref.go:19" then some 14 else bif o.pos == "wal.go:98" then some 2 else none
  | some 16 => bif o.pos == "engine.go:366" then some 0 else none
  | some 18 => bif o.pos == "wal.go:114" then some 0 else none
  | some 19 => bif o.pos == "engine.go:123" then some 0 else none
  | some 22 => bif o.pos == "wal.go:114" then some 0 else none
  | some 25 => bif o.pos == "engine.go:218" then some 3 else none
  | some 26 => bif o.pos == "engine.go:218" then some 0 else none
  | some 27 => bif o.pos == "engine.go:371" then some 12 else none
  | some 28 => bif o.pos == "wal.go:118" then some 0 else none
  | some 38 => bif o.pos == "engine.go:223" then some 0 else none
  | some 47 => bif o.pos == "disk.go:76" then some 3 else none
  | some 48 => bif o.pos == "disk.go:76" then some 0 else none
  | some 49 => bif o.pos == "disk.go:76" then some 0 else none
  | some 50 => bif o.pos == "wal.go:141" then some 2 else none
  | some 51 => bif o.pos == "wal.go:124" then some 12 else none
  | some 57 => bif o.pos == "disk.go:77" then some 0 else none
  | some 58 => bif o.pos == "disk.go:77" then some 12 else none
  | some 64 => bif o.pos == "disk.go:78" then some 0 else none
  | some 90 => bif o.pos == "law.go:116" then some 1 else none
  | some 95 => bif o.pos == "law.go:117" then some 14 else none
  | _ => none

def HN1knn (c : List Value) (wb rb xb : List UInt8) (p te xc clock born k : Nat) (first taken : Int) (nv : Value) (o16 : AObj) : AHeap := heapOf 21 5 ([(20, .cells .ro c te)] ++ [(15, tops (k))] ++ [(17, rowO (rb))] ++ (fileO 13 (wb)) ++ [(16, o16)] ++ (base [walE born] clock (S 17 rb.length) (first) (S 15 k) ((wb.length : Nat)) (taken) (nv)))
def TN1knn (c : List Value) (wb rb xb : List UInt8) (p te xc clock born k : Nat) (first taken : Int) (nv : Value) (o16 : AObj) : List Bool := [!xb.length.beq 0 && (List.drop p c).length.beq (xb.length * 1) && (!(0 + xb.length).ble (capLow (2 * 0)) && (((0 + xb.length) * 2 * (1 + 1)).ble 140737488355328 && ((List.drop p c).all oneCell && (List.drop p c).length.beq (xb.length * 1)))) && (!isOpen (2 * 0) && Nat.beq 0 0),
  decide ((xb.length : Int) ≤ Int.ofNat 1048576),
  Nat.beq 20 20 && p.beq p && true && true && xb.length.beq xb.length && (2 * xc).beq (2 * xc) && true && true,
  !(1 + xb.length - 1).beq 0 && (List.drop p c).length.beq ((1 + xb.length - 1) * 1) && (!(0 + (1 + xb.length - 1)).ble (capLow (2 * 0)) && (((0 + (1 + xb.length - 1)) * 2 * (1 + 1)).ble 140737488355328 && ((List.drop p c).all oneCell && (List.drop p c).length.beq ((1 + xb.length - 1) * 1)))) && (!isOpen (2 * 0) && Nat.beq 0 0),
  true,
  true && (true && (true && ((1 + xb.length).ble (capLow (2 * (1 + xb.length) + 1)) && (Nat.ble 1 (1 + xb.length) && ((!isOpen (2 * (1 + xb.length) + 1) && true || !Nat.beq 1 0) && !(capLow (2 * (1 + xb.length) + 1)).beq 1))))),
  isIntIn .u8 (some (Value.int .u8 (Int.ofNat 6))),
  true && decide (Int.ofNat 0 < Int.ofNat (1 + xb.length)),
  decide (Int.ofNat 0 < Int.ofNat (1 + xb.length)),
  Nat.beq 15 15 && Nat.beq 0 0 && true && true && k.beq k && (2 * k + 1).beq (2 * k + 1) && (Nat.beq 15 15 && Nat.beq 0 0 && true && true && k.beq k && (2 * k + 1).beq (2 * k + 1) && true) && true,
  !Nat.beq 1 0 && [Value.slice (some { block := 36, off := 0 }) (1 + xb.length) (2 * (1 + xb.length) + 1)].length.beq (1 * 1) && (!(k + 1).ble (capLow (2 * k + 1)) && (((k + 1) * 2 * (24 + 1)).ble 140737488355328 && ([Value.slice (some { block := 36, off := 0 }) (1 + xb.length) (2 * (1 + xb.length) + 1)].all oneCell && [Value.slice (some { block := 36, off := 0 }) (1 + xb.length) (2 * (1 + xb.length) + 1)].length.beq (1 * 1)))) && (isOpen (2 * k + 1) && (Nat.beq 0 0 && ((List.replicate k (Value.chan (some 0))).length.beq (k * 1) && (Nat.beq 1 1 && (!Nat.beq 1 0 && Nat.beq 57 57))))),
  !(1 + xb.length).beq 0 && (F1 (List.drop p c)).length.beq ((1 + xb.length) * 1) && (!(0 + (1 + xb.length)).ble (capLow (2 * 0)) && (((0 + (1 + xb.length)) * 2 * (1 + 1)).ble 140737488355328 && ((F1 (List.drop p c)).all oneCell && (F1 (List.drop p c)).length.beq ((1 + xb.length) * 1)))) && (!isOpen (2 * 0) && Nat.beq 0 0),
  true,
  decide (IntKind.wrap .i64 (Int.ofNat (wb.length + (4 + (1 + xb.length)))) = Int.ofNat (wb.length + (4 + (1 + xb.length)))),
  !decide (Int.ofNat (4 + (1 + xb.length)) < Int.ofNat (4 + (1 + xb.length))),
  Nat.beq 14 14 && Nat.beq 0 0 && true && true && wb.length.beq wb.length && (2 * wb.length + 1).beq (2 * wb.length + 1) && true && true,
  !(4 + (1 + xb.length)).beq 0 && (be (Int.ofNat (1 + xb.length)) ++ F1 (List.drop p c)).length.beq ((4 + (1 + xb.length)) * 1) && (!(wb.length + (4 + (1 + xb.length))).ble (capLow (2 * wb.length + 1)) && (((wb.length + (4 + (1 + xb.length))) * 2 * (1 + 1)).ble 140737488355328 && ((be (Int.ofNat (1 + xb.length)) ++ F1 (List.drop p c)).all oneCell && (be (Int.ofNat (1 + xb.length)) ++ F1 (List.drop p c)).length.beq ((4 + (1 + xb.length)) * 1)))) && (isOpen (2 * wb.length + 1) && (Nat.beq 0 0 && ((byteVals wb).length.beq (wb.length * 1) && (Nat.beq 1 1 && (!Nat.beq 1 0 && Nat.beq 5 5))))),
  true && (true && (true && ((4 + (1 + xb.length)).ble (capLow (2 * (4 + (1 + xb.length)) + 1)) && (Nat.ble 0 (4 + (1 + xb.length)) && ((!isOpen (2 * (4 + (1 + xb.length)) + 1) || Nat.beq 0 0 || !Nat.beq 1 0) && !(capLow (2 * (4 + (1 + xb.length)) + 1)).beq 0))))),
  true,
  decide ((if 1073741824 - (0 + (wb.length : Int)) < Int.ofNat (4 + (1 + xb.length)) then 1073741824 - (0 + (wb.length : Int)) else Int.ofNat (4 + (1 + xb.length))) = Int.ofNat (4 + (1 + xb.length))),
  decide ((if Int.ofNat 0 > 1073741824 - (0 + (wb.length : Int)) then Int.ofNat 0 else 1073741824 - (0 + (wb.length : Int))) = 1073741824 - (0 + (wb.length : Int))),
  decide (IntKind.wrap .i64 (1073741824 - (0 + (wb.length : Int))) = 1073741824 - (0 + (wb.length : Int))),
  bornT [born] clock,
  ltT (0 + (wb.length : Int)) (Int.ofNat 1073741824),
  !(1 + xb.length).beq 0 && (F1 (List.drop p c)).length.beq ((1 + xb.length) * 1) && (!(4 + (1 + xb.length)).ble (capLow (2 * (Int.ofNat 4).toNat)) && (((4 + (1 + xb.length)) * 2 * (1 + 1)).ble 140737488355328 && ((F1 (List.drop p c)).all oneCell && (F1 (List.drop p c)).length.beq ((1 + xb.length) * 1)))) && (!isOpen (2 * (Int.ofNat 4).toNat) && (be (Int.ofNat (1 + xb.length))).length.beq ((Int.ofNat 4).toNat * 1)),
  !decide ((wb.length : Int) = Int.ofNat 0),
  !decide (Int.ofNat (1 + xb.length) > Int.ofNat 1048576),
  !decide (Int.ofNat (1 + xb.length) = Int.ofNat 0),
  !decide (Int.ofNat (1 + xb.length) > Int.ofNat 1048576),
  true,
  !decide (first + (k : Int) - first > Int.ofNat 256),
  decide (IntKind.wrap .i64 (first + (k : Int) - first) = first + (k : Int) - first),
  decide (first = first) && true && (Nat.beq 15 15 && Nat.beq 0 0 && true && true && k.beq k && (2 * k + 1).beq (2 * k + 1) && true && true),
  decide (IntKind.wrap .i64 (first + (k : Int)) = first + (k : Int)),
  !xb.length.beq 0 && (List.drop p c).length.beq (xb.length * 1) && (!(1 + xb.length).ble (capLow (2 * (0 + (0 + 1)) + 1)) && (((1 + xb.length) * 2 * (1 + 1)).ble 140737488355328 && ((List.drop p c).all oneCell && (List.drop p c).length.beq (xb.length * 1)))) && (isOpen (2 * (0 + (0 + 1)) + 1) && (Nat.beq 0 0 && ([Value.int .u8 6].length.beq ((0 + (0 + 1)) * 1) && (Nat.beq 1 1 && (!Nat.beq 1 0 && Nat.beq 5 5))))),
  true,
  !decide ((xb.length : Int) > Int.ofNat 1048576),
  Nat.beq 17 17 && Nat.beq 0 0 && true && true && rb.length.beq rb.length && (2 * rb.length + 1).beq (2 * rb.length + 1) && (Nat.beq 17 17 && Nat.beq 0 0 && true && true && rb.length.beq rb.length && (2 * rb.length + 1).beq (2 * rb.length + 1) && true) && true,
  !rb.length.beq 0 && (byteVals rb).length.beq (rb.length * 1) && (!(0 + rb.length).ble (capLow (2 * 0)) && (((0 + rb.length) * 2 * (1 + 1)).ble 140737488355328 && ((byteVals rb).all oneCell && (byteVals rb).length.beq (rb.length * 1)))) && (!isOpen (2 * 0) && Nat.beq 0 0)]
theorem runN1knn (c : List Value) (wb rb xb : List UInt8) (p te xc clock born k : Nat) (first taken : Int) (nv : Value) (o16 : AObj) :
  ((levO Tryz.prog ext WN1knn 300).call 24 #[P 8, opV (.slice (some ⟨20, p, none⟩) xb.length (2 * xc))] (HN1knn c wb rb xb p te xc clock born k first taken nv o16)).map (fun r => (r.1, r.2.1.gl, [38, 41, 43, 13, 34, 5, 6, 25, 8, 9, 10, 11, 12].map r.2.1.objs.get, r.2.2)) =
  some (.bool true, 5, [
    some (.cells (.open_ 1) (List.replicate k (.chan (some 0)) ++ [S 36 (1 + xb.length)]) 57),
    some (.cells (.open_ 1) (List.drop p c) 5),
    some (.cells (.open_ 1) (List.drop p c) 5),
    some (.cells .own [S 34 (wb.length + (4 + (1 + xb.length))), I ((wb.length + (4 + (1 + xb.length))) : Nat)] 143),
    some (.cells (.open_ 1) (byteVals wb ++ (be (Int.ofNat (1 + xb.length)) ++ F1 (List.drop p c))) 5),
    some (.map [⟨.string "wal".toUTF8, P 13, born⟩] clock),
    some (.cells .own [.map (some 5), I 1073741824, I (-1), .bool false] 140),
    some (.cells .own [.slice none 0 0, S 43 xb.length] 84),
    some (.cells .own [P 6, P 12, P 25, .pointer none, .bool false] 46),
    some (.cells .own [P 6, I first, S 38 (k + 1), I ((wb.length + (4 + (1 + xb.length))) : Nat), .bool false] 219),
    some (.map [] 0),
    some (.cells .own [I 9223372036854775807, I 0, .map (some 10)] 216),
    some (.cells .own [P 6, P 9, P 11, .slice none 0 0, I 0, I taken, S 41 (1 + xb.length - 1), .map none, .bool false] 118)], TN1knn c wb rb xb p te xc clock born k first taken nv o16) := by kernel_rfl
theorem testsN1knn (c : List Value) (wb rb xb : List UInt8) (p te xc clock born k : Nat) (first taken : Int) (nv : Value) (o16 : AObj) (hw : 0 < wb.length) (hw2 : wb.length ≤ 1000000) (hr : 0 < rb.length) (hr2 : rb.length ≤ 5000) (hx : 0 < xb.length) (hx2 : xb.length ≤ 5000) (hcc : List.drop p c = byteVals xb) (hbo : born < clock) (hk0 : 0 < k) (hk : k ≤ 30) (h0 : 0 ≤ first) (h1 : first ≤ 30) : allT (TN1knn c wb rb xb p te xc clock born k first taken nv o16) := by
  intro b hb
  simp only [TN1knn, List.mem_cons, List.not_mem_nil, or_false] at hb
  have e0 := wrap_a (Int.ofNat (wb.length + (4 + (1 + xb.length))))
  have e1 := wrap_a (1073741824 - (0 + (wb.length : Int)))
  have e2 := wrap_a (first + (k : Int) - first)
  have e3 := wrap_a (first + (k : Int))
  rcases hb with hb | hb | hb | hb | hb | hb | hb | hb | hb | hb | hb | hb | hb | hb | hb | hb | hb | hb | hb | hb | hb | hb | hb | hb | hb | hb | hb | hb | hb | hb | hb | hb | hb | hb | hb | hb | hb | hb | hb <;> refine hb.trans ?_ <;> clear hb <;> (try rw [hcc]) <;> (try rw [F1_bytes]) <;> 
  first
  | with_reducible rfl
  | with_reducible exact isSame_refl _
  | (unfold ltT; rw [decide_eq_true_eq]; (try simp only [Int.ofNat_eq_natCast]); omega)
  | (unfold bornT; simp <;> omega)
  | (simp only [e0, e1, e2, e3, wrapM, decide_true, Bool.not_eq_true', decide_eq_true_eq, decide_eq_false_iff_not, Int.ofNat_eq_natCast, gt_iff_lt]; omega)
  | (simp only [bun, capLow, isOpen, oneCell]; omega)
  | (simp only [wrapM, Int.ofNat_eq_natCast, decide_eq_true_eq]; split <;> omega)
  | (simp only [e0, e1, e2, e3, wrapM, Int.ofNat_eq_natCast, decide_eq_true_eq, gt_iff_lt]; (repeat' split) <;> omega)
  | (first | exact z1 (by omega) | exact z2 (by omega) | exact z3 (by omega) | exact z4 (by omega) | exact z5 (by omega) | exact z6 (by omega))
  | (simp [beq_t]; done)
  | rfl
theorem stepN1knn (c : List Value) (wb rb xb : List UInt8) (p te xc clock born k : Nat) (first taken : Int) (nv : Value) (o16 : AObj) (hcc : List.drop p c = byteVals xb) :
  ∃ K, (levO Tryz.prog ext WN1knn 300).call 24 #[P 8, opV (.slice (some ⟨20, p, none⟩) xb.length (2 * xc))] (HN1knn c wb rb xb p te xc clock born k first taken nv o16) = some (.bool true, K, TN1knn c wb rb xb p te xc clock born k first taken nv o16) ∧
    Gen (pairs 5 [(15, 38), (16, 41), (17, 43), (13, 13), (14, 34), (5, 5), (6, 6), (7, 25), (8, 8), (9, 9), (10, 10), (11, 11), (12, 12)]) K (heapOf 20 5 ([(15, tops (k + 1))] ++ [(16, rowO (xb))] ++ [(17, rowO (xb))] ++ (fileO 13 (more wb xb)) ++ (base [walE born] clock (S 17 xb.length) (first) (S 15 (k + 1)) (((more wb xb).length : Nat)) (taken) (S 16 xb.length)))) := by
  obtain ⟨⟨v, K, ts⟩, hc, h⟩ := Option.map_eq_some_iff.1 (runN1knn c wb rb xb p te xc clock born k first taken nv o16)
  simp only [Prod.mk.injEq, List.map_cons, List.map_nil, List.cons.injEq, and_true] at h
  obtain ⟨rfl, hgl, ⟨h38, h41, h43, h13, h34, h5, h6, h25, h8, h9, h10, h11, h12⟩, rfl⟩ := h
  refine ⟨K, hc, Gen.of_pairs hgl (by decide) ?_⟩
  intro x hm
  simp only [base, fileO, walE, manE, tops, rowO, noneO, List.cons_append, List.nil_append, List.mem_cons, List.not_mem_nil, or_false] at hm
  rcases hm with rfl | rfl | rfl | rfl | rfl | rfl | rfl | rfl | rfl | rfl | rfl | rfl | rfl
  · refine fit rfl h38 (OG.open_ _ _ ?_) rfl sameFl
    exact tops_snoc _ _ rfl
  · refine fit rfl h41 (OG.open_ _ _ ?_) rfl sameFl
    rw [hcc]
    exact LG.bytes _
  · refine fit rfl h43 (OG.open_ _ _ ?_) rfl sameFl
    rw [hcc]
    exact LG.bytes _
  · refine fit rfl h13 (OG.own _ ?_) rfl sameFl
    rw [more_length]
    exact LS.ok (by repeat' constructor)
  · refine fit rfl h34 (OG.open_ _ _ ?_) rfl sameFl
    rw [hcc, show F1 (byteVals xb) = F0 xb from rfl, ← more_vals]
    exact LG.bytes _
  · exact fit rfl h5 (OG.map1 (VG.string _) (VG.ptr _ rfl)) rfl noFl
  · refine fit rfl h6 (OG.own _ ?_) rfl sameFl
    exact LS.ok (by repeat' constructor)
  · refine fit rfl h25 (OG.own _ ?_) rfl sameFl
    exact LS.ok (by repeat' constructor)
  · refine fit rfl h8 (OG.own _ ?_) rfl sameFl
    exact LS.ok (by repeat' constructor)
  · refine fit rfl h9 (OG.own _ ?_) rfl sameFl
    rw [more_length]
    exact LS.ok (by repeat' constructor)
  · exact fit rfl h10 OG.map0 rfl noFl
  · refine fit rfl h11 (OG.own _ ?_) rfl sameFl
    exact LS.ok (by repeat' constructor)
  · refine fit rfl h12 (OG.own _ ?_) rfl sameFl
    rw [show 1 + xb.length - 1 = xb.length by omega]
    exact LS.ok (by repeat' constructor)
def WN1kne : Word := fun o _ => match o.dst with
  | some 14 => bif o.pos == "ref.go:19" then some 14 else bif o.pos == "wal.go:98" then some 2 else none
  | some 25 => bif o.pos == "engine.go:218" then some 3 else none
  | some 26 => bif o.pos == "engine.go:218" then some 0 else none
  | some 28 => bif o.pos == "wal.go:118" then some 0 else none
  | some 47 => bif o.pos == "disk.go:76" then some 3 else none
  | some 48 => bif o.pos == "disk.go:76" then some 0 else none
  | some 49 => bif o.pos == "disk.go:76" then some 0 else none
  | some 50 => bif o.pos == "wal.go:141" then some 2 else none
  | some 51 => bif o.pos == "wal.go:124" then some 12 else none
  | some 58 => bif o.pos == "disk.go:77" then some 12 else none
  | _ => none

def HN1kne (wb rb : List UInt8) (xc clock born k : Nat) (first taken : Int) (nv : Value) (o16 : AObj) : AHeap := heapOf 20 5 ([(15, tops (k))] ++ [(17, rowO (rb))] ++ (fileO 13 (wb)) ++ [(16, o16)] ++ (base [walE born] clock (S 17 rb.length) (first) (S 15 k) ((wb.length : Nat)) (taken) (nv)))
def TN1kne (wb rb : List UInt8) (xc clock born k : Nat) (first taken : Int) (nv : Value) (o16 : AObj) : List Bool := [Nat.beq (2 * xc) (2 * xc) && true && true,
  Nat.beq 15 15 && Nat.beq 0 0 && true && true && k.beq k && (2 * k + 1).beq (2 * k + 1) && (Nat.beq 15 15 && Nat.beq 0 0 && true && true && k.beq k && (2 * k + 1).beq (2 * k + 1) && true) && true,
  !Nat.beq 1 0 && [Value.slice (some { block := 34, off := 0 }) 1 3].length.beq (1 * 1) && (!(k + 1).ble (capLow (2 * k + 1)) && (((k + 1) * 2 * (24 + 1)).ble 140737488355328 && ([Value.slice (some { block := 34, off := 0 }) 1 3].all oneCell && [Value.slice (some { block := 34, off := 0 }) 1 3].length.beq (1 * 1)))) && (isOpen (2 * k + 1) && (Nat.beq 0 0 && ((List.replicate k (Value.chan (some 0))).length.beq (k * 1) && (Nat.beq 1 1 && (!Nat.beq 1 0 && Nat.beq 57 57))))),
  decide (IntKind.wrap .i64 (Int.ofNat (wb.length + (4 + (1 + 0)))) = Int.ofNat (wb.length + (4 + (1 + 0)))),
  Nat.beq 14 14 && Nat.beq 0 0 && true && true && wb.length.beq wb.length && (2 * wb.length + 1).beq (2 * wb.length + 1) && true && true,
  !(5 - 0).beq 0 && [Value.int .u8 (Int.ofNat 0), Value.int .u8 (Int.ofNat 0), Value.int .u8 (Int.ofNat 0), Value.int .u8 (Int.ofNat 1), Value.int .u8 (Int.ofNat 6)].length.beq ((5 - 0) * 1) && (!(wb.length + (4 + (1 + 0))).ble (capLow (2 * wb.length + 1)) && (((wb.length + (4 + (1 + 0))) * 2 * (1 + 1)).ble 140737488355328 && ([Value.int .u8 (Int.ofNat 0), Value.int .u8 (Int.ofNat 0), Value.int .u8 (Int.ofNat 0), Value.int .u8 (Int.ofNat 1), Value.int .u8 (Int.ofNat 6)].all oneCell && [Value.int .u8 (Int.ofNat 0), Value.int .u8 (Int.ofNat 0), Value.int .u8 (Int.ofNat 0), Value.int .u8 (Int.ofNat 1), Value.int .u8 (Int.ofNat 6)].length.beq ((5 - 0) * 1)))) && (isOpen (2 * wb.length + 1) && (Nat.beq 0 0 && ((byteVals wb).length.beq (wb.length * 1) && (Nat.beq 1 1 && (!Nat.beq 1 0 && Nat.beq 5 5))))),
  true,
  decide ((if 1073741824 - (0 + (wb.length : Int)) < ((((Int.ofNat 4).toNat + (0 + (0 + 1) + 0)) : Nat) : Int) then 1073741824 - (0 + (wb.length : Int)) else ((((Int.ofNat 4).toNat + (0 + (0 + 1) + 0)) : Nat) : Int)) = Int.ofNat 5),
  decide ((if Int.ofNat 0 > 1073741824 - (0 + (wb.length : Int)) then Int.ofNat 0 else 1073741824 - (0 + (wb.length : Int))) = 1073741824 - (0 + (wb.length : Int))),
  decide (IntKind.wrap .i64 (1073741824 - (0 + (wb.length : Int))) = 1073741824 - (0 + (wb.length : Int))),
  bornT [born] clock,
  ltT (0 + (wb.length : Int)) (Int.ofNat 1073741824),
  !decide ((wb.length : Int) = Int.ofNat 0),
  true,
  !decide (first + (k : Int) - first > Int.ofNat 256),
  decide (IntKind.wrap .i64 (first + (k : Int) - first) = first + (k : Int) - first),
  decide (first = first) && true && (Nat.beq 15 15 && Nat.beq 0 0 && true && true && k.beq k && (2 * k + 1).beq (2 * k + 1) && true && true),
  decide (IntKind.wrap .i64 (first + (k : Int)) = first + (k : Int)),
  true,
  Nat.beq 17 17 && Nat.beq 0 0 && true && true && rb.length.beq rb.length && (2 * rb.length + 1).beq (2 * rb.length + 1) && (Nat.beq 17 17 && Nat.beq 0 0 && true && true && rb.length.beq rb.length && (2 * rb.length + 1).beq (2 * rb.length + 1) && true) && true,
  !rb.length.beq 0 && (byteVals rb).length.beq (rb.length * 1) && (!(0 + rb.length).ble (capLow (2 * 0)) && (((0 + rb.length) * 2 * (1 + 1)).ble 140737488355328 && ((byteVals rb).all oneCell && (byteVals rb).length.beq (rb.length * 1)))) && (!isOpen (2 * 0) && Nat.beq 0 0)]
theorem runN1kne (wb rb : List UInt8) (xc clock born k : Nat) (first taken : Int) (nv : Value) (o16 : AObj) :
  ((levO Tryz.prog ext WN1kne 300).call 24 #[P 8, opV (.slice (some nowhere) 0 (2 * xc))] (HN1kne wb rb xc clock born k first taken nv o16)).map (fun r => (r.1, r.2.1.gl, [36, 38, 39, 13, 32, 5, 6, 24, 8, 9, 10, 11, 12].map r.2.1.objs.get, r.2.2)) =
  some (.bool true, 5, [
    some (.cells (.open_ 1) (List.replicate k (.chan (some 0)) ++ [S 34 (1 + 0)]) 57),
    some (.cells .own [] 5),
    some (.cells .own [] 5),
    some (.cells .own [S 32 (wb.length + (4 + (1 + 0))), I ((wb.length + (4 + (1 + 0))) : Nat)] 143),
    some (.cells (.open_ 1) (byteVals wb ++ (be (Int.ofNat (1 + 0)) ++ F0 ([] : List UInt8))) 5),
    some (.map [⟨.string "wal".toUTF8, P 13, born⟩] clock),
    some (.cells .own [.map (some 5), I 1073741824, I (-1), .bool false] 140),
    some (.cells .own [.slice none 0 0, E 39] 84),
    some (.cells .own [P 6, P 12, P 24, .pointer none, .bool false] 46),
    some (.cells .own [P 6, I first, S 36 (k + 1), I ((wb.length + (4 + (1 + 0))) : Nat), .bool false] 219),
    some (.map [] 0),
    some (.cells .own [I 9223372036854775807, I 0, .map (some 10)] 216),
    some (.cells .own [P 6, P 9, P 11, .slice none 0 0, I 0, I (taken), E 38, .map none, .bool false] 118)], TN1kne wb rb xc clock born k first taken nv o16) := by kernel_rfl
theorem testsN1kne (wb rb : List UInt8) (xc clock born k : Nat) (first taken : Int) (nv : Value) (o16 : AObj) (hw : 0 < wb.length) (hw2 : wb.length ≤ 1000000) (hr : 0 < rb.length) (hr2 : rb.length ≤ 5000) (hbo : born < clock) (hk0 : 0 < k) (hk : k ≤ 30) (h0 : 0 ≤ first) (h1 : first ≤ 30) : allT (TN1kne wb rb xc clock born k first taken nv o16) := by
  intro b hb
  simp only [TN1kne, List.mem_cons, List.not_mem_nil, or_false] at hb
  have e0 := wrap_a (Int.ofNat (wb.length + (4 + (1 + 0))))
  have e1 := wrap_a (1073741824 - (0 + (wb.length : Int)))
  have e2 := wrap_a (first + (k : Int) - first)
  have e3 := wrap_a (first + (k : Int))
  rcases hb with hb | hb | hb | hb | hb | hb | hb | hb | hb | hb | hb | hb | hb | hb | hb | hb | hb | hb | hb | hb | hb <;> refine hb.trans ?_ <;> clear hb <;> 
  first
  | with_reducible rfl
  | with_reducible exact isSame_refl _
  | (unfold ltT; rw [decide_eq_true_eq]; (try simp only [Int.ofNat_eq_natCast]); omega)
  | (unfold bornT; simp <;> omega)
  | (simp only [e0, e1, e2, e3, wrapM, decide_true, Bool.not_eq_true', decide_eq_true_eq, decide_eq_false_iff_not, Int.ofNat_eq_natCast, gt_iff_lt]; omega)
  | (simp only [bun, capLow, isOpen, oneCell]; omega)
  | (simp only [wrapM, Int.ofNat_eq_natCast, decide_eq_true_eq]; split <;> omega)
  | (simp only [e0, e1, e2, e3, wrapM, Int.ofNat_eq_natCast, decide_eq_true_eq, gt_iff_lt]; (repeat' split) <;> omega)
  | (first | exact z1 (by omega) | exact z2 (by omega) | exact z3 (by omega) | exact z4 (by omega) | exact z5 (by omega) | exact z6 (by omega))
  | (simp [beq_t]; done)
  | rfl
theorem stepN1kne (wb rb : List UInt8) (xc clock born k : Nat) (first taken : Int) (nv : Value) (o16 : AObj)  :
  ∃ K, (levO Tryz.prog ext WN1kne 300).call 24 #[P 8, opV (.slice (some nowhere) 0 (2 * xc))] (HN1kne wb rb xc clock born k first taken nv o16) = some (.bool true, K, TN1kne wb rb xc clock born k first taken nv o16) ∧
    Gen (pairs 5 [(15, 36), (16, 38), (17, 39), (13, 13), (14, 32), (5, 5), (6, 6), (7, 24), (8, 8), (9, 9), (10, 10), (11, 11), (12, 12)]) K (heapOf 20 5 ([(15, tops (k + 1))] ++ [(16, noneO)] ++ [(17, noneO)] ++ (fileO 13 (more wb ([] : List UInt8))) ++ (base [walE born] clock (E 17) (first) (S 15 (k + 1)) (((more wb ([] : List UInt8)).length : Nat)) (taken) (E 16)))) := by
  obtain ⟨⟨v, K, ts⟩, hc, h⟩ := Option.map_eq_some_iff.1 (runN1kne wb rb xc clock born k first taken nv o16)
  simp only [Prod.mk.injEq, List.map_cons, List.map_nil, List.cons.injEq, and_true] at h
  obtain ⟨rfl, hgl, ⟨h36, h38, h39, h13, h32, h5, h6, h24, h8, h9, h10, h11, h12⟩, rfl⟩ := h
  refine ⟨K, hc, Gen.of_pairs hgl (by decide) ?_⟩
  intro x hm
  simp only [base, fileO, walE, manE, tops, rowO, noneO, List.cons_append, List.nil_append, List.mem_cons, List.not_mem_nil, or_false] at hm
  rcases hm with rfl | rfl | rfl | rfl | rfl | rfl | rfl | rfl | rfl | rfl | rfl | rfl | rfl
  · refine fit rfl h36 (OG.open_ _ _ ?_) rfl sameFl
    exact tops_snoc _ _ rfl
  · refine fit rfl h38 (OG.own _ ?_) rfl sameFl
    exact LS.ok (by repeat' constructor)
  · refine fit rfl h39 (OG.own _ ?_) rfl sameFl
    exact LS.ok (by repeat' constructor)
  · refine fit rfl h13 (OG.own _ ?_) rfl sameFl
    rw [more_length]
    exact LS.ok (by repeat' constructor)
  · refine fit rfl h32 (OG.open_ _ _ ?_) rfl sameFl
    rw [show byteVals wb ++ (be (Int.ofNat (1 + 0)) ++ F0 []) = byteVals (more wb []) from (more_vals wb []).symm]
    exact LG.bytes _
  · exact fit rfl h5 (OG.map1 (VG.string _) (VG.ptr _ rfl)) rfl noFl
  · refine fit rfl h6 (OG.own _ ?_) rfl sameFl
    exact LS.ok (by repeat' constructor)
  · refine fit rfl h24 (OG.own _ ?_) rfl sameFl
    exact LS.ok (by repeat' constructor)
  · refine fit rfl h8 (OG.own _ ?_) rfl sameFl
    exact LS.ok (by repeat' constructor)
  · refine fit rfl h9 (OG.own _ ?_) rfl sameFl
    rw [more_length]
    exact LS.ok (by repeat' constructor)
  · exact fit rfl h10 OG.map0 rfl noFl
  · refine fit rfl h11 (OG.own _ ?_) rfl sameFl
    exact LS.ok (by repeat' constructor)
  · refine fit rfl h12 (OG.own _ ?_) rfl sameFl
    exact LS.ok (by repeat' constructor)
end Go.Proofs.YtabpbpdhapaffaaGreatDoor
end
