/-
  EngineNotes returns true whatever the notes and what stands between them, part 13: GrQ2, GrQ3, GrRD4, GrRD8, GrQ4, GrWA1a, GrWA2a, GrQ5, GrWRfn. Conditions: none but those of the row.
-/
import Derived.Test.YtabpbpdhapaffaaGreatDoorNts11
import Derived.Test.YtabpbpdhapaffaaGreatDoorNts12
set_option linter.unusedSimpArgs false
set_option linter.unusedVariables false
section
namespace Go.Proofs.YtabpbpdhapaffaaGreatDoor
open Go.Vi
theorem mixedO : Tryz.prog.follows .mixedOrders = true := by kernel_rfl
def extS : ExtO := ⟨fun g a H => bif Nat.beq g 22 then usedOv a H else bif Nat.beq g 93 then sortOv a H else none, fun _ => none⟩
theorem extS_ok : ExtOk Tryz.prog extS.ext where
  ov := fun {g args args' H K v φ w} e ha hh hf => by
    obtain ⟨ts, h1, h2⟩ := ExtO.ext_ov e
    have h1' : (bif Nat.beq g 22 then usedOv args H else bif Nat.beq g 93 then sortOv args H else none) = some (v, K, ts) := h1
    cases hg : Nat.beq g 22 with
    | true =>
      rw [hg, cond_true] at h1'
      obtain rfl : g = 22 := Nat.eq_of_beq_eq_true hg
      exact used_ok h1' h2 ha hh hf
    | false =>
      rw [hg, cond_false] at h1'
      obtain ⟨hg2, h1'⟩ := bif_some h1'
      obtain rfl : g = 93 := Nat.eq_of_beq_eq_true hg2
      exact sort_ok h1' h2 ha hh hf
  quiet := fun h => by cases h
/-- The number that bytes in a row come to, the highest first. -/
def acc (c : List Value) (o : Nat) : Nat → Int
  | 0 => 0
  | i + 1 => acc c o i * 2 ^ 8 + intIn (c[o + i]?)
theorem pow8 : ((2 : Int) ^ 8) = 256 := by decide
theorem shl_ok {x : Int} (h0 : 0 ≤ x) (h1 : x < 1099511627776) : bitOk .shl .i64 .u64 x 8 (x * 2 ^ 8) = true := by
  show decide (IntKind.wrap .i64 (x * 2 ^ min (8 : Int).toNat 64) = x * 2 ^ 8) = true
  have e : (min (8 : Int).toNat 64) = 8 := by decide
  rw [decide_eq_true_eq, e, pow8]
  exact wrap_i64 (by omega) (by omega)
theorem or_ok {x y : Int} (h0 : 0 ≤ x) (h1 : x < 1099511627776) (h2 : 0 ≤ y) (h3 : y < 256) : bitOk .or .i64 .i64 (x * 2 ^ 8) y (x * 2 ^ 8 + y) = true := by
  obtain ⟨a, rfl⟩ := Int.eq_ofNat_of_zero_le h0
  obtain ⟨b, rfl⟩ := Int.eq_ofNat_of_zero_le h2
  show decide (IntKind.wrap .i64 ((BitVec.ofInt 64 ((a : Int) * 2 ^ 8) ||| BitVec.ofInt 64 (b : Int)).toNat : Nat) = (a : Int) * 2 ^ 8 + b) = true
  rw [decide_eq_true_eq, pow8]
  have e1 : (BitVec.ofInt 64 ((a : Int) * 256)).toNat = a <<< 8 := by
    rw [BitVec.toNat_ofInt, Nat.shiftLeft_eq]
    have : ((2 : Nat) ^ 64) = 18446744073709551616 := by decide
    have h8 : ((2 : Nat) ^ 8) = 256 := by decide
    rw [this, h8]
    omega
  have e2 : (BitVec.ofInt 64 (b : Int)).toNat = b := by
    rw [BitVec.toNat_ofInt]
    have : ((2 : Nat) ^ 64) = 18446744073709551616 := by decide
    rw [this]
    omega
  rw [BitVec.toNat_or, e1, e2, ← Nat.shiftLeft_add_eq_or_of_lt (by have : ((2 : Nat) ^ 8) = 256 := by decide
                                                                   omega), Nat.shiftLeft_eq]
  have h8 : ((2 : Nat) ^ 8) = 256 := by decide
  rw [h8, wrap_i64 (by omega) (by omega)]
  omega
/-- The bytes at a place. -/
def bytesAt (c : List Value) (o : Nat) (l : List UInt8) : Prop := ∀ (i : Nat) (b : UInt8), l[i]? = some b → c[o + i]? = some (.int .u8 (b.toNat : Int))
theorem bytesAt_of {c1 c2 : List Value} {l : List UInt8} : bytesAt (c1 ++ (byteVals l ++ c2)) c1.length l := fun i b h => by
  have hi : i < l.length := (List.getElem?_eq_some_iff.1 h).1
  rw [List.getElem?_append_right (by omega), Nat.add_sub_cancel_left, List.getElem?_append_left (by rw [byteVals_length]; exact hi)]
  simp only [byteVals, List.getElem?_map, h, Option.map_some]
def num (l : List UInt8) : Nat := l.foldl (fun n b => n * 256 + b.toNat) 0
theorem num_snoc (l : List UInt8) (b : UInt8) : num (l ++ [b]) = num l * 256 + b.toNat := by simp [num]
theorem acc_eq {c : List Value} {o : Nat} {l : List UInt8} (h : bytesAt c o l) : ∀ i, i ≤ l.length → acc c o i = (num (l.take i) : Nat)
  | 0, _ => by simp [acc, num]
  | i + 1, hi => by
    have hlt : i < l.length := by omega
    have e : l.take (i + 1) = l.take i ++ [l[i]] := by rw [List.take_append_getElem hlt]
    have hb := h i l[i] (List.getElem?_eq_getElem hlt)
    rw [acc, acc_eq h i (by omega), hb, e, num_snoc, pow8]
    show _ * 256 + ((l[i].toNat : Nat) : Int) = _
    omega
theorem intIn_at {c : List Value} {o i : Nat} {l : List UInt8} (h : bytesAt c o l) (hi : i < l.length) : intIn (c[o + i]?) = (l[i].toNat : Nat) := by
  rw [h i l[i] (List.getElem?_eq_getElem hi)]; rfl
theorem isInt_at {c : List Value} {o i : Nat} {l : List UInt8} (h : bytesAt c o l) (hi : i < l.length) : isIntIn .u8 (c[o + i]?) = true := by
  rw [h i l[i] (List.getElem?_eq_getElem hi)]; rfl
theorem num_le (l : List UInt8) (i : Nat) (hi : i ≤ l.length) : num (l.take i) ≤ num l := by
  have : ∀ (l r : List UInt8), num l ≤ num (l ++ r) := by
    intro l r
    induction r generalizing l with
    | nil => simp
    | cons b r ih =>
      have := ih (l ++ [b])
      rw [num_snoc] at this
      rw [show l ++ b :: r = l ++ [b] ++ r by simp]
      omega
  have h := this (l.take i) (l.drop i)
  rw [List.take_append_drop] at h
  exact h
end Go.Proofs.YtabpbpdhapaffaaGreatDoor
end
section
set_option maxRecDepth 100000
namespace Go.Proofs.YtabpbpdhapaffaaGreatDoor
open Go.Vi
def WRD4 : Word := fun o _ => match o.dst with
  | some 10 => bif o.pos == "wal.go:41" then some 0 else none
  | some 11 => bif o.pos == "wal.go:41" then some 0 else none
  | some 13 => bif o.pos == "wal.go:42" then some 4 else none
  | some 15 => bif o.pos == "wal.go:42" then some 2 else none
  | some 16 => bif o.pos == "wal.go:42" then some 9 else none
  | _ => none

def HRD4 (c : List Value) (o cp n0 : Nat) : AHeap := heapOf n0 5 [(22, .cells (.open_ 1) c 5)]
def TRD4 (c : List Value) (o cp n0 : Nat) : List Bool := [bitOk .or .i64 .i64 (acc c o 3 * 2 ^ 8) (intIn c[o + 3]?) (acc c o 4),
  decide (IntKind.wrap .i64 (intIn c[o + 3]?) = intIn c[o + 3]?),
  bitOk .shl .i64 .u64 (acc c o 3) (Int.ofNat 8) (acc c o 3 * 2 ^ 8),
  isIntIn .u8 c[o + 3]?,
  true && decide (IntKind.wrap .i64 (IntKind.wrap .i64 (IntKind.wrap .i64 (Int.ofNat 0 + Int.ofNat 1) + Int.ofNat 1) + Int.ofNat 1) < ↑4),
  bitOk .or .i64 .i64 (acc c o 2 * 2 ^ 8) (intIn c[o + 2]?) (acc c o 3),
  decide (IntKind.wrap .i64 (intIn c[o + 2]?) = intIn c[o + 2]?),
  bitOk .shl .i64 .u64 (acc c o 2) (Int.ofNat 8) (acc c o 2 * 2 ^ 8),
  isIntIn .u8 c[o + 2]?,
  true && decide (IntKind.wrap .i64 (IntKind.wrap .i64 (Int.ofNat 0 + Int.ofNat 1) + Int.ofNat 1) < ↑4),
  bitOk .or .i64 .i64 (acc c o 1 * 2 ^ 8) (intIn c[o + 1]?) (acc c o 2),
  decide (IntKind.wrap .i64 (intIn c[o + 1]?) = intIn c[o + 1]?),
  bitOk .shl .i64 .u64 (acc c o 1) (Int.ofNat 8) (acc c o 1 * 2 ^ 8),
  isIntIn .u8 c[o + 1]?,
  true && decide (IntKind.wrap .i64 (Int.ofNat 0 + Int.ofNat 1) < ↑4),
  bitOk .or .i64 .i64 (acc c o 0) (intIn c[o + 0]?) (acc c o 1),
  decide (IntKind.wrap .i64 (intIn c[o + 0]?) = intIn c[o + 0]?),
  bitOk .shl .i64 .u64 (Int.ofNat 0) (Int.ofNat 8) (acc c o 0),
  isIntIn .u8 c[o + 0]?,
  true && decide (Int.ofNat 0 < ↑4)]
theorem runRD4 (c : List Value) (o cp n0 : Nat) :
  ((levO Tryz.prog extS WRD4 300).call 164 #[.slice (some ⟨22, o, none⟩) 4 cp] (HRD4 c o cp n0)).map (fun r => (r.1, r.2.1.gl, r.2.1.next, r.2.1.objs.get 22, r.2.2)) =
  some (.int .i64 (acc c o 4), 5, n0, some (.cells (.open_ 1) c 5), TRD4 c o cp n0) := by kernel_rfl
theorem testsRD4 (c : List Value) (o cp n0 : Nat) {l : List UInt8} (hl : l.length = 4) (h : bytesAt c o l) (hn : num l < 1099511627776) : allT (TRD4 c o cp n0) := by
  have a0 : intIn (c[o + 0]?) = (l[0].toNat : Nat) := intIn_at h (by omega)
  have b0 : isIntIn .u8 (c[o + 0]?) = true := isInt_at h (by omega)
  have c0 : l[0].toNat < 256 := UInt8.toNat_lt _
  have a1 : intIn (c[o + 1]?) = (l[1].toNat : Nat) := intIn_at h (by omega)
  have b1 : isIntIn .u8 (c[o + 1]?) = true := isInt_at h (by omega)
  have c1 : l[1].toNat < 256 := UInt8.toNat_lt _
  have a2 : intIn (c[o + 2]?) = (l[2].toNat : Nat) := intIn_at h (by omega)
  have b2 : isIntIn .u8 (c[o + 2]?) = true := isInt_at h (by omega)
  have c2 : l[2].toNat < 256 := UInt8.toNat_lt _
  have a3 : intIn (c[o + 3]?) = (l[3].toNat : Nat) := intIn_at h (by omega)
  have b3 : isIntIn .u8 (c[o + 3]?) = true := isInt_at h (by omega)
  have c3 : l[3].toNat < 256 := UInt8.toNat_lt _
  have d0 : acc c o 0 = (num (l.take 0) : Nat) := acc_eq h 0 (by omega)
  have e0 : num (l.take 0) ≤ num l := num_le l 0 (by omega)
  have d1 : acc c o 1 = (num (l.take 1) : Nat) := acc_eq h 1 (by omega)
  have e1 : num (l.take 1) ≤ num l := num_le l 1 (by omega)
  have d2 : acc c o 2 = (num (l.take 2) : Nat) := acc_eq h 2 (by omega)
  have e2 : num (l.take 2) ≤ num l := num_le l 2 (by omega)
  have d3 : acc c o 3 = (num (l.take 3) : Nat) := acc_eq h 3 (by omega)
  have e3 : num (l.take 3) ≤ num l := num_le l 3 (by omega)
  have d4 : acc c o 4 = (num (l.take 4) : Nat) := acc_eq h 4 (by omega)
  have e4 : num (l.take 4) ≤ num l := num_le l 4 (by omega)
  intro b hb
  simp only [TRD4, List.mem_cons, List.not_mem_nil, or_false] at hb
  rcases hb with hb | hb | hb | hb | hb | hb | hb | hb | hb | hb | hb | hb | hb | hb | hb | hb | hb | hb | hb | hb <;> refine hb.trans ?_ <;> clear hb
  · exact or_ok (by omega) (by omega) (by omega) (by omega)
  · rw [decide_eq_true_eq]; exact wrap_i64 (by omega) (by omega)
  · exact shl_ok (by omega) (by omega)
  · assumption
  · rfl
  · exact or_ok (by omega) (by omega) (by omega) (by omega)
  · rw [decide_eq_true_eq]; exact wrap_i64 (by omega) (by omega)
  · exact shl_ok (by omega) (by omega)
  · assumption
  · rfl
  · exact or_ok (by omega) (by omega) (by omega) (by omega)
  · rw [decide_eq_true_eq]; exact wrap_i64 (by omega) (by omega)
  · exact shl_ok (by omega) (by omega)
  · assumption
  · rfl
  · rw [show acc c o 1 = 0 * 2 ^ 8 + intIn (c[o + 0]?) from rfl, show acc c o 0 = 0 * 2 ^ 8 from rfl]; exact or_ok (by omega) (by omega) (by omega) (by omega)
  · rw [decide_eq_true_eq]; exact wrap_i64 (by omega) (by omega)
  · rfl
  · assumption
  · rfl
def conRD4 (c : List Value) (o cp n0 m : Nat) : Con := ⟨164, n0, 5, [.slice (some ⟨22, o, none⟩) 4 cp], [(22, .cells (.open_ 1) c 5)], .int .i64 m, n0, [(22, .cells (.open_ 1) c 5)]⟩
theorem conRD4_ok (c : List Value) (o cp n0 : Nat) {l : List UInt8} (hl : l.length = 4) (h : bytesAt c o l) (hn : num l < 1099511627776) : Con.Ok Tryz.prog (conRD4 c o cp n0 (num l)) := by
  have hr := runRD4 c o cp n0
  cases hc : ((levO Tryz.prog extS WRD4 300).call 164 #[.slice (some ⟨22, o, none⟩) 4 cp] (HRD4 c o cp n0)) with
  | none => rw [hc] at hr; cases hr
  | some r =>
    obtain ⟨v, K, ts⟩ := r
    rw [hc] at hr
    simp only [Option.map_some, Option.some.injEq, Prod.mk.injEq] at hr
    obtain ⟨rfl, hgl, hnx, h22, rfl⟩ := hr
    have e : acc c o 4 = (num l : Nat) := by
      have := acc_eq h 4 (by omega)
      rw [this, List.take_of_length_le (by omega)]
    rw [e] at hc
    exact Con.ok_of_run (c := conRD4 c o cp n0 (num l)) mixedO extS_ok 300 hc (testsRD4 c o cp n0 hl h hn) hnx hgl (fun x hx => by rw [List.mem_singleton.1 hx]; exact h22) (by simp [Con.fits, conRD4])
def WRD8 : Word := fun o _ => match o.dst with
  | some 10 => bif o.pos == "wal.go:41" then some 0 else none
  | some 11 => bif o.pos == "wal.go:41" then some 0 else none
  | some 13 => bif o.pos == "wal.go:42" then some 4 else none
  | some 15 => bif o.pos == "wal.go:42" then some 2 else none
  | some 16 => bif o.pos == "wal.go:42" then some 9 else none
  | _ => none

def HRD8 (c : List Value) (o cp n0 : Nat) : AHeap := heapOf n0 5 [(22, .cells (.open_ 1) c 5)]
def TRD8 (c : List Value) (o cp n0 : Nat) : List Bool := [bitOk .or .i64 .i64 (acc c o 7 * 2 ^ 8) (intIn c[o + 7]?) (acc c o 8),
  decide (IntKind.wrap .i64 (intIn c[o + 7]?) = intIn c[o + 7]?),
  bitOk .shl .i64 .u64 (acc c o 7) (Int.ofNat 8) (acc c o 7 * 2 ^ 8),
  isIntIn .u8 c[o + 7]?,
  true && decide (IntKind.wrap .i64 (IntKind.wrap .i64 (IntKind.wrap .i64 (IntKind.wrap .i64 (IntKind.wrap .i64 (IntKind.wrap .i64 (IntKind.wrap .i64 (Int.ofNat 0 + Int.ofNat 1) + Int.ofNat 1) + Int.ofNat 1) + Int.ofNat 1) + Int.ofNat 1) + Int.ofNat 1) + Int.ofNat 1) < ↑8),
  bitOk .or .i64 .i64 (acc c o 6 * 2 ^ 8) (intIn c[o + 6]?) (acc c o 7),
  decide (IntKind.wrap .i64 (intIn c[o + 6]?) = intIn c[o + 6]?),
  bitOk .shl .i64 .u64 (acc c o 6) (Int.ofNat 8) (acc c o 6 * 2 ^ 8),
  isIntIn .u8 c[o + 6]?,
  true && decide (IntKind.wrap .i64 (IntKind.wrap .i64 (IntKind.wrap .i64 (IntKind.wrap .i64 (IntKind.wrap .i64 (IntKind.wrap .i64 (Int.ofNat 0 + Int.ofNat 1) + Int.ofNat 1) + Int.ofNat 1) + Int.ofNat 1) + Int.ofNat 1) + Int.ofNat 1) < ↑8),
  bitOk .or .i64 .i64 (acc c o 5 * 2 ^ 8) (intIn c[o + 5]?) (acc c o 6),
  decide (IntKind.wrap .i64 (intIn c[o + 5]?) = intIn c[o + 5]?),
  bitOk .shl .i64 .u64 (acc c o 5) (Int.ofNat 8) (acc c o 5 * 2 ^ 8),
  isIntIn .u8 c[o + 5]?,
  true && decide (IntKind.wrap .i64 (IntKind.wrap .i64 (IntKind.wrap .i64 (IntKind.wrap .i64 (IntKind.wrap .i64 (Int.ofNat 0 + Int.ofNat 1) + Int.ofNat 1) + Int.ofNat 1) + Int.ofNat 1) + Int.ofNat 1) < ↑8),
  bitOk .or .i64 .i64 (acc c o 4 * 2 ^ 8) (intIn c[o + 4]?) (acc c o 5),
  decide (IntKind.wrap .i64 (intIn c[o + 4]?) = intIn c[o + 4]?),
  bitOk .shl .i64 .u64 (acc c o 4) (Int.ofNat 8) (acc c o 4 * 2 ^ 8),
  isIntIn .u8 c[o + 4]?,
  true && decide (IntKind.wrap .i64 (IntKind.wrap .i64 (IntKind.wrap .i64 (IntKind.wrap .i64 (Int.ofNat 0 + Int.ofNat 1) + Int.ofNat 1) + Int.ofNat 1) + Int.ofNat 1) < ↑8),
  bitOk .or .i64 .i64 (acc c o 3 * 2 ^ 8) (intIn c[o + 3]?) (acc c o 4),
  decide (IntKind.wrap .i64 (intIn c[o + 3]?) = intIn c[o + 3]?),
  bitOk .shl .i64 .u64 (acc c o 3) (Int.ofNat 8) (acc c o 3 * 2 ^ 8),
  isIntIn .u8 c[o + 3]?,
  true && decide (IntKind.wrap .i64 (IntKind.wrap .i64 (IntKind.wrap .i64 (Int.ofNat 0 + Int.ofNat 1) + Int.ofNat 1) + Int.ofNat 1) < ↑8),
  bitOk .or .i64 .i64 (acc c o 2 * 2 ^ 8) (intIn c[o + 2]?) (acc c o 3),
  decide (IntKind.wrap .i64 (intIn c[o + 2]?) = intIn c[o + 2]?),
  bitOk .shl .i64 .u64 (acc c o 2) (Int.ofNat 8) (acc c o 2 * 2 ^ 8),
  isIntIn .u8 c[o + 2]?,
  true && decide (IntKind.wrap .i64 (IntKind.wrap .i64 (Int.ofNat 0 + Int.ofNat 1) + Int.ofNat 1) < ↑8),
  bitOk .or .i64 .i64 (acc c o 1 * 2 ^ 8) (intIn c[o + 1]?) (acc c o 2),
  decide (IntKind.wrap .i64 (intIn c[o + 1]?) = intIn c[o + 1]?),
  bitOk .shl .i64 .u64 (acc c o 1) (Int.ofNat 8) (acc c o 1 * 2 ^ 8),
  isIntIn .u8 c[o + 1]?,
  true && decide (IntKind.wrap .i64 (Int.ofNat 0 + Int.ofNat 1) < ↑8),
  bitOk .or .i64 .i64 (acc c o 0) (intIn c[o + 0]?) (acc c o 1),
  decide (IntKind.wrap .i64 (intIn c[o + 0]?) = intIn c[o + 0]?),
  bitOk .shl .i64 .u64 (Int.ofNat 0) (Int.ofNat 8) (acc c o 0),
  isIntIn .u8 c[o + 0]?,
  true && decide (Int.ofNat 0 < ↑8)]
theorem runRD8 (c : List Value) (o cp n0 : Nat) :
  ((levO Tryz.prog extS WRD8 300).call 164 #[.slice (some ⟨22, o, none⟩) 8 cp] (HRD8 c o cp n0)).map (fun r => (r.1, r.2.1.gl, r.2.1.next, r.2.1.objs.get 22, r.2.2)) =
  some (.int .i64 (acc c o 8), 5, n0, some (.cells (.open_ 1) c 5), TRD8 c o cp n0) := by kernel_rfl
theorem testsRD8 (c : List Value) (o cp n0 : Nat) {l : List UInt8} (hl : l.length = 8) (h : bytesAt c o l) (hn : num l < 1099511627776) : allT (TRD8 c o cp n0) := by
  have a0 : intIn (c[o + 0]?) = (l[0].toNat : Nat) := intIn_at h (by omega)
  have b0 : isIntIn .u8 (c[o + 0]?) = true := isInt_at h (by omega)
  have c0 : l[0].toNat < 256 := UInt8.toNat_lt _
  have a1 : intIn (c[o + 1]?) = (l[1].toNat : Nat) := intIn_at h (by omega)
  have b1 : isIntIn .u8 (c[o + 1]?) = true := isInt_at h (by omega)
  have c1 : l[1].toNat < 256 := UInt8.toNat_lt _
  have a2 : intIn (c[o + 2]?) = (l[2].toNat : Nat) := intIn_at h (by omega)
  have b2 : isIntIn .u8 (c[o + 2]?) = true := isInt_at h (by omega)
  have c2 : l[2].toNat < 256 := UInt8.toNat_lt _
  have a3 : intIn (c[o + 3]?) = (l[3].toNat : Nat) := intIn_at h (by omega)
  have b3 : isIntIn .u8 (c[o + 3]?) = true := isInt_at h (by omega)
  have c3 : l[3].toNat < 256 := UInt8.toNat_lt _
  have a4 : intIn (c[o + 4]?) = (l[4].toNat : Nat) := intIn_at h (by omega)
  have b4 : isIntIn .u8 (c[o + 4]?) = true := isInt_at h (by omega)
  have c4 : l[4].toNat < 256 := UInt8.toNat_lt _
  have a5 : intIn (c[o + 5]?) = (l[5].toNat : Nat) := intIn_at h (by omega)
  have b5 : isIntIn .u8 (c[o + 5]?) = true := isInt_at h (by omega)
  have c5 : l[5].toNat < 256 := UInt8.toNat_lt _
  have a6 : intIn (c[o + 6]?) = (l[6].toNat : Nat) := intIn_at h (by omega)
  have b6 : isIntIn .u8 (c[o + 6]?) = true := isInt_at h (by omega)
  have c6 : l[6].toNat < 256 := UInt8.toNat_lt _
  have a7 : intIn (c[o + 7]?) = (l[7].toNat : Nat) := intIn_at h (by omega)
  have b7 : isIntIn .u8 (c[o + 7]?) = true := isInt_at h (by omega)
  have c7 : l[7].toNat < 256 := UInt8.toNat_lt _
  have d0 : acc c o 0 = (num (l.take 0) : Nat) := acc_eq h 0 (by omega)
  have e0 : num (l.take 0) ≤ num l := num_le l 0 (by omega)
  have d1 : acc c o 1 = (num (l.take 1) : Nat) := acc_eq h 1 (by omega)
  have e1 : num (l.take 1) ≤ num l := num_le l 1 (by omega)
  have d2 : acc c o 2 = (num (l.take 2) : Nat) := acc_eq h 2 (by omega)
  have e2 : num (l.take 2) ≤ num l := num_le l 2 (by omega)
  have d3 : acc c o 3 = (num (l.take 3) : Nat) := acc_eq h 3 (by omega)
  have e3 : num (l.take 3) ≤ num l := num_le l 3 (by omega)
  have d4 : acc c o 4 = (num (l.take 4) : Nat) := acc_eq h 4 (by omega)
  have e4 : num (l.take 4) ≤ num l := num_le l 4 (by omega)
  have d5 : acc c o 5 = (num (l.take 5) : Nat) := acc_eq h 5 (by omega)
  have e5 : num (l.take 5) ≤ num l := num_le l 5 (by omega)
  have d6 : acc c o 6 = (num (l.take 6) : Nat) := acc_eq h 6 (by omega)
  have e6 : num (l.take 6) ≤ num l := num_le l 6 (by omega)
  have d7 : acc c o 7 = (num (l.take 7) : Nat) := acc_eq h 7 (by omega)
  have e7 : num (l.take 7) ≤ num l := num_le l 7 (by omega)
  have d8 : acc c o 8 = (num (l.take 8) : Nat) := acc_eq h 8 (by omega)
  have e8 : num (l.take 8) ≤ num l := num_le l 8 (by omega)
  intro b hb
  simp only [TRD8, List.mem_cons, List.not_mem_nil, or_false] at hb
  rcases hb with hb | hb | hb | hb | hb | hb | hb | hb | hb | hb | hb | hb | hb | hb | hb | hb | hb | hb | hb | hb | hb | hb | hb | hb | hb | hb | hb | hb | hb | hb | hb | hb | hb | hb | hb | hb | hb | hb | hb | hb <;> refine hb.trans ?_ <;> clear hb
  · exact or_ok (by omega) (by omega) (by omega) (by omega)
  · rw [decide_eq_true_eq]; exact wrap_i64 (by omega) (by omega)
  · exact shl_ok (by omega) (by omega)
  · assumption
  · rfl
  · exact or_ok (by omega) (by omega) (by omega) (by omega)
  · rw [decide_eq_true_eq]; exact wrap_i64 (by omega) (by omega)
  · exact shl_ok (by omega) (by omega)
  · assumption
  · rfl
  · exact or_ok (by omega) (by omega) (by omega) (by omega)
  · rw [decide_eq_true_eq]; exact wrap_i64 (by omega) (by omega)
  · exact shl_ok (by omega) (by omega)
  · assumption
  · rfl
  · exact or_ok (by omega) (by omega) (by omega) (by omega)
  · rw [decide_eq_true_eq]; exact wrap_i64 (by omega) (by omega)
  · exact shl_ok (by omega) (by omega)
  · assumption
  · rfl
  · exact or_ok (by omega) (by omega) (by omega) (by omega)
  · rw [decide_eq_true_eq]; exact wrap_i64 (by omega) (by omega)
  · exact shl_ok (by omega) (by omega)
  · assumption
  · rfl
  · exact or_ok (by omega) (by omega) (by omega) (by omega)
  · rw [decide_eq_true_eq]; exact wrap_i64 (by omega) (by omega)
  · exact shl_ok (by omega) (by omega)
  · assumption
  · rfl
  · exact or_ok (by omega) (by omega) (by omega) (by omega)
  · rw [decide_eq_true_eq]; exact wrap_i64 (by omega) (by omega)
  · exact shl_ok (by omega) (by omega)
  · assumption
  · rfl
  · rw [show acc c o 1 = 0 * 2 ^ 8 + intIn (c[o + 0]?) from rfl, show acc c o 0 = 0 * 2 ^ 8 from rfl]; exact or_ok (by omega) (by omega) (by omega) (by omega)
  · rw [decide_eq_true_eq]; exact wrap_i64 (by omega) (by omega)
  · rfl
  · assumption
  · rfl
def conRD8 (c : List Value) (o cp n0 m : Nat) : Con := ⟨164, n0, 5, [.slice (some ⟨22, o, none⟩) 8 cp], [(22, .cells (.open_ 1) c 5)], .int .i64 m, n0, [(22, .cells (.open_ 1) c 5)]⟩
theorem conRD8_ok (c : List Value) (o cp n0 : Nat) {l : List UInt8} (hl : l.length = 8) (h : bytesAt c o l) (hn : num l < 1099511627776) : Con.Ok Tryz.prog (conRD8 c o cp n0 (num l)) := by
  have hr := runRD8 c o cp n0
  cases hc : ((levO Tryz.prog extS WRD8 300).call 164 #[.slice (some ⟨22, o, none⟩) 8 cp] (HRD8 c o cp n0)) with
  | none => rw [hc] at hr; cases hr
  | some r =>
    obtain ⟨v, K, ts⟩ := r
    rw [hc] at hr
    simp only [Option.map_some, Option.some.injEq, Prod.mk.injEq] at hr
    obtain ⟨rfl, hgl, hnx, h22, rfl⟩ := hr
    have e : acc c o 8 = (num l : Nat) := by
      have := acc_eq h 8 (by omega)
      rw [this, List.take_of_length_le (by omega)]
    rw [e] at hc
    exact Con.ok_of_run (c := conRD8 c o cp n0 (num l)) mixedO extS_ok 300 hc (testsRD8 c o cp n0 hl h hn) hnx hgl (fun x hx => by rw [List.mem_singleton.1 hx]; exact h22) (by simp [Con.fits, conRD8])
end Go.Proofs.YtabpbpdhapaffaaGreatDoor
end
section
namespace Go.Proofs.YtabpbpdhapaffaaGreatDoor
open Go.Vi
noncomputable def c96 : Code := Tryz.f96.body.getD .skip
def p96 : List Bool := [true, true, true, true, true, true, true, true, false, true]
/-- The round of its loop. -/
noncomputable def b96 : Code := match Code.hole p96 c96 with
  | .block _ (.loop c) => c
  | _ => .skip
theorem hole96 : Code.hole p96 c96 = .block 0 (.loop b96) := by kernel_rfl
theorem body96 : Tryz.f96.body = some c96 := by kernel_rfl
/-- The disk's part of the heap: its map, itself, the log's file. -/
def disk96 (fs : List MapEntry) (clock first : Nat) (rest : List UInt8) : List (Nat × AObj) :=
  [(5, .map fs clock), (6, .cells .own [.map (some 5), I 1073741824, I (-1), .bool false] 140),
   (13, .cells .own [S 14 (rest.length + 12), I ((rest.length + 12 : Nat) : Int)] 143), (14, .cells (.open_ 1) (byteVals (hd first ++ rest)) 5)]
theorem VG.dead {ρ : Nat → Option Nat} (c : Nat) : VG ρ (.slice (some nowhere) 0 c) (.slice (some nowhere) 0 c) := fun _ _ h => by
  cases h with
  | sliceDead a hc => exact .sliceDead a hc
end Go.Proofs.YtabpbpdhapaffaaGreatDoor
end
section
set_option maxRecDepth 100000
namespace Go.Proofs.YtabpbpdhapaffaaGreatDoor
open Go.Vi
def WWA1a : Word := fun o _ => match o.dst with
  | some 4 => bif o.pos == "bytes.go:1392" then some 0 else none
  | some 7 => bif o.pos == "bytes.go:1395" then some 14 else none
  | some 36 => bif o.pos == "wal.go:60" then some 0 else none
  | some 40 => bif o.pos == "wal.go:60" then some 0 else none
  | some 47 => bif o.pos == "wal.go:63" then some 0 else none
  | some 55 => bif o.pos == "wal.go:65" then some 0 else none
  | _ => none
noncomputable def SWA1a (born : Nat) (clock first : Nat) (rest : List UInt8) : St := ⟨argsT [P 6] 0 .nil, [], heapOf 20 5 (disk96 [walE born] clock first rest)⟩
def LWA1a (born : Nat) (clock first : Nat) (rest : List UInt8) : List (Nat × Slot) := [(0, .val (P 6)), (2, .top), (3, .top), (4, .val (P 20)), (5, .top), (6, .val (S 22 (rest.length + 12))), (7, .top), (8, .val (.slice (some ⟨22, 12, none⟩) (rest.length + 12 - 12) (2 * (rest.length + 12) + 1 - 24))), (12, .top), (13, .bool false), (14, .top), (15, .val (.agg #[P 6, I 0, .slice none 0 0, I 0, .bool false])), (16, .top), (17, .top), (18, .top), (19, .top), (20, .bool true), (21, .bool true), (22, .top), (23, .bool false), (24, .bool false), (26, .val (.tuple #[S 22 (rest.length + 12), I 0])), (27, .top), (28, .val (.tuple #[S 22 (rest.length + 12), I 0])), (29, .top), (30, .top), (31, .top), (32, .bool false), (33, .bool false), (34, .top), (35, .top), (36, .bool false), (37, .bool false), (38, .bool false), (39, .top), (40, .top), (41, .top), (42, .bool false), (43, .bool false), (45, .top), (46, .top), (47, .top), (48, .top), (49, .top), (50, .top), (51, .top), (52, .top), (53, .top), (54, .top), (55, .top)]
noncomputable def TWA1a (born : Nat) (clock first : Nat) (rest : List UInt8) : List Bool := [true && (true && (true && ((rest.length + 12).ble (capLow (2 * (rest.length + 12) + 1)) && (Nat.ble 12 (rest.length + 12) && ((!isOpen (2 * (rest.length + 12) + 1) && true || !Nat.beq 1 0) && !(capLow (2 * (rest.length + 12) + 1)).beq 12))))),
  twice (Value.slice (some ⟨22, 4, none⟩) 8 (2 * (rest.length + 12) + 1 - 8)),
  Nat.beq 5 5,
  twice (some (AObj.cells (.open_ 1) (byteVals (hd first ++ rest)) 5)),
  true && (true && (true && (Nat.ble 12 (capLow (2 * (rest.length + 12) + 1)) && (Nat.ble 4 12 && ((!isOpen (2 * (rest.length + 12) + 1) && true || !Nat.beq 1 0) && !(capLow (2 * (rest.length + 12) + 1)).beq 4))))),
  true && (true && (true && (Nat.ble 4 (capLow (2 * (rest.length + 12) + 1)) && (Nat.ble 0 4 && ((!isOpen (2 * (rest.length + 12) + 1) || Nat.beq 0 0 || !Nat.beq 1 0) && !(capLow (2 * (rest.length + 12) + 1)).beq 0))))),
  true,
  !(rest.length + 12).beq 0 && (byteVals (hd first ++ rest)).length.beq ((rest.length + 12) * 1) && (!(0 + (rest.length + 12)).ble (capLow (2 * 0)) && (((0 + (rest.length + 12)) * 2 * (1 + 1)).ble 140737488355328 && ((byteVals (hd first ++ rest)).all oneCell && (byteVals (hd first ++ rest)).length.beq ((rest.length + 12) * 1)))) && (!isOpen (2 * 0) && Nat.beq 0 0),
  true]
theorem runWA1a (born : Nat) (clock first : Nat) (rest : List UInt8) :
  (codeO Tryz.prog WWA1a (levX Tryz.prog (extS.with [conRD8 (byteVals (hd first ++ rest)) 4 ((2 * (rest.length + 12) + 1) - 8) 23 first]).ext 300) (levO Tryz.prog (extS.with [conRD8 (byteVals (hd first ++ rest)) 4 ((2 * (rest.length + 12) + 1) - 8) 23 first]) WWA1a 300) none 123 (Code.ahead p96 c96) (SWA1a born clock first rest)).map (fun r => (r.1, r.2.1.ds, r.2.1.h.gl, [20, 22, 5, 6, 13, 14].map r.2.1.h.objs.get, [0, 4, 6, 8, 15, 26, 28].map (fun t => (r.2.1.tm.get t).getD Go.undef), (LWA1a born clock first rest).all (fun x => x.2.fits ((r.2.1.tm.get x.1).getD Go.undef)), (List.range 123).all (fun t => ((LWA1a born clock first rest).any fun x => Nat.beq x.1 t) || Slot.undef.fits ((r.2.1.tm.get t).getD Go.undef)), r.2.2)) =
  some (.normal, [], 5, [
    some (.cells .own [P 6, I (first : Nat), .slice none 0 0, I 12, .bool false] 219),
    some (.cells (.open_ 1) (byteVals (hd first ++ rest)) 5),
    some (.map [⟨.string "wal".toUTF8, P 13, born⟩] clock),
    some (.cells .own [.map (some 5), I 1073741824, I (-1), .bool false] 140),
    some (.cells .own [S 14 (rest.length + 12), I (((rest.length + 12) : Nat) : Int)] 143),
    some (.cells (.open_ 1) (byteVals (hd first ++ rest)) 5)], [P 6, P 20, S 22 (rest.length + 12), .slice (some ⟨22, 12, none⟩) (rest.length + 12 - 12) (2 * (rest.length + 12) + 1 - 24), .agg #[P 6, I 0, .slice none 0 0, I 0, .bool false], .tuple #[S 22 (rest.length + 12), I 0], .tuple #[S 22 (rest.length + 12), I 0]], true, true, TWA1a born clock first rest) := by kernel_rfl
theorem testsWA1a (born : Nat) (clock first : Nat) (rest : List UInt8) (hr : 0 < rest.length) (hr2 : rest.length ≤ 1000000) : allT (TWA1a born clock first rest) := by
  intro b hb
  simp only [TWA1a, List.mem_cons, List.not_mem_nil, or_false] at hb
  rcases hb with hb | hb | hb | hb | hb | hb | hb | hb | hb <;> refine hb.trans ?_ <;> clear hb <;>
  first
  | with_reducible rfl
  | with_reducible exact isSame_refl _
  | with_reducible exact twice_ok _
  | (unfold ltT; rw [decide_eq_true_eq]; (try simp only [Int.ofNat_eq_natCast]); omega)
  | (unfold bornT; simp <;> omega)
  | (simp only [wrapM, decide_true, Bool.not_eq_true', decide_eq_true_eq, decide_eq_false_iff_not, Int.ofNat_eq_natCast, gt_iff_lt]; omega)
  | (simp only [bun, capLow, isOpen, oneCell]; omega)
  | (simp only [wrapM, Int.ofNat_eq_natCast, decide_eq_true_eq]; split <;> omega)
  | (simp only [wrapM, Int.ofNat_eq_natCast, decide_eq_true_eq, gt_iff_lt]; (repeat' split) <;> omega)
  | (first | exact z1 (by omega) | exact z2 (by omega) | exact z3 (by omega) | exact z4 (by omega) | exact z5 (by omega) | exact z6 (by omega))
  | (simp [beq_t]; done)
  | rfl
theorem gotWA1a (born : Nat) (clock first : Nat) (rest : List UInt8)  :
  ∃ M, codeO Tryz.prog WWA1a (levX Tryz.prog (extS.with [conRD8 (byteVals (hd first ++ rest)) 4 ((2 * (rest.length + 12) + 1) - 8) 23 first]).ext 300) (levO Tryz.prog (extS.with [conRD8 (byteVals (hd first ++ rest)) 4 ((2 * (rest.length + 12) + 1) - 8) 23 first]) WWA1a 300) none 123 (Code.ahead p96 c96) (SWA1a born clock first rest) = some (.normal, M, TWA1a born clock first rest) ∧ GenT 123 (pairs 5 [(5, 5), (6, 6), (7, 7), (8, 8), (9, 9), (10, 10), (11, 11), (12, 12), (13, 13), (14, 14), (15, 15), (16, 16), (17, 17), (18, 18), (19, 19), (20, 20), (22, 22)]) M (heapOf 23 5 ([(20, .cells .own [P 6, I (first : Nat), .slice none 0 0, I 12, .bool false] 219)] ++ [(22, .cells (.open_ 1) (byteVals (hd first ++ rest)) 5)] ++ [(5, .map [⟨.string "wal".toUTF8, P 13, born⟩] clock)] ++ [(6, .cells .own [.map (some 5), I 1073741824, I (-1), .bool false] 140)] ++ [(13, .cells .own [S 14 (rest.length + 12), I (((rest.length + 12) : Nat) : Int)] 143)] ++ [(14, .cells (.open_ 1) (byteVals (hd first ++ rest)) 5)])) (LWA1a born clock first rest) := by
  obtain ⟨⟨e, M, ts⟩, hc, h⟩ := Option.map_eq_some_iff.1 (runWA1a born clock first rest)
  simp only [Prod.mk.injEq, List.map_cons, List.map_nil, List.cons.injEq, and_true] at h
  obtain ⟨rfl, hds, hgl, ⟨h20, h22, h5, h6, h13, h14⟩, ⟨v0, v4, v6, v8, v15, v26, v28⟩, hfit, hall, rfl⟩ := h
  refine ⟨M, hc, Gen.of_pairs hgl (by decide) ?_, hfit, ?_, hall, once_of ?_, hds⟩
  · intro x hm
    simp only [base, fileO, walE, manE, tops, rowO, noneO, List.cons_append, List.nil_append, List.mem_cons, List.not_mem_nil, or_false] at hm
    rcases hm with rfl | rfl | rfl | rfl | rfl | rfl
    · refine fit rfl h20 (OG.own _ ?_) rfl sameFl
      exact LS.ok (by repeat' constructor)
    · refine fit rfl h22 (OG.open_ _ _ ?_) rfl sameFl
      exact LG.bytes _
    · exact fit rfl h5 (OG.map1 (VG.string _) (VG.ptr _ rfl)) rfl noFl
    · refine fit rfl h6 (OG.own _ ?_) rfl sameFl
      exact LS.ok (by repeat' constructor)
    · refine fit rfl h13 (OG.own _ ?_) rfl sameFl
      exact LS.ok (by repeat' constructor)
    · refine fit rfl h14 (OG.open_ _ _ ?_) rfl sameFl
      exact LG.bytes _
  · intro x hx v hv
    simp only [LWA1a, List.mem_cons, List.not_mem_nil, or_false] at hx
    rcases hx with rfl | rfl | rfl | rfl | rfl | rfl | rfl | rfl | rfl | rfl | rfl | rfl | rfl | rfl | rfl | rfl | rfl | rfl | rfl | rfl | rfl | rfl | rfl | rfl | rfl | rfl | rfl | rfl | rfl | rfl | rfl | rfl | rfl | rfl | rfl | rfl | rfl | rfl | rfl | rfl | rfl | rfl | rfl | rfl | rfl | rfl | rfl | rfl | rfl | rfl <;> first | (cases hv; done) | (simp only [Slot.val.injEq] at hv; subst hv)
    · simp only [v0]
      first | exact VG.ptr _ rfl | exact VG.slice _ _ _ rfl | exact VG.int _ _ | exact VG.bool _
    · simp only [v4]
      first | exact VG.ptr _ rfl | exact VG.slice _ _ _ rfl | exact VG.int _ _ | exact VG.bool _
    · simp only [v6]
      first | exact VG.ptr _ rfl | exact VG.slice _ _ _ rfl | exact VG.int _ _ | exact VG.bool _
    · simp only [v8]
      exact VG.slice _ _ _ rfl
    · simp only [v15]
      exact VG.agg (LG.cons (VG.ptr _ rfl) (LG.cons (VG.int _ _) (LG.cons VG.sliceNil (LG.cons (VG.int _ _) (LG.cons (VG.bool _) LG.nil)))))
    · simp only [v26]
      exact VG.tuple (LG.cons (VG.slice _ _ _ rfl) (LG.cons (VG.int _ _) LG.nil))
    · simp only [v28]
      exact VG.tuple (LG.cons (VG.slice _ _ _ rfl) (LG.cons (VG.int _ _) LG.nil))
  · show (List.map (·.1) (LWA1a born clock first rest)).Nodup
    simp only [LWA1a, List.map_cons, List.map_nil]
    decide
def WWA2a : Word := fun o _ => match o.dst with
  | some 4 => bif o.pos == "bytes.go:1392" then some 0 else none
  | some 7 => bif o.pos == "bytes.go:1395" then some 14 else none
  | some 36 => bif o.pos == "wal.go:60" then some 0 else none
  | some 40 => bif o.pos == "wal.go:60" then some 0 else none
  | some 47 => bif o.pos == "wal.go:63" then some 0 else none
  | some 55 => bif o.pos == "wal.go:65" then some 0 else none
  | _ => none
noncomputable def SWA2a (born born2 : Nat) (clock first : Nat) (rest : List UInt8) : St := ⟨argsT [P 6] 0 .nil, [], heapOf 20 5 (disk96 [walE born, manE born2] clock first rest)⟩
def LWA2a (born born2 : Nat) (clock first : Nat) (rest : List UInt8) : List (Nat × Slot) := [(0, .val (P 6)), (2, .top), (3, .top), (4, .val (P 20)), (5, .top), (6, .val (S 22 (rest.length + 12))), (7, .top), (8, .val (.slice (some ⟨22, 12, none⟩) (rest.length + 12 - 12) (2 * (rest.length + 12) + 1 - 24))), (12, .top), (13, .bool false), (14, .top), (15, .val (.agg #[P 6, I 0, .slice none 0 0, I 0, .bool false])), (16, .top), (17, .top), (18, .top), (19, .top), (20, .bool true), (21, .bool true), (22, .top), (23, .bool false), (24, .bool false), (26, .val (.tuple #[S 22 (rest.length + 12), I 0])), (27, .top), (28, .val (.tuple #[S 22 (rest.length + 12), I 0])), (29, .top), (30, .top), (31, .top), (32, .bool false), (33, .bool false), (34, .top), (35, .top), (36, .bool false), (37, .bool false), (38, .bool false), (39, .top), (40, .top), (41, .top), (42, .bool false), (43, .bool false), (45, .top), (46, .top), (47, .top), (48, .top), (49, .top), (50, .top), (51, .top), (52, .top), (53, .top), (54, .top), (55, .top)]
noncomputable def TWA2a (born born2 : Nat) (clock first : Nat) (rest : List UInt8) : List Bool := [true && (true && (true && ((rest.length + 12).ble (capLow (2 * (rest.length + 12) + 1)) && (Nat.ble 12 (rest.length + 12) && ((!isOpen (2 * (rest.length + 12) + 1) && true || !Nat.beq 1 0) && !(capLow (2 * (rest.length + 12) + 1)).beq 12))))),
  twice (Value.slice (some ⟨22, 4, none⟩) 8 (2 * (rest.length + 12) + 1 - 8)),
  Nat.beq 5 5,
  twice (some (AObj.cells (.open_ 1) (byteVals (hd first ++ rest)) 5)),
  true && (true && (true && (Nat.ble 12 (capLow (2 * (rest.length + 12) + 1)) && (Nat.ble 4 12 && ((!isOpen (2 * (rest.length + 12) + 1) && true || !Nat.beq 1 0) && !(capLow (2 * (rest.length + 12) + 1)).beq 4))))),
  true && (true && (true && (Nat.ble 4 (capLow (2 * (rest.length + 12) + 1)) && (Nat.ble 0 4 && ((!isOpen (2 * (rest.length + 12) + 1) || Nat.beq 0 0 || !Nat.beq 1 0) && !(capLow (2 * (rest.length + 12) + 1)).beq 0))))),
  true,
  !(rest.length + 12).beq 0 && (byteVals (hd first ++ rest)).length.beq ((rest.length + 12) * 1) && (!(0 + (rest.length + 12)).ble (capLow (2 * 0)) && (((0 + (rest.length + 12)) * 2 * (1 + 1)).ble 140737488355328 && ((byteVals (hd first ++ rest)).all oneCell && (byteVals (hd first ++ rest)).length.beq ((rest.length + 12) * 1)))) && (!isOpen (2 * 0) && Nat.beq 0 0),
  true]
theorem runWA2a (born born2 : Nat) (clock first : Nat) (rest : List UInt8) :
  (codeO Tryz.prog WWA2a (levX Tryz.prog (extS.with [conRD8 (byteVals (hd first ++ rest)) 4 ((2 * (rest.length + 12) + 1) - 8) 23 first]).ext 300) (levO Tryz.prog (extS.with [conRD8 (byteVals (hd first ++ rest)) 4 ((2 * (rest.length + 12) + 1) - 8) 23 first]) WWA2a 300) none 123 (Code.ahead p96 c96) (SWA2a born born2 clock first rest)).map (fun r => (r.1, r.2.1.ds, r.2.1.h.gl, [20, 22, 5, 6, 13, 14].map r.2.1.h.objs.get, [0, 4, 6, 8, 15, 26, 28].map (fun t => (r.2.1.tm.get t).getD Go.undef), (LWA2a born born2 clock first rest).all (fun x => x.2.fits ((r.2.1.tm.get x.1).getD Go.undef)), (List.range 123).all (fun t => ((LWA2a born born2 clock first rest).any fun x => Nat.beq x.1 t) || Slot.undef.fits ((r.2.1.tm.get t).getD Go.undef)), r.2.2)) =
  some (.normal, [], 5, [
    some (.cells .own [P 6, I (first : Nat), .slice none 0 0, I 12, .bool false] 219),
    some (.cells (.open_ 1) (byteVals (hd first ++ rest)) 5),
    some (.map [⟨.string "wal".toUTF8, P 13, born⟩, ⟨.string "manifest".toUTF8, P 18, born2⟩] clock),
    some (.cells .own [.map (some 5), I 1073741824, I (-1), .bool false] 140),
    some (.cells .own [S 14 (rest.length + 12), I (((rest.length + 12) : Nat) : Int)] 143),
    some (.cells (.open_ 1) (byteVals (hd first ++ rest)) 5)], [P 6, P 20, S 22 (rest.length + 12), .slice (some ⟨22, 12, none⟩) (rest.length + 12 - 12) (2 * (rest.length + 12) + 1 - 24), .agg #[P 6, I 0, .slice none 0 0, I 0, .bool false], .tuple #[S 22 (rest.length + 12), I 0], .tuple #[S 22 (rest.length + 12), I 0]], true, true, TWA2a born born2 clock first rest) := by kernel_rfl
theorem testsWA2a (born born2 : Nat) (clock first : Nat) (rest : List UInt8) (hr : 0 < rest.length) (hr2 : rest.length ≤ 1000000) : allT (TWA2a born born2 clock first rest) := by
  intro b hb
  simp only [TWA2a, List.mem_cons, List.not_mem_nil, or_false] at hb
  rcases hb with hb | hb | hb | hb | hb | hb | hb | hb | hb <;> refine hb.trans ?_ <;> clear hb <;>
  first
  | with_reducible rfl
  | with_reducible exact isSame_refl _
  | with_reducible exact twice_ok _
  | (unfold ltT; rw [decide_eq_true_eq]; (try simp only [Int.ofNat_eq_natCast]); omega)
  | (unfold bornT; simp <;> omega)
  | (simp only [wrapM, decide_true, Bool.not_eq_true', decide_eq_true_eq, decide_eq_false_iff_not, Int.ofNat_eq_natCast, gt_iff_lt]; omega)
  | (simp only [bun, capLow, isOpen, oneCell]; omega)
  | (simp only [wrapM, Int.ofNat_eq_natCast, decide_eq_true_eq]; split <;> omega)
  | (simp only [wrapM, Int.ofNat_eq_natCast, decide_eq_true_eq, gt_iff_lt]; (repeat' split) <;> omega)
  | (first | exact z1 (by omega) | exact z2 (by omega) | exact z3 (by omega) | exact z4 (by omega) | exact z5 (by omega) | exact z6 (by omega))
  | (simp [beq_t]; done)
  | rfl
theorem gotWA2a (born born2 : Nat) (clock first : Nat) (rest : List UInt8)  :
  ∃ M, codeO Tryz.prog WWA2a (levX Tryz.prog (extS.with [conRD8 (byteVals (hd first ++ rest)) 4 ((2 * (rest.length + 12) + 1) - 8) 23 first]).ext 300) (levO Tryz.prog (extS.with [conRD8 (byteVals (hd first ++ rest)) 4 ((2 * (rest.length + 12) + 1) - 8) 23 first]) WWA2a 300) none 123 (Code.ahead p96 c96) (SWA2a born born2 clock first rest) = some (.normal, M, TWA2a born born2 clock first rest) ∧ GenT 123 (pairs 5 [(5, 5), (6, 6), (7, 7), (8, 8), (9, 9), (10, 10), (11, 11), (12, 12), (13, 13), (14, 14), (15, 15), (16, 16), (17, 17), (18, 18), (19, 19), (20, 20), (22, 22)]) M (heapOf 23 5 ([(20, .cells .own [P 6, I (first : Nat), .slice none 0 0, I 12, .bool false] 219)] ++ [(22, .cells (.open_ 1) (byteVals (hd first ++ rest)) 5)] ++ [(5, .map [⟨.string "wal".toUTF8, P 13, born⟩, ⟨.string "manifest".toUTF8, P 18, born2⟩] clock)] ++ [(6, .cells .own [.map (some 5), I 1073741824, I (-1), .bool false] 140)] ++ [(13, .cells .own [S 14 (rest.length + 12), I (((rest.length + 12) : Nat) : Int)] 143)] ++ [(14, .cells (.open_ 1) (byteVals (hd first ++ rest)) 5)])) (LWA2a born born2 clock first rest) := by
  obtain ⟨⟨e, M, ts⟩, hc, h⟩ := Option.map_eq_some_iff.1 (runWA2a born born2 clock first rest)
  simp only [Prod.mk.injEq, List.map_cons, List.map_nil, List.cons.injEq, and_true] at h
  obtain ⟨rfl, hds, hgl, ⟨h20, h22, h5, h6, h13, h14⟩, ⟨v0, v4, v6, v8, v15, v26, v28⟩, hfit, hall, rfl⟩ := h
  refine ⟨M, hc, Gen.of_pairs hgl (by decide) ?_, hfit, ?_, hall, once_of ?_, hds⟩
  · intro x hm
    simp only [base, fileO, walE, manE, tops, rowO, noneO, List.cons_append, List.nil_append, List.mem_cons, List.not_mem_nil, or_false] at hm
    rcases hm with rfl | rfl | rfl | rfl | rfl | rfl
    · refine fit rfl h20 (OG.own _ ?_) rfl sameFl
      exact LS.ok (by repeat' constructor)
    · refine fit rfl h22 (OG.open_ _ _ ?_) rfl sameFl
      exact LG.bytes _
    · exact fit rfl h5 (OG.map2 (VG.string _) (VG.ptr _ rfl) (VG.string _) (VG.ptr _ rfl)) rfl noFl
    · refine fit rfl h6 (OG.own _ ?_) rfl sameFl
      exact LS.ok (by repeat' constructor)
    · refine fit rfl h13 (OG.own _ ?_) rfl sameFl
      exact LS.ok (by repeat' constructor)
    · refine fit rfl h14 (OG.open_ _ _ ?_) rfl sameFl
      exact LG.bytes _
  · intro x hx v hv
    simp only [LWA2a, List.mem_cons, List.not_mem_nil, or_false] at hx
    rcases hx with rfl | rfl | rfl | rfl | rfl | rfl | rfl | rfl | rfl | rfl | rfl | rfl | rfl | rfl | rfl | rfl | rfl | rfl | rfl | rfl | rfl | rfl | rfl | rfl | rfl | rfl | rfl | rfl | rfl | rfl | rfl | rfl | rfl | rfl | rfl | rfl | rfl | rfl | rfl | rfl | rfl | rfl | rfl | rfl | rfl | rfl | rfl | rfl | rfl | rfl <;> first | (cases hv; done) | (simp only [Slot.val.injEq] at hv; subst hv)
    · simp only [v0]
      first | exact VG.ptr _ rfl | exact VG.slice _ _ _ rfl | exact VG.int _ _ | exact VG.bool _
    · simp only [v4]
      first | exact VG.ptr _ rfl | exact VG.slice _ _ _ rfl | exact VG.int _ _ | exact VG.bool _
    · simp only [v6]
      first | exact VG.ptr _ rfl | exact VG.slice _ _ _ rfl | exact VG.int _ _ | exact VG.bool _
    · simp only [v8]
      exact VG.slice _ _ _ rfl
    · simp only [v15]
      exact VG.agg (LG.cons (VG.ptr _ rfl) (LG.cons (VG.int _ _) (LG.cons VG.sliceNil (LG.cons (VG.int _ _) (LG.cons (VG.bool _) LG.nil)))))
    · simp only [v26]
      exact VG.tuple (LG.cons (VG.slice _ _ _ rfl) (LG.cons (VG.int _ _) LG.nil))
    · simp only [v28]
      exact VG.tuple (LG.cons (VG.slice _ _ _ rfl) (LG.cons (VG.int _ _) LG.nil))
  · show (List.map (·.1) (LWA2a born born2 clock first rest)).Nodup
    simp only [LWA2a, List.map_cons, List.map_nil]
    decide
end Go.Proofs.YtabpbpdhapaffaaGreatDoor
end
section
namespace Go.Proofs.YtabpbpdhapaffaaGreatDoor
open Go.Vi
/-- An entry of 'm' bytes whose frame begins at 'off'. -/
def ent (t off m : Nat) : Value := .slice (some ⟨22, off + 4, none⟩) m (2 * t + 1 - 2 * (off + 4))
/-- An object that names but what lay there. -/
def LowO (o : AObj) : Prop := ∀ ρ : Nat → Option Nat, (∀ i, i < 20 → ρ i = some i) → OG ρ o o
theorem low_of {l : List (Nat × Nat)} (h : ((List.range 20).all fun i => decide (pairs 5 l i = some i)) = true) : ∀ i, i < 20 → pairs 5 l i = some i := fun i hi => of_decide_eq_true (List.all_eq_true.1 h i (List.mem_range.2 hi))
def LW (rest : List UInt8) (r8 : Value) : List (Nat × Slot) := [(0, .val (P 6)), (2, .top), (3, .top), (4, .val (P 20)), (5, .top), (6, .val (S 22 (rest.length + 12))), (7, .top), (8, .val (r8)), (9, .top), (12, .top), (13, .bool false), (14, .top), (15, .val (.agg #[P 6, I 0, .slice none 0 0, I 0, .bool false])), (16, .top), (17, .top), (18, .top), (19, .top), (20, .bool true), (21, .bool true), (22, .top), (23, .bool false), (24, .bool false), (26, .val (.tuple #[S 22 (rest.length + 12), I 0])), (27, .top), (28, .val (.tuple #[S 22 (rest.length + 12), I 0])), (29, .top), (30, .top), (31, .top), (32, .bool false), (33, .bool false), (34, .top), (35, .top), (36, .bool false), (37, .bool false), (38, .bool false), (39, .top), (40, .top), (41, .top), (42, .bool false), (43, .bool false), (45, .top), (46, .top), (47, .top), (48, .top), (49, .top), (50, .top), (51, .top), (52, .top), (53, .top), (54, .top), (55, .top), (56, .top), (57, .top), (58, .bool true), (59, .top), (60, .top), (61, .top), (62, .top), (63, .bool false), (64, .bool false), (65, .top), (66, .bool false), (67, .bool false), (68, .bool false), (69, .top), (70, .top), (71, .top), (72, .top), (73, .bool false), (74, .bool false), (75, .top), (76, .top), (77, .top), (78, .top), (79, .top), (80, .top), (81, .top), (82, .top), (83, .top), (84, .top), (85, .top), (86, .top), (87, .top), (88, .top), (89, .top), (90, .top), (91, .top), (92, .top), (93, .top), (94, .top), (95, .top), (96, .top), (97, .top), (98, .top), (99, .top), (100, .top)]
/-- The rest. -/
def restV (t off : Nat) : Value := .slice (some ⟨22, off, none⟩) (t - off) (2 * t + 1 - 2 * off)
def LWV (rest : List UInt8) (off : Nat) : List (Nat × Slot) := LW rest (restV (rest.length + 12) off)
theorem ent_ok {ρ : Nat → Option Nat} {t off m o c : Nat} (h : ρ 22 = some 22) (ho : o = off + 4) (hc : c = 2 * t + 1 - 2 * (off + 4)) : VG ρ (ent t off m) (.slice (some ⟨22, o, none⟩) m c) := by
  subst ho; subst hc
  exact VG.slice _ _ _ h
theorem rest_ok {ρ : Nat → Option Nat} {t off o l c : Nat} (h : ρ 22 = some 22) (ho : o = off) (hl : l = t - off) (hc : c = 2 * t + 1 - 2 * off) : VG ρ (restV t off) (.slice (some ⟨22, o, none⟩) l c) := by
  subst ho; subst hl; subst hc
  exact VG.slice _ _ _ h
end Go.Proofs.YtabpbpdhapaffaaGreatDoor
end
section
set_option maxRecDepth 100000
namespace Go.Proofs.YtabpbpdhapaffaaGreatDoor
open Go.Vi
def WWRfn : Word := fun o _ => match o.dst with
  | some 58 => bif o.pos == "wal.go:65" then some 1 else none
  | some 60 => bif o.pos == "wal.go:66" then some 0 else none
  | some 63 => bif o.pos == "wal.go:67" then some 0 else none
  | some 66 => bif o.pos == "wal.go:67" then some 0 else none
  | some 72 => bif o.pos == "wal.go:67" then some 3 else none
  | some 73 => bif o.pos == "wal.go:67" then some 0 else none
  | some 82 => bif o.pos == "wal.go:70" then some 2 else none
  | some 83 => bif o.pos == "wal.go:70" then some 0 else none
  | some 85 => bif o.pos == "wal.go:70" then some 0 else none
  | some 93 => bif o.pos == "wal.go:71" then some 2 else none
  | some 94 => bif o.pos == "wal.go:71" then some 2 else none
  | some 99 => bif o.pos == "wal.go:72" then some 2 else none
  | some 100 => bif o.pos == "wal.go:72" then some 0 else none
  | _ => none
noncomputable def SWRfn (first m : Nat) (rest : List UInt8) (o5 o6 o13 o14 : AObj) : St := seenAs (heapOf 23 5 ([(20, .cells .own [P 6, I (first : Nat), .slice none 0 0, I 12, .bool false] 219), (22, .cells (.open_ 1) (byteVals (hd first ++ rest)) 5)] ++ [(5, o5), (6, o6), (13, o13), (14, o14)])) (LWA1a 0 0 first rest)
def LWRfn (first m : Nat) (rest : List UInt8) (o5 o6 o13 o14 : AObj) : List (Nat × Slot) := LW rest (restV (rest.length + 12) (12 + 4 + m))
noncomputable def TWRfn (first m : Nat) (rest : List UInt8) (o5 o6 o13 o14 : AObj) : List Bool := [true && (true && (true && ((rest.length + 12 - 12).ble (capLow (2 * (rest.length + 12) + 1 - 24)) && ((4 + (m : Int)).toNat.ble (rest.length + 12 - 12) && ((!isOpen (2 * (rest.length + 12) + 1 - 24) || (4 + (m : Int)).toNat.beq 0 || !Nat.beq 1 0) && !(capLow (2 * (rest.length + 12) + 1 - 24)).beq (4 + (m : Int)).toNat))))),
  decide (IntKind.wrap .i64 (Int.ofNat 4 + (m : Int)) = 4 + (m : Int)),
  decide (IntKind.wrap .i64 (12 + (4 + (m : Int))) = 12 + (4 + (m : Int))),
  decide (IntKind.wrap .i64 (Int.ofNat 4 + (m : Int)) = 4 + (m : Int)),
  true,
  !Nat.beq 1 0 && [Value.slice (some { block := 22, off := 12 + 4 * 1 }) ((4 + (m : Int)).toNat - 4) (2 * (rest.length + 12) + 1 - 24 - 2 * 4)].length.beq (1 * 1) && (!(0 + 1).ble (capLow 0) && (((0 + 1) * 2 * (24 + 1)).ble 140737488355328 && ([Value.slice (some { block := 22, off := 12 + 4 * 1 }) ((4 + (m : Int)).toNat - 4) (2 * (rest.length + 12) + 1 - 24 - 2 * 4)].all oneCell && [Value.slice (some { block := 22, off := 12 + 4 * 1 }) ((4 + (m : Int)).toNat - 4) (2 * (rest.length + 12) + 1 - 24 - 2 * 4)].length.beq (1 * 1)))) && (Nat.beq 0 0 && Nat.beq 0 0),
  true && (true && (true && ((4 + (m : Int)).toNat.ble (capLow (2 * (rest.length + 12) + 1 - 24)) && (Nat.ble 4 (4 + (m : Int)).toNat && ((!isOpen (2 * (rest.length + 12) + 1 - 24) && true || !Nat.beq 1 0) && !(capLow (2 * (rest.length + 12) + 1 - 24)).beq 4))))),
  decide (IntKind.wrap .i64 (Int.ofNat 4 + (m : Int)) = 4 + (m : Int)),
  !decide ((m : Int) > ↑(rest.length + 12 - 12) - 4),
  decide (IntKind.wrap .i64 (↑(rest.length + 12 - 12) - 4) = ↑(rest.length + 12 - 12) - 4),
  !decide ((m : Int) > Int.ofNat 1048576),
  !decide ((m : Int) < Int.ofNat 1),
  twice (Value.slice (some ⟨22, 12, none⟩) 4 (2 * (rest.length + 12) + 1 - 24)),
  Nat.beq 5 5,
  twice (some (AObj.cells (.open_ 1) (byteVals (hd first ++ rest)) 5)),
  true && (true && (true && (Nat.ble 4 (capLow (2 * (rest.length + 12) + 1 - 24)) && (Nat.ble 0 4 && ((!isOpen (2 * (rest.length + 12) + 1 - 24) || Nat.beq 0 0 || !Nat.beq 1 0) && !(capLow (2 * (rest.length + 12) + 1 - 24)).beq 0))))),
  decide (Int.ofNat 4 ≤ ↑(rest.length + 12 - 12))]
theorem runWRfn (first m : Nat) (rest : List UInt8) (o5 o6 o13 o14 : AObj) :
  (codeO Tryz.prog WWRfn (levX Tryz.prog (extS.with [conRD4 (byteVals (hd first ++ rest)) 12 (2 * (rest.length + 12) + 1 - 24) 23 m]).ext 300) (levO Tryz.prog (extS.with [conRD4 (byteVals (hd first ++ rest)) 12 (2 * (rest.length + 12) + 1 - 24) 23 m]) WWRfn 300) none 123 (b96) (SWRfn first m rest o5 o6 o13 o14)).map (fun r => (r.1, r.2.1.ds, r.2.1.h.gl, [20, 22, 24, 5, 6, 13, 14].map r.2.1.h.objs.get, [0, 4, 6, 8, 15, 26, 28].map (fun t => (r.2.1.tm.get t).getD Go.undef), (LWRfn first m rest o5 o6 o13 o14).all (fun x => x.2.fits ((r.2.1.tm.get x.1).getD Go.undef)), (List.range 123).all (fun t => ((LWRfn first m rest o5 o6 o13 o14).any fun x => Nat.beq x.1 t) || Slot.undef.fits ((r.2.1.tm.get t).getD Go.undef)), r.2.2)) =
  some (.normal, [], 5, [
    some (.cells .own [P 6, I (first : Nat), S 24 1, I (12 + (4 + (m : Int))), .bool false] 219),
    some (.cells (.open_ 1) (byteVals (hd first ++ rest)) 5),
    some (.cells (.open_ 1) [(.slice (some ⟨22, 12 + 4 * 1, none⟩) ((4 + (m : Int)).toNat - 4) (2 * (rest.length + 12) + 1 - 24 - 8))] 57),
    some (o5),
    some (o6),
    some (o13),
    some (o14)], [P 6, P 20, S 22 (rest.length + 12), .slice (some ⟨22, 12 + (4 + (m : Int)).toNat * 1, none⟩) (((rest.length + 12) - 12) - (4 + (m : Int)).toNat) (2 * (rest.length + 12) + 1 - 24 - 2 * (4 + (m : Int)).toNat), .agg #[P 6, I 0, .slice none 0 0, I 0, .bool false], .tuple #[S 22 (rest.length + 12), I 0], .tuple #[S 22 (rest.length + 12), I 0]], true, true, TWRfn first m rest o5 o6 o13 o14) := by kernel_rfl
theorem testsWRfn (first m : Nat) (rest : List UInt8) (o5 o6 o13 o14 : AObj) (hm : 0 < m) (hm2 : m ≤ 5001) (hT : rest.length ≤ 1000000) (hr : 12 + 4 + m < (rest.length + 12)) : allT (TWRfn first m rest o5 o6 o13 o14) := by
  intro b hb
  simp only [TWRfn, List.mem_cons, List.not_mem_nil, or_false] at hb
  have e0 := wrap_a (Int.ofNat 4 + (m : Int))
  have e1 := wrap_a (12 + (4 + (m : Int)))
  have e2 := wrap_a (↑(rest.length + 12 - 12) - 4)
  rcases hb with hb | hb | hb | hb | hb | hb | hb | hb | hb | hb | hb | hb | hb | hb | hb | hb | hb <;> refine hb.trans ?_ <;> clear hb <;>
  first
  | with_reducible rfl
  | with_reducible exact isSame_refl _
  | with_reducible exact twice_ok _
  | (unfold ltT; rw [decide_eq_true_eq]; (try simp only [Int.ofNat_eq_natCast]); omega)
  | (unfold bornT; simp <;> omega)
  | (simp only [e0, e1, e2, wrapM, decide_true, Bool.not_eq_true', decide_eq_true_eq, decide_eq_false_iff_not, Int.ofNat_eq_natCast, gt_iff_lt]; omega)
  | (simp only [bun, capLow, isOpen, oneCell]; omega)
  | (simp only [wrapM, Int.ofNat_eq_natCast, decide_eq_true_eq]; split <;> omega)
  | (simp only [e0, e1, e2, wrapM, Int.ofNat_eq_natCast, decide_eq_true_eq, gt_iff_lt]; (repeat' split) <;> omega)
  | (first | exact z1 (by omega) | exact z2 (by omega) | exact z3 (by omega) | exact z4 (by omega) | exact z5 (by omega) | exact z6 (by omega))
  | (simp [beq_t]; done)
  | rfl
theorem gotWRfn (first m : Nat) (rest : List UInt8) (o5 o6 o13 o14 : AObj) (hm : 0 < m) (hr : 12 + 4 + m < (rest.length + 12)) (l5 : LowO o5) (l6 : LowO o6) (l13 : LowO o13) (l14 : LowO o14) :
  ∃ M, codeO Tryz.prog WWRfn (levX Tryz.prog (extS.with [conRD4 (byteVals (hd first ++ rest)) 12 (2 * (rest.length + 12) + 1 - 24) 23 m]).ext 300) (levO Tryz.prog (extS.with [conRD4 (byteVals (hd first ++ rest)) 12 (2 * (rest.length + 12) + 1 - 24) 23 m]) WWRfn 300) none 123 (b96) (SWRfn first m rest o5 o6 o13 o14) = some (.normal, M, TWRfn first m rest o5 o6 o13 o14) ∧ GenT 123 (pairs 5 [(5, 5), (6, 6), (7, 7), (8, 8), (9, 9), (10, 10), (11, 11), (12, 12), (13, 13), (14, 14), (15, 15), (16, 16), (17, 17), (18, 18), (19, 19), (20, 20), (22, 22), (24, 24)]) M (heapOf 25 5 ([(20, .cells .own [P 6, I (first : Nat), S 24 1, I (((12 + 4 + m) : Nat) : Int), .bool false] 219)] ++ [(22, .cells (.open_ 1) (byteVals (hd first ++ rest)) 5)] ++ [(24, .cells (.open_ 1) [ent (rest.length + 12) 12 m] 57)] ++ [(5, o5)] ++ [(6, o6)] ++ [(13, o13)] ++ [(14, o14)])) (LWRfn first m rest o5 o6 o13 o14) := by
  obtain ⟨⟨e, M, ts⟩, hc, h⟩ := Option.map_eq_some_iff.1 (runWRfn first m rest o5 o6 o13 o14)
  simp only [Prod.mk.injEq, List.map_cons, List.map_nil, List.cons.injEq, and_true] at h
  obtain ⟨rfl, hds, hgl, ⟨h20, h22, h24, h5, h6, h13, h14⟩, ⟨v0, v4, v6, v8, v15, v26, v28⟩, hfit, hall, rfl⟩ := h
  refine ⟨M, hc, Gen.of_pairs hgl (by decide) ?_, hfit, ?_, hall, once_of ?_, hds⟩
  · intro x hm
    simp only [base, fileO, walE, manE, tops, rowO, noneO, List.cons_append, List.nil_append, List.mem_cons, List.not_mem_nil, or_false] at hm
    rcases hm with rfl | rfl | rfl | rfl | rfl | rfl | rfl
    · refine fit rfl h20 (OG.own _ ?_) rfl sameFl
      rw [show (12 + (4 + (m : Int))) = (((12 + 4 + m) : Nat) : Int) by omega]
      exact LS.ok (by repeat' constructor)
    · refine fit rfl h22 (OG.open_ _ _ ?_) rfl sameFl
      exact LG.bytes _
    · refine fit rfl h24 (OG.open_ _ _ ?_) rfl sameFl
      refine LG.cons ?_ LG.nil
      have e4 : (4 + (m : Int)).toNat - 4 = m := by omega
      rw [e4]
      exact ent_ok rfl (by omega) (by omega)
    · exact fit rfl h5 (l5 _ (low_of (by decide))) rfl fun _ _ _ h => ⟨_, h⟩
    · exact fit rfl h6 (l6 _ (low_of (by decide))) rfl fun _ _ _ h => ⟨_, h⟩
    · exact fit rfl h13 (l13 _ (low_of (by decide))) rfl fun _ _ _ h => ⟨_, h⟩
    · exact fit rfl h14 (l14 _ (low_of (by decide))) rfl fun _ _ _ h => ⟨_, h⟩
  · intro x hx v hv
    simp only [LWRfn, LW, List.mem_cons, List.not_mem_nil, or_false] at hx
    rcases hx with rfl | rfl | rfl | rfl | rfl | rfl | rfl | rfl | rfl | rfl | rfl | rfl | rfl | rfl | rfl | rfl | rfl | rfl | rfl | rfl | rfl | rfl | rfl | rfl | rfl | rfl | rfl | rfl | rfl | rfl | rfl | rfl | rfl | rfl | rfl | rfl | rfl | rfl | rfl | rfl | rfl | rfl | rfl | rfl | rfl | rfl | rfl | rfl | rfl | rfl | rfl | rfl | rfl | rfl | rfl | rfl | rfl | rfl | rfl | rfl | rfl | rfl | rfl | rfl | rfl | rfl | rfl | rfl | rfl | rfl | rfl | rfl | rfl | rfl | rfl | rfl | rfl | rfl | rfl | rfl | rfl | rfl | rfl | rfl | rfl | rfl | rfl | rfl | rfl | rfl | rfl | rfl | rfl | rfl | rfl | rfl <;> first | (cases hv; done) | (simp only [Slot.val.injEq] at hv; subst hv)
    · simp only [v0]
      first | exact VG.ptr _ rfl | exact VG.slice _ _ _ rfl | exact VG.int _ _ | exact VG.bool _
    · simp only [v4]
      first | exact VG.ptr _ rfl | exact VG.slice _ _ _ rfl | exact VG.int _ _ | exact VG.bool _
    · simp only [v6]
      first | exact VG.ptr _ rfl | exact VG.slice _ _ _ rfl | exact VG.int _ _ | exact VG.bool _
    · simp only [v8]
      exact rest_ok rfl (by omega) (by omega) (by omega)
    · simp only [v15]
      exact VG.agg (LG.cons (VG.ptr _ rfl) (LG.cons (VG.int _ _) (LG.cons VG.sliceNil (LG.cons (VG.int _ _) (LG.cons (VG.bool _) LG.nil)))))
    · simp only [v26]
      exact VG.tuple (LG.cons (VG.slice _ _ _ rfl) (LG.cons (VG.int _ _) LG.nil))
    · simp only [v28]
      exact VG.tuple (LG.cons (VG.slice _ _ _ rfl) (LG.cons (VG.int _ _) LG.nil))
  · show (List.map (·.1) (LWRfn first m rest o5 o6 o13 o14)).Nodup
    simp only [LWRfn, LW, List.map_cons, List.map_nil]
    decide
end Go.Proofs.YtabpbpdhapaffaaGreatDoor
end
