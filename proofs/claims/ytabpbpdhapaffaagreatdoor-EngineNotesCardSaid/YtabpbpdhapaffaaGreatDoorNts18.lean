/-
  EngineNotes returns true whatever the notes and what stands between them, part 18: GrEB2, GrEO2, GrLDl, GrQ10l, GrEA2l, GrQ11. Conditions: none but those of the row.
-/
import Derived.Test.YtabpbpdhapaffaaGreatDoorNts16
import Derived.Test.YtabpbpdhapaffaaGreatDoorNts17
set_option linter.unusedSimpArgs false
set_option linter.unusedVariables false
section
set_option maxRecDepth 100000
namespace Go.Proofs.YtabpbpdhapaffaaGreatDoor
open Go.Vi
def WEB2 : Word := fun _ _ => none
noncomputable def SEB2 (first k sz : Nat) (taken : Int) (c lst : List Value) (nv : Value) (o5 o6 o13 o14 : AObj) (o21 o23 : AObj) (t42 : Value) (o18 o19 : AObj) : St := seenAs (heapOf 28 5 [(20, .cells .own [P 6, I (first : Nat), S 24 k, I (sz : Nat), .bool false] 219), (22, .cells (.open_ 1) c 5), (24, .cells (.open_ 1) lst 57), (25, .map [] 0), (26, .cells .own [I 9223372036854775807, I 0, .map (some 25)] 216), (27, .cells .own [P 6, P 20, P 26, .slice none 0 0, I 0, I taken, nv, .map none, .bool false] 118), (5, o5), (6, o6), (13, o13), (14, o14), (21, o21), (23, o23), (18, o18), (19, o19)]) (LEX first k sz taken c lst nv o5 o6 o13 o14 o21 o23 t42)
theorem runEB2 (first k sz : Nat) (taken : Int) (c lst : List Value) (nv : Value) (o5 o6 o13 o14 : AObj) (o21 o23 : AObj) (t42 : Value) (o18 o19 : AObj) :
  (codeO Tryz.prog WEB2 (levX Tryz.prog extS.ext 300) (levO Tryz.prog extS WEB2 300) none 52 (Code.behind p34 c34) (SEB2 first k sz taken c lst nv o5 o6 o13 o14 o21 o23 t42 o18 o19)).map (fun r => (r.1, r.2.1.ds, r.2.1.h.gl, r.2.1.h.next, [20, 22, 24, 25, 26, 27, 5, 6, 13, 14, 21, 23, 18, 19].map r.2.1.h.objs.get, resultsA Tryz.prog r.2.1.h Tryz.f34 r.2.1.tm, r.2.2)) =
  some (.ret, [], 5, 28, [
    some (.cells .own [P 6, I (first : Nat), S 24 k, I (sz : Nat), .bool false] 219),
    some (.cells (.open_ 1) c 5),
    some (.cells (.open_ 1) lst 57),
    some (.map [] 0),
    some (.cells .own [I 9223372036854775807, I 0, .map (some 25)] 216),
    some (.cells .own [P 6, P 20, P 26, .slice none 0 0, I 0, I taken, nv, .map none, .bool false] 118),
    some (o5),
    some (o6),
    some (o13),
    some (o14),
    some (o21),
    some (o23),
    some (o18),
    some (o19)], some (.tuple #[P 27, I 0]), []) := by kernel_rfl
theorem gotEB2 (first k sz : Nat) (taken : Int) (c lst : List Value) (nv : Value) (o5 o6 o13 o14 : AObj) (o21 o23 : AObj) (t42 : Value) (o18 o19 : AObj) :
  ∃ M, codeO Tryz.prog WEB2 (levX Tryz.prog extS.ext 300) (levO Tryz.prog extS WEB2 300) none 52 (Code.behind p34 c34) (SEB2 first k sz taken c lst nv o5 o6 o13 o14 o21 o23 t42 o18 o19) = some (.ret, M, []) ∧ M.ds = [] ∧ M.h.gl = 5 ∧ M.h.next = 28 ∧ resultsA Tryz.prog M.h Tryz.f34 M.tm = some (.tuple #[P 27, I 0]) ∧
    ∀ x ∈ ([(20, .cells .own [P 6, I (first : Nat), S 24 k, I (sz : Nat), .bool false] 219), (22, .cells (.open_ 1) c 5), (24, .cells (.open_ 1) lst 57), (25, .map [] 0), (26, .cells .own [I 9223372036854775807, I 0, .map (some 25)] 216), (27, .cells .own [P 6, P 20, P 26, .slice none 0 0, I 0, I taken, nv, .map none, .bool false] 118), (5, o5), (6, o6), (13, o13), (14, o14), (21, o21), (23, o23), (18, o18), (19, o19)] : List (Nat × AObj)), M.h.objs.get x.1 = some x.2 := by
  obtain ⟨⟨e, M, ts⟩, hc, h⟩ := Option.map_eq_some_iff.1 (runEB2 first k sz taken c lst nv o5 o6 o13 o14 o21 o23 t42 o18 o19)
  simp only [Prod.mk.injEq, List.map_cons, List.map_nil, List.cons.injEq, and_true] at h
  obtain ⟨rfl, hds, hgl, hnx, ⟨h20, h22, h24, h25, h26, h27, h5, h6, h13, h14, h21, h23, h18, h19⟩, hres, rfl⟩ := h
  refine ⟨M, hc, hds, hgl, hnx, hres, ?_⟩
  intro x hx
  simp only [List.mem_cons, List.not_mem_nil, or_false] at hx
  rcases hx with rfl | rfl | rfl | rfl | rfl | rfl | rfl | rfl | rfl | rfl | rfl | rfl | rfl | rfl
  · exact h20
  · exact h22
  · exact h24
  · exact h25
  · exact h26
  · exact h27
  · exact h5
  · exact h6
  · exact h13
  · exact h14
  · exact h21
  · exact h23
  · exact h18
  · exact h19
end Go.Proofs.YtabpbpdhapaffaaGreatDoor
end
section
namespace Go.Proofs.YtabpbpdhapaffaaGreatDoor
open Go.Vi
section
variable {born born2 clock first : Nat} {es : List (List UInt8)} {nb : List UInt8}
def manO (l : Nat) (c : List Value) : List (Nat × AObj) := [(18, .cells .own [S 19 l, I (l : Nat)] 143), (19, .cells (.open_ 1) c 5)]
def conEO2 (born born2 clock first : Nat) (es : List (List UInt8)) (l : Nat) (c : List Value) : Con :=
  ⟨34, 20, 5, [P 6], disk96 [walE born, manE born2] clock first (frms es) ++ manO l c, .tuple #[P 27, I 0], 28, engO first first es (lastOf es) ++ disk96 [walE born, manE born2] clock first (frms es) ++ [(23, o23E (lastOf es))] ++ manO l c⟩
theorem low18 {l : Nat} : LowO (.cells .own [S 19 l, I (l : Nat)] 143) := fun _ h => OG.own _ (LG.cons (VG.slice _ _ _ (h 19 (by omega))) (LG.cons (VG.int _ _) LG.nil))
theorem wr23 (e : List UInt8) : (o23E e).wr = true := by cases e <;> rfl
/-- The loop and what is behind it, whatever lies ahead. -/
theorem eo2_of {l : Nat} {c : List Value} (lc : ∀ ρ : Nat → Option Nat, LG ρ c c) {M : St} {X : Ext} (hX : ExtOk Tryz.prog X)
    (hpre : codeS Tryz.prog (levX Tryz.prog X 300) none 52 (Code.ahead p34 c34) ⟨argsT [P 6] 0 .nil, [], heapOf 20 5 (disk96 [walE born, manE born2] clock first (frms es) ++ manO l c)⟩ = some (.normal, M))
    (gM : GenT 52 (pairs 5 [(5, 5), (6, 6), (7, 7), (8, 8), (9, 9), (10, 10), (11, 11), (12, 12), (13, 13), (14, 14), (15, 15), (16, 16), (17, 17), (18, 18), (19, 19), (20, 20), (22, 22), (24, 24), (25, 25), (26, 26), (27, 27)]) M
      (heapOf 28 5 ([(20, .cells .own [P 6, I (first : Nat), S 24 es.length, I (((frms es).length + 12 : Nat) : Int), .bool false] 219), (22, .cells (.open_ 1) (byteVals (hd first ++ frms es)) 5), (24, .cells (.open_ 1) (ents ((frms es).length + 12) 12 es) 57), (25, .map [] 0), (26, .cells .own [I 9223372036854775807, I 0, .map (some 25)] 216), (27, .cells .own [P 6, P 20, P 26, .slice none 0 0, I 0, I (first : Nat), .chan (some 0), .map none, .bool false] 118),
        (5, .map [walE born, manE born2] clock), (6, .cells .own [.map (some 5), I 1073741824, I (-1), .bool false] 140), (13, .cells .own [S 14 ((frms es).length + 12), I (((frms es).length + 12 : Nat) : Int)] 143), (14, .cells (.open_ 1) (byteVals (hd first ++ frms es)) 5)] ++ manO l c)) (LE (first : Nat)))
    (hne : 0 < es.length) (he : ∀ e ∈ es, e.length ≤ 5000) (hk : es.length ≤ 30) (hf : first ≤ 60) : Con.Ok Tryz.prog (conEO2 born born2 clock first es l c) := by
  have hl := loop34 (first := first) (sz := (frms es).length + 12) (taken := (first : Nat)) (nv := .chan (some 0)) hne he hk hf (low5b (born := born) (born2 := born2) (clock := clock)) low6 (low13 (n := (frms es).length + 12)) (low14 (l := hd first ++ frms es))
  have hb := TriW.beside (x := manO l c) hl ?_ ?_
  · have e0 : (first : Int) + (0 : Nat) = (first : Nat) := by omega
    have hb' : TriW Tryz.prog 20 52 (seenAs (heapOf 28 5 ([(20, .cells .own [P 6, I (first : Nat), S 24 es.length, I (((frms es).length + 12 : Nat) : Int), .bool false] 219), (22, .cells (.open_ 1) (byteVals (hd first ++ frms es)) 5), (24, .cells (.open_ 1) (ents ((frms es).length + 12) 12 es) 57), (25, .map [] 0), (26, .cells .own [I 9223372036854775807, I 0, .map (some 25)] 216), (27, .cells .own [P 6, P 20, P 26, .slice none 0 0, I 0, I (first : Nat), .chan (some 0), .map none, .bool false] 118),
        (5, .map [walE born, manE born2] clock), (6, .cells .own [.map (some 5), I 1073741824, I (-1), .bool false] 140), (13, .cells .own [S 14 ((frms es).length + 12), I (((frms es).length + 12 : Nat) : Int)] 143), (14, .cells (.open_ 1) (byteVals (hd first ++ frms es)) 5)] ++ manO l c)) (LE ((first : Int) + (0 : Nat)))) (.block 0 (.loop b34)) .normal _ := hb
    rw [e0] at hb'
    have hh := TriW.pre (n := 52) (m := 20) hb' gM (lt_of_all rfl) (low_of (by decide))
    obtain ⟨M', hM', hds, hgl, hnx, hres, hp⟩ := gotEB2 first es.length ((frms es).length + 12) (first : Nat) (byteVals (hd first ++ frms es)) (ents ((frms es).length + 12) 12 es) (nvE (lastOf es)) (.map [walE born, manE born2] clock) (.cells .own [.map (some 5), I 1073741824, I (-1), .bool false] 140) (.cells .own [S 14 ((frms es).length + 12), I (((frms es).length + 12 : Nat) : Int)] 143) (.cells (.open_ 1) (byteVals (hd first ++ frms es)) 5) (.cells (.open_ 1) (byteVals (6 :: lastOf es)) 5) (o23E (lastOf es)) (t42E (lastOf es)) (.cells .own [S 19 l, I (l : Nat)] 143) (.cells (.open_ 1) c 5)
    have hpost := codeO_ok (levO_ok 300) _ _ _ _ _ hM' (fun _ h => absurd h List.not_mem_nil)
    have key := TriW.around2 (m := 20) mixedO hX extS_ok 300 p34 (c := c34) hpre (by rw [hole34]; exact hh) hpost
    refine Con.ok_of_tri (c := conEO2 born born2 clock first es l c) Tryz.func34 body34 (by rw [Tryz.ntmps34]; show 1 ≤ 52; omega) (.inr rfl) (by rw [Tryz.ntmps34]; exact key) hds hres hnx hgl (fun x hx => hp x ?_) ?_
    · simp only [conEO2, engO, logO, disk96, manO, List.cons_append, List.nil_append, List.mem_cons, List.not_mem_nil, or_false] at hx
      rcases hx with rfl | rfl | rfl | rfl | rfl | rfl | rfl | rfl | rfl | rfl | rfl | rfl | rfl <;> simp [List.length_append, hd_length]
    · cases h : lastOf es <;> simp only [conEO2, engO, h] <;> rfl
  · intro p hp
    simp only [manO, List.mem_cons, List.not_mem_nil, or_false] at hp
    rcases hp with rfl | rfl
    · exact ⟨show 18 < 20 by decide, low18, by simp⟩
    · exact ⟨show 19 < 20 by decide, fun ρ _ => OG.open_ _ _ (lc ρ), by simp⟩
  · intro p hp
    simp only [List.mem_cons, List.not_mem_nil, or_false] at hp
    rcases hp with rfl | rfl | rfl | rfl | rfl | rfl | rfl | rfl | rfl | rfl | rfl | rfl <;> first | exact .inl ⟨show 20 ≤ _ from by simp only; omega, rfl⟩ | exact .inl ⟨show 20 ≤ _ from by simp only; omega, wr23 _⟩ | exact .inr ⟨show _ < 20 from by simp only; omega, by simp⟩
end
end Go.Proofs.YtabpbpdhapaffaaGreatDoor
end
section
set_option maxRecDepth 100000
set_option maxHeartbeats 4000000
namespace Go.Proofs.YtabpbpdhapaffaaGreatDoor
open Go.Vi
def WLDl : Word := fun o n => match o.dst with
  | some 4 => bif o.pos == "bits.go:93" then some 5 else bif o.pos == "bytes.go:1392" then some 0 else none
  | some 5 => bif o.pos == "bits.go:93" then some 2 else none
  | some 7 => bif o.pos == "bits.go:93" then some 8 else bif o.pos == "bytes.go:1395" then some 14 else none
  | some 9 => bif o.pos == "engine.go:129" then some 0 else none
  | some 10 => bif o.pos == "bits.go:107" then some 1 else bif o.pos == "bits.go:93" then some 6 else none
  | some 12 => bif o.pos == "bits.go:107" then some 0 else none
  | some 13 => bif o.pos == "bits.go:107" then some 0 else none
  | some 15 => bif o.pos == "engine.go:129" then some 0 else none
  | some 19 => bif o.pos == "engine.go:123" then some 1100 else none
  | some 22 => bif o.pos == "bits.go:111" then some 8 else bif o.pos == "engine.go:130" then some 0 else none
  | some 23 => bif o.pos == "bits.go:111" then some 2 else none
  | some 26 => bif o.pos == "bits.go:111" then some 4 else none
  | some 27 => bif o.pos == "bits.go:111" then some 9 else none
  | some 29 => bif o.pos == "bits.go:112" then some 3101 else bif o.pos == "engine.go:131" then some 0 else none
  | some 31 => bif o.pos == "bits.go:113" then some 2110 else none
  | some 45 => bif o.pos == "engine.go:92" then some 0 else none
  | _ => none

def HLDl (born born2 clock n : Nat) (nb : List UInt8) : AHeap := heapOf 28 5 [(27, .cells .own [P 6, P 20, P 26, .slice none 0 0, I 0, I 0, .slice none 0 0, .map none, .bool false] 118), (5, .map [walE born, manE born2] clock), (6, .cells .own [.map (some 5), I 1073741824, I (-1), .bool false] 140), (18, .cells .own [S 19 (4 + nb.length + 1), I (((4 + nb.length + 1) : Nat) : Int)] 143), (19, .cells (.open_ 1) (manVl n nb) 5)]
def cL (m : Nat) : Int := (Int.ofNat 0 + (IntKind.u8.wrap (Int.ofNat m * 2 ^ 1) % 128 + 128) % 128 * 2 ^ 0 + IntKind.u8.wrap (Int.ofNat m * 2 ^ 1 / 2 ^ 7) % 128 * 2 ^ 7)
def dL (m : Nat) : Int := cL m / 2 ^ 1
def cellL (n : Nat) (nb : List UInt8) : Option Value := (manVl n nb)[4 + (dL nb.length).toNat * 1]?
theorem dMl {m : Nat} (hx2 : m ≤ 5000) : dL m = Int.ofNat m := belowP (p := fun m => dL m = Int.ofNat m) (N := 5001) (by omega) (by kernel_rfl)
theorem lastl {n : Nat} {nb : List UInt8} (hx2 : nb.length ≤ 5000) : cellL n nb = some (.int .u8 0) := by
  rw [cellL, dMl hx2]
  show (manVl n nb)[4 + nb.length * 1]? = _
  rw [Nat.mul_one, Nat.add_comm]
  simp [manVl, byteVals]
theorem tL20 {m : Nat} (h : m ≤ 5000) (h2 : 64 ≤ m) : (bitOk BinOp.xor IntKind.i64 IntKind.i64 (dL m) (IntKind.i64.wrap (Int.ofNat 0 - IntKind.i64.wrap ((cL m) % (Int.ofNat 1 + Int.ofNat 1)))) (dL m)) = true := by
  have := below (f := fun m => Nat.blt m 64 || (bitOk BinOp.xor IntKind.i64 IntKind.i64 (dL m) (IntKind.i64.wrap (Int.ofNat 0 - IntKind.i64.wrap ((cL m) % (Int.ofNat 1 + Int.ofNat 1)))) (dL m))) (n := m) (N := 5001) (by omega) (by kernel_rfl)
  rcases (Bool.or_eq_true _ _).mp this with h3 | h3
  · exact absurd (Nat.le_of_ble_eq_true h3) (by omega)
  · exact h3
theorem tL21 {m : Nat} (h : m ≤ 5000) (h2 : 64 ≤ m) : (bitOk BinOp.and IntKind.u64 IntKind.u64 (cL m) (Int.ofNat 1) ((cL m) % (Int.ofNat 1 + Int.ofNat 1))) = true := by
  have := below (f := fun m => Nat.blt m 64 || (bitOk BinOp.and IntKind.u64 IntKind.u64 (cL m) (Int.ofNat 1) ((cL m) % (Int.ofNat 1 + Int.ofNat 1)))) (n := m) (N := 5001) (by omega) (by kernel_rfl)
  rcases (Bool.or_eq_true _ _).mp this with h3 | h3
  · exact absurd (Nat.le_of_ble_eq_true h3) (by omega)
  · exact h3
theorem tL22 {m : Nat} (h : m ≤ 5000) (h2 : 64 ≤ m) : (decide (IntKind.i64.wrap (dL m) = dL m)) = true := by
  have := below (f := fun m => Nat.blt m 64 || (decide (IntKind.i64.wrap (dL m) = dL m))) (n := m) (N := 5001) (by omega) (by kernel_rfl)
  rcases (Bool.or_eq_true _ _).mp this with h3 | h3
  · exact absurd (Nat.le_of_ble_eq_true h3) (by omega)
  · exact h3
theorem tL23 {m : Nat} (h : m ≤ 5000) (h2 : 64 ≤ m) : (bitOk BinOp.shr IntKind.u64 IntKind.u64 (cL m) (Int.ofNat 1) (dL m)) = true := by
  have := below (f := fun m => Nat.blt m 64 || (bitOk BinOp.shr IntKind.u64 IntKind.u64 (cL m) (Int.ofNat 1) (dL m))) (n := m) (N := 5001) (by omega) (by kernel_rfl)
  rcases (Bool.or_eq_true _ _).mp this with h3 | h3
  · exact absurd (Nat.le_of_ble_eq_true h3) (by omega)
  · exact h3
theorem tL25 {m : Nat} (h : m ≤ 5000) (h2 : 64 ≤ m) : (!decide (IntKind.u8.wrap (Int.ofNat m * 2 ^ 1 / 2 ^ 7) = Int.ofNat 0)) = true := by
  have := below (f := fun m => Nat.blt m 64 || (!decide (IntKind.u8.wrap (Int.ofNat m * 2 ^ 1 / 2 ^ 7) = Int.ofNat 0))) (n := m) (N := 5001) (by omega) (by kernel_rfl)
  rcases (Bool.or_eq_true _ _).mp this with h3 | h3
  · exact absurd (Nat.le_of_ble_eq_true h3) (by omega)
  · exact h3
theorem tL26 {m : Nat} (h : m ≤ 5000) (h2 : 64 ≤ m) : (decide (IntKind.u8.wrap (Int.ofNat m * 2 ^ 1 / 2 ^ 7) < Int.ofNat 128)) = true := by
  have := below (f := fun m => Nat.blt m 64 || (decide (IntKind.u8.wrap (Int.ofNat m * 2 ^ 1 / 2 ^ 7) < Int.ofNat 128))) (n := m) (N := 5001) (by omega) (by kernel_rfl)
  rcases (Bool.or_eq_true _ _).mp this with h3 | h3
  · exact absurd (Nat.le_of_ble_eq_true h3) (by omega)
  · exact h3
theorem tL27 {m : Nat} (h : m ≤ 5000) (h2 : 64 ≤ m) : (bitOk BinOp.or IntKind.u64 IntKind.u64 (Int.ofNat 0 + (IntKind.u8.wrap (Int.ofNat m * 2 ^ 1) % 128 + 128) % 128 * 2 ^ 0) (IntKind.u8.wrap (Int.ofNat m * 2 ^ 1 / 2 ^ 7) % 128 * 2 ^ 7) (cL m)) = true := by
  have := below (f := fun m => Nat.blt m 64 || (bitOk BinOp.or IntKind.u64 IntKind.u64 (Int.ofNat 0 + (IntKind.u8.wrap (Int.ofNat m * 2 ^ 1) % 128 + 128) % 128 * 2 ^ 0) (IntKind.u8.wrap (Int.ofNat m * 2 ^ 1 / 2 ^ 7) % 128 * 2 ^ 7) (cL m))) (n := m) (N := 5001) (by omega) (by kernel_rfl)
  rcases (Bool.or_eq_true _ _).mp this with h3 | h3
  · exact absurd (Nat.le_of_ble_eq_true h3) (by omega)
  · exact h3
theorem tL28 {m : Nat} (h : m ≤ 5000) (h2 : 64 ≤ m) : (bitOk BinOp.shl IntKind.u64 IntKind.i64 (IntKind.u8.wrap (Int.ofNat m * 2 ^ 1 / 2 ^ 7) % 128) (IntKind.i64.wrap (Int.ofNat 7 * IntKind.i64.wrap (Int.ofNat 0 + Int.ofNat 1))) (IntKind.u8.wrap (Int.ofNat m * 2 ^ 1 / 2 ^ 7) % 128 * 2 ^ 7)) = true := by
  have := below (f := fun m => Nat.blt m 64 || (bitOk BinOp.shl IntKind.u64 IntKind.i64 (IntKind.u8.wrap (Int.ofNat m * 2 ^ 1 / 2 ^ 7) % 128) (IntKind.i64.wrap (Int.ofNat 7 * IntKind.i64.wrap (Int.ofNat 0 + Int.ofNat 1))) (IntKind.u8.wrap (Int.ofNat m * 2 ^ 1 / 2 ^ 7) % 128 * 2 ^ 7))) (n := m) (N := 5001) (by omega) (by kernel_rfl)
  rcases (Bool.or_eq_true _ _).mp this with h3 | h3
  · exact absurd (Nat.le_of_ble_eq_true h3) (by omega)
  · exact h3
theorem tL29 {m : Nat} (h : m ≤ 5000) (h2 : 64 ≤ m) : (decide (IntKind.u64.wrap (IntKind.u8.wrap (Int.ofNat m * 2 ^ 1 / 2 ^ 7) % 128) = IntKind.u8.wrap (Int.ofNat m * 2 ^ 1 / 2 ^ 7) % 128)) = true := by
  have := below (f := fun m => Nat.blt m 64 || (decide (IntKind.u64.wrap (IntKind.u8.wrap (Int.ofNat m * 2 ^ 1 / 2 ^ 7) % 128) = IntKind.u8.wrap (Int.ofNat m * 2 ^ 1 / 2 ^ 7) % 128))) (n := m) (N := 5001) (by omega) (by kernel_rfl)
  rcases (Bool.or_eq_true _ _).mp this with h3 | h3
  · exact absurd (Nat.le_of_ble_eq_true h3) (by omega)
  · exact h3
theorem tL30 {m : Nat} (h : m ≤ 5000) (h2 : 64 ≤ m) : (bitOk BinOp.and IntKind.u8 IntKind.u8 (IntKind.u8.wrap (Int.ofNat m * 2 ^ 1 / 2 ^ 7)) (Int.ofNat 127) (IntKind.u8.wrap (Int.ofNat m * 2 ^ 1 / 2 ^ 7) % 128)) = true := by
  have := below (f := fun m => Nat.blt m 64 || (bitOk BinOp.and IntKind.u8 IntKind.u8 (IntKind.u8.wrap (Int.ofNat m * 2 ^ 1 / 2 ^ 7)) (Int.ofNat 127) (IntKind.u8.wrap (Int.ofNat m * 2 ^ 1 / 2 ^ 7) % 128))) (n := m) (N := 5001) (by omega) (by kernel_rfl)
  rcases (Bool.or_eq_true _ _).mp this with h3 | h3
  · exact absurd (Nat.le_of_ble_eq_true h3) (by omega)
  · exact h3
theorem tL31 {m : Nat} (h : m ≤ 5000) (h2 : 64 ≤ m) : (isIntIn IntKind.u8 (some (Value.int IntKind.u8 (IntKind.u8.wrap (Int.ofNat m * 2 ^ 1 / 2 ^ 7))))) = true := by
  have := below (f := fun m => Nat.blt m 64 || (isIntIn IntKind.u8 (some (Value.int IntKind.u8 (IntKind.u8.wrap (Int.ofNat m * 2 ^ 1 / 2 ^ 7)))))) (n := m) (N := 5001) (by omega) (by kernel_rfl)
  rcases (Bool.or_eq_true _ _).mp this with h3 | h3
  · exact absurd (Nat.le_of_ble_eq_true h3) (by omega)
  · exact h3
theorem tL35 {m : Nat} (h : m ≤ 5000) (h2 : 64 ≤ m) : (bitOk BinOp.or IntKind.u64 IntKind.u64 (Int.ofNat 0) ((IntKind.u8.wrap (Int.ofNat m * 2 ^ 1) % 128 + 128) % 128 * 2 ^ 0) (Int.ofNat 0 + (IntKind.u8.wrap (Int.ofNat m * 2 ^ 1) % 128 + 128) % 128 * 2 ^ 0)) = true := by
  have := below (f := fun m => Nat.blt m 64 || (bitOk BinOp.or IntKind.u64 IntKind.u64 (Int.ofNat 0) ((IntKind.u8.wrap (Int.ofNat m * 2 ^ 1) % 128 + 128) % 128 * 2 ^ 0) (Int.ofNat 0 + (IntKind.u8.wrap (Int.ofNat m * 2 ^ 1) % 128 + 128) % 128 * 2 ^ 0))) (n := m) (N := 5001) (by omega) (by kernel_rfl)
  rcases (Bool.or_eq_true _ _).mp this with h3 | h3
  · exact absurd (Nat.le_of_ble_eq_true h3) (by omega)
  · exact h3
theorem tL36 {m : Nat} (h : m ≤ 5000) (h2 : 64 ≤ m) : (bitOk BinOp.shl IntKind.u64 IntKind.i64 ((IntKind.u8.wrap (Int.ofNat m * 2 ^ 1) % 128 + 128) % 128) (IntKind.i64.wrap (Int.ofNat 7 * Int.ofNat 0)) ((IntKind.u8.wrap (Int.ofNat m * 2 ^ 1) % 128 + 128) % 128 * 2 ^ 0)) = true := by
  have := below (f := fun m => Nat.blt m 64 || (bitOk BinOp.shl IntKind.u64 IntKind.i64 ((IntKind.u8.wrap (Int.ofNat m * 2 ^ 1) % 128 + 128) % 128) (IntKind.i64.wrap (Int.ofNat 7 * Int.ofNat 0)) ((IntKind.u8.wrap (Int.ofNat m * 2 ^ 1) % 128 + 128) % 128 * 2 ^ 0))) (n := m) (N := 5001) (by omega) (by kernel_rfl)
  rcases (Bool.or_eq_true _ _).mp this with h3 | h3
  · exact absurd (Nat.le_of_ble_eq_true h3) (by omega)
  · exact h3
theorem tL37 {m : Nat} (h : m ≤ 5000) (h2 : 64 ≤ m) : (decide (IntKind.u64.wrap ((IntKind.u8.wrap (Int.ofNat m * 2 ^ 1) % 128 + 128) % 128) = (IntKind.u8.wrap (Int.ofNat m * 2 ^ 1) % 128 + 128) % 128)) = true := by
  have := below (f := fun m => Nat.blt m 64 || (decide (IntKind.u64.wrap ((IntKind.u8.wrap (Int.ofNat m * 2 ^ 1) % 128 + 128) % 128) = (IntKind.u8.wrap (Int.ofNat m * 2 ^ 1) % 128 + 128) % 128))) (n := m) (N := 5001) (by omega) (by kernel_rfl)
  rcases (Bool.or_eq_true _ _).mp this with h3 | h3
  · exact absurd (Nat.le_of_ble_eq_true h3) (by omega)
  · exact h3
theorem tL38 {m : Nat} (h : m ≤ 5000) (h2 : 64 ≤ m) : (bitOk BinOp.and IntKind.u8 IntKind.u8 (IntKind.u8.wrap (Int.ofNat m * 2 ^ 1) % 128 + 128) (Int.ofNat 127) ((IntKind.u8.wrap (Int.ofNat m * 2 ^ 1) % 128 + 128) % 128)) = true := by
  have := below (f := fun m => Nat.blt m 64 || (bitOk BinOp.and IntKind.u8 IntKind.u8 (IntKind.u8.wrap (Int.ofNat m * 2 ^ 1) % 128 + 128) (Int.ofNat 127) ((IntKind.u8.wrap (Int.ofNat m * 2 ^ 1) % 128 + 128) % 128))) (n := m) (N := 5001) (by omega) (by kernel_rfl)
  rcases (Bool.or_eq_true _ _).mp this with h3 | h3
  · exact absurd (Nat.le_of_ble_eq_true h3) (by omega)
  · exact h3
theorem tL39 {m : Nat} (h : m ≤ 5000) (h2 : 64 ≤ m) : (isIntIn IntKind.u8 (some (Value.int IntKind.u8 (IntKind.u8.wrap (Int.ofNat m * 2 ^ 1) % 128 + 128)))) = true := by
  have := below (f := fun m => Nat.blt m 64 || (isIntIn IntKind.u8 (some (Value.int IntKind.u8 (IntKind.u8.wrap (Int.ofNat m * 2 ^ 1) % 128 + 128))))) (n := m) (N := 5001) (by omega) (by kernel_rfl)
  rcases (Bool.or_eq_true _ _).mp this with h3 | h3
  · exact absurd (Nat.le_of_ble_eq_true h3) (by omega)
  · exact h3
def TLDl (born born2 clock n : Nat) (nb : List UInt8) : List Bool := [bornT [born, born2] clock,
  !decide ((Int.ofNat 0 + intIn (cellL n nb) % 128 * 2 ^ 0) / 2 ^ 1 > Int.ofNat 0),
  bitOk .xor .i64 .i64 ((Int.ofNat 0 + intIn (cellL n nb) % 128 * 2 ^ 0) / 2 ^ 1) (IntKind.wrap .i64 (Int.ofNat 0 - IntKind.wrap .i64 ((Int.ofNat 0 + intIn (cellL n nb) % 128 * 2 ^ 0) % (Int.ofNat 1 + Int.ofNat 1)))) ((Int.ofNat 0 + intIn (cellL n nb) % 128 * 2 ^ 0) / 2 ^ 1),
  bitOk .and .u64 .u64 (Int.ofNat 0 + intIn (cellL n nb) % 128 * 2 ^ 0) (Int.ofNat 1) ((Int.ofNat 0 + intIn (cellL n nb) % 128 * 2 ^ 0) % (Int.ofNat 1 + Int.ofNat 1)),
  decide (IntKind.wrap .i64 ((Int.ofNat 0 + intIn (cellL n nb) % 128 * 2 ^ 0) / 2 ^ 1) = (Int.ofNat 0 + intIn (cellL n nb) % 128 * 2 ^ 0) / 2 ^ 1),
  bitOk .shr .u64 .u64 (Int.ofNat 0 + intIn (cellL n nb) % 128 * 2 ^ 0) (Int.ofNat 1) ((Int.ofNat 0 + intIn (cellL n nb) % 128 * 2 ^ 0) / 2 ^ 1),
  true && (true && (true && ((4 + nb.length + 1 - 4 - (dL nb.length).toNat).ble (capLow (2 * (4 + nb.length + 1) + 1 - 8 - 2 * (dL nb.length).toNat)) && (Nat.ble 1 (4 + nb.length + 1 - 4 - (dL nb.length).toNat) && ((!isOpen (2 * (4 + nb.length + 1) + 1 - 8 - 2 * (dL nb.length).toNat) && true || !Nat.beq 1 0) && ((capLow (2 * (4 + nb.length + 1) + 1 - 8 - 2 * (dL nb.length).toNat)).beq 1 && isOpen (2 * (4 + nb.length + 1) + 1 - 8 - 2 * (dL nb.length).toNat))))))),
  decide (intIn (cellL n nb) = Int.ofNat 0),
  decide (intIn (cellL n nb) < Int.ofNat 128),
  bitOk .or .u64 .u64 (Int.ofNat 0) (intIn (cellL n nb) % 128 * 2 ^ 0) (Int.ofNat 0 + intIn (cellL n nb) % 128 * 2 ^ 0),
  bitOk .shl .u64 .i64 (intIn (cellL n nb) % 128) (IntKind.wrap .i64 (Int.ofNat 7 * Int.ofNat 0)) (intIn (cellL n nb) % 128 * 2 ^ 0),
  decide (IntKind.wrap .u64 (intIn (cellL n nb) % 128) = intIn (cellL n nb) % 128),
  bitOk .and .u8 .u8 (intIn (cellL n nb)) (Int.ofNat 127) (intIn (cellL n nb) % 128),
  isIntIn .u8 (cellL n nb),
  true && decide (Int.ofNat 0 < (((4 + nb.length + 1 - 4 - (dL nb.length).toNat) : Nat) : Int)),
  decide (Int.ofNat 0 < (((4 + nb.length + 1 - 4 - (dL nb.length).toNat) : Nat) : Int)),
  true && (true && (true && ((4 + nb.length + 1 - 4).ble (capLow (2 * (4 + nb.length + 1) + 1 - 8)) && ((dL nb.length).toNat.ble (4 + nb.length + 1 - 4) && ((!isOpen (2 * (4 + nb.length + 1) + 1 - 8) || (dL nb.length).toNat.beq 0 || !Nat.beq 1 0) && !(capLow (2 * (4 + nb.length + 1) + 1 - 8)).beq (dL nb.length).toNat))))),
  true && (true && (true && (true && ((dL nb.length).toNat.ble (capLow (2 * (4 + nb.length + 1) + 1 - 8)) && ((dL nb.length).toNat.ble (dL nb.length).toNat && (Nat.ble 0 (dL nb.length).toNat && (true && !(dL nb.length).toNat.beq 0))))))),
  decide ((if (((4 + nb.length + 1 - 4) : Nat) : Int) < dL nb.length then (((4 + nb.length + 1 - 4) : Nat) : Int) else dL nb.length) = dL nb.length),
  decide (dL nb.length = dL nb.length),
  bitOk .xor .i64 .i64 (dL nb.length) (IntKind.wrap .i64 (Int.ofNat 0 - IntKind.wrap .i64 ((cL nb.length) % (Int.ofNat 1 + Int.ofNat 1)))) (dL nb.length),
  bitOk .and .u64 .u64 (cL nb.length) (Int.ofNat 1) ((cL nb.length) % (Int.ofNat 1 + Int.ofNat 1)),
  decide (IntKind.wrap .i64 (dL nb.length) = dL nb.length),
  bitOk .shr .u64 .u64 (cL nb.length) (Int.ofNat 1) (dL nb.length),
  true && (true && (true && ((4 + nb.length + 1 - 2).ble (capLow (2 * (4 + nb.length + 1) + 1 - 4)) && (Nat.ble 2 (4 + nb.length + 1 - 2) && ((!isOpen (2 * (4 + nb.length + 1) + 1 - 4) && true || !Nat.beq 1 0) && !(capLow (2 * (4 + nb.length + 1) + 1 - 4)).beq 2))))),
  !decide (IntKind.wrap .u8 (Int.ofNat nb.length * 2 ^ 1 / 2 ^ 7) = Int.ofNat 0),
  decide (IntKind.wrap .u8 (Int.ofNat nb.length * 2 ^ 1 / 2 ^ 7) < Int.ofNat 128),
  bitOk .or .u64 .u64 (Int.ofNat 0 + (IntKind.wrap .u8 (Int.ofNat nb.length * 2 ^ 1) % 128 + 128) % 128 * 2 ^ 0) (IntKind.wrap .u8 (Int.ofNat nb.length * 2 ^ 1 / 2 ^ 7) % 128 * 2 ^ 7) (cL nb.length),
  bitOk .shl .u64 .i64 (IntKind.wrap .u8 (Int.ofNat nb.length * 2 ^ 1 / 2 ^ 7) % 128) (IntKind.wrap .i64 (Int.ofNat 7 * IntKind.wrap .i64 (Int.ofNat 0 + Int.ofNat 1))) (IntKind.wrap .u8 (Int.ofNat nb.length * 2 ^ 1 / 2 ^ 7) % 128 * 2 ^ 7),
  decide (IntKind.wrap .u64 (IntKind.wrap .u8 (Int.ofNat nb.length * 2 ^ 1 / 2 ^ 7) % 128) = IntKind.wrap .u8 (Int.ofNat nb.length * 2 ^ 1 / 2 ^ 7) % 128),
  bitOk .and .u8 .u8 (IntKind.wrap .u8 (Int.ofNat nb.length * 2 ^ 1 / 2 ^ 7)) (Int.ofNat 127) (IntKind.wrap .u8 (Int.ofNat nb.length * 2 ^ 1 / 2 ^ 7) % 128),
  isIntIn .u8 (some (.int .u8 (IntKind.wrap .u8 (Int.ofNat nb.length * 2 ^ 1 / 2 ^ 7)))),
  true && decide (IntKind.wrap .i64 (Int.ofNat 0 + Int.ofNat 1) < (((4 + nb.length + 1 - 2) : Nat) : Int)),
  decide (IntKind.wrap .i64 (Int.ofNat 0 + Int.ofNat 1) < (((4 + nb.length + 1 - 2) : Nat) : Int)),
  true,
  bitOk .or .u64 .u64 (Int.ofNat 0) ((IntKind.wrap .u8 (Int.ofNat nb.length * 2 ^ 1) % 128 + 128) % 128 * 2 ^ 0) (Int.ofNat 0 + (IntKind.wrap .u8 (Int.ofNat nb.length * 2 ^ 1) % 128 + 128) % 128 * 2 ^ 0),
  bitOk .shl .u64 .i64 ((IntKind.wrap .u8 (Int.ofNat nb.length * 2 ^ 1) % 128 + 128) % 128) (IntKind.wrap .i64 (Int.ofNat 7 * Int.ofNat 0)) ((IntKind.wrap .u8 (Int.ofNat nb.length * 2 ^ 1) % 128 + 128) % 128 * 2 ^ 0),
  decide (IntKind.wrap .u64 ((IntKind.wrap .u8 (Int.ofNat nb.length * 2 ^ 1) % 128 + 128) % 128) = (IntKind.wrap .u8 (Int.ofNat nb.length * 2 ^ 1) % 128 + 128) % 128),
  bitOk .and .u8 .u8 (IntKind.wrap .u8 (Int.ofNat nb.length * 2 ^ 1) % 128 + 128) (Int.ofNat 127) ((IntKind.wrap .u8 (Int.ofNat nb.length * 2 ^ 1) % 128 + 128) % 128),
  isIntIn .u8 (some (.int .u8 (IntKind.wrap .u8 (Int.ofNat nb.length * 2 ^ 1) % 128 + 128))),
  true && decide (Int.ofNat 0 < (((4 + nb.length + 1 - 2) : Nat) : Int)),
  decide (Int.ofNat 0 < (((4 + nb.length + 1 - 2) : Nat) : Int)),
  bitOk .xor .i64 .i64 (Int.ofNat 0) (IntKind.wrap .i64 (Int.ofNat 0 - IntKind.wrap .i64 (Int.ofNat 0 % (Int.ofNat 1 + Int.ofNat 1)))) (Int.ofNat 0),
  bitOk .and .u64 .u64 (Int.ofNat 0 + Int.ofNat 0) (Int.ofNat 1) (Int.ofNat 0 % (Int.ofNat 1 + Int.ofNat 1)),
  decide (IntKind.wrap .i64 (Int.ofNat 0 / Int.ofNat 2 ^ (Int.ofNat 1).toNat) = Int.ofNat 0),
  bitOk .shr .u64 .u64 (Int.ofNat 0 + Int.ofNat 0) (Int.ofNat 1) (Int.ofNat 0 / Int.ofNat 2 ^ (Int.ofNat 1).toNat),
  true && (true && (true && ((4 + nb.length + 1 - 1).ble (capLow (2 * (4 + nb.length + 1) + 1 - 2)) && (Nat.ble 1 (4 + nb.length + 1 - 1) && ((!isOpen (2 * (4 + nb.length + 1) + 1 - 2) && true || !Nat.beq 1 0) && !(capLow (2 * (4 + nb.length + 1) + 1 - 2)).beq 1))))),
  true,
  true,
  bitOk .or .u64 .u64 (Int.ofNat 0) (Int.ofNat 0 * Int.ofNat 2 ^ (Int.ofNat 0).toNat) (Int.ofNat 0 + Int.ofNat 0),
  bitOk .shl .u64 .i64 (Int.ofNat 0) (IntKind.wrap .i64 (Int.ofNat 7 * Int.ofNat 0)) (Int.ofNat 0 * Int.ofNat 2 ^ (Int.ofNat 0).toNat),
  decide (IntKind.wrap .u64 (Int.ofNat 0 % (Int.ofNat 127 + Int.ofNat 1)) = Int.ofNat 0),
  bitOk .and .u8 .u8 (Int.ofNat 0) (Int.ofNat 127) (Int.ofNat 0 % (Int.ofNat 127 + Int.ofNat 1)),
  isIntIn .u8 (some (.int .u8 (Int.ofNat 0))),
  true && decide (Int.ofNat 0 < (((4 + nb.length + 1 - 1) : Nat) : Int)),
  decide (Int.ofNat 0 < (((4 + nb.length + 1 - 1) : Nat) : Int)),
  bitOk .xor .i64 .i64 ((Int.ofNat 0 + IntKind.wrap .u8 (Int.ofNat n * 2 ^ 1) % 128 * 2 ^ 0) / 2 ^ 1) (IntKind.wrap .i64 (Int.ofNat 0 - IntKind.wrap .i64 ((Int.ofNat 0 + IntKind.wrap .u8 (Int.ofNat n * 2 ^ 1) % 128 * 2 ^ 0) % (Int.ofNat 1 + Int.ofNat 1)))) ((Int.ofNat 0 + IntKind.wrap .u8 (Int.ofNat n * 2 ^ 1) % 128 * 2 ^ 0) / 2 ^ 1),
  bitOk .and .u64 .u64 (Int.ofNat 0 + IntKind.wrap .u8 (Int.ofNat n * 2 ^ 1) % 128 * 2 ^ 0) (Int.ofNat 1) ((Int.ofNat 0 + IntKind.wrap .u8 (Int.ofNat n * 2 ^ 1) % 128 * 2 ^ 0) % (Int.ofNat 1 + Int.ofNat 1)),
  decide (IntKind.wrap .i64 ((Int.ofNat 0 + IntKind.wrap .u8 (Int.ofNat n * 2 ^ 1) % 128 * 2 ^ 0) / 2 ^ 1) = (Int.ofNat 0 + IntKind.wrap .u8 (Int.ofNat n * 2 ^ 1) % 128 * 2 ^ 0) / 2 ^ 1),
  bitOk .shr .u64 .u64 (Int.ofNat 0 + IntKind.wrap .u8 (Int.ofNat n * 2 ^ 1) % 128 * 2 ^ 0) (Int.ofNat 1) ((Int.ofNat 0 + IntKind.wrap .u8 (Int.ofNat n * 2 ^ 1) % 128 * 2 ^ 0) / 2 ^ 1),
  true && (true && (true && ((4 + nb.length + 1).ble (capLow (2 * (4 + nb.length + 1) + 1)) && (Nat.ble 1 (4 + nb.length + 1) && ((!isOpen (2 * (4 + nb.length + 1) + 1) && true || !Nat.beq 1 0) && !(capLow (2 * (4 + nb.length + 1) + 1)).beq 1))))),
  !decide (IntKind.wrap .u8 (Int.ofNat n * 2 ^ 1) = Int.ofNat 0),
  decide (IntKind.wrap .u8 (Int.ofNat n * 2 ^ 1) < Int.ofNat 128),
  bitOk .or .u64 .u64 (Int.ofNat 0) (IntKind.wrap .u8 (Int.ofNat n * 2 ^ 1) % 128 * 2 ^ 0) (Int.ofNat 0 + IntKind.wrap .u8 (Int.ofNat n * 2 ^ 1) % 128 * 2 ^ 0),
  bitOk .shl .u64 .i64 (IntKind.wrap .u8 (Int.ofNat n * 2 ^ 1) % 128) (IntKind.wrap .i64 (Int.ofNat 7 * Int.ofNat 0)) (IntKind.wrap .u8 (Int.ofNat n * 2 ^ 1) % 128 * 2 ^ 0),
  decide (IntKind.wrap .u64 (IntKind.wrap .u8 (Int.ofNat n * 2 ^ 1) % 128) = IntKind.wrap .u8 (Int.ofNat n * 2 ^ 1) % 128),
  bitOk .and .u8 .u8 (IntKind.wrap .u8 (Int.ofNat n * 2 ^ 1)) (Int.ofNat 127) (IntKind.wrap .u8 (Int.ofNat n * 2 ^ 1) % 128),
  isIntIn .u8 (some (.int .u8 (IntKind.wrap .u8 (Int.ofNat n * 2 ^ 1)))),
  true && decide (Int.ofNat 0 < (((4 + nb.length + 1) : Nat) : Int)),
  decide (Int.ofNat 0 < (((4 + nb.length + 1) : Nat) : Int)),
  !(4 + nb.length + 1).beq 0 && (manVl n nb).length.beq ((4 + nb.length + 1) * 1) && (!(0 + (4 + nb.length + 1)).ble (capLow (2 * 0)) && (((0 + (4 + nb.length + 1)) * 2 * (1 + 1)).ble 140737488355328 && ((manVl n nb).all oneCell && (manVl n nb).length.beq ((4 + nb.length + 1) * 1)))) && (!isOpen (2 * 0) && Nat.beq 0 0),
  true]
theorem runLDl (born born2 clock n : Nat) (nb : List UInt8) :
  ((levO Tryz.prog extS WLDl 300).call 98 #[P 27] (HLDl born born2 clock n nb)).map (fun r => (r.1, r.2.1.gl, r.2.1.next, r.2.1.objs.get 27, [5, 6, 18, 19].map r.2.1.objs.get, r.2.2)) =
  some (I 0, 5, 35, some (.cells .own [P 6, P 20, P 26, .slice none 0 0, I 0, I (((Int.ofNat 0 + (((IntKind.wrap .u8 (Int.ofNat n * 2 ^ 1)) % 128) * 2 ^ 0)) / 2 ^ 1)), .slice (some ⟨29, 4, none⟩) (Int.toNat (dL nb.length)) (2 * (Int.toNat (dL nb.length))), .map none, .bool false] 118), [some (.map [walE born, manE born2] clock), some (.cells .own [.map (some 5), I 1073741824, I (-1), .bool false] 140), some (.cells .own [S 19 (4 + nb.length + 1), I (((4 + nb.length + 1) : Nat) : Int)] 143), some (.cells (.open_ 1) (manVl n nb) 5)], TLDl born born2 clock n nb) := by kernel_rfl
theorem testsLDl (born born2 clock n : Nat) (nb : List UInt8) (hb : born < clock) (hb2 : born2 < clock) (hbb : born ≠ born2) (hn : n ≤ 60) (h0 : 0 < n) (hx2 : nb.length ≤ 5000) (hx : 64 ≤ nb.length) : allT (TLDl born born2 clock n nb) := by
  intro b hb
  simp only [TLDl, List.mem_cons, List.not_mem_nil, or_false] at hb
  rcases hb with hb | hb | hb | hb | hb | hb | hb | hb | hb | hb | hb | hb | hb | hb | hb | hb | hb | hb | hb | hb | hb | hb | hb | hb | hb | hb | hb | hb | hb | hb | hb | hb | hb | hb | hb | hb | hb | hb | hb | hb | hb | hb | hb | hb | hb | hb | hb | hb | hb | hb | hb | hb | hb | hb | hb | hb | hb | hb | hb | hb | hb | hb | hb | hb | hb | hb | hb | hb | hb | hb | hb | hb <;> refine hb.trans ?_ <;> clear hb <;>
  first
  | with_reducible rfl
  | with_reducible exact isSame_refl _
  | decide +kernel
  | (revert n; decide +kernel)
  | (rw [lastl hx2]; decide +kernel)
  | (rw [show IntKind.i64.wrap (Int.ofNat 0 + Int.ofNat 1) = 1 from by decide]; simp only [Bool.and_eq_true, Bool.or_eq_true, Bool.not_eq_true', beq_t, beq_f, ble_t, ble_f, capLow, isOpen, decide_eq_true_eq, Int.ofNat_eq_natCast, and_true, true_and, or_true, Int.toNat_natCast, Bool.and_self, Bool.not_false, Bool.not_true]; omega)
  | with_reducible exact tL20 hx2 hx
  | with_reducible exact tL21 hx2 hx
  | with_reducible exact tL22 hx2 hx
  | with_reducible exact tL23 hx2 hx
  | with_reducible exact tL25 hx2 hx
  | with_reducible exact tL26 hx2 hx
  | with_reducible exact tL27 hx2 hx
  | with_reducible exact tL28 hx2 hx
  | with_reducible exact tL29 hx2 hx
  | with_reducible exact tL30 hx2 hx
  | with_reducible exact tL31 hx2 hx
  | with_reducible exact tL35 hx2 hx
  | with_reducible exact tL36 hx2 hx
  | with_reducible exact tL37 hx2 hx
  | with_reducible exact tL38 hx2 hx
  | with_reducible exact tL39 hx2 hx
  | (rw [dMl hx2]; simp only [Bool.and_eq_true, Bool.or_eq_true, Bool.not_eq_true', beq_t, beq_f, ble_t, ble_f, capLow, isOpen, decide_eq_true_eq, Int.ofNat_eq_natCast, and_true, true_and, or_true, Int.toNat_natCast, Bool.and_self, Bool.not_false, Bool.not_true]; omega)
  | (simp only [dMl hx2, Bool.and_eq_true, Bool.or_eq_true, Bool.not_eq_true', beq_t, beq_f, ble_t, ble_f, capLow, isOpen, decide_eq_true_eq, Int.ofNat_eq_natCast, and_true, true_and, or_true, Int.toNat_natCast, Bool.and_self, Bool.not_false, Bool.not_true]; omega)
  | (rw [dMl hx2]; simp only [Int.ofNat_eq_natCast, decide_eq_true_eq]; split <;> omega)
  | (unfold ltT; rw [decide_eq_true_eq]; (try simp only [Int.ofNat_eq_natCast]); omega)
  | (unfold bornT; simp <;> omega)
  | (simp only [wrapM, decide_true, Bool.not_eq_true', decide_eq_true_eq, decide_eq_false_iff_not, Int.ofNat_eq_natCast, gt_iff_lt]; omega)
  | (simp only [bun, capLow, isOpen, oneCell]; omega)
  | (simp only [wrapM, Int.ofNat_eq_natCast, decide_eq_true_eq]; split <;> omega)
  | (simp only [wrapM, Int.ofNat_eq_natCast, decide_eq_true_eq, gt_iff_lt]; (repeat' split) <;> omega)
  | (first | exact z1 (by omega) | exact z2 (by omega) | exact z3 (by omega) | exact z4 (by omega) | exact z5 (by omega) | exact z6 (by omega))
  | (simp [beq_t]; done)
  | rfl
def conLDl (born born2 clock n : Nat) (nb : List UInt8) : Con := ⟨98, 28, 5, [P 27], [(27, .cells .own [P 6, P 20, P 26, .slice none 0 0, I 0, I 0, .slice none 0 0, .map none, .bool false] 118), (5, .map [walE born, manE born2] clock), (6, .cells .own [.map (some 5), I 1073741824, I (-1), .bool false] 140), (18, .cells .own [S 19 (4 + nb.length + 1), I (((4 + nb.length + 1) : Nat) : Int)] 143), (19, .cells (.open_ 1) (manVl n nb) 5)], I 0, 35, [(27, .cells .own [P 6, P 20, P 26, .slice none 0 0, I 0, I (n : Nat), .slice (some ⟨29, 4, none⟩) nb.length (2 * nb.length), .map none, .bool false] 118), (5, .map [walE born, manE born2] clock), (6, .cells .own [.map (some 5), I 1073741824, I (-1), .bool false] 140), (18, .cells .own [S 19 (4 + nb.length + 1), I (((4 + nb.length + 1) : Nat) : Int)] 143), (19, .cells (.open_ 1) (manVl n nb) 5)]⟩
theorem conLDl_ok (born born2 clock n : Nat) (nb : List UInt8) (hb : born < clock) (hb2 : born2 < clock) (hbb : born ≠ born2) (hn : n ≤ 60) (h0 : 0 < n) (hx2 : nb.length ≤ 5000) (hx : 64 ≤ nb.length) : Con.Ok Tryz.prog (conLDl born born2 clock n nb) := by
  have hr := runLDl born born2 clock n nb
  cases hc : ((levO Tryz.prog extS WLDl 300).call 98 #[P 27] (HLDl born born2 clock n nb)) with
  | none => rw [hc] at hr; cases hr
  | some r =>
    obtain ⟨v, K, ts⟩ := r
    rw [hc] at hr
    simp only [Option.map_some, Option.some.injEq, Prod.mk.injEq, List.map_cons, List.map_nil, List.cons.injEq, and_true] at hr
    obtain ⟨rfl, hgl, hnx, h27, ⟨h5, h6, h18, h19⟩, rfl⟩ := hr
    rw [dN hn, dMl hx2] at h27
    exact Con.ok_of_run (c := conLDl born born2 clock n nb) mixedO extS_ok 300 hc (testsLDl born born2 clock n nb hb hb2 hbb hn h0 hx2 hx) hnx hgl (fun x hx => by
      simp only [conLDl, List.mem_cons, List.not_mem_nil, or_false] at hx
      rcases hx with rfl | rfl | rfl | rfl | rfl
      · exact h27
      · exact h5
      · exact h6
      · exact h18
      · exact h19) (by first | (simp [Con.fits, conLDl]; done) | (simp [Con.fits, conLDl]; rfl))
end Go.Proofs.YtabpbpdhapaffaaGreatDoor
end
section

end
section
set_option maxRecDepth 100000
namespace Go.Proofs.YtabpbpdhapaffaaGreatDoor
open Go.Vi
def WEA2l : Word := fun o _ => match o.dst with
  | some 35 => bif o.pos == "engine.go:78" then some 0 else none
  | _ => none
noncomputable def SEA2l (born born2 clock first : Nat) (es : List (List UInt8)) (nb : List UInt8) : St := ⟨argsT [P 6] 0 .nil, [], heapOf 20 5 (disk96 [walE born, manE born2] clock first (frms es) ++ [(18, .cells .own [S 19 (4 + nb.length + 1), I (((4 + nb.length + 1) : Nat) : Int)] 143), (19, .cells (.open_ 1) (manVl first nb) 5)])⟩
def LEA2l (born born2 clock first : Nat) (es : List (List UInt8)) (nb : List UInt8) : List (Nat × Slot) := [(0, .val (P 6)), (2, .top), (3, .top), (4, .val (P 20)), (5, .top), (6, .val (P 27)), (7, .top), (8, .val (I (first : Nat))), (11, .val (.tuple #[P 20, I 0])), (12, .top), (13, .val (.tuple #[P 20, I 0])), (14, .top), (15, .top), (16, .top), (17, .bool false), (19, .top), (20, .top), (21, .top), (22, .val (.agg #[P 6, P 20, P 26, .slice none 0 0, I 0, I 0, .slice none 0 0, .map none, .bool false])), (23, .top), (24, .top), (25, .top), (26, .top), (27, .bool false), (29, .top), (30, .top), (31, .top), (32, .top), (33, .top), (34, .top), (35, .top)]
noncomputable def TEA2l (born born2 clock first : Nat) (es : List (List UInt8)) (nb : List UInt8) : List Bool := [decide ((first : Int) = (first : Int)) && (decide ((first : Int) = (first : Int)) && true) && true,
  decide ((if (first : Int) > (first : Int) then (first : Int) else (first : Int)) = (first : Int)),
  twice (P 27),
  Nat.beq 5 5,
  twice (some (AObj.cells .own [P 6, P 20, P 26, .slice none 0 0, I 0, I 0, .slice none 0 0, .map none, .bool false] 118)),
  twice (some (AObj.map [walE born, manE born2] clock)),
  twice (some (AObj.cells .own [.map (some 5), I 1073741824, .int .i64 (Int.negSucc 0), .bool false] 140)),
  twice (some (AObj.cells .own [S 19 (4 + nb.length + 1), I (((4 + nb.length + 1) : Nat) : Int)] 143)),
  twice (some (AObj.cells (.open_ 1) (manVl first nb) 5)),
  twice (P 6),
  Nat.beq 5 5,
  twice (some (AObj.map [walE born, manE born2] clock)),
  twice (some (AObj.cells .own [.map (some 5), I 1073741824, .int .i64 (Int.negSucc 0), .bool false] 140)),
  twice (some (AObj.cells .own [S 14 ((frms es).length + 12), I ((((frms es).length + 12) : Nat) : Int)] 143)),
  twice (some (AObj.cells (.open_ 1) (byteVals (hd first ++ frms es)) 5))]
theorem runEA2l (born born2 clock first : Nat) (es : List (List UInt8)) (nb : List UInt8) :
  (codeO Tryz.prog WEA2l (levX Tryz.prog (extS.with [conWO [walE born, manE born2] clock first es, conLDl born born2 clock first nb]).ext 300) (levO Tryz.prog (extS.with [conWO [walE born, manE born2] clock first es, conLDl born born2 clock first nb]) WEA2l 300) none 52 (Code.ahead p34 c34) (SEA2l born born2 clock first es nb)).map (fun r => (r.1, r.2.1.ds, r.2.1.h.gl, [20, 22, 24, 25, 26, 27, 5, 6, 13, 14, 18, 19].map r.2.1.h.objs.get, [0, 4, 6, 8, 11, 13, 22].map (fun t => (r.2.1.tm.get t).getD Go.undef), (LEA2l born born2 clock first es nb).all (fun x => x.2.fits ((r.2.1.tm.get x.1).getD Go.undef)), (List.range 52).all (fun t => ((LEA2l born born2 clock first es nb).any fun x => Nat.beq x.1 t) || Slot.undef.fits ((r.2.1.tm.get t).getD Go.undef)), r.2.2)) =
  some (.normal, [], 5, [
    some (.cells .own [P 6, I (first : Nat), S 24 es.length, I ((((frms es).length + 12) : Nat) : Int), .bool false] 219),
    some (.cells (.open_ 1) (byteVals (hd first ++ frms es)) 5),
    some (.cells (.open_ 1) (ents ((frms es).length + 12) 12 es) 57),
    some (.map [] 0),
    some (.cells .own [I 9223372036854775807, I 0, .map (some 25)] 216),
    some (.cells .own [P 6, P 20, P 26, .slice none 0 0, I 0, I (first : Nat), .slice (some ⟨29, 4, none⟩) nb.length (2 * nb.length), .map none, .bool false] 118),
    some (.map [⟨.string "wal".toUTF8, P 13, born⟩, ⟨.string "manifest".toUTF8, P 18, born2⟩] clock),
    some (.cells .own [.map (some 5), I 1073741824, I (-1), .bool false] 140),
    some (.cells .own [S 14 ((frms es).length + 12), I ((((frms es).length + 12) : Nat) : Int)] 143),
    some (.cells (.open_ 1) (byteVals (hd first ++ frms es)) 5),
    some (.cells .own [S 19 (4 + nb.length + 1), I (((4 + nb.length + 1) : Nat) : Int)] 143),
    some (.cells (.open_ 1) (manVl first nb) 5)], [P 6, P 20, P 27, I (first : Nat), .tuple #[P 20, I 0], .tuple #[P 20, I 0], .agg #[P 6, P 20, P 26, .slice none 0 0, I 0, I 0, .slice none 0 0, .map none, .bool false]], true, true, TEA2l born born2 clock first es nb) := by kernel_rfl
theorem testsEA2l (born born2 clock first : Nat) (es : List (List UInt8)) (nb : List UInt8) (hb : born < clock) (hb2 : born2 < clock) (hbb : born ≠ born2) : allT (TEA2l born born2 clock first es nb) := by
  intro b hb
  simp only [TEA2l, List.mem_cons, List.not_mem_nil, or_false] at hb
  rcases hb with hb | hb | hb | hb | hb | hb | hb | hb | hb | hb | hb | hb | hb | hb | hb <;> refine hb.trans ?_ <;> clear hb <;>
  first
  | with_reducible rfl
  | with_reducible exact isSame_refl _
  | with_reducible exact twice_ok _
  | (unfold ltT; rw [decide_eq_true_eq]; (try simp only [Int.ofNat_eq_natCast]); omega)
  | (unfold bornT; simp <;> omega)
  | (simp only [wrapM, decide_true, Bool.not_eq_true', decide_eq_true_eq, decide_eq_false_iff_not, Int.ofNat_eq_natCast, gt_iff_lt]; omega)
  | (simp only [bun, capLow, isOpen, oneCell]; omega)
  | (simp only [wrapM, Int.ofNat_eq_natCast, decide_eq_true_eq]; split <;> omega)
  | (simp only [wrapM, Int.ofNat_eq_natCast, decide_eq_true_eq, gt_iff_lt]; (repeat' split) <;> omega)
  | (first | exact z1 (by omega) | exact z2 (by omega) | exact z3 (by omega) | exact z4 (by omega) | exact z5 (by omega) | exact z6 (by omega))
  | (simp [beq_t]; done)
  | rfl
theorem gotEA2l (born born2 clock first : Nat) (es : List (List UInt8)) (nb : List UInt8)  :
  ∃ M, codeO Tryz.prog WEA2l (levX Tryz.prog (extS.with [conWO [walE born, manE born2] clock first es, conLDl born born2 clock first nb]).ext 300) (levO Tryz.prog (extS.with [conWO [walE born, manE born2] clock first es, conLDl born born2 clock first nb]) WEA2l 300) none 52 (Code.ahead p34 c34) (SEA2l born born2 clock first es nb) = some (.normal, M, TEA2l born born2 clock first es nb) ∧ GenT 52 (pairs 5 [(5, 5), (6, 6), (7, 7), (8, 8), (9, 9), (10, 10), (11, 11), (12, 12), (13, 13), (14, 14), (15, 15), (16, 16), (17, 17), (18, 18), (19, 19), (20, 20), (22, 22), (24, 24), (25, 25), (26, 26), (27, 27)]) M (heapOf 28 5 ([(20, .cells .own [P 6, I (first : Nat), S 24 es.length, I ((((frms es).length + 12) : Nat) : Int), .bool false] 219)] ++ [(22, .cells (.open_ 1) (byteVals (hd first ++ frms es)) 5)] ++ [(24, .cells (.open_ 1) (ents ((frms es).length + 12) 12 es) 57)] ++ [(25, .map [] 0)] ++ [(26, .cells .own [I 9223372036854775807, I 0, .map (some 25)] 216)] ++ [(27, .cells .own [P 6, P 20, P 26, .slice none 0 0, I 0, I (first : Nat), .chan (some 0), .map none, .bool false] 118)] ++ [(5, .map [⟨.string "wal".toUTF8, P 13, born⟩, ⟨.string "manifest".toUTF8, P 18, born2⟩] clock)] ++ [(6, .cells .own [.map (some 5), I 1073741824, I (-1), .bool false] 140)] ++ [(13, .cells .own [S 14 ((frms es).length + 12), I ((((frms es).length + 12) : Nat) : Int)] 143)] ++ [(14, .cells (.open_ 1) (byteVals (hd first ++ frms es)) 5)] ++ [(18, .cells .own [S 19 (4 + nb.length + 1), I (((4 + nb.length + 1) : Nat) : Int)] 143)] ++ [(19, .cells (.open_ 1) (manVl first nb) 5)])) (LEA2l born born2 clock first es nb) := by
  obtain ⟨⟨e, M, ts⟩, hc, h⟩ := Option.map_eq_some_iff.1 (runEA2l born born2 clock first es nb)
  simp only [Prod.mk.injEq, List.map_cons, List.map_nil, List.cons.injEq, and_true] at h
  obtain ⟨rfl, hds, hgl, ⟨h20, h22, h24, h25, h26, h27, h5, h6, h13, h14, h18, h19⟩, ⟨v0, v4, v6, v8, v11, v13, v22⟩, hfit, hall, rfl⟩ := h
  refine ⟨M, hc, Gen.of_pairs hgl (by decide) ?_, hfit, ?_, hall, once_of ?_, hds⟩
  · intro x hm
    simp only [base, fileO, walE, manE, tops, rowO, noneO, List.cons_append, List.nil_append, List.mem_cons, List.not_mem_nil, or_false] at hm
    rcases hm with rfl | rfl | rfl | rfl | rfl | rfl | rfl | rfl | rfl | rfl | rfl | rfl
    · refine fit rfl h20 (OG.own _ ?_) rfl sameFl
      exact LS.ok (by repeat' constructor)
    · refine fit rfl h22 (OG.open_ _ _ ?_) rfl sameFl
      exact LG.bytes _
    · exact fit rfl h24 (OG.open_ _ _ (ents_ok (((frms es).length + 12)) (by rfl) es 12)) rfl sameFl
    · exact fit rfl h25 OG.map0 rfl noFl
    · refine fit rfl h26 (OG.own _ ?_) rfl sameFl
      exact LS.ok (by repeat' constructor)
    · refine fit rfl h27 (OG.own _ ?_) rfl sameFl
      exact LS.ok (by repeat' constructor)
    · exact fit rfl h5 (OG.map2 (VG.string _) (VG.ptr _ rfl) (VG.string _) (VG.ptr _ rfl)) rfl noFl
    · refine fit rfl h6 (OG.own _ ?_) rfl sameFl
      exact LS.ok (by repeat' constructor)
    · refine fit rfl h13 (OG.own _ ?_) rfl sameFl
      exact LS.ok (by repeat' constructor)
    · refine fit rfl h14 (OG.open_ _ _ ?_) rfl sameFl
      exact LG.bytes _
    · refine fit rfl h18 (OG.own _ ?_) rfl sameFl
      exact LS.ok (by repeat' constructor)
    · exact fit rfl h19 (OG.open_ _ _ (LG.manl _ _)) rfl sameFl
  · intro x hx v hv
    simp only [LEA2l, List.mem_cons, List.not_mem_nil, or_false] at hx
    rcases hx with rfl | rfl | rfl | rfl | rfl | rfl | rfl | rfl | rfl | rfl | rfl | rfl | rfl | rfl | rfl | rfl | rfl | rfl | rfl | rfl | rfl | rfl | rfl | rfl | rfl | rfl | rfl | rfl | rfl | rfl | rfl <;> first | (cases hv; done) | (simp only [Slot.val.injEq] at hv; subst hv)
    · simp only [v0]
      first | exact VG.ptr _ rfl | exact VG.slice _ _ _ rfl | exact VG.int _ _ | exact VG.bool _
    · simp only [v4]
      first | exact VG.ptr _ rfl | exact VG.slice _ _ _ rfl | exact VG.int _ _ | exact VG.bool _
    · simp only [v6]
      first | exact VG.ptr _ rfl | exact VG.slice _ _ _ rfl | exact VG.int _ _ | exact VG.bool _
    · simp only [v8]
      first | exact VG.ptr _ rfl | exact VG.slice _ _ _ rfl | exact VG.int _ _ | exact VG.bool _
    · simp only [v11]
      exact VG.tuple (LG.cons (VG.ptr _ rfl) (LG.cons (VG.int _ _) LG.nil))
    · simp only [v13]
      exact VG.tuple (LG.cons (VG.ptr _ rfl) (LG.cons (VG.int _ _) LG.nil))
    · simp only [v22]
      exact VG.agg (LG.cons (VG.ptr _ rfl) (LG.cons (VG.ptr _ rfl) (LG.cons (VG.ptr _ rfl) (LG.cons VG.sliceNil (LG.cons (VG.int _ _) (LG.cons (VG.int _ _) (LG.cons VG.sliceNil (LG.cons VG.mapNil (LG.cons (VG.bool _) LG.nil)))))))))
  · show (List.map (·.1) (LEA2l born born2 clock first es nb)).Nodup
    simp only [LEA2l, List.map_cons, List.map_nil]
    decide
end Go.Proofs.YtabpbpdhapaffaaGreatDoor
end
section
namespace Go.Proofs.YtabpbpdhapaffaaGreatDoor
open Go.Vi
def conE (fs : List MapEntry) (clock first : Nat) (taken : Int) (es : List (List UInt8)) (nv : Value) (o23 : AObj) (ex : List (Nat × AObj)) : Con :=
  ⟨34, 20, 5, [P 6], disk96 fs clock first (frms es) ++ ex, .tuple #[P 27, I 0], 28, (logO first es ++ [(25, .map [] 0), (26, .cells .own [I 9223372036854775807, I 0, .map (some 25)] 216), (27, .cells .own [P 6, P 20, P 26, .slice none 0 0, I 0, I taken, nv, .map none, .bool false] 118)]) ++ disk96 fs clock first (frms es) ++ [(23, o23)] ++ ex⟩
theorem conE1_ok {born clock : Nat} {es : List (List UInt8)} {e : List UInt8} (hl : lastOf es = e) (hne : 0 < es.length) (he : ∀ e ∈ es, e.length ≤ 5000) (hk : es.length ≤ 30) (hT : (frms es).length ≤ 1000000) (hb : born < clock) : Con.Ok Tryz.prog (conE [walE born] clock 0 0 es (nvE e) (o23E e) []) := by
  subst hl
  exact conEO1_ok hne he hk hT hb
theorem conE2_ok {born born2 clock first : Nat} {es : List (List UInt8)} {e nb : List UInt8} (hl : lastOf es = e) (hne : 0 < es.length) (he : ∀ e ∈ es, e.length ≤ 5000) (hk : es.length ≤ 30) (hT : (frms es).length ≤ 1000000) (hb : born < clock) (hb2 : born2 < clock) (hbb : born ≠ born2) (hf : first ≤ 60) (h0 : 0 < first) (hn : nb.length ≤ 5000) :
    Con.Ok Tryz.prog (conE [walE born, manE born2] clock first (first : Nat) es (nvE e) (o23E e) (manO (man first nb).length (byteVals (man first nb)))) := by
  subst hl
  have hw := conWO2_ok (born := born) (born2 := born2) (clock := clock) (first := first) hne he hk hT hf
  have ext {c : Con} (hc : Con.Ok Tryz.prog c) : ExtOk Tryz.prog (extS.with [conWO [walE born, manE born2] clock first es, c]).ext := ExtOk.with extS_ok fun x hx => by
    rcases List.mem_cons.1 hx with rfl | hx
    · exact hw
    · rw [List.mem_singleton.1 hx]; exact hc
  by_cases h1 : nb.length = 0
  · obtain rfl : nb = [] := List.length_eq_zero_iff.1 h1
    rw [mane_length (by omega), mane_vals (by omega)]
    obtain ⟨M, hM, gM⟩ := gotEA2e born born2 clock first es
    exact eo2_of (fun ρ => LG.mane first []) (ext (conLDe_ok born born2 clock first hb hb2 hbb hf h0)) (codeO_ok (levO_ok 300) _ _ _ _ _ hM (testsEA2e born born2 clock first es hb hb2 hbb)) gM hne he hk hf
  · by_cases h2 : nb.length < 64
    · rw [mans_length (by omega) h2, mans_vals (by omega) h2]
      obtain ⟨M, hM, gM⟩ := gotEA2s born born2 clock first es nb
      exact eo2_of (fun ρ => LG.mans first nb) (ext (conLDs_ok born born2 clock first nb hb hb2 hbb hf h0 h2 (by omega))) (codeO_ok (levO_ok 300) _ _ _ _ _ hM (testsEA2s born born2 clock first es nb hb hb2 hbb)) gM hne he hk hf
    · rw [manl_length (by omega) (by omega) hn, manl_vals (by omega) (by omega) hn]
      obtain ⟨M, hM, gM⟩ := gotEA2l born born2 clock first es nb
      exact eo2_of (fun ρ => LG.manl first nb) (ext (conLDl_ok born born2 clock first nb hb hb2 hbb hf h0 hn (by omega))) (codeO_ok (levO_ok 300) _ _ _ _ _ hM (testsEA2l born born2 clock first es nb hb hb2 hbb)) gM hne he hk hf
theorem bytesL_byteVals : ∀ e : List UInt8, bytesL (byteVals e) = some e
  | [] => rfl
  | b :: e => by
    have ih := bytesL_byteVals e
    show (match bytesL (byteVals e) with | some r => some (UInt8.ofNat ((b.toNat : Int)).toNat :: r) | none => none) = _
    rw [ih]
    simp
theorem take_byteVals (e : List UInt8) : List.take e.length (byteVals e) = byteVals e := by
  rw [List.take_of_length_le (by rw [byteVals_length]; omega)]
/-- A string read once more. -/
def reRead (e : List UInt8) : Bool := match (bif Nat.beq e.length 0 then some (Value.string .empty) else ((heapOf 18 5 [(17, .cells (.open_ 1) (byteVals e) 5)]).cells? ⟨17, 0, none⟩ e.length).bind fun l => (bytesL l).map fun r => Value.string ⟨r.toArray⟩) with
  | some v => sameV 20 v (.string ⟨((bytesL (List.take e.length (byteVals e))).getD []).toArray⟩)
  | none => false
theorem reRead_ok {e : List UInt8} (h : 0 < e.length) : reRead e = true := by
  have h0 : Nat.beq e.length 0 = false := by rw [beq_f]; omega
  have hc : (heapOf 18 5 [(17, .cells (.open_ 1) (byteVals e) 5)]).cells? ⟨17, 0, none⟩ e.length = some (byteVals e) := by
    have hc0 : (heapOf 18 5 [(17, .cells (.open_ 1) (byteVals e) 5)]).cells? ⟨17, 0, none⟩ e.length = (bif Nat.beq (List.take e.length (byteVals e)).length e.length then some (List.take e.length (byteVals e)) else none) := by kernel_rfl
    rw [hc0, take_byteVals, byteVals_length, Nat.beq_refl]; rfl
  rw [reRead, h0, cond_false, hc, take_byteVals]
  simp only [Option.bind_some, bytesL_byteVals, Option.map_some, Option.getD_some, sameV, decide_true]
/-- The two strings are alike. -/
def eqStr (e : List UInt8) : Bool := ByteArray.toList ⟨((bytesL (List.take e.length (byteVals e))).getD []).toArray⟩ == ByteArray.toList ⟨((bytesL (List.take e.length (byteVals e))).getD []).toArray⟩
theorem eqStr_ok (e : List UInt8) : eqStr e = true := beq_self_eq_true _
theorem ents_tops {ρ : Nat → Option Nat} (t off : Nat) (es : List (List UInt8)) : LG ρ (List.replicate es.length (.chan (some 0))) (ents t off es) :=
  LG.tops _ (by rw [ents_length]) fun v hv => by
    have : ∀ (es : List (List UInt8)) (off : Nat), ∀ v ∈ ents t off es, topOk v = true := by
      intro es
      induction es with
      | nil => intro off v hv; cases hv
      | cons x es ih =>
        intro off v hv
        rcases List.mem_cons.1 hv with rfl | hv
        · rfl
        · exact ih _ v hv
    exact this es off v hv
theorem hlen (f : Nat) (es : List (List UInt8)) : (hd f ++ frms es).length = (frms es).length + 12 := by rw [List.length_append, hd_length, Nat.add_comm]
end Go.Proofs.YtabpbpdhapaffaaGreatDoor
end
