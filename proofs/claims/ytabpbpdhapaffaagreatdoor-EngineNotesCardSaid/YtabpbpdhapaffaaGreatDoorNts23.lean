/-
  EngineNotes returns true whatever the notes and what stands between them, part 23: GrN2nez, GrLV2, GrF1e, GrF1s. Conditions: none but those of the row.
-/
import Derived.Test.YtabpbpdhapaffaaGreatDoorNts12
import Derived.Test.YtabpbpdhapaffaaGreatDoorNts19
import Derived.Test.YtabpbpdhapaffaaGreatDoorNts20
import Derived.Test.YtabpbpdhapaffaaGreatDoorNts21
import Derived.Test.YtabpbpdhapaffaaGreatDoorNts22
set_option linter.unusedSimpArgs false
set_option linter.unusedVariables false
section
set_option maxRecDepth 100000
namespace Go.Proofs.YtabpbpdhapaffaaGreatDoor
open Go.Vi
def WN2nez : Word := fun o _ => match o.dst with
  | some 14 => bif o.pos == "wal.go:98" then some 2 else none
  | some 25 => bif o.pos == "engine.go:218" then some 3 else none
  | some 26 => bif o.pos == "engine.go:218" then some 0 else none
  | some 28 => bif o.pos == "wal.go:118" then some 0 else none
  | some 47 => bif o.pos == "disk.go:76" then some 3 else none
  | some 48 => bif o.pos == "disk.go:76" then some 0 else none
  | some 49 => bif o.pos == "disk.go:76" then some 0 else none
  | some 50 => bif o.pos == "wal.go:141" then some 2 else none
  | some 58 => bif o.pos == "disk.go:77" then some 12 else none
  | _ => none

def HN2nez (wb mb : List UInt8) (clock born born2 : Nat) (first taken : Int) (nv : Value) (o16 : AObj) : AHeap := heapOf 20 5 ([(17, noneO)] ++ (fileO 13 (wb)) ++ (fileO 18 (mb)) ++ [(16, o16)] ++ (base [walE born, manE born2] clock (E 17) (first) (.slice none 0 0) ((wb.length : Nat)) (taken) (nv)))
def TN2nez (wb mb : List UInt8) (clock born born2 : Nat) (first taken : Int) (nv : Value) (o16 : AObj) : List Bool := [true,
  true,
  decide (IntKind.wrap .i64 (Int.ofNat (wb.length + (4 + (1 + 0)))) = Int.ofNat (wb.length + (4 + (1 + 0)))),
  Nat.beq 14 14 && Nat.beq 0 0 && true && true && wb.length.beq wb.length && (2 * wb.length + 1).beq (2 * wb.length + 1) && true && true,
  !(5 - 0).beq 0 && [Value.int .u8 (Int.ofNat 0), Value.int .u8 (Int.ofNat 0), Value.int .u8 (Int.ofNat 0), Value.int .u8 (Int.ofNat 1), Value.int .u8 (Int.ofNat 6)].length.beq ((5 - 0) * 1) && (!(wb.length + (4 + (1 + 0))).ble (capLow (2 * wb.length + 1)) && (((wb.length + (4 + (1 + 0))) * 2 * (1 + 1)).ble 140737488355328 && ([Value.int .u8 (Int.ofNat 0), Value.int .u8 (Int.ofNat 0), Value.int .u8 (Int.ofNat 0), Value.int .u8 (Int.ofNat 1), Value.int .u8 (Int.ofNat 6)].all oneCell && [Value.int .u8 (Int.ofNat 0), Value.int .u8 (Int.ofNat 0), Value.int .u8 (Int.ofNat 0), Value.int .u8 (Int.ofNat 1), Value.int .u8 (Int.ofNat 6)].length.beq ((5 - 0) * 1)))) && (isOpen (2 * wb.length + 1) && (Nat.beq 0 0 && ((byteVals wb).length.beq (wb.length * 1) && (Nat.beq 1 1 && (!Nat.beq 1 0 && Nat.beq 5 5))))),
  true,
  decide ((if 1073741824 - (0 + (mb.length : Int) + (wb.length : Int)) < ((((Int.ofNat 4).toNat + (0 + (0 + 1) + 0)) : Nat) : Int) then 1073741824 - (0 + (mb.length : Int) + (wb.length : Int)) else ((((Int.ofNat 4).toNat + (0 + (0 + 1) + 0)) : Nat) : Int)) = Int.ofNat 5),
  decide ((if Int.ofNat 0 > 1073741824 - (0 + (mb.length : Int) + (wb.length : Int)) then Int.ofNat 0 else 1073741824 - (0 + (mb.length : Int) + (wb.length : Int))) = 1073741824 - (0 + (mb.length : Int) + (wb.length : Int))),
  decide (IntKind.wrap .i64 (1073741824 - (0 + (mb.length : Int) + (wb.length : Int))) = 1073741824 - (0 + (mb.length : Int) + (wb.length : Int))),
  bornT [born, born2] clock,
  ltT (0 + (mb.length : Int) + (wb.length : Int)) (Int.ofNat 1073741824),
  !decide ((wb.length : Int) = Int.ofNat 0),
  true,
  !decide (first + ↑0 - first > Int.ofNat 256),
  decide (IntKind.wrap .i64 (first + ↑0 - first) = first + ↑0 - first),
  decide (first = first) && true && true,
  decide (IntKind.wrap .i64 (first + ↑0) = first + ↑0),
  true,
  true]
theorem runN2nez (wb mb : List UInt8) (clock born born2 : Nat) (first taken : Int) (nv : Value) (o16 : AObj) :
  ((levO Tryz.prog ext WN2nez 300).call 24 #[P 8, opV (.slice none 0 0)] (HN2nez wb mb clock born born2 first taken nv o16)).map (fun r => (r.1, r.2.1.gl, [35, 37, 38, 13, 31, 18, 19, 5, 6, 23, 8, 9, 10, 11, 12].map r.2.1.objs.get, r.2.2)) =
  some (.bool true, 5, [
    some (.cells (.open_ 1) [S 33 (1 + 0)] 57),
    some (.cells .own [] 5),
    some (.cells .own [] 5),
    some (.cells .own [S 31 (wb.length + (4 + (1 + 0))), I ((wb.length + (4 + (1 + 0))) : Nat)] 143),
    some (.cells (.open_ 1) (byteVals wb ++ (be (Int.ofNat (1 + 0)) ++ F0 ([] : List UInt8))) 5),
    some (.cells .own [S 19 (mb).length, I ((mb).length : Nat)] 143),
    some (.cells (.open_ 1) (byteVals (mb)) 5),
    some (.map [⟨.string "wal".toUTF8, P 13, born⟩, ⟨.string "manifest".toUTF8, P 18, born2⟩] clock),
    some (.cells .own [.map (some 5), I 1073741824, I (-1), .bool false] 140),
    some (.cells .own [.slice none 0 0, E 38] 84),
    some (.cells .own [P 6, P 12, P 23, .pointer none, .bool false] 46),
    some (.cells .own [P 6, I first, S 35 (1), I ((wb.length + (4 + (1 + 0))) : Nat), .bool false] 219),
    some (.map [] 0),
    some (.cells .own [I 9223372036854775807, I 0, .map (some 10)] 216),
    some (.cells .own [P 6, P 9, P 11, .slice none 0 0, I 0, I (taken), E 37, .map none, .bool false] 118)], TN2nez wb mb clock born born2 first taken nv o16) := by kernel_rfl
theorem testsN2nez (wb mb : List UInt8) (clock born born2 : Nat) (first taken : Int) (nv : Value) (o16 : AObj) (hw : 0 < wb.length) (hw2 : wb.length ≤ 1000000) (hm2 : mb.length ≤ 10000) (hbo : born < clock) (hb2 : born2 < clock) (hbb : born ≠ born2) (h0 : 0 ≤ first) (h1 : first ≤ 30) : allT (TN2nez wb mb clock born born2 first taken nv o16) := by
  intro b hb
  simp only [TN2nez, List.mem_cons, List.not_mem_nil, or_false] at hb
  have e0 := wrap_a (Int.ofNat (wb.length + (4 + (1 + 0))))
  have e1 := wrap_a (1073741824 - (0 + (mb.length : Int) + (wb.length : Int)))
  have e2 := wrap_a (first + ↑0 - first)
  have e3 := wrap_a (first + ↑0)
  rcases hb with hb | hb | hb | hb | hb | hb | hb | hb | hb | hb | hb | hb | hb | hb | hb | hb | hb | hb | hb <;> refine hb.trans ?_ <;> clear hb <;> 
  first
  | with_reducible rfl
  | with_reducible exact isSame_refl _
  | (unfold ltT; rw [decide_eq_true_eq]; (try simp only [Int.ofNat_eq_natCast]); omega)
  | (unfold bornT; simp <;> omega)
  | (simp only [e0, e1, e2, e3, wrapM, decide_true, Bool.not_eq_true', decide_eq_true_eq, decide_eq_false_iff_not, Int.ofNat_eq_natCast, gt_iff_lt]; omega)
  | (simp only [bun, capLow, isOpen, oneCell]; omega)
  | (simp only [wrapM, Int.ofNat_eq_natCast, decide_eq_true_eq]; split <;> omega)
  | (simp only [e0, e1, e2, e3, wrapM, Int.ofNat_eq_natCast, decide_eq_true_eq, gt_iff_lt]; (repeat' split) <;> omega)
  | (first | exact z1 (by omega) | exact z2 (by omega) | exact z3 (by omega) | exact z4 (by omega) | exact z5 (by omega) | exact z6 (by omega))
  | (simp [beq_t]; done)
  | rfl
theorem stepN2nez (wb mb : List UInt8) (clock born born2 : Nat) (first taken : Int) (nv : Value) (o16 : AObj)  :
  ∃ K, (levO Tryz.prog ext WN2nez 300).call 24 #[P 8, opV (.slice none 0 0)] (HN2nez wb mb clock born born2 first taken nv o16) = some (.bool true, K, TN2nez wb mb clock born born2 first taken nv o16) ∧
    Gen (pairs 5 [(15, 35), (16, 37), (17, 38), (13, 13), (14, 31), (18, 18), (19, 19), (5, 5), (6, 6), (7, 23), (8, 8), (9, 9), (10, 10), (11, 11), (12, 12)]) K (heapOf 20 5 ([(15, tops (1))] ++ [(16, noneO)] ++ [(17, noneO)] ++ (fileO 13 (more wb ([] : List UInt8))) ++ (fileO 18 (mb)) ++ (base [walE born, manE born2] clock (E 17) (first) (S 15 (1)) (((more wb ([] : List UInt8)).length : Nat)) (taken) (E 16)))) := by
  obtain ⟨⟨v, K, ts⟩, hc, h⟩ := Option.map_eq_some_iff.1 (runN2nez wb mb clock born born2 first taken nv o16)
  simp only [Prod.mk.injEq, List.map_cons, List.map_nil, List.cons.injEq, and_true] at h
  obtain ⟨rfl, hgl, ⟨h35, h37, h38, h13, h31, h18, h19, h5, h6, h23, h8, h9, h10, h11, h12⟩, rfl⟩ := h
  refine ⟨K, hc, Gen.of_pairs hgl (by decide) ?_⟩
  intro x hm
  simp only [base, fileO, walE, manE, tops, rowO, noneO, List.cons_append, List.nil_append, List.mem_cons, List.not_mem_nil, or_false] at hm
  rcases hm with rfl | rfl | rfl | rfl | rfl | rfl | rfl | rfl | rfl | rfl | rfl | rfl | rfl | rfl | rfl
  · refine fit rfl h35 (OG.open_ _ _ ?_) rfl sameFl
    exact tops_snoc 0 _ rfl
  · refine fit rfl h37 (OG.own _ ?_) rfl sameFl
    exact LS.ok (by repeat' constructor)
  · refine fit rfl h38 (OG.own _ ?_) rfl sameFl
    exact LS.ok (by repeat' constructor)
  · refine fit rfl h13 (OG.own _ ?_) rfl sameFl
    rw [more_length]
    exact LS.ok (by repeat' constructor)
  · refine fit rfl h31 (OG.open_ _ _ ?_) rfl sameFl
    rw [show byteVals wb ++ (be (Int.ofNat (1 + 0)) ++ F0 []) = byteVals (more wb []) from (more_vals wb []).symm]
    exact LG.bytes _
  · refine fit rfl h18 (OG.own _ ?_) rfl sameFl
    exact LS.ok (by repeat' constructor)
  · refine fit rfl h19 (OG.open_ _ _ ?_) rfl sameFl
    exact LG.bytes _
  · exact fit rfl h5 (OG.map2 (VG.string _) (VG.ptr _ rfl) (VG.string _) (VG.ptr _ rfl)) rfl noFl
  · refine fit rfl h6 (OG.own _ ?_) rfl sameFl
    exact LS.ok (by repeat' constructor)
  · refine fit rfl h23 (OG.own _ ?_) rfl sameFl
    exact LS.ok (by repeat' constructor)
  · refine fit rfl h8 (OG.own _ ?_) rfl sameFl
    exact LS.ok (by repeat' constructor)
  · refine fit rfl h9 (OG.own _ ?_) rfl sameFl
    rw [more_length]
    exact LS.ok (by repeat' constructor)
  · exact fit rfl h10 OG.map0 rfl noFl
  · refine fit rfl h11 (OG.own _ ?_) rfl sameFl
    exact LS.ok (by repeat' constructor)
  · refine fit rfl h12 (OG.own _ ?_) rfl sameFl
    exact LS.ok (by repeat' constructor)
section
variable {N : Nat} {w0 w : World} {φ : Ren}
theorem note0  {x : List UInt8} {v : Value} {b : Nat} (h : At N w0 φ (hF0) w) (hb : φ 8 = some b) (ha : Adr N w0 x v) (hx5 : x.length ≤ 5000)  :
    Calls Tryz.prog 24 #[.pointer (some ⟨b, 0, none⟩), opA v] w fun r w' => r = .returned (.bool true) ∧ ∃ ψ, At N w0 ψ (hF1 (0 + 1) (0 + 2) 1 (start 0 x) x) w' ∧ ψ 8 = some b := by
  cases ha with
  | nil hx =>
    subst hx
    obtain ⟨K, hK, g⟩ := stepN0nez 0
    exact fin ext_ok h rfl rfl (by kernel_rfl) hK (testsN0nez 0 ) vr_bool (AR.two (.ptr hb) (VR.opV .sliceNil)) g (by kernel_rfl) rfl hb
  | dead a0 c hx =>
    subst hx
    obtain ⟨K, hK, g⟩ := stepN0nee c 0
    exact fin ext_ok h rfl rfl (by kernel_rfl) hK (testsN0nee c 0 ) vr_bool (AR.two (.ptr hb) (VR.opV (.sliceDead a0 (.inl ⟨by omega, by omega⟩)))) g (by kernel_rfl) rfl hb
  | live b0 o c cs te fr hx hb0 hw0 hd =>
    obtain ⟨d, χ, hcc, h', hle, hv⟩ := live_in (c := c) h rfl hx hb0 hw0 hd
    obtain ⟨u, x, rfl⟩ : ∃ u y, x = u :: y := List.exists_cons_of_ne_nil hx
    obtain ⟨K, hK, g⟩ := stepN0nen d (u :: x) o te c 0 hcc
    exact fin ext_ok h' rfl rfl (by kernel_rfl) hK (testsN0nen d (u :: x) o te c 0 (by simp) hx5 hcc) vr_bool (AR.two (.ptr (hle.1 8 b hb)) (VR.opV hv)) g (by kernel_rfl) rfl (hle.1 8 b hb)
theorem note1 {born clock k : Nat} {wb e : List UInt8} {x : List UInt8} {v : Value} {b : Nat} (h : At N w0 φ (hF1 born clock k wb e) w) (hb : φ 8 = some b) (ha : Adr N w0 x v) (hx5 : x.length ≤ 5000) (he5 : e.length ≤ 5000) (hw : 0 < wb.length) (hw2 : wb.length ≤ 1000000) (hbo : born < clock) (hk0 : 0 < k) (hk : k ≤ 30) :
    Calls Tryz.prog 24 #[.pointer (some ⟨b, 0, none⟩), opA v] w fun r w' => r = .returned (.bool true) ∧ ∃ ψ, At N w0 ψ (hF1 born clock (k + 1) (more wb x) x) w' ∧ ψ 8 = some b := by
  cases ha with
  | nil hx =>
    subst hx
    cases e with
    | nil =>
      obtain ⟨K, hK, g⟩ := stepN1kez wb clock born k 0 0 (eV 16 []) (eO [])
      exact fin ext_ok h rfl rfl (by kernel_rfl) hK (testsN1kez wb clock born k 0 0 (eV 16 []) (eO []) hw hw2 hbo hk0 hk (by omega) (by omega)) vr_bool (AR.two (.ptr hb) (VR.opV .sliceNil)) g (by kernel_rfl) rfl hb
    | cons a e =>
      obtain ⟨K, hK, g⟩ := stepN1knz wb (a :: e) clock born k 0 0 (eV 16 (a :: e)) (eO (a :: e))
      exact fin ext_ok h rfl rfl (by kernel_rfl) hK (testsN1knz wb (a :: e) clock born k 0 0 (eV 16 (a :: e)) (eO (a :: e)) hw hw2 (by simp) he5 hbo hk0 hk (by omega) (by omega)) vr_bool (AR.two (.ptr hb) (VR.opV .sliceNil)) g (by kernel_rfl) rfl hb
  | dead a0 c hx =>
    subst hx
    cases e with
    | nil =>
      obtain ⟨K, hK, g⟩ := stepN1kee wb c clock born k 0 0 (eV 16 []) (eO [])
      exact fin ext_ok h rfl rfl (by kernel_rfl) hK (testsN1kee wb c clock born k 0 0 (eV 16 []) (eO []) hw hw2 hbo hk0 hk (by omega) (by omega)) vr_bool (AR.two (.ptr hb) (VR.opV (.sliceDead a0 (.inl ⟨by omega, by omega⟩)))) g (by kernel_rfl) rfl hb
    | cons a e =>
      obtain ⟨K, hK, g⟩ := stepN1kne wb (a :: e) c clock born k 0 0 (eV 16 (a :: e)) (eO (a :: e))
      exact fin ext_ok h rfl rfl (by kernel_rfl) hK (testsN1kne wb (a :: e) c clock born k 0 0 (eV 16 (a :: e)) (eO (a :: e)) hw hw2 (by simp) he5 hbo hk0 hk (by omega) (by omega)) vr_bool (AR.two (.ptr hb) (VR.opV (.sliceDead a0 (.inl ⟨by omega, by omega⟩)))) g (by kernel_rfl) rfl hb
  | live b0 o c cs te fr hx hb0 hw0 hd =>
    obtain ⟨d, χ, hcc, h', hle, hv⟩ := live_in (c := c) h rfl hx hb0 hw0 hd
    obtain ⟨u, x, rfl⟩ : ∃ u y, x = u :: y := List.exists_cons_of_ne_nil hx
    cases e with
    | nil =>
      obtain ⟨K, hK, g⟩ := stepN1ken d wb (u :: x) o te c clock born k 0 0 (eV 16 []) (eO []) hcc
      exact fin ext_ok h' rfl rfl (by kernel_rfl) hK (testsN1ken d wb (u :: x) o te c clock born k 0 0 (eV 16 []) (eO []) hw hw2 (by simp) hx5 hcc hbo hk0 hk (by omega) (by omega)) vr_bool (AR.two (.ptr (hle.1 8 b hb)) (VR.opV hv)) g (by kernel_rfl) rfl (hle.1 8 b hb)
    | cons a e =>
      obtain ⟨K, hK, g⟩ := stepN1knn d wb (a :: e) (u :: x) o te c clock born k 0 0 (eV 16 (a :: e)) (eO (a :: e)) hcc
      exact fin ext_ok h' rfl rfl (by kernel_rfl) hK (testsN1knn d wb (a :: e) (u :: x) o te c clock born k 0 0 (eV 16 (a :: e)) (eO (a :: e)) hw hw2 (by simp) he5 (by simp) hx5 hcc hbo hk0 hk (by omega) (by omega)) vr_bool (AR.two (.ptr (hle.1 8 b hb)) (VR.opV hv)) g (by kernel_rfl) rfl (hle.1 8 b hb)
theorem note2 {born born2 clock first k : Nat} {wb mb e : List UInt8} {x : List UInt8} {v : Value} {b : Nat} (h : At N w0 φ (hF2 born born2 clock first k wb mb e) w) (hb : φ 8 = some b) (ha : Adr N w0 x v) (hx5 : x.length ≤ 5000) (he5 : e.length ≤ 5000) (hw : 0 < wb.length) (hw2 : wb.length ≤ 1000000) (hm2 : mb.length ≤ 10000) (hbo : born < clock) (hb2 : born2 < clock) (hbb : born ≠ born2) (hk0 : 0 < k) (hk : k ≤ 30) (hf : first ≤ 30) :
    Calls Tryz.prog 24 #[.pointer (some ⟨b, 0, none⟩), opA v] w fun r w' => r = .returned (.bool true) ∧ ∃ ψ, At N w0 ψ (hF2 born born2 clock first (k + 1) (more wb x) mb x) w' ∧ ψ 8 = some b := by
  cases ha with
  | nil hx =>
    subst hx
    cases e with
    | nil =>
      obtain ⟨K, hK, g⟩ := stepN2kez wb mb clock born born2 k (first : Nat) (first : Nat) (eV 16 []) (eO [])
      exact fin ext_ok h rfl rfl (by kernel_rfl) hK (testsN2kez wb mb clock born born2 k (first : Nat) (first : Nat) (eV 16 []) (eO []) hw hw2 hm2 hbo hb2 hbb hk0 hk (by omega) (by omega)) vr_bool (AR.two (.ptr hb) (VR.opV .sliceNil)) g (by kernel_rfl) rfl hb
    | cons a e =>
      obtain ⟨K, hK, g⟩ := stepN2knz wb mb (a :: e) clock born born2 k (first : Nat) (first : Nat) (eV 16 (a :: e)) (eO (a :: e))
      exact fin ext_ok h rfl rfl (by kernel_rfl) hK (testsN2knz wb mb (a :: e) clock born born2 k (first : Nat) (first : Nat) (eV 16 (a :: e)) (eO (a :: e)) hw hw2 hm2 (by simp) he5 hbo hb2 hbb hk0 hk (by omega) (by omega)) vr_bool (AR.two (.ptr hb) (VR.opV .sliceNil)) g (by kernel_rfl) rfl hb
  | dead a0 c hx =>
    subst hx
    cases e with
    | nil =>
      obtain ⟨K, hK, g⟩ := stepN2kee wb mb c clock born born2 k (first : Nat) (first : Nat) (eV 16 []) (eO [])
      exact fin ext_ok h rfl rfl (by kernel_rfl) hK (testsN2kee wb mb c clock born born2 k (first : Nat) (first : Nat) (eV 16 []) (eO []) hw hw2 hm2 hbo hb2 hbb hk0 hk (by omega) (by omega)) vr_bool (AR.two (.ptr hb) (VR.opV (.sliceDead a0 (.inl ⟨by omega, by omega⟩)))) g (by kernel_rfl) rfl hb
    | cons a e =>
      obtain ⟨K, hK, g⟩ := stepN2kne wb mb (a :: e) c clock born born2 k (first : Nat) (first : Nat) (eV 16 (a :: e)) (eO (a :: e))
      exact fin ext_ok h rfl rfl (by kernel_rfl) hK (testsN2kne wb mb (a :: e) c clock born born2 k (first : Nat) (first : Nat) (eV 16 (a :: e)) (eO (a :: e)) hw hw2 hm2 (by simp) he5 hbo hb2 hbb hk0 hk (by omega) (by omega)) vr_bool (AR.two (.ptr hb) (VR.opV (.sliceDead a0 (.inl ⟨by omega, by omega⟩)))) g (by kernel_rfl) rfl hb
  | live b0 o c cs te fr hx hb0 hw0 hd =>
    obtain ⟨d, χ, hcc, h', hle, hv⟩ := live_in (c := c) h rfl hx hb0 hw0 hd
    obtain ⟨u, x, rfl⟩ : ∃ u y, x = u :: y := List.exists_cons_of_ne_nil hx
    cases e with
    | nil =>
      obtain ⟨K, hK, g⟩ := stepN2ken d wb mb (u :: x) o te c clock born born2 k (first : Nat) (first : Nat) (eV 16 []) (eO []) hcc
      exact fin ext_ok h' rfl rfl (by kernel_rfl) hK (testsN2ken d wb mb (u :: x) o te c clock born born2 k (first : Nat) (first : Nat) (eV 16 []) (eO []) hw hw2 hm2 (by simp) hx5 hcc hbo hb2 hbb hk0 hk (by omega) (by omega)) vr_bool (AR.two (.ptr (hle.1 8 b hb)) (VR.opV hv)) g (by kernel_rfl) rfl (hle.1 8 b hb)
    | cons a e =>
      obtain ⟨K, hK, g⟩ := stepN2knn d wb mb (a :: e) (u :: x) o te c clock born born2 k (first : Nat) (first : Nat) (eV 16 (a :: e)) (eO (a :: e)) hcc
      exact fin ext_ok h' rfl rfl (by kernel_rfl) hK (testsN2knn d wb mb (a :: e) (u :: x) o te c clock born born2 k (first : Nat) (first : Nat) (eV 16 (a :: e)) (eO (a :: e)) hw hw2 hm2 (by simp) he5 (by simp) hx5 hcc hbo hb2 hbb hk0 hk (by omega) (by omega)) vr_bool (AR.two (.ptr (hle.1 8 b hb)) (VR.opV hv)) g (by kernel_rfl) rfl (hle.1 8 b hb)
theorem notez {born born2 clock first : Nat} {wb mb e : List UInt8} {x : List UInt8} {v : Value} {b : Nat} (h : At N w0 φ (hFz born born2 clock first wb mb e) w) (hb : φ 8 = some b) (ha : Adr N w0 x v) (hx5 : x.length ≤ 5000) (he5 : e.length ≤ 5000) (hw : 0 < wb.length) (hw2 : wb.length ≤ 1000000) (hm2 : mb.length ≤ 10000) (hbo : born < clock) (hb2 : born2 < clock) (hbb : born ≠ born2) (hf : first ≤ 30) :
    Calls Tryz.prog 24 #[.pointer (some ⟨b, 0, none⟩), opA v] w fun r w' => r = .returned (.bool true) ∧ ∃ ψ, At N w0 ψ (hF2 born born2 clock first 1 (more wb x) mb x) w' ∧ ψ 8 = some b := by
  cases ha with
  | nil hx =>
    subst hx
    cases e with
    | nil =>
      obtain ⟨K, hK, g⟩ := stepN2nez wb mb clock born born2 (first : Nat) (first : Nat) (eV 16 []) (eO [])
      exact fin ext_ok h rfl rfl (by kernel_rfl) hK (testsN2nez wb mb clock born born2 (first : Nat) (first : Nat) (eV 16 []) (eO []) hw hw2 hm2 hbo hb2 hbb (by omega) (by omega)) vr_bool (AR.two (.ptr hb) (VR.opV .sliceNil)) g (by kernel_rfl) rfl hb
    | cons a e =>
      obtain ⟨K, hK, g⟩ := stepN2nnz wb mb (a :: e) clock born born2 (first : Nat) (first : Nat) (eV 16 (a :: e)) (eO (a :: e))
      exact fin ext_ok h rfl rfl (by kernel_rfl) hK (testsN2nnz wb mb (a :: e) clock born born2 (first : Nat) (first : Nat) (eV 16 (a :: e)) (eO (a :: e)) hw hw2 hm2 (by simp) he5 hbo hb2 hbb (by omega) (by omega)) vr_bool (AR.two (.ptr hb) (VR.opV .sliceNil)) g (by kernel_rfl) rfl hb
  | dead a0 c hx =>
    subst hx
    cases e with
    | nil =>
      obtain ⟨K, hK, g⟩ := stepN2nee wb mb c clock born born2 (first : Nat) (first : Nat) (eV 16 []) (eO [])
      exact fin ext_ok h rfl rfl (by kernel_rfl) hK (testsN2nee wb mb c clock born born2 (first : Nat) (first : Nat) (eV 16 []) (eO []) hw hw2 hm2 hbo hb2 hbb (by omega) (by omega)) vr_bool (AR.two (.ptr hb) (VR.opV (.sliceDead a0 (.inl ⟨by omega, by omega⟩)))) g (by kernel_rfl) rfl hb
    | cons a e =>
      obtain ⟨K, hK, g⟩ := stepN2nne wb mb (a :: e) c clock born born2 (first : Nat) (first : Nat) (eV 16 (a :: e)) (eO (a :: e))
      exact fin ext_ok h rfl rfl (by kernel_rfl) hK (testsN2nne wb mb (a :: e) c clock born born2 (first : Nat) (first : Nat) (eV 16 (a :: e)) (eO (a :: e)) hw hw2 hm2 (by simp) he5 hbo hb2 hbb (by omega) (by omega)) vr_bool (AR.two (.ptr hb) (VR.opV (.sliceDead a0 (.inl ⟨by omega, by omega⟩)))) g (by kernel_rfl) rfl hb
  | live b0 o c cs te fr hx hb0 hw0 hd =>
    obtain ⟨d, χ, hcc, h', hle, hv⟩ := live_in (c := c) h rfl hx hb0 hw0 hd
    obtain ⟨u, x, rfl⟩ : ∃ u y, x = u :: y := List.exists_cons_of_ne_nil hx
    cases e with
    | nil =>
      obtain ⟨K, hK, g⟩ := stepN2nen d wb mb (u :: x) o te c clock born born2 (first : Nat) (first : Nat) (eV 16 []) (eO []) hcc
      exact fin ext_ok h' rfl rfl (by kernel_rfl) hK (testsN2nen d wb mb (u :: x) o te c clock born born2 (first : Nat) (first : Nat) (eV 16 []) (eO []) hw hw2 hm2 (by simp) hx5 hcc hbo hb2 hbb (by omega) (by omega)) vr_bool (AR.two (.ptr (hle.1 8 b hb)) (VR.opV hv)) g (by kernel_rfl) rfl (hle.1 8 b hb)
    | cons a e =>
      obtain ⟨K, hK, g⟩ := stepN2nnn d wb mb (a :: e) (u :: x) o te c clock born born2 (first : Nat) (first : Nat) (eV 16 (a :: e)) (eO (a :: e)) hcc
      exact fin ext_ok h' rfl rfl (by kernel_rfl) hK (testsN2nnn d wb mb (a :: e) (u :: x) o te c clock born born2 (first : Nat) (first : Nat) (eV 16 (a :: e)) (eO (a :: e)) hw hw2 hm2 (by simp) he5 (by simp) hx5 hcc hbo hb2 hbb (by omega) (by omega)) vr_bool (AR.two (.ptr (hle.1 8 b hb)) (VR.opV hv)) g (by kernel_rfl) rfl (hle.1 8 b hb)
end
def WF1e : Word := fun o _ => match o.dst with
  | some 4 => bif o.pos == "bits.go:90" then some 2 else none
  | some 5 => bif o.pos == "bits.go:90" then some 4 else bif o.pos == "bits.go:98" then some 0 else none
  | some 7 => bif o.pos == "bits.go:90" then some 5 else none
  | some 9 => bif o.pos == "bits.go:90" then some 6 else none
  | some 14 => bif o.pos == "wal.go:98" then some 2 else none
  | some 22 => bif o.pos == "wal.go:177" then some 0 else none
  | some 27 => bif o.pos == "wal.go:177" then some 0 else none
  | some 35 => bif o.pos == "wal.go:179" then some 0 else none
  | some 38 => bif o.pos == "engine.go:514" then some 0 else none
  | some 45 => bif o.pos == "wal.go:182" then some 3 else none
  | some 46 => bif o.pos == "wal.go:182" then some 1 else none
  | some 47 => bif o.pos == "disk.go:76" then some 3 else none
  | some 48 => bif o.pos == "disk.go:76" then some 0 else none
  | some 49 => bif o.pos == "disk.go:76" then some 0 else none
  | _ => none

def HF1e (wb : List UInt8) (clock born first k : Nat) (taken : Int) (rv : Value) (o17 : AObj) : AHeap := heapOf 20 5 ([(15, tops (k))] ++ [(17, o17)] ++ [(16, noneO)] ++ (fileO 13 (wb)) ++ (base [walE born] clock (rv) ((first : Nat)) (S 15 k) ((wb.length : Nat)) (taken) (E 16)))
def TF1e (wb : List UInt8) (clock born first k : Nat) (taken : Int) (rv : Value) (o17 : AObj) : List Bool := [true,
  true,
  true,
  decide ((if 1073741824 - (0 + 0 + ↑(0 + 4) + (wb.length : Int)) < ↑(4 + (Int.ofNat 8).toNat) then 1073741824 - (0 + 0 + ↑(0 + 4) + (wb.length : Int)) else ↑(4 + (Int.ofNat 8).toNat)) = Int.ofNat 12),
  decide ((if Int.ofNat 0 > 1073741824 - (0 + 0 + ↑(0 + 4) + (wb.length : Int)) then Int.ofNat 0 else 1073741824 - (0 + 0 + ↑(0 + 4) + (wb.length : Int))) = 1073741824 - (0 + 0 + ↑(0 + 4) + (wb.length : Int))),
  decide (IntKind.wrap .i64 (1073741824 - (0 + 0 + ↑(0 + 4) + (wb.length : Int))) = 1073741824 - (0 + 0 + ↑(0 + 4) + (wb.length : Int))),
  bornT [born, clock.succ, clock.succ.succ] (clock + 1 + 1 + 1),
  ltT (0 + 0 + ↑(0 + 4) + (wb.length : Int)) (Int.ofNat 1073741824),
  Nat.beq 15 15 && Nat.beq 0 0 && true && true && k.beq k && (2 * k + 1).beq (2 * k + 1) && true && (decide ((first : Int) = (first : Int)) && true && true),
  decide (Int.ofNat 0 ≤ Int.ofNat (first + k) - Int.ofNat first) && (true && (true && (k.ble (capLow (2 * k + 1)) && ((Int.ofNat (first + k) - Int.ofNat first).toNat.ble k && ((!isOpen (2 * k + 1) || (Int.ofNat (first + k) - Int.ofNat first).toNat.beq 0 || !Nat.beq 1 0) && ((capLow (2 * k + 1)).beq (Int.ofNat (first + k) - Int.ofNat first).toNat && isOpen (2 * k + 1))))))),
  decide (IntKind.wrap .i64 (Int.ofNat (first + k) - (first : Int)) = Int.ofNat (first + k) - Int.ofNat first),
  !decide (Int.ofNat (first + k) = (first : Int)),
  !decide (Int.ofNat (first + k) > Int.ofNat (first + k)),
  decide ((first : Int) = (first : Int)) && true && (Nat.beq 15 15 && Nat.beq 0 0 && true && true && k.beq k && (2 * k + 1).beq (2 * k + 1) && true && true),
  decide (IntKind.wrap .i64 ((first : Int) + (k : Int)) = Int.ofNat (first + k)),
  !decide (Int.ofNat (first + k) < (first : Int)),
  decide ((first : Int) = (first : Int)) && true && (Nat.beq 15 15 && Nat.beq 0 0 && true && true && k.beq k && (2 * k + 1).beq (2 * k + 1) && true && true),
  decide (IntKind.wrap .i64 ((first : Int) + (k : Int)) = Int.ofNat (first + k)),
  true,
  true,
  true,
  decide ((if 1073741824 - (0 + 0 + (wb.length : Int)) < ↑(0 + (0 + 1) + (0 + 1) + (0 + 1) + 0 + (0 + 1)) then 1073741824 - (0 + 0 + (wb.length : Int)) else ↑(0 + (0 + 1) + (0 + 1) + (0 + 1) + 0 + (0 + 1))) = Int.ofNat 4),
  decide ((if Int.ofNat 0 > 1073741824 - (0 + 0 + (wb.length : Int)) then Int.ofNat 0 else 1073741824 - (0 + 0 + (wb.length : Int))) = 1073741824 - (0 + 0 + (wb.length : Int))),
  decide (IntKind.wrap .i64 (1073741824 - (0 + 0 + (wb.length : Int))) = 1073741824 - (0 + 0 + (wb.length : Int))),
  bornT [born, clock] (clock + 1),
  ltT (0 + 0 + (wb.length : Int)) (Int.ofNat 1073741824),
  true,
  true,
  bitOk .xor .u64 .u64 (Int.ofNat 0 * Int.ofNat 2 ^ (Int.ofNat 1).toNat) (IntKind.wrap .u64 (Int.ofNat 0 / Int.ofNat 2 ^ (Int.ofNat 63).toNat)) (Int.ofNat 0),
  bitOk .shr .i64 .u64 (↑0) (Int.ofNat 63) (Int.ofNat 0 / Int.ofNat 2 ^ (Int.ofNat 63).toNat),
  bitOk .shl .u64 .u64 (Int.ofNat 0) (Int.ofNat 1) (Int.ofNat 0 * Int.ofNat 2 ^ (Int.ofNat 1).toNat),
  decide (IntKind.wrap .u64 ↑0 = Int.ofNat 0),
  true,
  true,
  bitOk .xor .u64 .u64 (Int.ofNat 0 * Int.ofNat 2 ^ (Int.ofNat 1).toNat) (IntKind.wrap .u64 (Int.ofNat 0 / Int.ofNat 2 ^ (Int.ofNat 63).toNat)) (Int.ofNat 0),
  bitOk .shr .i64 .u64 (↑0) (Int.ofNat 63) (Int.ofNat 0 / Int.ofNat 2 ^ (Int.ofNat 63).toNat),
  bitOk .shl .u64 .u64 (Int.ofNat 0) (Int.ofNat 1) (Int.ofNat 0 * Int.ofNat 2 ^ (Int.ofNat 1).toNat),
  decide (IntKind.wrap .u64 ↑0 = Int.ofNat 0),
  true,
  true,
  bitOk .xor .u64 .u64 (Int.ofNat 0 * Int.ofNat 2 ^ (Int.ofNat 1).toNat) (IntKind.wrap .u64 (Int.ofNat 0 / Int.ofNat 2 ^ (Int.ofNat 63).toNat)) (Int.ofNat 0),
  bitOk .shr .i64 .u64 (Int.ofNat 0) (Int.ofNat 63) (Int.ofNat 0 / Int.ofNat 2 ^ (Int.ofNat 63).toNat),
  bitOk .shl .u64 .u64 (Int.ofNat 0) (Int.ofNat 1) (Int.ofNat 0 * Int.ofNat 2 ^ (Int.ofNat 1).toNat),
  decide (IntKind.wrap .u64 (Int.ofNat 0) = Int.ofNat 0),
  true,
  !decide (Int.ofNat (first + k) * 2 ^ 1 > Int.ofNat 127),
  bitOk .xor .u64 .u64 (Int.ofNat (first + k) * 2 ^ 1) (IntKind.wrap .u64 (Int.ofNat (first + k) / Int.ofNat 2 ^ (Int.ofNat 63).toNat)) (Int.ofNat (first + k) * 2 ^ 1),
  bitOk .shr .i64 .u64 (Int.ofNat (first + k)) (Int.ofNat 63) (Int.ofNat (first + k) / Int.ofNat 2 ^ (Int.ofNat 63).toNat),
  bitOk .shl .u64 .u64 (Int.ofNat (first + k)) (Int.ofNat 1) (Int.ofNat (first + k) * 2 ^ 1),
  decide (IntKind.wrap .u64 (Int.ofNat (first + k)) = Int.ofNat (first + k)),
  decide ((first : Int) = (first : Int)) && true && (Nat.beq 15 15 && Nat.beq 0 0 && true && true && k.beq k && (2 * k + 1).beq (2 * k + 1) && true && true),
  decide (IntKind.wrap .i64 ((first : Int) + (k : Int)) = Int.ofNat (first + k)),
  decide (taken = taken) && true && true,
  true,
  !decide (Int.ofNat (first + k) = (first : Int)),
  decide ((first : Int) = (first : Int)) && true && (Nat.beq 15 15 && Nat.beq 0 0 && true && true && k.beq k && (2 * k + 1).beq (2 * k + 1) && true && true),
  decide (IntKind.wrap .i64 ((first : Int) + (k : Int)) = Int.ofNat (first + k))]
theorem runF1e (wb : List UInt8) (clock born first k : Nat) (taken : Int) (rv : Value) (o17 : AObj) :
  ((levO Tryz.prog ext WF1e 300).call 17 #[P 12] (HF1e wb clock born first k taken rv o17)).map (fun r => (r.1, r.2.1.gl, [17, 16, 41, 42, 34, 35, 5, 6, 7, 8, 9, 44, 11, 12].map r.2.1.objs.get, r.2.2)) =
  some (.tuple #[.bool false, I 0], 5, [
    some (o17),
    some (.cells .own [] 5),
    some (.cells .own [S 42 (hd (first + k)).length, I ((hd (first + k)).length : Nat)] 143),
    some (.cells (.open_ 1) (hdV (first + k)) 5),
    some (.cells .own [S 35 (0 + 4), I (((0 + 4) : Nat) : Int)] 143),
    some (.cells (.open_ 1) (manVe (first + k) []) 5),
    some (.map [⟨.string "wal".toUTF8, P 41, born⟩, ⟨.string "manifest".toUTF8, P 34, (clock + 1)⟩] (clock + 3)),
    some (.cells .own [.map (some 5), I 1073741824, I (-1), .bool false] 140),
    some (.cells .own [.slice none 0 0, rv] 84),
    some (.cells .own [P 6, P 12, P 7, .pointer none, .bool false] 46),
    some (.cells .own [P 6, I (((first + k : Nat))), .slice none 0 0, I (12), .bool false] 219),
    some (.map [] 0),
    some (.cells .own [I 9223372036854775807, I 0, .map (some 44)] 216),
    some (.cells .own [P 6, P 9, P 11, .slice none 0 0, I 0, I (((first + k : Nat))), E 16, .map none, .bool false] 118)], TF1e wb clock born first k taken rv o17) := by kernel_rfl
theorem testsF1e (wb : List UInt8) (clock born first k : Nat) (taken : Int) (rv : Value) (o17 : AObj) (hw2 : wb.length ≤ 1000000) (hk0 : 0 < k) (hn : first + k ≤ 60) (hbo : born < clock) : allT (TF1e wb clock born first k taken rv o17) := by
  intro b hb
  simp only [TF1e, List.mem_cons, List.not_mem_nil, or_false] at hb
  have e0 := wrap_a (1073741824 - (0 + 0 + ↑(0 + 4) + (wb.length : Int)))
  have e1 := wrap_a (Int.ofNat (first + k) - (first : Int))
  have e2 := wrap_a ((first : Int) + (k : Int))
  have e3 := wrap_a (1073741824 - (0 + 0 + (wb.length : Int)))
  rcases hb with hb | hb | hb | hb | hb | hb | hb | hb | hb | hb | hb | hb | hb | hb | hb | hb | hb | hb | hb | hb | hb | hb | hb | hb | hb | hb | hb | hb | hb | hb | hb | hb | hb | hb | hb | hb | hb | hb | hb | hb | hb | hb | hb | hb | hb | hb | hb | hb | hb | hb | hb | hb | hb | hb | hb | hb | hb <;> refine hb.trans ?_ <;> clear hb <;>
  first
  | with_reducible rfl
  | (unfold ltT; rw [decide_eq_true_eq]; (try simp only [Int.ofNat_eq_natCast]); omega)
  | (unfold bornT; simp <;> omega)
  | (simp only [e0, e1, e2, e3, wrapM, decide_true, Bool.not_eq_true', decide_eq_true_eq, decide_eq_false_iff_not, Int.ofNat_eq_natCast, gt_iff_lt]; omega)
  | (simp only [Bool.and_eq_true, Bool.or_eq_true, Bool.not_eq_true', beq_t, beq_f, ble_t, ble_f, byteVals_length, oneCell_bytes, capLow, isOpen, len_F0, len_be, one_F0, one_be, len_hd0, one_hd0, len_manVs, one_manVs, len_manVl, one_manVl, List.length_append, List.all_append, List.length_replicate, decide_eq_true_eq, Int.ofNat_eq_natCast, and_true, true_and, or_true, List.length_cons, List.length_nil, List.all_cons, List.all_nil, oneCell, Int.toNat_natCast, List.length_take, List.length_drop, Bool.and_self, Bool.not_false, Bool.not_true]; omega)
  | (simp only [wrapM, Int.ofNat_eq_natCast, decide_eq_true_eq]; split <;> omega)
  | (simp only [e0, e1, e2, e3, wrapM, Int.ofNat_eq_natCast, decide_eq_true_eq, gt_iff_lt]; (repeat' split) <;> omega)
  | (first | exact z1 (by omega) | exact z2 (by omega) | exact z3 (by omega) | exact z4 (by omega) | exact z5 (by omega) | exact z6 (by omega))
  | (simp [beq_t]; done)
  | rfl
theorem stepF1e (wb : List UInt8) (clock born first k : Nat) (taken : Int) (rv : Value) (o17 : AObj) (hn : first + k ≤ 60) (hv : VG (pairs 5 [(17, 17), (16, 16), (13, 41), (14, 42), (18, 34), (19, 35), (5, 5), (6, 6), (7, 7), (8, 8), (9, 9), (10, 44), (11, 11), (12, 12)]) rv rv) (ho : OG (pairs 5 [(17, 17), (16, 16), (13, 41), (14, 42), (18, 34), (19, 35), (5, 5), (6, 6), (7, 7), (8, 8), (9, 9), (10, 44), (11, 11), (12, 12)]) o17 o17) :
  ∃ K, (levO Tryz.prog ext WF1e 300).call 17 #[P 12] (HF1e wb clock born first k taken rv o17) = some (.tuple #[.bool false, I 0], K, TF1e wb clock born first k taken rv o17) ∧
    Gen (pairs 5 [(17, 17), (16, 16), (13, 41), (14, 42), (18, 34), (19, 35), (5, 5), (6, 6), (7, 7), (8, 8), (9, 9), (10, 44), (11, 11), (12, 12)]) K (heapOf 20 5 ([(17, o17)] ++ [(16, noneO)] ++ (fileO 13 (hd (first + k))) ++ (fileO 18 (man (first + k) [])) ++ (base [walE born, manE (clock + 1)] (clock + 3) (rv) (((first + k : Nat))) (.slice none 0 0) (12) (((first + k : Nat))) (E 16)))) := by
  obtain ⟨⟨v, K, ts⟩, hc, h⟩ := Option.map_eq_some_iff.1 (runF1e wb clock born first k taken rv o17)
  simp only [Prod.mk.injEq, List.map_cons, List.map_nil, List.cons.injEq, and_true] at h
  obtain ⟨rfl, hgl, ⟨h17, h16, h41, h42, h34, h35, h5, h6, h7, h8, h9, h44, h11, h12⟩, rfl⟩ := h
  refine ⟨K, hc, Gen.of_pairs hgl (by decide) ?_⟩
  intro x hm
  simp only [base, fileO, walE, manE, tops, rowO, noneO, List.cons_append, List.nil_append, List.mem_cons, List.not_mem_nil, or_false] at hm
  rcases hm with rfl | rfl | rfl | rfl | rfl | rfl | rfl | rfl | rfl | rfl | rfl | rfl | rfl | rfl
  · exact fit rfl h17 ho rfl fun _ _ _ h => ⟨_, h⟩
  · refine fit rfl h16 (OG.own _ ?_) rfl sameFl
    first | exact LG.cons VG.sliceNil (LG.cons hv LG.nil) | exact LS.ok (by repeat' constructor)
  · refine fit rfl h41 (OG.own _ ?_) rfl sameFl
    first | exact LG.cons VG.sliceNil (LG.cons hv LG.nil) | exact LS.ok (by repeat' constructor)
  · refine fit rfl h42 (OG.open_ _ _ ?_) rfl sameFl
    rw [← hdV_eq]
    exact LG.bytes _
  · refine fit rfl h34 (OG.own _ ?_) rfl sameFl
    rw [Nat.zero_add, mane_length (by omega)]
    first | exact LG.cons VG.sliceNil (LG.cons hv LG.nil) | exact LS.ok (by repeat' constructor)
  · refine fit rfl h35 (OG.open_ _ _ ?_) rfl sameFl
    rw [← mane_vals (by omega)]
    exact LG.bytes _
  · exact fit rfl h5 (OG.map2 (VG.string _) (VG.ptr _ rfl) (VG.string _) (VG.ptr _ rfl)) rfl noFl
  · refine fit rfl h6 (OG.own _ ?_) rfl sameFl
    first | exact LG.cons VG.sliceNil (LG.cons hv LG.nil) | exact LS.ok (by repeat' constructor)
  · refine fit rfl h7 (OG.own _ ?_) rfl sameFl
    first | exact LG.cons VG.sliceNil (LG.cons hv LG.nil) | exact LS.ok (by repeat' constructor)
  · refine fit rfl h8 (OG.own _ ?_) rfl sameFl
    first | exact LG.cons VG.sliceNil (LG.cons hv LG.nil) | exact LS.ok (by repeat' constructor)
  · refine fit rfl h9 (OG.own _ ?_) rfl sameFl
    first | exact LG.cons VG.sliceNil (LG.cons hv LG.nil) | exact LS.ok (by repeat' constructor)
  · exact fit rfl h44 OG.map0 rfl noFl
  · refine fit rfl h11 (OG.own _ ?_) rfl sameFl
    first | exact LG.cons VG.sliceNil (LG.cons hv LG.nil) | exact LS.ok (by repeat' constructor)
  · refine fit rfl h12 (OG.own _ ?_) rfl sameFl
    first | exact LG.cons VG.sliceNil (LG.cons hv LG.nil) | exact LS.ok (by repeat' constructor)
def WF1s : Word := fun o _ => match o.dst with
  | some 4 => bif o.pos == "bits.go:90" then some 2 else none
  | some 5 => bif o.pos == "bits.go:90" then some 4 else bif o.pos == "bits.go:98" then some 0 else none
  | some 7 => bif o.pos == "bits.go:90" then some 5 else none
  | some 9 => bif o.pos == "bits.go:90" then some 6 else none
  | some 12 => bif o.pos == "engine.go:140" then some 12 else none
  | some 14 => bif o.pos == "engine.go:144" then some 12 else bif o.pos == "wal.go:98" then some 2 else none
  | some 22 => bif o.pos == "wal.go:177" then some 0 else none
  | some 27 => bif o.pos == "wal.go:177" then some 0 else none
  | some 35 => bif o.pos == "wal.go:179" then some 0 else none
  | some 38 => bif o.pos == "engine.go:514" then some 0 else none
  | some 45 => bif o.pos == "wal.go:182" then some 3 else none
  | some 46 => bif o.pos == "wal.go:182" then some 1 else none
  | some 47 => bif o.pos == "disk.go:76" then some 3 else none
  | some 48 => bif o.pos == "disk.go:76" then some 0 else none
  | some 49 => bif o.pos == "disk.go:76" then some 0 else none
  | some 57 => bif o.pos == "disk.go:77" then some 0 else none
  | some 58 => bif o.pos == "disk.go:77" then some 10 else none
  | some 64 => bif o.pos == "disk.go:78" then some 0 else none
  | _ => none

def HF1s (wb nb : List UInt8) (clock born first k : Nat) (taken : Int) (rv : Value) (o17 : AObj) : AHeap := heapOf 20 5 ([(15, tops (k))] ++ [(17, o17)] ++ [(16, rowO (nb))] ++ (fileO 13 (wb)) ++ (base [walE born] clock (rv) ((first : Nat)) (S 15 k) ((wb.length : Nat)) (taken) (S 16 nb.length)))
def TF1s (wb nb : List UInt8) (clock born first k : Nat) (taken : Int) (rv : Value) (o17 : AObj) : List Bool := [true,
  true,
  true,
  !(12 - 0).beq 0 && (hdV (first + k)).length.beq ((12 - 0) * 1) && (!(0 + (12 - 0)).ble (capLow 0) && (((0 + (12 - 0)) * 2 * (1 + 1)).ble 140737488355328 && ((hdV (first + k)).all oneCell && (hdV (first + k)).length.beq ((12 - 0) * 1)))) && (Nat.beq 0 0 && Nat.beq 0 0),
  true && (true && (true && (Nat.ble 12 (capLow (2 * (4 + (Int.ofNat 8).toNat) + 1)) && (Nat.ble 0 12 && (true && !(capLow (2 * (4 + (Int.ofNat 8).toNat) + 1)).beq 0))))),
  true,
  decide ((if 1073741824 - (0 + 0 + ↑(0 + (3 + nb.length + 1)) + (wb.length : Int)) < ↑(4 + (Int.ofNat 8).toNat) then 1073741824 - (0 + 0 + ↑(0 + (3 + nb.length + 1)) + (wb.length : Int)) else ↑(4 + (Int.ofNat 8).toNat)) = Int.ofNat 12),
  decide ((if Int.ofNat 0 > 1073741824 - (0 + 0 + ↑(0 + (3 + nb.length + 1)) + (wb.length : Int)) then Int.ofNat 0 else 1073741824 - (0 + 0 + ↑(0 + (3 + nb.length + 1)) + (wb.length : Int))) = 1073741824 - (0 + 0 + ↑(0 + (3 + nb.length + 1)) + (wb.length : Int))),
  decide (IntKind.wrap .i64 (1073741824 - (0 + 0 + ↑(0 + (3 + nb.length + 1)) + (wb.length : Int))) = 1073741824 - (0 + 0 + ↑(0 + (3 + nb.length + 1)) + (wb.length : Int))),
  bornT [born, clock.succ, clock.succ.succ] (clock + 1 + 1 + 1),
  ltT (0 + 0 + ↑(0 + (3 + nb.length + 1)) + (wb.length : Int)) (Int.ofNat 1073741824),
  Nat.beq 15 15 && Nat.beq 0 0 && true && true && k.beq k && (2 * k + 1).beq (2 * k + 1) && true && (decide ((first : Int) = (first : Int)) && true && true),
  decide (Int.ofNat 0 ≤ Int.ofNat (first + k) - Int.ofNat first) && (true && (true && (k.ble (capLow (2 * k + 1)) && ((Int.ofNat (first + k) - Int.ofNat first).toNat.ble k && ((!isOpen (2 * k + 1) || (Int.ofNat (first + k) - Int.ofNat first).toNat.beq 0 || !Nat.beq 1 0) && ((capLow (2 * k + 1)).beq (Int.ofNat (first + k) - Int.ofNat first).toNat && isOpen (2 * k + 1))))))),
  decide (IntKind.wrap .i64 (Int.ofNat (first + k) - (first : Int)) = Int.ofNat (first + k) - Int.ofNat first),
  !decide (Int.ofNat (first + k) = (first : Int)),
  !decide (Int.ofNat (first + k) > Int.ofNat (first + k)),
  decide ((first : Int) = (first : Int)) && true && (Nat.beq 15 15 && Nat.beq 0 0 && true && true && k.beq k && (2 * k + 1).beq (2 * k + 1) && true && true),
  decide (IntKind.wrap .i64 ((first : Int) + (k : Int)) = Int.ofNat (first + k)),
  !decide (Int.ofNat (first + k) < (first : Int)),
  decide ((first : Int) = (first : Int)) && true && (Nat.beq 15 15 && Nat.beq 0 0 && true && true && k.beq k && (2 * k + 1).beq (2 * k + 1) && true && true),
  decide (IntKind.wrap .i64 ((first : Int) + (k : Int)) = Int.ofNat (first + k)),
  Nat.beq 33 33 && Nat.beq 0 0 && true && true && (3 + nb.length + 1).beq (3 + nb.length + 1) && (2 * (3 + nb.length + 1) + 1).beq (2 * (3 + nb.length + 1) + 1) && true && true,
  !decide (Int.ofNat (3 + nb.length + 1) < Int.ofNat (3 + nb.length + 1)),
  true,
  !(3 + nb.length + 1).beq 0 && (manVs (first + k) nb).length.beq (0 + (3 + nb.length + 1)) && (!(0 + (3 + nb.length + 1)).ble (capLow 0) && (((0 + (3 + nb.length + 1)) * 2 * (1 + 1)).ble 140737488355328 && ((manVs (first + k) nb).all oneCell && (manVs (first + k) nb).length.beq (0 + (3 + nb.length + 1))))) && (Nat.beq 0 0 && Nat.beq 0 0),
  true && (true && (true && ((3 + nb.length + 1).ble (capLow (2 * (3 + nb.length + 1) + 1)) && (Nat.ble 0 (3 + nb.length + 1) && ((!isOpen (2 * (3 + nb.length + 1) + 1) || Nat.beq 0 0 || !Nat.beq 1 0) && !(capLow (2 * (3 + nb.length + 1) + 1)).beq 0))))),
  true,
  decide ((if 1073741824 - (0 + 0 + (wb.length : Int)) < Int.ofNat (3 + nb.length + 1) then 1073741824 - (0 + 0 + (wb.length : Int)) else Int.ofNat (3 + nb.length + 1)) = Int.ofNat (3 + nb.length + 1)),
  decide ((if Int.ofNat 0 > 1073741824 - (0 + 0 + (wb.length : Int)) then Int.ofNat 0 else 1073741824 - (0 + 0 + (wb.length : Int))) = 1073741824 - (0 + 0 + (wb.length : Int))),
  decide (IntKind.wrap .i64 (1073741824 - (0 + 0 + (wb.length : Int))) = 1073741824 - (0 + 0 + (wb.length : Int))),
  bornT [born, clock] (clock + 1),
  ltT (0 + 0 + (wb.length : Int)) (Int.ofNat 1073741824),
  Nat.beq 30 30 && Nat.beq 0 0 && true && true && (3 + nb.length).beq (3 + nb.length) && (2 * (3 + nb.length) + 1).beq (2 * (3 + nb.length) + 1) && (Nat.beq 30 30 && Nat.beq 0 0 && true && true && (3 + nb.length).beq (3 + nb.length) && (2 * (3 + nb.length) + 1).beq (2 * (3 + nb.length) + 1) && (Nat.beq 30 30 && Nat.beq 0 0 && true && true && (3 + nb.length).beq (3 + nb.length) && (2 * (3 + nb.length) + 1).beq (2 * (3 + nb.length) + 1) && true)) && true,
  !(0 + 1).beq 0 && [Value.int .u8 (Int.ofNat 0)].length.beq ((0 + 1) * 1) && (!(3 + nb.length + 1).ble (capLow (2 * (3 + nb.length) + 1)) && (((3 + nb.length + 1) * 2 * (1 + 1)).ble 140737488355328 && ([Value.int .u8 (Int.ofNat 0)].all oneCell && [Value.int .u8 (Int.ofNat 0)].length.beq ((0 + 1) * 1)))) && (isOpen (2 * (3 + nb.length) + 1) && (Nat.beq 0 0 && (([Value.int .u8 (IntKind.wrap .u8 (Int.ofNat (first + k) * 2 ^ 1))] ++ [Value.int .u8 (Int.ofNat 0)] ++ [Value.int .u8 (IntKind.wrap .u8 (Int.ofNat nb.length * 2 ^ 1))] ++ byteVals nb).length.beq ((3 + nb.length) * 1) && (Nat.beq 1 1 && (!Nat.beq 1 0 && Nat.beq 5 5))))),
  true,
  bitOk .xor .u64 .u64 (Int.ofNat 0 * Int.ofNat 2 ^ (Int.ofNat 1).toNat) (IntKind.wrap .u64 (Int.ofNat 0 / Int.ofNat 2 ^ (Int.ofNat 63).toNat)) (Int.ofNat 0),
  bitOk .shr .i64 .u64 (↑0) (Int.ofNat 63) (Int.ofNat 0 / Int.ofNat 2 ^ (Int.ofNat 63).toNat),
  bitOk .shl .u64 .u64 (Int.ofNat 0) (Int.ofNat 1) (Int.ofNat 0 * Int.ofNat 2 ^ (Int.ofNat 1).toNat),
  decide (IntKind.wrap .u64 ↑0 = Int.ofNat 0),
  !nb.length.beq 0 && (byteVals nb).length.beq (nb.length * 1) && (!(3 + nb.length).ble (capLow (2 * (0 + (0 + 1) + (0 + 1) + (0 + 1)) + 1)) && (((3 + nb.length) * 2 * (1 + 1)).ble 140737488355328 && ((byteVals nb).all oneCell && (byteVals nb).length.beq (nb.length * 1)))) && (isOpen (2 * (0 + (0 + 1) + (0 + 1) + (0 + 1)) + 1) && (Nat.beq 0 0 && (([Value.int .u8 (IntKind.wrap .u8 (Int.ofNat (first + k) * 2 ^ 1))] ++ [Value.int .u8 (Int.ofNat 0)] ++ [Value.int .u8 (IntKind.wrap .u8 (Int.ofNat nb.length * 2 ^ 1))]).length.beq ((0 + (0 + 1) + (0 + 1) + (0 + 1)) * 1) && (Nat.beq 1 1 && (!Nat.beq 1 0 && Nat.beq 5 5))))),
  true,
  !(0 + 1).beq 0 && [Value.int .u8 (IntKind.wrap .u8 (Int.ofNat nb.length * 2 ^ 1))].length.beq ((0 + 1) * 1) && (!(0 + (0 + 1) + (0 + 1) + (0 + 1)).ble (capLow (2 * (0 + (0 + 1) + (0 + 1)) + 1)) && (((0 + (0 + 1) + (0 + 1) + (0 + 1)) * 2 * (1 + 1)).ble 140737488355328 && ([Value.int .u8 (IntKind.wrap .u8 (Int.ofNat nb.length * 2 ^ 1))].all oneCell && [Value.int .u8 (IntKind.wrap .u8 (Int.ofNat nb.length * 2 ^ 1))].length.beq ((0 + 1) * 1)))) && (isOpen (2 * (0 + (0 + 1) + (0 + 1)) + 1) && (Nat.beq 0 0 && (([Value.int .u8 (IntKind.wrap .u8 (Int.ofNat (first + k) * 2 ^ 1))] ++ [Value.int .u8 (Int.ofNat 0)]).length.beq ((0 + (0 + 1) + (0 + 1)) * 1) && (Nat.beq 1 1 && (!Nat.beq 1 0 && Nat.beq 5 5))))),
  !decide (Int.ofNat nb.length * 2 ^ 1 > Int.ofNat 127),
  bitOk .xor .u64 .u64 (Int.ofNat nb.length * 2 ^ 1) (IntKind.wrap .u64 (Int.ofNat nb.length / Int.ofNat 2 ^ (Int.ofNat 63).toNat)) (Int.ofNat nb.length * 2 ^ 1),
  bitOk .shr .i64 .u64 ((nb.length : Int)) (Int.ofNat 63) (Int.ofNat nb.length / Int.ofNat 2 ^ (Int.ofNat 63).toNat),
  bitOk .shl .u64 .u64 (Int.ofNat nb.length) (Int.ofNat 1) (Int.ofNat nb.length * 2 ^ 1),
  decide (IntKind.wrap .u64 (nb.length : Int) = Int.ofNat nb.length),
  true,
  !(0 + 1).beq 0 && [Value.int .u8 (Int.ofNat 0)].length.beq ((0 + 1) * 1) && (!(0 + (0 + 1) + (0 + 1)).ble (capLow (2 * (0 + (0 + 1)) + 1)) && (((0 + (0 + 1) + (0 + 1)) * 2 * (1 + 1)).ble 140737488355328 && ([Value.int .u8 (Int.ofNat 0)].all oneCell && [Value.int .u8 (Int.ofNat 0)].length.beq ((0 + 1) * 1)))) && (isOpen (2 * (0 + (0 + 1)) + 1) && (Nat.beq 0 0 && ([Value.int .u8 (IntKind.wrap .u8 (Int.ofNat (first + k) * 2 ^ 1))].length.beq ((0 + (0 + 1)) * 1) && (Nat.beq 1 1 && (!Nat.beq 1 0 && Nat.beq 5 5))))),
  true,
  bitOk .xor .u64 .u64 (Int.ofNat 0 * Int.ofNat 2 ^ (Int.ofNat 1).toNat) (IntKind.wrap .u64 (Int.ofNat 0 / Int.ofNat 2 ^ (Int.ofNat 63).toNat)) (Int.ofNat 0),
  bitOk .shr .i64 .u64 (Int.ofNat 0) (Int.ofNat 63) (Int.ofNat 0 / Int.ofNat 2 ^ (Int.ofNat 63).toNat),
  bitOk .shl .u64 .u64 (Int.ofNat 0) (Int.ofNat 1) (Int.ofNat 0 * Int.ofNat 2 ^ (Int.ofNat 1).toNat),
  decide (IntKind.wrap .u64 (Int.ofNat 0) = Int.ofNat 0),
  true,
  !(0 + 1).beq 0 && [Value.int .u8 (IntKind.wrap .u8 (Int.ofNat (first + k) * 2 ^ 1))].length.beq ((0 + 1) * 1) && (!(0 + (0 + 1)).ble (capLow 0) && (((0 + (0 + 1)) * 2 * (1 + 1)).ble 140737488355328 && ([Value.int .u8 (IntKind.wrap .u8 (Int.ofNat (first + k) * 2 ^ 1))].all oneCell && [Value.int .u8 (IntKind.wrap .u8 (Int.ofNat (first + k) * 2 ^ 1))].length.beq ((0 + 1) * 1)))) && (Nat.beq 0 0 && Nat.beq 0 0),
  !decide (Int.ofNat (first + k) * 2 ^ 1 > Int.ofNat 127),
  bitOk .xor .u64 .u64 (Int.ofNat (first + k) * 2 ^ 1) (IntKind.wrap .u64 (Int.ofNat (first + k) / Int.ofNat 2 ^ (Int.ofNat 63).toNat)) (Int.ofNat (first + k) * 2 ^ 1),
  bitOk .shr .i64 .u64 (Int.ofNat (first + k)) (Int.ofNat 63) (Int.ofNat (first + k) / Int.ofNat 2 ^ (Int.ofNat 63).toNat),
  bitOk .shl .u64 .u64 (Int.ofNat (first + k)) (Int.ofNat 1) (Int.ofNat (first + k) * 2 ^ 1),
  decide (IntKind.wrap .u64 (Int.ofNat (first + k)) = Int.ofNat (first + k)),
  decide ((first : Int) = (first : Int)) && true && (Nat.beq 15 15 && Nat.beq 0 0 && true && true && k.beq k && (2 * k + 1).beq (2 * k + 1) && true && true),
  decide (IntKind.wrap .i64 ((first : Int) + (k : Int)) = Int.ofNat (first + k)),
  decide (taken = taken) && true && true,
  true,
  !decide (Int.ofNat (first + k) = (first : Int)),
  decide ((first : Int) = (first : Int)) && true && (Nat.beq 15 15 && Nat.beq 0 0 && true && true && k.beq k && (2 * k + 1).beq (2 * k + 1) && true && true),
  decide (IntKind.wrap .i64 ((first : Int) + (k : Int)) = Int.ofNat (first + k))]
theorem runF1s (wb nb : List UInt8) (clock born first k : Nat) (taken : Int) (rv : Value) (o17 : AObj) :
  ((levO Tryz.prog ext WF1s 300).call 17 #[P 12] (HF1s wb nb clock born first k taken rv o17)).map (fun r => (r.1, r.2.1.gl, [17, 16, 42, 43, 35, 36, 5, 6, 7, 8, 9, 45, 11, 12].map r.2.1.objs.get, r.2.2)) =
  some (.tuple #[.bool false, I 0], 5, [
    some (o17),
    some (.cells (.open_ 1) (byteVals (nb)) 5),
    some (.cells .own [S 43 (hd (first + k)).length, I ((hd (first + k)).length : Nat)] 143),
    some (.cells (.open_ 1) (hdV (first + k)) 5),
    some (.cells .own [S 36 (0 + (3 + nb.length + 1)), I (((0 + (3 + nb.length + 1)) : Nat) : Int)] 143),
    some (.cells (.open_ 1) (manVs (first + k) nb) 5),
    some (.map [⟨.string "wal".toUTF8, P 42, born⟩, ⟨.string "manifest".toUTF8, P 35, (clock + 1)⟩] (clock + 3)),
    some (.cells .own [.map (some 5), I 1073741824, I (-1), .bool false] 140),
    some (.cells .own [.slice none 0 0, rv] 84),
    some (.cells .own [P 6, P 12, P 7, .pointer none, .bool false] 46),
    some (.cells .own [P 6, I (((first + k : Nat))), .slice none 0 0, I (12), .bool false] 219),
    some (.map [] 0),
    some (.cells .own [I 9223372036854775807, I 0, .map (some 45)] 216),
    some (.cells .own [P 6, P 9, P 11, .slice none 0 0, I 0, I (((first + k : Nat))), S 16 nb.length, .map none, .bool false] 118)], TF1s wb nb clock born first k taken rv o17) := by kernel_rfl
theorem testsF1s (wb nb : List UInt8) (clock born first k : Nat) (taken : Int) (rv : Value) (o17 : AObj) (hw2 : wb.length ≤ 1000000) (hk0 : 0 < k) (hn : first + k ≤ 60) (hbo : born < clock) (hx : 0 < nb.length) (hx2 : nb.length < 64) : allT (TF1s wb nb clock born first k taken rv o17) := by
  intro b hb
  simp only [TF1s, List.mem_cons, List.not_mem_nil, or_false] at hb
  have e0 := wrap_a (1073741824 - (0 + 0 + ↑(0 + (3 + nb.length + 1)) + (wb.length : Int)))
  have e1 := wrap_a (Int.ofNat (first + k) - (first : Int))
  have e2 := wrap_a ((first : Int) + (k : Int))
  have e3 := wrap_a (1073741824 - (0 + 0 + (wb.length : Int)))
  rcases hb with hb | hb | hb | hb | hb | hb | hb | hb | hb | hb | hb | hb | hb | hb | hb | hb | hb | hb | hb | hb | hb | hb | hb | hb | hb | hb | hb | hb | hb | hb | hb | hb | hb | hb | hb | hb | hb | hb | hb | hb | hb | hb | hb | hb | hb | hb | hb | hb | hb | hb | hb | hb | hb | hb | hb | hb | hb | hb | hb | hb | hb | hb | hb | hb | hb | hb | hb | hb <;> refine hb.trans ?_ <;> clear hb <;>
  first
  | with_reducible rfl
  | (unfold ltT; rw [decide_eq_true_eq]; (try simp only [Int.ofNat_eq_natCast]); omega)
  | (unfold bornT; simp <;> omega)
  | (simp only [e0, e1, e2, e3, wrapM, decide_true, Bool.not_eq_true', decide_eq_true_eq, decide_eq_false_iff_not, Int.ofNat_eq_natCast, gt_iff_lt]; omega)
  | (simp only [Bool.and_eq_true, Bool.or_eq_true, Bool.not_eq_true', beq_t, beq_f, ble_t, ble_f, byteVals_length, oneCell_bytes, capLow, isOpen, len_F0, len_be, one_F0, one_be, len_hd0, one_hd0, len_manVs, one_manVs, len_manVl, one_manVl, List.length_append, List.all_append, List.length_replicate, decide_eq_true_eq, Int.ofNat_eq_natCast, and_true, true_and, or_true, List.length_cons, List.length_nil, List.all_cons, List.all_nil, oneCell, Int.toNat_natCast, List.length_take, List.length_drop, Bool.and_self, Bool.not_false, Bool.not_true]; omega)
  | (simp only [wrapM, Int.ofNat_eq_natCast, decide_eq_true_eq]; split <;> omega)
  | (simp only [e0, e1, e2, e3, wrapM, Int.ofNat_eq_natCast, decide_eq_true_eq, gt_iff_lt]; (repeat' split) <;> omega)
  | (first | exact z1 (by omega) | exact z2 (by omega) | exact z3 (by omega) | exact z4 (by omega) | exact z5 (by omega) | exact z6 (by omega))
  | (simp [beq_t]; done)
  | rfl
theorem stepF1s (wb nb : List UInt8) (clock born first k : Nat) (taken : Int) (rv : Value) (o17 : AObj) (hn : first + k ≤ 60) (hx : 0 < nb.length) (hx2 : nb.length < 64) (hv : VG (pairs 5 [(17, 17), (16, 16), (13, 42), (14, 43), (18, 35), (19, 36), (5, 5), (6, 6), (7, 7), (8, 8), (9, 9), (10, 45), (11, 11), (12, 12)]) rv rv) (ho : OG (pairs 5 [(17, 17), (16, 16), (13, 42), (14, 43), (18, 35), (19, 36), (5, 5), (6, 6), (7, 7), (8, 8), (9, 9), (10, 45), (11, 11), (12, 12)]) o17 o17) :
  ∃ K, (levO Tryz.prog ext WF1s 300).call 17 #[P 12] (HF1s wb nb clock born first k taken rv o17) = some (.tuple #[.bool false, I 0], K, TF1s wb nb clock born first k taken rv o17) ∧
    Gen (pairs 5 [(17, 17), (16, 16), (13, 42), (14, 43), (18, 35), (19, 36), (5, 5), (6, 6), (7, 7), (8, 8), (9, 9), (10, 45), (11, 11), (12, 12)]) K (heapOf 20 5 ([(17, o17)] ++ [(16, rowO (nb))] ++ (fileO 13 (hd (first + k))) ++ (fileO 18 (man (first + k) nb)) ++ (base [walE born, manE (clock + 1)] (clock + 3) (rv) (((first + k : Nat))) (.slice none 0 0) (12) (((first + k : Nat))) (S 16 nb.length)))) := by
  obtain ⟨⟨v, K, ts⟩, hc, h⟩ := Option.map_eq_some_iff.1 (runF1s wb nb clock born first k taken rv o17)
  simp only [Prod.mk.injEq, List.map_cons, List.map_nil, List.cons.injEq, and_true] at h
  obtain ⟨rfl, hgl, ⟨h17, h16, h42, h43, h35, h36, h5, h6, h7, h8, h9, h45, h11, h12⟩, rfl⟩ := h
  refine ⟨K, hc, Gen.of_pairs hgl (by decide) ?_⟩
  intro x hm
  simp only [base, fileO, walE, manE, tops, rowO, noneO, List.cons_append, List.nil_append, List.mem_cons, List.not_mem_nil, or_false] at hm
  rcases hm with rfl | rfl | rfl | rfl | rfl | rfl | rfl | rfl | rfl | rfl | rfl | rfl | rfl | rfl
  · exact fit rfl h17 ho rfl fun _ _ _ h => ⟨_, h⟩
  · refine fit rfl h16 (OG.open_ _ _ ?_) rfl sameFl
    exact LG.bytes _
  · refine fit rfl h42 (OG.own _ ?_) rfl sameFl
    first | exact LG.cons VG.sliceNil (LG.cons hv LG.nil) | exact LS.ok (by repeat' constructor)
  · refine fit rfl h43 (OG.open_ _ _ ?_) rfl sameFl
    rw [← hdV_eq]
    exact LG.bytes _
  · refine fit rfl h35 (OG.own _ ?_) rfl sameFl
    rw [Nat.zero_add, mans_length (by omega) (by omega)]
    first | exact LG.cons VG.sliceNil (LG.cons hv LG.nil) | exact LS.ok (by repeat' constructor)
  · refine fit rfl h36 (OG.open_ _ _ ?_) rfl sameFl
    rw [← mans_vals (by omega) (by omega)]
    exact LG.bytes _
  · exact fit rfl h5 (OG.map2 (VG.string _) (VG.ptr _ rfl) (VG.string _) (VG.ptr _ rfl)) rfl noFl
  · refine fit rfl h6 (OG.own _ ?_) rfl sameFl
    first | exact LG.cons VG.sliceNil (LG.cons hv LG.nil) | exact LS.ok (by repeat' constructor)
  · refine fit rfl h7 (OG.own _ ?_) rfl sameFl
    first | exact LG.cons VG.sliceNil (LG.cons hv LG.nil) | exact LS.ok (by repeat' constructor)
  · refine fit rfl h8 (OG.own _ ?_) rfl sameFl
    first | exact LG.cons VG.sliceNil (LG.cons hv LG.nil) | exact LS.ok (by repeat' constructor)
  · refine fit rfl h9 (OG.own _ ?_) rfl sameFl
    first | exact LG.cons VG.sliceNil (LG.cons hv LG.nil) | exact LS.ok (by repeat' constructor)
  · exact fit rfl h45 OG.map0 rfl noFl
  · refine fit rfl h11 (OG.own _ ?_) rfl sameFl
    first | exact LG.cons VG.sliceNil (LG.cons hv LG.nil) | exact LS.ok (by repeat' constructor)
  · refine fit rfl h12 (OG.own _ ?_) rfl sameFl
    first | exact LG.cons VG.sliceNil (LG.cons hv LG.nil) | exact LS.ok (by repeat' constructor)
end Go.Proofs.YtabpbpdhapaffaaGreatDoor
end
