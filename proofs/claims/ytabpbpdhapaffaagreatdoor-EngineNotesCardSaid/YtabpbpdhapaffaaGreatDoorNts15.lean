/-
  EngineNotes returns true whatever the notes and what stands between them, part 15: GrWB1k, GrWB2k, GrW4, GrQ7, GrGT, GrPLn, GrPLe, GrQ8, GrEA1, GrQ9, GrERfn. Conditions: none but those of the row.
-/
import Derived.Test.YtabpbpdhapaffaaGreatDoorNts14
set_option linter.unusedSimpArgs false
set_option linter.unusedVariables false
section
set_option maxRecDepth 100000
namespace Go.Proofs.YtabpbpdhapaffaaGreatDoor
open Go.Vi
def WWB1k : Word := fun o _ => match o.dst with
  | some 107 => bif o.pos == "wal.go:74" then some 0 else none
  | _ => none
noncomputable def SWB1k (born clock first j : Nat) (rest : List UInt8) (lj : List Value) : St := seenAs (heapOf 25 5 ([(20, .cells .own [P 6, I (first : Nat), S 24 j, I ((rest.length + 12) : Nat), .bool false] 219), (22, .cells (.open_ 1) (byteVals (hd first ++ rest)) 5), (24, .cells (.open_ 1) lj 57)] ++ disk96 [walE born] clock first rest)) (LWXx first j (rest.length + 12) rest lj (.dfr true) (.dfr true) (.dfr true) (.dfr true))
noncomputable def TWB1k (born clock first j : Nat) (rest : List UInt8) (lj : List Value) : List Bool := [!decide ((((rest.length + 12) : Nat) : Int) > (((rest.length + 12) : Nat) : Int))]
theorem runWB1k (born clock first j : Nat) (rest : List UInt8) (lj : List Value) :
  (codeO Tryz.prog WWB1k (levX Tryz.prog extS.ext 300) (levO Tryz.prog extS WWB1k 300) none 123 (Code.behind p96 c96) (SWB1k born clock first j rest lj)).map (fun r => (r.1, r.2.1.ds, r.2.1.h.gl, r.2.1.h.next, [20, 22, 24, 5, 6, 13, 14].map r.2.1.h.objs.get, resultsA Tryz.prog r.2.1.h Tryz.f96 r.2.1.tm, r.2.2)) =
  some (.ret, [], 5, 25, [
    some (.cells .own [P 6, I (first : Nat), S 24 j, I ((rest.length + 12) : Nat), .bool false] 219),
    some (.cells (.open_ 1) (byteVals (hd first ++ rest)) 5),
    some (.cells (.open_ 1) lj 57),
    some (.map [⟨.string "wal".toUTF8, P 13, born⟩] clock),
    some (.cells .own [.map (some 5), I 1073741824, I (-1), .bool false] 140),
    some (.cells .own [S 14 (rest.length + 12), I (((rest.length + 12) : Nat) : Int)] 143),
    some (.cells (.open_ 1) (byteVals (hd first ++ rest)) 5)], some (.tuple #[P 20, I 0]), TWB1k born clock first j rest lj) := by kernel_rfl
theorem testsWB1k (born clock first j : Nat) (rest : List UInt8) (lj : List Value)  : allT (TWB1k born clock first j rest lj) := by
  intro b hb
  simp only [TWB1k, List.mem_cons, List.not_mem_nil, or_false] at hb
  rcases hb with hb <;> refine hb.trans ?_ <;> clear hb <;>
  first
  | with_reducible rfl
  | with_reducible exact isSame_refl _
  | (unfold ltT; rw [decide_eq_true_eq]; (try simp only [Int.ofNat_eq_natCast]); omega)
  | (unfold bornT; simp <;> omega)
  | (simp only [wrapM, decide_true, Bool.not_eq_true', decide_eq_true_eq, decide_eq_false_iff_not, Int.ofNat_eq_natCast, gt_iff_lt]; omega)
  | (simp only [bun, capLow, isOpen, oneCell]; omega)
  | (simp only [wrapM, Int.ofNat_eq_natCast, decide_eq_true_eq]; split <;> omega)
  | (simp only [wrapM, Int.ofNat_eq_natCast, decide_eq_true_eq, gt_iff_lt]; (repeat' split) <;> omega)
  | (first | exact z1 (by omega) | exact z2 (by omega) | exact z3 (by omega) | exact z4 (by omega) | exact z5 (by omega) | exact z6 (by omega))
  | (simp [beq_t]; done)
  | rfl
theorem gotWB1k (born clock first j : Nat) (rest : List UInt8) (lj : List Value) :
  ∃ M, codeO Tryz.prog WWB1k (levX Tryz.prog extS.ext 300) (levO Tryz.prog extS WWB1k 300) none 123 (Code.behind p96 c96) (SWB1k born clock first j rest lj) = some (.ret, M, TWB1k born clock first j rest lj) ∧ M.ds = [] ∧ M.h.gl = 5 ∧ M.h.next = 25 ∧ resultsA Tryz.prog M.h Tryz.f96 M.tm = some (.tuple #[P 20, I 0]) ∧
    ∀ x ∈ ([(20, .cells .own [P 6, I (first : Nat), S 24 j, I ((rest.length + 12) : Nat), .bool false] 219), (22, .cells (.open_ 1) (byteVals (hd first ++ rest)) 5), (24, .cells (.open_ 1) lj 57), (5, .map [⟨.string "wal".toUTF8, P 13, born⟩] clock), (6, .cells .own [.map (some 5), I 1073741824, I (-1), .bool false] 140), (13, .cells .own [S 14 (rest.length + 12), I (((rest.length + 12) : Nat) : Int)] 143), (14, .cells (.open_ 1) (byteVals (hd first ++ rest)) 5)] : List (Nat × AObj)), M.h.objs.get x.1 = some x.2 := by
  obtain ⟨⟨e, M, ts⟩, hc, h⟩ := Option.map_eq_some_iff.1 (runWB1k born clock first j rest lj)
  simp only [Prod.mk.injEq, List.map_cons, List.map_nil, List.cons.injEq, and_true] at h
  obtain ⟨rfl, hds, hgl, hnx, ⟨h20, h22, h24, h5, h6, h13, h14⟩, hres, rfl⟩ := h
  refine ⟨M, hc, hds, hgl, hnx, hres, ?_⟩
  intro x hx
  simp only [List.mem_cons, List.not_mem_nil, or_false] at hx
  rcases hx with rfl | rfl | rfl | rfl | rfl | rfl | rfl
  · exact h20
  · exact h22
  · exact h24
  · exact h5
  · exact h6
  · exact h13
  · exact h14
def WWB2k : Word := fun o _ => match o.dst with
  | some 107 => bif o.pos == "wal.go:74" then some 0 else none
  | _ => none
noncomputable def SWB2k (born born2 clock first j : Nat) (rest : List UInt8) (lj : List Value) : St := seenAs (heapOf 25 5 ([(20, .cells .own [P 6, I (first : Nat), S 24 j, I ((rest.length + 12) : Nat), .bool false] 219), (22, .cells (.open_ 1) (byteVals (hd first ++ rest)) 5), (24, .cells (.open_ 1) lj 57)] ++ disk96 [walE born, manE born2] clock first rest)) (LWXx first j (rest.length + 12) rest lj (.dfr true) (.dfr true) (.dfr true) (.dfr true))
noncomputable def TWB2k (born born2 clock first j : Nat) (rest : List UInt8) (lj : List Value) : List Bool := [!decide ((((rest.length + 12) : Nat) : Int) > (((rest.length + 12) : Nat) : Int))]
theorem runWB2k (born born2 clock first j : Nat) (rest : List UInt8) (lj : List Value) :
  (codeO Tryz.prog WWB2k (levX Tryz.prog extS.ext 300) (levO Tryz.prog extS WWB2k 300) none 123 (Code.behind p96 c96) (SWB2k born born2 clock first j rest lj)).map (fun r => (r.1, r.2.1.ds, r.2.1.h.gl, r.2.1.h.next, [20, 22, 24, 5, 6, 13, 14].map r.2.1.h.objs.get, resultsA Tryz.prog r.2.1.h Tryz.f96 r.2.1.tm, r.2.2)) =
  some (.ret, [], 5, 25, [
    some (.cells .own [P 6, I (first : Nat), S 24 j, I ((rest.length + 12) : Nat), .bool false] 219),
    some (.cells (.open_ 1) (byteVals (hd first ++ rest)) 5),
    some (.cells (.open_ 1) lj 57),
    some (.map [⟨.string "wal".toUTF8, P 13, born⟩, ⟨.string "manifest".toUTF8, P 18, born2⟩] clock),
    some (.cells .own [.map (some 5), I 1073741824, I (-1), .bool false] 140),
    some (.cells .own [S 14 (rest.length + 12), I (((rest.length + 12) : Nat) : Int)] 143),
    some (.cells (.open_ 1) (byteVals (hd first ++ rest)) 5)], some (.tuple #[P 20, I 0]), TWB2k born born2 clock first j rest lj) := by kernel_rfl
theorem testsWB2k (born born2 clock first j : Nat) (rest : List UInt8) (lj : List Value)  : allT (TWB2k born born2 clock first j rest lj) := by
  intro b hb
  simp only [TWB2k, List.mem_cons, List.not_mem_nil, or_false] at hb
  rcases hb with hb <;> refine hb.trans ?_ <;> clear hb <;>
  first
  | with_reducible rfl
  | with_reducible exact isSame_refl _
  | (unfold ltT; rw [decide_eq_true_eq]; (try simp only [Int.ofNat_eq_natCast]); omega)
  | (unfold bornT; simp <;> omega)
  | (simp only [wrapM, decide_true, Bool.not_eq_true', decide_eq_true_eq, decide_eq_false_iff_not, Int.ofNat_eq_natCast, gt_iff_lt]; omega)
  | (simp only [bun, capLow, isOpen, oneCell]; omega)
  | (simp only [wrapM, Int.ofNat_eq_natCast, decide_eq_true_eq]; split <;> omega)
  | (simp only [wrapM, Int.ofNat_eq_natCast, decide_eq_true_eq, gt_iff_lt]; (repeat' split) <;> omega)
  | (first | exact z1 (by omega) | exact z2 (by omega) | exact z3 (by omega) | exact z4 (by omega) | exact z5 (by omega) | exact z6 (by omega))
  | (simp [beq_t]; done)
  | rfl
theorem gotWB2k (born born2 clock first j : Nat) (rest : List UInt8) (lj : List Value) :
  ∃ M, codeO Tryz.prog WWB2k (levX Tryz.prog extS.ext 300) (levO Tryz.prog extS WWB2k 300) none 123 (Code.behind p96 c96) (SWB2k born born2 clock first j rest lj) = some (.ret, M, TWB2k born born2 clock first j rest lj) ∧ M.ds = [] ∧ M.h.gl = 5 ∧ M.h.next = 25 ∧ resultsA Tryz.prog M.h Tryz.f96 M.tm = some (.tuple #[P 20, I 0]) ∧
    ∀ x ∈ ([(20, .cells .own [P 6, I (first : Nat), S 24 j, I ((rest.length + 12) : Nat), .bool false] 219), (22, .cells (.open_ 1) (byteVals (hd first ++ rest)) 5), (24, .cells (.open_ 1) lj 57), (5, .map [⟨.string "wal".toUTF8, P 13, born⟩, ⟨.string "manifest".toUTF8, P 18, born2⟩] clock), (6, .cells .own [.map (some 5), I 1073741824, I (-1), .bool false] 140), (13, .cells .own [S 14 (rest.length + 12), I (((rest.length + 12) : Nat) : Int)] 143), (14, .cells (.open_ 1) (byteVals (hd first ++ rest)) 5)] : List (Nat × AObj)), M.h.objs.get x.1 = some x.2 := by
  obtain ⟨⟨e, M, ts⟩, hc, h⟩ := Option.map_eq_some_iff.1 (runWB2k born born2 clock first j rest lj)
  simp only [Prod.mk.injEq, List.map_cons, List.map_nil, List.cons.injEq, and_true] at h
  obtain ⟨rfl, hds, hgl, hnx, ⟨h20, h22, h24, h5, h6, h13, h14⟩, hres, rfl⟩ := h
  refine ⟨M, hc, hds, hgl, hnx, hres, ?_⟩
  intro x hx
  simp only [List.mem_cons, List.not_mem_nil, or_false] at hx
  rcases hx with rfl | rfl | rfl | rfl | rfl | rfl | rfl
  · exact h20
  · exact h22
  · exact h24
  · exact h5
  · exact h6
  · exact h13
  · exact h14
end Go.Proofs.YtabpbpdhapaffaaGreatDoor
end
section
namespace Go.Proofs.YtabpbpdhapaffaaGreatDoor
open Go.Vi
section
variable {born born2 clock first : Nat} {es : List (List UInt8)}
theorem low5a : LowO (.map [walE born] clock) := fun _ h => OG.map1 (VG.string _) (VG.ptr _ (h 13 (by omega)))
theorem low5b : LowO (.map [walE born, manE born2] clock) := fun _ h => OG.map2 (VG.string _) (VG.ptr _ (h 13 (by omega))) (VG.string _) (VG.ptr _ (h 18 (by omega)))
theorem low6 : LowO (.cells .own [.map (some 5), I 1073741824, I (-1), .bool false] 140) := fun _ h => OG.own _ (LG.cons (VG.map (h 5 (by omega))) (LG.cons (VG.int _ _) (LG.cons (VG.int _ _) (LG.cons (VG.bool _) LG.nil))))
theorem low13 {n : Nat} : LowO (.cells .own [S 14 n, I (n : Nat)] 143) := fun _ h => OG.own _ (LG.cons (VG.slice _ _ _ (h 14 (by omega))) (LG.cons (VG.int _ _) LG.nil))
theorem low14 {l : List UInt8} : LowO (.cells (.open_ 1) (byteVals l) 5) := fun _ _ => OG.open_ _ _ (LG.bytes _)
def be8 (n : Nat) : List UInt8 := [56, 48, 40, 32, 24, 16, 8, 0].map fun (i : Nat) => UInt8.ofNat (n / 2 ^ i)
theorem num_be8 {n : Nat} (h : n ≤ 60) : num (be8 n) = n := by
  have e : ∀ i, (UInt8.ofNat (n / 2 ^ i)).toNat = (n / 2 ^ i) % 256 := fun i => by simp
  have hz : ∀ i, 8 ≤ i → n / 2 ^ i = 0 := fun i hi => Nat.div_eq_of_lt (Nat.lt_of_lt_of_le (by omega : n < 2 ^ 8) (Nat.pow_le_pow_right (by omega) hi))
  have z : (UInt8.ofNat 0).toNat = 0 := rfl
  simp only [num, be8, List.map_cons, List.map_nil, List.foldl_cons, List.foldl_nil, e, z, hz 56 (by omega), hz 48 (by omega), hz 40 (by omega), hz 32 (by omega), hz 24 (by omega), hz 16 (by omega), hz 8 (by omega)]
  have h0 : (2 : Nat) ^ 0 = 1 := by decide
  rw [h0]
  omega
theorem con8 {rest : List UInt8} {cp : Nat} (h : first ≤ 60) : ExtOk Tryz.prog (extS.with [conRD8 (byteVals (hd first ++ rest)) 4 cp 23 first]).ext := by
  refine ExtOk.with extS_ok fun x hx => ?_
  rw [List.mem_singleton.1 hx]
  have hb : bytesAt (byteVals (hd first ++ rest)) 4 (be8 first) := by
    have e : byteVals (hd first ++ rest) = byteVals [119, 97, 108, 49] ++ (byteVals (be8 first) ++ byteVals rest) := by simp [byteVals, hd, be8]
    rw [e]
    exact bytesAt_of
  have := conRD8_ok (byteVals (hd first ++ rest)) 4 cp 23 (l := be8 first) rfl hb (by rw [num_be8 h]; omega)
  rw [num_be8 h] at this
  exact this
/-- The log's objects behind wal.Open. -/
def logO (first : Nat) (es : List (List UInt8)) : List (Nat × AObj) := [(20, .cells .own [P 6, I (first : Nat), S 24 es.length, I (((frms es).length + 12 : Nat) : Int), .bool false] 219), (22, .cells (.open_ 1) (byteVals (hd first ++ frms es)) 5), (24, .cells (.open_ 1) (ents ((frms es).length + 12) 12 es) 57)]
def conWO (fs : List MapEntry) (clock first : Nat) (es : List (List UInt8)) : Con :=
  ⟨96, 20, 5, [P 6], disk96 fs clock first (frms es), .tuple #[P 20, I 0], 25, logO first es ++ disk96 fs clock first (frms es)⟩
theorem conWO1_ok (hne : 0 < es.length) (he : ∀ e ∈ es, e.length ≤ 5000) (hk : es.length ≤ 30) (hT : (frms es).length ≤ 1000000) (hf : first ≤ 60) : Con.Ok Tryz.prog (conWO [walE born] clock first es) := by
  have hpos : 0 < (frms es).length := by
    have := span_lt hne
    show 0 < span es
    omega
  obtain ⟨M, hM, gM⟩ := gotWA1a born clock first (frms es)
  have hpre := codeO_ok (levO_ok 300) _ _ _ _ _ hM (testsWA1a born clock first (frms es) hpos hT)
  have hl := loop96 (first := first) hne he hk hT (low5a (born := born) (clock := clock)) low6 (low13 (n := (frms es).length + 12)) (low14 (l := hd first ++ frms es))
  have hh := TriW.pre (n := 123) (m := 20) hl gM (lt_of_all rfl) (low_of (by decide))
  obtain ⟨M', hM', hds, hgl, hnx, hres, hp⟩ := gotWB1k born clock first es.length (frms es) (ents ((frms es).length + 12) 12 es)
  have hpost := codeO_ok (levO_ok 300) _ _ _ _ _ hM' (testsWB1k born clock first es.length (frms es) (ents ((frms es).length + 12) 12 es))
  have key := TriW.around2 (m := 20) mixedO (con8 hf) extS_ok 300 p96 (c := c96) hpre (by rw [hole96]; exact hh) hpost
  refine Con.ok_of_tri (c := conWO [walE born] clock first es) Tryz.func96 body96 (by rw [Tryz.ntmps96]; show 1 ≤ 123; omega) (.inr rfl) (by rw [Tryz.ntmps96]; exact key) hds hres hnx hgl hp rfl
theorem conWO2_ok (hne : 0 < es.length) (he : ∀ e ∈ es, e.length ≤ 5000) (hk : es.length ≤ 30) (hT : (frms es).length ≤ 1000000) (hf : first ≤ 60) : Con.Ok Tryz.prog (conWO [walE born, manE born2] clock first es) := by
  have hpos : 0 < (frms es).length := by
    have := span_lt hne
    show 0 < span es
    omega
  obtain ⟨M, hM, gM⟩ := gotWA2a born born2 clock first (frms es)
  have hpre := codeO_ok (levO_ok 300) _ _ _ _ _ hM (testsWA2a born born2 clock first (frms es) hpos hT)
  have hl := loop96 (first := first) hne he hk hT (low5b (born := born) (born2 := born2) (clock := clock)) low6 (low13 (n := (frms es).length + 12)) (low14 (l := hd first ++ frms es))
  have hh := TriW.pre (n := 123) (m := 20) hl gM (lt_of_all rfl) (low_of (by decide))
  obtain ⟨M', hM', hds, hgl, hnx, hres, hp⟩ := gotWB2k born born2 clock first es.length (frms es) (ents ((frms es).length + 12) 12 es)
  have hpost := codeO_ok (levO_ok 300) _ _ _ _ _ hM' (testsWB2k born born2 clock first es.length (frms es) (ents ((frms es).length + 12) 12 es))
  have key := TriW.around2 (m := 20) mixedO (con8 hf) extS_ok 300 p96 (c := c96) hpre (by rw [hole96]; exact hh) hpost
  refine Con.ok_of_tri (c := conWO [walE born, manE born2] clock first es) Tryz.func96 body96 (by rw [Tryz.ntmps96]; show 1 ≤ 123; omega) (.inr rfl) (by rw [Tryz.ntmps96]; exact key) hds hres hnx hgl hp rfl
end
end Go.Proofs.YtabpbpdhapaffaaGreatDoor
end
section
set_option maxRecDepth 100000
namespace Go.Proofs.YtabpbpdhapaffaaGreatDoor
open Go.Vi
def sameIn : Option Value → Value → Bool
  | some v, w => sameV 20 v w
  | none, _ => false
theorem same_slice (r o l c : Nat) : sameIn (some (.slice (some ⟨r, o, none⟩) l c)) (.slice (some ⟨r, o, none⟩) l c) = true := by
  show (Nat.beq r r && Nat.beq o o && true && true && Nat.beq l l && Nat.beq c c) = true
  simp
def WGT : Word := fun o _ => match o.dst with
  | some 7 => bif o.pos == "bytes.go:1395" then some 4 else none
  | some 9 => bif o.pos == "wal.go:103" then some 0 else none
  | some 14 => bif o.pos == "wal.go:98" then some 2 else bif o.pos == "wal.go:103" then some 0 else none
  | some 25 => bif o.pos == "wal.go:106" then some 3 else none
  | some 26 => bif o.pos == "wal.go:106" then some 0 else none
  | some 27 => bif o.pos == "wal.go:106" then some 122 else none
  | _ => none
def HGT (c lst : List Value) (first k i sz : Nat) : AHeap := heapOf 28 5 [(20, .cells .own [P 6, I (first : Nat), S 24 k, I (sz : Nat), .bool false] 219), (22, .cells (.open_ 1) c 5), (24, .cells (.open_ 1) lst 57)]
def TGT (c lst : List Value) (first k i sz : Nat) : List Bool := [Nat.beq 24 24 && Nat.beq 0 0 && true && true && k.beq k && (2 * k + 1).beq (2 * k + 1) && true && (decide ((first : Int) = (first : Int)) && true && (sameIn lst[0 + ((first : Int) + (i : Int) - (first : Int)).toNat * 1]? (Value.slice (some { block := 22, off := offIn lst[0 + ((first : Int) + (i : Int) - (first : Int)).toNat * 1]? }) (lenOfIn lst[0 + ((first : Int) + (i : Int) - (first : Int)).toNat * 1]?) (capOfIn lst[0 + ((first : Int) + (i : Int) - (first : Int)).toNat * 1]?)) && true && true)),
  !(lenOfIn lst[0 + ((first : Int) + (i : Int) - (first : Int)).toNat * 1]?).beq 0 && (List.take (lenOfIn lst[0 + ((first : Int) + (i : Int) - (first : Int)).toNat * 1]? * 1) (List.drop (offIn lst[0 + ((first : Int) + (i : Int) - (first : Int)).toNat * 1]?) c)).length.beq (0 + lenOfIn lst[0 + ((first : Int) + (i : Int) - (first : Int)).toNat * 1]?) && (!(0 + lenOfIn lst[0 + ((first : Int) + (i : Int) - (first : Int)).toNat * 1]?).ble (capLow (2 * 0)) && (((0 + lenOfIn lst[0 + ((first : Int) + (i : Int) - (first : Int)).toNat * 1]?) * 2 * (1 + 1)).ble 140737488355328 && ((List.take (lenOfIn lst[0 + ((first : Int) + (i : Int) - (first : Int)).toNat * 1]? * 1) (List.drop (offIn lst[0 + ((first : Int) + (i : Int) - (first : Int)).toNat * 1]?) c)).all oneCell && (List.take (lenOfIn lst[0 + ((first : Int) + (i : Int) - (first : Int)).toNat * 1]? * 1) (List.drop (offIn lst[0 + ((first : Int) + (i : Int) - (first : Int)).toNat * 1]?) c)).length.beq (0 + lenOfIn lst[0 + ((first : Int) + (i : Int) - (first : Int)).toNat * 1]?)))) && (!isOpen (2 * 0) && Nat.beq 0 0),
  isSliceIn 22 lst[0 + ((first : Int) + (i : Int) - (first : Int)).toNat * 1]?,
  decide (Int.ofNat 0 ≤ (first : Int) + (i : Int) - (first : Int)) && decide ((first : Int) + (i : Int) - (first : Int) < (k : Int)),
  decide (IntKind.wrap .i64 ((first : Int) + (i : Int) - (first : Int)) = (first : Int) + (i : Int) - (first : Int)),
  !decide ((first : Int) + (i : Int) ≥ (first : Int) + (k : Int)),
  decide ((first : Int) = (first : Int)) && true && (Nat.beq 24 24 && Nat.beq 0 0 && true && true && k.beq k && (2 * k + 1).beq (2 * k + 1) && true && true),
  decide (IntKind.wrap .i64 ((first : Int) + (k : Int)) = (first : Int) + (k : Int)),
  !decide ((first : Int) + (i : Int) < (first : Int))]
def vGT (c lst : List Value) (first k i sz : Nat) : Value := .tuple #[.slice (some ⟨29, 0, none⟩) (lenOfIn (lst[0 + ((first : Int) + (i : Int) - (first : Int)).toNat * 1]?)) (2 * lenOfIn (lst[0 + ((first : Int) + (i : Int) - (first : Int)).toNat * 1]?) + 1), I 0]
theorem runGT (c lst : List Value) (first k i sz : Nat) :
  ((levO Tryz.prog extS WGT 300).call 99 #[P 20, I ((first : Nat) + (i : Nat) : Int)] (HGT c lst first k i sz)).map (fun r => (r.1, r.2.1.gl, r.2.1.next, r.2.1.objs.get 20, r.2.1.objs.get 22, r.2.1.objs.get 24, r.2.1.objs.get 29, r.2.2)) =
  some (vGT c lst first k i sz, 5, 30, some (.cells .own [P 6, I (first : Nat), S 24 k, I (sz : Nat), .bool false] 219), some (.cells (.open_ 1) c 5), some (.cells (.open_ 1) lst 57), some (.cells (.open_ 1) ((c.drop (offIn (lst[0 + ((first : Int) + (i : Int) - (first : Int)).toNat * 1]?))).take (lenOfIn (lst[0 + ((first : Int) + (i : Int) - (first : Int)).toNat * 1]?) * 1)) 5), TGT c lst first k i sz) := by kernel_rfl
theorem gtIdx {lst : List Value} {first i : Nat} {v : Value} (h : lst[i]? = some v) : (lst[0 + ((first : Int) + (i : Int) - (first : Int)).toNat * 1]?) = some v := by
  rw [show 0 + ((first : Int) + (i : Int) - (first : Int)).toNat * 1 = i by omega]; exact h
theorem testsGT (c lst : List Value) (first k i sz : Nat) {t off m : Nat} {l : List UInt8} (hv : lst[i]? = some (ent t off m)) (hb : (c.drop (off + 4)).take m = byteVals l) (hl : l.length = m) (hm : 0 < m) (hM : m ≤ 6000) (hi : i < k) (hk : k ≤ 1000) (hf : first ≤ 1000) : allT (TGT c lst first k i sz) := by
  have hX : (lst[0 + ((first : Int) + (i : Int) - (first : Int)).toNat * 1]?) = some (.slice (some ⟨22, off + 4, none⟩) m (2 * t + 1 - 2 * (off + 4))) := gtIdx hv
  intro b h
  simp only [TGT, hX] at h
  simp only [offIn, lenOfIn, capOfIn, isSliceIn, same_slice, Nat.mul_one, hb, List.mem_cons, List.not_mem_nil, or_false] at h
  have e0 : IntKind.wrap .i64 ((first : Int) + (i : Int) - (first : Int)) = (first : Int) + (i : Int) - (first : Int) := wrap_i64 (by omega) (by omega)
  have e1 : IntKind.wrap .i64 ((first : Int) + (k : Int)) = (first : Int) + (k : Int) := wrap_i64 (by omega) (by omega)
  rcases h with h | h | h | h | h | h | h | h | h <;> refine h.trans ?_ <;> clear h
  · simp only [e0, e1, Bool.and_eq_true, Bool.not_eq_true', beq_t, beq_f, ble_t, ble_f, byteVals_length, oneCell_bytes, capLow, isOpen, decide_eq_true_eq, decide_eq_false_iff_not, Int.ofNat_eq_natCast, and_true, true_and, ge_iff_le, Nat.beq_refl, decide_true, Bool.and_self, Nat.mul_zero, Nat.zero_add, hl]
    try omega
  · simp only [e0, e1, Bool.and_eq_true, Bool.not_eq_true', beq_t, beq_f, ble_t, ble_f, byteVals_length, oneCell_bytes, capLow, isOpen, decide_eq_true_eq, decide_eq_false_iff_not, Int.ofNat_eq_natCast, and_true, true_and, ge_iff_le, Nat.beq_refl, decide_true, Bool.and_self, Nat.mul_zero, Nat.zero_add, hl]
    try omega
  · simp only [e0, e1, Bool.and_eq_true, Bool.not_eq_true', beq_t, beq_f, ble_t, ble_f, byteVals_length, oneCell_bytes, capLow, isOpen, decide_eq_true_eq, decide_eq_false_iff_not, Int.ofNat_eq_natCast, and_true, true_and, ge_iff_le, Nat.beq_refl, decide_true, Bool.and_self, Nat.mul_zero, Nat.zero_add, hl]
    try omega
  · simp only [e0, e1, Bool.and_eq_true, Bool.not_eq_true', beq_t, beq_f, ble_t, ble_f, byteVals_length, oneCell_bytes, capLow, isOpen, decide_eq_true_eq, decide_eq_false_iff_not, Int.ofNat_eq_natCast, and_true, true_and, ge_iff_le, Nat.beq_refl, decide_true, Bool.and_self, Nat.mul_zero, Nat.zero_add, hl]
    try omega
  · simp only [e0, e1, Bool.and_eq_true, Bool.not_eq_true', beq_t, beq_f, ble_t, ble_f, byteVals_length, oneCell_bytes, capLow, isOpen, decide_eq_true_eq, decide_eq_false_iff_not, Int.ofNat_eq_natCast, and_true, true_and, ge_iff_le, Nat.beq_refl, decide_true, Bool.and_self, Nat.mul_zero, Nat.zero_add, hl]
    try omega
  · simp only [e0, e1, Bool.and_eq_true, Bool.not_eq_true', beq_t, beq_f, ble_t, ble_f, byteVals_length, oneCell_bytes, capLow, isOpen, decide_eq_true_eq, decide_eq_false_iff_not, Int.ofNat_eq_natCast, and_true, true_and, ge_iff_le, Nat.beq_refl, decide_true, Bool.and_self, Nat.mul_zero, Nat.zero_add, hl]
    try omega
  · simp only [e0, e1, Bool.and_eq_true, Bool.not_eq_true', beq_t, beq_f, ble_t, ble_f, byteVals_length, oneCell_bytes, capLow, isOpen, decide_eq_true_eq, decide_eq_false_iff_not, Int.ofNat_eq_natCast, and_true, true_and, ge_iff_le, Nat.beq_refl, decide_true, Bool.and_self, Nat.mul_zero, Nat.zero_add, hl]
    try omega
  · simp only [e0, e1, Bool.and_eq_true, Bool.not_eq_true', beq_t, beq_f, ble_t, ble_f, byteVals_length, oneCell_bytes, capLow, isOpen, decide_eq_true_eq, decide_eq_false_iff_not, Int.ofNat_eq_natCast, and_true, true_and, ge_iff_le, Nat.beq_refl, decide_true, Bool.and_self, Nat.mul_zero, Nat.zero_add, hl]
    try omega
  · simp only [e0, e1, Bool.and_eq_true, Bool.not_eq_true', beq_t, beq_f, ble_t, ble_f, byteVals_length, oneCell_bytes, capLow, isOpen, decide_eq_true_eq, decide_eq_false_iff_not, Int.ofNat_eq_natCast, and_true, true_and, ge_iff_le, Nat.beq_refl, decide_true, Bool.and_self, Nat.mul_zero, Nat.zero_add, hl]
    try omega
def preGT (c lst : List Value) (first k sz : Nat) : List (Nat × AObj) := [(20, (.cells .own [P 6, I (first : Nat), S 24 k, I (sz : Nat), .bool false] 219)), (22, .cells (.open_ 1) c 5), (24, .cells (.open_ 1) lst 57)]
def conGT (c lst : List Value) (first k i sz : Nat) (l : List UInt8) : Con := ⟨99, 28, 5, [P 20, I ((first : Nat) + (i : Nat) : Int)], preGT c lst first k sz, .tuple #[.slice (some ⟨29, 0, none⟩) l.length (2 * l.length + 1), I 0], 30, preGT c lst first k sz ++ [(29, .cells (.open_ 1) (byteVals l) 5)]⟩
theorem conGT_ok (c lst : List Value) (first k i sz : Nat) {t off m : Nat} {l : List UInt8} (hv : lst[i]? = some (ent t off m)) (hb : (c.drop (off + 4)).take m = byteVals l) (hl : l.length = m) (hm : 0 < m) (hM : m ≤ 6000) (hi : i < k) (hk : k ≤ 1000) (hf : first ≤ 1000) : Con.Ok Tryz.prog (conGT c lst first k i sz l) := by
  have hr := runGT c lst first k i sz
  have hX : (lst[0 + ((first : Int) + (i : Int) - (first : Int)).toNat * 1]?) = some (.slice (some ⟨22, off + 4, none⟩) m (2 * t + 1 - 2 * (off + 4))) := gtIdx hv
  cases hc : ((levO Tryz.prog extS WGT 300).call 99 #[P 20, I ((first : Nat) + (i : Nat) : Int)] (HGT c lst first k i sz)) with
  | none => rw [hc] at hr; cases hr
  | some r =>
    obtain ⟨v, K, ts⟩ := r
    rw [hc] at hr
    simp only [Option.map_some, Option.some.injEq, Prod.mk.injEq] at hr
    obtain ⟨hv', hgl, hnx, h20, h22, h24, h29, rfl⟩ := hr
    have ev : v = (conGT c lst first k i sz l).v := by
      rw [hv', vGT, hX]
      subst hl
      simp only [lenOfIn, conGT, Nat.zero_add]
    rw [ev] at hc
    have h29' : K.objs.get 29 = some (.cells (.open_ 1) (byteVals l) 5) := by
      rw [h29, hX]
      simp only [lenOfIn, offIn, Nat.mul_one, hb]
    exact Con.ok_of_run (c := conGT c lst first k i sz l) mixedO extS_ok 300 hc (testsGT c lst first k i sz hv hb hl hm hM hi hk hf) hnx hgl (fun x hx => by
      simp only [conGT, preGT, List.cons_append, List.nil_append, List.mem_cons, List.not_mem_nil, or_false] at hx
      rcases hx with rfl | rfl | rfl | rfl
      · exact h20
      · exact h22
      · exact h24
      · exact h29') (by simp [Con.fits, conGT, preGT]; rfl)
def WPLn : Word := fun o _ => match o.dst with
  | some 4 => bif o.pos == "bytes.go:1392" then some 0 else none
  | some 7 => bif o.pos == "bytes.go:1395" then some 14 else none
  | some 10 => bif o.pos == "bits.go:107" then some 1 else none
  | some 12 => bif o.pos == "bits.go:107" then some 0 else none
  | some 13 => bif o.pos == "bits.go:107" then some 0 else none
  | some 19 => bif o.pos == "engine.go:123" then some 0 else none
  | _ => none

def HPLn (e : List UInt8) (taken : Int) (nv : Value) : AHeap := heapOf 30 5 [(27, .cells .own [P 6, P 20, P 26, .slice none 0 0, I 0, I taken, nv, .map none, .bool false] 118), (29, .cells (.open_ 1) (byteVals (6 :: e)) 5)]
def TPLn (e : List UInt8) (taken : Int) (nv : Value) : List Bool := [!(1 + e.length - 1).beq 0 && (byteVals e).length.beq (0 + (1 + e.length - 1)) && (!(0 + (1 + e.length - 1)).ble (capLow (2 * 0)) && (((0 + (1 + e.length - 1)) * 2 * (1 + 1)).ble 140737488355328 && ((byteVals e).all oneCell && (byteVals e).length.beq (0 + (1 + e.length - 1))))) && (!isOpen (2 * 0) && Nat.beq 0 0),
  true,
  true && (true && (true && ((1 + e.length).ble (capLow (2 * (1 + e.length) + 1)) && (Nat.ble 1 (1 + e.length) && ((!isOpen (2 * (1 + e.length) + 1) && true || !Nat.beq 1 0) && !(capLow (2 * (1 + e.length) + 1)).beq 1))))),
  isIntIn .u8 (some (.int .u8 (Int.ofNat 6))),
  true && decide (Int.ofNat 0 < (((1 + e.length) : Nat) : Int)),
  decide (Int.ofNat 0 < (((1 + e.length) : Nat) : Int))]
theorem runPLn (e : List UInt8) (taken : Int) (nv : Value) :
  ((levO Tryz.prog extS WPLn 300).call 100 #[P 27, .slice (some ⟨29, 0, none⟩) (1 + e.length) (2 * (1 + e.length) + 1)] (HPLn e taken nv)).map (fun r => (r.1, r.2.1.gl, r.2.1.next, r.2.1.objs.get 27, r.2.1.objs.get 29, r.2.1.objs.get 32, r.2.2)) =
  some (.tuple #[], 5, 33, some (.cells .own [P 6, P 20, P 26, .slice none 0 0, I 0, I taken, .slice (some ⟨32, 0, none⟩) (1 + e.length - 1) (2 * (1 + e.length - 1) + 1), .map none, .bool false] 118), some (.cells (.open_ 1) (byteVals (6 :: e)) 5), some (.cells (.open_ 1) (byteVals e) 5), TPLn e taken nv) := by kernel_rfl
theorem testsPLn (e : List UInt8) (taken : Int) (nv : Value) (he : 0 < e.length) (he2 : e.length ≤ 6000) : allT (TPLn e taken nv) := by
  intro b hb
  simp only [TPLn, List.mem_cons, List.not_mem_nil, or_false] at hb
  rcases hb with hb | hb | hb | hb | hb | hb <;> refine hb.trans ?_ <;> clear hb <;>
  first
  | with_reducible rfl
  | with_reducible exact isSame_refl _
  | (unfold ltT; rw [decide_eq_true_eq]; (try simp only [Int.ofNat_eq_natCast]); omega)
  | (unfold bornT; simp <;> omega)
  | (simp only [wrapM, decide_true, Bool.not_eq_true', decide_eq_true_eq, decide_eq_false_iff_not, Int.ofNat_eq_natCast, gt_iff_lt]; omega)
  | (simp only [bun, capLow, isOpen, oneCell]; omega)
  | (simp only [wrapM, Int.ofNat_eq_natCast, decide_eq_true_eq]; split <;> omega)
  | (simp only [wrapM, Int.ofNat_eq_natCast, decide_eq_true_eq, gt_iff_lt]; (repeat' split) <;> omega)
  | (first | exact z1 (by omega) | exact z2 (by omega) | exact z3 (by omega) | exact z4 (by omega) | exact z5 (by omega) | exact z6 (by omega))
  | (simp [beq_t]; done)
  | rfl
def conPLn (e : List UInt8) (taken : Int) (nv : Value) : Con := ⟨100, 30, 5, [P 27, .slice (some ⟨29, 0, none⟩) (1 + e.length) (2 * (1 + e.length) + 1)], [(27, .cells .own [P 6, P 20, P 26, .slice none 0 0, I 0, I taken, nv, .map none, .bool false] 118), (29, .cells (.open_ 1) (byteVals (6 :: e)) 5)], .tuple #[], 33, [(27, .cells .own [P 6, P 20, P 26, .slice none 0 0, I 0, I taken, .slice (some ⟨32, 0, none⟩) e.length (2 * e.length + 1), .map none, .bool false] 118), (29, .cells (.open_ 1) (byteVals (6 :: e)) 5), (32, .cells (.open_ 1) (byteVals e) 5)]⟩
theorem conPLn_ok (e : List UInt8) (taken : Int) (nv : Value) (he : 0 < e.length) (he2 : e.length ≤ 6000) : Con.Ok Tryz.prog (conPLn e taken nv) := by
  have hr := runPLn e taken nv
  cases hc : ((levO Tryz.prog extS WPLn 300).call 100 #[P 27, .slice (some ⟨29, 0, none⟩) (1 + e.length) (2 * (1 + e.length) + 1)] (HPLn e taken nv)) with
  | none => rw [hc] at hr; cases hr
  | some r =>
    obtain ⟨v, K, ts⟩ := r
    rw [hc] at hr
    simp only [Option.map_some, Option.some.injEq, Prod.mk.injEq] at hr
    obtain ⟨rfl, hgl, hnx, h27, h29, h32, rfl⟩ := hr
    rw [show 1 + e.length - 1 = e.length by omega] at h27
    exact Con.ok_of_run (c := conPLn e taken nv) mixedO extS_ok 300 hc (testsPLn e taken nv he he2) hnx hgl (fun x hx => by
      simp only [conPLn, List.mem_cons, List.not_mem_nil, or_false] at hx
      rcases hx with rfl | rfl | rfl
      · exact h27
      · exact h29
      · exact h32) (by first | (simp [Con.fits, conPLn]; done) | (simp [Con.fits, conPLn]; rfl))
def WPLe : Word := fun o _ => match o.dst with
  | _ => none

def HPLe (taken : Int) (nv : Value) : AHeap := heapOf 30 5 [(27, .cells .own [P 6, P 20, P 26, .slice none 0 0, I 0, I taken, nv, .map none, .bool false] 118), (29, .cells (.open_ 1) (byteVals [6]) 5)]
def TPLe (taken : Int) (nv : Value) : List Bool := []
theorem runPLe (taken : Int) (nv : Value) :
  ((levO Tryz.prog extS WPLe 300).call 100 #[P 27, .slice (some ⟨29, 0, none⟩) 1 3] (HPLe taken nv)).map (fun r => (r.1, r.2.1.gl, r.2.1.next, r.2.1.objs.get 27, r.2.1.objs.get 29, r.2.1.objs.get 31, r.2.2)) =
  some (.tuple #[], 5, 32, some (.cells .own [P 6, P 20, P 26, .slice none 0 0, I 0, I taken, .slice (some ⟨31, 0, none⟩) 0 0, .map none, .bool false] 118), some (.cells (.open_ 1) (byteVals [6]) 5), some (.cells .own [] 5), TPLe taken nv) := by kernel_rfl
theorem testsPLe (taken : Int) (nv : Value)  : allT (TPLe taken nv) := fun b hb => absurd hb List.not_mem_nil
def conPLe (taken : Int) (nv : Value) : Con := ⟨100, 30, 5, [P 27, .slice (some ⟨29, 0, none⟩) 1 3], [(27, .cells .own [P 6, P 20, P 26, .slice none 0 0, I 0, I taken, nv, .map none, .bool false] 118), (29, .cells (.open_ 1) (byteVals [6]) 5)], .tuple #[], 32, [(27, .cells .own [P 6, P 20, P 26, .slice none 0 0, I 0, I taken, .slice (some ⟨31, 0, none⟩) 0 0, .map none, .bool false] 118), (29, .cells (.open_ 1) (byteVals [6]) 5), (31, .cells .own [] 5)]⟩
theorem conPLe_ok (taken : Int) (nv : Value)  : Con.Ok Tryz.prog (conPLe taken nv) := by
  have hr := runPLe taken nv
  cases hc : ((levO Tryz.prog extS WPLe 300).call 100 #[P 27, .slice (some ⟨29, 0, none⟩) 1 3] (HPLe taken nv)) with
  | none => rw [hc] at hr; cases hr
  | some r =>
    obtain ⟨v, K, ts⟩ := r
    rw [hc] at hr
    simp only [Option.map_some, Option.some.injEq, Prod.mk.injEq] at hr
    obtain ⟨rfl, hgl, hnx, h27, h29, h31, rfl⟩ := hr
    exact Con.ok_of_run (c := conPLe taken nv) mixedO extS_ok 300 hc (testsPLe taken nv) hnx hgl (fun x hx => by
      simp only [conPLe, List.mem_cons, List.not_mem_nil, or_false] at hx
      rcases hx with rfl | rfl | rfl
      · exact h27
      · exact h29
      · exact h31) (by first | (simp [Con.fits, conPLe]; done) | (simp [Con.fits, conPLe]; rfl))
end Go.Proofs.YtabpbpdhapaffaaGreatDoor
end
section
namespace Go.Proofs.YtabpbpdhapaffaaGreatDoor
open Go.Vi
noncomputable def c34 : Code := Tryz.f34.body.getD .skip
def p34 : List Bool := [true, true, true, true, true, false, true]
/-- The round of its loop. -/
noncomputable def b34 : Code := match Code.hole p34 c34 with
  | .block _ (.loop c) => c
  | _ => .skip
theorem hole34 : Code.hole p34 c34 = .block 0 (.loop b34) := by kernel_rfl
theorem body34 : Tryz.f34.body = some c34 := by kernel_rfl
end Go.Proofs.YtabpbpdhapaffaaGreatDoor
end
section
set_option maxRecDepth 100000
namespace Go.Proofs.YtabpbpdhapaffaaGreatDoor
open Go.Vi
def WEA1 : Word := fun _ _ => none
noncomputable def SEA1 (born clock : Nat) (es : List (List UInt8)) : St := ⟨argsT [P 6] 0 .nil, [], heapOf 20 5 (disk96 [walE born] clock 0 (frms es))⟩
def LEA1 (born clock : Nat) (es : List (List UInt8)) : List (Nat × Slot) := [(0, .val (P 6)), (2, .top), (3, .top), (4, .val (P 20)), (5, .top), (6, .val (P 27)), (7, .top), (8, .val (I 0)), (11, .val (.tuple #[P 20, I 0])), (12, .top), (13, .val (.tuple #[P 20, I 0])), (14, .top), (15, .top), (16, .top), (17, .bool false), (19, .top), (20, .top), (21, .top), (22, .val (.agg #[P 6, P 20, P 26, .slice none 0 0, I 0, I 0, .slice none 0 0, .map none, .bool false])), (23, .top), (24, .top), (25, .top), (26, .top), (27, .bool false), (29, .top), (30, .top), (31, .top), (32, .top), (33, .top), (34, .top), (35, .top)]
noncomputable def TEA1 (born clock : Nat) (es : List (List UInt8)) : List Bool := [true,
  bornT [born] clock,
  twice (P 6),
  Nat.beq 5 5,
  twice (some (AObj.map [walE born] clock)),
  twice (some (AObj.cells .own [.map (some 5), I 1073741824, .int .i64 (Int.negSucc 0), .bool false] 140)),
  twice (some (AObj.cells .own [S 14 ((frms es).length + 12), I ((((frms es).length + 12) : Nat) : Int)] 143)),
  twice (some (AObj.cells (.open_ 1) (byteVals (hd 0 ++ frms es)) 5))]
theorem runEA1 (born clock : Nat) (es : List (List UInt8)) :
  (codeO Tryz.prog WEA1 (levX Tryz.prog (extS.with [conWO [walE born] clock 0 es]).ext 300) (levO Tryz.prog (extS.with [conWO [walE born] clock 0 es]) WEA1 300) none 52 (Code.ahead p34 c34) (SEA1 born clock es)).map (fun r => (r.1, r.2.1.ds, r.2.1.h.gl, [20, 22, 24, 25, 26, 27, 5, 6, 13, 14].map r.2.1.h.objs.get, [0, 4, 6, 8, 11, 13, 22].map (fun t => (r.2.1.tm.get t).getD Go.undef), (LEA1 born clock es).all (fun x => x.2.fits ((r.2.1.tm.get x.1).getD Go.undef)), (List.range 52).all (fun t => ((LEA1 born clock es).any fun x => Nat.beq x.1 t) || Slot.undef.fits ((r.2.1.tm.get t).getD Go.undef)), r.2.2)) =
  some (.normal, [], 5, [
    some (.cells .own [P 6, I ((0 : Nat) : Int), S 24 es.length, I ((((frms es).length + 12) : Nat) : Int), .bool false] 219),
    some (.cells (.open_ 1) (byteVals (hd 0 ++ frms es)) 5),
    some (.cells (.open_ 1) (ents ((frms es).length + 12) 12 es) 57),
    some (.map [] 0),
    some (.cells .own [I 9223372036854775807, I 0, .map (some 25)] 216),
    some (.cells .own [P 6, P 20, P 26, .slice none 0 0, I 0, I 0, .slice none 0 0, .map none, .bool false] 118),
    some (.map [⟨.string "wal".toUTF8, P 13, born⟩] clock),
    some (.cells .own [.map (some 5), I 1073741824, I (-1), .bool false] 140),
    some (.cells .own [S 14 ((frms es).length + 12), I ((((frms es).length + 12) : Nat) : Int)] 143),
    some (.cells (.open_ 1) (byteVals (hd 0 ++ frms es)) 5)], [P 6, P 20, P 27, I 0, .tuple #[P 20, I 0], .tuple #[P 20, I 0], .agg #[P 6, P 20, P 26, .slice none 0 0, I 0, I 0, .slice none 0 0, .map none, .bool false]], true, true, TEA1 born clock es) := by kernel_rfl
theorem testsEA1 (born clock : Nat) (es : List (List UInt8)) (hb : born < clock) : allT (TEA1 born clock es) := by
  intro b hb
  simp only [TEA1, List.mem_cons, List.not_mem_nil, or_false] at hb
  rcases hb with hb | hb | hb | hb | hb | hb | hb | hb <;> refine hb.trans ?_ <;> clear hb <;>
  first
  | with_reducible rfl
  | with_reducible exact isSame_refl _
  | with_reducible exact twice_ok _
  | (unfold ltT; rw [decide_eq_true_eq]; (try simp only [Int.ofNat_eq_natCast]); omega)
  | (unfold bornT; simp <;> omega)
  | (simp only [wrapM, decide_true, Bool.not_eq_true', decide_eq_true_eq, decide_eq_false_iff_not, Int.ofNat_eq_natCast, gt_iff_lt]; omega)
  | (simp only [bun, capLow, isOpen, oneCell]; omega)
  | (simp only [wrapM, Int.ofNat_eq_natCast, decide_eq_true_eq]; split <;> omega)
  | (simp only [wrapM, Int.ofNat_eq_natCast, decide_eq_true_eq, gt_iff_lt]; (repeat' split) <;> omega)
  | (first | exact z1 (by omega) | exact z2 (by omega) | exact z3 (by omega) | exact z4 (by omega) | exact z5 (by omega) | exact z6 (by omega))
  | (simp [beq_t]; done)
  | rfl
theorem gotEA1 (born clock : Nat) (es : List (List UInt8))  :
  ∃ M, codeO Tryz.prog WEA1 (levX Tryz.prog (extS.with [conWO [walE born] clock 0 es]).ext 300) (levO Tryz.prog (extS.with [conWO [walE born] clock 0 es]) WEA1 300) none 52 (Code.ahead p34 c34) (SEA1 born clock es) = some (.normal, M, TEA1 born clock es) ∧ GenT 52 (pairs 5 [(5, 5), (6, 6), (7, 7), (8, 8), (9, 9), (10, 10), (11, 11), (12, 12), (13, 13), (14, 14), (15, 15), (16, 16), (17, 17), (18, 18), (19, 19), (20, 20), (22, 22), (24, 24), (25, 25), (26, 26), (27, 27)]) M (heapOf 28 5 ([(20, .cells .own [P 6, I ((0 : Nat) : Int), S 24 es.length, I ((((frms es).length + 12) : Nat) : Int), .bool false] 219)] ++ [(22, .cells (.open_ 1) (byteVals (hd 0 ++ frms es)) 5)] ++ [(24, .cells (.open_ 1) (ents ((frms es).length + 12) 12 es) 57)] ++ [(25, .map [] 0)] ++ [(26, .cells .own [I 9223372036854775807, I 0, .map (some 25)] 216)] ++ [(27, .cells .own [P 6, P 20, P 26, .slice none 0 0, I 0, I 0, .slice none 0 0, .map none, .bool false] 118)] ++ [(5, .map [⟨.string "wal".toUTF8, P 13, born⟩] clock)] ++ [(6, .cells .own [.map (some 5), I 1073741824, I (-1), .bool false] 140)] ++ [(13, .cells .own [S 14 ((frms es).length + 12), I ((((frms es).length + 12) : Nat) : Int)] 143)] ++ [(14, .cells (.open_ 1) (byteVals (hd 0 ++ frms es)) 5)])) (LEA1 born clock es) := by
  obtain ⟨⟨e, M, ts⟩, hc, h⟩ := Option.map_eq_some_iff.1 (runEA1 born clock es)
  simp only [Prod.mk.injEq, List.map_cons, List.map_nil, List.cons.injEq, and_true] at h
  obtain ⟨rfl, hds, hgl, ⟨h20, h22, h24, h25, h26, h27, h5, h6, h13, h14⟩, ⟨v0, v4, v6, v8, v11, v13, v22⟩, hfit, hall, rfl⟩ := h
  refine ⟨M, hc, Gen.of_pairs hgl (by decide) ?_, hfit, ?_, hall, once_of ?_, hds⟩
  · intro x hm
    simp only [base, fileO, walE, manE, tops, rowO, noneO, List.cons_append, List.nil_append, List.mem_cons, List.not_mem_nil, or_false] at hm
    rcases hm with rfl | rfl | rfl | rfl | rfl | rfl | rfl | rfl | rfl | rfl
    · refine fit rfl h20 (OG.own _ ?_) rfl sameFl
      exact LS.ok (by repeat' constructor)
    · refine fit rfl h22 (OG.open_ _ _ ?_) rfl sameFl
      exact LG.bytes _
    · exact fit rfl h24 (OG.open_ _ _ (ents_ok (((frms es).length + 12)) (by rfl) es 12)) rfl sameFl
    · exact fit rfl h25 OG.map0 rfl noFl
    · refine fit rfl h26 (OG.own _ ?_) rfl sameFl
      exact LS.ok (by repeat' constructor)
    · refine fit rfl h27 (OG.own _ ?_) rfl sameFl
      exact LS.ok (by repeat' constructor)
    · exact fit rfl h5 (OG.map1 (VG.string _) (VG.ptr _ rfl)) rfl noFl
    · refine fit rfl h6 (OG.own _ ?_) rfl sameFl
      exact LS.ok (by repeat' constructor)
    · refine fit rfl h13 (OG.own _ ?_) rfl sameFl
      exact LS.ok (by repeat' constructor)
    · refine fit rfl h14 (OG.open_ _ _ ?_) rfl sameFl
      exact LG.bytes _
  · intro x hx v hv
    simp only [LEA1, List.mem_cons, List.not_mem_nil, or_false] at hx
    rcases hx with rfl | rfl | rfl | rfl | rfl | rfl | rfl | rfl | rfl | rfl | rfl | rfl | rfl | rfl | rfl | rfl | rfl | rfl | rfl | rfl | rfl | rfl | rfl | rfl | rfl | rfl | rfl | rfl | rfl | rfl | rfl <;> first | (cases hv; done) | (simp only [Slot.val.injEq] at hv; subst hv)
    · simp only [v0]
      first | exact VG.ptr _ rfl | exact VG.slice _ _ _ rfl | exact VG.int _ _ | exact VG.bool _
    · simp only [v4]
      first | exact VG.ptr _ rfl | exact VG.slice _ _ _ rfl | exact VG.int _ _ | exact VG.bool _
    · simp only [v6]
      first | exact VG.ptr _ rfl | exact VG.slice _ _ _ rfl | exact VG.int _ _ | exact VG.bool _
    · simp only [v8]
      first | exact VG.ptr _ rfl | exact VG.slice _ _ _ rfl | exact VG.int _ _ | exact VG.bool _
    · simp only [v11]
      exact VG.tuple (LG.cons (VG.ptr _ rfl) (LG.cons (VG.int _ _) LG.nil))
    · simp only [v13]
      exact VG.tuple (LG.cons (VG.ptr _ rfl) (LG.cons (VG.int _ _) LG.nil))
    · simp only [v22]
      exact VG.agg (LG.cons (VG.ptr _ rfl) (LG.cons (VG.ptr _ rfl) (LG.cons (VG.ptr _ rfl) (LG.cons VG.sliceNil (LG.cons (VG.int _ _) (LG.cons (VG.int _ _) (LG.cons VG.sliceNil (LG.cons VG.mapNil (LG.cons (VG.bool _) LG.nil)))))))))
  · show (List.map (·.1) (LEA1 born clock es)).Nodup
    simp only [LEA1, List.map_cons, List.map_nil]
    decide
end Go.Proofs.YtabpbpdhapaffaaGreatDoor
end
section
namespace Go.Proofs.YtabpbpdhapaffaaGreatDoor
open Go.Vi
def LE (r8 : Int) : List (Nat × Slot) := [(0, .val (P 6)), (2, .top), (3, .top), (4, .val (P 20)), (5, .top), (6, .val (P 27)), (7, .top), (8, .val (I r8)), (11, .val (.tuple #[P 20, I 0])), (12, .top), (13, .val (.tuple #[P 20, I 0])), (14, .top), (15, .top), (16, .top), (17, .bool false), (19, .top), (20, .top), (21, .top), (22, .val (.agg #[P 6, P 20, P 26, .slice none 0 0, I 0, I 0, .slice none 0 0, .map none, .bool false])), (23, .top), (24, .top), (25, .top), (26, .top), (27, .bool false), (29, .top), (30, .top), (31, .top), (32, .top), (33, .top), (34, .top), (35, .top)]
def LEV (r8 : Int) (t42 : Value) : List (Nat × Slot) := [(0, .val (P 6)), (2, .top), (3, .top), (4, .val (P 20)), (5, .top), (6, .val (P 27)), (7, .top), (8, .val (I r8)), (9, .top), (10, .top), (11, .val (.tuple #[P 20, I 0])), (12, .top), (13, .val (.tuple #[P 20, I 0])), (14, .top), (15, .top), (16, .top), (17, .bool false), (19, .top), (20, .top), (21, .top), (22, .val (.agg #[P 6, P 20, P 26, .slice none 0 0, I 0, I 0, .slice none 0 0, .map none, .bool false])), (23, .top), (24, .top), (25, .top), (26, .top), (27, .bool false), (29, .top), (30, .top), (31, .top), (32, .top), (33, .top), (34, .top), (35, .top), (36, .top), (37, .top), (38, .top), (39, .bool true), (40, .top), (41, .top), (42, .val t42), (43, .top), (44, .top), (45, .val t42), (46, .top), (47, .top), (48, .top), (49, .top)]
end Go.Proofs.YtabpbpdhapaffaaGreatDoor
end
section
set_option maxRecDepth 100000
namespace Go.Proofs.YtabpbpdhapaffaaGreatDoor
open Go.Vi
def WERfn : Word := fun o _ => match o.dst with
  | some 14 => bif o.pos == "wal.go:98" then some 2 else none
  | some 39 => bif o.pos == "engine.go:78" then some 1 else none
  | some 41 => bif o.pos == "engine.go:78" then some 2 else none
  | _ => none
noncomputable def SERfn (first k i sz : Nat) (taken : Int) (c lst : List Value) (e : List UInt8) (nv : Value) (o5 o6 o13 o14 : AObj) : St := seenAs (heapOf 28 5 ([(20, .cells .own [P 6, I (first : Nat), S 24 k, I (sz : Nat), .bool false] 219), (22, .cells (.open_ 1) c 5), (24, .cells (.open_ 1) lst 57), (25, .map [] 0), (26, .cells .own [I 9223372036854775807, I 0, .map (some 25)] 216), (27, .cells .own [P 6, P 20, P 26, .slice none 0 0, I 0, I taken, nv, .map none, .bool false] 118)] ++ [(5, o5), (6, o6), (13, o13), (14, o14)])) (LE ((first : Int) + (i : Int)))
def LERfn (first k i sz : Nat) (taken : Int) (c lst : List Value) (e : List UInt8) (nv : Value) (o5 o6 o13 o14 : AObj) : List (Nat × Slot) := [(0, .val (P 6)), (2, .top), (3, .top), (4, .val (P 20)), (5, .top), (6, .val (P 27)), (7, .top), (8, .val (I ((first : Int) + ((i + 1 : Nat) : Int)))), (9, .top), (10, .top), (11, .val (.tuple #[P 20, I 0])), (12, .top), (13, .val (.tuple #[P 20, I 0])), (14, .top), (15, .top), (16, .top), (17, .bool false), (19, .top), (20, .top), (21, .top), (22, .val (.agg #[P 6, P 20, P 26, .slice none 0 0, I 0, I 0, .slice none 0 0, .map none, .bool false])), (23, .top), (24, .top), (25, .top), (26, .top), (27, .bool false), (29, .top), (30, .top), (31, .top), (32, .top), (33, .top), (34, .top), (35, .top), (36, .top), (37, .top), (38, .top), (39, .bool true), (40, .top), (41, .top), (42, .val (.tuple #[.slice (some ⟨21, 0, none⟩) (e.length + 1) (2 * (e.length + 1) + 1), I 0])), (43, .top), (44, .top), (45, .val (.tuple #[.slice (some ⟨21, 0, none⟩) (e.length + 1) (2 * (e.length + 1) + 1), I 0])), (46, .top), (47, .top), (48, .top), (49, .top)]
noncomputable def TERfn (first k i sz : Nat) (taken : Int) (c lst : List Value) (e : List UInt8) (nv : Value) (o5 o6 o13 o14 : AObj) : List Bool := [decide (IntKind.wrap .i64 ((first : Int) + (i : Int) + 1) = (first : Int) + (i : Int) + 1),
  twice (P 27),
  isSame (Value.slice (some ⟨29, 0, none⟩) (e.length + 1) (2 * (e.length + 1) + 1)) (.slice (some ⟨29, 0, none⟩) (1 + e.length) (2 * (1 + e.length) + 1)),
  Nat.beq 5 5,
  twice (some (AObj.cells .own [P 6, P 20, P 26, .slice none 0 0, I 0, I taken, nv, .map none, .bool false] 118)),
  twice (some (AObj.cells (.open_ 1) (byteVals (6 :: e)) 5)),
  twice (P 20),
  twice (Value.int .i64 ((first : Int) + (i : Int))),
  Nat.beq 5 5,
  twice (some (AObj.cells .own [P 6, I (first : Int), S 24 k, I (sz : Int), .bool false] 219)),
  twice (some (AObj.cells (.open_ 1) c 5)),
  twice (some (AObj.cells (.open_ 1) lst 57)),
  decide ((first : Int) + (i : Int) < (first : Int) + (k : Int)),
  decide ((first : Int) = (first : Int)) && true && (Nat.beq 24 24 && Nat.beq 0 0 && true && true && k.beq k && (2 * k + 1).beq (2 * k + 1) && true && true),
  decide (IntKind.wrap .i64 ((first : Int) + (k : Int)) = (first : Int) + (k : Int))]
theorem runERfn (first k i sz : Nat) (taken : Int) (c lst : List Value) (e : List UInt8) (nv : Value) (o5 o6 o13 o14 : AObj) :
  (codeO Tryz.prog WERfn (levX Tryz.prog (extS.with [conGT c lst first k i sz (6 :: e), conPLn e taken nv]).ext 300) (levO Tryz.prog (extS.with [conGT c lst first k i sz (6 :: e), conPLn e taken nv]) WERfn 300) none 52 (b34) (SERfn first k i sz taken c lst e nv o5 o6 o13 o14)).map (fun r => (r.1, r.2.1.ds, r.2.1.h.gl, [20, 22, 24, 25, 26, 27, 5, 6, 13, 14, 29, 32].map r.2.1.h.objs.get, [0, 4, 6, 8, 11, 13, 22, 42, 45].map (fun t => (r.2.1.tm.get t).getD Go.undef), (LERfn first k i sz taken c lst e nv o5 o6 o13 o14).all (fun x => x.2.fits ((r.2.1.tm.get x.1).getD Go.undef)), (List.range 52).all (fun t => ((LERfn first k i sz taken c lst e nv o5 o6 o13 o14).any fun x => Nat.beq x.1 t) || Slot.undef.fits ((r.2.1.tm.get t).getD Go.undef)), r.2.2)) =
  some (.normal, [], 5, [
    some (.cells .own [P 6, I (first : Nat), S 24 k, I (sz : Nat), .bool false] 219),
    some (.cells (.open_ 1) c 5),
    some (.cells (.open_ 1) lst 57),
    some (.map [] 0),
    some (.cells .own [I 9223372036854775807, I 0, .map (some 25)] 216),
    some (.cells .own [P 6, P 20, P 26, .slice none 0 0, I 0, I taken, .slice (some ⟨32, 0, none⟩) e.length (2 * e.length + 1), .map none, .bool false] 118),
    some (o5),
    some (o6),
    some (o13),
    some (o14),
    some (.cells (.open_ 1) (byteVals (6 :: e)) 5),
    some (.cells (.open_ 1) (byteVals e) 5)], [P 6, P 20, P 27, I ((first : Int) + (i : Int) + 1), .tuple #[P 20, I 0], .tuple #[P 20, I 0], .agg #[P 6, P 20, P 26, .slice none 0 0, I 0, I 0, .slice none 0 0, .map none, .bool false], .tuple #[.slice (some ⟨29, 0, none⟩) (e.length + 1) (2 * (e.length + 1) + 1), I 0], .tuple #[.slice (some ⟨29, 0, none⟩) (e.length + 1) (2 * (e.length + 1) + 1), I 0]], true, true, TERfn first k i sz taken c lst e nv o5 o6 o13 o14) := by kernel_rfl
theorem testsERfn (first k i sz : Nat) (taken : Int) (c lst : List Value) (e : List UInt8) (nv : Value) (o5 o6 o13 o14 : AObj) (hi : i < k) (hk : k ≤ 1000) (hf : first ≤ 1000) : allT (TERfn first k i sz taken c lst e nv o5 o6 o13 o14) := by
  intro b hb
  simp only [TERfn, List.mem_cons, List.not_mem_nil, or_false] at hb
  have e0 := wrap_a ((first : Int) + (i : Int) + 1)
  have e1 := wrap_a ((first : Int) + (k : Int))
  rcases hb with hb | hb | hb | hb | hb | hb | hb | hb | hb | hb | hb | hb | hb | hb | hb <;> refine hb.trans ?_ <;> clear hb <;>
  first
  | with_reducible rfl
  | with_reducible exact isSame_refl _
  | with_reducible exact twice_ok _
  | (unfold ltT; rw [decide_eq_true_eq]; (try simp only [Int.ofNat_eq_natCast]); omega)
  | (unfold bornT; simp <;> omega)
  | (simp only [e0, e1, wrapM, decide_true, Bool.not_eq_true', decide_eq_true_eq, decide_eq_false_iff_not, Int.ofNat_eq_natCast, gt_iff_lt]; omega)
  | (simp only [bun, capLow, isOpen, oneCell]; omega)
  | (simp only [wrapM, Int.ofNat_eq_natCast, decide_eq_true_eq]; split <;> omega)
  | (simp only [e0, e1, wrapM, Int.ofNat_eq_natCast, decide_eq_true_eq, gt_iff_lt]; (repeat' split) <;> omega)
  | (first | exact z1 (by omega) | exact z2 (by omega) | exact z3 (by omega) | exact z4 (by omega) | exact z5 (by omega) | exact z6 (by omega))
  | (simp [beq_t]; done)
  | rfl
  | exact isSame_of (by simp [Nat.add_comm])
theorem gotERfn (first k i sz : Nat) (taken : Int) (c lst : List Value) (e : List UInt8) (nv : Value) (o5 o6 o13 o14 : AObj) (lc : ∀ ρ : Nat → Option Nat, LG ρ c c) (ll : ∀ ρ : Nat → Option Nat, ρ 22 = some 22 → LG ρ lst lst) (l5 : LowO o5) (l6 : LowO o6) (l13 : LowO o13) (l14 : LowO o14) :
  ∃ M, codeO Tryz.prog WERfn (levX Tryz.prog (extS.with [conGT c lst first k i sz (6 :: e), conPLn e taken nv]).ext 300) (levO Tryz.prog (extS.with [conGT c lst first k i sz (6 :: e), conPLn e taken nv]) WERfn 300) none 52 (b34) (SERfn first k i sz taken c lst e nv o5 o6 o13 o14) = some (.normal, M, TERfn first k i sz taken c lst e nv o5 o6 o13 o14) ∧ GenT 52 (pairs 5 [(5, 5), (6, 6), (7, 7), (8, 8), (9, 9), (10, 10), (11, 11), (12, 12), (13, 13), (14, 14), (15, 15), (16, 16), (17, 17), (18, 18), (19, 19), (20, 20), (22, 22), (24, 24), (25, 25), (26, 26), (27, 27), (21, 29), (23, 32)]) M (heapOf 28 5 ([(20, .cells .own [P 6, I (first : Nat), S 24 k, I (sz : Nat), .bool false] 219)] ++ [(22, .cells (.open_ 1) c 5)] ++ [(24, .cells (.open_ 1) lst 57)] ++ [(25, .map [] 0)] ++ [(26, .cells .own [I 9223372036854775807, I 0, .map (some 25)] 216)] ++ [(27, .cells .own [P 6, P 20, P 26, .slice none 0 0, I 0, I taken, .slice (some ⟨23, 0, none⟩) e.length (2 * e.length + 1), .map none, .bool false] 118)] ++ [(5, o5)] ++ [(6, o6)] ++ [(13, o13)] ++ [(14, o14)] ++ [(21, .cells (.open_ 1) (byteVals (6 :: e)) 5)] ++ [(23, .cells (.open_ 1) (byteVals e) 5)])) (LERfn first k i sz taken c lst e nv o5 o6 o13 o14) := by
  obtain ⟨⟨e, M, ts⟩, hc, h⟩ := Option.map_eq_some_iff.1 (runERfn first k i sz taken c lst e nv o5 o6 o13 o14)
  simp only [Prod.mk.injEq, List.map_cons, List.map_nil, List.cons.injEq, and_true] at h
  obtain ⟨rfl, hds, hgl, ⟨h20, h22, h24, h25, h26, h27, h5, h6, h13, h14, h29, h32⟩, ⟨v0, v4, v6, v8, v11, v13, v22, v42, v45⟩, hfit, hall, rfl⟩ := h
  refine ⟨M, hc, Gen.of_pairs hgl (by decide) ?_, hfit, ?_, hall, once_of ?_, hds⟩
  · intro x hm
    simp only [base, fileO, walE, manE, tops, rowO, noneO, List.cons_append, List.nil_append, List.mem_cons, List.not_mem_nil, or_false] at hm
    rcases hm with rfl | rfl | rfl | rfl | rfl | rfl | rfl | rfl | rfl | rfl | rfl | rfl
    · refine fit rfl h20 (OG.own _ ?_) rfl sameFl
      exact LS.ok (by repeat' constructor)
    · exact fit rfl h22 (OG.open_ _ _ (lc _)) rfl sameFl
    · exact fit rfl h24 (OG.open_ _ _ (ll _ rfl)) rfl sameFl
    · exact fit rfl h25 OG.map0 rfl noFl
    · refine fit rfl h26 (OG.own _ ?_) rfl sameFl
      exact LS.ok (by repeat' constructor)
    · refine fit rfl h27 (OG.own _ ?_) rfl sameFl
      exact LS.ok (by repeat' constructor)
    · exact fit rfl h5 (l5 _ (low_of (by decide))) rfl fun _ _ _ h => ⟨_, h⟩
    · exact fit rfl h6 (l6 _ (low_of (by decide))) rfl fun _ _ _ h => ⟨_, h⟩
    · exact fit rfl h13 (l13 _ (low_of (by decide))) rfl fun _ _ _ h => ⟨_, h⟩
    · exact fit rfl h14 (l14 _ (low_of (by decide))) rfl fun _ _ _ h => ⟨_, h⟩
    · refine fit rfl h29 (OG.open_ _ _ ?_) rfl sameFl
      exact LG.bytes _
    · refine fit rfl h32 (OG.open_ _ _ ?_) rfl sameFl
      exact LG.bytes _
  · intro x hx v hv
    simp only [LERfn, List.mem_cons, List.not_mem_nil, or_false] at hx
    rcases hx with rfl | rfl | rfl | rfl | rfl | rfl | rfl | rfl | rfl | rfl | rfl | rfl | rfl | rfl | rfl | rfl | rfl | rfl | rfl | rfl | rfl | rfl | rfl | rfl | rfl | rfl | rfl | rfl | rfl | rfl | rfl | rfl | rfl | rfl | rfl | rfl | rfl | rfl | rfl | rfl | rfl | rfl | rfl | rfl | rfl | rfl | rfl <;> first | (cases hv; done) | (simp only [Slot.val.injEq] at hv; subst hv)
    · simp only [v0]
      first | exact VG.ptr _ rfl | exact VG.slice _ _ _ rfl | exact VG.int _ _ | exact VG.bool _
    · simp only [v4]
      first | exact VG.ptr _ rfl | exact VG.slice _ _ _ rfl | exact VG.int _ _ | exact VG.bool _
    · simp only [v6]
      first | exact VG.ptr _ rfl | exact VG.slice _ _ _ rfl | exact VG.int _ _ | exact VG.bool _
    · simp only [v8]
      rw [show (first : Int) + (i : Int) + 1 = (first : Int) + ((i + 1 : Nat) : Int) by omega]
      first | exact VG.ptr _ rfl | exact VG.slice _ _ _ rfl | exact VG.int _ _ | exact VG.bool _
    · simp only [v11]
      exact VG.tuple (LG.cons (VG.ptr _ rfl) (LG.cons (VG.int _ _) LG.nil))
    · simp only [v13]
      exact VG.tuple (LG.cons (VG.ptr _ rfl) (LG.cons (VG.int _ _) LG.nil))
    · simp only [v22]
      exact VG.agg (LG.cons (VG.ptr _ rfl) (LG.cons (VG.ptr _ rfl) (LG.cons (VG.ptr _ rfl) (LG.cons VG.sliceNil (LG.cons (VG.int _ _) (LG.cons (VG.int _ _) (LG.cons VG.sliceNil (LG.cons VG.mapNil (LG.cons (VG.bool _) LG.nil)))))))))
    · simp only [v42]
      exact VG.tuple (LG.cons (VG.slice _ _ _ rfl) (LG.cons (VG.int _ _) LG.nil))
    · simp only [v45]
      exact VG.tuple (LG.cons (VG.slice _ _ _ rfl) (LG.cons (VG.int _ _) LG.nil))
  · show (List.map (·.1) (LERfn first k i sz taken c lst e nv o5 o6 o13 o14)).Nodup
    simp only [LERfn, List.map_cons, List.map_nil]
    decide
end Go.Proofs.YtabpbpdhapaffaaGreatDoor
end
