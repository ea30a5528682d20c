/-
  EngineNotes returns true whatever the notes and what stands between them, part 17: GrEB, GrEO1, GrLDe, GrLDs, GrQ10, GrEA2e, GrEA2s. Conditions: none but those of the row.
-/
import Derived.Test.YtabpbpdhapaffaaGreatDoorNts11
import Derived.Test.YtabpbpdhapaffaaGreatDoorNts15
import Derived.Test.YtabpbpdhapaffaaGreatDoorNts16
set_option linter.unusedSimpArgs false
set_option linter.unusedVariables false
section
set_option maxRecDepth 100000
namespace Go.Proofs.YtabpbpdhapaffaaGreatDoor
open Go.Vi
def WEB : Word := fun _ _ => none
noncomputable def SEB (first k sz : Nat) (taken : Int) (c lst : List Value) (nv : Value) (o5 o6 o13 o14 : AObj) (o21 o23 : AObj) (t42 : Value) : St := seenAs (heapOf 28 5 [(20, .cells .own [P 6, I (first : Nat), S 24 k, I (sz : Nat), .bool false] 219), (22, .cells (.open_ 1) c 5), (24, .cells (.open_ 1) lst 57), (25, .map [] 0), (26, .cells .own [I 9223372036854775807, I 0, .map (some 25)] 216), (27, .cells .own [P 6, P 20, P 26, .slice none 0 0, I 0, I taken, nv, .map none, .bool false] 118), (5, o5), (6, o6), (13, o13), (14, o14), (21, o21), (23, o23)]) (LEX first k sz taken c lst nv o5 o6 o13 o14 o21 o23 t42)
theorem runEB (first k sz : Nat) (taken : Int) (c lst : List Value) (nv : Value) (o5 o6 o13 o14 : AObj) (o21 o23 : AObj) (t42 : Value) :
  (codeO Tryz.prog WEB (levX Tryz.prog extS.ext 300) (levO Tryz.prog extS WEB 300) none 52 (Code.behind p34 c34) (SEB first k sz taken c lst nv o5 o6 o13 o14 o21 o23 t42)).map (fun r => (r.1, r.2.1.ds, r.2.1.h.gl, r.2.1.h.next, [20, 22, 24, 25, 26, 27, 5, 6, 13, 14, 21, 23].map r.2.1.h.objs.get, resultsA Tryz.prog r.2.1.h Tryz.f34 r.2.1.tm, r.2.2)) =
  some (.ret, [], 5, 28, [
    some (.cells .own [P 6, I (first : Nat), S 24 k, I (sz : Nat), .bool false] 219),
    some (.cells (.open_ 1) c 5),
    some (.cells (.open_ 1) lst 57),
    some (.map [] 0),
    some (.cells .own [I 9223372036854775807, I 0, .map (some 25)] 216),
    some (.cells .own [P 6, P 20, P 26, .slice none 0 0, I 0, I taken, nv, .map none, .bool false] 118),
    some (o5),
    some (o6),
    some (o13),
    some (o14),
    some (o21),
    some (o23)], some (.tuple #[P 27, I 0]), []) := by kernel_rfl
theorem gotEB (first k sz : Nat) (taken : Int) (c lst : List Value) (nv : Value) (o5 o6 o13 o14 : AObj) (o21 o23 : AObj) (t42 : Value) :
  ∃ M, codeO Tryz.prog WEB (levX Tryz.prog extS.ext 300) (levO Tryz.prog extS WEB 300) none 52 (Code.behind p34 c34) (SEB first k sz taken c lst nv o5 o6 o13 o14 o21 o23 t42) = some (.ret, M, []) ∧ M.ds = [] ∧ M.h.gl = 5 ∧ M.h.next = 28 ∧ resultsA Tryz.prog M.h Tryz.f34 M.tm = some (.tuple #[P 27, I 0]) ∧
    ∀ x ∈ ([(20, .cells .own [P 6, I (first : Nat), S 24 k, I (sz : Nat), .bool false] 219), (22, .cells (.open_ 1) c 5), (24, .cells (.open_ 1) lst 57), (25, .map [] 0), (26, .cells .own [I 9223372036854775807, I 0, .map (some 25)] 216), (27, .cells .own [P 6, P 20, P 26, .slice none 0 0, I 0, I taken, nv, .map none, .bool false] 118), (5, o5), (6, o6), (13, o13), (14, o14), (21, o21), (23, o23)] : List (Nat × AObj)), M.h.objs.get x.1 = some x.2 := by
  obtain ⟨⟨e, M, ts⟩, hc, h⟩ := Option.map_eq_some_iff.1 (runEB first k sz taken c lst nv o5 o6 o13 o14 o21 o23 t42)
  simp only [Prod.mk.injEq, List.map_cons, List.map_nil, List.cons.injEq, and_true] at h
  obtain ⟨rfl, hds, hgl, hnx, ⟨h20, h22, h24, h25, h26, h27, h5, h6, h13, h14, h21, h23⟩, hres, rfl⟩ := h
  refine ⟨M, hc, hds, hgl, hnx, hres, ?_⟩
  intro x hx
  simp only [List.mem_cons, List.not_mem_nil, or_false] at hx
  rcases hx with rfl | rfl | rfl | rfl | rfl | rfl | rfl | rfl | rfl | rfl | rfl | rfl
  · exact h20
  · exact h22
  · exact h24
  · exact h25
  · exact h26
  · exact h27
  · exact h5
  · exact h6
  · exact h13
  · exact h14
  · exact h21
  · exact h23
end Go.Proofs.YtabpbpdhapaffaaGreatDoor
end
section
namespace Go.Proofs.YtabpbpdhapaffaaGreatDoor
open Go.Vi
section
variable {born clock : Nat} {es : List (List UInt8)}
/-- The engine's objects behind engine.Open. -/
def engO (first : Nat) (taken : Int) (es : List (List UInt8)) (e : List UInt8) : List (Nat × AObj) :=
  logO first es ++ [(25, .map [] 0), (26, .cells .own [I 9223372036854775807, I 0, .map (some 25)] 216), (27, .cells .own [P 6, P 20, P 26, .slice none 0 0, I 0, I taken, nvE e, .map none, .bool false] 118)]
def lastOf (es : List (List UInt8)) : List UInt8 := es[es.length - 1]?.getD []
def conEO1 (born clock : Nat) (es : List (List UInt8)) : Con :=
  ⟨34, 20, 5, [P 6], disk96 [walE born] clock 0 (frms es), .tuple #[P 27, I 0], 28, engO 0 0 es (lastOf es) ++ disk96 [walE born] clock 0 (frms es) ++ [(23, o23E (lastOf es))]⟩
theorem conEA {born clock : Nat} (hne : 0 < es.length) (he : ∀ e ∈ es, e.length ≤ 5000) (hk : es.length ≤ 30) (hT : (frms es).length ≤ 1000000) : ExtOk Tryz.prog (extS.with [conWO [walE born] clock 0 es]).ext :=
  ExtOk.with extS_ok fun x hx => by rw [List.mem_singleton.1 hx]; exact conWO1_ok hne he hk hT (by omega)
theorem conEO1_ok (hne : 0 < es.length) (he : ∀ e ∈ es, e.length ≤ 5000) (hk : es.length ≤ 30) (hT : (frms es).length ≤ 1000000) (hb : born < clock) : Con.Ok Tryz.prog (conEO1 born clock es) := by
  obtain ⟨M, hM, gM⟩ := gotEA1 born clock es
  have hpre := codeO_ok (levO_ok 300) _ _ _ _ _ hM (testsEA1 born clock es hb)
  have hl := loop34 (first := 0) (sz := (frms es).length + 12) (taken := 0) (nv := .slice none 0 0) hne he hk (by omega) (low5a (born := born) (clock := clock)) low6 (low13 (n := (frms es).length + 12)) (low14 (l := hd 0 ++ frms es))
  have hh := TriW.pre (n := 52) (m := 20) hl gM (lt_of_all rfl) (low_of (by decide))
  obtain ⟨M', hM', hds, hgl, hnx, hres, hp⟩ := gotEB 0 es.length ((frms es).length + 12) 0 (byteVals (hd 0 ++ frms es)) (ents ((frms es).length + 12) 12 es) (nvE (lastOf es)) (.map [walE born] clock) (.cells .own [.map (some 5), I 1073741824, I (-1), .bool false] 140) (.cells .own [S 14 ((frms es).length + 12), I (((frms es).length + 12 : Nat) : Int)] 143) (.cells (.open_ 1) (byteVals (hd 0 ++ frms es)) 5) (.cells (.open_ 1) (byteVals (6 :: lastOf es)) 5) (o23E (lastOf es)) (t42E (lastOf es))
  have hpost := codeO_ok (levO_ok 300) _ _ _ _ _ hM' (fun _ h => absurd h List.not_mem_nil)
  have key := TriW.around2 (m := 20) mixedO (conEA hne he hk hT) extS_ok 300 p34 (c := c34) hpre (by rw [hole34]; exact hh) hpost
  refine Con.ok_of_tri (c := conEO1 born clock es) Tryz.func34 body34 (by rw [Tryz.ntmps34]; show 1 ≤ 52; omega) (.inr rfl) (by rw [Tryz.ntmps34]; exact key) hds hres hnx hgl (fun x hx => hp x ?_) ?_
  · simp only [conEO1, engO, logO, disk96, List.cons_append, List.nil_append, List.mem_cons, List.not_mem_nil, or_false] at hx
    rcases hx with rfl | rfl | rfl | rfl | rfl | rfl | rfl | rfl | rfl | rfl | rfl <;> simp [List.length_append, hd_length]
  · cases h : lastOf es <;> simp only [conEO1, engO, h] <;> rfl
end
end Go.Proofs.YtabpbpdhapaffaaGreatDoor
end
section
set_option maxRecDepth 100000
set_option maxHeartbeats 1000000
namespace Go.Proofs.YtabpbpdhapaffaaGreatDoor
open Go.Vi
theorem below {f : Nat → Bool} {n N : Nat} (h : n < N) (hf : (List.range N).all f = true) : f n = true := List.all_eq_true.1 hf n (List.mem_range.2 h)
theorem belowP {p : Nat → Prop} [DecidablePred p] {n N : Nat} (h : n < N) (hf : (List.range N).all (fun m => decide (p m)) = true) : p n := of_decide_eq_true (List.all_eq_true.1 hf n (List.mem_range.2 h))
theorem dN {n : Nat} (h : n ≤ 60) : ((Int.ofNat 0 + (((IntKind.wrap .u8 (Int.ofNat n * 2 ^ 1)) % 128) * 2 ^ 0)) / 2 ^ 1) = Int.ofNat n := belowP (p := fun n => ((Int.ofNat 0 + (((IntKind.wrap .u8 (Int.ofNat n * 2 ^ 1)) % 128) * 2 ^ 0)) / 2 ^ 1) = Int.ofNat n) (N := 61) (by omega) (by kernel_rfl)
def WLDe : Word := fun o n => match o.dst with
  | some 4 => bif o.pos == "bits.go:93" then some 5 else none
  | some 5 => bif o.pos == "bits.go:93" then some 2 else none
  | some 7 => bif o.pos == "bits.go:93" then some 8 else none
  | some 10 => bif o.pos == "bits.go:93" then some 6 else none
  | some 13 => bif o.pos == "bits.go:107" then some 0 else none
  | some 22 => bif o.pos == "bits.go:111" then some 8 else none
  | some 23 => bif o.pos == "bits.go:111" then some 2 else none
  | some 26 => bif o.pos == "bits.go:111" then some 4 else none
  | some 27 => bif o.pos == "bits.go:111" then some 9 else none
  | some 29 => bif o.pos == "bits.go:112" then some 1 else none
  | some 31 => bif o.pos == "bits.go:113" then some 1101 else none
  | _ => none

def HLDe (born born2 clock n : Nat) : AHeap := heapOf 28 5 [(27, .cells .own [P 6, P 20, P 26, .slice none 0 0, I 0, I 0, .slice none 0 0, .map none, .bool false] 118), (5, .map [walE born, manE born2] clock), (6, .cells .own [.map (some 5), I 1073741824, I (-1), .bool false] 140), (18, .cells .own [S 19 4, I ((4 : Nat) : Int)] 143), (19, .cells (.open_ 1) (manVe n []) 5)]
def TLDe (born born2 clock n : Nat) : List Bool := [bornT [born, born2] clock,
  bitOk .xor .i64 .i64 (Int.ofNat 0) (IntKind.wrap .i64 (Int.ofNat 0 - IntKind.wrap .i64 (Int.ofNat 0 % (Int.ofNat 1 + Int.ofNat 1)))) (Int.ofNat 0),
  bitOk .and .u64 .u64 (Int.ofNat 0 + Int.ofNat 0) (Int.ofNat 1) (Int.ofNat 0 % (Int.ofNat 1 + Int.ofNat 1)),
  decide (IntKind.wrap .i64 (Int.ofNat 0 / Int.ofNat 2 ^ (Int.ofNat 1).toNat) = Int.ofNat 0),
  bitOk .shr .u64 .u64 (Int.ofNat 0 + Int.ofNat 0) (Int.ofNat 1) (Int.ofNat 0 / Int.ofNat 2 ^ (Int.ofNat 1).toNat),
  true,
  true,
  bitOk .or .u64 .u64 (Int.ofNat 0) (Int.ofNat 0 * Int.ofNat 2 ^ (Int.ofNat 0).toNat) (Int.ofNat 0 + Int.ofNat 0),
  bitOk .shl .u64 .i64 (Int.ofNat 0) (IntKind.wrap .i64 (Int.ofNat 7 * Int.ofNat 0)) (Int.ofNat 0 * Int.ofNat 2 ^ (Int.ofNat 0).toNat),
  decide (IntKind.wrap .u64 (Int.ofNat 0 % (Int.ofNat 127 + Int.ofNat 1)) = Int.ofNat 0),
  bitOk .and .u8 .u8 (Int.ofNat 0) (Int.ofNat 127) (Int.ofNat 0 % (Int.ofNat 127 + Int.ofNat 1)),
  isIntIn .u8 (some (.int .u8 (Int.ofNat 0))),
  bitOk .xor .i64 .i64 (Int.ofNat 0) (IntKind.wrap .i64 (Int.ofNat 0 - IntKind.wrap .i64 (Int.ofNat 0 % (Int.ofNat 1 + Int.ofNat 1)))) (Int.ofNat 0),
  bitOk .and .u64 .u64 (Int.ofNat 0 + Int.ofNat 0) (Int.ofNat 1) (Int.ofNat 0 % (Int.ofNat 1 + Int.ofNat 1)),
  decide (IntKind.wrap .i64 (Int.ofNat 0 / Int.ofNat 2 ^ (Int.ofNat 1).toNat) = Int.ofNat 0),
  bitOk .shr .u64 .u64 (Int.ofNat 0 + Int.ofNat 0) (Int.ofNat 1) (Int.ofNat 0 / Int.ofNat 2 ^ (Int.ofNat 1).toNat),
  true,
  true,
  bitOk .or .u64 .u64 (Int.ofNat 0) (Int.ofNat 0 * Int.ofNat 2 ^ (Int.ofNat 0).toNat) (Int.ofNat 0 + Int.ofNat 0),
  bitOk .shl .u64 .i64 (Int.ofNat 0) (IntKind.wrap .i64 (Int.ofNat 7 * Int.ofNat 0)) (Int.ofNat 0 * Int.ofNat 2 ^ (Int.ofNat 0).toNat),
  decide (IntKind.wrap .u64 (Int.ofNat 0 % (Int.ofNat 127 + Int.ofNat 1)) = Int.ofNat 0),
  bitOk .and .u8 .u8 (Int.ofNat 0) (Int.ofNat 127) (Int.ofNat 0 % (Int.ofNat 127 + Int.ofNat 1)),
  isIntIn .u8 (some (.int .u8 (Int.ofNat 0))),
  bitOk .xor .i64 .i64 (Int.ofNat 0) (IntKind.wrap .i64 (Int.ofNat 0 - IntKind.wrap .i64 (Int.ofNat 0 % (Int.ofNat 1 + Int.ofNat 1)))) (Int.ofNat 0),
  bitOk .and .u64 .u64 (Int.ofNat 0 + Int.ofNat 0) (Int.ofNat 1) (Int.ofNat 0 % (Int.ofNat 1 + Int.ofNat 1)),
  decide (IntKind.wrap .i64 (Int.ofNat 0 / Int.ofNat 2 ^ (Int.ofNat 1).toNat) = Int.ofNat 0),
  bitOk .shr .u64 .u64 (Int.ofNat 0 + Int.ofNat 0) (Int.ofNat 1) (Int.ofNat 0 / Int.ofNat 2 ^ (Int.ofNat 1).toNat),
  true,
  true,
  bitOk .or .u64 .u64 (Int.ofNat 0) (Int.ofNat 0 * Int.ofNat 2 ^ (Int.ofNat 0).toNat) (Int.ofNat 0 + Int.ofNat 0),
  bitOk .shl .u64 .i64 (Int.ofNat 0) (IntKind.wrap .i64 (Int.ofNat 7 * Int.ofNat 0)) (Int.ofNat 0 * Int.ofNat 2 ^ (Int.ofNat 0).toNat),
  decide (IntKind.wrap .u64 (Int.ofNat 0 % (Int.ofNat 127 + Int.ofNat 1)) = Int.ofNat 0),
  bitOk .and .u8 .u8 (Int.ofNat 0) (Int.ofNat 127) (Int.ofNat 0 % (Int.ofNat 127 + Int.ofNat 1)),
  isIntIn .u8 (some (.int .u8 (Int.ofNat 0))),
  bitOk .xor .i64 .i64 ((Int.ofNat 0 + IntKind.wrap .u8 (Int.ofNat n * 2 ^ 1) % 128 * 2 ^ 0) / 2 ^ 1) (IntKind.wrap .i64 (Int.ofNat 0 - IntKind.wrap .i64 ((Int.ofNat 0 + IntKind.wrap .u8 (Int.ofNat n * 2 ^ 1) % 128 * 2 ^ 0) % (Int.ofNat 1 + Int.ofNat 1)))) ((Int.ofNat 0 + IntKind.wrap .u8 (Int.ofNat n * 2 ^ 1) % 128 * 2 ^ 0) / 2 ^ 1),
  bitOk .and .u64 .u64 (Int.ofNat 0 + IntKind.wrap .u8 (Int.ofNat n * 2 ^ 1) % 128 * 2 ^ 0) (Int.ofNat 1) ((Int.ofNat 0 + IntKind.wrap .u8 (Int.ofNat n * 2 ^ 1) % 128 * 2 ^ 0) % (Int.ofNat 1 + Int.ofNat 1)),
  decide (IntKind.wrap .i64 ((Int.ofNat 0 + IntKind.wrap .u8 (Int.ofNat n * 2 ^ 1) % 128 * 2 ^ 0) / 2 ^ 1) = (Int.ofNat 0 + IntKind.wrap .u8 (Int.ofNat n * 2 ^ 1) % 128 * 2 ^ 0) / 2 ^ 1),
  bitOk .shr .u64 .u64 (Int.ofNat 0 + IntKind.wrap .u8 (Int.ofNat n * 2 ^ 1) % 128 * 2 ^ 0) (Int.ofNat 1) ((Int.ofNat 0 + IntKind.wrap .u8 (Int.ofNat n * 2 ^ 1) % 128 * 2 ^ 0) / 2 ^ 1),
  !decide (IntKind.wrap .u8 (Int.ofNat n * 2 ^ 1) = Int.ofNat 0),
  decide (IntKind.wrap .u8 (Int.ofNat n * 2 ^ 1) < Int.ofNat 128),
  bitOk .or .u64 .u64 (Int.ofNat 0) (IntKind.wrap .u8 (Int.ofNat n * 2 ^ 1) % 128 * 2 ^ 0) (Int.ofNat 0 + IntKind.wrap .u8 (Int.ofNat n * 2 ^ 1) % 128 * 2 ^ 0),
  bitOk .shl .u64 .i64 (IntKind.wrap .u8 (Int.ofNat n * 2 ^ 1) % 128) (IntKind.wrap .i64 (Int.ofNat 7 * Int.ofNat 0)) (IntKind.wrap .u8 (Int.ofNat n * 2 ^ 1) % 128 * 2 ^ 0),
  decide (IntKind.wrap .u64 (IntKind.wrap .u8 (Int.ofNat n * 2 ^ 1) % 128) = IntKind.wrap .u8 (Int.ofNat n * 2 ^ 1) % 128),
  bitOk .and .u8 .u8 (IntKind.wrap .u8 (Int.ofNat n * 2 ^ 1)) (Int.ofNat 127) (IntKind.wrap .u8 (Int.ofNat n * 2 ^ 1) % 128),
  isIntIn .u8 (some (.int .u8 (IntKind.wrap .u8 (Int.ofNat n * 2 ^ 1))))]
theorem runLDe (born born2 clock n : Nat) :
  ((levO Tryz.prog extS WLDe 300).call 98 #[P 27] (HLDe born born2 clock n)).map (fun r => (r.1, r.2.1.gl, r.2.1.next, r.2.1.objs.get 27, [5, 6, 18, 19].map r.2.1.objs.get, r.2.2)) =
  some (I 0, 5, 35, some (.cells .own [P 6, P 20, P 26, .slice none 0 0, I 0, I (((Int.ofNat 0 + (((IntKind.wrap .u8 (Int.ofNat n * 2 ^ 1)) % 128) * 2 ^ 0)) / 2 ^ 1)), .slice (some ⟨29, 3, none⟩) 0 0, .map none, .bool false] 118), [some (.map [walE born, manE born2] clock), some (.cells .own [.map (some 5), I 1073741824, I (-1), .bool false] 140), some (.cells .own [S 19 4, I ((4 : Nat) : Int)] 143), some (.cells (.open_ 1) (manVe n []) 5)], TLDe born born2 clock n) := by kernel_rfl
theorem testsLDe (born born2 clock n : Nat) (hb : born < clock) (hb2 : born2 < clock) (hbb : born ≠ born2) (hn : n ≤ 60) (h0 : 0 < n) : allT (TLDe born born2 clock n) := by
  intro b hb
  simp only [TLDe, List.mem_cons, List.not_mem_nil, or_false] at hb
  rcases hb with hb | hb | hb | hb | hb | hb | hb | hb | hb | hb | hb | hb | hb | hb | hb | hb | hb | hb | hb | hb | hb | hb | hb | hb | hb | hb | hb | hb | hb | hb | hb | hb | hb | hb | hb | hb | hb | hb | hb | hb | hb | hb | hb | hb | hb <;> refine hb.trans ?_ <;> clear hb <;>
  first
  | with_reducible rfl
  | with_reducible exact isSame_refl _
  | decide +kernel
  | (revert n; decide +kernel)
  | (unfold ltT; rw [decide_eq_true_eq]; (try simp only [Int.ofNat_eq_natCast]); omega)
  | (unfold bornT; simp <;> omega)
  | (simp only [wrapM, decide_true, Bool.not_eq_true', decide_eq_true_eq, decide_eq_false_iff_not, Int.ofNat_eq_natCast, gt_iff_lt]; omega)
  | (simp only [bun, capLow, isOpen, oneCell]; omega)
  | (simp only [wrapM, Int.ofNat_eq_natCast, decide_eq_true_eq]; split <;> omega)
  | (simp only [wrapM, Int.ofNat_eq_natCast, decide_eq_true_eq, gt_iff_lt]; (repeat' split) <;> omega)
  | (first | exact z1 (by omega) | exact z2 (by omega) | exact z3 (by omega) | exact z4 (by omega) | exact z5 (by omega) | exact z6 (by omega))
  | (simp [beq_t]; done)
  | rfl
def conLDe (born born2 clock n : Nat) : Con := ⟨98, 28, 5, [P 27], [(27, .cells .own [P 6, P 20, P 26, .slice none 0 0, I 0, I 0, .slice none 0 0, .map none, .bool false] 118), (5, .map [walE born, manE born2] clock), (6, .cells .own [.map (some 5), I 1073741824, I (-1), .bool false] 140), (18, .cells .own [S 19 4, I ((4 : Nat) : Int)] 143), (19, .cells (.open_ 1) (manVe n []) 5)], I 0, 35, [(27, .cells .own [P 6, P 20, P 26, .slice none 0 0, I 0, I (n : Nat), .slice (some ⟨29, 3, none⟩) 0 0, .map none, .bool false] 118), (5, .map [walE born, manE born2] clock), (6, .cells .own [.map (some 5), I 1073741824, I (-1), .bool false] 140), (18, .cells .own [S 19 4, I ((4 : Nat) : Int)] 143), (19, .cells (.open_ 1) (manVe n []) 5)]⟩
theorem conLDe_ok (born born2 clock n : Nat) (hb : born < clock) (hb2 : born2 < clock) (hbb : born ≠ born2) (hn : n ≤ 60) (h0 : 0 < n) : Con.Ok Tryz.prog (conLDe born born2 clock n) := by
  have hr := runLDe born born2 clock n
  cases hc : ((levO Tryz.prog extS WLDe 300).call 98 #[P 27] (HLDe born born2 clock n)) with
  | none => rw [hc] at hr; cases hr
  | some r =>
    obtain ⟨v, K, ts⟩ := r
    rw [hc] at hr
    simp only [Option.map_some, Option.some.injEq, Prod.mk.injEq, List.map_cons, List.map_nil, List.cons.injEq, and_true] at hr
    obtain ⟨rfl, hgl, hnx, h27, ⟨h5, h6, h18, h19⟩, rfl⟩ := hr
    rw [dN hn] at h27
    exact Con.ok_of_run (c := conLDe born born2 clock n) mixedO extS_ok 300 hc (testsLDe born born2 clock n hb hb2 hbb hn h0) hnx hgl (fun x hx => by
      simp only [conLDe, List.mem_cons, List.not_mem_nil, or_false] at hx
      rcases hx with rfl | rfl | rfl | rfl | rfl
      · exact h27
      · exact h5
      · exact h6
      · exact h18
      · exact h19) (by first | (simp [Con.fits, conLDe]; done) | (simp [Con.fits, conLDe]; rfl))
def WLDs : Word := fun o n => match o.dst with
  | some 4 => bif o.pos == "bits.go:93" then some 5 else bif o.pos == "bytes.go:1392" then some 0 else none
  | some 5 => bif o.pos == "bits.go:93" then some 2 else none
  | some 7 => bif o.pos == "bits.go:93" then some 8 else bif o.pos == "bytes.go:1395" then some 14 else none
  | some 9 => bif o.pos == "engine.go:129" then some 0 else none
  | some 10 => bif o.pos == "bits.go:107" then some 1 else bif o.pos == "bits.go:93" then some 6 else none
  | some 12 => bif o.pos == "bits.go:107" then some 0 else none
  | some 13 => bif o.pos == "bits.go:107" then some 0 else none
  | some 15 => bif o.pos == "engine.go:129" then some 0 else none
  | some 19 => bif o.pos == "engine.go:123" then some 1100 else none
  | some 22 => bif o.pos == "bits.go:111" then some 8 else bif o.pos == "engine.go:130" then some 0 else none
  | some 23 => bif o.pos == "bits.go:111" then some 2 else none
  | some 26 => bif o.pos == "bits.go:111" then some 4 else none
  | some 27 => bif o.pos == "bits.go:111" then some 9 else none
  | some 29 => bif o.pos == "bits.go:112" then some 1 else bif o.pos == "engine.go:131" then some 0 else none
  | some 31 => bif o.pos == "bits.go:113" then some 2110 else none
  | some 45 => bif o.pos == "engine.go:92" then some 0 else none
  | _ => none

def HLDs (born born2 clock n : Nat) (nb : List UInt8) : AHeap := heapOf 28 5 [(27, .cells .own [P 6, P 20, P 26, .slice none 0 0, I 0, I 0, .slice none 0 0, .map none, .bool false] 118), (5, .map [walE born, manE born2] clock), (6, .cells .own [.map (some 5), I 1073741824, I (-1), .bool false] 140), (18, .cells .own [S 19 (3 + nb.length + 1), I (((3 + nb.length + 1) : Nat) : Int)] 143), (19, .cells (.open_ 1) (manVs n nb) 5)]
theorem dMs {nb : List UInt8} (hx2 : nb.length < 64) : ((Int.ofNat 0 + (((IntKind.wrap .u8 (Int.ofNat nb.length * 2 ^ 1)) % 128) * 2 ^ 0)) / 2 ^ 1) = Int.ofNat nb.length := by
  generalize nb.length = m at *
  exact belowP (p := fun m => ((Int.ofNat 0 + (((IntKind.wrap .u8 (Int.ofNat m * 2 ^ 1)) % 128) * 2 ^ 0)) / 2 ^ 1) = Int.ofNat m) (N := 64) (by omega) (by kernel_rfl)
theorem lasts {n : Nat} {nb : List UInt8} (hx2 : nb.length < 64) : (manVs n nb)[3 + (Int.toNat ((Int.ofNat 0 + (((IntKind.wrap .u8 (Int.ofNat nb.length * 2 ^ 1)) % 128) * 2 ^ 0)) / 2 ^ 1)) * 1]? = some (.int .u8 0) := by
  rw [dMs hx2]
  show (manVs n nb)[3 + nb.length * 1]? = _
  rw [Nat.mul_one, Nat.add_comm]
  simp [manVs, byteVals]
def TLDs (born born2 clock n : Nat) (nb : List UInt8) : List Bool := [bornT [born, born2] clock,
  !decide ((Int.ofNat 0 + intIn (manVs n nb)[3 + ((Int.ofNat 0 + IntKind.wrap .u8 (Int.ofNat nb.length * 2 ^ 1) % 128 * 2 ^ 0) / 2 ^ 1).toNat * 1]? % 128 * 2 ^ 0) / 2 ^ 1 > Int.ofNat 0),
  bitOk .xor .i64 .i64 ((Int.ofNat 0 + intIn (manVs n nb)[3 + ((Int.ofNat 0 + IntKind.wrap .u8 (Int.ofNat nb.length * 2 ^ 1) % 128 * 2 ^ 0) / 2 ^ 1).toNat * 1]? % 128 * 2 ^ 0) / 2 ^ 1) (IntKind.wrap .i64 (Int.ofNat 0 - IntKind.wrap .i64 ((Int.ofNat 0 + intIn (manVs n nb)[3 + ((Int.ofNat 0 + IntKind.wrap .u8 (Int.ofNat nb.length * 2 ^ 1) % 128 * 2 ^ 0) / 2 ^ 1).toNat * 1]? % 128 * 2 ^ 0) % (Int.ofNat 1 + Int.ofNat 1)))) ((Int.ofNat 0 + intIn (manVs n nb)[3 + ((Int.ofNat 0 + IntKind.wrap .u8 (Int.ofNat nb.length * 2 ^ 1) % 128 * 2 ^ 0) / 2 ^ 1).toNat * 1]? % 128 * 2 ^ 0) / 2 ^ 1),
  bitOk .and .u64 .u64 (Int.ofNat 0 + intIn (manVs n nb)[3 + ((Int.ofNat 0 + IntKind.wrap .u8 (Int.ofNat nb.length * 2 ^ 1) % 128 * 2 ^ 0) / 2 ^ 1).toNat * 1]? % 128 * 2 ^ 0) (Int.ofNat 1) ((Int.ofNat 0 + intIn (manVs n nb)[3 + ((Int.ofNat 0 + IntKind.wrap .u8 (Int.ofNat nb.length * 2 ^ 1) % 128 * 2 ^ 0) / 2 ^ 1).toNat * 1]? % 128 * 2 ^ 0) % (Int.ofNat 1 + Int.ofNat 1)),
  decide (IntKind.wrap .i64 ((Int.ofNat 0 + intIn (manVs n nb)[3 + ((Int.ofNat 0 + IntKind.wrap .u8 (Int.ofNat nb.length * 2 ^ 1) % 128 * 2 ^ 0) / 2 ^ 1).toNat * 1]? % 128 * 2 ^ 0) / 2 ^ 1) = (Int.ofNat 0 + intIn (manVs n nb)[3 + ((Int.ofNat 0 + IntKind.wrap .u8 (Int.ofNat nb.length * 2 ^ 1) % 128 * 2 ^ 0) / 2 ^ 1).toNat * 1]? % 128 * 2 ^ 0) / 2 ^ 1),
  bitOk .shr .u64 .u64 (Int.ofNat 0 + intIn (manVs n nb)[3 + ((Int.ofNat 0 + IntKind.wrap .u8 (Int.ofNat nb.length * 2 ^ 1) % 128 * 2 ^ 0) / 2 ^ 1).toNat * 1]? % 128 * 2 ^ 0) (Int.ofNat 1) ((Int.ofNat 0 + intIn (manVs n nb)[3 + ((Int.ofNat 0 + IntKind.wrap .u8 (Int.ofNat nb.length * 2 ^ 1) % 128 * 2 ^ 0) / 2 ^ 1).toNat * 1]? % 128 * 2 ^ 0) / 2 ^ 1),
  true && (true && (true && ((3 + nb.length + 1 - 3 - ((Int.ofNat 0 + IntKind.wrap .u8 (Int.ofNat nb.length * 2 ^ 1) % 128 * 2 ^ 0) / 2 ^ 1).toNat).ble (capLow (2 * (3 + nb.length + 1) + 1 - 6 - 2 * ((Int.ofNat 0 + IntKind.wrap .u8 (Int.ofNat nb.length * 2 ^ 1) % 128 * 2 ^ 0) / 2 ^ 1).toNat)) && (Nat.ble 1 (3 + nb.length + 1 - 3 - ((Int.ofNat 0 + IntKind.wrap .u8 (Int.ofNat nb.length * 2 ^ 1) % 128 * 2 ^ 0) / 2 ^ 1).toNat) && ((!isOpen (2 * (3 + nb.length + 1) + 1 - 6 - 2 * ((Int.ofNat 0 + IntKind.wrap .u8 (Int.ofNat nb.length * 2 ^ 1) % 128 * 2 ^ 0) / 2 ^ 1).toNat) && true || !Nat.beq 1 0) && ((capLow (2 * (3 + nb.length + 1) + 1 - 6 - 2 * ((Int.ofNat 0 + IntKind.wrap .u8 (Int.ofNat nb.length * 2 ^ 1) % 128 * 2 ^ 0) / 2 ^ 1).toNat)).beq 1 && isOpen (2 * (3 + nb.length + 1) + 1 - 6 - 2 * ((Int.ofNat 0 + IntKind.wrap .u8 (Int.ofNat nb.length * 2 ^ 1) % 128 * 2 ^ 0) / 2 ^ 1).toNat))))))),
  decide (intIn (manVs n nb)[3 + ((Int.ofNat 0 + IntKind.wrap .u8 (Int.ofNat nb.length * 2 ^ 1) % 128 * 2 ^ 0) / 2 ^ 1).toNat * 1]? = Int.ofNat 0),
  decide (intIn (manVs n nb)[3 + ((Int.ofNat 0 + IntKind.wrap .u8 (Int.ofNat nb.length * 2 ^ 1) % 128 * 2 ^ 0) / 2 ^ 1).toNat * 1]? < Int.ofNat 128),
  bitOk .or .u64 .u64 (Int.ofNat 0) (intIn (manVs n nb)[3 + ((Int.ofNat 0 + IntKind.wrap .u8 (Int.ofNat nb.length * 2 ^ 1) % 128 * 2 ^ 0) / 2 ^ 1).toNat * 1]? % 128 * 2 ^ 0) (Int.ofNat 0 + intIn (manVs n nb)[3 + ((Int.ofNat 0 + IntKind.wrap .u8 (Int.ofNat nb.length * 2 ^ 1) % 128 * 2 ^ 0) / 2 ^ 1).toNat * 1]? % 128 * 2 ^ 0),
  bitOk .shl .u64 .i64 (intIn (manVs n nb)[3 + ((Int.ofNat 0 + IntKind.wrap .u8 (Int.ofNat nb.length * 2 ^ 1) % 128 * 2 ^ 0) / 2 ^ 1).toNat * 1]? % 128) (IntKind.wrap .i64 (Int.ofNat 7 * Int.ofNat 0)) (intIn (manVs n nb)[3 + ((Int.ofNat 0 + IntKind.wrap .u8 (Int.ofNat nb.length * 2 ^ 1) % 128 * 2 ^ 0) / 2 ^ 1).toNat * 1]? % 128 * 2 ^ 0),
  decide (IntKind.wrap .u64 (intIn (manVs n nb)[3 + ((Int.ofNat 0 + IntKind.wrap .u8 (Int.ofNat nb.length * 2 ^ 1) % 128 * 2 ^ 0) / 2 ^ 1).toNat * 1]? % 128) = intIn (manVs n nb)[3 + ((Int.ofNat 0 + IntKind.wrap .u8 (Int.ofNat nb.length * 2 ^ 1) % 128 * 2 ^ 0) / 2 ^ 1).toNat * 1]? % 128),
  bitOk .and .u8 .u8 (intIn (manVs n nb)[3 + ((Int.ofNat 0 + IntKind.wrap .u8 (Int.ofNat nb.length * 2 ^ 1) % 128 * 2 ^ 0) / 2 ^ 1).toNat * 1]?) (Int.ofNat 127) (intIn (manVs n nb)[3 + ((Int.ofNat 0 + IntKind.wrap .u8 (Int.ofNat nb.length * 2 ^ 1) % 128 * 2 ^ 0) / 2 ^ 1).toNat * 1]? % 128),
  isIntIn .u8 (manVs n nb)[3 + ((Int.ofNat 0 + IntKind.wrap .u8 (Int.ofNat nb.length * 2 ^ 1) % 128 * 2 ^ 0) / 2 ^ 1).toNat * 1]?,
  true && decide (Int.ofNat 0 < (((3 + nb.length + 1 - 3 - ((Int.ofNat 0 + IntKind.wrap .u8 (Int.ofNat nb.length * 2 ^ 1) % 128 * 2 ^ 0) / 2 ^ 1).toNat) : Nat) : Int)),
  decide (Int.ofNat 0 < (((3 + nb.length + 1 - 3 - ((Int.ofNat 0 + IntKind.wrap .u8 (Int.ofNat nb.length * 2 ^ 1) % 128 * 2 ^ 0) / 2 ^ 1).toNat) : Nat) : Int)),
  true && (true && (true && ((3 + nb.length + 1 - 3).ble (capLow (2 * (3 + nb.length + 1) + 1 - 6)) && (((Int.ofNat 0 + IntKind.wrap .u8 (Int.ofNat nb.length * 2 ^ 1) % 128 * 2 ^ 0) / 2 ^ 1).toNat.ble (3 + nb.length + 1 - 3) && ((!isOpen (2 * (3 + nb.length + 1) + 1 - 6) || ((Int.ofNat 0 + IntKind.wrap .u8 (Int.ofNat nb.length * 2 ^ 1) % 128 * 2 ^ 0) / 2 ^ 1).toNat.beq 0 || !Nat.beq 1 0) && !(capLow (2 * (3 + nb.length + 1) + 1 - 6)).beq ((Int.ofNat 0 + IntKind.wrap .u8 (Int.ofNat nb.length * 2 ^ 1) % 128 * 2 ^ 0) / 2 ^ 1).toNat))))),
  true && (true && (true && (true && (((Int.ofNat 0 + IntKind.wrap .u8 (Int.ofNat nb.length * 2 ^ 1) % 128 * 2 ^ 0) / 2 ^ 1).toNat.ble (capLow (2 * (3 + nb.length + 1) + 1 - 6)) && (((Int.ofNat 0 + IntKind.wrap .u8 (Int.ofNat nb.length * 2 ^ 1) % 128 * 2 ^ 0) / 2 ^ 1).toNat.ble ((Int.ofNat 0 + IntKind.wrap .u8 (Int.ofNat nb.length * 2 ^ 1) % 128 * 2 ^ 0) / 2 ^ 1).toNat && (Nat.ble 0 ((Int.ofNat 0 + IntKind.wrap .u8 (Int.ofNat nb.length * 2 ^ 1) % 128 * 2 ^ 0) / 2 ^ 1).toNat && (true && !((Int.ofNat 0 + IntKind.wrap .u8 (Int.ofNat nb.length * 2 ^ 1) % 128 * 2 ^ 0) / 2 ^ 1).toNat.beq 0))))))),
  decide ((if (((3 + nb.length + 1 - 3) : Nat) : Int) < (Int.ofNat 0 + IntKind.wrap .u8 (Int.ofNat nb.length * 2 ^ 1) % 128 * 2 ^ 0) / 2 ^ 1 then (((3 + nb.length + 1 - 3) : Nat) : Int) else (Int.ofNat 0 + IntKind.wrap .u8 (Int.ofNat nb.length * 2 ^ 1) % 128 * 2 ^ 0) / 2 ^ 1) = (Int.ofNat 0 + IntKind.wrap .u8 (Int.ofNat nb.length * 2 ^ 1) % 128 * 2 ^ 0) / 2 ^ 1),
  decide ((Int.ofNat 0 + IntKind.wrap .u8 (Int.ofNat nb.length * 2 ^ 1) % 128 * 2 ^ 0) / 2 ^ 1 = (Int.ofNat 0 + IntKind.wrap .u8 (Int.ofNat nb.length * 2 ^ 1) % 128 * 2 ^ 0) / 2 ^ 1),
  bitOk .xor .i64 .i64 ((Int.ofNat 0 + IntKind.wrap .u8 (Int.ofNat nb.length * 2 ^ 1) % 128 * 2 ^ 0) / 2 ^ 1) (IntKind.wrap .i64 (Int.ofNat 0 - IntKind.wrap .i64 ((Int.ofNat 0 + IntKind.wrap .u8 (Int.ofNat nb.length * 2 ^ 1) % 128 * 2 ^ 0) % (Int.ofNat 1 + Int.ofNat 1)))) ((Int.ofNat 0 + IntKind.wrap .u8 (Int.ofNat nb.length * 2 ^ 1) % 128 * 2 ^ 0) / 2 ^ 1),
  bitOk .and .u64 .u64 (Int.ofNat 0 + IntKind.wrap .u8 (Int.ofNat nb.length * 2 ^ 1) % 128 * 2 ^ 0) (Int.ofNat 1) ((Int.ofNat 0 + IntKind.wrap .u8 (Int.ofNat nb.length * 2 ^ 1) % 128 * 2 ^ 0) % (Int.ofNat 1 + Int.ofNat 1)),
  decide (IntKind.wrap .i64 ((Int.ofNat 0 + IntKind.wrap .u8 (Int.ofNat nb.length * 2 ^ 1) % 128 * 2 ^ 0) / 2 ^ 1) = (Int.ofNat 0 + IntKind.wrap .u8 (Int.ofNat nb.length * 2 ^ 1) % 128 * 2 ^ 0) / 2 ^ 1),
  bitOk .shr .u64 .u64 (Int.ofNat 0 + IntKind.wrap .u8 (Int.ofNat nb.length * 2 ^ 1) % 128 * 2 ^ 0) (Int.ofNat 1) ((Int.ofNat 0 + IntKind.wrap .u8 (Int.ofNat nb.length * 2 ^ 1) % 128 * 2 ^ 0) / 2 ^ 1),
  true && (true && (true && ((3 + nb.length + 1 - 2).ble (capLow (2 * (3 + nb.length + 1) + 1 - 4)) && (Nat.ble 1 (3 + nb.length + 1 - 2) && ((!isOpen (2 * (3 + nb.length + 1) + 1 - 4) && true || !Nat.beq 1 0) && !(capLow (2 * (3 + nb.length + 1) + 1 - 4)).beq 1))))),
  !decide (IntKind.wrap .u8 (Int.ofNat nb.length * 2 ^ 1) = Int.ofNat 0),
  decide (IntKind.wrap .u8 (Int.ofNat nb.length * 2 ^ 1) < Int.ofNat 128),
  bitOk .or .u64 .u64 (Int.ofNat 0) (IntKind.wrap .u8 (Int.ofNat nb.length * 2 ^ 1) % 128 * 2 ^ 0) (Int.ofNat 0 + IntKind.wrap .u8 (Int.ofNat nb.length * 2 ^ 1) % 128 * 2 ^ 0),
  bitOk .shl .u64 .i64 (IntKind.wrap .u8 (Int.ofNat nb.length * 2 ^ 1) % 128) (IntKind.wrap .i64 (Int.ofNat 7 * Int.ofNat 0)) (IntKind.wrap .u8 (Int.ofNat nb.length * 2 ^ 1) % 128 * 2 ^ 0),
  decide (IntKind.wrap .u64 (IntKind.wrap .u8 (Int.ofNat nb.length * 2 ^ 1) % 128) = IntKind.wrap .u8 (Int.ofNat nb.length * 2 ^ 1) % 128),
  bitOk .and .u8 .u8 (IntKind.wrap .u8 (Int.ofNat nb.length * 2 ^ 1)) (Int.ofNat 127) (IntKind.wrap .u8 (Int.ofNat nb.length * 2 ^ 1) % 128),
  isIntIn .u8 (some (.int .u8 (IntKind.wrap .u8 (Int.ofNat nb.length * 2 ^ 1)))),
  true && decide (Int.ofNat 0 < (((3 + nb.length + 1 - 2) : Nat) : Int)),
  decide (Int.ofNat 0 < (((3 + nb.length + 1 - 2) : Nat) : Int)),
  bitOk .xor .i64 .i64 (Int.ofNat 0) (IntKind.wrap .i64 (Int.ofNat 0 - IntKind.wrap .i64 (Int.ofNat 0 % (Int.ofNat 1 + Int.ofNat 1)))) (Int.ofNat 0),
  bitOk .and .u64 .u64 (Int.ofNat 0 + Int.ofNat 0) (Int.ofNat 1) (Int.ofNat 0 % (Int.ofNat 1 + Int.ofNat 1)),
  decide (IntKind.wrap .i64 (Int.ofNat 0 / Int.ofNat 2 ^ (Int.ofNat 1).toNat) = Int.ofNat 0),
  bitOk .shr .u64 .u64 (Int.ofNat 0 + Int.ofNat 0) (Int.ofNat 1) (Int.ofNat 0 / Int.ofNat 2 ^ (Int.ofNat 1).toNat),
  true && (true && (true && ((3 + nb.length + 1 - 1).ble (capLow (2 * (3 + nb.length + 1) + 1 - 2)) && (Nat.ble 1 (3 + nb.length + 1 - 1) && ((!isOpen (2 * (3 + nb.length + 1) + 1 - 2) && true || !Nat.beq 1 0) && !(capLow (2 * (3 + nb.length + 1) + 1 - 2)).beq 1))))),
  true,
  true,
  bitOk .or .u64 .u64 (Int.ofNat 0) (Int.ofNat 0 * Int.ofNat 2 ^ (Int.ofNat 0).toNat) (Int.ofNat 0 + Int.ofNat 0),
  bitOk .shl .u64 .i64 (Int.ofNat 0) (IntKind.wrap .i64 (Int.ofNat 7 * Int.ofNat 0)) (Int.ofNat 0 * Int.ofNat 2 ^ (Int.ofNat 0).toNat),
  decide (IntKind.wrap .u64 (Int.ofNat 0 % (Int.ofNat 127 + Int.ofNat 1)) = Int.ofNat 0),
  bitOk .and .u8 .u8 (Int.ofNat 0) (Int.ofNat 127) (Int.ofNat 0 % (Int.ofNat 127 + Int.ofNat 1)),
  isIntIn .u8 (some (.int .u8 (Int.ofNat 0))),
  true && decide (Int.ofNat 0 < (((3 + nb.length + 1 - 1) : Nat) : Int)),
  decide (Int.ofNat 0 < (((3 + nb.length + 1 - 1) : Nat) : Int)),
  bitOk .xor .i64 .i64 ((Int.ofNat 0 + IntKind.wrap .u8 (Int.ofNat n * 2 ^ 1) % 128 * 2 ^ 0) / 2 ^ 1) (IntKind.wrap .i64 (Int.ofNat 0 - IntKind.wrap .i64 ((Int.ofNat 0 + IntKind.wrap .u8 (Int.ofNat n * 2 ^ 1) % 128 * 2 ^ 0) % (Int.ofNat 1 + Int.ofNat 1)))) ((Int.ofNat 0 + IntKind.wrap .u8 (Int.ofNat n * 2 ^ 1) % 128 * 2 ^ 0) / 2 ^ 1),
  bitOk .and .u64 .u64 (Int.ofNat 0 + IntKind.wrap .u8 (Int.ofNat n * 2 ^ 1) % 128 * 2 ^ 0) (Int.ofNat 1) ((Int.ofNat 0 + IntKind.wrap .u8 (Int.ofNat n * 2 ^ 1) % 128 * 2 ^ 0) % (Int.ofNat 1 + Int.ofNat 1)),
  decide (IntKind.wrap .i64 ((Int.ofNat 0 + IntKind.wrap .u8 (Int.ofNat n * 2 ^ 1) % 128 * 2 ^ 0) / 2 ^ 1) = (Int.ofNat 0 + IntKind.wrap .u8 (Int.ofNat n * 2 ^ 1) % 128 * 2 ^ 0) / 2 ^ 1),
  bitOk .shr .u64 .u64 (Int.ofNat 0 + IntKind.wrap .u8 (Int.ofNat n * 2 ^ 1) % 128 * 2 ^ 0) (Int.ofNat 1) ((Int.ofNat 0 + IntKind.wrap .u8 (Int.ofNat n * 2 ^ 1) % 128 * 2 ^ 0) / 2 ^ 1),
  true && (true && (true && ((3 + nb.length + 1).ble (capLow (2 * (3 + nb.length + 1) + 1)) && (Nat.ble 1 (3 + nb.length + 1) && ((!isOpen (2 * (3 + nb.length + 1) + 1) && true || !Nat.beq 1 0) && !(capLow (2 * (3 + nb.length + 1) + 1)).beq 1))))),
  !decide (IntKind.wrap .u8 (Int.ofNat n * 2 ^ 1) = Int.ofNat 0),
  decide (IntKind.wrap .u8 (Int.ofNat n * 2 ^ 1) < Int.ofNat 128),
  bitOk .or .u64 .u64 (Int.ofNat 0) (IntKind.wrap .u8 (Int.ofNat n * 2 ^ 1) % 128 * 2 ^ 0) (Int.ofNat 0 + IntKind.wrap .u8 (Int.ofNat n * 2 ^ 1) % 128 * 2 ^ 0),
  bitOk .shl .u64 .i64 (IntKind.wrap .u8 (Int.ofNat n * 2 ^ 1) % 128) (IntKind.wrap .i64 (Int.ofNat 7 * Int.ofNat 0)) (IntKind.wrap .u8 (Int.ofNat n * 2 ^ 1) % 128 * 2 ^ 0),
  decide (IntKind.wrap .u64 (IntKind.wrap .u8 (Int.ofNat n * 2 ^ 1) % 128) = IntKind.wrap .u8 (Int.ofNat n * 2 ^ 1) % 128),
  bitOk .and .u8 .u8 (IntKind.wrap .u8 (Int.ofNat n * 2 ^ 1)) (Int.ofNat 127) (IntKind.wrap .u8 (Int.ofNat n * 2 ^ 1) % 128),
  isIntIn .u8 (some (.int .u8 (IntKind.wrap .u8 (Int.ofNat n * 2 ^ 1)))),
  true && decide (Int.ofNat 0 < (((3 + nb.length + 1) : Nat) : Int)),
  decide (Int.ofNat 0 < (((3 + nb.length + 1) : Nat) : Int)),
  !(3 + nb.length + 1).beq 0 && (manVs n nb).length.beq ((3 + nb.length + 1) * 1) && (!(0 + (3 + nb.length + 1)).ble (capLow (2 * 0)) && (((0 + (3 + nb.length + 1)) * 2 * (1 + 1)).ble 140737488355328 && ((manVs n nb).all oneCell && (manVs n nb).length.beq ((3 + nb.length + 1) * 1)))) && (!isOpen (2 * 0) && Nat.beq 0 0),
  true]
theorem runLDs (born born2 clock n : Nat) (nb : List UInt8) :
  ((levO Tryz.prog extS WLDs 300).call 98 #[P 27] (HLDs born born2 clock n nb)).map (fun r => (r.1, r.2.1.gl, r.2.1.next, r.2.1.objs.get 27, [5, 6, 18, 19].map r.2.1.objs.get, r.2.2)) =
  some (I 0, 5, 35, some (.cells .own [P 6, P 20, P 26, .slice none 0 0, I 0, I (((Int.ofNat 0 + (((IntKind.wrap .u8 (Int.ofNat n * 2 ^ 1)) % 128) * 2 ^ 0)) / 2 ^ 1)), .slice (some ⟨29, 3, none⟩) (Int.toNat ((Int.ofNat 0 + (((IntKind.wrap .u8 (Int.ofNat nb.length * 2 ^ 1)) % 128) * 2 ^ 0)) / 2 ^ 1)) (2 * (Int.toNat ((Int.ofNat 0 + (((IntKind.wrap .u8 (Int.ofNat nb.length * 2 ^ 1)) % 128) * 2 ^ 0)) / 2 ^ 1))), .map none, .bool false] 118), [some (.map [walE born, manE born2] clock), some (.cells .own [.map (some 5), I 1073741824, I (-1), .bool false] 140), some (.cells .own [S 19 (3 + nb.length + 1), I (((3 + nb.length + 1) : Nat) : Int)] 143), some (.cells (.open_ 1) (manVs n nb) 5)], TLDs born born2 clock n nb) := by kernel_rfl
theorem testsLDs (born born2 clock n : Nat) (nb : List UInt8) (hb : born < clock) (hb2 : born2 < clock) (hbb : born ≠ born2) (hn : n ≤ 60) (h0 : 0 < n) (hx2 : nb.length < 64) (hx : 0 < nb.length) : allT (TLDs born born2 clock n nb) := by
  intro b hb
  simp only [TLDs, List.mem_cons, List.not_mem_nil, or_false] at hb
  rcases hb with hb | hb | hb | hb | hb | hb | hb | hb | hb | hb | hb | hb | hb | hb | hb | hb | hb | hb | hb | hb | hb | hb | hb | hb | hb | hb | hb | hb | hb | hb | hb | hb | hb | hb | hb | hb | hb | hb | hb | hb | hb | hb | hb | hb | hb | hb | hb | hb | hb | hb | hb | hb | hb | hb | hb | hb | hb | hb | hb | hb | hb | hb | hb | hb <;> refine hb.trans ?_ <;> clear hb <;>
  first
  | with_reducible rfl
  | with_reducible exact isSame_refl _
  | decide +kernel
  | (revert n; decide +kernel)
  | (rw [lasts (by omega)]; decide +kernel)
  | (generalize nb.length = m at *; revert m; decide +kernel)
  | (rw [dMs (by omega)]; simp only [Bool.and_eq_true, Bool.or_eq_true, Bool.not_eq_true', beq_t, beq_f, ble_t, ble_f, capLow, isOpen, decide_eq_true_eq, Int.ofNat_eq_natCast, and_true, true_and, or_true, Int.toNat_natCast, Bool.and_self, Bool.not_false, Bool.not_true]; omega)
  | (simp only [dMs (by omega : nb.length < 64), Bool.and_eq_true, Bool.or_eq_true, Bool.not_eq_true', beq_t, beq_f, ble_t, ble_f, capLow, isOpen, decide_eq_true_eq, Int.ofNat_eq_natCast, and_true, true_and, or_true, Int.toNat_natCast, Bool.and_self, Bool.not_false, Bool.not_true]; omega)
  | (rw [dMs (by omega)]; simp only [Int.ofNat_eq_natCast, decide_eq_true_eq]; split <;> omega)
  | (unfold ltT; rw [decide_eq_true_eq]; (try simp only [Int.ofNat_eq_natCast]); omega)
  | (unfold bornT; simp <;> omega)
  | (simp only [wrapM, decide_true, Bool.not_eq_true', decide_eq_true_eq, decide_eq_false_iff_not, Int.ofNat_eq_natCast, gt_iff_lt]; omega)
  | (simp only [bun, capLow, isOpen, oneCell]; omega)
  | (simp only [wrapM, Int.ofNat_eq_natCast, decide_eq_true_eq]; split <;> omega)
  | (simp only [wrapM, Int.ofNat_eq_natCast, decide_eq_true_eq, gt_iff_lt]; (repeat' split) <;> omega)
  | (first | exact z1 (by omega) | exact z2 (by omega) | exact z3 (by omega) | exact z4 (by omega) | exact z5 (by omega) | exact z6 (by omega))
  | (simp [beq_t]; done)
  | rfl
def conLDs (born born2 clock n : Nat) (nb : List UInt8) : Con := ⟨98, 28, 5, [P 27], [(27, .cells .own [P 6, P 20, P 26, .slice none 0 0, I 0, I 0, .slice none 0 0, .map none, .bool false] 118), (5, .map [walE born, manE born2] clock), (6, .cells .own [.map (some 5), I 1073741824, I (-1), .bool false] 140), (18, .cells .own [S 19 (3 + nb.length + 1), I (((3 + nb.length + 1) : Nat) : Int)] 143), (19, .cells (.open_ 1) (manVs n nb) 5)], I 0, 35, [(27, .cells .own [P 6, P 20, P 26, .slice none 0 0, I 0, I (n : Nat), .slice (some ⟨29, 3, none⟩) nb.length (2 * nb.length), .map none, .bool false] 118), (5, .map [walE born, manE born2] clock), (6, .cells .own [.map (some 5), I 1073741824, I (-1), .bool false] 140), (18, .cells .own [S 19 (3 + nb.length + 1), I (((3 + nb.length + 1) : Nat) : Int)] 143), (19, .cells (.open_ 1) (manVs n nb) 5)]⟩
theorem conLDs_ok (born born2 clock n : Nat) (nb : List UInt8) (hb : born < clock) (hb2 : born2 < clock) (hbb : born ≠ born2) (hn : n ≤ 60) (h0 : 0 < n) (hx2 : nb.length < 64) (hx : 0 < nb.length) : Con.Ok Tryz.prog (conLDs born born2 clock n nb) := by
  have hr := runLDs born born2 clock n nb
  cases hc : ((levO Tryz.prog extS WLDs 300).call 98 #[P 27] (HLDs born born2 clock n nb)) with
  | none => rw [hc] at hr; cases hr
  | some r =>
    obtain ⟨v, K, ts⟩ := r
    rw [hc] at hr
    simp only [Option.map_some, Option.some.injEq, Prod.mk.injEq, List.map_cons, List.map_nil, List.cons.injEq, and_true] at hr
    obtain ⟨rfl, hgl, hnx, h27, ⟨h5, h6, h18, h19⟩, rfl⟩ := hr
    rw [dN hn, dMs (by omega)] at h27
    exact Con.ok_of_run (c := conLDs born born2 clock n nb) mixedO extS_ok 300 hc (testsLDs born born2 clock n nb hb hb2 hbb hn h0 hx2 hx) hnx hgl (fun x hx => by
      simp only [conLDs, List.mem_cons, List.not_mem_nil, or_false] at hx
      rcases hx with rfl | rfl | rfl | rfl | rfl
      · exact h27
      · exact h5
      · exact h6
      · exact h18
      · exact h19) (by first | (simp [Con.fits, conLDs]; done) | (simp [Con.fits, conLDs]; rfl))
end Go.Proofs.YtabpbpdhapaffaaGreatDoor
end
section
namespace Go.Proofs.YtabpbpdhapaffaaGreatDoor
open Go.Vi
theorem snoc0 (nb : List UInt8) : byteVals nb ++ [.int .u8 0] = byteVals (nb ++ [0]) := by simp [byteVals]
theorem LG.mane {ρ : Nat → Option Nat} (n : Nat) (nb : List UInt8) : LG ρ (manVe n nb) (manVe n nb) := LG.cons (VG.int _ _) (LG.cons (VG.int _ _) (LG.cons (VG.int _ _) (LG.cons (VG.int _ _) LG.nil)))
theorem LG.mans {ρ : Nat → Option Nat} (n : Nat) (nb : List UInt8) : LG ρ (manVs n nb) (manVs n nb) := by
  rw [manVs, snoc0]
  exact LG.cons (VG.int _ _) (LG.cons (VG.int _ _) (LG.cons (VG.int _ _) (LG.bytes _)))
theorem LG.manl {ρ : Nat → Option Nat} (n : Nat) (nb : List UInt8) : LG ρ (manVl n nb) (manVl n nb) := by
  rw [manVl, snoc0]
  exact LG.cons (VG.int _ _) (LG.cons (VG.int _ _) (LG.cons (VG.int _ _) (LG.cons (VG.int _ _) (LG.bytes _))))
end Go.Proofs.YtabpbpdhapaffaaGreatDoor
end
section
set_option maxRecDepth 100000
namespace Go.Proofs.YtabpbpdhapaffaaGreatDoor
open Go.Vi
def WEA2e : Word := fun o _ => match o.dst with
  | some 35 => bif o.pos == "engine.go:78" then some 0 else none
  | _ => none
noncomputable def SEA2e (born born2 clock first : Nat) (es : List (List UInt8)) : St := ⟨argsT [P 6] 0 .nil, [], heapOf 20 5 (disk96 [walE born, manE born2] clock first (frms es) ++ [(18, .cells .own [S 19 4, I ((4 : Nat) : Int)] 143), (19, .cells (.open_ 1) (manVe first []) 5)])⟩
def LEA2e (born born2 clock first : Nat) (es : List (List UInt8)) : List (Nat × Slot) := [(0, .val (P 6)), (2, .top), (3, .top), (4, .val (P 20)), (5, .top), (6, .val (P 27)), (7, .top), (8, .val (I (first : Nat))), (11, .val (.tuple #[P 20, I 0])), (12, .top), (13, .val (.tuple #[P 20, I 0])), (14, .top), (15, .top), (16, .top), (17, .bool false), (19, .top), (20, .top), (21, .top), (22, .val (.agg #[P 6, P 20, P 26, .slice none 0 0, I 0, I 0, .slice none 0 0, .map none, .bool false])), (23, .top), (24, .top), (25, .top), (26, .top), (27, .bool false), (29, .top), (30, .top), (31, .top), (32, .top), (33, .top), (34, .top), (35, .top)]
noncomputable def TEA2e (born born2 clock first : Nat) (es : List (List UInt8)) : List Bool := [decide ((first : Int) = (first : Int)) && (decide ((first : Int) = (first : Int)) && true) && true,
  decide ((if (first : Int) > (first : Int) then (first : Int) else (first : Int)) = (first : Int)),
  twice (P 27),
  Nat.beq 5 5,
  twice (some (AObj.cells .own [P 6, P 20, P 26, .slice none 0 0, I 0, I 0, .slice none 0 0, .map none, .bool false] 118)),
  twice (some (AObj.map [walE born, manE born2] clock)),
  twice (some (AObj.cells .own [.map (some 5), I 1073741824, .int .i64 (Int.negSucc 0), .bool false] 140)),
  twice (some (AObj.cells .own [S 19 4, I ↑4] 143)),
  twice (some (AObj.cells (.open_ 1) (manVe first []) 5)),
  twice (P 6),
  Nat.beq 5 5,
  twice (some (AObj.map [walE born, manE born2] clock)),
  twice (some (AObj.cells .own [.map (some 5), I 1073741824, .int .i64 (Int.negSucc 0), .bool false] 140)),
  twice (some (AObj.cells .own [S 14 ((frms es).length + 12), I ((((frms es).length + 12) : Nat) : Int)] 143)),
  twice (some (AObj.cells (.open_ 1) (byteVals (hd first ++ frms es)) 5))]
theorem runEA2e (born born2 clock first : Nat) (es : List (List UInt8)) :
  (codeO Tryz.prog WEA2e (levX Tryz.prog (extS.with [conWO [walE born, manE born2] clock first es, conLDe born born2 clock first]).ext 300) (levO Tryz.prog (extS.with [conWO [walE born, manE born2] clock first es, conLDe born born2 clock first]) WEA2e 300) none 52 (Code.ahead p34 c34) (SEA2e born born2 clock first es)).map (fun r => (r.1, r.2.1.ds, r.2.1.h.gl, [20, 22, 24, 25, 26, 27, 5, 6, 13, 14, 18, 19].map r.2.1.h.objs.get, [0, 4, 6, 8, 11, 13, 22].map (fun t => (r.2.1.tm.get t).getD Go.undef), (LEA2e born born2 clock first es).all (fun x => x.2.fits ((r.2.1.tm.get x.1).getD Go.undef)), (List.range 52).all (fun t => ((LEA2e born born2 clock first es).any fun x => Nat.beq x.1 t) || Slot.undef.fits ((r.2.1.tm.get t).getD Go.undef)), r.2.2)) =
  some (.normal, [], 5, [
    some (.cells .own [P 6, I (first : Nat), S 24 es.length, I ((((frms es).length + 12) : Nat) : Int), .bool false] 219),
    some (.cells (.open_ 1) (byteVals (hd first ++ frms es)) 5),
    some (.cells (.open_ 1) (ents ((frms es).length + 12) 12 es) 57),
    some (.map [] 0),
    some (.cells .own [I 9223372036854775807, I 0, .map (some 25)] 216),
    some (.cells .own [P 6, P 20, P 26, .slice none 0 0, I 0, I (first : Nat), .slice (some ⟨29, 3, none⟩) 0 0, .map none, .bool false] 118),
    some (.map [⟨.string "wal".toUTF8, P 13, born⟩, ⟨.string "manifest".toUTF8, P 18, born2⟩] clock),
    some (.cells .own [.map (some 5), I 1073741824, I (-1), .bool false] 140),
    some (.cells .own [S 14 ((frms es).length + 12), I ((((frms es).length + 12) : Nat) : Int)] 143),
    some (.cells (.open_ 1) (byteVals (hd first ++ frms es)) 5),
    some (.cells .own [S 19 4, I ((4 : Nat) : Int)] 143),
    some (.cells (.open_ 1) (manVe first []) 5)], [P 6, P 20, P 27, I (first : Nat), .tuple #[P 20, I 0], .tuple #[P 20, I 0], .agg #[P 6, P 20, P 26, .slice none 0 0, I 0, I 0, .slice none 0 0, .map none, .bool false]], true, true, TEA2e born born2 clock first es) := by kernel_rfl
theorem testsEA2e (born born2 clock first : Nat) (es : List (List UInt8)) (hb : born < clock) (hb2 : born2 < clock) (hbb : born ≠ born2) : allT (TEA2e born born2 clock first es) := by
  intro b hb
  simp only [TEA2e, List.mem_cons, List.not_mem_nil, or_false] at hb
  rcases hb with hb | hb | hb | hb | hb | hb | hb | hb | hb | hb | hb | hb | hb | hb | hb <;> refine hb.trans ?_ <;> clear hb <;>
  first
  | with_reducible rfl
  | with_reducible exact isSame_refl _
  | with_reducible exact twice_ok _
  | (unfold ltT; rw [decide_eq_true_eq]; (try simp only [Int.ofNat_eq_natCast]); omega)
  | (unfold bornT; simp <;> omega)
  | (simp only [wrapM, decide_true, Bool.not_eq_true', decide_eq_true_eq, decide_eq_false_iff_not, Int.ofNat_eq_natCast, gt_iff_lt]; omega)
  | (simp only [bun, capLow, isOpen, oneCell]; omega)
  | (simp only [wrapM, Int.ofNat_eq_natCast, decide_eq_true_eq]; split <;> omega)
  | (simp only [wrapM, Int.ofNat_eq_natCast, decide_eq_true_eq, gt_iff_lt]; (repeat' split) <;> omega)
  | (first | exact z1 (by omega) | exact z2 (by omega) | exact z3 (by omega) | exact z4 (by omega) | exact z5 (by omega) | exact z6 (by omega))
  | (simp [beq_t]; done)
  | rfl
theorem gotEA2e (born born2 clock first : Nat) (es : List (List UInt8))  :
  ∃ M, codeO Tryz.prog WEA2e (levX Tryz.prog (extS.with [conWO [walE born, manE born2] clock first es, conLDe born born2 clock first]).ext 300) (levO Tryz.prog (extS.with [conWO [walE born, manE born2] clock first es, conLDe born born2 clock first]) WEA2e 300) none 52 (Code.ahead p34 c34) (SEA2e born born2 clock first es) = some (.normal, M, TEA2e born born2 clock first es) ∧ GenT 52 (pairs 5 [(5, 5), (6, 6), (7, 7), (8, 8), (9, 9), (10, 10), (11, 11), (12, 12), (13, 13), (14, 14), (15, 15), (16, 16), (17, 17), (18, 18), (19, 19), (20, 20), (22, 22), (24, 24), (25, 25), (26, 26), (27, 27)]) M (heapOf 28 5 ([(20, .cells .own [P 6, I (first : Nat), S 24 es.length, I ((((frms es).length + 12) : Nat) : Int), .bool false] 219)] ++ [(22, .cells (.open_ 1) (byteVals (hd first ++ frms es)) 5)] ++ [(24, .cells (.open_ 1) (ents ((frms es).length + 12) 12 es) 57)] ++ [(25, .map [] 0)] ++ [(26, .cells .own [I 9223372036854775807, I 0, .map (some 25)] 216)] ++ [(27, .cells .own [P 6, P 20, P 26, .slice none 0 0, I 0, I (first : Nat), .chan (some 0), .map none, .bool false] 118)] ++ [(5, .map [⟨.string "wal".toUTF8, P 13, born⟩, ⟨.string "manifest".toUTF8, P 18, born2⟩] clock)] ++ [(6, .cells .own [.map (some 5), I 1073741824, I (-1), .bool false] 140)] ++ [(13, .cells .own [S 14 ((frms es).length + 12), I ((((frms es).length + 12) : Nat) : Int)] 143)] ++ [(14, .cells (.open_ 1) (byteVals (hd first ++ frms es)) 5)] ++ [(18, .cells .own [S 19 4, I ((4 : Nat) : Int)] 143)] ++ [(19, .cells (.open_ 1) (manVe first []) 5)])) (LEA2e born born2 clock first es) := by
  obtain ⟨⟨e, M, ts⟩, hc, h⟩ := Option.map_eq_some_iff.1 (runEA2e born born2 clock first es)
  simp only [Prod.mk.injEq, List.map_cons, List.map_nil, List.cons.injEq, and_true] at h
  obtain ⟨rfl, hds, hgl, ⟨h20, h22, h24, h25, h26, h27, h5, h6, h13, h14, h18, h19⟩, ⟨v0, v4, v6, v8, v11, v13, v22⟩, hfit, hall, rfl⟩ := h
  refine ⟨M, hc, Gen.of_pairs hgl (by decide) ?_, hfit, ?_, hall, once_of ?_, hds⟩
  · intro x hm
    simp only [base, fileO, walE, manE, tops, rowO, noneO, List.cons_append, List.nil_append, List.mem_cons, List.not_mem_nil, or_false] at hm
    rcases hm with rfl | rfl | rfl | rfl | rfl | rfl | rfl | rfl | rfl | rfl | rfl | rfl
    · refine fit rfl h20 (OG.own _ ?_) rfl sameFl
      exact LS.ok (by repeat' constructor)
    · refine fit rfl h22 (OG.open_ _ _ ?_) rfl sameFl
      exact LG.bytes _
    · exact fit rfl h24 (OG.open_ _ _ (ents_ok (((frms es).length + 12)) (by rfl) es 12)) rfl sameFl
    · exact fit rfl h25 OG.map0 rfl noFl
    · refine fit rfl h26 (OG.own _ ?_) rfl sameFl
      exact LS.ok (by repeat' constructor)
    · refine fit rfl h27 (OG.own _ ?_) rfl sameFl
      exact LS.ok (by repeat' constructor)
    · exact fit rfl h5 (OG.map2 (VG.string _) (VG.ptr _ rfl) (VG.string _) (VG.ptr _ rfl)) rfl noFl
    · refine fit rfl h6 (OG.own _ ?_) rfl sameFl
      exact LS.ok (by repeat' constructor)
    · refine fit rfl h13 (OG.own _ ?_) rfl sameFl
      exact LS.ok (by repeat' constructor)
    · refine fit rfl h14 (OG.open_ _ _ ?_) rfl sameFl
      exact LG.bytes _
    · refine fit rfl h18 (OG.own _ ?_) rfl sameFl
      exact LS.ok (by repeat' constructor)
    · exact fit rfl h19 (OG.open_ _ _ (LG.mane _ _)) rfl sameFl
  · intro x hx v hv
    simp only [LEA2e, List.mem_cons, List.not_mem_nil, or_false] at hx
    rcases hx with rfl | rfl | rfl | rfl | rfl | rfl | rfl | rfl | rfl | rfl | rfl | rfl | rfl | rfl | rfl | rfl | rfl | rfl | rfl | rfl | rfl | rfl | rfl | rfl | rfl | rfl | rfl | rfl | rfl | rfl | rfl <;> first | (cases hv; done) | (simp only [Slot.val.injEq] at hv; subst hv)
    · simp only [v0]
      first | exact VG.ptr _ rfl | exact VG.slice _ _ _ rfl | exact VG.int _ _ | exact VG.bool _
    · simp only [v4]
      first | exact VG.ptr _ rfl | exact VG.slice _ _ _ rfl | exact VG.int _ _ | exact VG.bool _
    · simp only [v6]
      first | exact VG.ptr _ rfl | exact VG.slice _ _ _ rfl | exact VG.int _ _ | exact VG.bool _
    · simp only [v8]
      first | exact VG.ptr _ rfl | exact VG.slice _ _ _ rfl | exact VG.int _ _ | exact VG.bool _
    · simp only [v11]
      exact VG.tuple (LG.cons (VG.ptr _ rfl) (LG.cons (VG.int _ _) LG.nil))
    · simp only [v13]
      exact VG.tuple (LG.cons (VG.ptr _ rfl) (LG.cons (VG.int _ _) LG.nil))
    · simp only [v22]
      exact VG.agg (LG.cons (VG.ptr _ rfl) (LG.cons (VG.ptr _ rfl) (LG.cons (VG.ptr _ rfl) (LG.cons VG.sliceNil (LG.cons (VG.int _ _) (LG.cons (VG.int _ _) (LG.cons VG.sliceNil (LG.cons VG.mapNil (LG.cons (VG.bool _) LG.nil)))))))))
  · show (List.map (·.1) (LEA2e born born2 clock first es)).Nodup
    simp only [LEA2e, List.map_cons, List.map_nil]
    decide
def WEA2s : Word := fun o _ => match o.dst with
  | some 35 => bif o.pos == "engine.go:78" then some 0 else none
  | _ => none
noncomputable def SEA2s (born born2 clock first : Nat) (es : List (List UInt8)) (nb : List UInt8) : St := ⟨argsT [P 6] 0 .nil, [], heapOf 20 5 (disk96 [walE born, manE born2] clock first (frms es) ++ [(18, .cells .own [S 19 (3 + nb.length + 1), I (((3 + nb.length + 1) : Nat) : Int)] 143), (19, .cells (.open_ 1) (manVs first nb) 5)])⟩
def LEA2s (born born2 clock first : Nat) (es : List (List UInt8)) (nb : List UInt8) : List (Nat × Slot) := [(0, .val (P 6)), (2, .top), (3, .top), (4, .val (P 20)), (5, .top), (6, .val (P 27)), (7, .top), (8, .val (I (first : Nat))), (11, .val (.tuple #[P 20, I 0])), (12, .top), (13, .val (.tuple #[P 20, I 0])), (14, .top), (15, .top), (16, .top), (17, .bool false), (19, .top), (20, .top), (21, .top), (22, .val (.agg #[P 6, P 20, P 26, .slice none 0 0, I 0, I 0, .slice none 0 0, .map none, .bool false])), (23, .top), (24, .top), (25, .top), (26, .top), (27, .bool false), (29, .top), (30, .top), (31, .top), (32, .top), (33, .top), (34, .top), (35, .top)]
noncomputable def TEA2s (born born2 clock first : Nat) (es : List (List UInt8)) (nb : List UInt8) : List Bool := [decide ((first : Int) = (first : Int)) && (decide ((first : Int) = (first : Int)) && true) && true,
  decide ((if (first : Int) > (first : Int) then (first : Int) else (first : Int)) = (first : Int)),
  twice (P 27),
  Nat.beq 5 5,
  twice (some (AObj.cells .own [P 6, P 20, P 26, .slice none 0 0, I 0, I 0, .slice none 0 0, .map none, .bool false] 118)),
  twice (some (AObj.map [walE born, manE born2] clock)),
  twice (some (AObj.cells .own [.map (some 5), I 1073741824, .int .i64 (Int.negSucc 0), .bool false] 140)),
  twice (some (AObj.cells .own [S 19 (3 + nb.length + 1), I (((3 + nb.length + 1) : Nat) : Int)] 143)),
  twice (some (AObj.cells (.open_ 1) (manVs first nb) 5)),
  twice (P 6),
  Nat.beq 5 5,
  twice (some (AObj.map [walE born, manE born2] clock)),
  twice (some (AObj.cells .own [.map (some 5), I 1073741824, .int .i64 (Int.negSucc 0), .bool false] 140)),
  twice (some (AObj.cells .own [S 14 ((frms es).length + 12), I ((((frms es).length + 12) : Nat) : Int)] 143)),
  twice (some (AObj.cells (.open_ 1) (byteVals (hd first ++ frms es)) 5))]
theorem runEA2s (born born2 clock first : Nat) (es : List (List UInt8)) (nb : List UInt8) :
  (codeO Tryz.prog WEA2s (levX Tryz.prog (extS.with [conWO [walE born, manE born2] clock first es, conLDs born born2 clock first nb]).ext 300) (levO Tryz.prog (extS.with [conWO [walE born, manE born2] clock first es, conLDs born born2 clock first nb]) WEA2s 300) none 52 (Code.ahead p34 c34) (SEA2s born born2 clock first es nb)).map (fun r => (r.1, r.2.1.ds, r.2.1.h.gl, [20, 22, 24, 25, 26, 27, 5, 6, 13, 14, 18, 19].map r.2.1.h.objs.get, [0, 4, 6, 8, 11, 13, 22].map (fun t => (r.2.1.tm.get t).getD Go.undef), (LEA2s born born2 clock first es nb).all (fun x => x.2.fits ((r.2.1.tm.get x.1).getD Go.undef)), (List.range 52).all (fun t => ((LEA2s born born2 clock first es nb).any fun x => Nat.beq x.1 t) || Slot.undef.fits ((r.2.1.tm.get t).getD Go.undef)), r.2.2)) =
  some (.normal, [], 5, [
    some (.cells .own [P 6, I (first : Nat), S 24 es.length, I ((((frms es).length + 12) : Nat) : Int), .bool false] 219),
    some (.cells (.open_ 1) (byteVals (hd first ++ frms es)) 5),
    some (.cells (.open_ 1) (ents ((frms es).length + 12) 12 es) 57),
    some (.map [] 0),
    some (.cells .own [I 9223372036854775807, I 0, .map (some 25)] 216),
    some (.cells .own [P 6, P 20, P 26, .slice none 0 0, I 0, I (first : Nat), .slice (some ⟨29, 3, none⟩) nb.length (2 * nb.length), .map none, .bool false] 118),
    some (.map [⟨.string "wal".toUTF8, P 13, born⟩, ⟨.string "manifest".toUTF8, P 18, born2⟩] clock),
    some (.cells .own [.map (some 5), I 1073741824, I (-1), .bool false] 140),
    some (.cells .own [S 14 ((frms es).length + 12), I ((((frms es).length + 12) : Nat) : Int)] 143),
    some (.cells (.open_ 1) (byteVals (hd first ++ frms es)) 5),
    some (.cells .own [S 19 (3 + nb.length + 1), I (((3 + nb.length + 1) : Nat) : Int)] 143),
    some (.cells (.open_ 1) (manVs first nb) 5)], [P 6, P 20, P 27, I (first : Nat), .tuple #[P 20, I 0], .tuple #[P 20, I 0], .agg #[P 6, P 20, P 26, .slice none 0 0, I 0, I 0, .slice none 0 0, .map none, .bool false]], true, true, TEA2s born born2 clock first es nb) := by kernel_rfl
theorem testsEA2s (born born2 clock first : Nat) (es : List (List UInt8)) (nb : List UInt8) (hb : born < clock) (hb2 : born2 < clock) (hbb : born ≠ born2) : allT (TEA2s born born2 clock first es nb) := by
  intro b hb
  simp only [TEA2s, List.mem_cons, List.not_mem_nil, or_false] at hb
  rcases hb with hb | hb | hb | hb | hb | hb | hb | hb | hb | hb | hb | hb | hb | hb | hb <;> refine hb.trans ?_ <;> clear hb <;>
  first
  | with_reducible rfl
  | with_reducible exact isSame_refl _
  | with_reducible exact twice_ok _
  | (unfold ltT; rw [decide_eq_true_eq]; (try simp only [Int.ofNat_eq_natCast]); omega)
  | (unfold bornT; simp <;> omega)
  | (simp only [wrapM, decide_true, Bool.not_eq_true', decide_eq_true_eq, decide_eq_false_iff_not, Int.ofNat_eq_natCast, gt_iff_lt]; omega)
  | (simp only [bun, capLow, isOpen, oneCell]; omega)
  | (simp only [wrapM, Int.ofNat_eq_natCast, decide_eq_true_eq]; split <;> omega)
  | (simp only [wrapM, Int.ofNat_eq_natCast, decide_eq_true_eq, gt_iff_lt]; (repeat' split) <;> omega)
  | (first | exact z1 (by omega) | exact z2 (by omega) | exact z3 (by omega) | exact z4 (by omega) | exact z5 (by omega) | exact z6 (by omega))
  | (simp [beq_t]; done)
  | rfl
theorem gotEA2s (born born2 clock first : Nat) (es : List (List UInt8)) (nb : List UInt8)  :
  ∃ M, codeO Tryz.prog WEA2s (levX Tryz.prog (extS.with [conWO [walE born, manE born2] clock first es, conLDs born born2 clock first nb]).ext 300) (levO Tryz.prog (extS.with [conWO [walE born, manE born2] clock first es, conLDs born born2 clock first nb]) WEA2s 300) none 52 (Code.ahead p34 c34) (SEA2s born born2 clock first es nb) = some (.normal, M, TEA2s born born2 clock first es nb) ∧ GenT 52 (pairs 5 [(5, 5), (6, 6), (7, 7), (8, 8), (9, 9), (10, 10), (11, 11), (12, 12), (13, 13), (14, 14), (15, 15), (16, 16), (17, 17), (18, 18), (19, 19), (20, 20), (22, 22), (24, 24), (25, 25), (26, 26), (27, 27)]) M (heapOf 28 5 ([(20, .cells .own [P 6, I (first : Nat), S 24 es.length, I ((((frms es).length + 12) : Nat) : Int), .bool false] 219)] ++ [(22, .cells (.open_ 1) (byteVals (hd first ++ frms es)) 5)] ++ [(24, .cells (.open_ 1) (ents ((frms es).length + 12) 12 es) 57)] ++ [(25, .map [] 0)] ++ [(26, .cells .own [I 9223372036854775807, I 0, .map (some 25)] 216)] ++ [(27, .cells .own [P 6, P 20, P 26, .slice none 0 0, I 0, I (first : Nat), .chan (some 0), .map none, .bool false] 118)] ++ [(5, .map [⟨.string "wal".toUTF8, P 13, born⟩, ⟨.string "manifest".toUTF8, P 18, born2⟩] clock)] ++ [(6, .cells .own [.map (some 5), I 1073741824, I (-1), .bool false] 140)] ++ [(13, .cells .own [S 14 ((frms es).length + 12), I ((((frms es).length + 12) : Nat) : Int)] 143)] ++ [(14, .cells (.open_ 1) (byteVals (hd first ++ frms es)) 5)] ++ [(18, .cells .own [S 19 (3 + nb.length + 1), I (((3 + nb.length + 1) : Nat) : Int)] 143)] ++ [(19, .cells (.open_ 1) (manVs first nb) 5)])) (LEA2s born born2 clock first es nb) := by
  obtain ⟨⟨e, M, ts⟩, hc, h⟩ := Option.map_eq_some_iff.1 (runEA2s born born2 clock first es nb)
  simp only [Prod.mk.injEq, List.map_cons, List.map_nil, List.cons.injEq, and_true] at h
  obtain ⟨rfl, hds, hgl, ⟨h20, h22, h24, h25, h26, h27, h5, h6, h13, h14, h18, h19⟩, ⟨v0, v4, v6, v8, v11, v13, v22⟩, hfit, hall, rfl⟩ := h
  refine ⟨M, hc, Gen.of_pairs hgl (by decide) ?_, hfit, ?_, hall, once_of ?_, hds⟩
  · intro x hm
    simp only [base, fileO, walE, manE, tops, rowO, noneO, List.cons_append, List.nil_append, List.mem_cons, List.not_mem_nil, or_false] at hm
    rcases hm with rfl | rfl | rfl | rfl | rfl | rfl | rfl | rfl | rfl | rfl | rfl | rfl
    · refine fit rfl h20 (OG.own _ ?_) rfl sameFl
      exact LS.ok (by repeat' constructor)
    · refine fit rfl h22 (OG.open_ _ _ ?_) rfl sameFl
      exact LG.bytes _
    · exact fit rfl h24 (OG.open_ _ _ (ents_ok (((frms es).length + 12)) (by rfl) es 12)) rfl sameFl
    · exact fit rfl h25 OG.map0 rfl noFl
    · refine fit rfl h26 (OG.own _ ?_) rfl sameFl
      exact LS.ok (by repeat' constructor)
    · refine fit rfl h27 (OG.own _ ?_) rfl sameFl
      exact LS.ok (by repeat' constructor)
    · exact fit rfl h5 (OG.map2 (VG.string _) (VG.ptr _ rfl) (VG.string _) (VG.ptr _ rfl)) rfl noFl
    · refine fit rfl h6 (OG.own _ ?_) rfl sameFl
      exact LS.ok (by repeat' constructor)
    · refine fit rfl h13 (OG.own _ ?_) rfl sameFl
      exact LS.ok (by repeat' constructor)
    · refine fit rfl h14 (OG.open_ _ _ ?_) rfl sameFl
      exact LG.bytes _
    · refine fit rfl h18 (OG.own _ ?_) rfl sameFl
      exact LS.ok (by repeat' constructor)
    · exact fit rfl h19 (OG.open_ _ _ (LG.mans _ _)) rfl sameFl
  · intro x hx v hv
    simp only [LEA2s, List.mem_cons, List.not_mem_nil, or_false] at hx
    rcases hx with rfl | rfl | rfl | rfl | rfl | rfl | rfl | rfl | rfl | rfl | rfl | rfl | rfl | rfl | rfl | rfl | rfl | rfl | rfl | rfl | rfl | rfl | rfl | rfl | rfl | rfl | rfl | rfl | rfl | rfl | rfl <;> first | (cases hv; done) | (simp only [Slot.val.injEq] at hv; subst hv)
    · simp only [v0]
      first | exact VG.ptr _ rfl | exact VG.slice _ _ _ rfl | exact VG.int _ _ | exact VG.bool _
    · simp only [v4]
      first | exact VG.ptr _ rfl | exact VG.slice _ _ _ rfl | exact VG.int _ _ | exact VG.bool _
    · simp only [v6]
      first | exact VG.ptr _ rfl | exact VG.slice _ _ _ rfl | exact VG.int _ _ | exact VG.bool _
    · simp only [v8]
      first | exact VG.ptr _ rfl | exact VG.slice _ _ _ rfl | exact VG.int _ _ | exact VG.bool _
    · simp only [v11]
      exact VG.tuple (LG.cons (VG.ptr _ rfl) (LG.cons (VG.int _ _) LG.nil))
    · simp only [v13]
      exact VG.tuple (LG.cons (VG.ptr _ rfl) (LG.cons (VG.int _ _) LG.nil))
    · simp only [v22]
      exact VG.agg (LG.cons (VG.ptr _ rfl) (LG.cons (VG.ptr _ rfl) (LG.cons (VG.ptr _ rfl) (LG.cons VG.sliceNil (LG.cons (VG.int _ _) (LG.cons (VG.int _ _) (LG.cons VG.sliceNil (LG.cons VG.mapNil (LG.cons (VG.bool _) LG.nil)))))))))
  · show (List.map (·.1) (LEA2s born born2 clock first es nb)).Nodup
    simp only [LEA2s, List.map_cons, List.map_nil]
    decide
end Go.Proofs.YtabpbpdhapaffaaGreatDoor
end
