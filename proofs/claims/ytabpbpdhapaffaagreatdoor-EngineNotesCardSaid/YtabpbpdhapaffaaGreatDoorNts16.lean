/-
  EngineNotes returns true whatever the notes and what stands between them, part 16: GrERfe, GrERgn, GrERge, GrP34, GrW6, GrL34, GrEX, GrL34b. Conditions: none but those of the row.
-/
import Derived.Test.YtabpbpdhapaffaaGreatDoorNts14
import Derived.Test.YtabpbpdhapaffaaGreatDoorNts15
set_option linter.unusedSimpArgs false
set_option linter.unusedVariables false
section
set_option maxRecDepth 100000
namespace Go.Proofs.YtabpbpdhapaffaaGreatDoor
open Go.Vi
def WERfe : Word := fun o _ => match o.dst with
  | some 14 => bif o.pos == "wal.go:98" then some 2 else none
  | some 39 => bif o.pos == "engine.go:78" then some 1 else none
  | some 41 => bif o.pos == "engine.go:78" then some 2 else none
  | _ => none
noncomputable def SERfe (first k i sz : Nat) (taken : Int) (c lst : List Value) (nv : Value) (o5 o6 o13 o14 : AObj) : St := seenAs (heapOf 28 5 ([(20, .cells .own [P 6, I (first : Nat), S 24 k, I (sz : Nat), .bool false] 219), (22, .cells (.open_ 1) c 5), (24, .cells (.open_ 1) lst 57), (25, .map [] 0), (26, .cells .own [I 9223372036854775807, I 0, .map (some 25)] 216), (27, .cells .own [P 6, P 20, P 26, .slice none 0 0, I 0, I taken, nv, .map none, .bool false] 118)] ++ [(5, o5), (6, o6), (13, o13), (14, o14)])) (LE ((first : Int) + (i : Int)))
def LERfe (first k i sz : Nat) (taken : Int) (c lst : List Value) (nv : Value) (o5 o6 o13 o14 : AObj) : List (Nat × Slot) := [(0, .val (P 6)), (2, .top), (3, .top), (4, .val (P 20)), (5, .top), (6, .val (P 27)), (7, .top), (8, .val (I ((first : Int) + ((i + 1 : Nat) : Int)))), (9, .top), (10, .top), (11, .val (.tuple #[P 20, I 0])), (12, .top), (13, .val (.tuple #[P 20, I 0])), (14, .top), (15, .top), (16, .top), (17, .bool false), (19, .top), (20, .top), (21, .top), (22, .val (.agg #[P 6, P 20, P 26, .slice none 0 0, I 0, I 0, .slice none 0 0, .map none, .bool false])), (23, .top), (24, .top), (25, .top), (26, .top), (27, .bool false), (29, .top), (30, .top), (31, .top), (32, .top), (33, .top), (34, .top), (35, .top), (36, .top), (37, .top), (38, .top), (39, .bool true), (40, .top), (41, .top), (42, .val (.tuple #[.slice (some ⟨21, 0, none⟩) 1 3, I 0])), (43, .top), (44, .top), (45, .val (.tuple #[.slice (some ⟨21, 0, none⟩) 1 3, I 0])), (46, .top), (47, .top), (48, .top), (49, .top)]
noncomputable def TERfe (first k i sz : Nat) (taken : Int) (c lst : List Value) (nv : Value) (o5 o6 o13 o14 : AObj) : List Bool := [decide (IntKind.wrap .i64 ((first : Int) + (i : Int) + 1) = (first : Int) + (i : Int) + 1),
  twice (P 27),
  twice (Value.slice (some ⟨29, 0, none⟩) 1 3),
  Nat.beq 5 5,
  twice (some (AObj.cells .own [P 6, P 20, P 26, .slice none 0 0, I 0, I taken, nv, .map none, .bool false] 118)),
  twice (some (AObj.cells (.open_ 1) [.int .u8 (Int.ofNat 6)] 5)),
  twice (P 20),
  twice (Value.int .i64 ((first : Int) + (i : Int))),
  Nat.beq 5 5,
  twice (some (AObj.cells .own [P 6, I (first : Int), S 24 k, I (sz : Int), .bool false] 219)),
  twice (some (AObj.cells (.open_ 1) c 5)),
  twice (some (AObj.cells (.open_ 1) lst 57)),
  decide ((first : Int) + (i : Int) < (first : Int) + (k : Int)),
  decide ((first : Int) = (first : Int)) && true && (Nat.beq 24 24 && Nat.beq 0 0 && true && true && k.beq k && (2 * k + 1).beq (2 * k + 1) && true && true),
  decide (IntKind.wrap .i64 ((first : Int) + (k : Int)) = (first : Int) + (k : Int))]
theorem runERfe (first k i sz : Nat) (taken : Int) (c lst : List Value) (nv : Value) (o5 o6 o13 o14 : AObj) :
  (codeO Tryz.prog WERfe (levX Tryz.prog (extS.with [conGT c lst first k i sz [6], conPLe taken nv]).ext 300) (levO Tryz.prog (extS.with [conGT c lst first k i sz [6], conPLe taken nv]) WERfe 300) none 52 (b34) (SERfe first k i sz taken c lst nv o5 o6 o13 o14)).map (fun r => (r.1, r.2.1.ds, r.2.1.h.gl, [20, 22, 24, 25, 26, 27, 5, 6, 13, 14, 29, 31].map r.2.1.h.objs.get, [0, 4, 6, 8, 11, 13, 22, 42, 45].map (fun t => (r.2.1.tm.get t).getD Go.undef), (LERfe first k i sz taken c lst nv o5 o6 o13 o14).all (fun x => x.2.fits ((r.2.1.tm.get x.1).getD Go.undef)), (List.range 52).all (fun t => ((LERfe first k i sz taken c lst nv o5 o6 o13 o14).any fun x => Nat.beq x.1 t) || Slot.undef.fits ((r.2.1.tm.get t).getD Go.undef)), r.2.2)) =
  some (.normal, [], 5, [
    some (.cells .own [P 6, I (first : Nat), S 24 k, I (sz : Nat), .bool false] 219),
    some (.cells (.open_ 1) c 5),
    some (.cells (.open_ 1) lst 57),
    some (.map [] 0),
    some (.cells .own [I 9223372036854775807, I 0, .map (some 25)] 216),
    some (.cells .own [P 6, P 20, P 26, .slice none 0 0, I 0, I taken, .slice (some ⟨31, 0, none⟩) 0 0, .map none, .bool false] 118),
    some (o5),
    some (o6),
    some (o13),
    some (o14),
    some (.cells (.open_ 1) (byteVals [6]) 5),
    some (.cells .own [] 5)], [P 6, P 20, P 27, I ((first : Int) + (i : Int) + 1), .tuple #[P 20, I 0], .tuple #[P 20, I 0], .agg #[P 6, P 20, P 26, .slice none 0 0, I 0, I 0, .slice none 0 0, .map none, .bool false], .tuple #[.slice (some ⟨29, 0, none⟩) 1 3, I 0], .tuple #[.slice (some ⟨29, 0, none⟩) 1 3, I 0]], true, true, TERfe first k i sz taken c lst nv o5 o6 o13 o14) := by kernel_rfl
theorem testsERfe (first k i sz : Nat) (taken : Int) (c lst : List Value) (nv : Value) (o5 o6 o13 o14 : AObj) (hi : i < k) (hk : k ≤ 1000) (hf : first ≤ 1000) : allT (TERfe first k i sz taken c lst nv o5 o6 o13 o14) := by
  intro b hb
  simp only [TERfe, List.mem_cons, List.not_mem_nil, or_false] at hb
  have e0 := wrap_a ((first : Int) + (i : Int) + 1)
  have e1 := wrap_a ((first : Int) + (k : Int))
  rcases hb with hb | hb | hb | hb | hb | hb | hb | hb | hb | hb | hb | hb | hb | hb | hb <;> refine hb.trans ?_ <;> clear hb <;>
  first
  | with_reducible rfl
  | with_reducible exact isSame_refl _
  | with_reducible exact twice_ok _
  | (unfold ltT; rw [decide_eq_true_eq]; (try simp only [Int.ofNat_eq_natCast]); omega)
  | (unfold bornT; simp <;> omega)
  | (simp only [e0, e1, wrapM, decide_true, Bool.not_eq_true', decide_eq_true_eq, decide_eq_false_iff_not, Int.ofNat_eq_natCast, gt_iff_lt]; omega)
  | (simp only [bun, capLow, isOpen, oneCell]; omega)
  | (simp only [wrapM, Int.ofNat_eq_natCast, decide_eq_true_eq]; split <;> omega)
  | (simp only [e0, e1, wrapM, Int.ofNat_eq_natCast, decide_eq_true_eq, gt_iff_lt]; (repeat' split) <;> omega)
  | (first | exact z1 (by omega) | exact z2 (by omega) | exact z3 (by omega) | exact z4 (by omega) | exact z5 (by omega) | exact z6 (by omega))
  | (simp [beq_t]; done)
  | rfl
  | exact isSame_of (by simp [Nat.add_comm])
theorem gotERfe (first k i sz : Nat) (taken : Int) (c lst : List Value) (nv : Value) (o5 o6 o13 o14 : AObj) (lc : ∀ ρ : Nat → Option Nat, LG ρ c c) (ll : ∀ ρ : Nat → Option Nat, ρ 22 = some 22 → LG ρ lst lst) (l5 : LowO o5) (l6 : LowO o6) (l13 : LowO o13) (l14 : LowO o14) :
  ∃ M, codeO Tryz.prog WERfe (levX Tryz.prog (extS.with [conGT c lst first k i sz [6], conPLe taken nv]).ext 300) (levO Tryz.prog (extS.with [conGT c lst first k i sz [6], conPLe taken nv]) WERfe 300) none 52 (b34) (SERfe first k i sz taken c lst nv o5 o6 o13 o14) = some (.normal, M, TERfe first k i sz taken c lst nv o5 o6 o13 o14) ∧ GenT 52 (pairs 5 [(5, 5), (6, 6), (7, 7), (8, 8), (9, 9), (10, 10), (11, 11), (12, 12), (13, 13), (14, 14), (15, 15), (16, 16), (17, 17), (18, 18), (19, 19), (20, 20), (22, 22), (24, 24), (25, 25), (26, 26), (27, 27), (21, 29), (23, 31)]) M (heapOf 28 5 ([(20, .cells .own [P 6, I (first : Nat), S 24 k, I (sz : Nat), .bool false] 219)] ++ [(22, .cells (.open_ 1) c 5)] ++ [(24, .cells (.open_ 1) lst 57)] ++ [(25, .map [] 0)] ++ [(26, .cells .own [I 9223372036854775807, I 0, .map (some 25)] 216)] ++ [(27, .cells .own [P 6, P 20, P 26, .slice none 0 0, I 0, I taken, .slice (some ⟨23, 0, none⟩) 0 0, .map none, .bool false] 118)] ++ [(5, o5)] ++ [(6, o6)] ++ [(13, o13)] ++ [(14, o14)] ++ [(21, .cells (.open_ 1) (byteVals [6]) 5)] ++ [(23, .cells .own [] 5)])) (LERfe first k i sz taken c lst nv o5 o6 o13 o14) := by
  obtain ⟨⟨e, M, ts⟩, hc, h⟩ := Option.map_eq_some_iff.1 (runERfe first k i sz taken c lst nv o5 o6 o13 o14)
  simp only [Prod.mk.injEq, List.map_cons, List.map_nil, List.cons.injEq, and_true] at h
  obtain ⟨rfl, hds, hgl, ⟨h20, h22, h24, h25, h26, h27, h5, h6, h13, h14, h29, h31⟩, ⟨v0, v4, v6, v8, v11, v13, v22, v42, v45⟩, hfit, hall, rfl⟩ := h
  refine ⟨M, hc, Gen.of_pairs hgl (by decide) ?_, hfit, ?_, hall, once_of ?_, hds⟩
  · intro x hm
    simp only [base, fileO, walE, manE, tops, rowO, noneO, List.cons_append, List.nil_append, List.mem_cons, List.not_mem_nil, or_false] at hm
    rcases hm with rfl | rfl | rfl | rfl | rfl | rfl | rfl | rfl | rfl | rfl | rfl | rfl
    · refine fit rfl h20 (OG.own _ ?_) rfl sameFl
      exact LS.ok (by repeat' constructor)
    · exact fit rfl h22 (OG.open_ _ _ (lc _)) rfl sameFl
    · exact fit rfl h24 (OG.open_ _ _ (ll _ rfl)) rfl sameFl
    · exact fit rfl h25 OG.map0 rfl noFl
    · refine fit rfl h26 (OG.own _ ?_) rfl sameFl
      exact LS.ok (by repeat' constructor)
    · refine fit rfl h27 (OG.own _ ?_) rfl sameFl
      exact LS.ok (by repeat' constructor)
    · exact fit rfl h5 (l5 _ (low_of (by decide))) rfl fun _ _ _ h => ⟨_, h⟩
    · exact fit rfl h6 (l6 _ (low_of (by decide))) rfl fun _ _ _ h => ⟨_, h⟩
    · exact fit rfl h13 (l13 _ (low_of (by decide))) rfl fun _ _ _ h => ⟨_, h⟩
    · exact fit rfl h14 (l14 _ (low_of (by decide))) rfl fun _ _ _ h => ⟨_, h⟩
    · refine fit rfl h29 (OG.open_ _ _ ?_) rfl sameFl
      exact LG.bytes _
    · refine fit rfl h31 (OG.own _ ?_) rfl sameFl
      exact LS.ok (by repeat' constructor)
  · intro x hx v hv
    simp only [LERfe, List.mem_cons, List.not_mem_nil, or_false] at hx
    rcases hx with rfl | rfl | rfl | rfl | rfl | rfl | rfl | rfl | rfl | rfl | rfl | rfl | rfl | rfl | rfl | rfl | rfl | rfl | rfl | rfl | rfl | rfl | rfl | rfl | rfl | rfl | rfl | rfl | rfl | rfl | rfl | rfl | rfl | rfl | rfl | rfl | rfl | rfl | rfl | rfl | rfl | rfl | rfl | rfl | rfl | rfl | rfl <;> first | (cases hv; done) | (simp only [Slot.val.injEq] at hv; subst hv)
    · simp only [v0]
      first | exact VG.ptr _ rfl | exact VG.slice _ _ _ rfl | exact VG.int _ _ | exact VG.bool _
    · simp only [v4]
      first | exact VG.ptr _ rfl | exact VG.slice _ _ _ rfl | exact VG.int _ _ | exact VG.bool _
    · simp only [v6]
      first | exact VG.ptr _ rfl | exact VG.slice _ _ _ rfl | exact VG.int _ _ | exact VG.bool _
    · simp only [v8]
      rw [show (first : Int) + (i : Int) + 1 = (first : Int) + ((i + 1 : Nat) : Int) by omega]
      first | exact VG.ptr _ rfl | exact VG.slice _ _ _ rfl | exact VG.int _ _ | exact VG.bool _
    · simp only [v11]
      exact VG.tuple (LG.cons (VG.ptr _ rfl) (LG.cons (VG.int _ _) LG.nil))
    · simp only [v13]
      exact VG.tuple (LG.cons (VG.ptr _ rfl) (LG.cons (VG.int _ _) LG.nil))
    · simp only [v22]
      exact VG.agg (LG.cons (VG.ptr _ rfl) (LG.cons (VG.ptr _ rfl) (LG.cons (VG.ptr _ rfl) (LG.cons VG.sliceNil (LG.cons (VG.int _ _) (LG.cons (VG.int _ _) (LG.cons VG.sliceNil (LG.cons VG.mapNil (LG.cons (VG.bool _) LG.nil)))))))))
    · simp only [v42]
      exact VG.tuple (LG.cons (VG.slice _ _ _ rfl) (LG.cons (VG.int _ _) LG.nil))
    · simp only [v45]
      exact VG.tuple (LG.cons (VG.slice _ _ _ rfl) (LG.cons (VG.int _ _) LG.nil))
  · show (List.map (·.1) (LERfe first k i sz taken c lst nv o5 o6 o13 o14)).Nodup
    simp only [LERfe, List.map_cons, List.map_nil]
    decide
def WERgn : Word := fun o _ => match o.dst with
  | some 14 => bif o.pos == "wal.go:98" then some 2 else none
  | some 39 => bif o.pos == "engine.go:78" then some 1 else none
  | some 41 => bif o.pos == "engine.go:78" then some 2 else none
  | _ => none
noncomputable def SERgn (first k i sz : Nat) (taken : Int) (c lst : List Value) (e : List UInt8) (nv : Value) (o5 o6 o13 o14 : AObj) (o21 o23 : AObj) (t42 : Value) : St := seenAs (heapOf 28 5 ([(20, .cells .own [P 6, I (first : Nat), S 24 k, I (sz : Nat), .bool false] 219), (22, .cells (.open_ 1) c 5), (24, .cells (.open_ 1) lst 57), (25, .map [] 0), (26, .cells .own [I 9223372036854775807, I 0, .map (some 25)] 216), (27, .cells .own [P 6, P 20, P 26, .slice none 0 0, I 0, I taken, nv, .map none, .bool false] 118)] ++ [(5, o5), (6, o6), (13, o13), (14, o14)] ++ [(21, o21), (23, o23)])) (LEV ((first : Int) + (i : Int)) t42)
def LERgn (first k i sz : Nat) (taken : Int) (c lst : List Value) (e : List UInt8) (nv : Value) (o5 o6 o13 o14 : AObj) (o21 o23 : AObj) (t42 : Value) : List (Nat × Slot) := [(0, .val (P 6)), (2, .top), (3, .top), (4, .val (P 20)), (5, .top), (6, .val (P 27)), (7, .top), (8, .val (I ((first : Int) + ((i + 1 : Nat) : Int)))), (9, .top), (10, .top), (11, .val (.tuple #[P 20, I 0])), (12, .top), (13, .val (.tuple #[P 20, I 0])), (14, .top), (15, .top), (16, .top), (17, .bool false), (19, .top), (20, .top), (21, .top), (22, .val (.agg #[P 6, P 20, P 26, .slice none 0 0, I 0, I 0, .slice none 0 0, .map none, .bool false])), (23, .top), (24, .top), (25, .top), (26, .top), (27, .bool false), (29, .top), (30, .top), (31, .top), (32, .top), (33, .top), (34, .top), (35, .top), (36, .top), (37, .top), (38, .top), (39, .bool true), (40, .top), (41, .top), (42, .val (.tuple #[.slice (some ⟨21, 0, none⟩) (e.length + 1) (2 * (e.length + 1) + 1), I 0])), (43, .top), (44, .top), (45, .val (.tuple #[.slice (some ⟨21, 0, none⟩) (e.length + 1) (2 * (e.length + 1) + 1), I 0])), (46, .top), (47, .top), (48, .top), (49, .top)]
noncomputable def TERgn (first k i sz : Nat) (taken : Int) (c lst : List Value) (e : List UInt8) (nv : Value) (o5 o6 o13 o14 : AObj) (o21 o23 : AObj) (t42 : Value) : List Bool := [decide (IntKind.wrap .i64 ((first : Int) + (i : Int) + 1) = (first : Int) + (i : Int) + 1),
  twice (P 27),
  isSame (Value.slice (some ⟨29, 0, none⟩) (e.length + 1) (2 * (e.length + 1) + 1)) (.slice (some ⟨29, 0, none⟩) (1 + e.length) (2 * (1 + e.length) + 1)),
  Nat.beq 5 5,
  twice (some (AObj.cells .own [P 6, P 20, P 26, .slice none 0 0, I 0, I taken, nv, .map none, .bool false] 118)),
  twice (some (AObj.cells (.open_ 1) (byteVals (6 :: e)) 5)),
  twice (P 20),
  twice (Value.int .i64 ((first : Int) + (i : Int))),
  Nat.beq 5 5,
  twice (some (AObj.cells .own [P 6, I (first : Int), S 24 k, I (sz : Int), .bool false] 219)),
  twice (some (AObj.cells (.open_ 1) c 5)),
  twice (some (AObj.cells (.open_ 1) lst 57)),
  decide ((first : Int) + (i : Int) < (first : Int) + (k : Int)),
  decide ((first : Int) = (first : Int)) && true && (Nat.beq 24 24 && Nat.beq 0 0 && true && true && k.beq k && (2 * k + 1).beq (2 * k + 1) && true && true),
  decide (IntKind.wrap .i64 ((first : Int) + (k : Int)) = (first : Int) + (k : Int))]
theorem runERgn (first k i sz : Nat) (taken : Int) (c lst : List Value) (e : List UInt8) (nv : Value) (o5 o6 o13 o14 : AObj) (o21 o23 : AObj) (t42 : Value) :
  (codeO Tryz.prog WERgn (levX Tryz.prog (extS.with [conGT c lst first k i sz (6 :: e), conPLn e taken nv]).ext 300) (levO Tryz.prog (extS.with [conGT c lst first k i sz (6 :: e), conPLn e taken nv]) WERgn 300) none 52 (b34) (SERgn first k i sz taken c lst e nv o5 o6 o13 o14 o21 o23 t42)).map (fun r => (r.1, r.2.1.ds, r.2.1.h.gl, [20, 22, 24, 25, 26, 27, 5, 6, 13, 14, 29, 32].map r.2.1.h.objs.get, [0, 4, 6, 8, 11, 13, 22, 42, 45].map (fun t => (r.2.1.tm.get t).getD Go.undef), (LERgn first k i sz taken c lst e nv o5 o6 o13 o14 o21 o23 t42).all (fun x => x.2.fits ((r.2.1.tm.get x.1).getD Go.undef)), (List.range 52).all (fun t => ((LERgn first k i sz taken c lst e nv o5 o6 o13 o14 o21 o23 t42).any fun x => Nat.beq x.1 t) || Slot.undef.fits ((r.2.1.tm.get t).getD Go.undef)), r.2.2)) =
  some (.normal, [], 5, [
    some (.cells .own [P 6, I (first : Nat), S 24 k, I (sz : Nat), .bool false] 219),
    some (.cells (.open_ 1) c 5),
    some (.cells (.open_ 1) lst 57),
    some (.map [] 0),
    some (.cells .own [I 9223372036854775807, I 0, .map (some 25)] 216),
    some (.cells .own [P 6, P 20, P 26, .slice none 0 0, I 0, I taken, .slice (some ⟨32, 0, none⟩) e.length (2 * e.length + 1), .map none, .bool false] 118),
    some (o5),
    some (o6),
    some (o13),
    some (o14),
    some (.cells (.open_ 1) (byteVals (6 :: e)) 5),
    some (.cells (.open_ 1) (byteVals e) 5)], [P 6, P 20, P 27, I ((first : Int) + (i : Int) + 1), .tuple #[P 20, I 0], .tuple #[P 20, I 0], .agg #[P 6, P 20, P 26, .slice none 0 0, I 0, I 0, .slice none 0 0, .map none, .bool false], .tuple #[.slice (some ⟨29, 0, none⟩) (e.length + 1) (2 * (e.length + 1) + 1), I 0], .tuple #[.slice (some ⟨29, 0, none⟩) (e.length + 1) (2 * (e.length + 1) + 1), I 0]], true, true, TERgn first k i sz taken c lst e nv o5 o6 o13 o14 o21 o23 t42) := by kernel_rfl
theorem testsERgn (first k i sz : Nat) (taken : Int) (c lst : List Value) (e : List UInt8) (nv : Value) (o5 o6 o13 o14 : AObj) (o21 o23 : AObj) (t42 : Value) (hi : i < k) (hk : k ≤ 1000) (hf : first ≤ 1000) : allT (TERgn first k i sz taken c lst e nv o5 o6 o13 o14 o21 o23 t42) := by
  intro b hb
  simp only [TERgn, List.mem_cons, List.not_mem_nil, or_false] at hb
  have e0 := wrap_a ((first : Int) + (i : Int) + 1)
  have e1 := wrap_a ((first : Int) + (k : Int))
  rcases hb with hb | hb | hb | hb | hb | hb | hb | hb | hb | hb | hb | hb | hb | hb | hb <;> refine hb.trans ?_ <;> clear hb <;>
  first
  | with_reducible rfl
  | with_reducible exact isSame_refl _
  | with_reducible exact twice_ok _
  | (unfold ltT; rw [decide_eq_true_eq]; (try simp only [Int.ofNat_eq_natCast]); omega)
  | (unfold bornT; simp <;> omega)
  | (simp only [e0, e1, wrapM, decide_true, Bool.not_eq_true', decide_eq_true_eq, decide_eq_false_iff_not, Int.ofNat_eq_natCast, gt_iff_lt]; omega)
  | (simp only [bun, capLow, isOpen, oneCell]; omega)
  | (simp only [wrapM, Int.ofNat_eq_natCast, decide_eq_true_eq]; split <;> omega)
  | (simp only [e0, e1, wrapM, Int.ofNat_eq_natCast, decide_eq_true_eq, gt_iff_lt]; (repeat' split) <;> omega)
  | (first | exact z1 (by omega) | exact z2 (by omega) | exact z3 (by omega) | exact z4 (by omega) | exact z5 (by omega) | exact z6 (by omega))
  | (simp [beq_t]; done)
  | rfl
  | exact isSame_of (by simp [Nat.add_comm])
theorem gotERgn (first k i sz : Nat) (taken : Int) (c lst : List Value) (e : List UInt8) (nv : Value) (o5 o6 o13 o14 : AObj) (o21 o23 : AObj) (t42 : Value) (lc : ∀ ρ : Nat → Option Nat, LG ρ c c) (ll : ∀ ρ : Nat → Option Nat, ρ 22 = some 22 → LG ρ lst lst) (l5 : LowO o5) (l6 : LowO o6) (l13 : LowO o13) (l14 : LowO o14) :
  ∃ M, codeO Tryz.prog WERgn (levX Tryz.prog (extS.with [conGT c lst first k i sz (6 :: e), conPLn e taken nv]).ext 300) (levO Tryz.prog (extS.with [conGT c lst first k i sz (6 :: e), conPLn e taken nv]) WERgn 300) none 52 (b34) (SERgn first k i sz taken c lst e nv o5 o6 o13 o14 o21 o23 t42) = some (.normal, M, TERgn first k i sz taken c lst e nv o5 o6 o13 o14 o21 o23 t42) ∧ GenT 52 (pairs 5 [(5, 5), (6, 6), (7, 7), (8, 8), (9, 9), (10, 10), (11, 11), (12, 12), (13, 13), (14, 14), (15, 15), (16, 16), (17, 17), (18, 18), (19, 19), (20, 20), (22, 22), (24, 24), (25, 25), (26, 26), (27, 27), (21, 29), (23, 32)]) M (heapOf 28 5 ([(20, .cells .own [P 6, I (first : Nat), S 24 k, I (sz : Nat), .bool false] 219)] ++ [(22, .cells (.open_ 1) c 5)] ++ [(24, .cells (.open_ 1) lst 57)] ++ [(25, .map [] 0)] ++ [(26, .cells .own [I 9223372036854775807, I 0, .map (some 25)] 216)] ++ [(27, .cells .own [P 6, P 20, P 26, .slice none 0 0, I 0, I taken, .slice (some ⟨23, 0, none⟩) e.length (2 * e.length + 1), .map none, .bool false] 118)] ++ [(5, o5)] ++ [(6, o6)] ++ [(13, o13)] ++ [(14, o14)] ++ [(21, .cells (.open_ 1) (byteVals (6 :: e)) 5)] ++ [(23, .cells (.open_ 1) (byteVals e) 5)])) (LERgn first k i sz taken c lst e nv o5 o6 o13 o14 o21 o23 t42) := by
  obtain ⟨⟨e, M, ts⟩, hc, h⟩ := Option.map_eq_some_iff.1 (runERgn first k i sz taken c lst e nv o5 o6 o13 o14 o21 o23 t42)
  simp only [Prod.mk.injEq, List.map_cons, List.map_nil, List.cons.injEq, and_true] at h
  obtain ⟨rfl, hds, hgl, ⟨h20, h22, h24, h25, h26, h27, h5, h6, h13, h14, h29, h32⟩, ⟨v0, v4, v6, v8, v11, v13, v22, v42, v45⟩, hfit, hall, rfl⟩ := h
  refine ⟨M, hc, Gen.of_pairs hgl (by decide) ?_, hfit, ?_, hall, once_of ?_, hds⟩
  · intro x hm
    simp only [base, fileO, walE, manE, tops, rowO, noneO, List.cons_append, List.nil_append, List.mem_cons, List.not_mem_nil, or_false] at hm
    rcases hm with rfl | rfl | rfl | rfl | rfl | rfl | rfl | rfl | rfl | rfl | rfl | rfl
    · refine fit rfl h20 (OG.own _ ?_) rfl sameFl
      exact LS.ok (by repeat' constructor)
    · exact fit rfl h22 (OG.open_ _ _ (lc _)) rfl sameFl
    · exact fit rfl h24 (OG.open_ _ _ (ll _ rfl)) rfl sameFl
    · exact fit rfl h25 OG.map0 rfl noFl
    · refine fit rfl h26 (OG.own _ ?_) rfl sameFl
      exact LS.ok (by repeat' constructor)
    · refine fit rfl h27 (OG.own _ ?_) rfl sameFl
      exact LS.ok (by repeat' constructor)
    · exact fit rfl h5 (l5 _ (low_of (by decide))) rfl fun _ _ _ h => ⟨_, h⟩
    · exact fit rfl h6 (l6 _ (low_of (by decide))) rfl fun _ _ _ h => ⟨_, h⟩
    · exact fit rfl h13 (l13 _ (low_of (by decide))) rfl fun _ _ _ h => ⟨_, h⟩
    · exact fit rfl h14 (l14 _ (low_of (by decide))) rfl fun _ _ _ h => ⟨_, h⟩
    · refine fit rfl h29 (OG.open_ _ _ ?_) rfl sameFl
      exact LG.bytes _
    · refine fit rfl h32 (OG.open_ _ _ ?_) rfl sameFl
      exact LG.bytes _
  · intro x hx v hv
    simp only [LERgn, List.mem_cons, List.not_mem_nil, or_false] at hx
    rcases hx with rfl | rfl | rfl | rfl | rfl | rfl | rfl | rfl | rfl | rfl | rfl | rfl | rfl | rfl | rfl | rfl | rfl | rfl | rfl | rfl | rfl | rfl | rfl | rfl | rfl | rfl | rfl | rfl | rfl | rfl | rfl | rfl | rfl | rfl | rfl | rfl | rfl | rfl | rfl | rfl | rfl | rfl | rfl | rfl | rfl | rfl | rfl <;> first | (cases hv; done) | (simp only [Slot.val.injEq] at hv; subst hv)
    · simp only [v0]
      first | exact VG.ptr _ rfl | exact VG.slice _ _ _ rfl | exact VG.int _ _ | exact VG.bool _
    · simp only [v4]
      first | exact VG.ptr _ rfl | exact VG.slice _ _ _ rfl | exact VG.int _ _ | exact VG.bool _
    · simp only [v6]
      first | exact VG.ptr _ rfl | exact VG.slice _ _ _ rfl | exact VG.int _ _ | exact VG.bool _
    · simp only [v8]
      rw [show (first : Int) + (i : Int) + 1 = (first : Int) + ((i + 1 : Nat) : Int) by omega]
      first | exact VG.ptr _ rfl | exact VG.slice _ _ _ rfl | exact VG.int _ _ | exact VG.bool _
    · simp only [v11]
      exact VG.tuple (LG.cons (VG.ptr _ rfl) (LG.cons (VG.int _ _) LG.nil))
    · simp only [v13]
      exact VG.tuple (LG.cons (VG.ptr _ rfl) (LG.cons (VG.int _ _) LG.nil))
    · simp only [v22]
      exact VG.agg (LG.cons (VG.ptr _ rfl) (LG.cons (VG.ptr _ rfl) (LG.cons (VG.ptr _ rfl) (LG.cons VG.sliceNil (LG.cons (VG.int _ _) (LG.cons (VG.int _ _) (LG.cons VG.sliceNil (LG.cons VG.mapNil (LG.cons (VG.bool _) LG.nil)))))))))
    · simp only [v42]
      exact VG.tuple (LG.cons (VG.slice _ _ _ rfl) (LG.cons (VG.int _ _) LG.nil))
    · simp only [v45]
      exact VG.tuple (LG.cons (VG.slice _ _ _ rfl) (LG.cons (VG.int _ _) LG.nil))
  · show (List.map (·.1) (LERgn first k i sz taken c lst e nv o5 o6 o13 o14 o21 o23 t42)).Nodup
    simp only [LERgn, List.map_cons, List.map_nil]
    decide
def WERge : Word := fun o _ => match o.dst with
  | some 14 => bif o.pos == "wal.go:98" then some 2 else none
  | some 39 => bif o.pos == "engine.go:78" then some 1 else none
  | some 41 => bif o.pos == "engine.go:78" then some 2 else none
  | _ => none
noncomputable def SERge (first k i sz : Nat) (taken : Int) (c lst : List Value) (nv : Value) (o5 o6 o13 o14 : AObj) (o21 o23 : AObj) (t42 : Value) : St := seenAs (heapOf 28 5 ([(20, .cells .own [P 6, I (first : Nat), S 24 k, I (sz : Nat), .bool false] 219), (22, .cells (.open_ 1) c 5), (24, .cells (.open_ 1) lst 57), (25, .map [] 0), (26, .cells .own [I 9223372036854775807, I 0, .map (some 25)] 216), (27, .cells .own [P 6, P 20, P 26, .slice none 0 0, I 0, I taken, nv, .map none, .bool false] 118)] ++ [(5, o5), (6, o6), (13, o13), (14, o14)] ++ [(21, o21), (23, o23)])) (LEV ((first : Int) + (i : Int)) t42)
def LERge (first k i sz : Nat) (taken : Int) (c lst : List Value) (nv : Value) (o5 o6 o13 o14 : AObj) (o21 o23 : AObj) (t42 : Value) : List (Nat × Slot) := [(0, .val (P 6)), (2, .top), (3, .top), (4, .val (P 20)), (5, .top), (6, .val (P 27)), (7, .top), (8, .val (I ((first : Int) + ((i + 1 : Nat) : Int)))), (9, .top), (10, .top), (11, .val (.tuple #[P 20, I 0])), (12, .top), (13, .val (.tuple #[P 20, I 0])), (14, .top), (15, .top), (16, .top), (17, .bool false), (19, .top), (20, .top), (21, .top), (22, .val (.agg #[P 6, P 20, P 26, .slice none 0 0, I 0, I 0, .slice none 0 0, .map none, .bool false])), (23, .top), (24, .top), (25, .top), (26, .top), (27, .bool false), (29, .top), (30, .top), (31, .top), (32, .top), (33, .top), (34, .top), (35, .top), (36, .top), (37, .top), (38, .top), (39, .bool true), (40, .top), (41, .top), (42, .val (.tuple #[.slice (some ⟨21, 0, none⟩) 1 3, I 0])), (43, .top), (44, .top), (45, .val (.tuple #[.slice (some ⟨21, 0, none⟩) 1 3, I 0])), (46, .top), (47, .top), (48, .top), (49, .top)]
noncomputable def TERge (first k i sz : Nat) (taken : Int) (c lst : List Value) (nv : Value) (o5 o6 o13 o14 : AObj) (o21 o23 : AObj) (t42 : Value) : List Bool := [decide (IntKind.wrap .i64 ((first : Int) + (i : Int) + 1) = (first : Int) + (i : Int) + 1),
  twice (P 27),
  twice (Value.slice (some ⟨29, 0, none⟩) 1 3),
  Nat.beq 5 5,
  twice (some (AObj.cells .own [P 6, P 20, P 26, .slice none 0 0, I 0, I taken, nv, .map none, .bool false] 118)),
  twice (some (AObj.cells (.open_ 1) [.int .u8 (Int.ofNat 6)] 5)),
  twice (P 20),
  twice (Value.int .i64 ((first : Int) + (i : Int))),
  Nat.beq 5 5,
  twice (some (AObj.cells .own [P 6, I (first : Int), S 24 k, I (sz : Int), .bool false] 219)),
  twice (some (AObj.cells (.open_ 1) c 5)),
  twice (some (AObj.cells (.open_ 1) lst 57)),
  decide ((first : Int) + (i : Int) < (first : Int) + (k : Int)),
  decide ((first : Int) = (first : Int)) && true && (Nat.beq 24 24 && Nat.beq 0 0 && true && true && k.beq k && (2 * k + 1).beq (2 * k + 1) && true && true),
  decide (IntKind.wrap .i64 ((first : Int) + (k : Int)) = (first : Int) + (k : Int))]
theorem runERge (first k i sz : Nat) (taken : Int) (c lst : List Value) (nv : Value) (o5 o6 o13 o14 : AObj) (o21 o23 : AObj) (t42 : Value) :
  (codeO Tryz.prog WERge (levX Tryz.prog (extS.with [conGT c lst first k i sz [6], conPLe taken nv]).ext 300) (levO Tryz.prog (extS.with [conGT c lst first k i sz [6], conPLe taken nv]) WERge 300) none 52 (b34) (SERge first k i sz taken c lst nv o5 o6 o13 o14 o21 o23 t42)).map (fun r => (r.1, r.2.1.ds, r.2.1.h.gl, [20, 22, 24, 25, 26, 27, 5, 6, 13, 14, 29, 31].map r.2.1.h.objs.get, [0, 4, 6, 8, 11, 13, 22, 42, 45].map (fun t => (r.2.1.tm.get t).getD Go.undef), (LERge first k i sz taken c lst nv o5 o6 o13 o14 o21 o23 t42).all (fun x => x.2.fits ((r.2.1.tm.get x.1).getD Go.undef)), (List.range 52).all (fun t => ((LERge first k i sz taken c lst nv o5 o6 o13 o14 o21 o23 t42).any fun x => Nat.beq x.1 t) || Slot.undef.fits ((r.2.1.tm.get t).getD Go.undef)), r.2.2)) =
  some (.normal, [], 5, [
    some (.cells .own [P 6, I (first : Nat), S 24 k, I (sz : Nat), .bool false] 219),
    some (.cells (.open_ 1) c 5),
    some (.cells (.open_ 1) lst 57),
    some (.map [] 0),
    some (.cells .own [I 9223372036854775807, I 0, .map (some 25)] 216),
    some (.cells .own [P 6, P 20, P 26, .slice none 0 0, I 0, I taken, .slice (some ⟨31, 0, none⟩) 0 0, .map none, .bool false] 118),
    some (o5),
    some (o6),
    some (o13),
    some (o14),
    some (.cells (.open_ 1) (byteVals [6]) 5),
    some (.cells .own [] 5)], [P 6, P 20, P 27, I ((first : Int) + (i : Int) + 1), .tuple #[P 20, I 0], .tuple #[P 20, I 0], .agg #[P 6, P 20, P 26, .slice none 0 0, I 0, I 0, .slice none 0 0, .map none, .bool false], .tuple #[.slice (some ⟨29, 0, none⟩) 1 3, I 0], .tuple #[.slice (some ⟨29, 0, none⟩) 1 3, I 0]], true, true, TERge first k i sz taken c lst nv o5 o6 o13 o14 o21 o23 t42) := by kernel_rfl
theorem testsERge (first k i sz : Nat) (taken : Int) (c lst : List Value) (nv : Value) (o5 o6 o13 o14 : AObj) (o21 o23 : AObj) (t42 : Value) (hi : i < k) (hk : k ≤ 1000) (hf : first ≤ 1000) : allT (TERge first k i sz taken c lst nv o5 o6 o13 o14 o21 o23 t42) := by
  intro b hb
  simp only [TERge, List.mem_cons, List.not_mem_nil, or_false] at hb
  have e0 := wrap_a ((first : Int) + (i : Int) + 1)
  have e1 := wrap_a ((first : Int) + (k : Int))
  rcases hb with hb | hb | hb | hb | hb | hb | hb | hb | hb | hb | hb | hb | hb | hb | hb <;> refine hb.trans ?_ <;> clear hb <;>
  first
  | with_reducible rfl
  | with_reducible exact isSame_refl _
  | with_reducible exact twice_ok _
  | (unfold ltT; rw [decide_eq_true_eq]; (try simp only [Int.ofNat_eq_natCast]); omega)
  | (unfold bornT; simp <;> omega)
  | (simp only [e0, e1, wrapM, decide_true, Bool.not_eq_true', decide_eq_true_eq, decide_eq_false_iff_not, Int.ofNat_eq_natCast, gt_iff_lt]; omega)
  | (simp only [bun, capLow, isOpen, oneCell]; omega)
  | (simp only [wrapM, Int.ofNat_eq_natCast, decide_eq_true_eq]; split <;> omega)
  | (simp only [e0, e1, wrapM, Int.ofNat_eq_natCast, decide_eq_true_eq, gt_iff_lt]; (repeat' split) <;> omega)
  | (first | exact z1 (by omega) | exact z2 (by omega) | exact z3 (by omega) | exact z4 (by omega) | exact z5 (by omega) | exact z6 (by omega))
  | (simp [beq_t]; done)
  | rfl
  | exact isSame_of (by simp [Nat.add_comm])
theorem gotERge (first k i sz : Nat) (taken : Int) (c lst : List Value) (nv : Value) (o5 o6 o13 o14 : AObj) (o21 o23 : AObj) (t42 : Value) (lc : ∀ ρ : Nat → Option Nat, LG ρ c c) (ll : ∀ ρ : Nat → Option Nat, ρ 22 = some 22 → LG ρ lst lst) (l5 : LowO o5) (l6 : LowO o6) (l13 : LowO o13) (l14 : LowO o14) :
  ∃ M, codeO Tryz.prog WERge (levX Tryz.prog (extS.with [conGT c lst first k i sz [6], conPLe taken nv]).ext 300) (levO Tryz.prog (extS.with [conGT c lst first k i sz [6], conPLe taken nv]) WERge 300) none 52 (b34) (SERge first k i sz taken c lst nv o5 o6 o13 o14 o21 o23 t42) = some (.normal, M, TERge first k i sz taken c lst nv o5 o6 o13 o14 o21 o23 t42) ∧ GenT 52 (pairs 5 [(5, 5), (6, 6), (7, 7), (8, 8), (9, 9), (10, 10), (11, 11), (12, 12), (13, 13), (14, 14), (15, 15), (16, 16), (17, 17), (18, 18), (19, 19), (20, 20), (22, 22), (24, 24), (25, 25), (26, 26), (27, 27), (21, 29), (23, 31)]) M (heapOf 28 5 ([(20, .cells .own [P 6, I (first : Nat), S 24 k, I (sz : Nat), .bool false] 219)] ++ [(22, .cells (.open_ 1) c 5)] ++ [(24, .cells (.open_ 1) lst 57)] ++ [(25, .map [] 0)] ++ [(26, .cells .own [I 9223372036854775807, I 0, .map (some 25)] 216)] ++ [(27, .cells .own [P 6, P 20, P 26, .slice none 0 0, I 0, I taken, .slice (some ⟨23, 0, none⟩) 0 0, .map none, .bool false] 118)] ++ [(5, o5)] ++ [(6, o6)] ++ [(13, o13)] ++ [(14, o14)] ++ [(21, .cells (.open_ 1) (byteVals [6]) 5)] ++ [(23, .cells .own [] 5)])) (LERge first k i sz taken c lst nv o5 o6 o13 o14 o21 o23 t42) := by
  obtain ⟨⟨e, M, ts⟩, hc, h⟩ := Option.map_eq_some_iff.1 (runERge first k i sz taken c lst nv o5 o6 o13 o14 o21 o23 t42)
  simp only [Prod.mk.injEq, List.map_cons, List.map_nil, List.cons.injEq, and_true] at h
  obtain ⟨rfl, hds, hgl, ⟨h20, h22, h24, h25, h26, h27, h5, h6, h13, h14, h29, h31⟩, ⟨v0, v4, v6, v8, v11, v13, v22, v42, v45⟩, hfit, hall, rfl⟩ := h
  refine ⟨M, hc, Gen.of_pairs hgl (by decide) ?_, hfit, ?_, hall, once_of ?_, hds⟩
  · intro x hm
    simp only [base, fileO, walE, manE, tops, rowO, noneO, List.cons_append, List.nil_append, List.mem_cons, List.not_mem_nil, or_false] at hm
    rcases hm with rfl | rfl | rfl | rfl | rfl | rfl | rfl | rfl | rfl | rfl | rfl | rfl
    · refine fit rfl h20 (OG.own _ ?_) rfl sameFl
      exact LS.ok (by repeat' constructor)
    · exact fit rfl h22 (OG.open_ _ _ (lc _)) rfl sameFl
    · exact fit rfl h24 (OG.open_ _ _ (ll _ rfl)) rfl sameFl
    · exact fit rfl h25 OG.map0 rfl noFl
    · refine fit rfl h26 (OG.own _ ?_) rfl sameFl
      exact LS.ok (by repeat' constructor)
    · refine fit rfl h27 (OG.own _ ?_) rfl sameFl
      exact LS.ok (by repeat' constructor)
    · exact fit rfl h5 (l5 _ (low_of (by decide))) rfl fun _ _ _ h => ⟨_, h⟩
    · exact fit rfl h6 (l6 _ (low_of (by decide))) rfl fun _ _ _ h => ⟨_, h⟩
    · exact fit rfl h13 (l13 _ (low_of (by decide))) rfl fun _ _ _ h => ⟨_, h⟩
    · exact fit rfl h14 (l14 _ (low_of (by decide))) rfl fun _ _ _ h => ⟨_, h⟩
    · refine fit rfl h29 (OG.open_ _ _ ?_) rfl sameFl
      exact LG.bytes _
    · refine fit rfl h31 (OG.own _ ?_) rfl sameFl
      exact LS.ok (by repeat' constructor)
  · intro x hx v hv
    simp only [LERge, List.mem_cons, List.not_mem_nil, or_false] at hx
    rcases hx with rfl | rfl | rfl | rfl | rfl | rfl | rfl | rfl | rfl | rfl | rfl | rfl | rfl | rfl | rfl | rfl | rfl | rfl | rfl | rfl | rfl | rfl | rfl | rfl | rfl | rfl | rfl | rfl | rfl | rfl | rfl | rfl | rfl | rfl | rfl | rfl | rfl | rfl | rfl | rfl | rfl | rfl | rfl | rfl | rfl | rfl | rfl <;> first | (cases hv; done) | (simp only [Slot.val.injEq] at hv; subst hv)
    · simp only [v0]
      first | exact VG.ptr _ rfl | exact VG.slice _ _ _ rfl | exact VG.int _ _ | exact VG.bool _
    · simp only [v4]
      first | exact VG.ptr _ rfl | exact VG.slice _ _ _ rfl | exact VG.int _ _ | exact VG.bool _
    · simp only [v6]
      first | exact VG.ptr _ rfl | exact VG.slice _ _ _ rfl | exact VG.int _ _ | exact VG.bool _
    · simp only [v8]
      rw [show (first : Int) + (i : Int) + 1 = (first : Int) + ((i + 1 : Nat) : Int) by omega]
      first | exact VG.ptr _ rfl | exact VG.slice _ _ _ rfl | exact VG.int _ _ | exact VG.bool _
    · simp only [v11]
      exact VG.tuple (LG.cons (VG.ptr _ rfl) (LG.cons (VG.int _ _) LG.nil))
    · simp only [v13]
      exact VG.tuple (LG.cons (VG.ptr _ rfl) (LG.cons (VG.int _ _) LG.nil))
    · simp only [v22]
      exact VG.agg (LG.cons (VG.ptr _ rfl) (LG.cons (VG.ptr _ rfl) (LG.cons (VG.ptr _ rfl) (LG.cons VG.sliceNil (LG.cons (VG.int _ _) (LG.cons (VG.int _ _) (LG.cons VG.sliceNil (LG.cons VG.mapNil (LG.cons (VG.bool _) LG.nil)))))))))
    · simp only [v42]
      exact VG.tuple (LG.cons (VG.slice _ _ _ rfl) (LG.cons (VG.int _ _) LG.nil))
    · simp only [v45]
      exact VG.tuple (LG.cons (VG.slice _ _ _ rfl) (LG.cons (VG.int _ _) LG.nil))
  · show (List.map (·.1) (LERge first k i sz taken c lst nv o5 o6 o13 o14 o21 o23 t42)).Nodup
    simp only [LERge, List.map_cons, List.map_nil]
    decide
end Go.Proofs.YtabpbpdhapaffaaGreatDoor
end
section
namespace Go.Proofs.YtabpbpdhapaffaaGreatDoor
open Go.Vi
section
variable {first k i sz t off : Nat} {taken : Int} {c lst : List Value} {e : List UInt8} {nv t42 : Value} {o5 o6 o13 o14 o21 o23 : AObj}
/-- Ahead of the first round. -/
noncomputable def stP0 (first k sz : Nat) (taken : Int) (c lst : List Value) (r8 : Int) (nv : Value) (o5 o6 o13 o14 : AObj) : St :=
  seenAs (heapOf 28 5 ([(20, .cells .own [P 6, I (first : Nat), S 24 k, I (sz : Nat), .bool false] 219), (22, .cells (.open_ 1) c 5), (24, .cells (.open_ 1) lst 57), (25, .map [] 0), (26, .cells .own [I 9223372036854775807, I 0, .map (some 25)] 216), (27, .cells .own [P 6, P 20, P 26, .slice none 0 0, I 0, I taken, nv, .map none, .bool false] 118)] ++ [(5, o5), (6, o6), (13, o13), (14, o14)])) (LE r8)
/-- Behind some rounds. -/
noncomputable def stP (first k sz : Nat) (taken : Int) (c lst : List Value) (r8 : Int) (nv : Value) (o5 o6 o13 o14 o21 o23 : AObj) (t42 : Value) : St :=
  seenAs (heapOf 28 5 ([(20, .cells .own [P 6, I (first : Nat), S 24 k, I (sz : Nat), .bool false] 219), (22, .cells (.open_ 1) c 5), (24, .cells (.open_ 1) lst 57), (25, .map [] 0), (26, .cells .own [I 9223372036854775807, I 0, .map (some 25)] 216), (27, .cells .own [P 6, P 20, P 26, .slice none 0 0, I 0, I taken, nv, .map none, .bool false] 118)] ++ [(5, o5), (6, o6), (13, o13), (14, o14)] ++ [(21, o21), (23, o23)])) (LEV r8 t42)
/-- The engine's note and its row behind an entry. -/
def nvE : List UInt8 → Value
  | [] => .slice (some ⟨23, 0, none⟩) 0 0
  | a :: e => .slice (some ⟨23, 0, none⟩) (a :: e).length (2 * (a :: e).length + 1)
def o23E : List UInt8 → AObj
  | [] => .cells .own [] 5
  | a :: e => .cells (.open_ 1) (byteVals (a :: e)) 5
def t42E (e : List UInt8) : Value := .tuple #[.slice (some ⟨21, 0, none⟩) (e.length + 1) (2 * (e.length + 1) + 1), I 0]
/-- Behind a round. -/
noncomputable def stR (first k sz : Nat) (taken : Int) (c lst : List Value) (i : Nat) (e : List UInt8) (o5 o6 o13 o14 : AObj) : St :=
  stP first k sz taken c lst ((first : Int) + (i : Nat)) (nvE e) o5 o6 o13 o14 (.cells (.open_ 1) (byteVals (6 :: e)) 5) (o23E e) (t42E e)
theorem conP_ok (hv : lst[i]? = some (ent t off (6 :: e).length)) (hb : (c.drop (off + 4)).take (6 :: e).length = byteVals (6 :: e)) (he : e.length ≤ 5000) (hi : i < k) (hk : k ≤ 1000) (hf : first ≤ 1000) : Con.Ok Tryz.prog (conGT c lst first k i sz (6 :: e)) :=
  conGT_ok c lst first k i sz hv hb rfl (by simp) (by simp only [List.length_cons]; omega) hi hk hf
theorem conPn (h1 : Con.Ok Tryz.prog (conGT c lst first k i sz (6 :: e))) (h0 : 0 < e.length) (he : e.length ≤ 5000) : ExtOk Tryz.prog (extS.with [conGT c lst first k i sz (6 :: e), conPLn e taken nv]).ext :=
  ExtOk.with extS_ok fun x hx => by
    rcases List.mem_cons.1 hx with rfl | hx
    · exact h1
    · rw [List.mem_singleton.1 hx]; exact conPLn_ok e taken nv h0 (by omega)
theorem conPe (h1 : Con.Ok Tryz.prog (conGT c lst first k i sz [6])) : ExtOk Tryz.prog (extS.with [conGT c lst first k i sz [6], conPLe taken nv]).ext :=
  ExtOk.with extS_ok fun x hx => by
    rcases List.mem_cons.1 hx with rfl | hx
    · exact h1
    · rw [List.mem_singleton.1 hx]; exact conPLe_ok taken nv
theorem play_f (hv : lst[i]? = some (ent t off (6 :: e).length)) (hb : (c.drop (off + 4)).take (6 :: e).length = byteVals (6 :: e)) (he : e.length ≤ 5000) (hi : i < k) (hk : k ≤ 1000) (hf : first ≤ 1000)
    (lc : ∀ ρ : Nat → Option Nat, LG ρ c c) (ll : ∀ ρ : Nat → Option Nat, ρ 22 = some 22 → LG ρ lst lst) (l5 : LowO o5) (l6 : LowO o6) (l13 : LowO o13) (l14 : LowO o14) :
    TriW Tryz.prog 20 52 (stP0 first k sz taken c lst ((first : Int) + (i : Nat)) nv o5 o6 o13 o14) b34 .normal (stR first k sz taken c lst (i + 1) e o5 o6 o13 o14) := by
  have h1 := conP_ok (sz := sz) hv hb he hi hk hf
  cases e with
  | nil =>
    obtain ⟨M, hc, g⟩ := gotERfe first k i sz taken c lst nv o5 o6 o13 o14 lc ll l5 l6 l13 l14
    exact TriW.seen (TriW.run mixedO (conPe h1) 300 hc (testsERfe first k i sz taken c lst nv o5 o6 o13 o14 hi hk hf)) g (lt_of_all rfl) (low_of (by decide))
  | cons a e =>
    obtain ⟨M, hc, g⟩ := gotERfn first k i sz taken c lst (a :: e) nv o5 o6 o13 o14 lc ll l5 l6 l13 l14
    exact TriW.seen (TriW.run mixedO (conPn h1 (by simp) he) 300 hc (testsERfn first k i sz taken c lst (a :: e) nv o5 o6 o13 o14 hi hk hf)) g (lt_of_all rfl) (low_of (by decide))
theorem play_g (hv : lst[i]? = some (ent t off (6 :: e).length)) (hb : (c.drop (off + 4)).take (6 :: e).length = byteVals (6 :: e)) (he : e.length ≤ 5000) (hi : i < k) (hk : k ≤ 1000) (hf : first ≤ 1000)
    (lc : ∀ ρ : Nat → Option Nat, LG ρ c c) (ll : ∀ ρ : Nat → Option Nat, ρ 22 = some 22 → LG ρ lst lst) (l5 : LowO o5) (l6 : LowO o6) (l13 : LowO o13) (l14 : LowO o14) :
    TriW Tryz.prog 20 52 (stP first k sz taken c lst ((first : Int) + (i : Nat)) nv o5 o6 o13 o14 o21 o23 t42) b34 .normal (stR first k sz taken c lst (i + 1) e o5 o6 o13 o14) := by
  have h1 := conP_ok (sz := sz) hv hb he hi hk hf
  cases e with
  | nil =>
    obtain ⟨M, hc, g⟩ := gotERge first k i sz taken c lst nv o5 o6 o13 o14 o21 o23 t42 lc ll l5 l6 l13 l14
    exact TriW.seen (TriW.run mixedO (conPe h1) 300 hc (testsERge first k i sz taken c lst nv o5 o6 o13 o14 o21 o23 t42 hi hk hf)) g (lt_of_all rfl) (low_of (by decide))
  | cons a e =>
    obtain ⟨M, hc, g⟩ := gotERgn first k i sz taken c lst (a :: e) nv o5 o6 o13 o14 o21 o23 t42 lc ll l5 l6 l13 l14
    exact TriW.seen (TriW.run mixedO (conPn h1 (by simp) he) 300 hc (testsERgn first k i sz taken c lst (a :: e) nv o5 o6 o13 o14 o21 o23 t42 hi hk hf)) g (lt_of_all rfl) (low_of (by decide))
end
theorem ents_get (t : Nat) : ∀ (es : List (List UInt8)) (off i : Nat) (h : i < es.length), (ents t off es)[i]? = some (ent t (off + span (es.take i)) (1 + es[i].length))
  | x :: es, off, 0, _ => rfl
  | x :: es, off, i + 1, h => by
    have ih := ents_get t es (off + 4 + (1 + x.length)) i (by simpa using h)
    simp only [List.take_succ_cons, span_cons, List.getElem_cons_succ]
    rw [show off + (4 + (1 + x.length) + span (es.take i)) = off + 4 + (1 + x.length) + span (es.take i) by omega]
    exact ih
theorem byteVals_append (a b : List UInt8) : byteVals (a ++ b) = byteVals a ++ byteVals b := by simp [byteVals]
theorem bytes_take (first : Nat) (es fs : List (List UInt8)) (e : List UInt8) : ((byteVals (hd first ++ frms (es ++ e :: fs))).drop (12 + span es + 4)).take (6 :: e).length = byteVals (6 :: e) := by
  have e1 : hd first ++ frms (es ++ e :: fs) = (hd first ++ frms es ++ beb (1 + e.length)) ++ ((6 :: e) ++ frms fs) := by simp [frms, frm]
  have e2 : (byteVals (hd first ++ frms es ++ beb (1 + e.length))).length = 12 + span es + 4 := by
    rw [byteVals_length, List.length_append, List.length_append, hd_length, beb_length]; rfl
  rw [e1, byteVals_append, ← e2, List.drop_left, byteVals_append]
  have e3 : (6 :: e).length = (byteVals (6 :: e)).length := (byteVals_length _).symm
  rw [e3, List.take_left]
section
variable {first sz : Nat} {taken : Int} {es : List (List UInt8)} {nv : Value} {o5 o6 o13 o14 : AObj}
/-- Behind the first 'i' rounds. -/
noncomputable def stL (first sz : Nat) (taken : Int) (es : List (List UInt8)) (nv : Value) (o5 o6 o13 o14 : AObj) : Nat → St
  | 0 => stP0 first es.length sz taken (byteVals (hd first ++ frms es)) (ents ((frms es).length + 12) 12 es) ((first : Int) + (0 : Nat)) nv o5 o6 o13 o14
  | i + 1 => stR first es.length sz taken (byteVals (hd first ++ frms es)) (ents ((frms es).length + 12) 12 es) (i + 1) (es[i]?.getD []) o5 o6 o13 o14
theorem play_i (he : ∀ e ∈ es, e.length ≤ 5000) (hk : es.length ≤ 30) (hf : first ≤ 60) (l5 : LowO o5) (l6 : LowO o6) (l13 : LowO o13) (l14 : LowO o14) (i : Nat) (hi : i < es.length) :
    TriW Tryz.prog 20 52 (stL first sz taken es nv o5 o6 o13 o14 i) b34 .normal (stL first sz taken es nv o5 o6 o13 o14 (i + 1)) := by
  have hv : (ents ((frms es).length + 12) 12 es)[i]? = some (ent ((frms es).length + 12) (12 + span (es.take i)) (6 :: es[i]).length) := by
    rw [ents_get _ _ _ _ hi, List.length_cons, Nat.add_comm 1]
  have hb : ((byteVals (hd first ++ frms es)).drop (12 + span (es.take i) + 4)).take (6 :: es[i]).length = byteVals (6 :: es[i]) := by
    have := bytes_take first (es.take i) (es.drop (i + 1)) es[i]
    rwa [show es.take i ++ es[i] :: es.drop (i + 1) = es by rw [← List.drop_eq_getElem_cons hi, List.take_append_drop]] at this
  have hm := he _ (List.getElem_mem hi)
  have lc : ∀ ρ : Nat → Option Nat, LG ρ (byteVals (hd first ++ frms es)) (byteVals (hd first ++ frms es)) := fun ρ => LG.bytes _
  have ll : ∀ ρ : Nat → Option Nat, ρ 22 = some 22 → LG ρ (ents ((frms es).length + 12) 12 es) (ents ((frms es).length + 12) 12 es) := fun ρ h => ents_ok _ h _ _
  have hg : es[i]?.getD [] = es[i] := by rw [List.getElem?_eq_getElem hi]; rfl
  match i, hi, hv, hb, hm, hg with
  | 0, hi, hv, hb, hm, hg =>
    simp only [stL, hg]
    exact play_f hv hb hm hi (by omega) (by omega) lc ll l5 l6 l13 l14
  | i + 1, hi, hv, hb, hm, hg =>
    simp only [stL, hg]
    exact play_g hv hb hm hi (by omega) (by omega) lc ll l5 l6 l13 l14
end
end Go.Proofs.YtabpbpdhapaffaaGreatDoor
end
section
set_option maxRecDepth 100000
namespace Go.Proofs.YtabpbpdhapaffaaGreatDoor
open Go.Vi
def WEX : Word := fun o _ => match o.dst with
  | some 14 => bif o.pos == "wal.go:98" then some 2 else none
  | some 39 => bif o.pos == "engine.go:78" then some 0 else none
  | _ => none
noncomputable def SEX (first k sz : Nat) (taken : Int) (c lst : List Value) (nv : Value) (o5 o6 o13 o14 : AObj) (o21 o23 : AObj) (t42 : Value) : St := seenAs (heapOf 28 5 ([(20, .cells .own [P 6, I (first : Nat), S 24 k, I (sz : Nat), .bool false] 219), (22, .cells (.open_ 1) c 5), (24, .cells (.open_ 1) lst 57), (25, .map [] 0), (26, .cells .own [I 9223372036854775807, I 0, .map (some 25)] 216), (27, .cells .own [P 6, P 20, P 26, .slice none 0 0, I 0, I taken, nv, .map none, .bool false] 118)] ++ [(5, o5), (6, o6), (13, o13), (14, o14)] ++ [(21, o21), (23, o23)])) (LEV ((first : Int) + (k : Int)) t42)
def LEX (first k sz : Nat) (taken : Int) (c lst : List Value) (nv : Value) (o5 o6 o13 o14 : AObj) (o21 o23 : AObj) (t42 : Value) : List (Nat × Slot) := [(0, .val (P 6)), (2, .top), (3, .top), (4, .val (P 20)), (5, .top), (6, .val (P 27)), (7, .top), (8, .val (I ((first : Int) + (k : Int)))), (9, .top), (10, .top), (11, .val (.tuple #[P 20, I 0])), (12, .top), (13, .val (.tuple #[P 20, I 0])), (14, .top), (15, .top), (16, .top), (17, .bool false), (19, .top), (20, .top), (21, .top), (22, .val (.agg #[P 6, P 20, P 26, .slice none 0 0, I 0, I 0, .slice none 0 0, .map none, .bool false])), (23, .top), (24, .top), (25, .top), (26, .top), (27, .bool false), (29, .top), (30, .top), (31, .top), (32, .top), (33, .top), (34, .top), (35, .top), (36, .top), (37, .top), (38, .top), (39, .bool false), (40, .top), (41, .top), (42, .val (t42)), (43, .top), (44, .top), (45, .val (t42)), (46, .top), (47, .top), (48, .top), (49, .top)]
noncomputable def TEX (first k sz : Nat) (taken : Int) (c lst : List Value) (nv : Value) (o5 o6 o13 o14 : AObj) (o21 o23 : AObj) (t42 : Value) : List Bool := [!decide ((first : Int) + (k : Int) < (first : Int) + (k : Int)),
  decide ((first : Int) = (first : Int)) && true && (Nat.beq 24 24 && Nat.beq 0 0 && true && true && k.beq k && (2 * k + 1).beq (2 * k + 1) && true && true),
  decide (IntKind.wrap .i64 ((first : Int) + (k : Int)) = (first : Int) + (k : Int))]
theorem runEX (first k sz : Nat) (taken : Int) (c lst : List Value) (nv : Value) (o5 o6 o13 o14 : AObj) (o21 o23 : AObj) (t42 : Value) :
  (codeO Tryz.prog WEX (levX Tryz.prog extS.ext 300) (levO Tryz.prog extS WEX 300) none 52 (b34) (SEX first k sz taken c lst nv o5 o6 o13 o14 o21 o23 t42)).map (fun r => (r.1, r.2.1.ds, r.2.1.h.gl, [20, 22, 24, 25, 26, 27, 5, 6, 13, 14, 21, 23].map r.2.1.h.objs.get, [0, 4, 6, 8, 11, 13, 22, 42, 45].map (fun t => (r.2.1.tm.get t).getD Go.undef), (LEX first k sz taken c lst nv o5 o6 o13 o14 o21 o23 t42).all (fun x => x.2.fits ((r.2.1.tm.get x.1).getD Go.undef)), (List.range 52).all (fun t => ((LEX first k sz taken c lst nv o5 o6 o13 o14 o21 o23 t42).any fun x => Nat.beq x.1 t) || Slot.undef.fits ((r.2.1.tm.get t).getD Go.undef)), r.2.2)) =
  some (.exit 0, [], 5, [
    some (.cells .own [P 6, I (first : Nat), S 24 k, I (sz : Nat), .bool false] 219),
    some (.cells (.open_ 1) c 5),
    some (.cells (.open_ 1) lst 57),
    some (.map [] 0),
    some (.cells .own [I 9223372036854775807, I 0, .map (some 25)] 216),
    some (.cells .own [P 6, P 20, P 26, .slice none 0 0, I 0, I taken, nv, .map none, .bool false] 118),
    some (o5),
    some (o6),
    some (o13),
    some (o14),
    some (o21),
    some (o23)], [P 6, P 20, P 27, I ((first : Int) + (k : Int)), .tuple #[P 20, I 0], .tuple #[P 20, I 0], .agg #[P 6, P 20, P 26, .slice none 0 0, I 0, I 0, .slice none 0 0, .map none, .bool false], t42, t42], true, true, TEX first k sz taken c lst nv o5 o6 o13 o14 o21 o23 t42) := by kernel_rfl
theorem testsEX (first k sz : Nat) (taken : Int) (c lst : List Value) (nv : Value) (o5 o6 o13 o14 : AObj) (o21 o23 : AObj) (t42 : Value) (hk : k ≤ 1000) (hf : first ≤ 1000) : allT (TEX first k sz taken c lst nv o5 o6 o13 o14 o21 o23 t42) := by
  intro b hb
  simp only [TEX, List.mem_cons, List.not_mem_nil, or_false] at hb
  have e0 := wrap_a ((first : Int) + (k : Int))
  rcases hb with hb | hb | hb <;> refine hb.trans ?_ <;> clear hb <;>
  first
  | with_reducible rfl
  | with_reducible exact isSame_refl _
  | (unfold ltT; rw [decide_eq_true_eq]; (try simp only [Int.ofNat_eq_natCast]); omega)
  | (unfold bornT; simp <;> omega)
  | (simp only [e0, wrapM, decide_true, Bool.not_eq_true', decide_eq_true_eq, decide_eq_false_iff_not, Int.ofNat_eq_natCast, gt_iff_lt]; omega)
  | (simp only [bun, capLow, isOpen, oneCell]; omega)
  | (simp only [wrapM, Int.ofNat_eq_natCast, decide_eq_true_eq]; split <;> omega)
  | (simp only [e0, wrapM, Int.ofNat_eq_natCast, decide_eq_true_eq, gt_iff_lt]; (repeat' split) <;> omega)
  | (first | exact z1 (by omega) | exact z2 (by omega) | exact z3 (by omega) | exact z4 (by omega) | exact z5 (by omega) | exact z6 (by omega))
  | (simp [beq_t]; done)
  | rfl
theorem gotEX (first k sz : Nat) (taken : Int) (c lst : List Value) (nv : Value) (o5 o6 o13 o14 : AObj) (o21 o23 : AObj) (t42 : Value) (lc : ∀ ρ : Nat → Option Nat, LG ρ c c) (ll : ∀ ρ : Nat → Option Nat, ρ 22 = some 22 → LG ρ lst lst) (lnv : ∀ ρ : Nat → Option Nat, ρ 23 = some 23 → VG ρ nv nv) (lt : ∀ ρ : Nat → Option Nat, ρ 21 = some 21 → VG ρ t42 t42) (l5 : LowO o5) (l6 : LowO o6) (l13 : LowO o13) (l14 : LowO o14) (l21 : LowO o21) (l23 : LowO o23) :
  ∃ M, codeO Tryz.prog WEX (levX Tryz.prog extS.ext 300) (levO Tryz.prog extS WEX 300) none 52 (b34) (SEX first k sz taken c lst nv o5 o6 o13 o14 o21 o23 t42) = some (.exit 0, M, TEX first k sz taken c lst nv o5 o6 o13 o14 o21 o23 t42) ∧ GenT 52 (pairs 5 [(5, 5), (6, 6), (7, 7), (8, 8), (9, 9), (10, 10), (11, 11), (12, 12), (13, 13), (14, 14), (15, 15), (16, 16), (17, 17), (18, 18), (19, 19), (20, 20), (22, 22), (24, 24), (25, 25), (26, 26), (27, 27), (21, 21), (23, 23)]) M (heapOf 28 5 ([(20, .cells .own [P 6, I (first : Nat), S 24 k, I (sz : Nat), .bool false] 219)] ++ [(22, .cells (.open_ 1) c 5)] ++ [(24, .cells (.open_ 1) lst 57)] ++ [(25, .map [] 0)] ++ [(26, .cells .own [I 9223372036854775807, I 0, .map (some 25)] 216)] ++ [(27, .cells .own [P 6, P 20, P 26, .slice none 0 0, I 0, I taken, nv, .map none, .bool false] 118)] ++ [(5, o5)] ++ [(6, o6)] ++ [(13, o13)] ++ [(14, o14)] ++ [(21, o21)] ++ [(23, o23)])) (LEX first k sz taken c lst nv o5 o6 o13 o14 o21 o23 t42) := by
  obtain ⟨⟨e, M, ts⟩, hc, h⟩ := Option.map_eq_some_iff.1 (runEX first k sz taken c lst nv o5 o6 o13 o14 o21 o23 t42)
  simp only [Prod.mk.injEq, List.map_cons, List.map_nil, List.cons.injEq, and_true] at h
  obtain ⟨rfl, hds, hgl, ⟨h20, h22, h24, h25, h26, h27, h5, h6, h13, h14, h21, h23⟩, ⟨v0, v4, v6, v8, v11, v13, v22, v42, v45⟩, hfit, hall, rfl⟩ := h
  refine ⟨M, hc, Gen.of_pairs hgl (by decide) ?_, hfit, ?_, hall, once_of ?_, hds⟩
  · intro x hm
    simp only [base, fileO, walE, manE, tops, rowO, noneO, List.cons_append, List.nil_append, List.mem_cons, List.not_mem_nil, or_false] at hm
    rcases hm with rfl | rfl | rfl | rfl | rfl | rfl | rfl | rfl | rfl | rfl | rfl | rfl
    · refine fit rfl h20 (OG.own _ ?_) rfl sameFl
      exact LS.ok (by repeat' constructor)
    · exact fit rfl h22 (OG.open_ _ _ (lc _)) rfl sameFl
    · exact fit rfl h24 (OG.open_ _ _ (ll _ rfl)) rfl sameFl
    · exact fit rfl h25 OG.map0 rfl noFl
    · refine fit rfl h26 (OG.own _ ?_) rfl sameFl
      exact LS.ok (by repeat' constructor)
    · exact fit rfl h27 (OG.own _ (LG.cons (VG.ptr _ rfl) (LG.cons (VG.ptr _ rfl) (LG.cons (VG.ptr _ rfl) (LG.cons VG.sliceNil (LG.cons (VG.int _ _) (LG.cons (VG.int _ _) (LG.cons (lnv _ rfl) (LG.cons VG.mapNil (LG.cons (VG.bool _) LG.nil)))))))))) rfl sameFl
    · exact fit rfl h5 (l5 _ (low_of (by decide))) rfl fun _ _ _ h => ⟨_, h⟩
    · exact fit rfl h6 (l6 _ (low_of (by decide))) rfl fun _ _ _ h => ⟨_, h⟩
    · exact fit rfl h13 (l13 _ (low_of (by decide))) rfl fun _ _ _ h => ⟨_, h⟩
    · exact fit rfl h14 (l14 _ (low_of (by decide))) rfl fun _ _ _ h => ⟨_, h⟩
    · exact fit rfl h21 (l21 _ (low_of (by decide))) rfl fun _ _ _ h => ⟨_, h⟩
    · exact fit rfl h23 (l23 _ (low_of (by decide))) rfl fun _ _ _ h => ⟨_, h⟩
  · intro x hx v hv
    simp only [LEX, List.mem_cons, List.not_mem_nil, or_false] at hx
    rcases hx with rfl | rfl | rfl | rfl | rfl | rfl | rfl | rfl | rfl | rfl | rfl | rfl | rfl | rfl | rfl | rfl | rfl | rfl | rfl | rfl | rfl | rfl | rfl | rfl | rfl | rfl | rfl | rfl | rfl | rfl | rfl | rfl | rfl | rfl | rfl | rfl | rfl | rfl | rfl | rfl | rfl | rfl | rfl | rfl | rfl | rfl | rfl <;> first | (cases hv; done) | (simp only [Slot.val.injEq] at hv; subst hv)
    · simp only [v0]
      first | exact VG.ptr _ rfl | exact VG.slice _ _ _ rfl | exact VG.int _ _ | exact VG.bool _
    · simp only [v4]
      first | exact VG.ptr _ rfl | exact VG.slice _ _ _ rfl | exact VG.int _ _ | exact VG.bool _
    · simp only [v6]
      first | exact VG.ptr _ rfl | exact VG.slice _ _ _ rfl | exact VG.int _ _ | exact VG.bool _
    · simp only [v8]
      first | exact VG.ptr _ rfl | exact VG.slice _ _ _ rfl | exact VG.int _ _ | exact VG.bool _
    · simp only [v11]
      exact VG.tuple (LG.cons (VG.ptr _ rfl) (LG.cons (VG.int _ _) LG.nil))
    · simp only [v13]
      exact VG.tuple (LG.cons (VG.ptr _ rfl) (LG.cons (VG.int _ _) LG.nil))
    · simp only [v22]
      exact VG.agg (LG.cons (VG.ptr _ rfl) (LG.cons (VG.ptr _ rfl) (LG.cons (VG.ptr _ rfl) (LG.cons VG.sliceNil (LG.cons (VG.int _ _) (LG.cons (VG.int _ _) (LG.cons VG.sliceNil (LG.cons VG.mapNil (LG.cons (VG.bool _) LG.nil)))))))))
    · simp only [v42]
      exact lt _ rfl
    · simp only [v45]
      exact lt _ rfl
  · show (List.map (·.1) (LEX first k sz taken c lst nv o5 o6 o13 o14 o21 o23 t42)).Nodup
    simp only [LEX, List.map_cons, List.map_nil]
    decide
end Go.Proofs.YtabpbpdhapaffaaGreatDoor
end
section
namespace Go.Proofs.YtabpbpdhapaffaaGreatDoor
open Go.Vi
section
variable {first sz : Nat} {taken : Int} {es : List (List UInt8)} {nv : Value} {o5 o6 o13 o14 : AObj}
/-- Behind the loop, its last entry 'e'. -/
noncomputable def stY (first sz : Nat) (taken : Int) (es : List (List UInt8)) (e : List UInt8) (o5 o6 o13 o14 : AObj) : St :=
  seenAs (heapOf 28 5 ([(20, .cells .own [P 6, I (first : Nat), S 24 es.length, I (sz : Nat), .bool false] 219), (22, .cells (.open_ 1) (byteVals (hd first ++ frms es)) 5), (24, .cells (.open_ 1) (ents ((frms es).length + 12) 12 es) 57), (25, .map [] 0), (26, .cells .own [I 9223372036854775807, I 0, .map (some 25)] 216), (27, .cells .own [P 6, P 20, P 26, .slice none 0 0, I 0, I taken, nvE e, .map none, .bool false] 118), (5, o5), (6, o6), (13, o13), (14, o14), (21, .cells (.open_ 1) (byteVals (6 :: e)) 5), (23, o23E e)]))
    (LEX first es.length sz taken (byteVals (hd first ++ frms es)) (ents ((frms es).length + 12) 12 es) (nvE e) o5 o6 o13 o14 (.cells (.open_ 1) (byteVals (6 :: e)) 5) (o23E e) (t42E e))
theorem loop34 (hne : 0 < es.length) (he : ∀ e ∈ es, e.length ≤ 5000) (hk : es.length ≤ 30) (hf : first ≤ 60) (l5 : LowO o5) (l6 : LowO o6) (l13 : LowO o13) (l14 : LowO o14) :
    TriW Tryz.prog 20 52 (stL first sz taken es nv o5 o6 o13 o14 0) (.block 0 (.loop b34)) .normal (stY first sz taken es (es[es.length - 1]?.getD []) o5 o6 o13 o14) := by
  refine TriW.block (TriW.loop (by intro h; cases h) (stL first sz taken es nv o5 o6 o13 o14) es.length (play_i he hk hf l5 l6 l13 l14) ?_)
  obtain ⟨k, hk'⟩ : ∃ k, es.length = k + 1 := ⟨es.length - 1, by omega⟩
  have e0 : es.length - 1 = k := by omega
  have hst : stL first sz taken es nv o5 o6 o13 o14 es.length = stR first es.length sz taken (byteVals (hd first ++ frms es)) (ents ((frms es).length + 12) 12 es) es.length (es[es.length - 1]?.getD []) o5 o6 o13 o14 := by
    rw [e0, hk']; simp only [stL, hk']
  rw [hst]
  generalize es[es.length - 1]?.getD [] = e
  have lnv : ∀ ρ : Nat → Option Nat, ρ 23 = some 23 → VG ρ (nvE e) (nvE e) := fun ρ h => by cases e <;> exact VG.slice _ _ _ h
  have lt : ∀ ρ : Nat → Option Nat, ρ 21 = some 21 → VG ρ (t42E e) (t42E e) := fun ρ h => VG.tuple (LG.cons (VG.slice _ _ _ h) (LG.cons (VG.int _ _) LG.nil))
  have l23 : LowO (o23E e) := fun ρ _ => by cases e <;> first | exact OG.own _ LG.nil | exact OG.open_ _ _ (LG.bytes _)
  have l21 : LowO (.cells (.open_ 1) (byteVals (6 :: e)) 5) := fun ρ _ => OG.open_ _ _ (LG.bytes _)
  obtain ⟨M, hc, g⟩ := gotEX first es.length sz taken (byteVals (hd first ++ frms es)) (ents ((frms es).length + 12) 12 es) (nvE e) o5 o6 o13 o14 (.cells (.open_ 1) (byteVals (6 :: e)) 5) (o23E e) (t42E e) (fun ρ => LG.bytes _) (fun ρ h => ents_ok _ h _ _) lnv lt l5 l6 l13 l14 l21 l23
  exact TriW.seen (TriW.run mixedO extS_ok 300 hc (testsEX _ _ _ _ _ _ _ _ _ _ _ _ _ _ (by omega) (by omega))) g (lt_of_all rfl) (low_of (by decide))
end
end Go.Proofs.YtabpbpdhapaffaaGreatDoor
end
