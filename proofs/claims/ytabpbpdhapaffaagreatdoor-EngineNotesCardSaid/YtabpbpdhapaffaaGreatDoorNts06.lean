/-
  EngineNotes returns true whatever the notes and what stands between them, part 6: GrA12, GrA13, GrA14, GrA15. Conditions: none but those of the row.
-/
import Derived.LoopNIn
import Derived.RangeFuncLeaves
import Derived.Test.YtabpbpdhapaffaaGreatDoorNts05
set_option linter.unusedSimpArgs false
set_option linter.unusedVariables false
section
namespace Go.Vi
section
variable {P : Program} {φ : Ren} {H K : AHeap} {w : World}

def ValOk (P : Program) (φ : Ren) (H : AHeap) (w : World) (s : Sem Value) (v : Value) (K : AHeap) : Prop :=
  ∃ ψ v' w', s.run P w = .ok v' w' ∧ Leaves φ H w ψ K w' ∧ VR ψ v v'
theorem ValOk.same (h : HR φ H w) (hf : Fresh φ H) {s : Sem Value} {v v' : Value} (hs : s.run P w = .ok v' w) (hv : VR φ v v') : ValOk P φ H w s v H :=
  ⟨φ, v', w, hs, Leaves.same h hf, hv⟩
theorem getObj_run {b : Nat} {o : Obj} (h : w.heap[b]? = some o) (hn : ∀ c e fr, o ≠ .cells c e fr) : (getObj b).run P w = .ok o w := by
  cases o <;> first | (exact absurd rfl (hn _ _ _)) | simp only [getObj, Sem.run, h]
theorem setObj_run {b : Nat} {o o1 : Obj} (h : w.heap[b]? = some o) (hn : ∀ c e fr, o ≠ .cells c e fr) : (setObj b o1).run P w = .ok () { w with heap := w.heap.setIfInBounds b o1 } := by
  cases o <;> first | (exact absurd rfl (hn _ _ _)) | simp only [setObj, Sem.run, h]
/-- One block of another kind than cells turned. -/
theorem HR.setOther (h : HR φ H w) (hf : Fresh φ H) {i b : Nat} {ob ob1 : AObj} {o1 o' : Obj} (hi : H.objs.get i = some ob) (hb : φ i = some b) (hw : w.heap[b]? = some o') (hwr : ob.wr = true) (hor : OR φ ob1 o1)
    (hn : ∀ fl c e, ob1 ≠ .cells fl c e) : Leaves φ H w φ (H.set i ob1) { w with heap := w.heap.setIfInBounds b o1 } := by
  obtain ⟨s1, s2, s3⟩ := set_heap (o' := o1) hw
  obtain ⟨r1, r2, r3⟩ := h.turn (w1 := { w with heap := w.heap.setIfInBounds b o1 }) hf hi hb hwr hor (fun fl c e c' fr h => absurd h (hn _ _ _)) s1 s2 s3 rfl rfl rfl
  exact ⟨r1, r2, r3⟩
theorem HR.pushOther (h : HR φ H w) (hf : Fresh φ H) {ob : AObj} {o' : Obj} (hor : OR φ ob o') (hn : ∀ fl c e, ob ≠ .cells fl c e) :
    Leaves φ H w (φ.set H.next w.heap.size 0) (H.new ob) { w with heap := w.heap.push o' } := by
  obtain ⟨r1, r2, r3⟩ := h.push (w1 := { w with heap := w.heap.push o' }) (n := 0) hf hor (fun fl c e c' fr h => absurd h (hn _ _ _)) rfl rfl rfl rfl
  exact ⟨r1, r2, r3⟩

theorem range_ok (h : HR φ H w) (hf : Fresh φ H) {t : TypeId} {x x' v : Value} (hx : VR φ x x') (ha : rangeA P H t x = some (v, K)) : ValOk P φ H w (Instr.range t x') v K := by
  unfold rangeA at ha
  split at ha <;> try (cases ha; done)
  · rename_i s hu
    simp only [Option.some.injEq, Prod.mk.injEq] at ha
    obtain ⟨rfl, rfl⟩ := ha
    rw [hx.string_inv]
    refine ⟨_, _, _, ?_, h.pushOther hf (.sIter s 0) (fun _ _ _ e => by cases e), .ptr (Ren.set_same _ _ _ _)⟩
    simp only [Instr.range, Sem.run_bind, und_run hu, Result.andThen_ok, Sem.run_pure, run_newObj]
  · rename_i hu
    simp only [Option.some.injEq, Prod.mk.injEq] at ha
    obtain ⟨rfl, rfl⟩ := ha
    rw [hx.mapNil_inv]
    refine ⟨_, _, _, ?_, h.pushOther hf (.mIterN 0 [] 0) (fun _ _ _ e => by cases e), .ptr (Ren.set_same _ _ _ _)⟩
    simp only [Instr.range, Sem.run_bind, und_run hu, Result.andThen_ok, Sem.run_pure, run_newObj]
  · rename_i m hu
    obtain ⟨b, hb, rfl⟩ := hx.map_inv
    cases hm : H.objs.get m with
    | none => rw [hm] at ha; cases ha
    | some ob =>
    rw [hm] at ha
    cases ob <;> try (cases ha; done)
    rename_i es clock
    simp only [Option.some.injEq, Prod.mk.injEq] at ha
    obtain ⟨rfl, rfl⟩ := ha
    obtain ⟨es', g1, g2⟩ := h.mapObj hm hb
    refine ⟨_, _, _, ?_, h.pushOther hf (.mIter clock [] clock hb) (fun _ _ _ e => by cases e), .ptr (Ren.set_same _ _ _ _)⟩
    simp only [Instr.range, Sem.run_bind, und_run hu, Result.andThen_ok, Sem.run_pure, run_getObj_map g1, run_newObj]

theorem ER.filter {x y : List MapEntry} (h : ER φ x y) (f : Nat → Bool) : ER φ (x.filter fun e => f e.born) (y.filter fun e => f e.born) := by
  induction x generalizing y with
  | nil => rw [h.nil_inv]; exact ⟨rfl, fun i e he => by simp at he⟩
  | cons e x ih =>
    obtain ⟨e', y', rfl, r1, r2, r3, r4⟩ := h.cons_inv
    have ih := ih r4
    simp only [List.filter_cons, ← r3]
    cases f e.born with
    | false => simpa using ih
    | true =>
      simp only [if_true]
      exact ⟨by simp [ih.1], fun i u hu => by
        cases i with
        | zero => simp at hu; subst hu; exact ⟨e', by simp, r1, r2, r3⟩
        | succ i => simp at hu; obtain ⟨u', hu', r⟩ := ih.2 i u hu; exact ⟨u', by simpa using hu', r⟩⟩
theorem ER.all {x y : List MapEntry} (h : ER φ x y) (f : Nat → Bool) : y.all (fun e => f e.born) = x.all fun e => f e.born := by
  induction x generalizing y with
  | nil => rw [h.nil_inv]
  | cons e x ih =>
    obtain ⟨e', y', rfl, r1, r2, r3, r4⟩ := h.cons_inv
    simp only [List.all_cons, ih r4, r3]

theorem nextM_ok (h : HR φ H w) (hf : Fresh φ H) {ty : TypeId} {r b m : Nat} {since last clock : Nat} {seen : List Nat} {es : List MapEntry} {v : Value} (hr : φ r = some b) (hi : H.objs.get r = some (.mIter (some m) since seen last))
    (hm : H.objs.get m = some (.map es clock)) (ha : nextM H r m since seen last es clock = some (v, K)) : ValOk P φ H w (Instr.next (.pointer (some ⟨b, 0, none⟩)) false ty) v K := by
  obtain ⟨o', g1, g2⟩ := h.obj hi hr
  cases g2
  rename_i bm hbm
  obtain ⟨es', m1, m2⟩ := h.mapObj hm hbm
  have hget : (getObj b).run P w = .ok (.mapIter (some bm) since seen.toArray last) w := getObj_run g1 (fun _ _ _ e => by cases e)
  unfold nextM at ha
  cases hc : (!seen.isEmpty && !es.isEmpty && es.all fun e => Nat.ble last e.born) with
  | true => rw [hc] at ha; cases ha
  | false =>
  rw [hc, cond_false] at ha
  have hgone : (!seen.toArray.isEmpty && !es'.isEmpty && es'.all fun e => decide (e.born ≥ last)) = false := by
    have e1 : es'.isEmpty = es.isEmpty := m2.isEmpty
    have e2 : (es'.all fun e => decide (e.born ≥ last)) = es.all fun e => Nat.ble last e.born := by
      rw [← Array.all_toList, show (fun e : MapEntry => decide (e.born ≥ last)) = fun e => Nat.ble last e.born from by
        funext e
        rw [Bool.eq_iff_iff, decide_eq_true_eq, Nat.ble_eq]]
      exact m2.all (fun k => Nat.ble last k)
    have e3 : seen.toArray.isEmpty = seen.isEmpty := by cases seen <;> rfl
    rw [e1, e2, e3]; exact hc
  have hfil := m2.filter (fun k => !seen.contains k)
  have hfil' : (es'.filter fun e => !seen.toArray.contains e.born) = (es'.toList.filter fun e => !seen.contains e.born).toArray := by
    apply Array.ext'
    simp
  cases hl : es.filter (fun e => !seen.contains e.born) with
  | nil =>
    rw [hl] at ha hfil
    simp only [Option.some.injEq, Prod.mk.injEq] at ha
    obtain ⟨rfl, rfl⟩ := ha
    refine ValOk.same h hf (v' := .tuple #[.bool false]) ?_ (VR.tuple' (AR.one (.bool false)))
    have hz := hfil.nil_inv
    rw [hz] at hfil'
    have hch : (choose (.mapNext 1)).run P w = .ok 0 w := by simp [choose, Sem.run, Question.forced]
    simp only [Instr.next, Sem.run_bind, hget, Result.andThen_ok, run_getObj_map m1, hgone, Bool.false_eq_true, if_false, hfil', Sem.run_pure]
    simp [hch]
  | cons e l =>
    rw [hl] at ha hfil
    cases l with
    | cons _ _ => cases ha
    | nil =>
    simp only at ha
    obtain ⟨hlt, ha⟩ := bif_some ha
    have hlt : e.born < since := Nat.le_of_ble_eq_true hlt
    simp only [Option.some.injEq, Prod.mk.injEq] at ha
    obtain ⟨rfl, rfl⟩ := ha
    obtain ⟨e', y', hy, r1, r2, r3, r4⟩ := hfil.cons_inv
    rw [r4.nil_inv] at hy
    rw [hy] at hfil'
    have hlt' : e'.born < since := r3 ▸ hlt
    have hch : (choose (.mapNext 1)).run P w = .ok 0 w := by simp [choose, Sem.run, Question.forced]
    have hleave := h.setOther hf (ob1 := .mIter (some m) since (seen ++ [e.born]) clock) (o1 := .mapIter (some bm) since (seen ++ [e.born]).toArray clock) hi hr g1 rfl (.mIter since _ clock hbm) (fun _ _ _ e => by cases e)
    refine ⟨φ, .tuple #[.bool true, e'.key, e'.val], _, ?_, hleave, VR.tuple' (LR.cons (.bool true) (LR.cons r1 (LR.cons r2 (LR.nil φ))))⟩
    simp only [Instr.next, Sem.run_bind, hget, Result.andThen_ok, run_getObj_map m1, hgone, Bool.false_eq_true, if_false, hfil', Sem.run_pure]
    have f1 : ([e'].toArray.filter fun e => decide (e.born < since)) = #[e'] := by simp [hlt']
    have f2 : ([e'].toArray.filter fun e => decide (e.born ≥ since)) = #[] := by simp; omega
    rw [f1, f2]
    simp [hch, setObj_run g1 (fun _ _ _ e => by cases e), r3]

theorem next_ok (h : HR φ H w) (hf : Fresh φ H) {ty : TypeId} {it it' v : Value} {isString : Bool} (hx : VR φ it it') (ha : nextA H it isString = some (v, K)) : ValOk P φ H w (Instr.next it' isString ty) v K := by
  unfold nextA at ha
  split at ha <;> try (cases ha; done)
  rename_i r
  obtain ⟨b, hb, _, rfl⟩ := hx.ptr_inv
  simp only at hb
  split at ha <;> try (cases ha; done)
  · rename_i s pos hi
    obtain ⟨o', g1, g2⟩ := h.obj hi hb
    cases g2
    have hget : (getObj b).run P w = .ok (.stringIter s pos) w := getObj_run g1 (fun _ _ _ e => by cases e)
    cases hlt : Nat.blt pos s.size with
    | true =>
      rw [hlt, cond_true] at ha
      simp only [Option.some.injEq, Prod.mk.injEq] at ha
      obtain ⟨rfl, rfl⟩ := ha
      have hlt : pos < s.size := Nat.le_of_ble_eq_true hlt
      have hleave := h.setOther hf (ob1 := .sIter s (pos + (Utf8.decode s pos).2)) (o1 := .stringIter s (pos + (Utf8.decode s pos).2)) hi hb g1 rfl (.sIter s _) (fun _ _ _ e => by cases e)
      refine ⟨φ, _, _, ?_, hleave, VR.tuple' (LR.cons (.bool true) (LR.cons (.int _ _) (LR.cons (.int _ _) (LR.nil φ))))⟩
      simp only [Instr.next, Sem.run_bind, hget, Result.andThen_ok, hlt, if_true, setObj_run g1 (fun _ _ _ e => by cases e), Sem.run_pure, goInt]
    | false =>
      rw [hlt, cond_false] at ha
      simp only [Option.some.injEq, Prod.mk.injEq] at ha
      obtain ⟨rfl, rfl⟩ := ha
      have hlt : ¬ pos < s.size := fun hh => by
        have : Nat.blt pos s.size = true := by simp [Nat.blt]; omega
        rw [this] at hlt; cases hlt
      refine ValOk.same h hf (v' := .tuple #[.bool false]) ?_ (VR.tuple' (AR.one (.bool false)))
      simp only [Instr.next, Sem.run_bind, hget, Result.andThen_ok, hlt, if_false, Sem.run_pure]
  · rename_i since seen last hi
    simp only [Option.some.injEq, Prod.mk.injEq] at ha
    obtain ⟨rfl, rfl⟩ := ha
    obtain ⟨o', g1, g2⟩ := h.obj hi hb
    cases g2
    have hget : (getObj b).run P w = .ok (.mapIter none since seen.toArray last) w := getObj_run g1 (fun _ _ _ e => by cases e)
    refine ValOk.same h hf (v' := .tuple #[.bool false]) ?_ (VR.tuple' (AR.one (.bool false)))
    simp only [Instr.next, Sem.run_bind, hget, Result.andThen_ok, Sem.run_pure]
  · rename_i m since seen last hi
    cases hm : H.objs.get m with
    | none => rw [hm] at ha; cases ha
    | some ob =>
    rw [hm] at ha
    cases ob <;> try (cases ha; done)
    exact nextM_ok h hf hb hi hm ha
end
section
variable {P : Program} {φ : Ren} {H K : AHeap} {w : World}

theorem bind_und {o : Option TypeId} {d : TypeDesc} (h : o.bind P.underlying = some d) : ∃ t, o = some t ∧ P.underlying t = some d := by
  cases o with
  | none => cases h
  | some t => exact ⟨t, rfl, h⟩

theorem convSlice_ok (h : HR φ H w) (hf : Fresh φ H) {src dst : TypeId} {x x' v : Value} (hx : VR φ x x') (ha : convSliceA P H src dst x = some (v, K)) : ValOk P φ H w (convert src dst x') v K := by
  unfold convSliceA at ha
  split at ha <;> try (cases ha; done)
  rename_i e0 e a l c hs hd
  split at ha <;> try (cases ha; done)
  rename_i fl cs e' he hi
  obtain ⟨hc, ha⟩ := bif_some ha
  simp only [Bool.and_eq_true] at hc
  obtain ⟨⟨k1, k2⟩, k3⟩ := hc
  simp only [Option.some.injEq, Prod.mk.injEq] at ha
  obtain ⟨rfl, rfl⟩ := ha
  rcases hx.slice_inv with ⟨b, c', hb, hsp, hcc, hk, rfl⟩ | ⟨a'', c', rfl, _, _, _⟩
  · obtain ⟨cur, fr, g1, g2, g3, g4, g5, g6⟩ := h.row hi hb
    have hsh : w.shape? b = some (e', cur.size) := by simp [World.shape?, g1]
    have hfr : fr = (0, 0) ∨ fr = (cur.size, cur.size + 1) := by
      cases fl with
      | own => exact .inl (g5 (.inl rfl))
      | open_ s => exact .inl (g5 (.inr ⟨s, rfl⟩))
      | mark s => exact g6 s rfl
      | ro => cases k2
    have hw1 : (w.freeze ⟨b, cur.size, none⟩ 1).heap[b]? = some (.cells cur e' (cur.size, cur.size + 1)) := by
      simp only [World.freeze, Nat.one_ne_zero, if_false, Array.getElem?_modify, if_true, g1, Option.map_some]
      rcases hfr with rfl | rfl <;> simp
    obtain ⟨r1, r2, r3⟩ := h.turn (w1 := w.freeze ⟨b, cur.size, none⟩ 1) (ob1 := .cells (.mark 0) cs e') hf hi hb (by exact k2) (.mark 0 e' _ (.inr rfl) g2) (fun fl1 c1 e1 c1' fr1 h1 _ hs1 => by cases h1; exact absurd rfl hs1)
      (by simp [World.freeze]) (fun k hk => by simp only [World.freeze, Nat.one_ne_zero, if_false, Array.getElem?_modify, if_neg (Ne.symm hk)]) hw1 rfl rfl rfl
    refine ⟨φ, _, _, ?_, ⟨r1, r2, r3⟩, hx⟩
    unfold convert
    simp only [Sem.run_bind, und_run hs, und_run hd, Result.andThen_ok, k1, und_run he, markStringish, run_shape, hsh, run_freeze, Sem.run_pure]
  · cases k3

theorem copy_ok (h : HR φ H w) (hf : Fresh φ H) {argTypes : Array TypeId} {ty : TypeId} {args : Array Value} {d d' s s' v : Value} (hd : VR φ d d') (hs : VR φ s s') (ha0 : args[0]? = some d') (ha1 : args[1]? = some s')
    (ha : copyA P H argTypes d s = some (v, K)) : ValOk P φ H w (Builtin.copy_ argTypes ty args) v K := by
  unfold copyA at ha
  split at ha <;> try (cases ha; done)
  rename_i e base dLen dCap src sLen sCap hu
  obtain ⟨t, ht, hu⟩ := bind_und hu
  obtain ⟨base', dc, rfl⟩ := hd.slice_any
  obtain ⟨src', sc, rfl⟩ := hs.slice_any
  cases hz : sizeT P e with
  | none => rw [hz] at ha; cases ha
  | some size =>
  rw [hz] at ha
  have hrun : ∀ (cells : Array Value), (Builtin.firstCells size (Nat.min sLen dLen) (.slice src' sLen sc)).run P w = .ok cells w →
      (Builtin.copy_ argTypes ty args).run P w = ((match base' with | some a => storeCells a cells.toList | none => pure ()).run P w).andThen fun _ w => .ok (.int .i64 (Nat.min sLen dLen : Nat)) w := by
    intro cells hc
    cases base' with
    | none => simp only [Builtin.copy_, ht, ha0, ha1, Sem.run_bind, und_run hu, Result.andThen_ok, Builtin.lenOf, Sem.run_pure, sizeT_run hz, hc, goInt]
    | some a => simp only [Builtin.copy_, ht, ha0, ha1, Sem.run_bind, und_run hu, Result.andThen_ok, Builtin.lenOf, Sem.run_pure, sizeT_run hz, hc, goInt]
  cases src with
  | none =>
    simp only at ha
    obtain ⟨hc, ha⟩ := bif_some ha
    simp only [Option.some.injEq, Prod.mk.injEq] at ha
    obtain ⟨rfl, rfl⟩ := ha
    have hc := beq_true hc
    obtain ⟨_, _, e1⟩ := hs.sliceNil_inv
    simp only [Value.slice.injEq] at e1
    obtain ⟨rfl, _, _⟩ := e1
    refine ValOk.same h hf (v' := .int .i64 0) ?_ (.int _ _)
    rw [hrun #[] rfl, hc]
    cases base' with
    | none => rfl
    | some a => rfl
  | some a =>
    simp only at ha
    cases hl : H.cells? a (Nat.min sLen dLen * size) with
    | none => rw [hl] at ha; cases ha
    | some l =>
    rw [hl] at ha
    simp only [Option.bind_some] at ha
    rcases hs.slice_inv with ⟨b, c', hb, hsp, hcc, hk, e1⟩ | ⟨a'', c', rfl, _, _, _⟩
    · simp only [Value.slice.injEq, true_and] at e1
      obtain ⟨rfl, rfl⟩ := e1
      obtain ⟨i0, o0, s0⟩ := a
      simp only at hsp; subst hsp
      obtain ⟨l', q1, q2, q3⟩ := h.loadCells (P := P) hl hb
      have hr := hrun l'.toArray q3
      cases base with
      | none =>
        simp only [Option.some.injEq, Prod.mk.injEq] at ha
        obtain ⟨rfl, rfl⟩ := ha
        obtain ⟨_, _, e2⟩ := hd.sliceNil_inv
        simp only [Value.slice.injEq] at e2
        obtain ⟨rfl, _, _⟩ := e2
        exact ValOk.same h hf hr (.int _ _)
      | some bb =>
        simp only at ha
        cases hsp : bb.spot with
        | some _ => rw [hsp] at ha; cases ha
        | none =>
        rw [hsp] at ha
        simp only [Option.isSome_none, cond_false] at ha
        obtain ⟨K', hst, ha⟩ := option_map_some ha
        simp only [Prod.mk.injEq] at ha
        obtain ⟨rfl, rfl⟩ := ha
        rcases hd.slice_inv with ⟨b2, c2, hb2, _, _, _, e2⟩ | ⟨a'', c', rfl, _, _, _⟩
        · simp only [Value.slice.injEq, true_and] at e2
          obtain ⟨rfl, rfl⟩ := e2
          obtain ⟨_, w', r1, r2⟩ := h.store (P := P) hf hb2 q1 hst
          refine ⟨φ, _, w', ?_, r2, .int _ _⟩
          rw [hr]
          show ((storeCells ⟨b2, bb.off, none⟩ l').run P w).andThen _ = _
          rw [r1]; rfl
        · cases hsp
    · unfold AHeap.cells? at hl; cases hl

theorem deleteA_ok (h : HR φ H w) (hf : Fresh φ H) {argTypes : Array TypeId} {ty : TypeId} {args : Array Value} {m m' k k' v : Value} (hm : VR φ m m') (hk : VR φ k k') (ha0 : args[0]? = some m') (ha1 : args[1]? = some k')
    (ha : deleteA P H argTypes m k = some (v, K)) : ValOk P φ H w (Builtin.delete_ argTypes ty args) v K := by
  unfold deleteA at ha
  split at ha <;> try (cases ha; done)
  · rename_i kt et hu
    obtain ⟨t, ht, hu⟩ := bind_und hu
    obtain ⟨hko, ha⟩ := bif_some ha
    simp only [Option.some.injEq, Prod.mk.injEq] at ha
    obtain ⟨rfl, rfl⟩ := ha
    obtain ⟨rfl, hck⟩ := keyOk_ok hk hko
    rw [hm.mapNil_inv] at ha0
    refine ValOk.same h hf (v' := .tuple #[]) ?_ (VR.tuple' (LR.nil φ))
    simp only [Builtin.delete_, ht, ha0, ha1, Sem.run_bind, und_run hu, Result.andThen_ok, hck, Sem.run_pure]
  · rename_i kt et r hu
    obtain ⟨t, ht, hu⟩ := bind_und hu
    split at ha <;> try (cases ha; done)
    rename_i es clock ho
    obtain ⟨hko, ha⟩ := bif_some ha
    have hx : (match findK P kt k es 0 with
            | some (some (i, _)) => some (ANext.value (.tuple #[]), H.set r (.map (es.eraseIdx i) clock))
            | some none => some (.value (.tuple #[]), H.set r (.map es clock))
            | none => none) = some (.value v, K) := by
      cases hfk : findK P kt k es 0 with
      | none => rw [hfk] at ha; cases ha
      | some q =>
        rw [hfk] at ha
        cases q with
        | none => simp only [Option.some.injEq, Prod.mk.injEq] at ha ⊢; obtain ⟨rfl, rfl⟩ := ha; exact ⟨rfl, rfl⟩
        | some p => simp only [Option.some.injEq, Prod.mk.injEq] at ha ⊢; obtain ⟨rfl, rfl⟩ := ha; exact ⟨rfl, rfl⟩
    obtain ⟨e1, w', r1, r2⟩ := delete_ok (ty := ty) h hf hu hm hk ho hko ht ha0 ha1 hx
    cases e1
    exact ⟨φ, _, w', r1, r2, VR.tuple' (LR.nil φ)⟩

theorem clear_ok (h : HR φ H w) (hf : Fresh φ H) {argTypes : Array TypeId} {ty : TypeId} {args : Array Value} {x x' v : Value} (hx : VR φ x x') (ha0 : args[0]? = some x')
    (ha : clearA P H argTypes x = some (v, K)) : ValOk P φ H w (Builtin.clear_ argTypes ty args) v K := by
  unfold clearA at ha
  split at ha <;> try (cases ha; done)
  · rename_i e a n c hu
    obtain ⟨t, ht, hu⟩ := bind_und hu
    obtain ⟨a', c', rfl⟩ := hx.slice_any
    split at ha
    · simp only [Option.some.injEq, Prod.mk.injEq] at ha
      obtain ⟨rfl, rfl⟩ := ha
      obtain ⟨_, _, e1⟩ := hx.sliceNil_inv
      rw [e1] at ha0
      refine ValOk.same h hf (v' := .tuple #[]) ?_ (VR.tuple' (LR.nil φ))
      simp only [Builtin.clear_, ht, ha0, Sem.run_bind, und_run hu, Result.andThen_ok, Sem.run_pure]
    · simp only [Option.some.injEq, Prod.mk.injEq] at ha
      obtain ⟨rfl, rfl⟩ := ha
      refine ValOk.same h hf (v' := .tuple #[]) ?_ (VR.tuple' (LR.nil φ))
      cases a' <;> simp only [Builtin.clear_, ht, ha0, Sem.run_bind, und_run hu, Result.andThen_ok, Sem.run_pure]
    · rename_i a n
      cases hz : zeroT P e with
      | none => rw [hz] at ha; cases ha
      | some z =>
      rw [hz] at ha
      simp only [Option.bind_some] at ha
      obtain ⟨hb, ha⟩ := bif_some ha
      obtain ⟨K', hst, ha⟩ := option_map_some ha
      simp only [Prod.mk.injEq] at ha
      obtain ⟨rfl, rfl⟩ := ha
      have hzb := cells_ok (bare_spec (φ := φ) 20 z hb)
      have hv : LR φ (Builtin.zeroCells z.cells (n + 1)).toList (Builtin.zeroCells z.cells (n + 1)).toList := range_map_ok hzb _
      rcases hx.slice_inv with ⟨b2, c2, hb2, _, _, _, e2⟩ | ⟨a'', c', rfl, e0, _, _⟩
      · simp only [Value.slice.injEq, true_and] at e2
        obtain ⟨rfl, rfl⟩ := e2
        obtain ⟨_, w', r1, r2⟩ := h.store (P := P) hf hb2 hv hst
        refine ⟨φ, _, w', ?_, r2, VR.tuple' (LR.nil φ)⟩
        simp only [Builtin.clear_, ht, ha0, Sem.run_bind, und_run hu, Result.andThen_ok, zeroT_run hz, r1, Sem.run_pure]
      · cases e0
  · rename_i kt et hu
    obtain ⟨t, ht, hu⟩ := bind_und hu
    simp only [Option.some.injEq, Prod.mk.injEq] at ha
    obtain ⟨rfl, rfl⟩ := ha
    rw [hx.mapNil_inv] at ha0
    refine ValOk.same h hf (v' := .tuple #[]) ?_ (VR.tuple' (LR.nil φ))
    simp only [Builtin.clear_, ht, ha0, Sem.run_bind, und_run hu, Result.andThen_ok, Sem.run_pure]
end
section
variable {P : Program} {φ : Ren} {H K : AHeap} {w : World}

theorem HR.frozen (h : HR φ H w) (hf : Fresh φ H) {i b : Nat} {fl : Fl} {c : List Value} {e : TypeId} (n : Nat) (hi : H.objs.get i = some (.cells fl c e)) (hb : φ i = some b) (hw : fl.wr = true) :
    Leaves φ H w φ (H.set i (.cells .ro c e)) (w.freeze ⟨b, 0, none⟩ n) := by
  obtain ⟨cur, fr, g1, g2, _⟩ := h.row hi hb
  have hsz : (w.freeze ⟨b, 0, none⟩ n).heap.size = w.heap.size := by unfold World.freeze; split <;> simp
  have hk : ∀ k, k ≠ b → (w.freeze ⟨b, 0, none⟩ n).heap[k]? = w.heap[k]? := fun k hk => by
    unfold World.freeze; split
    · rfl
    · simp only [Array.getElem?_modify, if_neg (Ne.symm hk)]
  have hn : ∃ fr', (w.freeze ⟨b, 0, none⟩ n).heap[b]? = some (.cells cur e fr') := by
    obtain ⟨lo, hi⟩ := fr
    unfold World.freeze; split
    · exact ⟨_, g1⟩
    · simp only [Array.getElem?_modify, if_true, g1, Option.map_some]; exact ⟨_, rfl⟩
  obtain ⟨fr', hn⟩ := hn
  have ho : (w.freeze ⟨b, 0, none⟩ n).os = w.os ∧ (w.freeze ⟨b, 0, none⟩ n).tape = w.tape ∧ (w.freeze ⟨b, 0, none⟩ n).output = w.output := by unfold World.freeze; split <;> exact ⟨rfl, rfl, rfl⟩
  obtain ⟨r1, r2, r3⟩ := h.turn (ob1 := .cells .ro c e) hf hi hb (by exact hw) (.ro e fr' g2) (fun fl1 c1 e1 c1' fr1 h1 _ hs1 => by cases h1; exact absurd rfl hs1) hsz hk hn ho.1 ho.2.1 ho.2.2
  exact ⟨r1, r2, r3⟩

theorem uns_none (ts : Array TypeId) (ty : TypeId) (k : IntKind) (n : Int) : Builtin.unsafeString_ ts ty #[.pointer none, .int k n] = (do
    let n ← asInt (.int k n)
    let some _ := ts[0]? | stuck "unsafe.String: no argument types"
    if n < 0 then runtimePanic (.error "unsafe.String: len out of range")
    if n > IntKind.i64.max then unsupported (.unsafePointer "String: a length above the largest int")
    if n = 0 then pure (.string .empty)
    else runtimePanic (.error "unsafe.String: ptr is nil and len is not zero")) := rfl
theorem uns_some (ts : Array TypeId) (ty : TypeId) (k : IntKind) (n : Int) (a : Addr) : Builtin.unsafeString_ ts ty #[.pointer (some a), .int k n] = (do
    let n ← asInt (.int k n)
    let some pt := ts[0]? | stuck "unsafe.String: no argument types"
    if n < 0 then runtimePanic (.error "unsafe.String: len out of range")
    if n > IntKind.i64.max then unsupported (.unsafePointer "String: a length above the largest int")
    if n = 0 then pure (.string .empty)
    else if ← variablesAt a (← elemOf pt) n.toNat then do
      let s ← loadBytes a .empty n.toNat
      freeze a n.toNat
      pure (.string s)
    else unsupported (.unsafePointer "String: not so many bytes at ptr")) := rfl
theorem unsafeString_ok (h : HR φ H w) (hf : Fresh φ H) {argTypes : Array TypeId} {ty : TypeId} {vs : List Value} {args : Array Value} {v : Value} (hv : LR φ vs args.toList)
    (ha : unsafeStringA P H argTypes vs = some (v, K)) : ValOk P φ H w (Builtin.unsafeString_ argTypes ty args) v K := by
  have hmax : IntKind.i64.max = 9223372036854775807 := rfl
  unfold unsafeStringA at ha
  split at ha <;> try (cases ha; done)
  · rename_i k n d hu
    obtain ⟨t, ht, hu⟩ := bind_und hu
    obtain ⟨p', l', e1, r1, r2⟩ := hv.cons_inv
    obtain ⟨n', l'', rfl, r3, r4⟩ := r2.cons_inv
    rw [r4.nil_inv, r1.ptrNil_inv, r3.int_inv] at e1
    have ea : args = #[.pointer none, .int k n] := Array.ext' e1
    subst ea
    obtain ⟨hz, ha⟩ := bif_some ha
    simp only [decide_eq_true_eq] at hz; subst hz
    simp only [Option.some.injEq, Prod.mk.injEq] at ha
    obtain ⟨rfl, rfl⟩ := ha
    refine ValOk.same h hf (v' := .string .empty) ?_ (.string _)
    rw [uns_none]
    simp [asInt, asIntOf, hmax, ht]
  · rename_i a k n e hu
    obtain ⟨t, ht, hu⟩ := bind_und hu
    obtain ⟨p', l', e1, r1, r2⟩ := hv.cons_inv
    obtain ⟨n', l'', rfl, r3, r4⟩ := r2.cons_inv
    obtain ⟨b, hb, hsp, rfl⟩ := r1.ptr_inv
    rw [r4.nil_inv, r3.int_inv] at e1
    have ea : args = #[.pointer (some ⟨b, a.off, none⟩), .int k n] := Array.ext' e1
    subst ea
    cases hz : decide (n = 0) with
    | true =>
      rw [hz, cond_true] at ha
      simp only [decide_eq_true_eq] at hz; subst hz
      simp only [Option.some.injEq, Prod.mk.injEq] at ha
      obtain ⟨rfl, rfl⟩ := ha
      refine ValOk.same h hf (v' := .string .empty) ?_ (.string _)
      rw [uns_some]
      simp [asInt, asIntOf, hmax, ht]
    | false =>
      rw [hz, cond_false] at ha
      simp only [decide_eq_false_iff_not] at hz
      obtain ⟨i0, o0, s0⟩ := a
      simp only at hsp hb; subst hsp
      simp only at ha
      cases hi : H.objs.get i0 with
      | none => rw [hi] at ha; cases ha
      | some ob =>
      rw [hi] at ha
      cases ob <;> try (cases ha; done)
      rename_i fl c e'
      simp only at ha
      obtain ⟨hcond, ha⟩ := bif_some ha
      simp only [Bool.and_eq_true, decide_eq_true_eq] at hcond
      obtain ⟨⟨⟨⟨⟨c0, c1⟩, c2⟩, c3⟩, c4⟩, c5⟩ := hcond
      have c1 := okInt_spec c1; have c3 := beq_true c3; have c4 := beq_true c4; have c5 := beq_true c5
      subst c3; subst c4
      cases hl : H.cells? ⟨i0, 0, none⟩ n.toNat with
      | none => rw [hl] at ha; cases ha
      | some l =>
      rw [hl] at ha
      simp only [Option.bind_some] at ha
      obtain ⟨r, hr, ha⟩ := option_map_some ha
      simp only [Prod.mk.injEq] at ha
      obtain ⟨rfl, rfl⟩ := ha
      obtain ⟨l2, q1, q2, q3⟩ := h.cells hl hb
      obtain ⟨ns, rfl, rfl⟩ := bytesL_ok l r hr
      have hl2 := LR.ints q2
      subst hl2
      have hlen : ns.length = n.toNat := by simpa using q1
      obtain ⟨m, m1, m2, _⟩ := h.shape hi hb
      have hload : ∀ (ns : List Int) (a : Addr) (acc : ByteArray), (∀ j v, (ns.map (Value.int .u8))[j]? = some v → w.cell? (a.add j) = some v) → (loadBytes a acc ns.length).run P w = .ok ⟨acc.data ++ (ns.map fun n => UInt8.ofNat n.toNat).toArray⟩ w := by
        intro ns
        induction ns with
        | nil => intro a acc _; simp [loadBytes]
        | cons x ns ih =>
          intro a acc hc
          have h0 : w.cell? a = some (.int .u8 x) := by
            have := hc 0 (.int .u8 x) rfl
            simpa [Addr.add] using this
          have ih' := ih (a.add 1) (acc.push (x.toNat).toUInt8) (fun j y hy => by
            have := hc (j + 1) y (by simpa using hy)
            have e : (a.add 1).add j = a.add (j + 1) := by
              unfold Addr.add
              by_cases hj : j = 0
              · subst hj; simp
              · simp [hj]; omega
            rw [e]; exact this)
          simp only [List.length_cons, loadBytes, Sem.run_bind, run_load, h0, Result.andThen]
          rw [ih']
          congr 1
          apply ByteArray.ext
          simp [ByteArray.push]
      have hlb := hload ns ⟨b, 0, none⟩ .empty q3
      rw [hlen] at hlb
      have hnm : n.toNat ≤ m := by
        have h2 : H.cells? ⟨i0, 0, none⟩ n.toNat = some (ns.map (Value.int .u8)) := hl
        unfold AHeap.cells? at h2
        simp only [hi, List.drop_zero] at h2
        obtain ⟨hc, _⟩ := bif_some h2
        have := beq_true hc
        simp only [List.length_take] at this
        omega
      have hlies := Lib.liesAt_bytes (P := P) c5 (m / P.cellsOf e) n.toNat (by rw [c5]; simpa using hnm)
      refine ⟨φ, .string ⟨(ns.map fun n => UInt8.ofNat n.toNat).toArray⟩, _, ?_, h.frozen hf n.toNat hi hb c0, .string _⟩
      have t1 : ¬ n < 0 := by omega
      have t2 : ¬ 9223372036854775807 < n := by omega
      rw [uns_some]
      simp [asInt, asIntOf, hmax, ht, t1, t2, hz, elemOf, run_underlying hu, variablesAt, m1, hlies, hlb]

/-! ### All of it -/
theorem EffOk.of_val {s : Sem Value} {x : ANext} {v : Value} (hs : ValOk P φ H w s v K) (hx : x = .value v) : EffOk P φ H w (do pure (Next.value (← s))) x K := by
  subst hx
  obtain ⟨ψ, v', w', h1, h2, h3⟩ := hs
  exact EffOk.of_value h1 h2 h3
theorem asVal_some {y : Option (Value × AHeap)} {x : ANext} (h : asVal y = some (x, K)) : ∃ v, y = some (v, K) ∧ x = .value v := by
  unfold asVal at h
  obtain ⟨p, rfl, h⟩ := option_map_some h
  cases h
  exact ⟨p.1, rfl, rfl⟩
theorem getElem_map {ρ : Operand → Value} {args : Array Operand} {i : Nat} {v : Value} (h : (args.map ρ)[i]? = some v) : ∃ x, args[i]? = some x ∧ x ∈ args ∧ v = ρ x := by
  rw [Array.getElem?_map] at h
  obtain ⟨x, hx, rfl⟩ := option_map_some h
  exact ⟨x, hx, Array.mem_of_getElem? hx, rfl⟩

theorem mapUpdateA_ok (h : HR φ H w) (hf : Fresh φ H) {t : TypeId} {m m' k k' v v' : Value} {x : ANext} (hm : VR φ m m') (hk : VR φ k k') (hv : VR φ v v') (hx : mapUpdateA P H t m k v = some (x, K)) :
    EffOk P φ H w (do Instr.mapUpdate t m' k' v'; pure Next.skip) x K := by
  unfold mapUpdateA at hx
  split at hx <;> try (cases hx; done)
  rename_i kt et r hu
  split at hx <;> try (cases hx; done)
  rename_i es clock ho
  obtain ⟨hko, hx⟩ := bif_some hx
  have hxs : x = .skip := by
    cases hfk : findK P kt k es 0 with
    | none => rw [hfk] at hx; cases hx
    | some q =>
      rw [hfk] at hx
      cases q with
      | none => simp only [Option.some.injEq, Prod.mk.injEq] at hx; exact hx.1.symm
      | some p =>
        simp only at hx
        split at hx <;> try (cases hx; done)
        obtain ⟨_, hx⟩ := bif_some hx
        simp only [Option.some.injEq, Prod.mk.injEq] at hx; exact hx.1.symm
  subst hxs
  obtain ⟨w', r1, r2⟩ := mapUpdate_ok h hf hu hm hk hv ho hko hx
  refine ⟨φ, w', ?_, r2⟩
  simp only [Sem.run_bind, r1, Result.andThen_ok, Sem.run_pure]

theorem enterA_ok {s : Sem Next} {f : FuncId} {x : ANext} {args args' : Array Value} (ha : AR φ args args') (hx : enterA P H f args = some (x, K)) (hs : s.run P w = (callFunc f args').run P w) : EffOk P φ H w s x K := by
  unfold enterA at hx
  cases hfn : P.funcs[f]? with
  | none => rw [hfn] at hx; cases hx
  | some fn =>
  rw [hfn] at hx
  simp only at hx
  obtain ⟨hc, hx⟩ := bif_some hx
  simp only [Bool.and_eq_true, Bool.not_eq_true'] at hc
  simp only [Option.some.injEq, Prod.mk.injEq] at hx
  obtain ⟨rfl, rfl⟩ := hx
  refine ⟨rfl, args', ha, ?_, fn, hfn, hc.1⟩
  obtain ⟨c, hb⟩ := Option.isSome_iff_exists.1 hc.1
  have hn : ¬ (fn.name = "runtime.NumGoroutine") := by simpa using hc.2
  rw [hs]
  simp [callFunc, hfn, hn, hb]

theorem methodA_ok {t : TypeId} {name : String} {f : FuncId} (h : methodA P t name = some f) (v : Value) (n : Nat) (w : World) : (method (n + 1) t v name).run P w = .ok (f, v) w := by
  unfold methodA at h
  cases hi : P.info? t with
  | none => rw [hi] at h; cases h
  | some i =>
  rw [hi] at h
  simp only at h
  cases hm : i.methods.find? (·.name == name) with
  | none => rw [hm] at h; cases h
  | some m =>
  rw [hm] at h
  simp only at h
  split at h <;> try (cases h; done)
  rename_i g pr d hf hp hd
  have hres : ((∃ e, d = .pointer e) ∧ pr = true ∨ (∀ e, d ≠ .pointer e) ∧ pr = false) ∧ g = f := by
    split at h <;> first
      | (cases h; done)
      | (simp only [Option.some.injEq] at h; subst h; exact ⟨.inl ⟨⟨_, rfl⟩, rfl⟩, rfl⟩)
      | (simp only [Option.some.injEq] at h; subst h; rename_i h1 _; exact ⟨.inr ⟨fun e he => by subst he; simp_all, rfl⟩, rfl⟩)
  obtain ⟨hres, rfl⟩ := hres
  have hrec : ∀ wr, (receiverAt t (.val v) pr wr).run P w = .ok v w := by
    intro wr
    rcases hres with ⟨⟨e, rfl⟩, rfl⟩ | ⟨hne, rfl⟩
    · simp only [receiverAt, Sem.run_bind, und_run hd, Result.andThen_ok, Place.get, Sem.run_pure]
    · cases d <;> first | (exact absurd rfl (hne _)) | simp only [receiverAt, Sem.run_bind, und_run hd, Result.andThen_ok, Place.get, Sem.run_pure]
  simp only [method, Sem.run_bind, info_run hi, Result.andThen_ok, hm, hp, follow, Sem.run_pure, hf, hrec]

theorem callValueA_ok {g g' : Value} {args args' : Array Value} {x : ANext} (hg : VR φ g g') (ha : AR φ args args') (hx : callValueA P H g args = some (x, K)) :
    EffOk P φ H w (do let d ← Deferred.ofValue g' args'; invoke d.target d.args) x K := by
  unfold callValueA at hx
  split at hx <;> try (cases hx; done)
  · rename_i f first captured
    obtain ⟨f', x1, y1, rfl, hfn, h1, h2⟩ := hg.func_inv
    cases hfn
    exact enterA_ok ((h1.append ha).append h2) hx rfl
  · rename_i l first captured
    obtain ⟨f', x1, y1, rfl, hfn, h1, h2⟩ := hg.func_inv
    cases hfn
    rename_i b hb
    obtain ⟨hc, hx⟩ := bif_some hx
    simp only [Bool.and_eq_true] at hc
    have c1 := beq_true hc.1
    simp only [Option.some.injEq, Prod.mk.injEq] at hx
    obtain ⟨rfl, rfl⟩ := hx
    have e1 : x1 = #[] := Array.eq_empty_of_size_eq_zero (by rw [← h1.size]; exact c1)
    subst e1
    refine ⟨rfl, b, args', hb, ha, ?_⟩
    show (Instr.yield b (#[] ++ args')).run P w = _
    rw [Array.empty_append]

theorem callInvokeA_ok {recv recv' : Value} {name : String} {args args' : Array Value} {x : ANext} (hg : VR φ recv recv') (ha : AR φ args args') (hx : callInvokeA P H recv name args = some (x, K)) :
    EffOk P φ H w (do let d ← (pure { target := .fn (.method name) #[], args := #[recv'] ++ args' } : Sem Deferred); invoke d.target d.args) x K := by
  unfold callInvokeA at hx
  split at hx <;> try (cases hx; done)
  rename_i t v
  obtain ⟨u, rfl, hu⟩ := hg.iface_inv
  cases hm : methodA P t name with
  | none => rw [hm] at hx; cases hx
  | some f =>
  rw [hm] at hx
  simp only at hx
  refine enterA_ok ((AR.one hu).append ha) hx ?_
  have h1 : (#[Value.iface t u] ++ args')[0]? = some (Value.iface t u) := by
    rw [← Array.getElem?_toList, Array.toList_append]; rfl
  have h2 : (#[Value.iface t u] ++ args').extract 1 (#[Value.iface t u] ++ args').size = args' := by
    apply Array.ext'
    simp [Array.toList_extract, List.extract]
  have hmt := methodA_ok hm u (P.types.size + Made.depth - 1) w
  have h3 : 0 < Made.depth := by decide
  have hd : P.types.size + Made.depth - 1 + 1 = P.types.size + Made.depth := by omega
  rw [hd] at hmt
  simp only [Sem.run_bind, Sem.run_pure, Result.andThen_ok, invoke, h1, h2, callMethod, run_program, hmt]

theorem builtinA_ok (h : HR φ H w) (hf : Fresh φ H) {b : Builtin} {ts : Array TypeId} {ty : TypeId} {cs : Array Bool} {vs vs' : Array Value} {v : Value} (hv : AR φ vs vs') (hx : builtinA P H b ts vs = some (v, K)) :
    EffOk P φ H w (builtin b ts ty cs vs') (.value v) K := by
  have hget : ∀ {i : Nat} {u : Value}, vs[i]? = some u → ∃ u', vs'[i]? = some u' ∧ VR φ u u' := fun e => hv.get? e
  cases b <;> simp only [builtinA] at hx <;> try (cases hx; done)
  case append =>
    split at hx <;> try (cases hx; done)
    rename_i s x h0 h1
    obtain ⟨s', g0, r0⟩ := hget h0
    obtain ⟨x', g1, r1⟩ := hget h1
    exact .of_val (append_ok h hf r0 r1 g0 g1 hx) rfl
  case clear =>
    split at hx <;> try (cases hx; done)
    rename_i x h0
    obtain ⟨s', g0, r0⟩ := hget h0
    exact .of_val (clear_ok h hf r0 g0 hx) rfl
  case copy =>
    split at hx <;> try (cases hx; done)
    rename_i s x h0 h1
    obtain ⟨s', g0, r0⟩ := hget h0
    obtain ⟨x', g1, r1⟩ := hget h1
    exact .of_val (copy_ok h hf r0 r1 g0 g1 hx) rfl
  case delete =>
    split at hx <;> try (cases hx; done)
    rename_i s x h0 h1
    obtain ⟨s', g0, r0⟩ := hget h0
    obtain ⟨x', g1, r1⟩ := hget h1
    exact .of_val (deleteA_ok h hf r0 r1 g0 g1 hx) rfl
  case unsafeString => exact .of_val (unsafeString_ok h hf hv hx) rfl

theorem effOp_ok (h : HR φ H w) (hf : Fresh φ H) {ρ ρ' : Operand → Value} {o : Oper} {x : ANext} (hρ : ∀ x ∈ o.op.operands, VR φ (ρ x) (ρ' x)) (hr : effOp P H ρ o = some (x, K)) :
    EffOk P φ H w (execOp ρ' o) x K := by
  obtain ⟨dst, op, ty, pos, after, guard⟩ := o
  simp only at hρ
  cases op <;> simp only [effOp] at hr <;> try (cases hr; done)
  case store t a y =>
    have hy := hρ y (by simp [Op.operands])
    have ha := hρ a (by simp [Op.operands])
    cases hv : ρ a <;> rw [hv] at hr ha <;> (try simp only at hr) <;> try (cases hr; done)
    rename_i a0
    cases a0 with
    | none => cases hr
    | some a0 =>
    obtain ⟨K', hst, hr⟩ := option_map_some hr
    simp only [Prod.mk.injEq] at hr
    obtain ⟨rfl, rfl⟩ := hr
    obtain ⟨w', r1, r2⟩ := storeV_ok (P := P) h hf ha hy hst
    refine ⟨φ, w', ?_, r2⟩
    simp only [execOp, Sem.run_bind, r1, Result.andThen_ok, Sem.run_pure]
  case mapUpdate t m k y => exact mapUpdateA_ok h hf (hρ m (by simp [Op.operands])) (hρ k (by simp [Op.operands])) (hρ y (by simp [Op.operands])) hr
  case insert t m k y => exact mapUpdateA_ok h hf (hρ m (by simp [Op.operands])) (hρ k (by simp [Op.operands])) (hρ y (by simp [Op.operands])) hr
  case convert src dst' y =>
    have hy := hρ y (by simp [Op.operands])
    obtain ⟨v, hq, e⟩ := asVal_some hr
    exact .of_val (convSlice_ok h hf hy hq) e
  case range t y =>
    have hy := hρ y (by simp [Op.operands])
    obtain ⟨v, hq, e⟩ := asVal_some hr
    exact .of_val (range_ok h hf hy hq) e
  case next it isString =>
    have hy := hρ it (by simp [Op.operands])
    obtain ⟨v, hq, e⟩ := asVal_some hr
    exact .of_val (next_ok h hf hy hq) e
  case call c =>
    obtain ⟨callee, args, ts⟩ := c
    have hargs : AR φ (args.map ρ) (args.map ρ') := AR.map fun x hx => hρ x (by simp [Op.operands, Call.operands, hx])
    cases callee with
    | builtin b =>
      obtain ⟨v, hq, rfl⟩ := asVal_some hr
      exact builtinA_ok h hf hargs hq
    | value g => exact callValueA_ok (hρ g (by simp [Op.operands, Call.operands])) hargs hr
    | invoke recv name => exact callInvokeA_ok (hρ recv (by simp [Op.operands, Call.operands])) hargs hr
end
section
variable {P : Program} {φ ψ : Ren} {H K : AHeap} {w : World}

/-! ### The fence -/
def FW (ro : Option Nat) : Fence := { Fence.wide with round := ro }
/-- A deferred call of that function, of 'm' arguments, does nothing where nothing panics. -/
def QuietFn (P : Program) (K : FuncId) (m : Nat) : Prop :=
  (∃ fn, P.funcs[K]? = some fn ∧ fn.body.isNone = false ∧ (fn.name == "runtime.NumGoroutine") = false) ∧
  ∀ (args : Array Value) (w : World), args.size = m → CallsDIn (FW none) 0 P K args .returning w fun e u w' => (∃ v, e = .returned v) ∧ u = .returning ∧ w' = w
def QuietD (P : Program) (d : Deferred) : Prop := ∃ K cap m, d.target = .fn (.func K) cap ∧ (d.args ++ cap).size = m ∧ QuietFn P K m

/-! ### States -/
/-- The marks among the deferred calls; quiet deferred calls stand between them. -/
inductive DR (P : Program) (φ : Ren) : List Nat → List Deferred → Prop
  | nil : DR P φ [] []
  | cons {i b : Nat} {l : List Nat} {ds : List Deferred} (h : φ i = some b) (k : DR P φ l ds) : DR P φ (i :: l) ({ target := .collected b, args := #[] } :: ds)
  | quiet {d : Deferred} {l : List Nat} {ds : List Deferred} (h : QuietD P d) (k : DR P φ l ds) : DR P φ l (d :: ds)
theorem DR.mono (h : φ.le ψ) {l : List Nat} {ds : List Deferred} (k : DR P φ l ds) : DR P ψ l ds := by
  induction k with
  | nil => exact .nil
  | cons e _ ih => exact .cons (h.1 _ _ e) ih
  | quiet q _ ih => exact .quiet q ih
structure SR (P : Program) (φ : Ren) (n : Nat) (st : St) (a : Act) (w : World) : Prop where
  hr : HR φ st.h w
  fresh : Fresh φ st.h
  tr : TR φ st.tm a.tmps
  size : a.tmps.size = n
  ds : DR P φ st.ds a.defers

theorem yielded_eq {tm : T Value} {tmps : Array Value} (h : TR φ tm tmps) (ops : Array Oper) (j : Nat) : yielded ops tmps j = aYielded ops tm j := by
  unfold yielded aYielded
  cases hd : (ops[j]?).bind (·.dst) with
  | none => rfl
  | some d =>
    simp only [Option.bind_some]
    have ht := h d
    cases hg : tm.get d with
    | none =>
      rw [hg] at ht
      simp only [Option.getD_none] at ht
      cases hx : tmps[d]? with
      | none => rfl
      | some x =>
        have e : tmps.getD d Go.undef = x := by rw [Array.getD_eq_getD_getElem?, hx]; rfl
        rw [e] at ht
        cases x <;> first | rfl | (cases ht; done)
    | some y =>
      rw [hg] at ht
      simp only [Option.getD_some] at ht
      cases hx : tmps[d]? with
      | none =>
        have e : tmps.getD d Go.undef = Go.undef := by rw [Array.getD_eq_getD_getElem?, hx]; rfl
        rw [e] at ht
        cases y <;> first | rfl | (cases ht; done)
      | some x =>
        have e : tmps.getD d Go.undef = x := by rw [Array.getD_eq_getD_getElem?, hx]; rfl
        rw [e] at ht
        cases ht <;> first | rfl | (rename_i e; cases x <;> first | rfl | cases e)
theorem wanted_eq {tm : T Value} {tmps : Array Value} (h : TR φ tm tmps) (ops : Array Oper) (o : Oper) : Region.wanted o (yielded ops tmps) = Region.wanted o (aYielded ops tm) := by
  congr 1; funext j; exact yielded_eq h ops j
theorem eval_ok {gl : Nat} (hg : ∀ i, i < gl → φ i = some i) {tm : T Value} {a : Act} (h : TR φ tm a.tmps) {x : Operand} (hx : okOperand gl x = true) : VR φ (aEval gl tm x) (a.eval x) := by
  cases x with
  | tmp t => exact h t
  | const v => exact bare_spec 20 v hx
  | global g =>
    have hb : Nat.blt g gl = true := hx
    have hlt : g < gl := Nat.le_of_ble_eq_true hb
    simp only [aEval, hb, cond_true, Act.eval]
    exact .ptr (hg g hlt)
  | func f => exact VR.func' (.func f) (LR.nil φ) (LR.nil φ)
theorem TR.put {n : Nat} {tm tm' : T Value} {a : Act} {dst : Option Tmp} {v v' : Value} (h : TR φ tm a.tmps) (hn : a.tmps.size = n) (hv : VR φ v v') (hp : putT n tm dst v = some tm') : TR φ tm' (a.put dst v').tmps := by
  cases dst with
  | none => simp only [putT, Option.some.injEq] at hp; subst hp; exact h
  | some d =>
    simp only [putT] at hp
    obtain ⟨hlt, hp⟩ := bif_some hp
    have hlt : d < n := Nat.le_of_ble_eq_true hlt
    simp only [Option.some.injEq] at hp; subst hp
    intro t
    simp only [Act.put, Array.getD_eq_getD_getElem?, Array.getElem?_setIfInBounds]
    rw [T.get_put]
    by_cases ht : t = d
    · subst ht
      rw [if_pos rfl, if_pos rfl, if_pos (hn ▸ hlt)]
      exact hv
    · rw [if_neg ht, if_neg (Ne.symm ht)]
      have := h t
      rwa [Array.getD_eq_getD_getElem?] at this
theorem put_size (a : Act) (dst : Option Tmp) (v : Value) : (a.put dst v).tmps.size = a.tmps.size := by cases dst <;> simp [Act.put]
theorem put_defers (a : Act) (dst : Option Tmp) (v : Value) : (a.put dst v).defers = a.defers := by cases dst <;> rfl

inductive RoR (φ : Ren) : Option Nat → Option Nat → Prop
  | none : RoR φ none none
  | some {l b : Nat} (h : φ l = some b) : RoR φ (some l) (some b)
theorem RoR.mono (h : φ.le ψ) {x y : Option Nat} (k : RoR φ x y) : RoR ψ x y := by
  cases k with
  | none => exact .none
  | some e => exact .some (h.1 _ _ e)
theorem callsIn_any {ro ro' : Option Nat} {n n' : Nat} {f : FuncId} {args : Array Value} {R : Ending → World → Prop} (h : CallsIn (FW ro) n P f args w R) : CallsIn (FW ro') n' P f args w R :=
  ⟨trivial, fun cs _ => h.2 cs (fun d hd => by cases hd)⟩

/-- What a call leaves. -/
def RetOk (φ : Ren) (H : AHeap) (w : World) (v : Value) (K : AHeap) : Ending → World → Prop
  | .returned v', w' => ∃ ψ, VR ψ v v' ∧ Leaves φ H w ψ K w'
  | _, _ => False
inductive XR : AExit → Exit → Prop
  | normal : XR .normal .normal
  | exit (id : Nat) : XR (.exit id) (.exit id)
  | goto (l : Nat) : XR (.goto l) (.goto l)
  | ret : XR .ret .ret
/-- What a piece of code leaves. -/
def PostC (P : Program) (φ : Ren) (n : Nat) (H : AHeap) (w : World) (e : AExit) (st' : St) (x : Exit) (a' : Act) (w' : World) : Prop :=
  XR e x ∧ ∃ ψ, SR P ψ n st' a' w' ∧ Goes φ H w ψ st'.h w'
theorem PostC.after {n : Nat} {w1 : World} {e : AExit} {st' : St} {x : Exit} {a' : Act} {w' : World} (hg : Goes φ H w ψ K w1) (h : PostC P ψ n K w1 e st' x a' w') : PostC P φ n H w e st' x a' w' :=
  ⟨h.1, let ⟨χ, h1, h2⟩ := h.2; ⟨χ, h1, hg.trans h2⟩⟩

/-- Code of a scope, walked from label to label. -/
def passesIn (F : Fence) (n : Nat) (P : Program) (whole : Code) (Q : Exit → Act → World → Prop) : Nat → Code → Act → World → Prop
  | 0, _, _, _ => False
  | m + 1, c, a, w => c.wpIn F n P (fun e a w => match e with
      | .goto l => match findLabel whole l with
        | some rest => passesIn F n P whole Q m rest a w
        | none => Q (.goto l) a w
      | e => Q e a w) a w

/-- One level's word. -/
structure LevOk (P : Program) (L : Lev) : Prop where
  quiet : ∀ {K : FuncId} {m : Nat}, L.quiet K = some m → QuietFn P K m
  call : ∀ {g : FuncId} {args args' : Array Value} {H K : AHeap} {v : Value} {φ : Ren} {w : World}, L.call g args H = some (v, K) → AR φ args args' → HR φ H w → Fresh φ H →
    CallsIn (FW none) 0 P g args' w (RetOk φ H w v K)
  code : ∀ {ro ro' : Option Nat} {n : Nat} {c : Code} {st st' : St} {e : AExit} {φ : Ren} {a : Act} {w : World}, L.code ro n c st = some (e, st') → RoR φ ro ro' → SR P φ n st a w →
    c.wpIn (FW ro') 0 P (PostC P φ n st.h w e st') a w

/-! ### Loops over functions: their records -/
theorem HR.loopObj (h : HR φ H w) {i b : Nat} {st : LoopState} {pend : Option Code} {tm : T Value} {n : Nat} {ps : Array Tmp} {assign body : Code} {d : Nat} (hi : H.objs.get i = some (.loop st pend tm n ps assign body d)) (hb : φ i = some b) :
    ∃ fn tmps bd, w.heap[b]? = some (.loop ⟨st, pend, fn, tmps, ps, assign, body, bd⟩) ∧ TR φ tm tmps ∧ tmps.size = n ∧ φ d = some bd := by
  obtain ⟨o', h1, h2⟩ := h.obj hi hb
  cases h2
  rename_i ht hd
  exact ⟨_, _, _, h1, ht, rfl, hd⟩
theorem getLoop_run {b : Nat} {r : Loop} (h : w.heap[b]? = some (.loop r)) : (Instr.getLoop b).run P w = .ok r w := by
  simp only [Instr.getLoop, Sem.run_bind, getObj_run h (fun _ _ _ e => by cases e), Result.andThen_ok, Sem.run_pure]
theorem foldl_zip (ps : Array Tmp) (args : Array Value) (tmps : Array Value) : ((ps.zip args).foldl (fun (tmps : Array Value) (x : Tmp × Value) => tmps.setIfInBounds x.1 x.2) tmps) = ((ps.toList.zip args.toList).foldl (fun (tmps : Array Value) (x : Tmp × Value) => tmps.setIfInBounds x.1 x.2) tmps) := by
  rw [← Array.foldl_toList, Array.toList_zip]
theorem params_ok {n : Nat} : ∀ (ps : List Tmp) (args args' : List Value) (tm tm' : T Value) (tmps : Array Value), TR φ tm tmps → tmps.size = n → LR φ args args' → paramsT n (ps.zip args) tm = some tm' →
    TR φ tm' ((ps.zip args').foldl (fun (tmps : Array Value) (x : Tmp × Value) => tmps.setIfInBounds x.1 x.2) tmps) ∧ ((ps.zip args').foldl (fun (tmps : Array Value) (x : Tmp × Value) => tmps.setIfInBounds x.1 x.2) tmps).size = n
  | [], args, args', tm, tm', tmps, ht, hn, _, hp => by simp [paramsT] at hp; subst hp; exact ⟨ht, hn⟩
  | p :: ps, [], args', tm, tm', tmps, ht, hn, ha, hp => by
    rw [ha.nil_inv]
    simp [paramsT] at hp; subst hp; exact ⟨ht, hn⟩
  | p :: ps, v :: args, args', tm, tm', tmps, ht, hn, ha, hp => by
    obtain ⟨v', l', rfl, hv, hl⟩ := ha.cons_inv
    simp only [List.zip_cons_cons, paramsT] at hp
    obtain ⟨hlt, hp⟩ := bif_some hp
    have h1 := TR.put (a := ⟨tmps, []⟩) (dst := some p) (v' := v') ht hn hv (tm' := tm.put p v) (by simp only [putT]; rw [hlt]; rfl)
    exact params_ok ps args l' _ tm' _ h1 (by simpa [Act.put] using hn) hl hp
end
end Go.Vi
end
