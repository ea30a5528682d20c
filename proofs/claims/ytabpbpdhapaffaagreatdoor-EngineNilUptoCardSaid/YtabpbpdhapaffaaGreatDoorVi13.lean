/-
  copy, clear, delete; marks and strings over bytes; all that writes.
-/
import Derived.Test.YtabpbpdhapaffaaGreatDoorVi12
set_option linter.unusedSimpArgs false
set_option linter.unusedVariables false
namespace Go.Vi
variable {P : Program} {φ : Ren} {H K : AHeap} {w : World}

theorem bind_und {o : Option TypeId} {d : TypeDesc} (h : o.bind P.underlying = some d) : ∃ t, o = some t ∧ P.underlying t = some d := by
  cases o with
  | none => cases h
  | some t => exact ⟨t, rfl, h⟩

theorem convSlice_ok (h : HR φ H w) (hf : Fresh φ H) {src dst : TypeId} {x x' v : Value} (hx : VR φ x x') (ha : convSliceA P H src dst x = some (v, K)) : ValOk P φ H w (convert src dst x') v K := by
  unfold convSliceA at ha
  split at ha <;> try (cases ha; done)
  rename_i e0 e a l c hs hd
  split at ha <;> try (cases ha; done)
  rename_i fl cs e' he hi
  obtain ⟨hc, ha⟩ := bif_some ha
  simp only [Bool.and_eq_true] at hc
  obtain ⟨⟨k1, k2⟩, k3⟩ := hc
  simp only [Option.some.injEq, Prod.mk.injEq] at ha
  obtain ⟨rfl, rfl⟩ := ha
  rcases hx.slice_inv with ⟨b, c', hb, hsp, hcc, hk, rfl⟩ | ⟨a'', c', rfl, _, _, _⟩
  · obtain ⟨cur, fr, g1, g2, g3, g4, g5, g6⟩ := h.row hi hb
    have hsh : w.shape? b = some (e', cur.size) := by simp [World.shape?, g1]
    have hfr : fr = (0, 0) ∨ fr = (cur.size, cur.size + 1) := by
      cases fl with
      | own => exact .inl (g5 (.inl rfl))
      | open_ s => exact .inl (g5 (.inr ⟨s, rfl⟩))
      | mark s => exact g6 s rfl
      | ro => cases k2
    have hw1 : (w.freeze ⟨b, cur.size, none⟩ 1).heap[b]? = some (.cells cur e' (cur.size, cur.size + 1)) := by
      simp only [World.freeze, Nat.one_ne_zero, if_false, Array.getElem?_modify, if_true, g1, Option.map_some]
      rcases hfr with rfl | rfl <;> simp
    obtain ⟨r1, r2, r3⟩ := h.turn (w1 := w.freeze ⟨b, cur.size, none⟩ 1) (ob1 := .cells (.mark 0) cs e') hf hi hb (by exact k2) (.mark 0 e' _ (.inr rfl) g2) (fun fl1 c1 e1 c1' fr1 h1 _ hs1 => by cases h1; exact absurd rfl hs1)
      (by simp [World.freeze]) (fun k hk => by simp only [World.freeze, Nat.one_ne_zero, if_false, Array.getElem?_modify, if_neg (Ne.symm hk)]) hw1 rfl rfl rfl
    refine ⟨φ, _, _, ?_, ⟨r1, r2, r3⟩, hx⟩
    unfold convert
    simp only [Sem.run_bind, und_run hs, und_run hd, Result.andThen_ok, k1, und_run he, markStringish, run_shape, hsh, run_freeze, Sem.run_pure]
  · cases k3

theorem copy_ok (h : HR φ H w) (hf : Fresh φ H) {argTypes : Array TypeId} {ty : TypeId} {args : Array Value} {d d' s s' v : Value} (hd : VR φ d d') (hs : VR φ s s') (ha0 : args[0]? = some d') (ha1 : args[1]? = some s')
    (ha : copyA P H argTypes d s = some (v, K)) : ValOk P φ H w (Builtin.copy_ argTypes ty args) v K := by
  unfold copyA at ha
  split at ha <;> try (cases ha; done)
  rename_i e base dLen dCap src sLen sCap hu
  obtain ⟨t, ht, hu⟩ := bind_und hu
  obtain ⟨base', dc, rfl⟩ := hd.slice_any
  obtain ⟨src', sc, rfl⟩ := hs.slice_any
  cases hz : sizeT P e with
  | none => rw [hz] at ha; cases ha
  | some size =>
  rw [hz] at ha
  have hrun : ∀ (cells : Array Value), (Builtin.firstCells size (Nat.min sLen dLen) (.slice src' sLen sc)).run P w = .ok cells w →
      (Builtin.copy_ argTypes ty args).run P w = ((match base' with | some a => storeCells a cells.toList | none => pure ()).run P w).andThen fun _ w => .ok (.int .i64 (Nat.min sLen dLen : Nat)) w := by
    intro cells hc
    cases base' with
    | none => simp only [Builtin.copy_, ht, ha0, ha1, Sem.run_bind, und_run hu, Result.andThen_ok, Builtin.lenOf, Sem.run_pure, sizeT_run hz, hc, goInt]
    | some a => simp only [Builtin.copy_, ht, ha0, ha1, Sem.run_bind, und_run hu, Result.andThen_ok, Builtin.lenOf, Sem.run_pure, sizeT_run hz, hc, goInt]
  cases src with
  | none =>
    simp only at ha
    obtain ⟨hc, ha⟩ := bif_some ha
    simp only [Option.some.injEq, Prod.mk.injEq] at ha
    obtain ⟨rfl, rfl⟩ := ha
    have hc := beq_true hc
    obtain ⟨_, _, e1⟩ := hs.sliceNil_inv
    simp only [Value.slice.injEq] at e1
    obtain ⟨rfl, _, _⟩ := e1
    refine ValOk.same h hf (v' := .int .i64 0) ?_ (.int _ _)
    rw [hrun #[] rfl, hc]
    cases base' with
    | none => rfl
    | some a => rfl
  | some a =>
    simp only at ha
    cases hl : H.cells? a (Nat.min sLen dLen * size) with
    | none => rw [hl] at ha; cases ha
    | some l =>
    rw [hl] at ha
    simp only [Option.bind_some] at ha
    rcases hs.slice_inv with ⟨b, c', hb, hsp, hcc, hk, e1⟩ | ⟨a'', c', rfl, _, _, _⟩
    · simp only [Value.slice.injEq, true_and] at e1
      obtain ⟨rfl, rfl⟩ := e1
      obtain ⟨i0, o0, s0⟩ := a
      simp only at hsp; subst hsp
      obtain ⟨l', q1, q2, q3⟩ := h.loadCells (P := P) hl hb
      have hr := hrun l'.toArray q3
      cases base with
      | none =>
        simp only [Option.some.injEq, Prod.mk.injEq] at ha
        obtain ⟨rfl, rfl⟩ := ha
        obtain ⟨_, _, e2⟩ := hd.sliceNil_inv
        simp only [Value.slice.injEq] at e2
        obtain ⟨rfl, _, _⟩ := e2
        exact ValOk.same h hf hr (.int _ _)
      | some bb =>
        simp only at ha
        cases hsp : bb.spot with
        | some _ => rw [hsp] at ha; cases ha
        | none =>
        rw [hsp] at ha
        simp only [Option.isSome_none, cond_false] at ha
        obtain ⟨K', hst, ha⟩ := option_map_some ha
        simp only [Prod.mk.injEq] at ha
        obtain ⟨rfl, rfl⟩ := ha
        rcases hd.slice_inv with ⟨b2, c2, hb2, _, _, _, e2⟩ | ⟨a'', c', rfl, _, _, _⟩
        · simp only [Value.slice.injEq, true_and] at e2
          obtain ⟨rfl, rfl⟩ := e2
          obtain ⟨_, w', r1, r2⟩ := h.store (P := P) hf hb2 q1 hst
          refine ⟨φ, _, w', ?_, r2, .int _ _⟩
          rw [hr]
          show ((storeCells ⟨b2, bb.off, none⟩ l').run P w).andThen _ = _
          rw [r1]; rfl
        · cases hsp
    · unfold AHeap.cells? at hl; cases hl

theorem deleteA_ok (h : HR φ H w) (hf : Fresh φ H) {argTypes : Array TypeId} {ty : TypeId} {args : Array Value} {m m' k k' v : Value} (hm : VR φ m m') (hk : VR φ k k') (ha0 : args[0]? = some m') (ha1 : args[1]? = some k')
    (ha : deleteA P H argTypes m k = some (v, K)) : ValOk P φ H w (Builtin.delete_ argTypes ty args) v K := by
  unfold deleteA at ha
  split at ha <;> try (cases ha; done)
  · rename_i kt et hu
    obtain ⟨t, ht, hu⟩ := bind_und hu
    obtain ⟨hko, ha⟩ := bif_some ha
    simp only [Option.some.injEq, Prod.mk.injEq] at ha
    obtain ⟨rfl, rfl⟩ := ha
    obtain ⟨rfl, hck⟩ := keyOk_ok hk hko
    rw [hm.mapNil_inv] at ha0
    refine ValOk.same h hf (v' := .tuple #[]) ?_ (VR.tuple' (LR.nil φ))
    simp only [Builtin.delete_, ht, ha0, ha1, Sem.run_bind, und_run hu, Result.andThen_ok, hck, Sem.run_pure]
  · rename_i kt et r hu
    obtain ⟨t, ht, hu⟩ := bind_und hu
    split at ha <;> try (cases ha; done)
    rename_i es clock ho
    obtain ⟨hko, ha⟩ := bif_some ha
    have hx : (match findK P kt k es 0 with
            | some (some (i, _)) => some (ANext.value (.tuple #[]), H.set r (.map (es.eraseIdx i) clock))
            | some none => some (.value (.tuple #[]), H.set r (.map es clock))
            | none => none) = some (.value v, K) := by
      cases hfk : findK P kt k es 0 with
      | none => rw [hfk] at ha; cases ha
      | some q =>
        rw [hfk] at ha
        cases q with
        | none => simp only [Option.some.injEq, Prod.mk.injEq] at ha ⊢; obtain ⟨rfl, rfl⟩ := ha; exact ⟨rfl, rfl⟩
        | some p => simp only [Option.some.injEq, Prod.mk.injEq] at ha ⊢; obtain ⟨rfl, rfl⟩ := ha; exact ⟨rfl, rfl⟩
    obtain ⟨e1, w', r1, r2⟩ := delete_ok (ty := ty) h hf hu hm hk ho hko ht ha0 ha1 hx
    cases e1
    exact ⟨φ, _, w', r1, r2, VR.tuple' (LR.nil φ)⟩

theorem clear_ok (h : HR φ H w) (hf : Fresh φ H) {argTypes : Array TypeId} {ty : TypeId} {args : Array Value} {x x' v : Value} (hx : VR φ x x') (ha0 : args[0]? = some x')
    (ha : clearA P H argTypes x = some (v, K)) : ValOk P φ H w (Builtin.clear_ argTypes ty args) v K := by
  unfold clearA at ha
  split at ha <;> try (cases ha; done)
  · rename_i e a n c hu
    obtain ⟨t, ht, hu⟩ := bind_und hu
    obtain ⟨a', c', rfl⟩ := hx.slice_any
    split at ha
    · simp only [Option.some.injEq, Prod.mk.injEq] at ha
      obtain ⟨rfl, rfl⟩ := ha
      obtain ⟨_, _, e1⟩ := hx.sliceNil_inv
      rw [e1] at ha0
      refine ValOk.same h hf (v' := .tuple #[]) ?_ (VR.tuple' (LR.nil φ))
      simp only [Builtin.clear_, ht, ha0, Sem.run_bind, und_run hu, Result.andThen_ok, Sem.run_pure]
    · simp only [Option.some.injEq, Prod.mk.injEq] at ha
      obtain ⟨rfl, rfl⟩ := ha
      refine ValOk.same h hf (v' := .tuple #[]) ?_ (VR.tuple' (LR.nil φ))
      cases a' <;> simp only [Builtin.clear_, ht, ha0, Sem.run_bind, und_run hu, Result.andThen_ok, Sem.run_pure]
    · rename_i a n
      cases hz : zeroT P e with
      | none => rw [hz] at ha; cases ha
      | some z =>
      rw [hz] at ha
      simp only [Option.bind_some] at ha
      obtain ⟨hb, ha⟩ := bif_some ha
      obtain ⟨K', hst, ha⟩ := option_map_some ha
      simp only [Prod.mk.injEq] at ha
      obtain ⟨rfl, rfl⟩ := ha
      have hzb := cells_ok (bare_spec (φ := φ) 20 z hb)
      have hv : LR φ (Builtin.zeroCells z.cells (n + 1)).toList (Builtin.zeroCells z.cells (n + 1)).toList := range_map_ok hzb _
      rcases hx.slice_inv with ⟨b2, c2, hb2, _, _, _, e2⟩ | ⟨a'', c', rfl, e0, _, _⟩
      · simp only [Value.slice.injEq, true_and] at e2
        obtain ⟨rfl, rfl⟩ := e2
        obtain ⟨_, w', r1, r2⟩ := h.store (P := P) hf hb2 hv hst
        refine ⟨φ, _, w', ?_, r2, VR.tuple' (LR.nil φ)⟩
        simp only [Builtin.clear_, ht, ha0, Sem.run_bind, und_run hu, Result.andThen_ok, zeroT_run hz, r1, Sem.run_pure]
      · cases e0
  · rename_i kt et hu
    obtain ⟨t, ht, hu⟩ := bind_und hu
    simp only [Option.some.injEq, Prod.mk.injEq] at ha
    obtain ⟨rfl, rfl⟩ := ha
    rw [hx.mapNil_inv] at ha0
    refine ValOk.same h hf (v' := .tuple #[]) ?_ (VR.tuple' (LR.nil φ))
    simp only [Builtin.clear_, ht, ha0, Sem.run_bind, und_run hu, Result.andThen_ok, Sem.run_pure]
end Go.Vi
