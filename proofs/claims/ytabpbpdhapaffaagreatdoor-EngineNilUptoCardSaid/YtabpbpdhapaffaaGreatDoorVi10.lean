/-
  The operations that write.
-/
import Derived.Test.YtabpbpdhapaffaaGreatDoorVi09
set_option linter.unusedSimpArgs false
set_option linter.unusedVariables false
namespace Go.Vi
variable {P : Program} {φ : Ren} {H K : AHeap} {w : World}

def EffOk (P : Program) (φ : Ren) (H : AHeap) (w : World) (s : Sem Next) (x : ANext) (K : AHeap) : Prop :=
  match x with
  | .value v => ∃ ψ v' w', s.run P w = .ok (.value v') w' ∧ Leaves φ H w ψ K w' ∧ VR ψ v v'
  | .skip => ∃ ψ w', s.run P w = .ok .skip w' ∧ Leaves φ H w ψ K w'
  | .enter f args => K = H ∧ ∃ args', AR φ args args' ∧ s.run P w = .ok (.enter f args') w ∧ ∃ fn, P.funcs[f]? = some fn ∧ fn.body.isSome = true
  | .round l args => K = H ∧ ∃ b args', φ l = some b ∧ AR φ args args' ∧ s.run P w = (Instr.yield b args').run P w

theorem EffOk.of_value {s : Sem Value} {v v' : Value} {ψ : Ren} {w' : World} (hs : s.run P w = .ok v' w') (hl : Leaves φ H w ψ K w') (hv : VR ψ v v') :
    EffOk P φ H w (do pure (Next.value (← s))) (.value v) K :=
  ⟨ψ, v', w', by simp only [Sem.run_bind, hs, Result.andThen_ok, Sem.run_pure], hl, hv⟩
theorem Leaves.same (h : HR φ H w) (hf : Fresh φ H) : Leaves φ H w φ H w := ⟨h, hf, Goes.refl _ _ _⟩

/-! ### Maps -/
theorem setObj_map {b : Nat} {es es' : Array MapEntry} {c c' : Nat} (h : w.heap[b]? = some (.map es c)) :
    (setObj b (.map es' c')).run P w = .ok () { w with heap := w.heap.setIfInBounds b (.map es' c') } := by
  simp only [setObj, Sem.run, h]
theorem set_heap {b : Nat} {o o' : Obj} (h : w.heap[b]? = some o) :
    ({ w with heap := w.heap.setIfInBounds b o' } : World).heap.size = w.heap.size ∧ (∀ k, k ≠ b → ({ w with heap := w.heap.setIfInBounds b o' } : World).heap[k]? = w.heap[k]?) ∧
      ({ w with heap := w.heap.setIfInBounds b o' } : World).heap[b]? = some o' := by
  have hlt : b < w.heap.size := (Array.getElem?_eq_some_iff.1 h).1
  refine ⟨by simp, fun k hk => ?_, ?_⟩
  · show (w.heap.setIfInBounds b o')[k]? = _
    rw [Array.getElem?_setIfInBounds_ne (Ne.symm hk)]
  · show (w.heap.setIfInBounds b o')[b]? = _
    simp [hlt]
/-- A map turned. -/
theorem HR.setMap (h : HR φ H w) (hf : Fresh φ H) {i b : Nat} {es es1 : List MapEntry} {es' es1' : Array MapEntry} {c c1 : Nat} (hi : H.objs.get i = some (.map es c)) (hb : φ i = some b)
    (hw : w.heap[b]? = some (.map es' c)) (he : ER φ es1 es1'.toList) :
    Leaves φ H w φ (H.set i (.map es1 c1)) { w with heap := w.heap.setIfInBounds b (.map es1' c1) } := by
  obtain ⟨s1, s2, s3⟩ := set_heap (o' := .map es1' c1) hw
  obtain ⟨r1, r2, r3⟩ := h.turn (w1 := { w with heap := w.heap.setIfInBounds b (.map es1' c1) }) hf hi hb rfl (OR.map c1 he) (fun fl c e c' fr h => by cases h) s1 s2 s3 rfl rfl rfl
  exact ⟨r1, r2, r3⟩
theorem ER.append {x y : List MapEntry} {e e' : MapEntry} (h : ER φ x y) (h1 : VR φ e.key e'.key) (h2 : VR φ e.val e'.val) (h3 : e.born = e'.born) : ER φ (x ++ [e]) (y ++ [e']) := by
  refine ⟨by simp [h.1], fun i u hu => ?_⟩
  rcases Nat.lt_or_ge i x.length with hlt | hge
  · rw [List.getElem?_append_left hlt] at hu
    obtain ⟨u', e1, r⟩ := h.2 i u hu
    exact ⟨u', by rw [List.getElem?_append_left (h.1 ▸ hlt)]; exact e1, r⟩
  · rw [List.getElem?_append_right hge] at hu
    have : i - x.length = 0 := by
      have := (List.getElem?_eq_some_iff.1 hu).1
      simpa using this
    rw [this] at hu
    simp only [List.getElem?_cons_zero, Option.some.injEq] at hu
    subst hu
    exact ⟨e', by rw [List.getElem?_append_right (h.1 ▸ hge), ← h.1, this]; rfl, h1, h2, h3⟩
theorem ER.setAt {x y : List MapEntry} (h : ER φ x y) (n : Nat) {e e' : MapEntry} (h1 : VR φ e.key e'.key) (h2 : VR φ e.val e'.val) (h3 : e.born = e'.born) : ER φ (x.set n e) (y.set n e') := by
  refine ⟨by simp [h.1], fun i u hu => ?_⟩
  rw [List.getElem?_set] at hu ⊢
  by_cases hi : n = i
  · subst hi
    rw [if_pos rfl] at hu ⊢
    by_cases hl : n < x.length
    · rw [if_pos hl] at hu; cases hu; rw [if_pos (h.1 ▸ hl)]; exact ⟨e', rfl, h1, h2, h3⟩
    · rw [if_neg hl] at hu; cases hu
  · rw [if_neg hi] at hu ⊢; exact h.2 i u hu
theorem ER.erase {x y : List MapEntry} (h : ER φ x y) (n : Nat) : ER φ (x.eraseIdx n) (y.eraseIdx n) := by
  refine ⟨by simp only [List.length_eraseIdx, h.1], fun i u hu => ?_⟩
  rw [List.getElem?_eraseIdx] at hu ⊢
  split at hu
  · rename_i hc; rw [if_pos hc]; exact h.2 i u hu
  · rename_i hc; rw [if_neg hc]; exact h.2 (i + 1) u hu
theorem findK_idx {t : TypeId} {k : Value} : ∀ (es : List MapEntry) (i j : Nat) (v : Value), findK P t k es i = some (some (j, v)) → i ≤ j ∧ ∃ e, es[j - i]? = some e ∧ e.val = v ∧ keyEq P t k e.key = some true
  | [], _, _, _, h => by simp [findK] at h
  | x :: l, i, j, v, h => by
    simp only [findK] at h
    cases hq : keyEq P t k x.key with
    | none => rw [hq] at h; cases h
    | some q =>
    rw [hq] at h
    cases q with
    | true =>
      simp only [Option.some.injEq, Prod.mk.injEq] at h
      obtain ⟨rfl, rfl⟩ := h
      exact ⟨Nat.le_refl _, x, by simp, rfl, hq⟩
    | false =>
      obtain ⟨h1, e, h2, h3⟩ := findK_idx l (i + 1) j v h
      refine ⟨by omega, e, ?_, h3⟩
      rw [show j - i = (j - (i + 1)) + 1 by omega]
      simpa using h2

theorem mapUpdate_ok (h : HR φ H w) (hf : Fresh φ H) {t kt et : TypeId} {r : Nat} {m' k k' v v' : Value} {es : List MapEntry} {clock : Nat} (ht : P.underlying t = some (.map kt et))
    (hm : VR φ (.map (some r)) m') (hk : VR φ k k') (hv : VR φ v v') (ho : H.objs.get r = some (.map es clock)) (hko : keyOk P false kt k = true)
    (hx : (match findK P kt k es 0 with
            | some (some (i, _)) => (match es[i]? with
              | some e => bif Instr.sameBits 10000 e.key k then some (ANext.skip, H.set r (.map (es.set i { e with key := k, val := v }) clock)) else none
              | none => none)
            | some none => some (.skip, H.set r (.map (es ++ [{ key := k, val := v, born := clock }]) (clock + 1)))
            | none => none) = some (.skip, K)) :
    ∃ w', (Instr.mapUpdate t m' k' v').run P w = .ok () w' ∧ Leaves φ H w φ K w' := by
  obtain ⟨b, hb, rfl⟩ := hm.map_inv
  obtain ⟨es', g1, g2⟩ := h.mapObj ho hb
  obtain ⟨rfl, hck⟩ := keyOk_ok hk hko
  have hku : ∃ dk, P.underlying kt = some dk := by
    cases hkk : P.underlying kt with
    | some dk => exact ⟨dk, rfl⟩
    | none =>
      exfalso
      have h1 := hck w
      rw [show (10000 : Nat) = 9999 + 1 from rfl, Instr.checkKey] at h1
      simp [underlying, hkk] at h1
  obtain ⟨dk, hdk⟩ := hku
  cases hfk : findK P kt k' es 0 with
  | none => rw [hfk] at hx; cases hx
  | some res =>
  rw [hfk] at hx
  obtain ⟨res', f1, f2⟩ := findKey_ok hdk hk g2 hfk
  cases res with
  | some p =>
    obtain ⟨i, v0⟩ := p
    simp only at hx
    cases hei : es[i]? with
    | none => rw [hei] at hx; cases hx
    | some e =>
    rw [hei] at hx
    simp only at hx
    obtain ⟨hsb, hx⟩ := bif_some hx
    simp only [Option.some.injEq, Prod.mk.injEq, true_and] at hx; subst hx
    cases res' with
    | none => exact f2.elim
    | some p' =>
    obtain ⟨i', v0'⟩ := p'
    obtain ⟨rfl, _⟩ := f2
    obtain ⟨e', hei', r1, r2, r3⟩ := g2.2 i e hei
    -- the key in the map is a bare one
    obtain ⟨_, e2, he2, _, hkq⟩ := findK_idx es 0 i v0 hfk
    simp only [Nat.sub_zero] at he2
    rw [hei] at he2; cases he2
    obtain ⟨_, hkey, _⟩ := keyEq_ok hk r1 hkq
    refine ⟨{ w with heap := w.heap.setIfInBounds b (.map (es'.modify i fun e => { e with key := k', val := v' }) clock) }, ?_, ?_⟩
    · have hg : (es'[i]?).map (·.key) = some e.key := by
        rw [← Array.getElem?_toList, hei']; simp [hkey]
      have hstay : (Instr.keyThatStays e.key k').run P w = .ok k' w := by
        unfold Instr.keyThatStays; rw [hsb]; rfl
      simp only [Instr.mapUpdate, Sem.run_bind, und_run ht, Result.andThen_ok, run_getObj_map g1, hck, f1, hg, Option.getD_some, hstay, setObj_map g1]
    · refine h.setMap hf ho hb g1 ?_
      have em : (es'.modify i fun e => { e with key := k', val := v' }).toList = es'.toList.set i { e' with key := k', val := v' } := by
        rw [Array.toList_modify]
        apply List.ext_getElem?
        intro j
        rw [List.getElem?_modify, List.getElem?_set]
        by_cases hj : i = j
        · subst hj
          have hlt : i < es'.toList.length := (List.getElem?_eq_some_iff.1 hei').1
          rw [hei', if_pos rfl, if_pos hlt]; simp
        · simp [hj]
      rw [em]
      exact g2.setAt i hk hv r3
  | none =>
    simp only [Option.some.injEq, Prod.mk.injEq, true_and] at hx; subst hx
    cases res' with
    | some _ => exact f2.elim
    | none =>
    refine ⟨{ w with heap := w.heap.setIfInBounds b (.map (es'.push { key := k', val := v', born := clock }) (clock + 1)) }, ?_, ?_⟩
    · simp only [Instr.mapUpdate, Sem.run_bind, und_run ht, Result.andThen_ok, run_getObj_map g1, hck, f1, setObj_map g1]
    · refine h.setMap hf ho hb g1 ?_
      rw [Array.toList_push]
      exact g2.append hk hv rfl

theorem delete_ok (h : HR φ H w) (hf : Fresh φ H) {t kt et : TypeId} {ty : TypeId} {r : Nat} {m' k k' : Value} {es : List MapEntry} {clock : Nat} (ht : P.underlying t = some (.map kt et))
    (hm : VR φ (.map (some r)) m') (hk : VR φ k k') (ho : H.objs.get r = some (.map es clock)) (hko : keyOk P es.isEmpty kt k = true) {x : ANext} {argTypes : Array TypeId} {args : Array Value}
    (ha0 : argTypes[0]? = some t) (hA0 : args[0]? = some m') (hA1 : args[1]? = some k')
    (hx : (match findK P kt k es 0 with
            | some (some (i, _)) => some (ANext.value (.tuple #[]), H.set r (.map (es.eraseIdx i) clock))
            | some none => some (.value (.tuple #[]), H.set r (.map es clock))
            | none => none) = some (x, K)) :
    x = .value (.tuple #[]) ∧ ∃ w', (Builtin.delete_ argTypes ty args).run P w = .ok (.tuple #[]) w' ∧ Leaves φ H w φ K w' := by
  obtain ⟨b, hb, rfl⟩ := hm.map_inv
  obtain ⟨es', g1, g2⟩ := h.mapObj ho hb
  obtain ⟨rfl, hck⟩ := keyOk_ok hk hko
  have hku : ∃ dk, P.underlying kt = some dk := by
    cases hkk : P.underlying kt with
    | some dk => exact ⟨dk, rfl⟩
    | none =>
      exfalso
      have h1 := hck w
      rw [show (10000 : Nat) = 9999 + 1 from rfl, Instr.checkKey] at h1
      simp [underlying, hkk] at h1
  obtain ⟨dk, hdk⟩ := hku
  have hck' : (Instr.checkKey es'.isEmpty 10000 kt k').run P w = .ok () w := by rw [g2.isEmpty]; exact hck w
  cases hfk : findK P kt k' es 0 with
  | none => rw [hfk] at hx; cases hx
  | some res =>
  rw [hfk] at hx
  obtain ⟨res', f1, f2⟩ := findKey_ok hdk hk g2 hfk
  cases res with
  | some p =>
    obtain ⟨i, v0⟩ := p
    simp only [Option.some.injEq, Prod.mk.injEq] at hx
    obtain ⟨rfl, rfl⟩ := hx
    cases res' with
    | none => exact f2.elim
    | some p' =>
    obtain ⟨i', v0'⟩ := p'
    obtain ⟨rfl, _⟩ := f2
    refine ⟨rfl, { w with heap := w.heap.setIfInBounds b (.map (es'.eraseIdxIfInBounds i) clock) }, ?_, h.setMap hf ho hb g1 ?_⟩
    · simp only [Builtin.delete_, ha0, hA0, hA1, Sem.run_bind, und_run ht, Result.andThen_ok, run_getObj_map g1, hck', f1, setObj_map g1, Sem.run_pure]
    · rw [Array.toList_eraseIdxIfInBounds]
      exact g2.erase i
  | none =>
    simp only [Option.some.injEq, Prod.mk.injEq] at hx
    obtain ⟨rfl, rfl⟩ := hx
    cases res' with
    | some _ => exact f2.elim
    | none =>
    refine ⟨rfl, { w with heap := w.heap.setIfInBounds b (.map es' clock) }, ?_, h.setMap hf ho hb g1 g2⟩
    simp only [Builtin.delete_, ha0, hA0, hA1, Sem.run_bind, und_run ht, Result.andThen_ok, run_getObj_map g1, hck', f1, setObj_map g1, Sem.run_pure]
end Go.Vi
