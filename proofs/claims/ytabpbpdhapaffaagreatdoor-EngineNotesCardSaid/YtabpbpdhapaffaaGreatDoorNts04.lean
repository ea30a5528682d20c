/-
  EngineNotes returns true whatever the notes and what stands between them, part 4: GrA6, GrA7, GrA8. Conditions: none but those of the row.
-/
import Derived.Lib.UnsafeStr
import Derived.Laws.BytesString
import Derived.Laws.Cells
import Derived.Test.YtabpbpdhapaffaaGreatDoorNts03
set_option linter.unusedSimpArgs false
set_option linter.unusedVariables false
section
namespace Go.Vi
section
variable {P : Program} {φ : Ren} {H : AHeap} {w : World}

theorem HR.obj (h : HR φ H w) {i b : Nat} {o : AObj} (e : H.objs.get i = some o) (hb : φ i = some b) : ∃ o', w.heap[b]? = some o' ∧ OR φ o o' := by
  obtain ⟨b', o', h1, h2, h3⟩ := h.dom i o e
  rw [hb] at h1; cases h1
  exact ⟨o', h2, h3⟩
/-- A row of cells. -/
theorem HR.row (h : HR φ H w) {i b : Nat} {fl : Fl} {c : List Value} {e : TypeId} (hi : H.objs.get i = some (.cells fl c e)) (hb : φ i = some b) :
    ∃ c' fr, w.heap[b]? = some (.cells c' e fr) ∧ LR φ c (c'.toList.take c.length) ∧ c.length ≤ c'.size ∧ (fl = .own → c.length = c'.size) ∧
      ((fl = .own ∨ ∃ s, fl = .open_ s) → fr = (0, 0)) ∧ (∀ s, fl = .mark s → fr = (0, 0) ∨ fr = (c'.size, c'.size + 1)) := by
  obtain ⟨o', h1, h2⟩ := h.obj hi hb
  have hlen : ∀ {c' : Array Value}, LR φ c (c'.toList.take c.length) → c.length ≤ c'.size := fun {c'} hl => by
    have := hl.1; simp only [List.length_take, Array.length_toList] at this; omega
  cases h2 with
  | own e k =>
    rename_i c'
    have hs : c.length = c'.size := by simpa using k.1
    have ht : c'.toList.take c.length = c'.toList := List.take_of_length_le (by simp [hs])
    exact ⟨_, _, h1, by rw [ht]; exact k, by omega, fun _ => hs, fun _ => rfl, fun s e => by cases e⟩
  | open_ s e k => exact ⟨_, _, h1, k, hlen k, fun e => (by cases e), fun _ => rfl, fun s e => (by cases e)⟩
  | mark s e fr hfr k => exact ⟨_, _, h1, k, hlen k, fun e => (by cases e), fun e => (by rcases e with e | ⟨s, e⟩ <;> cases e), fun _ _ => hfr⟩
  | ro e fr k => exact ⟨_, _, h1, k, hlen k, fun e => (by cases e), fun e => (by rcases e with e | ⟨s, e⟩ <;> cases e), fun s e => (by cases e)⟩

theorem cell_at {b o : Nat} {c' : Array Value} {e : TypeId} {fr : Nat × Nat} (h : w.heap[b]? = some (.cells c' e fr)) : w.cell? ⟨b, o, none⟩ = c'[o]? := by
  unfold World.cell?
  simp only [h]
  rfl
theorem LR.take_get {φ : Ren} {c c' : List Value} (h : LR φ c (c'.take c.length)) {o : Nat} {v : Value} (e : c[o]? = some v) : ∃ v', c'[o]? = some v' ∧ VR φ v v' := by
  obtain ⟨v', e', r⟩ := h.2 o v e
  rw [List.getElem?_take] at e'
  split at e'
  · exact ⟨v', e', r⟩
  · cases e'
theorem HR.cell (h : HR φ H w) {i o b : Nat} {v : Value} (e : H.cell? ⟨i, o, none⟩ = some v) (hb : φ i = some b) : ∃ v', w.cell? ⟨b, o, none⟩ = some v' ∧ VR φ v v' := by
  unfold AHeap.cell? at e
  simp only at e
  split at e <;> try (cases e; done)
  rename_i fl c t _ hi
  obtain ⟨c', fr, h1, h2, _⟩ := h.row hi hb
  obtain ⟨v', e', r⟩ := h2.take_get e
  exact ⟨v', by rw [cell_at h1]; simpa using e', r⟩
theorem HR.cells (h : HR φ H w) {i o b n : Nat} {l : List Value} (e : H.cells? ⟨i, o, none⟩ n = some l) (hb : φ i = some b) :
    ∃ l', l'.length = n ∧ LR φ l l' ∧ ∀ j v, l'[j]? = some v → w.cell? ((⟨b, o, none⟩ : Addr).add j) = some v := by
  unfold AHeap.cells? at e
  simp only at e
  split at e <;> try (cases e; done)
  rename_i fl c t _ hi
  obtain ⟨hn, e⟩ := bif_some e
  simp only [Option.some.injEq] at e
  have hn := beq_true hn
  subst e
  obtain ⟨c', fr, h1, h2, h3, _⟩ := h.row hi hb
  have hl : LR φ ((c.drop o).take n) ((c'.toList.drop o).take n) := by
    have h4 := (h2.drop o).take n
    have : ((c'.toList.take c.length).drop o).take n = (c'.toList.drop o).take n := by
      rw [List.drop_take, List.take_take]
      congr 1
      have := hn; simp only [List.length_take, List.length_drop] at this; omega
    rwa [this] at h4
  refine ⟨(c'.toList.drop o).take n, by rw [← hl.1]; exact hn, hl, fun j v hj => ?_⟩
  rw [addAddr_eq, cell_at h1]
  rw [List.getElem?_take] at hj
  split at hj
  · rw [List.getElem?_drop] at hj; simpa using hj
  · cases hj
theorem HR.loadCells (h : HR φ H w) {i o b n : Nat} {l : List Value} (e : H.cells? ⟨i, o, none⟩ n = some l) (hb : φ i = some b) :
    ∃ l', LR φ l l' ∧ l'.length = n ∧ (Go.loadCells ⟨b, o, none⟩ n).run P w = .ok l'.toArray w := by
  obtain ⟨l', h1, h2, h3⟩ := h.cells e hb
  refine ⟨l', h2, h1, ?_⟩
  have := run_loadCells_list (P := P) w ⟨b, o, none⟩ l' h3
  rwa [h1] at this

theorem loadV_ok (h : HR φ H w) {t : TypeId} {a : Addr} {v u : Value} (hu : VR φ (.pointer (some a)) u) (e : loadV P H t a = some v) :
    ∃ v', VR φ v v' ∧ (Instr.loadAt t u).run P w = .ok v' w := by
  obtain ⟨b, hb, hs, rfl⟩ := hu.ptr_inv
  obtain ⟨i, o, s⟩ := a
  simp only at hs hb; subst hs
  unfold loadV at e
  cases hag : isAggT P t with
  | none => rw [hag] at e; cases e
  | some ag =>
  rw [hag] at e
  cases ag with
  | true =>
    simp only at e
    cases hsz : sizeT P t with
    | none => rw [hsz] at e; cases e
    | some n =>
    rw [hsz] at e
    simp only at e
    obtain ⟨l, hl, rfl⟩ := option_map_some e
    obtain ⟨l', h1, h2, h3⟩ := h.loadCells (P := P) hl hb
    refine ⟨_, VR.agg' (AR.mk h1), ?_⟩
    simp only [Instr.loadAt, Instr.sureAddr, loadVar, Sem.run_bind, Sem.run_pure, Result.andThen_ok, isAggT_run hag, if_true, sizeT_run hsz, h3, Sem.run_ite]
  | false =>
    simp only at e
    obtain ⟨v', h1, h2⟩ := h.cell e hb
    refine ⟨v', h2, ?_⟩
    simp only [Instr.loadAt, Instr.sureAddr, loadVar, Sem.run_bind, Sem.run_pure, Result.andThen_ok, isAggT_run hag, Bool.false_eq_true, if_false, run_load, h1, Sem.run_ite]

/-! ### Maps -/
theorem HR.mapObj (h : HR φ H w) {i b : Nat} {es : List MapEntry} {clock : Nat} (hi : H.objs.get i = some (.map es clock)) (hb : φ i = some b) :
    ∃ es', w.heap[b]? = some (.map es' clock) ∧ ER φ es es'.toList := by
  obtain ⟨o', h1, h2⟩ := h.obj hi hb
  cases h2 with
  | map c k => exact ⟨_, h1, k⟩
theorem run_getObj_map {b : Nat} {es : Array MapEntry} {clock : Nat} (h : w.heap[b]? = some (.map es clock)) : (getObj b).run P w = .ok (.map es clock) w := by
  simp only [getObj, Sem.run, h]

theorem ER.nil_inv {y : List MapEntry} (h : ER φ [] y) : y = [] := List.length_eq_zero_iff.1 h.1.symm
theorem ER.cons_inv {x : MapEntry} {l y : List MapEntry} (h : ER φ (x :: l) y) : ∃ x' l', y = x' :: l' ∧ VR φ x.key x'.key ∧ VR φ x.val x'.val ∧ x.born = x'.born ∧ ER φ l l' := by
  cases y with
  | nil => exact absurd h.1 (by simp)
  | cons x' l' =>
    obtain ⟨x2, e, r1, r2, r3⟩ := h.2 0 x (by simp)
    simp only [List.getElem?_cons_zero, Option.some.injEq] at e; subst e
    exact ⟨_, l', rfl, r1, r2, r3, by simpa using h.1, fun i u e => by
      obtain ⟨u', e', r⟩ := h.2 (i + 1) u (by simpa using e)
      exact ⟨u', by simpa using e', r⟩⟩
theorem ER.isEmpty {es : List MapEntry} {es' : Array MapEntry} (h : ER φ es es'.toList) : es'.isEmpty = es.isEmpty := by
  have h1 := h.1
  rw [Bool.eq_iff_iff, List.isEmpty_iff, Array.isEmpty_iff, ← List.length_eq_zero_iff, ← Array.size_eq_zero_iff, h1, Array.length_toList]
def KR (φ : Ren) : Option (Nat × Value) → Option (Nat × Value) → Prop
  | none, none => True
  | some (i, v), some (j, u) => i = j ∧ VR φ v u
  | _, _ => False
theorem keyEq_ok {t : TypeId} {x y x' y' : Value} {r : Bool} (hx : VR φ x x') (hy : VR φ y y') (h : keyEq P t x y = some r) :
    x' = x ∧ y' = y ∧ ∀ w, (Op.equal t x' y').run P w = .ok r w := by
  unfold keyEq at h
  obtain ⟨hb, h⟩ := bif_some h
  simp only [Bool.and_eq_true] at hb
  have e1 := hx.inj_bare 20 hb.1
  have e2 := hy.inj_bare 20 hb.2
  subst e1; subst e2
  exact ⟨rfl, rfl, pureRun_sound _ h⟩
theorem sameNow_equal {d : TypeDesc} {t : TypeId} {x y : Value} {b : Bool} (ht : P.underlying t = some d) (h : Instr.sameNow d x y = some b) (w : World) : (Op.equal t x y).run P w = .ok b w := by
  unfold Instr.sameNow at h
  rw [equal_unfold, Op.equalIn]
  simp only [Sem.run_bind, und_run ht, Result.andThen_ok]
  split at h <;> try (cases h; done)
  · split at h
    · rename_i hk
      simp only [Option.some.injEq] at h; subst h
      simp only [hk, if_true, Sem.run_pure]
    · cases h
  · simp only [Option.some.injEq] at h; subst h; rfl
  · simp only [Option.some.injEq] at h; subst h; rfl
theorem findK_ok {t : TypeId} {k k' : Value} (hk : VR φ k k') : ∀ (es es' : List MapEntry) (i : Nat) {r : Option (Nat × Value)}, ER φ es es' → findK P t k es i = some r →
    (∃ r', (∀ w, (Instr.findAsking t k' es' i).run P w = .ok r' w) ∧ KR φ r r') ∧ (∀ d r'', P.underlying t = some d → Instr.findNow d k' es' i = some r'' → KR φ r r'') := by
  intro es
  induction es with
  | nil =>
    intro es' i r he h
    rw [he.nil_inv]
    simp only [findK, Option.some.injEq] at h; subst h
    refine ⟨⟨none, fun w => rfl, trivial⟩, fun d r'' _ hn => ?_⟩
    simp only [Instr.findNow, Option.some.injEq] at hn; subst hn; trivial
  | cons x l ih =>
    intro es' i r he h
    obtain ⟨x', l', rfl, r1, r2, r3, r4⟩ := he.cons_inv
    simp only [findK] at h
    cases hq : keyEq P t k x.key with
    | none => rw [hq] at h; cases h
    | some q =>
    rw [hq] at h
    obtain ⟨ek, ex, hrun⟩ := keyEq_ok hk r1 hq
    have agree : ∀ d b, P.underlying t = some d → Instr.sameNow d k' x'.key = some b → b = q := fun d b hd hs => by
      have h1 := sameNow_equal hd hs default
      rw [hrun default] at h1
      simpa using h1.symm
    cases q with
    | true =>
      simp only [Option.some.injEq] at h; subst h
      refine ⟨⟨some (i, x'.val), fun w => ?_, rfl, r2⟩, fun d r'' hd hn => ?_⟩
      · simp only [Instr.findAsking, Sem.run_bind, hrun w, Result.andThen_ok, if_true, Sem.run_pure]
      · simp only [Instr.findNow] at hn
        cases hs : Instr.sameNow d k' x'.key with
        | none => rw [hs] at hn; cases hn
        | some b =>
          have := agree d b hd hs; subst this
          rw [hs] at hn
          simp only [Option.some.injEq] at hn; subst hn
          exact ⟨rfl, r2⟩
    | false =>
      simp only at h
      obtain ⟨⟨r', h1, h2⟩, h3⟩ := ih l' (i + 1) r4 h
      refine ⟨⟨r', fun w => ?_, h2⟩, fun d r'' hd hn => ?_⟩
      · simp only [Instr.findAsking, Sem.run_bind, hrun w, Result.andThen_ok, Bool.false_eq_true, if_false, h1 w]
      · simp only [Instr.findNow] at hn
        cases hs : Instr.sameNow d k' x'.key with
        | none => rw [hs] at hn; cases hn
        | some b =>
          have := agree d b hd hs; subst this
          rw [hs] at hn
          exact h3 d r'' hd hn
theorem findKey_ok {t : TypeId} {d : TypeDesc} {k k' : Value} {es es' : List MapEntry} {r : Option (Nat × Value)} (ht : P.underlying t = some d) (hk : VR φ k k') (he : ER φ es es')
    (h : findK P t k es 0 = some r) : ∃ r', (∀ w, (Instr.findKey t k' es').run P w = .ok r' w) ∧ KR φ r r' := by
  obtain ⟨⟨r', h1, h2⟩, h3⟩ := findK_ok hk es es' 0 he h
  cases hn : Instr.findNow d k' es' 0 with
  | none => exact ⟨r', fun w => by simp only [Instr.findKey, Sem.run_bind, und_run ht, Result.andThen_ok, hn, h1 w], h2⟩
  | some r'' => exact ⟨r'', fun w => by simp only [Instr.findKey, Sem.run_bind, und_run ht, Result.andThen_ok, hn, Sem.run_pure], h3 d r'' ht hn⟩
theorem keyOk_ok {e : Bool} {t : TypeId} {k k' : Value} (hk : VR φ k k') (h : keyOk P e t k = true) : k' = k ∧ ∀ w, (Instr.checkKey e 10000 t k').run P w = .ok () w := by
  unfold keyOk at h
  simp only [Bool.and_eq_true] at h
  have e1 := hk.inj_bare 20 h.1
  subst e1
  refine ⟨rfl, fun w => ?_⟩
  cases hc : pureRun P (Instr.checkKey e 10000 t k') with
  | none => rw [hc] at h; cases h.2
  | some u => exact pureRun_sound _ hc w
theorem bytesL_ok : ∀ (l : List Value) (r : List UInt8), bytesL l = some r → ∃ ns : List Int, l = ns.map (Value.int .u8) ∧ r = ns.map fun n => UInt8.ofNat n.toNat
  | [], r, h => by simp only [bytesL, Option.some.injEq] at h; subst h; exact ⟨[], rfl, rfl⟩
  | v :: l, r, h => by
    have hv : ∃ n, v = .int .u8 n := by
      cases v with
      | int k n => cases k <;> first | exact ⟨n, rfl⟩ | (simp [bytesL] at h; done)
      | _ => simp [bytesL] at h
    obtain ⟨n, rfl⟩ := hv
    simp only [bytesL] at h
    cases hl : bytesL l with
    | none => rw [hl] at h; cases h
    | some r' =>
      rw [hl] at h
      simp only [Option.some.injEq] at h; subst h
      obtain ⟨ns, e1, e2⟩ := bytesL_ok l r' hl
      exact ⟨n :: ns, by simp [e1], by simp [e2]⟩
theorem LR.ints {ns : List Int} : ∀ {l : List Value}, LR φ (ns.map (Value.int .u8)) l → l = ns.map (Value.int .u8) := by
  induction ns with
  | nil => intro l h; exact h.nil_inv
  | cons n ns ih =>
    intro l h
    obtain ⟨v', l', rfl, hv, hl⟩ := LR.cons_inv h
    rw [hv.int_inv, ih hl]; rfl
theorem foldl_push (ns : List Int) : ∀ (s : ByteArray), ns.foldl (fun r n => r.push (UInt8.ofNat n.toNat)) s = ⟨s.data ++ (ns.map fun n => UInt8.ofNat n.toNat).toArray⟩ := by
  induction ns with
  | nil => intro s; simp
  | cons n ns ih =>
    intro s
    rw [List.foldl_cons, ih]
    apply ByteArray.ext
    simp [ByteArray.push]

end
section
variable {P : Program} {φ : Ren} {H : AHeap} {w : World}

def ReadOk (P : Program) (φ : Ren) (w : World) (s : Sem Next) (v : Value) : Prop := ∃ v', VR φ v v' ∧ s.run P w = .ok (.value v') w
theorem ReadOk.of_eq {s : Sem Value} {v v' : Value} (h : VR φ v v') (k : s.run P w = .ok v' w) : ReadOk P φ w (do pure (Next.value (← s))) v :=
  ⟨v', h, by simp only [Sem.run_bind, k, Result.andThen_ok, Sem.run_pure]⟩

theorem HR.shape (h : HR φ H w) {i b : Nat} {fl : Fl} {c : List Value} {e : TypeId} (hi : H.objs.get i = some (.cells fl c e)) (hb : φ i = some b) :
    ∃ n, w.shape? b = some (e, n) ∧ c.length ≤ n ∧ (fl = .own → n = c.length) := by
  obtain ⟨c', fr, h1, h2, h3, h4, _⟩ := h.row hi hb
  exact ⟨c'.size, by simp [World.shape?, h1], h3, fun e => (h4 e).symm⟩
theorem run_viewAt_row {b : Nat} {e : TypeId} {n : Nat} (h : w.shape? b = some (e, n)) : (viewAt b).run P w = .ok none w := by
  simp [viewAt, h]
theorem run_seenAt_row {a : Addr} {e : TypeId} {n : Nat} (h : w.shape? a.block = some (e, n)) : (Conv.seenAt a).run P w = .ok a w := by
  simp only [Conv.seenAt, Sem.run_bind, run_viewAt_row h, Result.andThen_ok, Sem.run_pure]
theorem liesAt_head {e : TypeId} {count n : Nat} (hc : P.cellsOf e = n + 1) (hn : 1 ≤ count) : liesAt P P.depth e count 0 e 1 = true := by
  have hd : P.depth = (2 * (P.types.size + Made.depth) + 1) + 1 := rfl
  rw [hd]
  simp only [liesAt, Bool.or_eq_true]
  left
  rw [hd]
  simp [rowAt, hc, hn, sameLayout]

theorem frozen_none {b o : Nat} {c' : Array Value} {e : TypeId} (h : w.heap[b]? = some (.cells c' e (0, 0))) : w.frozen? ⟨b, o, none⟩ = false := by
  simp [World.frozen?, h]
/-- Two rows that no string's bytes lie in are not one. -/
theorem run_sameAddr_rows {a b : Addr} {c c' : Array Value} {e e' : TypeId} (ha : w.heap[a.block]? = some (.cells c e (0, 0))) (hb : w.heap[b.block]? = some (.cells c' e' (0, 0)))
    (hsa : a.spot = none) (hsb : b.spot = none) (hne : a.block ≠ b.block) : (sameAddr a b).run P w = .ok false w := by
  obtain ⟨ab, ao, as⟩ := a
  obtain ⟨bb, bo, bs⟩ := b
  simp only at *
  subst hsa; subst hsb
  have f1 : ∀ o, w.frozen? ⟨ab, o, none⟩ = false := fun o => frozen_none ha
  have f2 : ∀ o, w.frozen? ⟨bb, o, none⟩ = false := fun o => frozen_none hb
  have s1 : w.shape? ab = some (e, c.size) := by simp [World.shape?, ha]
  have s2 : w.shape? bb = some (e', c'.size) := by simp [World.shape?, hb]
  simp [sameAddr, hne, f1, f2, noView, run_viewAt_row s1, run_viewAt_row s2, mayBeOne, stringish, s1, s2]
theorem run_sameAddr_one {a b : Addr} (h : a.block = b.block) : (sameAddr a b).run P w = .ok (a == b) w := by
  simp [sameAddr, h]

theorem ptrEq_ok (h : HR φ H w) {t e : TypeId} {a b : Addr} {u v : Value} {r : Bool} (hu : VR φ (.pointer (some a)) u) (hv : VR φ (.pointer (some b)) v) (ht : P.underlying t = some (.pointer e))
    (hr : readOp.ptrEq P H e a b = some r) : (Op.equal t u v).run P w = .ok r w ∧ plainB u = true := by
  obtain ⟨a', ha', hsa, rfl⟩ := hu.ptr_inv
  obtain ⟨b', hb', hsb, rfl⟩ := hv.ptr_inv
  refine ⟨?_, rfl⟩
  unfold readOp.ptrEq at hr
  cases hs : sizeT P e with
  | none => rw [hs] at hr; cases hr
  | some n =>
  rw [hs] at hr
  cases n with
  | zero => cases hr
  | succ n =>
  simp only at hr
  rw [equal_unfold, Op.equalIn]
  simp only [Sem.run_bind, und_run ht, Result.andThen_ok, sizeT_run hs, Sem.run_ite, ne_eq, Nat.add_eq_zero_iff, Nat.succ_ne_zero, and_false, not_false_eq_true, if_true]
  cases hbl : Nat.beq a.block b.block with
  | true =>
    rw [hbl, cond_true, Option.some.injEq] at hr
    have e1 := beq_true hbl
    rw [e1, hb'] at ha'
    cases ha'
    rw [run_sameAddr_one (a := ⟨a', a.off, none⟩) (b := ⟨a', b.off, none⟩) rfl, ← hr]
    congr 1
    rw [Bool.eq_iff_iff]
    constructor
    · intro hh
      have := eq_of_beq hh
      simp only [Addr.mk.injEq, true_and, and_true] at this
      rw [this]; exact Nat.beq_refl _
    · intro hh
      rw [beq_true hh]; simp
  | false =>
    rw [hbl, cond_false] at hr
    have hne : a.block ≠ b.block := fun e1 => by rw [e1, Nat.beq_refl] at hbl; cases hbl
    have fin : ∀ fl fl' c c' e1 e2, H.objs.get a.block = some (.cells fl c e1) → H.objs.get b.block = some (.cells fl' c' e2) → (fl = .own ∨ ∃ s, fl = .open_ s) → (fl' = .own ∨ ∃ s, fl' = .open_ s) →
        (sameAddr ⟨a', a.off, none⟩ ⟨b', b.off, none⟩).run P w = .ok false w := fun fl fl' c c' e1 e2 g1 g2 k1 k2 => by
      obtain ⟨x, fr, r1, _, _, _, r5, _⟩ := h.row g1 ha'
      obtain ⟨y, fr', q1, _, _, _, q5, _⟩ := h.row g2 hb'
      have z1 := r5 k1
      have z2 := q5 k2
      subst z1; subst z2
      refine run_sameAddr_rows (e := e1) (e' := e2) r1 q1 rfl rfl fun e3 => hne ?_
      have e3 : a' = b' := e3
      subst e3
      exact h.inj _ _ _ _ _ g1 g2 ha' hb' (by rcases k1 with rfl | ⟨s, rfl⟩ <;> rfl)
    split at hr <;> first
      | (cases hr; done)
      | (simp only [Option.some.injEq] at hr; subst hr
         rename_i g1 g2
         exact fin _ _ _ _ _ _ g1 g2 (by first | exact .inl rfl | exact .inr ⟨_, rfl⟩) (by first | exact .inl rfl | exact .inr ⟨_, rfl⟩))

theorem readOp_ok (h : HR φ H w) {ρ ρ' : Operand → Value} {o : Oper} {v : Value} (hρ : ∀ x ∈ o.op.operands, VR φ (ρ x) (ρ' x)) (hr : readOp P H ρ o = some v) :
    ReadOk P φ w (execOp ρ' o) v := by
  obtain ⟨dst, op, ty, pos, after, guard⟩ := o
  simp only at hρ
  cases op <;> simp only [readOp] at hr <;> try (cases hr; done)
  case load t x =>
    have hx := hρ x (by simp [Op.operands])
    cases hv : ρ x <;> rw [hv] at hr hx <;> (try simp only at hr) <;> try (cases hr; done)
    rename_i a
    cases a with
    | none => cases hr
    | some a =>
    obtain ⟨v', h1, h2⟩ := loadV_ok h hx hr
    exact .of_eq h1 h2
  case binOp op t x y yt =>
    have hx := hρ x (by simp [Op.operands])
    have hy := hρ y (by simp [Op.operands])
    cases op <;> try (cases hr; done)
    case eql =>
      cases hu : P.underlying t with
      | none => rw [hu] at hr; cases hr
      | some d =>
      rw [hu] at hr
      cases d <;> try (cases hr; done)
      rename_i e
      cases hv : ρ x <;> rw [hv] at hr hx <;> (try simp only at hr) <;> try (cases hr; done)
      rename_i a
      cases a with
      | none => cases hr
      | some a =>
      cases hv2 : ρ y <;> rw [hv2] at hr hy <;> (try simp only at hr) <;> try (cases hr; done)
      rename_i b
      cases b with
      | none => cases hr
      | some b =>
      simp only at hr
      obtain ⟨r, hr2, rfl⟩ := option_map_some hr
      obtain ⟨h1, h2⟩ := ptrEq_ok h hx hy hu hr2
      refine .of_eq (.bool r) ?_
      have hg := eqGuard_plain (P := P) .eql t x y (b := ρ' y) h2 w
      have hb : binOp .eql t (ρ' x) (ρ' y) = (do pure (.bool (← Op.equal t (ρ' x) (ρ' y))) : Sem Value) := by
        obtain ⟨_, _, _, ea⟩ := hx.ptr_inv
        obtain ⟨_, _, _, eb⟩ := hy.ptr_inv
        rw [ea, eb]; rfl
      simp only [Sem.run_bind, hg, Result.andThen_ok, hb, h1, Sem.run_pure]
    case neq =>
      cases hu : P.underlying t with
      | none => rw [hu] at hr; cases hr
      | some d =>
      rw [hu] at hr
      cases d <;> try (cases hr; done)
      rename_i e
      cases hv : ρ x <;> rw [hv] at hr hx <;> (try simp only at hr) <;> try (cases hr; done)
      rename_i a
      cases a with
      | none => cases hr
      | some a =>
      cases hv2 : ρ y <;> rw [hv2] at hr hy <;> (try simp only at hr) <;> try (cases hr; done)
      rename_i b
      cases b with
      | none => cases hr
      | some b =>
      simp only at hr
      obtain ⟨r, hr2, rfl⟩ := option_map_some hr
      obtain ⟨h1, h2⟩ := ptrEq_ok h hx hy hu hr2
      refine .of_eq (.bool (!r)) ?_
      have hg := eqGuard_plain (P := P) .neq t x y (b := ρ' y) h2 w
      have hb : binOp .neq t (ρ' x) (ρ' y) = (do pure (.bool (!(← Op.equal t (ρ' x) (ρ' y)))) : Sem Value) := by
        obtain ⟨_, _, _, ea⟩ := hx.ptr_inv
        obtain ⟨_, _, _, eb⟩ := hy.ptr_inv
        rw [ea, eb]; rfl
      simp only [Sem.run_bind, hg, Result.andThen_ok, hb, h1, Sem.run_pure]
  case convert src dst' x =>
    have hx := hρ x (by simp [Op.operands])
    cases hs : P.underlying src with
    | none => rw [hs] at hr; cases hr
    | some ds =>
    rw [hs] at hr
    cases hd : P.underlying dst' with
    | none => rw [hd] at hr; cases ds <;> cases hr
    | some dd =>
    rw [hd] at hr
    cases ds <;> try (cases hr; done)
    case slice e =>
      cases dd <;> try (cases hr; done)
      case string =>
        cases hv : ρ x <;> rw [hv] at hr hx <;> (try simp only at hr) <;> try (cases hr; done)
        rename_i a len cap
        cases he : P.underlying e with
        | none => rw [he] at hr; cases hr
        | some de =>
        rw [he] at hr
        cases de <;> try (cases hr; done)
        rename_i k
        cases k <;> try (cases hr; done)
        simp only at hr
        have run : ∀ a' c' s, (Conv.bytesToString (.slice a' len c')).run P w = .ok (.string s) w → ρ' x = .slice a' len c' → (convert src dst' (ρ' x)).run P w = .ok (.string s) w := fun a' c' s hh hu => by
          rw [hu]
          unfold convert
          simp only [Sem.run_bind, und_run hs, und_run hd, Result.andThen_ok, und_run he]
          exact hh
        cases a with
        | none =>
          simp only [Option.some.injEq] at hr; subst hr
          obtain ⟨rfl, rfl, e1⟩ := hx.sliceNil_inv
          exact .of_eq (.string _) (run _ _ _ rfl e1)
        | some a =>
          simp only at hr
          cases hz : Nat.beq len 0 with
          | true =>
            rw [hz, cond_true, Option.some.injEq] at hr; subst hr
            have := beq_true hz
            subst this
            obtain ⟨a', c', e1⟩ := hx.slice_any
            refine .of_eq (.string _) (run a' c' _ ?_ e1)
            cases a' with
            | none => rfl
            | some a' =>
              have := run_bytesToString (P := P) w a' 0 c' [] (by simp [loadCells, loadCellsFrom])
              simpa using this
          | false =>
            rw [hz, cond_false] at hr
            cases hl : H.cells? a len with
            | none => rw [hl] at hr; cases hr
            | some l =>
            rw [hl] at hr
            simp only [Option.bind_some] at hr
            obtain ⟨r, hr2, rfl⟩ := option_map_some hr
            rcases hx.slice_inv with ⟨b, c', hb, hsp, hc, _, e1⟩ | ⟨a', c', rfl, rfl, hc, e1⟩
            · obtain ⟨i, o, s⟩ := a
              simp only at hsp hb; subst hsp
              obtain ⟨l', h1, h2, h3⟩ := h.loadCells (P := P) hl hb
              obtain ⟨ns, rfl, rfl⟩ := bytesL_ok l r hr2
              have h4 := h1.ints
              subst h4
              have := run_bytesToString (P := P) w ⟨b, o, none⟩ len c' ns h3
              rw [foldl_push] at this
              refine .of_eq (.string _) (run _ _ _ ?_ e1)
              rw [this]
              simp
            · cases hz
    case pointer t =>
      cases dd <;> try (cases hr; done)
      cases hv : ρ x <;> rw [hv] at hr hx <;> (try simp only at hr) <;> try (cases hr; done)
      rename_i a
      cases a with
      | none => cases hr
      | some a =>
      simp only at hr
      obtain ⟨b, hb, hsp, e1⟩ := hx.ptr_inv
      rw [hsp] at hr
      cases ho : H.objs.get a.block with
      | none => rw [ho] at hr; cases hr
      | some ob =>
      rw [ho] at hr
      cases ob <;> try (cases hr; done)
      rename_i fl c e
      cases hz : sizeT P t with
      | none => rw [hz] at hr; cases hr
      | some n =>
      rw [hz] at hr
      cases n with
      | zero => cases hr
      | succ n =>
      simp only at hr
      obtain ⟨hlt, hr⟩ := bif_some hr
      simp only [Option.some.injEq] at hr; subst hr
      have hlt : a.off < c.length := Nat.lt_of_lt_of_le (Nat.lt_succ_self _) (ble_true hlt)
      obtain ⟨m, s1, s2, _⟩ := h.shape ho hb
      refine .of_eq hx ?_
      rw [e1]
      have hge : ¬ a.off ≥ m := by omega
      unfold convert
      simp only [Sem.run_bind, und_run hs, und_run hd, Result.andThen_ok]
      have s3 : w.shape? (⟨b, a.off, none⟩ : Addr).block = some (e, m) := s1
      unfold Conv.unsafePointer
      simp only [Sem.run_bind, und_run hs, und_run hd, Result.andThen_ok, run_seenAt_row s3, cellsIn, run_shape, s1, Sem.run_pure, sizeT_run hz]
      simp [hge]
    case unsafePointer =>
      cases dd <;> try (cases hr; done)
      rename_i u
      cases hv : ρ x <;> rw [hv] at hr hx <;> (try simp only at hr) <;> try (cases hr; done)
      rename_i a
      cases a with
      | none => cases hr
      | some a =>
      simp only at hr
      obtain ⟨b, hb, hsp, e1⟩ := hx.ptr_inv
      rw [hsp] at hr
      cases ho : H.objs.get a.block with
      | none => rw [ho] at hr; cases hr
      | some ob =>
      rw [ho] at hr
      cases ob <;> try (cases hr; done)
      rename_i fl c e
      cases hz : sizeT P u with
      | none => rw [hz] at hr; cases hr
      | some n =>
      rw [hz] at hr
      cases n with
      | zero => cases hr
      | succ n =>
      simp only at hr
      obtain ⟨hcond, hr⟩ := bif_some hr
      simp only [Option.some.injEq] at hr; subst hr
      simp only [Bool.and_eq_true] at hcond
      obtain ⟨⟨⟨k1, k2⟩, k3⟩, k4⟩ := hcond
      have k1 := beq_true k1
      have k2 := beq_true k2
      have k3 := beq_true k3
      have k4 := ble_true k4
      obtain ⟨m, s1, s2, _⟩ := h.shape ho hb
      subst k2
      refine .of_eq hx ?_
      rw [e1, k1]
      have s3 : w.shape? (⟨b, 0, none⟩ : Addr).block = some (e, m) := s1
      have hlie : (variablesAt ⟨b, 0, none⟩ e 1).run P w = .ok true w := by
        simp only [variablesAt, Sem.run_bind, run_program, Result.andThen_ok, run_shape, s1, Sem.run_pure]
        rw [liesAt_head k3 ((Nat.le_div_iff_mul_le (by omega)).2 (by omega))]
      unfold convert
      simp only [Sem.run_bind, und_run hs, und_run hd, Result.andThen_ok]
      unfold Conv.unsafePointer
      simp only [Sem.run_bind, und_run hs, und_run hd, Result.andThen_ok, run_seenAt_row s3, sizeT_run hz, hlie]
      simp
  case lookup t m k ok =>
    have hm := hρ m (by simp [Op.operands])
    have hk := hρ k (by simp [Op.operands])
    cases hu : P.underlying t with
    | none => rw [hu] at hr; cases hr
    | some d =>
    rw [hu] at hr
    cases d <;> try (cases hr; done)
    rename_i kt et
    simp only at hr
    cases hes : mapOf H (ρ m) with
    | none => rw [hes] at hr; cases hr
    | some es =>
    rw [hes] at hr
    simp only at hr
    obtain ⟨hko, hr⟩ := bif_some hr
    obtain ⟨ek, hck⟩ := keyOk_ok hk hko
    -- the entries
    obtain ⟨es', her, hget⟩ : ∃ es' : Array MapEntry, ER φ es es'.toList ∧ ((ρ' m = .map none ∧ es' = #[]) ∨ ∃ b clock, ρ' m = .map (some b) ∧ w.heap[b]? = some (.map es' clock)) := by
      unfold mapOf at hes
      split at hes <;> try (cases hes; done)
      · rename_i e1
        simp only [Option.some.injEq] at hes; subst hes
        rw [e1] at hm
        exact ⟨#[], ⟨rfl, fun i e h => by simp at h⟩, .inl ⟨hm.mapNil_inv, rfl⟩⟩
      · rename_i r e1
        rw [e1] at hm
        obtain ⟨b, hb, e2⟩ := hm.map_inv
        split at hes <;> try (cases hes; done)
        rename_i es2 clock ho
        simp only [Option.some.injEq] at hes; subst hes
        obtain ⟨es', g1, g2⟩ := h.mapObj ho hb
        exact ⟨es', g2, .inr ⟨b, clock, e2, g1⟩⟩
    have hemp : es'.isEmpty = es.isEmpty := her.isEmpty
    have hku : ∃ dk, P.underlying kt = some dk := by
      cases hkk : P.underlying kt with
      | some dk => exact ⟨dk, rfl⟩
      | none =>
        exfalso
        have h1 := hck w
        rw [show (10000 : Nat) = 9999 + 1 from rfl, Instr.checkKey] at h1
        simp [underlying, hkk] at h1
    obtain ⟨dk, hdk⟩ := hku
    have run : ∀ (res : Option (Nat × Value)) (v' : Value), (∀ w, (Instr.findKey kt (ρ' k) es'.toList).run P w = .ok res w) →
        (match res with | some (_, v) => v' = (if ok then .tuple #[v, .bool true] else v) | none => ∃ z, zeroT P et = some z ∧ v' = (if ok then .tuple #[z, .bool false] else z)) →
        (Instr.lookup t (ρ' m) (ρ' k) ok).run P w = .ok v' w := fun res v' h1 h2 => by
      unfold Instr.lookup
      rcases hget with ⟨e1, e2⟩ | ⟨b, clock, e1, e2⟩
      · rw [e1]
        subst e2
        rw [← hemp] at hck
        simp only [Sem.run_bind, und_run hu, Result.andThen_ok, Sem.run_pure, hck, h1]
        cases res with
        | some p => obtain ⟨i, v⟩ := p; simp only at h2; subst h2; simp only [Sem.run_bind, Sem.run_pure, Result.andThen_ok]
        | none => obtain ⟨z, hz, rfl⟩ := h2; simp only [Sem.run_bind, zeroT_run hz, Sem.run_pure, Result.andThen_ok]
      · rw [e1]
        rw [← hemp] at hck
        simp only [Sem.run_bind, und_run hu, Result.andThen_ok, run_getObj_map e2, Sem.run_pure, hck, h1]
        cases res with
        | some p => obtain ⟨i, v⟩ := p; simp only at h2; subst h2; simp only [Sem.run_bind, Sem.run_pure, Result.andThen_ok]
        | none => obtain ⟨z, hz, rfl⟩ := h2; simp only [Sem.run_bind, zeroT_run hz, Sem.run_pure, Result.andThen_ok]
    cases hf : findK P kt (ρ k) es 0 with
    | none => rw [hf] at hr; cases hr
    | some res =>
    rw [hf] at hr
    obtain ⟨res', g1, g2⟩ := findKey_ok hdk hk her hf
    cases res with
    | some p =>
      obtain ⟨i, v0⟩ := p
      simp only [Option.some.injEq] at hr; subst hr
      cases res' with
      | none => exact g2.elim
      | some p' =>
        obtain ⟨i', v0'⟩ := p'
        obtain ⟨_, g3⟩ := g2
        cases ok with
        | true => exact .of_eq (v' := .tuple #[v0', .bool true]) (VR.tuple' (LR.cons g3 (LR.cons (.bool true) (LR.nil φ)))) (run _ _ g1 (by simp))
        | false => exact .of_eq (v' := v0') g3 (run _ _ g1 (by simp))
    | none =>
      simp only at hr
      cases hz : zeroT P et with
      | none => rw [hz] at hr; cases hr
      | some z =>
      rw [hz] at hr
      simp only at hr
      obtain ⟨hb, hr⟩ := bif_some hr
      simp only [Option.some.injEq] at hr; subst hr
      cases res' with
      | some _ => exact g2.elim
      | none =>
        have hzb := bare_spec (φ := φ) 20 z hb
        cases ok with
        | true => exact .of_eq (v' := .tuple #[z, .bool false]) (VR.tuple' (LR.cons hzb (LR.cons (.bool false) (LR.nil φ)))) (run _ _ g1 ⟨z, hz, by simp⟩)
        | false => exact .of_eq (v' := z) hzb (run _ _ g1 ⟨z, hz, by simp⟩)
  case entry it =>
    have hx := hρ it (by simp [Op.operands])
    revert hr
    split <;> intro hr <;> try (cases hr; done)
    rename_i r e0
    rw [e0] at hx
    obtain ⟨b, hb, _, e1⟩ := hx.ptr_inv
    cases ho : H.objs.get r with
    | none => rw [ho] at hr; cases hr
    | some ob =>
    rw [ho] at hr
    cases ob <;> try (cases hr; done)
    rename_i m since seen stepped
    cases m with
    | none => cases hr
    | some m =>
    simp only at hr
    cases hl : seen.getLast? with
    | none => rw [hl] at hr; cases hr
    | some stamp =>
    rw [hl] at hr
    cases hm : H.objs.get m with
    | none => rw [hm] at hr; cases hr
    | some om =>
    rw [hm] at hr
    cases om <;> try (cases hr; done)
    rename_i es clock
    simp only at hr
    obtain ⟨hc, hr⟩ := bif_some hr
    have hc := beq_true hc
    cases hf : es.find? (fun e => Nat.beq e.born stamp) with
    | none => rw [hf] at hr; cases hr
    | some en =>
    rw [hf] at hr
    simp only [Option.some.injEq] at hr; subst hr
    obtain ⟨o', g1, g2⟩ := h.obj ho hb
    cases g2 with
    | mIter _ _ _ hmb =>
      rename_i b2
      obtain ⟨es', g3, g4⟩ := h.mapObj hm hmb
      have hfind : ∀ (l l' : List MapEntry), ER φ l l' → ∀ en, l.find? (fun e => Nat.beq e.born stamp) = some en → ∃ en', l'.find? (fun e => e.born == stamp) = some en' ∧ VR φ en.key en'.key ∧ VR φ en.val en'.val := by
        intro l
        induction l with
        | nil => intro l' _ en h; simp at h
        | cons x l ih =>
          intro l' hl' en hen
          obtain ⟨x', l2, rfl, r1, r2, r3, r4⟩ := hl'.cons_inv
          simp only [List.find?_cons] at hen ⊢
          have heq : (x'.born == stamp) = Nat.beq x.born stamp := by rw [← r3, beq_nat]
          rw [heq]
          cases hq : Nat.beq x.born stamp with
          | true => rw [hq] at hen; simp only [Option.some.injEq] at hen; subst hen; exact ⟨x', rfl, r1, r2⟩
          | false => rw [hq] at hen; exact ih l2 r4 en hen
      obtain ⟨en', f1, f2, f3⟩ := hfind es es'.toList g4 en hf
      refine .of_eq (v' := .tuple #[en'.key, en'.val]) (VR.tuple' (LR.cons f2 (LR.cons f3 (LR.nil φ)))) ?_
      rw [e1]
      have q1 : (getObj b).run P w = .ok (.mapIter (some b2) since seen.toArray stepped) w := by simp only [getObj, Sem.run, g1]
      have q2 : seen.toArray.back? = some stamp := by simp [hl]
      have q3 : es'.find? (fun e => e.born == stamp) = some en' := by rw [← Array.find?_toList]; exact f1
      have q4 : (clock != stepped) = false := by simp [hc]
      simp only [Instr.entry, Sem.run_bind, q1, Result.andThen_ok, q2, run_getObj_map g3, q4, Bool.false_eq_true, if_false, q3, Sem.run_pure]
  case call c =>
    obtain ⟨callee, args, argTypes⟩ := c
    cases callee with
    | invoke recv m => cases hr
    | value g => cases hr
    | builtin b =>
      have harg : ∀ u, args[0]?.map ρ = some u → ∃ x, args[0]? = some x ∧ ρ x = u ∧ VR φ u (ρ' x) := fun u hu => by
        obtain ⟨x, hx, e⟩ := option_map_some hu
        exact ⟨x, hx, e, e ▸ hρ x (by simp [Op.operands, Call.operands, Array.mem_of_getElem? hx])⟩
      cases b <;> try (cases hr; done)
      case len =>
        simp only at hr
        cases ht : argTypes[0]? with
        | none => rw [ht] at hr; cases hr
        | some t =>
        rw [ht] at hr
        simp only [Option.bind_some] at hr
        cases hu : P.underlying t with
        | none => rw [hu] at hr; cases hr
        | some d =>
        rw [hu] at hr
        cases d <;> try (cases hr; done)
        rename_i kt et
        cases ha : args[0]?.map ρ with
        | none => rw [ha] at hr; cases hr
        | some u =>
        rw [ha] at hr
        obtain ⟨x, hx, e, hvr⟩ := harg u ha
        cases u <;> try (cases hr; done)
        rename_i r
        cases r with
        | none => cases hr
        | some r =>
        simp only at hr
        obtain ⟨b, hb, e1⟩ := hvr.map_inv
        cases ho : H.objs.get r with
        | none => rw [ho] at hr; cases hr
        | some ob =>
        rw [ho] at hr
        cases ob <;> try (cases hr; done)
        rename_i es clock
        simp only [Option.some.injEq] at hr; subst hr
        obtain ⟨es', g1, g2⟩ := h.mapObj ho hb
        refine .of_eq (s := Builtin.len_ argTypes ty (args.map ρ')) (.int .i64 _) ?_
        unfold Builtin.len_
        simp only [Array.getElem?_map, ht, hx, Option.map_some, Sem.run_bind, und_run hu, Result.andThen_ok, e1, run_getObj_map g1, Sem.run_pure, goInt, g2.1, Array.length_toList]
      case unsafeSliceData =>
        simp only at hr
        cases ha : args[0]?.map ρ with
        | none => rw [ha] at hr; cases hr
        | some u =>
        rw [ha] at hr
        obtain ⟨x, hx, e, hvr⟩ := harg u ha
        cases u <;> try (cases hr; done)
        rename_i a l c
        have hone : args.size = 1 → args = #[x] := fun hsz => by
          apply Array.ext
          · simpa using hsz
          · intro i h1 h2
            have : i = 0 := by omega
            subst this
            rw [Array.getElem?_eq_getElem h1] at hx
            simpa using hx
        have hmap : args.size = 1 → args.map ρ' = #[ρ' x] := fun hsz => by rw [hone hsz]; simp
        cases a with
        | none =>
          have hsz : args.size = 1 ∧ v = .pointer none := by
            revert hr
            split
            · rename_i e1 e2 e3; intro _; cases e2
            · rename_i e1 e2 e3; intro hr; exact ⟨e3, by simpa using hr.symm⟩
            · intro hr; cases hr
          obtain ⟨hsz, rfl⟩ := hsz
          refine .of_eq (s := Builtin.unsafeSliceData_ argTypes ty (args.map ρ')) .ptrNil ?_
          rw [hmap hsz]
          obtain ⟨_, _, e4⟩ := hvr.sliceNil_inv
          rw [e4]
          rfl
        | some a =>
          have hsz : args.size = 1 ∧ (bif Nat.beq (capLow c) 0 || a.spot.isSome then none else some (Value.pointer (some a))) = some v := by
            revert hr
            split
            · rename_i e1 e2 e3; intro hr; simp only [Option.some.injEq, Value.slice.injEq] at e2; obtain ⟨e4, _, e5⟩ := e2; subst e4; subst e5; exact ⟨e3, hr⟩
            · rename_i e1 e2 e3; intro _; cases e2
            · intro hr; cases hr
          obtain ⟨hsz, hr⟩ := hsz
          cases hcd : (Nat.beq (capLow c) 0 || a.spot.isSome) with
          | true => rw [hcd] at hr; cases hr
          | false =>
          rw [hcd, cond_false, Option.some.injEq] at hr; subst hr
          simp only [Bool.or_eq_false_iff] at hcd
          rcases hvr.slice_inv with ⟨b2, c', hb, hsp, hc, _, e4⟩ | ⟨a', c', rfl, rfl, hc, e4⟩
          · have hlow := capOk_low hc
            have hc0 : c' ≠ 0 := fun h0 => by
              have : capLow c = 0 := by omega
              rw [this] at hcd; cases hcd.1
            refine .of_eq (s := Builtin.unsafeSliceData_ argTypes ty (args.map ρ')) (v' := .pointer (some ⟨b2, a.off, none⟩)) ?_ ?_
            · obtain ⟨i, o, s⟩ := a
              simp only at hsp hb; subst hsp
              exact .ptr hb
            · rw [hmap hsz, e4]
              exact Lib.run_unsafeSliceData_row w argTypes ty _ _ c' hc0
          · cases hcd.2
end
section
variable {P : Program} {φ : Ren} {H : AHeap} {w w1 : World}

theorem HR.of_heap (h : HR φ H w) (e : w1.heap = w.heap) : HR φ H w1 where
  dom := fun i o ho => by rw [e]; exact h.dom i o ho
  inj := h.inj
  glob := h.glob
  rng := by rw [e]; exact h.rng
  caps := by rw [e]; exact h.caps
theorem Goes.of_heap (e : w1.heap = w.heap) (h1 : w1.os = w.os) (h2 : w1.tape = w.tape) (h3 : w1.output = w.output) : Goes φ H w φ H w1 :=
  ⟨Ren.le_refl _, by rw [e]; exact Nat.le_refl _, fun b _ _ => by rw [e], fun b hb => .inl hb, h1, h2, h3, fun i _ h => .inl ⟨i, h⟩⟩

theorem AHeap.get_new (ob : AObj) (j : Nat) : (H.new ob).objs.get j = if j = H.next then some ob else H.objs.get j := T.get_put _ _ _ _
theorem AHeap.get_set (i : Nat) (ob : AObj) (j : Nat) : (H.set i ob).objs.get j = if j = i then some ob else H.objs.get j := T.get_put _ _ _ _

/-- What is known of the room of a row is so of the object. -/
def CapOf (n : Nat) (ob : AObj) (o' : Obj) : Prop := ∀ fl c e c' fr, ob = .cells fl c e → o' = .cells c' e fr → fl.sz ≠ 0 → c'.size = n * fl.sz

theorem HR.push (h : HR φ H w) (hf : Fresh φ H) {ob : AObj} {o' : Obj} {n : Nat} (hor : OR φ ob o') (hcap : CapOf n ob o') (hh : w1.heap = w.heap.push o') (h1 : w1.os = w.os) (h2 : w1.tape = w.tape) (h3 : w1.output = w.output) :
    HR (φ.set H.next w.heap.size n) (H.new ob) w1 ∧ Fresh (φ.set H.next w.heap.size n) (H.new ob) ∧ Goes φ H w (φ.set H.next w.heap.size n) (H.new ob) w1 := by
  have hle : φ.le (φ.set H.next w.heap.size n) := Ren.le_set (hf _ (Nat.le_refl _)) (.inl fun j e => absurd (h.rng j _ e) (Nat.lt_irrefl _))
  have hold : ∀ k, k < w.heap.size → w1.heap[k]? = w.heap[k]? := fun k hk => by rw [hh, Array.getElem?_push, if_neg (by omega)]
  have hnew : w1.heap[w.heap.size]? = some o' := by rw [hh, Array.getElem?_push, if_pos rfl]
  have hset : ∀ j, j ≠ H.next → (φ.set H.next w.heap.size n) j = φ j := fun j hj => Ren.set_ne _ _ _ hj
  have hset0 : (φ.set H.next w.heap.size n) H.next = some w.heap.size := Ren.set_same _ _ _ _
  have hlt : ∀ {j b o}, H.objs.get j = some o → φ j = some b → b < w.heap.size := fun {j b o} _ hb => h.rng j b hb
  refine ⟨⟨?_, ?_, ?_, ?_, ?_⟩, ?_, ⟨hle, by rw [hh]; simp, fun b hb _ => hold b hb, ?_, h1, h2, h3, fun i b hb => by
    by_cases hi : i = H.next
    · subst hi; rw [hset0] at hb; cases hb; exact .inr (Nat.le_refl _)
    · rw [hset i hi] at hb; exact .inl ⟨i, hb⟩⟩⟩
  · intro i o ho
    rw [AHeap.get_new] at ho
    by_cases hi : i = H.next
    · subst hi
      rw [if_pos rfl] at ho; cases ho
      exact ⟨_, o', hset0, hnew, hor.mono hle⟩
    · rw [if_neg hi] at ho
      obtain ⟨b, o2, e1, e2, e3⟩ := h.dom i o ho
      exact ⟨b, o2, by rw [hset i hi]; exact e1, by rw [hold b (hlt ho e1)]; exact e2, e3.mono hle⟩
  · intro i j o o2 b hi hj ei ej ho
    rw [AHeap.get_new] at hi hj
    by_cases h1 : i = H.next
    · by_cases h2 : j = H.next
      · rw [h1, h2]
      · exfalso
        rw [if_neg h2] at hj
        rw [h1, hset0] at ei; cases ei
        rw [hset j h2] at ej
        have := hlt hj ej; omega
    · rw [if_neg h1] at hi
      rw [hset i h1] at ei
      by_cases h2 : j = H.next
      · exfalso
        rw [h2, hset0] at ej; cases ej
        have := hlt hi ei; omega
      · rw [if_neg h2] at hj
        rw [hset j h2] at ej
        exact h.inj i j o o2 b hi hj ei ej ho
  · intro i hi
    have hi : i < H.gl := hi
    have := h.glob i hi
    have hne : i ≠ H.next := fun e => by rw [e, hf _ (Nat.le_refl _)] at this; cases this
    rw [hset i hne]; exact this
  · intro i b hb
    rw [hh, Array.size_push]
    by_cases h1 : i = H.next
    · subst h1; rw [hset0] at hb; cases hb; omega
    · rw [hset i h1] at hb; have := h.rng i b hb; omega
  · intro i fl c e b c' fr hi hb hw hs
    rw [AHeap.get_new] at hi
    by_cases h1 : i = H.next
    · subst h1
      rw [if_pos rfl] at hi; cases hi
      rw [hset0] at hb; cases hb
      rw [hnew] at hw; cases hw
      rw [Ren.set_k]
      exact hcap fl c e c' fr rfl rfl hs
    · rw [if_neg h1] at hi
      rw [hset i h1] at hb
      rw [hold b (hlt hi hb)] at hw
      rw [hle.2 _ _ hb]
      exact h.caps i fl c e b c' fr hi hb hw hs
  · intro i hi
    have hi : H.next + 1 ≤ i := hi
    rw [hset i (by omega)]; exact hf i (by omega)
  · rintro b ⟨i, o, hi, hw, hb⟩
    rw [AHeap.get_new] at hi
    by_cases h1 : i = H.next
    · subst h1; rw [hset0] at hb; cases hb; exact .inr (Nat.le_refl _)
    · rw [if_neg h1] at hi; rw [hset i h1] at hb; exact .inl ⟨i, o, hi, hw, hb⟩

theorem HR.turn (h : HR φ H w) (hf : Fresh φ H) {i b : Nat} {ob ob1 : AObj} {o1 : Obj} (hi : H.objs.get i = some ob) (hb : φ i = some b) (hw : ob.wr = true) (hor : OR φ ob1 o1) (hcap : CapOf (φ.k b) ob1 o1)
    (hs : w1.heap.size = w.heap.size) (hk : ∀ k, k ≠ b → w1.heap[k]? = w.heap[k]?) (hn : w1.heap[b]? = some o1) (h1 : w1.os = w.os) (h2 : w1.tape = w.tape) (h3 : w1.output = w.output) :
    HR φ (H.set i ob1) w1 ∧ Fresh φ (H.set i ob1) ∧ Goes φ H w φ (H.set i ob1) w1 := by
  have hother : ∀ {j o b'}, j ≠ i → H.objs.get j = some o → φ j = some b' → b' ≠ b := fun {j o b'} hj ho hb' e => by
    subst e
    exact hj (h.inj i j ob o _ hi ho hb hb' hw).symm
  refine ⟨⟨?_, ?_, h.glob, by rw [hs]; exact h.rng, ?_⟩, hf, ⟨Ren.le_refl _, by rw [hs]; exact Nat.le_refl _, ?_, ?_, h1, h2, h3, fun i _ h => .inl ⟨i, h⟩⟩⟩
  · intro j o ho
    rw [AHeap.get_set] at ho
    by_cases hj : j = i
    · subst hj; rw [if_pos rfl] at ho; cases ho; exact ⟨b, o1, hb, hn, hor⟩
    · rw [if_neg hj] at ho
      obtain ⟨b', o2, e1, e2, e3⟩ := h.dom j o ho
      exact ⟨b', o2, e1, by rw [hk b' (hother hj ho e1)]; exact e2, e3⟩
  · intro j k o o2 b' hj hk' ej ek ho
    rw [AHeap.get_set] at hj hk'
    by_cases e1 : j = i
    · by_cases e2 : k = i
      · rw [e1, e2]
      · exfalso
        rw [if_neg e2] at hk'
        rw [e1, hb] at ej; cases ej
        exact hother e2 hk' ek rfl
    · rw [if_neg e1] at hj
      by_cases e2 : k = i
      · exfalso
        rw [e2, hb] at ek; cases ek
        exact hother e1 hj ej rfl
      · rw [if_neg e2] at hk'
        exact h.inj j k o o2 b' hj hk' ej ek ho
  · intro j fl c e b' c' fr hj hb' hw' hsz
    rw [AHeap.get_set] at hj
    by_cases e1 : j = i
    · subst e1
      rw [if_pos rfl] at hj; cases hj
      rw [hb] at hb'; cases hb'
      rw [hn] at hw'; cases hw'
      exact hcap fl c e c' fr rfl rfl hsz
    · rw [if_neg e1] at hj
      rw [hk b' (hother e1 hj hb')] at hw'
      exact h.caps j fl c e b' c' fr hj hb' hw' hsz
  · intro k _ hno
    refine hk k fun e => hno ?_
    subst e
    exact ⟨i, ob, hi, hw, hb⟩
  · rintro k ⟨j, o, hj, hwj, hbj⟩
    rw [AHeap.get_set] at hj
    by_cases e1 : j = i
    · subst e1; exact .inl ⟨j, ob, hi, hw, hbj⟩
    · rw [if_neg e1] at hj; exact .inl ⟨j, o, hj, hwj, hbj⟩

theorem AHeap.get_drop (i j : Nat) : (H.drop i).objs.get j = if j = i then none else H.objs.get j := T.get_del _ _ _
theorem HR.drop (h : HR φ H w) (i : Nat) : HR φ (H.drop i) w where
  dom := fun j o ho => by
    rw [AHeap.get_drop] at ho
    by_cases e : j = i
    · rw [if_pos e] at ho; cases ho
    · rw [if_neg e] at ho; exact h.dom j o ho
  inj := fun j k o o' b hj hk ej ek ho => by
    rw [AHeap.get_drop] at hj hk
    by_cases e : j = i
    · rw [if_pos e] at hj; cases hj
    · rw [if_neg e] at hj
      by_cases e2 : k = i
      · rw [if_pos e2] at hk; cases hk
      · rw [if_neg e2] at hk; exact h.inj j k o o' b hj hk ej ek ho
  glob := h.glob
  rng := h.rng
  caps := fun j fl c e b c' fr hj => by
    rw [AHeap.get_drop] at hj
    by_cases e1 : j = i
    · rw [if_pos e1] at hj; cases hj
    · rw [if_neg e1] at hj; exact h.caps j fl c e b c' fr hj
theorem Goes.drop (φ : Ren) (H : AHeap) (w : World) (i : Nat) : Goes φ H w φ (H.drop i) w :=
  ⟨Ren.le_refl _, Nat.le_refl _, fun _ _ _ => rfl, fun b ⟨j, o, hj, hw, hb⟩ => by
    rw [AHeap.get_drop] at hj
    by_cases e : j = i
    · rw [if_pos e] at hj; cases hj
    · rw [if_neg e] at hj; exact .inl ⟨j, o, hj, hw, hb⟩, rfl, rfl, rfl, fun i _ h => .inl ⟨i, h⟩⟩

/-- A row goes over to a new name, and is turned. -/
theorem HR.move (h : HR φ H w) (hf : Fresh φ H) {i b : Nat} {ob ob1 : AObj} {o1 : Obj} (hi : H.objs.get i = some ob) (hb : φ i = some b) (hw : ob.wr = true) (hor : OR φ ob1 o1) (hcap : CapOf (φ.k b) ob1 o1)
    (hs : w1.heap.size = w.heap.size) (hk : ∀ k, k ≠ b → w1.heap[k]? = w.heap[k]?) (hn : w1.heap[b]? = some o1) (h1 : w1.os = w.os) (h2 : w1.tape = w.tape) (h3 : w1.output = w.output) :
    HR (φ.set H.next b (φ.k b)) ((H.drop i).new ob1) w1 ∧ Fresh (φ.set H.next b (φ.k b)) ((H.drop i).new ob1) ∧ Goes φ H w (φ.set H.next b (φ.k b)) ((H.drop i).new ob1) w1 := by
  have hle : φ.le (φ.set H.next b (φ.k b)) := Ren.le_set (hf _ (Nat.le_refl _)) (.inr rfl)
  have hset : ∀ j, j ≠ H.next → (φ.set H.next b (φ.k b)) j = φ j := fun j hj => Ren.set_ne _ _ _ hj
  have hset0 : (φ.set H.next b (φ.k b)) H.next = some b := Ren.set_same _ _ _ _
  have hget : ∀ j, ((H.drop i).new ob1).objs.get j = if j = H.next then some ob1 else if j = i then none else H.objs.get j := fun j => by
    rw [AHeap.get_new, AHeap.get_drop]; rfl
  have hother : ∀ {j o b'}, j ≠ i → H.objs.get j = some o → φ j = some b' → b' ≠ b := fun {j o b'} hj ho hb' e => by
    subst e
    exact hj (h.inj i j ob o _ hi ho hb hb' hw).symm
  refine ⟨⟨?_, ?_, ?_, ?_, ?_⟩, ?_, ⟨hle, by rw [hs]; exact Nat.le_refl _, ?_, ?_, h1, h2, h3, fun j c hc => by
    by_cases e1 : j = H.next
    · subst e1; rw [hset0] at hc; cases hc; exact .inl ⟨i, hb⟩
    · rw [hset j e1] at hc; exact .inl ⟨j, hc⟩⟩⟩
  · intro j o ho
    rw [hget] at ho
    by_cases e1 : j = H.next
    · subst e1; rw [if_pos rfl] at ho; cases ho; exact ⟨b, o1, hset0, hn, hor.mono hle⟩
    · rw [if_neg e1] at ho
      by_cases e2 : j = i
      · rw [if_pos e2] at ho; cases ho
      · rw [if_neg e2] at ho
        obtain ⟨b', o2, g1, g2, g3⟩ := h.dom j o ho
        exact ⟨b', o2, by rw [hset j e1]; exact g1, by rw [hk b' (hother e2 ho g1)]; exact g2, g3.mono hle⟩
  · intro j k o o2 b' hj hk' ej ek ho
    rw [hget] at hj hk'
    by_cases e1 : j = H.next
    · by_cases e2 : k = H.next
      · rw [e1, e2]
      · exfalso
        rw [if_neg e2] at hk'
        by_cases e3 : k = i
        · rw [if_pos e3] at hk'; cases hk'
        · rw [if_neg e3] at hk'
          rw [e1, hset0] at ej; cases ej
          rw [hset k e2] at ek
          exact hother e3 hk' ek rfl
    · rw [if_neg e1] at hj
      rw [hset j e1] at ej
      by_cases e3 : j = i
      · rw [if_pos e3] at hj; cases hj
      rw [if_neg e3] at hj
      by_cases e2 : k = H.next
      · exfalso
        rw [e2, hset0] at ek; cases ek
        exact hother e3 hj ej rfl
      · rw [if_neg e2] at hk'
        by_cases e4 : k = i
        · rw [if_pos e4] at hk'; cases hk'
        · rw [if_neg e4] at hk'
          rw [hset k e2] at ek
          exact h.inj j k o o2 b' hj hk' ej ek ho
  · intro j hj
    have hj : j < H.gl := hj
    have := h.glob j hj
    have hne : j ≠ H.next := fun e => by rw [e, hf _ (Nat.le_refl _)] at this; cases this
    rw [hset j hne]; exact this
  · intro j b' hb'
    rw [hs]
    by_cases e1 : j = H.next
    · subst e1; rw [hset0] at hb'; cases hb'; exact h.rng i b hb
    · rw [hset j e1] at hb'; exact h.rng j b' hb'
  · intro j fl c e b' c' fr hj hb' hw' hsz
    rw [hget] at hj
    by_cases e1 : j = H.next
    · subst e1
      rw [if_pos rfl] at hj; cases hj
      rw [hset0] at hb'; cases hb'
      rw [hn] at hw'; cases hw'
      rw [Ren.set_k]
      exact hcap fl c e c' fr rfl rfl hsz
    · rw [if_neg e1] at hj
      by_cases e2 : j = i
      · rw [if_pos e2] at hj; cases hj
      · rw [if_neg e2] at hj
        rw [hset j e1] at hb'
        rw [hk b' (hother e2 hj hb')] at hw'
        rw [hle.2 _ _ hb']
        exact h.caps j fl c e b' c' fr hj hb' hw' hsz
  · intro j hj
    have hj : H.next + 1 ≤ j := hj
    rw [hset j (by omega)]; exact hf j (by omega)
  · intro k _ hno
    refine hk k fun e => hno ?_
    subst e
    exact ⟨i, ob, hi, hw, hb⟩
  · rintro k ⟨j, o, hj, hwj, hbj⟩
    rw [hget] at hj
    by_cases e1 : j = H.next
    · subst e1; rw [hset0] at hbj; cases hbj; exact .inl ⟨i, ob, hi, hw, hb⟩
    · rw [if_neg e1] at hj
      by_cases e2 : j = i
      · rw [if_pos e2] at hj; cases hj
      · rw [if_neg e2] at hj; rw [hset j e1] at hbj; exact .inl ⟨j, o, hj, hwj, hbj⟩

/-! ### Stores -/
theorem oneCell_eq (v : Value) : oneCell v = v.oneCell' := by cases v <;> rfl
theorem frozen_off {b o : Nat} {c' : Array Value} {e : TypeId} {fr : Nat × Nat} (h : w.heap[b]? = some (.cells c' e fr)) (hfr : ¬ (fr.1 ≤ o ∧ o < fr.2)) : w.frozen? ⟨b, o, none⟩ = false := by
  unfold World.frozen?
  simp only [h]
  simp only [Bool.and_eq_false_iff, decide_eq_false_iff_not]
  omega
theorem splice_cons {cur : List Value} {k : Nat} (h : k < cur.length) (v : Value) (vs : List Value) : splice (cur.set k v) (k + 1) vs = splice cur k (v :: vs) := by
  unfold splice
  have e1 : (cur.set k v).take (k + 1) = cur.take k ++ [v] := by
    rw [List.take_set, List.take_succ_eq_append_getElem h, List.set_append_right _ _ (by simp; omega)]
    simp [Nat.min_eq_left (Nat.le_of_lt h)]
  have e2 : (cur.set k v).drop (k + 1 + vs.length) = cur.drop (k + (v :: vs).length) := by
    rw [List.drop_set_of_lt (by omega)]
    congr 1
    simp only [List.length_cons]; omega
  rw [e1, e2]
  simp
/-- Cells laid one behind the other into a row. -/
theorem run_storeCells {b : Nat} {e : TypeId} {fr : Nat × Nat} : ∀ (vs : List Value) (o i : Nat) (cur : Array Value) (w : World), w.heap[b]? = some (.cells cur e fr) →
    o + i + vs.length ≤ cur.size → (∀ j, j < cur.size → ¬ (fr.1 ≤ j ∧ j < fr.2)) → (∀ v ∈ vs, oneCell v = true) →
    ∃ w', (storeCells ⟨b, o, none⟩ vs i).run P w = .ok () w' ∧ w'.heap.size = w.heap.size ∧ (∀ k, k ≠ b → w'.heap[k]? = w.heap[k]?) ∧
      w'.heap[b]? = some (.cells (splice cur.toList (o + i) vs).toArray e fr) ∧ w'.os = w.os ∧ w'.tape = w.tape ∧ w'.output = w.output
  | [], o, i, cur, w, hb, _, _, _ => by
    refine ⟨w, rfl, rfl, fun _ _ => rfl, ?_, rfl, rfl, rfl⟩
    rw [hb]
    simp [splice]
  | v :: vs, o, i, cur, w, hb, hl, hfr, hv => by
    simp only [List.length_cons] at hl
    have hlt : o + i < cur.size := by omega
    have hc : w.cell? ⟨b, o + i, none⟩ = some cur[o + i] := by rw [cell_at hb, Array.getElem?_eq_getElem hlt]
    have hz := frozen_off (w := w) (o := o + i) hb (hfr _ hlt)
    have hst : (store ((⟨b, o, none⟩ : Addr).add i) v).run P w = .ok () (w.setCell ⟨b, o + i, none⟩ v) := by
      rw [addAddr_eq, run_store P w _ v _ (by rw [← oneCell_eq]; exact hv v (by simp)), hc]
      simp [hz]
    have hb1 : (w.setCell ⟨b, o + i, none⟩ v).heap[b]? = some (.cells (cur.setIfInBounds (o + i) v) e fr) := by
      simp only [World.setCell, Array.getElem?_modify, if_true, hb, Option.map_some]
      rfl
    obtain ⟨w', g1, g2, g3, g4, g5, g6, g7⟩ := run_storeCells vs o (i + 1) _ _ hb1 (by simp; omega) (by simpa using hfr) (fun u hu => hv u (by simp [hu]))
    refine ⟨w', ?_, by rw [g2]; simp, fun k hk => ?_, ?_, by rw [g5]; rfl, by rw [g6]; rfl, by rw [g7]; rfl⟩
    · simp only [storeCells, Sem.run_bind, hst, Result.andThen_ok, g1]
    · rw [g3 k hk]
      simp only [World.setCell, Array.getElem?_modify]
      rw [if_neg (Ne.symm hk)]
    · rw [g4]
      congr 2
      congr 1
      rw [Array.toList_setIfInBounds, show o + (i + 1) = o + i + 1 by omega, splice_cons (by simpa using hlt)]

theorem splice_LR {c c' vs vs' : List Value} {o : Nat} (h : LR φ c (c'.take c.length)) (hv : LR φ vs vs') (hl : o + vs.length ≤ c.length) :
    LR φ (splice c o vs) ((splice c' o vs').take (splice c o vs).length) ∧ (splice c o vs).length = c.length := by
  have hlen : (splice c o vs).length = c.length := by simp [splice]; omega
  have hcl : c.length ≤ c'.length := by have := h.1; simp only [List.length_take] at this; omega
  refine ⟨?_, hlen⟩
  rw [hlen]
  have e1 : (splice c' o vs').take c.length = (c'.take c.length).take o ++ (vs' ++ (c'.take c.length).drop (o + vs'.length)) := by
    have h1 := hv.1
    unfold splice
    have a1 : (c'.take o).length = o := by simp only [List.length_take]; omega
    rw [List.take_append, List.take_of_length_le (l := c'.take o) (by omega), a1, List.take_append, List.take_of_length_le (l := vs') (by omega), List.take_take, Nat.min_eq_left (by omega), List.drop_take]
    congr 3
    omega
  rw [e1]
  simp only [splice]
  rw [← hv.1]
  exact (h.take o).append (hv.append (h.drop _))

end
end Go.Vi
end
