/-
  What memory holds: the heap's cells, and the operations that look at them.
-/
import Derived.Test.YtabpbpdhapaffaaGreatDoorVi05
import Derived.Lib.UnsafeStr
import Derived.Laws.BytesString
import Derived.Laws.Cells
set_option linter.unusedSimpArgs false
set_option linter.unusedVariables false
namespace Go.Vi
variable {P : Program} {φ : Ren} {H : AHeap} {w : World}

theorem HR.obj (h : HR φ H w) {i b : Nat} {o : AObj} (e : H.objs.get i = some o) (hb : φ i = some b) : ∃ o', w.heap[b]? = some o' ∧ OR φ o o' := by
  obtain ⟨b', o', h1, h2, h3⟩ := h.dom i o e
  rw [hb] at h1; cases h1
  exact ⟨o', h2, h3⟩
/-- A row of cells. -/
theorem HR.row (h : HR φ H w) {i b : Nat} {fl : Fl} {c : List Value} {e : TypeId} (hi : H.objs.get i = some (.cells fl c e)) (hb : φ i = some b) :
    ∃ c' fr, w.heap[b]? = some (.cells c' e fr) ∧ LR φ c (c'.toList.take c.length) ∧ c.length ≤ c'.size ∧ (fl = .own → c.length = c'.size) ∧
      ((fl = .own ∨ ∃ s, fl = .open_ s) → fr = (0, 0)) ∧ (∀ s, fl = .mark s → fr = (0, 0) ∨ fr = (c'.size, c'.size + 1)) := by
  obtain ⟨o', h1, h2⟩ := h.obj hi hb
  have hlen : ∀ {c' : Array Value}, LR φ c (c'.toList.take c.length) → c.length ≤ c'.size := fun {c'} hl => by
    have := hl.1; simp only [List.length_take, Array.length_toList] at this; omega
  cases h2 with
  | own e k =>
    rename_i c'
    have hs : c.length = c'.size := by simpa using k.1
    have ht : c'.toList.take c.length = c'.toList := List.take_of_length_le (by simp [hs])
    exact ⟨_, _, h1, by rw [ht]; exact k, by omega, fun _ => hs, fun _ => rfl, fun s e => by cases e⟩
  | open_ s e k => exact ⟨_, _, h1, k, hlen k, fun e => (by cases e), fun _ => rfl, fun s e => (by cases e)⟩
  | mark s e fr hfr k => exact ⟨_, _, h1, k, hlen k, fun e => (by cases e), fun e => (by rcases e with e | ⟨s, e⟩ <;> cases e), fun _ _ => hfr⟩
  | ro e fr k => exact ⟨_, _, h1, k, hlen k, fun e => (by cases e), fun e => (by rcases e with e | ⟨s, e⟩ <;> cases e), fun s e => (by cases e)⟩

theorem cell_at {b o : Nat} {c' : Array Value} {e : TypeId} {fr : Nat × Nat} (h : w.heap[b]? = some (.cells c' e fr)) : w.cell? ⟨b, o, none⟩ = c'[o]? := by
  unfold World.cell?
  simp only [h]
  rfl
theorem LR.take_get {φ : Ren} {c c' : List Value} (h : LR φ c (c'.take c.length)) {o : Nat} {v : Value} (e : c[o]? = some v) : ∃ v', c'[o]? = some v' ∧ VR φ v v' := by
  obtain ⟨v', e', r⟩ := h.2 o v e
  rw [List.getElem?_take] at e'
  split at e'
  · exact ⟨v', e', r⟩
  · cases e'
theorem HR.cell (h : HR φ H w) {i o b : Nat} {v : Value} (e : H.cell? ⟨i, o, none⟩ = some v) (hb : φ i = some b) : ∃ v', w.cell? ⟨b, o, none⟩ = some v' ∧ VR φ v v' := by
  unfold AHeap.cell? at e
  simp only at e
  split at e <;> try (cases e; done)
  rename_i fl c t _ hi
  obtain ⟨c', fr, h1, h2, _⟩ := h.row hi hb
  obtain ⟨v', e', r⟩ := h2.take_get e
  exact ⟨v', by rw [cell_at h1]; simpa using e', r⟩
theorem HR.cells (h : HR φ H w) {i o b n : Nat} {l : List Value} (e : H.cells? ⟨i, o, none⟩ n = some l) (hb : φ i = some b) :
    ∃ l', l'.length = n ∧ LR φ l l' ∧ ∀ j v, l'[j]? = some v → w.cell? ((⟨b, o, none⟩ : Addr).add j) = some v := by
  unfold AHeap.cells? at e
  simp only at e
  split at e <;> try (cases e; done)
  rename_i fl c t _ hi
  obtain ⟨hn, e⟩ := bif_some e
  simp only [Option.some.injEq] at e
  have hn := beq_true hn
  subst e
  obtain ⟨c', fr, h1, h2, h3, _⟩ := h.row hi hb
  have hl : LR φ ((c.drop o).take n) ((c'.toList.drop o).take n) := by
    have h4 := (h2.drop o).take n
    have : ((c'.toList.take c.length).drop o).take n = (c'.toList.drop o).take n := by
      rw [List.drop_take, List.take_take]
      congr 1
      have := hn; simp only [List.length_take, List.length_drop] at this; omega
    rwa [this] at h4
  refine ⟨(c'.toList.drop o).take n, by rw [← hl.1]; exact hn, hl, fun j v hj => ?_⟩
  rw [addAddr_eq, cell_at h1]
  rw [List.getElem?_take] at hj
  split at hj
  · rw [List.getElem?_drop] at hj; simpa using hj
  · cases hj
theorem HR.loadCells (h : HR φ H w) {i o b n : Nat} {l : List Value} (e : H.cells? ⟨i, o, none⟩ n = some l) (hb : φ i = some b) :
    ∃ l', LR φ l l' ∧ l'.length = n ∧ (Go.loadCells ⟨b, o, none⟩ n).run P w = .ok l'.toArray w := by
  obtain ⟨l', h1, h2, h3⟩ := h.cells e hb
  refine ⟨l', h2, h1, ?_⟩
  have := run_loadCells_list (P := P) w ⟨b, o, none⟩ l' h3
  rwa [h1] at this

theorem loadV_ok (h : HR φ H w) {t : TypeId} {a : Addr} {v u : Value} (hu : VR φ (.pointer (some a)) u) (e : loadV P H t a = some v) :
    ∃ v', VR φ v v' ∧ (Instr.loadAt t u).run P w = .ok v' w := by
  obtain ⟨b, hb, hs, rfl⟩ := hu.ptr_inv
  obtain ⟨i, o, s⟩ := a
  simp only at hs hb; subst hs
  unfold loadV at e
  cases hag : isAggT P t with
  | none => rw [hag] at e; cases e
  | some ag =>
  rw [hag] at e
  cases ag with
  | true =>
    simp only at e
    cases hsz : sizeT P t with
    | none => rw [hsz] at e; cases e
    | some n =>
    rw [hsz] at e
    simp only at e
    obtain ⟨l, hl, rfl⟩ := option_map_some e
    obtain ⟨l', h1, h2, h3⟩ := h.loadCells (P := P) hl hb
    refine ⟨_, VR.agg' (AR.mk h1), ?_⟩
    simp only [Instr.loadAt, Instr.sureAddr, loadVar, Sem.run_bind, Sem.run_pure, Result.andThen_ok, isAggT_run hag, if_true, sizeT_run hsz, h3, Sem.run_ite]
  | false =>
    simp only at e
    obtain ⟨v', h1, h2⟩ := h.cell e hb
    refine ⟨v', h2, ?_⟩
    simp only [Instr.loadAt, Instr.sureAddr, loadVar, Sem.run_bind, Sem.run_pure, Result.andThen_ok, isAggT_run hag, Bool.false_eq_true, if_false, run_load, h1, Sem.run_ite]

/-! ### Maps -/
theorem HR.mapObj (h : HR φ H w) {i b : Nat} {es : List MapEntry} {clock : Nat} (hi : H.objs.get i = some (.map es clock)) (hb : φ i = some b) :
    ∃ es', w.heap[b]? = some (.map es' clock) ∧ ER φ es es'.toList := by
  obtain ⟨o', h1, h2⟩ := h.obj hi hb
  cases h2 with
  | map c k => exact ⟨_, h1, k⟩
theorem run_getObj_map {b : Nat} {es : Array MapEntry} {clock : Nat} (h : w.heap[b]? = some (.map es clock)) : (getObj b).run P w = .ok (.map es clock) w := by
  simp only [getObj, Sem.run, h]

theorem ER.nil_inv {y : List MapEntry} (h : ER φ [] y) : y = [] := List.length_eq_zero_iff.1 h.1.symm
theorem ER.cons_inv {x : MapEntry} {l y : List MapEntry} (h : ER φ (x :: l) y) : ∃ x' l', y = x' :: l' ∧ VR φ x.key x'.key ∧ VR φ x.val x'.val ∧ x.born = x'.born ∧ ER φ l l' := by
  cases y with
  | nil => exact absurd h.1 (by simp)
  | cons x' l' =>
    obtain ⟨x2, e, r1, r2, r3⟩ := h.2 0 x (by simp)
    simp only [List.getElem?_cons_zero, Option.some.injEq] at e; subst e
    exact ⟨_, l', rfl, r1, r2, r3, by simpa using h.1, fun i u e => by
      obtain ⟨u', e', r⟩ := h.2 (i + 1) u (by simpa using e)
      exact ⟨u', by simpa using e', r⟩⟩
theorem ER.isEmpty {es : List MapEntry} {es' : Array MapEntry} (h : ER φ es es'.toList) : es'.isEmpty = es.isEmpty := by
  have h1 := h.1
  rw [Bool.eq_iff_iff, List.isEmpty_iff, Array.isEmpty_iff, ← List.length_eq_zero_iff, ← Array.size_eq_zero_iff, h1, Array.length_toList]
def KR (φ : Ren) : Option (Nat × Value) → Option (Nat × Value) → Prop
  | none, none => True
  | some (i, v), some (j, u) => i = j ∧ VR φ v u
  | _, _ => False
theorem keyEq_ok {t : TypeId} {x y x' y' : Value} {r : Bool} (hx : VR φ x x') (hy : VR φ y y') (h : keyEq P t x y = some r) :
    x' = x ∧ y' = y ∧ ∀ w, (Op.equal t x' y').run P w = .ok r w := by
  unfold keyEq at h
  obtain ⟨hb, h⟩ := bif_some h
  simp only [Bool.and_eq_true] at hb
  have e1 := hx.inj_bare 20 hb.1
  have e2 := hy.inj_bare 20 hb.2
  subst e1; subst e2
  exact ⟨rfl, rfl, pureRun_sound _ h⟩
theorem sameNow_equal {d : TypeDesc} {t : TypeId} {x y : Value} {b : Bool} (ht : P.underlying t = some d) (h : Instr.sameNow d x y = some b) (w : World) : (Op.equal t x y).run P w = .ok b w := by
  unfold Instr.sameNow at h
  rw [equal_unfold, Op.equalIn]
  simp only [Sem.run_bind, und_run ht, Result.andThen_ok]
  split at h <;> try (cases h; done)
  · split at h
    · rename_i hk
      simp only [Option.some.injEq] at h; subst h
      simp only [hk, if_true, Sem.run_pure]
    · cases h
  · simp only [Option.some.injEq] at h; subst h; rfl
  · simp only [Option.some.injEq] at h; subst h; rfl
theorem findK_ok {t : TypeId} {k k' : Value} (hk : VR φ k k') : ∀ (es es' : List MapEntry) (i : Nat) {r : Option (Nat × Value)}, ER φ es es' → findK P t k es i = some r →
    (∃ r', (∀ w, (Instr.findAsking t k' es' i).run P w = .ok r' w) ∧ KR φ r r') ∧ (∀ d r'', P.underlying t = some d → Instr.findNow d k' es' i = some r'' → KR φ r r'') := by
  intro es
  induction es with
  | nil =>
    intro es' i r he h
    rw [he.nil_inv]
    simp only [findK, Option.some.injEq] at h; subst h
    refine ⟨⟨none, fun w => rfl, trivial⟩, fun d r'' _ hn => ?_⟩
    simp only [Instr.findNow, Option.some.injEq] at hn; subst hn; trivial
  | cons x l ih =>
    intro es' i r he h
    obtain ⟨x', l', rfl, r1, r2, r3, r4⟩ := he.cons_inv
    simp only [findK] at h
    cases hq : keyEq P t k x.key with
    | none => rw [hq] at h; cases h
    | some q =>
    rw [hq] at h
    obtain ⟨ek, ex, hrun⟩ := keyEq_ok hk r1 hq
    have agree : ∀ d b, P.underlying t = some d → Instr.sameNow d k' x'.key = some b → b = q := fun d b hd hs => by
      have h1 := sameNow_equal hd hs default
      rw [hrun default] at h1
      simpa using h1.symm
    cases q with
    | true =>
      simp only [Option.some.injEq] at h; subst h
      refine ⟨⟨some (i, x'.val), fun w => ?_, rfl, r2⟩, fun d r'' hd hn => ?_⟩
      · simp only [Instr.findAsking, Sem.run_bind, hrun w, Result.andThen_ok, if_true, Sem.run_pure]
      · simp only [Instr.findNow] at hn
        cases hs : Instr.sameNow d k' x'.key with
        | none => rw [hs] at hn; cases hn
        | some b =>
          have := agree d b hd hs; subst this
          rw [hs] at hn
          simp only [Option.some.injEq] at hn; subst hn
          exact ⟨rfl, r2⟩
    | false =>
      simp only at h
      obtain ⟨⟨r', h1, h2⟩, h3⟩ := ih l' (i + 1) r4 h
      refine ⟨⟨r', fun w => ?_, h2⟩, fun d r'' hd hn => ?_⟩
      · simp only [Instr.findAsking, Sem.run_bind, hrun w, Result.andThen_ok, Bool.false_eq_true, if_false, h1 w]
      · simp only [Instr.findNow] at hn
        cases hs : Instr.sameNow d k' x'.key with
        | none => rw [hs] at hn; cases hn
        | some b =>
          have := agree d b hd hs; subst this
          rw [hs] at hn
          exact h3 d r'' hd hn
theorem findKey_ok {t : TypeId} {d : TypeDesc} {k k' : Value} {es es' : List MapEntry} {r : Option (Nat × Value)} (ht : P.underlying t = some d) (hk : VR φ k k') (he : ER φ es es')
    (h : findK P t k es 0 = some r) : ∃ r', (∀ w, (Instr.findKey t k' es').run P w = .ok r' w) ∧ KR φ r r' := by
  obtain ⟨⟨r', h1, h2⟩, h3⟩ := findK_ok hk es es' 0 he h
  cases hn : Instr.findNow d k' es' 0 with
  | none => exact ⟨r', fun w => by simp only [Instr.findKey, Sem.run_bind, und_run ht, Result.andThen_ok, hn, h1 w], h2⟩
  | some r'' => exact ⟨r'', fun w => by simp only [Instr.findKey, Sem.run_bind, und_run ht, Result.andThen_ok, hn, Sem.run_pure], h3 d r'' ht hn⟩
/-- A key that has been looked for names no block, or there was nothing to hold it against. -/
theorem checkKey_ok {e : Bool} {t : TypeId} {k : Value} {n : Nat} (h : pureRun P (Instr.checkKey e n t k) = some ()) (w : World) : (Instr.checkKey e n t k).run P w = .ok () w := pureRun_sound _ h w

theorem keyOk_ok {e : Bool} {t : TypeId} {k k' : Value} (hk : VR φ k k') (h : keyOk P e t k = true) : k' = k ∧ ∀ w, (Instr.checkKey e 10000 t k').run P w = .ok () w := by
  unfold keyOk at h
  simp only [Bool.and_eq_true] at h
  have e1 := hk.inj_bare 20 h.1
  subst e1
  refine ⟨rfl, fun w => ?_⟩
  cases hc : pureRun P (Instr.checkKey e 10000 t k') with
  | none => rw [hc] at h; cases h.2
  | some u => exact pureRun_sound _ hc w
theorem bytesL_ok : ∀ (l : List Value) (r : List UInt8), bytesL l = some r → ∃ ns : List Int, l = ns.map (Value.int .u8) ∧ r = ns.map fun n => UInt8.ofNat n.toNat
  | [], r, h => by simp only [bytesL, Option.some.injEq] at h; subst h; exact ⟨[], rfl, rfl⟩
  | v :: l, r, h => by
    have hv : ∃ n, v = .int .u8 n := by
      cases v with
      | int k n => cases k <;> first | exact ⟨n, rfl⟩ | (simp [bytesL] at h; done)
      | _ => simp [bytesL] at h
    obtain ⟨n, rfl⟩ := hv
    simp only [bytesL] at h
    cases hl : bytesL l with
    | none => rw [hl] at h; cases h
    | some r' =>
      rw [hl] at h
      simp only [Option.some.injEq] at h; subst h
      obtain ⟨ns, e1, e2⟩ := bytesL_ok l r' hl
      exact ⟨n :: ns, by simp [e1], by simp [e2]⟩
theorem LR.ints {ns : List Int} : ∀ {l : List Value}, LR φ (ns.map (Value.int .u8)) l → l = ns.map (Value.int .u8) := by
  induction ns with
  | nil => intro l h; exact h.nil_inv
  | cons n ns ih =>
    intro l h
    obtain ⟨v', l', rfl, hv, hl⟩ := LR.cons_inv h
    rw [hv.int_inv, ih hl]; rfl
theorem foldl_push (ns : List Int) : ∀ (s : ByteArray), ns.foldl (fun r n => r.push (UInt8.ofNat n.toNat)) s = ⟨s.data ++ (ns.map fun n => UInt8.ofNat n.toNat).toArray⟩ := by
  induction ns with
  | nil => intro s; simp
  | cons n ns ih =>
    intro s
    rw [List.foldl_cons, ih]
    apply ByteArray.ext
    simp [ByteArray.push]

end Go.Vi
