/-
  Regions that draw their order: the state behind any number of operations, in whatever order.
-/
import Derived.Test.YtabpbpdhapaffaaGreatDoorVi19
set_option linter.unusedSimpArgs false
set_option linter.unusedVariables false
namespace Go.Vi
variable {P : Program} {L : Lev} {n : Nat} {ops : Array Oper} {ds : List Nat} {ss : List Seen} {lh : AHeap} {lt : T Value}

/-- What is known of the walk of the text's order. -/
structure DrOk (P : Program) (L : Lev) (n : Nat) (ops : Array Oper) (ds : List Nat) (ss : List Seen) (lh : AHeap) (lt : T Value) : Prop where
  len : ss.length = ops.size
  step : ∀ i o s, ops[i]? = some o → ss[i]? = some s → operS P L ops o ⟨s.tm, ds, s.h⟩ = some (s.k, s.v, hAt ss lh (i + 1)) ∧ putT n s.tm o.dst s.v = some (tmAt ss lt (i + 1))
  gl0 : (hAt ss lh 0).gl ≤ (hAt ss lh 0).next
  nxt : ∀ i, i < ops.size → (hAt ss lh i).next ≤ (hAt ss lh (i + 1)).next
  gl : ∀ i, i < ops.size → (hAt ss lh i).gl = (hAt ss lh (i + 1)).gl
  eff : ∀ j, isE (kAt ss j) = true → ∀ i, i < j → (isE (kAt ss i) = true ∨ isA (kAt ss i) = true) → Reach ops i j
  read : ∀ i o s, ops[i]? = some o → ss[i]? = some s → isR s.k = true → lowV 20 s.h.next s.v = true ∧ ∀ m, (m = 0 ∨ ∃ e, isE (kAt ss e) = true ∧ m = e + 1) →
    (∃ j, isE (kAt ss j) = true ∧ ((j < m ∧ Reach ops i j) ∨ (m ≤ j ∧ Reach ops j i))) ∨ readOp P (hAt ss lh m) (aEval (hAt ss lh m).gl s.tm) o = some s.v
  edges : ∀ j o, ops[j]? = some o → ∀ e ∈ o.after.toList, Region.binds .any e = true → e.on < j
  slots : ∀ i j o oi d, ops[j]? = some o → ops[i]? = some oi → oi.dst = some d → d ∈ namesOf ops o → i ≠ j → (i < j ∧ Reach ops i j) ∨ (j < i ∧ Reach ops j i)

theorem kAt_lt {ss : List Seen} {i : Nat} {f : Option Kind → Bool} (hf : f none = false) (h : f (kAt ss i) = true) : i < ss.length := by
  rcases Nat.lt_or_ge i ss.length with h' | h'
  · exact h'
  · unfold kAt at h; rw [List.getElem?_eq_none h'] at h; simp only at h; rw [hf] at h; cases h
theorem kAt_eq {ss : List Seen} {i : Nat} {s : Seen} (h : ss[i]? = some s) : kAt ss i = s.k := by unfold kAt; rw [h]
theorem hAt_eq {ss : List Seen} {lh : AHeap} {i : Nat} {s : Seen} (h : ss[i]? = some s) : hAt ss lh i = s.h := by unfold hAt; rw [h]
theorem tmAt_eq {ss : List Seen} {lt : T Value} {i : Nat} {s : Seen} (h : ss[i]? = some s) : tmAt ss lt i = s.tm := by unfold tmAt; rw [h]

theorem drawOk_spec (h : drawOk P ops ss lh = true) (hlen : ss.length = ops.size)
    (hstep : ∀ i o s, ops[i]? = some o → ss[i]? = some s → operS P L ops o ⟨s.tm, ds, s.h⟩ = some (s.k, s.v, hAt ss lh (i + 1)) ∧ putT n s.tm o.dst s.v = some (tmAt ss lt (i + 1))) : DrOk P L n ops ds ss lh lt := by
  unfold drawOk drawStat slotsOk drawDyn at h
  simp only [Bool.and_eq_true, List.all_eq_true] at h
  obtain ⟨h1, ⟨⟨h2, h3⟩, h4⟩, h5⟩ := h
  have heff : ∀ j, isE (kAt ss j) = true → j ∈ effsOf ops.size ss := fun j hj => by
    unfold effsOf
    rw [List.mem_filter]
    exact ⟨List.mem_range.2 (hlen ▸ kAt_lt rfl hj), hj⟩
  have heff' : ∀ j, j ∈ effsOf ops.size ss → isE (kAt ss j) = true := fun j hj => by
    unfold effsOf at hj
    exact (List.mem_filter.1 hj).2
  have hops : ∀ {j o}, ops[j]? = some o → j ∈ List.range ops.size := fun {j o} h => List.mem_range.2 (Array.getElem?_eq_some_iff.1 h).1
  refine ⟨hlen, hstep, Nat.le_of_ble_eq_true h2, ?_, ?_, ?_, ?_, ?_, ?_⟩
  · intro i hi
    have := h3 i (List.mem_range.2 hi)
    exact Nat.le_of_ble_eq_true this.1
  · intro i hi
    have := h3 i (List.mem_range.2 hi)
    exact beq_true this.2
  · intro j hj i hij hi
    have := h4 j (heff j hj) i (List.mem_range.2 hij)
    simp only [Bool.or_eq_true, Bool.not_eq_true', Bool.or_eq_false_iff] at this
    rcases this with ⟨k1, k2⟩ | hw
    · rcases hi with hi | hi
      · rw [k1] at hi; cases hi
      · rw [k2] at hi; cases hi
    · exact waits_ok hw
  · intro i o s ho hs hr
    have := h5 i (hops ho)
    rw [ho, hs, kAt_eq hs, hr] at this
    simp only [Bool.not_true, Bool.false_or, Bool.and_eq_true, List.all_eq_true] at this
    refine ⟨this.1, fun m hm => ?_⟩
    have hm' : m ∈ 0 :: (effsOf ops.size ss).map (· + 1) := by
      rcases hm with rfl | ⟨e, he, rfl⟩
      · simp
      · simp only [List.mem_cons, List.mem_map]; exact .inr ⟨e, heff e he, rfl⟩
    have := this.2 m hm'
    unfold readAt at this
    simp only [Bool.or_eq_true, List.any_eq_true] at this
    rcases this with ⟨j, hj, hw⟩ | hread
    · refine .inl ⟨j, heff' j hj, ?_⟩
      cases hb : Nat.blt j m with
      | true => rw [hb, cond_true] at hw; exact .inl ⟨Nat.le_of_ble_eq_true hb, waits_ok hw⟩
      | false =>
        rw [hb, cond_false] at hw
        refine .inr ⟨?_, waits_ok hw⟩
        rcases Nat.lt_or_ge j m with hlt | hge
        · have : Nat.blt j m = true := Nat.ble_eq_true_of_le hlt
          rw [this] at hb; cases hb
        · exact hge
    · refine .inr ?_
      cases hrr : readOp P (hAt ss lh m) (aEval (hAt ss lh m).gl s.tm) o with
      | none => rw [hrr] at hread; cases hread
      | some v => rw [hrr] at hread; rw [sameV_ok 20 v s.v hread]
  · intro j o ho e he hb
    have := h1 j (hops ho)
    rw [ho] at this
    simp only [Bool.and_eq_true, List.all_eq_true] at this
    have := this.1 e he
    rw [hb] at this
    simp only [Bool.not_true, Bool.false_or] at this
    exact Nat.le_of_ble_eq_true this
  · intro i j o oi d ho hoi hd hn hij
    have := h1 j (hops ho)
    rw [ho] at this
    simp only [Bool.and_eq_true, List.all_eq_true] at this
    have := this.2 i (hops hoi)
    rw [hoi] at this
    simp only [Option.bind_some, hd, Bool.or_eq_true, Bool.not_eq_true'] at this
    rcases this with hb | hno | hw
    · exact absurd (beq_true hb) hij
    · exfalso
      have : (namesOf ops o).any (Nat.beq d) = true := List.any_eq_true.2 ⟨d, hn, Nat.beq_refl _⟩
      rw [this] at hno; cases hno
    · cases hb : Nat.blt i j with
      | true => rw [hb, cond_true] at hw; exact .inl ⟨Nat.le_of_ble_eq_true hb, waits_ok hw⟩
      | false =>
        rw [hb, cond_false] at hw
        refine .inr ⟨?_, waits_ok hw⟩
        rcases Nat.lt_or_ge i j with hlt | hge
        · have : Nat.blt i j = true := Nat.ble_eq_true_of_le hlt
          rw [this] at hb; cases hb
        · omega

section
variable (hD : DrOk P L n ops ds ss lh lt)
include hD
theorem DrOk.nx_le {i j : Nat} (hij : i ≤ j) (hj : j ≤ ops.size) : (hAt ss lh i).next ≤ (hAt ss lh j).next := by
  induction j with
  | zero => have : i = 0 := by omega
            subst this; exact Nat.le_refl _
  | succ j ih =>
    rcases Nat.lt_or_ge i (j + 1) with h | h
    · exact Nat.le_trans (ih (by omega) (by omega)) (hD.nxt j (by omega))
    · have : i = j + 1 := by omega
      subst this; exact Nat.le_refl _
theorem DrOk.gl_eq {j : Nat} (hj : j ≤ ops.size) : (hAt ss lh j).gl = (hAt ss lh 0).gl := by
  induction j with
  | zero => rfl
  | succ j ih => rw [← hD.gl j (by omega)]; exact ih (by omega)
theorem DrOk.at_ {i : Nat} (hi : i < ops.size) : ∃ o s, ops[i]? = some o ∧ ss[i]? = some s := by
  have h2 : i < ss.length := hD.len ▸ hi
  exact ⟨ops[i], ss[i], Array.getElem?_eq_getElem hi, List.getElem?_eq_getElem h2⟩
/-- Where nothing is written and nothing made, the heap stays as it is. -/
theorem DrOk.quiet {i : Nat} (hi : i < ops.size) (he : isE (kAt ss i) = false) (ha : isA (kAt ss i) = false) : hAt ss lh (i + 1) = hAt ss lh i := by
  obtain ⟨o, s, ho, hs⟩ := hD.at_ hi
  have h1 := (hD.step i o s ho hs).1
  rw [kAt_eq hs] at he ha
  rw [hAt_eq (lh := lh) hs]
  rcases operS_inv h1 with ⟨_, _, _, h⟩ | ⟨_, _, _, ⟨_, _, h⟩ | ⟨_, _, h⟩ | ⟨hk, _⟩ | hk⟩
  · exact h
  · exact h
  · exact h
  · rw [hk] at ha; cases ha
  · rw [hk] at he; cases he
theorem DrOk.allocs {i : Nat} (ha : isA (kAt ss i) = true) : (hAt ss lh (i + 1)).next = (hAt ss lh i).next + 1 := by
  have hi : i < ops.size := hD.len ▸ kAt_lt rfl ha
  obtain ⟨o, s, ho, hs⟩ := hD.at_ hi
  have h1 := (hD.step i o s ho hs).1
  rw [kAt_eq hs] at ha
  rw [hAt_eq (lh := lh) hs]
  rcases operS_inv h1 with ⟨_, hk, _, h⟩ | ⟨_, _, _, ⟨hk, _, h⟩ | ⟨hk, _, h⟩ | ⟨hk, ob, kv, _, _, h⟩ | hk⟩
  · rw [hk] at ha; cases ha
  · rw [hk] at ha; cases ha
  · rw [hk] at ha; cases ha
  · rw [h]; rfl
  · rw [hk] at ha; cases ha
end

/-- Listed. -/
def Li (l : Array Bool) (i : Nat) : Prop := l.getD i false = true
theorem li_set {l : Array Bool} {i j : Nat} (hj : j < l.size) : Li (l.setIfInBounds j true) i ↔ Li l i ∨ i = j := by
  unfold Li
  rw [Array.getD_eq_getD_getElem?, Array.getD_eq_getD_getElem?, Array.getElem?_setIfInBounds]
  by_cases h : j = i
  · subst h; simp [hj]
  · rw [if_neg h]
    constructor
    · exact .inl
    · rintro (h' | h')
      · exact h'
      · exact absurd h'.symm h
/-- Writes a slot. -/
def Wr (ops : Array Oper) (i t : Nat) : Prop := ∃ o, ops[i]? = some o ∧ o.dst = some t

/-- A block made ahead of its turn. -/
def AllocAt (ss : List Seen) (lh : AHeap) (w0 : World) (ψ : Ren) (w : World) (i : Nat) : Prop :=
  ∃ ob b o', hAt ss lh (i + 1) = (hAt ss lh i).new ob ∧ ψ (hAt ss lh i).next = some b ∧ w.heap[b]? = some o' ∧ OR (ψ.cut (hAt ss lh i).next) ob o' ∧ CapOf (ψ.k b) ob o' ∧
    (∀ j, ψ j = some b → j = (hAt ss lh i).next) ∧ w0.heap.size ≤ b
/-- Memory: all that was written up to place m, and blocks made ahead of their turn. -/
structure HeapAt (ops : Array Oper) (ss : List Seen) (lh : AHeap) (φ0 : Ren) (w0 : World) (ψ : Ren) (l : Array Bool) (w : World) (m : Nat) : Prop where
  le : m ≤ ops.size
  head : m = 0 ∨ ∃ e, isE (kAt ss e) = true ∧ m = e + 1
  done : ∀ i, i < m → (isE (kAt ss i) = true ∨ isA (kAt ss i) = true) → Li l i
  rest : ∀ i, m ≤ i → isE (kAt ss i) = true → ¬ Li l i
  hr : HR (ψ.cut (hAt ss lh m).next) (hAt ss lh m) w
  goes : Goes φ0 (hAt ss lh 0) w0 (ψ.cut (hAt ss lh m).next) (hAt ss lh m) w
  ahead : ∀ i, m ≤ i → isA (kAt ss i) = true → Li l i → AllocAt ss lh w0 ψ w i
  names : ∀ q b, ψ q = some b → q < (hAt ss lh m).next ∨ ∃ i, m ≤ i ∧ isA (kAt ss i) = true ∧ Li l i ∧ q = (hAt ss lh i).next
structure Inv (ops : Array Oper) (n : Nat) (ds : List Nat) (ss : List Seen) (lh : AHeap) (lt : T Value) (φ0 : Ren) (w0 : World) (ψ : Ren) (l : Array Bool) (a : Act) (w : World) : Prop where
  sz : l.size = ops.size
  cl : ∀ i j, Reach ops i j → Li l j → Li l i
  asz : a.tmps.size = n
  ads : DR (ψ.cut (hAt ss lh 0).next) ds a.defers
  rng : ∀ i b, ψ i = some b → b < w.heap.size
  slots : ∀ t m, m ≤ ops.size → (∀ i, i < m → Wr ops i t → Li l i) → (∀ i, m ≤ i → Wr ops i t → ¬ Li l i) → VR (ψ.cut (hAt ss lh m).next) (((tmAt ss lt m).get t).getD Go.undef) (a.tmps.getD t Go.undef)
  heap : ∃ m, HeapAt ops ss lh φ0 w0 ψ l w m

section
variable {φ0 ψ : Ren} {w0 w : World} {l : Array Bool} {a : Act}
/-- From place m on to a later one, by the blocks made ahead. -/
theorem HeapAt.climb (hD : DrOk P L n ops ds ss lh lt) {m : Nat} (h : HeapAt ops ss lh φ0 w0 ψ l w m) (hrng : ∀ i b, ψ i = some b → b < w.heap.size) : ∀ (j : Nat), m ≤ j → j ≤ ops.size → (∀ i, m ≤ i → i < j → isE (kAt ss i) = false) → (∀ i, m ≤ i → i < j → isA (kAt ss i) = true → Li l i) →
    HR (ψ.cut (hAt ss lh j).next) (hAt ss lh j) w ∧ Goes φ0 (hAt ss lh 0) w0 (ψ.cut (hAt ss lh j).next) (hAt ss lh j) w := by
  intro j
  induction j with
  | zero =>
    intro hm _ _ _
    have : m = 0 := by omega
    subst this; exact ⟨h.hr, h.goes⟩
  | succ j ih =>
    intro hm hj he ha
    rcases Nat.lt_or_ge m (j + 1) with hlt | hge
    · obtain ⟨h1, h2⟩ := ih (by omega) (by omega) (fun i h1 h2 => he i h1 (by omega)) (fun i h1 h2 => ha i h1 (by omega))
      cases hA : isA (kAt ss j) with
      | false =>
        rw [hD.quiet (by omega) (he j (by omega) (by omega)) hA]
        exact ⟨h1, h2⟩
      | true =>
        obtain ⟨ob, b, o', e1, e2, e3, e4, e5, e6, e7⟩ := h.ahead j (by omega) hA (ha j (by omega) (by omega) hA)
        have := adopt h1 e2 e3 e4 e5 e6 hrng h2 e7
        rw [e1]
        exact this
    · have : m = j + 1 := by omega
      subst this; exact ⟨h.hr, h.goes⟩

theorem reach_ready {j : Nat} {o : Oper} (ho : ops[j]? = some o) (hcl : ∀ i j, Reach ops i j → Li l j → Li l i) (hr : ∀ e ∈ o.after.toList, Region.binds .any e = true → Li l e.on) : ∀ {i : Nat}, Reach ops i j → Li l i := by
  intro i h
  generalize hj : j = j' at h
  induction h with
  | edge ho' he hb =>
    subst hj
    rw [ho] at ho'; cases ho'
    exact hr _ he hb
  | trans h1 h2 _ ih2 => exact hcl _ _ h1 (ih2 hj)
theorem ready_spec {j : Nat} (hj : j ∈ Region.ready .any ops l) : j < ops.size ∧ ¬ Li l j ∧ ∃ o, ops[j]? = some o ∧ ∀ e ∈ o.after.toList, Region.binds .any e = true → Li l e.on := by
  unfold Region.ready at hj
  rw [List.mem_filter, List.mem_range, Bool.and_eq_true] at hj
  obtain ⟨h1, h2, h3⟩ := hj
  refine ⟨h1, ?_, ops[j], Array.getElem?_eq_getElem h1, ?_⟩
  · intro h
    unfold Li at h
    rw [Array.getD_eq_getD_getElem?] at h h2
    cases hx : l[j]? with
    | none => rw [hx] at h; cases h
    | some b => rw [hx] at h h2; simp only [Option.getD_some] at h h2; rw [h] at h2; cases h2
  · intro e he hb
    rw [Array.getElem?_eq_getElem h1] at h3
    simp only [Option.map_some, Option.getD_some] at h3
    rw [← Array.all_toList, List.all_eq_true] at h3
    have := h3 e he
    rw [hb] at this
    simpa [Li] using this
end
end Go.Vi
