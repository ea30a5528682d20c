/-
  Regions that draw their order: one operation, whichever comes up.
-/
import Derived.Test.YtabpbpdhapaffaaGreatDoorVi20
set_option linter.unusedSimpArgs false
set_option linter.unusedVariables false
namespace Go.Vi
variable {P : Program} {L : Lev} {n : Nat} {ops : Array Oper} {ds : List Nat} {ss : List Seen} {lh : AHeap} {lt : T Value}
variable {φ0 ψ : Ren} {w0 w : World} {l : Array Bool} {a : Act}

theorem yielded_at {φ : Ren} {tm : T Value} {tmps : Array Value} (ops : Array Oper) (j : Nat) (h : ∀ d, (ops[j]?).bind (·.dst) = some d → VR φ ((tm.get d).getD Go.undef) (tmps.getD d Go.undef)) : yielded ops tmps j = aYielded ops tm j := by
  unfold yielded aYielded
  cases hd : (ops[j]?).bind (·.dst) with
  | none => rfl
  | some d =>
    simp only [Option.bind_some]
    have ht := h d hd
    cases hg : tm.get d with
    | none =>
      rw [hg] at ht
      simp only [Option.getD_none] at ht
      cases hx : tmps[d]? with
      | none => rfl
      | some x =>
        have e : tmps.getD d Go.undef = x := by rw [Array.getD_eq_getD_getElem?, hx]; rfl
        rw [e] at ht
        cases x <;> first | rfl | (cases ht; done)
    | some y =>
      rw [hg] at ht
      simp only [Option.getD_some] at ht
      cases hx : tmps[d]? with
      | none =>
        have e : tmps.getD d Go.undef = Go.undef := by rw [Array.getD_eq_getD_getElem?, hx]; rfl
        rw [e] at ht
        cases y <;> first | rfl | (cases ht; done)
      | some x =>
        have e : tmps.getD d Go.undef = x := by rw [Array.getD_eq_getD_getElem?, hx]; rfl
        rw [e] at ht
        cases ht <;> rfl

/-- What is so of an operation that may come up. -/
structure Up (ops : Array Oper) (ss : List Seen) (l : Array Bool) (j : Nat) (o : Oper) (s : Seen) : Prop where
  lt : j < ops.size
  ho : ops[j]? = some o
  hs : ss[j]? = some s
  not : ¬ Li l j
  reach : ∀ i, Reach ops i j → Li l i

theorem Inv.up (hD : DrOk P L n ops ds ss lh lt) (hI : Inv ops n ds ss lh lt φ0 w0 ψ l a w) {j : Nat} (hj : j ∈ Region.ready .any ops l) : ∃ o s, Up ops ss l j o s := by
  obtain ⟨h1, h2, o, ho, h3⟩ := ready_spec hj
  obtain ⟨o', s, ho', hs⟩ := hD.at_ h1
  rw [ho] at ho'; cases ho'
  exact ⟨o, s, h1, ho, hs, h2, fun i hi => reach_ready ho hI.cl h3 hi⟩

section
variable {j : Nat} {o : Oper} {s : Seen}
theorem Inv.names_ok (hD : DrOk P L n ops ds ss lh lt) (hI : Inv ops n ds ss lh lt φ0 w0 ψ l a w) (hU : Up ops ss l j o s) {t : Tmp} (ht : t ∈ namesOf ops o) : VR (ψ.cut s.h.next) ((s.tm.get t).getD Go.undef) (a.tmps.getD t Go.undef) := by
  have h := hI.slots t j (Nat.le_of_lt hU.lt) ?_ ?_
  · rw [tmAt_eq hU.hs, hAt_eq hU.hs] at h; exact h
  · rintro i hij ⟨oi, hoi, hd⟩
    rcases hD.slots i j o oi t hU.ho hoi hd ht (by omega) with ⟨_, h⟩ | ⟨h, _⟩
    · exact hU.reach i h
    · omega
  · rintro i hij ⟨oi, hoi, hd⟩ hl
    by_cases hij' : i = j
    · subst hij'; exact hU.not hl
    · rcases hD.slots i j o oi t hU.ho hoi hd ht hij' with ⟨h, _⟩ | ⟨_, h⟩
      · omega
      · exact hU.not (hI.cl j i h hl)
theorem Inv.glob (hD : DrOk P L n ops ds ss lh lt) (hI : Inv ops n ds ss lh lt φ0 w0 ψ l a w) {g : Nat} (hg : g < (hAt ss lh 0).gl) : ψ g = some g := by
  obtain ⟨m, hm⟩ := hI.heap
  have := hm.hr.glob g (by rw [hD.gl_eq hm.le]; exact hg)
  exact (Ren.cut_some this).2
theorem Inv.operand_ok (hD : DrOk P L n ops ds ss lh lt) (hI : Inv ops n ds ss lh lt φ0 w0 ψ l a w) (hU : Up ops ss l j o s) : ∀ x ∈ o.op.operands, okOperand s.h.gl x = true → VR (ψ.cut s.h.next) (aEval s.h.gl s.tm x) (a.eval x) := by
  intro x hx hok
  cases x with
  | tmp t =>
    refine hI.names_ok hD hU ?_
    unfold namesOf tmpsOf
    rw [List.mem_append, List.mem_append]
    exact .inr (.inl (List.mem_filterMap.2 ⟨.tmp t, by simpa using hx, rfl⟩))
  | const v => exact bare_spec 20 v hok
  | global g =>
    have hb : Nat.blt g s.h.gl = true := hok
    have hlt : g < s.h.gl := Nat.le_of_ble_eq_true hb
    simp only [aEval, hb, cond_true, Act.eval]
    have e : s.h.gl = (hAt ss lh 0).gl := by rw [← hD.gl_eq (Nat.le_of_lt hU.lt), hAt_eq hU.hs]
    refine .ptr ?_
    have h1 := hD.nx_le (Nat.zero_le j) (Nat.le_of_lt hU.lt)
    rw [hAt_eq hU.hs] at h1
    have h2 := hD.gl0
    rw [Ren.cut_get _ (by omega)]
    exact hI.glob hD (by omega)
  | func f => exact VR.func' (.func f) (LR.nil _) (LR.nil _)
theorem Inv.wanted_ok (hD : DrOk P L n ops ds ss lh lt) (hI : Inv ops n ds ss lh lt φ0 w0 ψ l a w) (hU : Up ops ss l j o s) : Region.wanted o (yielded ops a.tmps) = Region.wanted o (aYielded ops s.tm) := by
  unfold Region.wanted
  cases hg : o.guard with
  | none => rfl
  | some q =>
    obtain ⟨g, want⟩ := q
    simp only
    rw [yielded_at (φ := ψ.cut s.h.next) (tm := s.tm) ops g]
    intro d hd
    refine hI.names_ok hD hU ?_
    unfold namesOf guardT
    rw [hg, List.mem_append, List.mem_append]
    simp only [hd, List.mem_singleton]
    exact .inr (.inr trivial)

/-- Slots, one operation on. -/
theorem tm_same (hD : DrOk P L n ops ds ss lh lt) {t i : Nat} : ∀ (m : Nat), i ≤ m → m ≤ ops.size → (∀ k, i ≤ k → k < m → ¬ Wr ops k t) → (tmAt ss lt m).get t = (tmAt ss lt i).get t := by
  intro m
  induction m with
  | zero => intro h _ _; have : i = 0 := by omega
            subst this; rfl
  | succ m ih =>
    intro h hm hw
    rcases Nat.lt_or_ge i (m + 1) with hlt | hge
    · rw [← ih (by omega) (by omega) (fun k h1 h2 => hw k h1 (by omega))]
      obtain ⟨o, s, ho, hs⟩ := hD.at_ (i := m) (by omega)
      have hp := (hD.step m o s ho hs).2
      rw [tmAt_eq (lt := lt) hs]
      cases hd : o.dst with
      | none => rw [hd] at hp; simp only [putT, Option.some.injEq] at hp; rw [← hp]
      | some d =>
        rw [hd] at hp
        simp only [putT] at hp
        obtain ⟨_, hp⟩ := bif_some hp
        simp only [Option.some.injEq] at hp
        rw [← hp, T.get_put_ne]
        intro e
        subst e
        exact hw m (by omega) (by omega) ⟨o, ho, hd⟩
    · have : i = m + 1 := by omega
      subst this; rfl
theorem Inv.slots_put (hD : DrOk P L n ops ds ss lh lt) (hI : Inv ops n ds ss lh lt φ0 w0 ψ l a w) (hU : Up ops ss l j o s) {ψ' : Ren} (hle : ψ.le ψ') {v' : Value} (hv : VR (ψ'.cut (hAt ss lh (j + 1)).next) s.v v') :
    ∀ t m, m ≤ ops.size → (∀ i, i < m → Wr ops i t → Li (l.setIfInBounds j true) i) → (∀ i, m ≤ i → Wr ops i t → ¬ Li (l.setIfInBounds j true) i) →
      VR (ψ'.cut (hAt ss lh m).next) (((tmAt ss lt m).get t).getD Go.undef) ((a.put o.dst v').tmps.getD t Go.undef) := by
  intro t m hm hdone hrest
  have hset : ∀ i, Li (l.setIfInBounds j true) i ↔ Li l i ∨ i = j := fun i => li_set (by rw [hI.sz]; exact hU.lt)
  by_cases hd : o.dst = some t
  · have hjm : j < m := by
      rcases Nat.lt_or_ge j m with h | h
      · exact h
      · exact absurd ((hset j).2 (.inr rfl)) (hrest j h ⟨o, hU.ho, hd⟩)
    have hno : ∀ k, j + 1 ≤ k → k < m → ¬ Wr ops k t := by
      rintro k hk1 hk2 ⟨ok, hok, hdk⟩
      have hl := (hset k).1 (hdone k hk2 ⟨ok, hok, hdk⟩)
      have hl : Li l k := hl.resolve_right (by omega)
      rcases hD.slots j k ok o t hok hU.ho hd (by unfold namesOf; rw [hdk]; simp) (by omega) with ⟨_, h⟩ | ⟨h, _⟩
      · exact hU.not (hI.cl j k h hl)
      · omega
    have hp := (hD.step j o s hU.ho hU.hs).2
    rw [hd] at hp
    simp only [putT] at hp
    obtain ⟨hlt, hp⟩ := bif_some hp
    have hlt : t < n := Nat.le_of_ble_eq_true hlt
    simp only [Option.some.injEq] at hp
    rw [tm_same hD m (by omega) hm hno, ← hp, T.get_put_same, hd]
    simp only [Option.getD_some, Act.put]
    rw [Array.getD_eq_getD_getElem?, Array.getElem?_setIfInBounds, if_pos rfl, if_pos (by rw [hI.asz]; exact hlt)]
    exact hv.mono (Ren.cut_mono ψ' (hD.nx_le (by omega) hm))
  · have hnw : ¬ Wr ops j t := by
      rintro ⟨o', ho', hd'⟩
      rw [hU.ho] at ho'; cases ho'
      exact hd hd'
    have h := hI.slots t m hm (fun i hi hw => ((hset i).1 (hdone i hi hw)).resolve_right (fun e => hnw (e ▸ hw))) (fun i hi hw hl => hrest i hi hw ((hset i).2 (.inl hl)))
    have e : (a.put o.dst v').tmps.getD t Go.undef = a.tmps.getD t Go.undef := by
      cases hdd : o.dst with
      | none => rfl
      | some d =>
        simp only [Act.put]
        rw [Array.getD_eq_getD_getElem?, Array.getElem?_setIfInBounds, if_neg (fun e => hd (by rw [hdd, e])), ← Array.getD_eq_getD_getElem?]
    rw [e]
    exact h.mono (Ren.cut_le_cut hle _)
theorem Inv.cl_set (hI : Inv ops n ds ss lh lt φ0 w0 ψ l a w) (hU : Up ops ss l j o s) : ∀ i k, Reach ops i k → Li (l.setIfInBounds j true) k → Li (l.setIfInBounds j true) i := by
  have hset : ∀ i, Li (l.setIfInBounds j true) i ↔ Li l i ∨ i = j := fun i => li_set (by rw [hI.sz]; exact hU.lt)
  intro i k hr hk
  rcases (hset k).1 hk with h | rfl
  · exact (hset i).2 (.inl (hI.cl i k hr h))
  · exact (hset i).2 (.inl (hU.reach i hr))

/-- An operation that leaves memory as it is. -/
theorem Inv.quiet (hD : DrOk P L n ops ds ss lh lt) (hI : Inv ops n ds ss lh lt φ0 w0 ψ l a w) (hU : Up ops ss l j o s) (he : isE s.k = false) (ha : isA s.k = false) {v' : Value} (hv : VR (ψ.cut s.h.next) s.v v') :
    Inv ops n ds ss lh lt φ0 w0 ψ (l.setIfInBounds j true) (a.put o.dst v') w := by
  have hset : ∀ i, Li (l.setIfInBounds j true) i ↔ Li l i ∨ i = j := fun i => li_set (by rw [hI.sz]; exact hU.lt)
  have hq := hD.quiet hU.lt (by rw [kAt_eq hU.hs]; exact he) (by rw [kAt_eq hU.hs]; exact ha)
  have hjE : ∀ i, isE (kAt ss i) = true → i ≠ j := fun i h e => by subst e; rw [kAt_eq hU.hs, he] at h; cases h
  have hjA : ∀ i, isA (kAt ss i) = true → i ≠ j := fun i h e => by subst e; rw [kAt_eq hU.hs, ha] at h; cases h
  refine ⟨by simp [hI.sz], hI.cl_set hU, by rw [put_size]; exact hI.asz, by rw [put_defers]; exact hI.ads, hI.rng, hI.slots_put hD hU (Ren.le_refl ψ) (by rw [hq, hAt_eq hU.hs]; exact hv), ?_⟩
  obtain ⟨m, hm⟩ := hI.heap
  exact ⟨m, hm.le, hm.head, fun i h1 h2 => (hset i).2 (.inl (hm.done i h1 h2)), fun i h1 h2 hl => ((hset i).1 hl).elim (hm.rest i h1 h2) (hjE i h2), hm.hr, hm.goes,
    fun i h1 h2 hl => hm.ahead i h1 h2 (((hset i).1 hl).resolve_right (hjA i h2)), fun q b hq => (hm.names q b hq).imp id (fun ⟨i, h1, h2, h3, h4⟩ => ⟨i, h1, h2, (hset i).2 (.inl h3), h4⟩)⟩
end
end Go.Vi
