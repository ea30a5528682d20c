/-
  Regions that draw their order: in whatever order, what the text's order does.
-/
import Derived.Test.YtabpbpdhapaffaaGreatDoorVi18
set_option linter.unusedSimpArgs false
set_option linter.unusedVariables false
namespace Go.Vi
variable {P : Program} {φ ψ χ : Ren} {H K : AHeap} {w : World}

/-! ### What one operation is -/
theorem operS_inv {L : Lev} {ops : Array Oper} {o : Oper} {st : St} {kk : Option Kind} {v : Value} (hx : operS P L ops o st = some (kk, v, K)) :
    (Region.wanted o (aYielded ops st.tm) = false ∧ kk = none ∧ v = Go.undef ∧ K = st.h) ∨
    (Region.wanted o (aYielded ops st.tm) = true ∧ (∀ x ∈ o.op.operands, okOperand st.h.gl x = true) ∧ (∀ c, o.op ≠ .defer c) ∧
      ((kk = some .pure ∧ pureOp P (aEval st.h.gl st.tm) o = some v ∧ K = st.h) ∨
       (kk = some .read ∧ readOp P st.h (aEval st.h.gl st.tm) o = some v ∧ K = st.h) ∨
       (kk = some .alloc ∧ ∃ ob kv, newOp P (aEval st.h.gl st.tm) o = some (ob, kv) ∧ v = kv.at st.h.next ∧ K = st.h.new ob) ∨
       kk = some .eff)) := by
  unfold operS at hx
  cases hwant : Region.wanted o (aYielded ops st.tm) with
  | false =>
    rw [hwant, cond_false] at hx
    simp only [Option.some.injEq, Prod.mk.injEq] at hx
    obtain ⟨rfl, rfl, rfl⟩ := hx
    exact .inl ⟨rfl, rfl, rfl, rfl⟩
  | true =>
    rw [hwant, cond_true] at hx
    obtain ⟨hok, hx⟩ := bif_some hx
    refine .inr ⟨rfl, fun x hx => List.all_eq_true.1 hok x (by simpa using hx), ?_⟩
    cases hop : aOper P st.h (aEval st.h.gl st.tm) o with
    | none => rw [hop] at hx; cases hx
    | some q =>
    obtain ⟨k, x, H1⟩ := q
    rw [hop] at hx
    refine ⟨not_defer hop, ?_⟩
    unfold aOper at hop
    cases h1 : pureOp P (aEval st.h.gl st.tm) o with
    | some u =>
      rw [h1] at hop
      simp only [Option.some.injEq, Prod.mk.injEq] at hop
      obtain ⟨rfl, rfl, rfl⟩ := hop
      simp only [Option.some.injEq, Prod.mk.injEq] at hx
      obtain ⟨rfl, rfl, rfl⟩ := hx
      exact .inl ⟨rfl, rfl, rfl⟩
    | none =>
    rw [h1] at hop
    simp only at hop
    cases h2 : readOp P st.h (aEval st.h.gl st.tm) o with
    | some u =>
      rw [h2] at hop
      simp only [Option.some.injEq, Prod.mk.injEq] at hop
      obtain ⟨rfl, rfl, rfl⟩ := hop
      simp only [Option.some.injEq, Prod.mk.injEq] at hx
      obtain ⟨rfl, rfl, rfl⟩ := hx
      exact .inr (.inl ⟨rfl, rfl, rfl⟩)
    | none =>
    rw [h2] at hop
    simp only at hop
    cases h3 : newOp P (aEval st.h.gl st.tm) o with
    | some u =>
      obtain ⟨ob, kv⟩ := u
      rw [h3] at hop
      simp only [Option.some.injEq, Prod.mk.injEq] at hop
      obtain ⟨rfl, rfl, rfl⟩ := hop
      simp only [Option.some.injEq, Prod.mk.injEq] at hx
      obtain ⟨rfl, rfl, rfl⟩ := hx
      exact .inr (.inr (.inl ⟨rfl, ob, kv, rfl, rfl, rfl⟩))
    | none =>
    rw [h3] at hop
    simp only at hop
    cases h4 : effOp P st.h (aEval st.h.gl st.tm) o with
    | none => rw [h4] at hop; cases hop
    | some u =>
    obtain ⟨y, K1⟩ := u
    rw [h4] at hop
    simp only [Option.some.injEq, Prod.mk.injEq] at hop
    obtain ⟨rfl, rfl, rfl⟩ := hop
    refine .inr (.inr (.inr ?_))
    cases y with
    | value u => simp only [Option.some.injEq, Prod.mk.injEq] at hx; exact hx.1.symm
    | skip => simp only [Option.some.injEq, Prod.mk.injEq] at hx; exact hx.1.symm
    | enter f args =>
      simp only at hx
      split at hx
      · simp only [Option.some.injEq, Prod.mk.injEq] at hx; exact hx.1.symm
      · cases hx
    | round l args =>
      simp only at hx
      split at hx
      · simp only [Option.some.injEq, Prod.mk.injEq] at hx; exact hx.1.symm
      · cases hx

/-! ### The walk of the text's order, place by place -/
def tmAt (ss : List Seen) (last : T Value) (m : Nat) : T Value := match ss[m]? with | some s => s.tm | none => last
theorem drawS_trail {L : Lev} {n : Nat} {ops : Array Oper} : ∀ (rest : List Oper) (st st' : St) (acc sn : List Seen), drawS P L n ops rest st acc = some (st', sn) →
    ∃ ss, sn = ss.reverse ++ acc ∧ ss.length = rest.length ∧ st'.ds = st.ds ∧ hAt ss st'.h 0 = st.h ∧ tmAt ss st'.tm 0 = st.tm ∧
      ∀ i o s, rest[i]? = some o → ss[i]? = some s → operS P L ops o ⟨s.tm, st.ds, s.h⟩ = some (s.k, s.v, hAt ss st'.h (i + 1)) ∧ putT n s.tm o.dst s.v = some (tmAt ss st'.tm (i + 1))
  | [], st, st', acc, sn, hx => by
    simp only [drawS, Option.some.injEq, Prod.mk.injEq] at hx
    obtain ⟨rfl, rfl⟩ := hx
    exact ⟨[], rfl, rfl, rfl, rfl, rfl, fun i o s h => by simp at h⟩
  | o :: rest, st, st', acc, sn, hx => by
    simp only [drawS] at hx
    cases hop : operS P L ops o st with
    | none => rw [hop] at hx; cases hx
    | some q =>
    obtain ⟨k, v, h⟩ := q
    rw [hop] at hx
    simp only at hx
    cases hp : putT n st.tm o.dst v with
    | none => rw [hp] at hx; cases hx
    | some tm =>
    rw [hp] at hx
    simp only at hx
    obtain ⟨ss, e1, e2, e3, e4, e5, e6⟩ := drawS_trail rest _ _ _ _ hx
    refine ⟨⟨st.tm, st.h, k, v⟩ :: ss, by rw [e1]; simp, by simp [e2], e3, rfl, rfl, ?_⟩
    intro i o' s ho hs
    cases i with
    | zero =>
      simp only [List.getElem?_cons_zero, Option.some.injEq] at ho hs
      subst ho; subst hs
      refine ⟨?_, ?_⟩
      · show operS P L ops o st = _
        rw [hop]
        have : hAt (⟨st.tm, st.h, k, v⟩ :: ss) st'.h (0 + 1) = hAt ss st'.h 0 := rfl
        rw [this, e4]
      · show putT n st.tm o.dst v = _
        rw [hp]
        have : tmAt (⟨st.tm, st.h, k, v⟩ :: ss) st'.tm (0 + 1) = tmAt ss st'.tm 0 := rfl
        rw [this, e5]
    | succ i =>
      simp only [List.getElem?_cons_succ] at ho hs
      exact e6 i o' s ho hs

/-! ### A block that lies in the world gets its name -/
theorem adopt {ob : AObj} {o' : Obj} {b : Nat} {φ0 : Ren} {H0 : AHeap} {w0 : World} (h : HR (χ.cut H.next) H w) (hb : χ H.next = some b) (hw : w.heap[b]? = some o') (hor : OR (χ.cut H.next) ob o') (hcap : CapOf (χ.k b) ob o')
    (hu : ∀ j, χ j = some b → j = H.next) (hrng : ∀ i c, χ i = some c → c < w.heap.size) (hg : Goes φ0 H0 w0 (χ.cut H.next) H w) (hb0 : w0.heap.size ≤ b) :
    HR (χ.cut (H.next + 1)) (H.new ob) w ∧ Goes φ0 H0 w0 (χ.cut (H.next + 1)) (H.new ob) w := by
  have hle : (χ.cut H.next).le (χ.cut (H.next + 1)) := Ren.cut_mono χ (by omega)
  have hnew : (χ.cut (H.next + 1)) H.next = some b := by rw [Ren.cut_get _ (by omega)]; exact hb
  have hback : ∀ {j o c}, j ≠ H.next → H.objs.get j = some o → (χ.cut (H.next + 1)) j = some c → (χ.cut H.next) j = some c := fun {j o c} hj ho hc => by
    obtain ⟨c', _, e1, _⟩ := h.dom j o ho
    have := hle.1 _ _ e1
    rw [hc] at this; cases this; exact e1
  have hnb : ∀ {j o}, j ≠ H.next → H.objs.get j = some o → (χ.cut (H.next + 1)) j ≠ some b := fun {j o} hj ho hc => hj (hu j (Ren.cut_some hc).2)
  refine ⟨⟨?_, ?_, fun i hi => hle.1 _ _ (h.glob i hi), fun i c hc => hrng i c (Ren.cut_some hc).2, ?_⟩, ⟨Ren.le_trans hg.ren hle, hg.size, hg.keep, ?_, hg.os, hg.tape, hg.output, ?_⟩⟩
  · intro i o ho
    rw [AHeap.get_new] at ho
    by_cases hi : i = H.next
    · subst hi; rw [if_pos rfl] at ho; cases ho; exact ⟨b, o', hnew, hw, hor.mono hle⟩
    · rw [if_neg hi] at ho
      obtain ⟨c, o2, e1, e2, e3⟩ := h.dom i o ho
      exact ⟨c, o2, hle.1 _ _ e1, e2, e3.mono hle⟩
  · intro i j o o2 c hi hj ei ej ho
    rw [AHeap.get_new] at hi hj
    by_cases e1 : i = H.next
    · by_cases e2 : j = H.next
      · rw [e1, e2]
      · exfalso
        rw [if_neg e2] at hj
        rw [e1, hnew] at ei; cases ei
        exact hnb e2 hj ej
    · rw [if_neg e1] at hi
      by_cases e2 : j = H.next
      · exfalso
        rw [e2, hnew] at ej; cases ej
        exact hnb e1 hi ei
      · rw [if_neg e2] at hj
        exact h.inj i j o o2 c hi hj (hback e1 hi ei) (hback e2 hj ej) ho
  · intro i fl c e c2 c' fr hi hc hw' hs
    rw [AHeap.get_new] at hi
    by_cases e1 : i = H.next
    · subst e1
      rw [if_pos rfl] at hi; cases hi
      rw [hnew] at hc; cases hc
      rw [hw] at hw'; cases hw'
      exact hcap fl c e c' fr rfl rfl hs
    · rw [if_neg e1] at hi
      exact h.caps i fl c e c2 c' fr hi (hback e1 hi hc) hw' hs
  · rintro c ⟨i, o, hi, hwr, hc⟩
    rw [AHeap.get_new] at hi
    by_cases e1 : i = H.next
    · subst e1; rw [hnew] at hc; cases hc; exact .inr hb0
    · rw [if_neg e1] at hi
      exact hg.owns c ⟨i, o, hi, hwr, hback e1 hi hc⟩
  · intro i c hc
    obtain ⟨h1, h2⟩ := Ren.cut_some hc
    by_cases e1 : i = H.next
    · subst e1; rw [hb] at h2; cases h2; exact .inr hb0
    · exact hg.news i c (by rw [Ren.cut_get _ (by omega)]; exact h2)
theorem HR.grow {w1 : World} (h : HR φ H w) {o : Obj} (hh : w1.heap = w.heap.push o) : HR φ H w1 where
  dom := fun i ob ho => by
    obtain ⟨b, o', e1, e2, e3⟩ := h.dom i ob ho
    refine ⟨b, o', e1, ?_, e3⟩
    rw [hh, Array.getElem?_push, if_neg (by have := h.rng i b e1; omega)]
    exact e2
  inj := h.inj
  glob := h.glob
  rng := fun i b hb => by rw [hh, Array.size_push]; have := h.rng i b hb; omega
  caps := fun i fl c e b c' fr hi hb hw hs => by
    rw [hh, Array.getElem?_push, if_neg (by have := h.rng i b hb; omega)] at hw
    exact h.caps i fl c e b c' fr hi hb hw hs
theorem Goes.grow {φ0 : Ren} {H0 : AHeap} {w0 w1 : World} (h : Goes φ0 H0 w0 φ H w) {o : Obj} (hh : w1.heap = w.heap.push o) (h1 : w1.os = w.os) (h2 : w1.tape = w.tape) (h3 : w1.output = w.output) : Goes φ0 H0 w0 φ H w1 where
  ren := h.ren
  size := by rw [hh, Array.size_push]; exact Nat.le_succ_of_le h.size
  keep := fun b hb hn => by rw [hh, Array.getElem?_push, if_neg (by have := h.size; omega)]; exact h.keep b hb hn
  owns := h.owns
  os := h1.trans h.os
  tape := h2.trans h.tape
  output := h3.trans h.output
  news := h.news
theorem Goes.congr {φ0 : Ren} {H0 : AHeap} {w0 : World} (h : Goes φ0 H0 w0 φ H w) (hf : ∀ i, ψ i = φ i) (hle : φ.le ψ) : Goes φ0 H0 w0 ψ H w where
  ren := Ren.le_trans h.ren hle
  size := h.size
  keep := h.keep
  owns := fun b ⟨i, o, h1, h2, h3⟩ => h.owns b ⟨i, o, h1, h2, by rw [← hf]; exact h3⟩
  os := h.os
  tape := h.tape
  output := h.output
  news := fun i b hb => h.news i b (by rw [← hf]; exact hb)
end Go.Vi
