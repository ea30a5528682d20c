/-
  EngineNotes returns true whatever the notes and what stands between them, part 8: GrA18, GrA19, GrA20, GrA21. Conditions: none but those of the row.
-/
import Derived.Test.YtabpbpdhapaffaaGreatDoorNts07
set_option linter.unusedSimpArgs false
set_option linter.unusedVariables false
section
namespace Go.Vi
section
variable {P : Program} {φ ψ : Ren} {H K : AHeap} {w : World}

/-! ### Names below a bound -/
def Ren.cut (φ : Ren) (n : Nat) : Ren := ⟨fun j => if j < n then φ j else none, φ.k⟩
theorem Ren.cut_some {φ : Ren} {n i b : Nat} (h : (φ.cut n) i = some b) : i < n ∧ φ i = some b := by
  simp only [Ren.cut] at h
  split at h
  · rename_i hi; exact ⟨hi, h⟩
  · cases h
theorem Ren.cut_get (φ : Ren) {n i : Nat} (h : i < n) : (φ.cut n) i = φ i := if_pos h
theorem Ren.cut_out (φ : Ren) {n i : Nat} (h : n ≤ i) : (φ.cut n) i = none := if_neg (by omega)
theorem Ren.cut_le (φ : Ren) (n : Nat) : (φ.cut n).le φ := ⟨fun _ _ h => (Ren.cut_some h).2, fun _ _ _ => rfl⟩
theorem Ren.cut_mono (φ : Ren) {n m : Nat} (h : n ≤ m) : (φ.cut n).le (φ.cut m) :=
  ⟨fun i b hb => by obtain ⟨h1, h2⟩ := Ren.cut_some hb; rw [Ren.cut_get _ (by omega)]; exact h2, fun _ _ _ => rfl⟩
theorem Ren.cut_le_cut {φ ψ : Ren} (h : φ.le ψ) (n : Nat) : (φ.cut n).le (ψ.cut n) :=
  ⟨fun i b hb => by obtain ⟨h1, h2⟩ := Ren.cut_some hb; rw [Ren.cut_get _ h1]; exact h.1 i b h2, fun i b hb => h.2 i b (Ren.cut_some hb).2⟩
theorem low_ok {v v' : Value} (h : VR φ v v') : ∀ (n k : Nat), lowV n k v = true → VR (φ.cut k) v v' := by
  have hl : ∀ {i k : Nat}, Nat.blt i k = true → i < k := fun h => Nat.le_of_ble_eq_true h
  induction h with
  | bool b => intro n k h; exact .bool b
  | top _ => intro n k h; cases n <;> simp [lowV] at h
  | int k n => intro _ _ h; exact .int k n
  | float k b => intro n _ h; exact .float k b
  | complex k a b => intro n _ h; exact .complex k a b
  | string s => intro n k h; exact .string s
  | ptrNil => intro n k h; exact .ptrNil
  | ptr e => intro n k h; exact .ptr (by rw [Ren.cut_get _ (hl (by cases n <;> exact h))]; exact e)
  | sliceNil => intro n k h; exact .sliceNil
  | slice l e hc hk => intro n k h; exact .slice l (by rw [Ren.cut_get _ (hl (by cases n <;> exact h))]; exact e) hc hk
  | sliceDead a hc => intro n k h; exact .sliceDead a hc
  | mapNil => intro n k h; exact .mapNil
  | map e => intro n k h; exact .map (by rw [Ren.cut_get _ (hl (by cases n <;> exact h))]; exact e)
  | chanNil => intro n k h; exact .chanNil
  | nilFunc => intro n k h; exact .nilFunc
  | func hf hx _ hy _ i1 i2 =>
    intro n k h
    cases n with
    | zero => cases hf <;> simp [lowV] at h
    | succ n =>
      cases hf with
      | yield e => simp [lowV] at h
      | func f =>
        simp only [lowV, Bool.and_eq_true, List.all_eq_true] at h
        exact .func (.func f) hx (fun i h1 h2 => i1 i h1 h2 n k (h.1 _ (by simp))) hy (fun i h1 h2 => i2 i h1 h2 n k (h.2 _ (by simp)))
  | nilIface => intro n k h; exact .nilIface
  | iface t _ ih =>
    intro n k h
    cases n with
    | zero => simp [lowV] at h
    | succ n => exact .iface t (ih n k (by simpa [lowV] using h))
  | agg hx _ ih =>
    intro n k h
    cases n with
    | zero => simp [lowV] at h
    | succ n =>
      simp only [lowV, List.all_eq_true] at h
      exact .agg hx (fun i h1 h2 => ih i h1 h2 n k (h _ (by simp)))
  | tuple hx _ ih =>
    intro n k h
    cases n with
    | zero => simp [lowV] at h
    | succ n =>
      simp only [lowV, List.all_eq_true] at h
      exact .tuple hx (fun i h1 h2 => ih i h1 h2 n k (h _ (by simp)))

theorem sameL_ok {f : Value → Value → Bool} (hf : ∀ a b, f a b = true → a = b) : ∀ (x y : List Value), sameV.sameL f x y = true → x = y
  | [], [], _ => rfl
  | [], _ :: _, h => by simp [sameV.sameL] at h
  | _ :: _, [], h => by simp [sameV.sameL] at h
  | a :: x, b :: y, h => by
    simp only [sameV.sameL, Bool.and_eq_true] at h
    rw [hf a b h.1, sameL_ok hf x y h.2]
theorem addr_eq {a b : Addr} (h1 : Nat.beq a.block b.block = true) (h2 : Nat.beq a.off b.off = true) (h3 : a.spot.isNone = true) (h4 : b.spot.isNone = true) : a = b := by
  obtain ⟨x, y, z⟩ := a
  obtain ⟨x', y', z'⟩ := b
  simp only at *
  rw [beq_true h1, beq_true h2, Option.isNone_iff_eq_none.1 h3, Option.isNone_iff_eq_none.1 h4]
theorem spot_eq {a b : Option Nat} (h : spotIs a b = true) : a = b := by
  cases a <;> cases b <;> first | rfl | (cases h; done) | (rw [beq_true h])
theorem addr_eq' {a b : Addr} (h1 : Nat.beq a.block b.block = true) (h2 : Nat.beq a.off b.off = true) (h3 : spotIs a.spot b.spot = true) : a = b := by
  obtain ⟨x, y, z⟩ := a
  obtain ⟨x', y', z'⟩ := b
  simp only at *
  rw [beq_true h1, beq_true h2, spot_eq h3]
theorem sameV_zero (a b : Value) (h : sameV 0 a b = true) : a = b := by
  unfold sameV at h
  split at h <;> first
      | (cases h; done)
      | rfl
      | (simp only [decide_eq_true_eq] at h; rw [h]; done)
      | (simp only [Bool.and_eq_true, decide_eq_true_eq] at h; rw [h.1, h.2]; done)
      | (simp only [decide_eq_true_eq] at h; rename_i x y; obtain ⟨⟨x⟩⟩ := x; obtain ⟨⟨y⟩⟩ := y; simp only at h; rw [h]; done)
      | (simp only [Bool.and_eq_true] at h; obtain ⟨⟨⟨h1, h2⟩, h3⟩, h4⟩ := h; rw [addr_eq h1 h2 h3 h4]; done)
      | (simp only [Bool.and_eq_true] at h; obtain ⟨⟨⟨⟨⟨h1, h2⟩, h3⟩, h4⟩, h5⟩, h6⟩ := h; rw [addr_eq' h1 h2 h3, beq_true h5, beq_true h6]; done)
      | (simp only [Bool.and_eq_true] at h; rw [beq_true h.1, beq_true h.2]; done)
      | (rw [beq_true h]; done)
      | omega
theorem sameV_ok : ∀ (n : Nat) (a b : Value), sameV n a b = true → a = b := by
  intro n
  induction n with
  | zero => exact sameV_zero
  | succ n ih =>
    intro a b h
    cases a with
    | iface t v =>
      cases b <;> try (cases h; done)
      have h : (Nat.beq t _ && sameV n v _) = true := h
      simp only [Bool.and_eq_true] at h
      rw [beq_true h.1, ih _ _ h.2]
    | agg x =>
      cases b <;> try (cases h; done)
      have h : sameV.sameL (sameV n) x.toList _ = true := h
      rw [Array.ext' (sameL_ok ih _ _ h)]
    | tuple x =>
      cases b <;> try (cases h; done)
      have h : sameV.sameL (sameV n) x.toList _ = true := h
      rw [Array.ext' (sameL_ok ih _ _ h)]
    | func f x y =>
      cases b <;> try (cases f <;> cases h; done)
      rename_i g x' y'
      cases f <;> cases g <;> try (cases h; done)
      rename_i f g
      have h : (Nat.beq f g && sameV.sameL (sameV n) x.toList x'.toList && sameV.sameL (sameV n) y.toList y'.toList) = true := h
      simp only [Bool.and_eq_true] at h
      rw [beq_true h.1.1, Array.ext' (sameL_ok ih _ _ h.1.2), Array.ext' (sameL_ok ih _ _ h.2)]
    | bool _ => exact sameV_zero _ b (by cases b <;> exact h)
    | int _ _ => exact sameV_zero _ b (by cases b <;> exact h)
    | float _ _ => exact sameV_zero _ b (by cases b <;> exact h)
    | complex _ _ _ => exact sameV_zero _ b (by cases b <;> exact h)
    | string _ => exact sameV_zero _ b (by cases b <;> exact h)
    | pointer p => exact sameV_zero _ b (by cases p <;> cases b <;> (try rename_i q; cases q) <;> exact h)
    | slice p _ _ => exact sameV_zero _ b (by cases p <;> cases b <;> (try rename_i q _ _; cases q) <;> exact h)
    | map p => exact sameV_zero _ b (by cases p <;> cases b <;> (try rename_i q; cases q) <;> exact h)
    | chan p => exact sameV_zero _ b (by cases p <;> cases b <;> (try rename_i q; cases q) <;> exact h)
    | nilFunc => exact sameV_zero _ b (by cases b <;> exact h)
    | nilIface => exact sameV_zero _ b (by cases b <;> exact h)

/-! ### Which operation waits for which -/
inductive Reach (ops : Array Oper) : Nat → Nat → Prop
  | edge {j : Nat} {o : Oper} {e : Edge} (ho : ops[j]? = some o) (he : e ∈ o.after.toList) (hb : Region.binds .any e = true) : Reach ops e.on j
  | trans {i j k : Nat} (h : Reach ops i j) (h' : Reach ops j k) : Reach ops i k
theorem befEdges_ok {ops : Array Oper} {acc : Array Nat} {j : Nat} {o : Oper} (ho : ops[j]? = some o) (hacc : ∀ m i, (acc.getD m 0).testBit i = true → Reach ops i m) :
    ∀ (es : List Edge) (s : Nat), (∀ e ∈ es, e ∈ o.after.toList) → (∀ i, s.testBit i = true → Reach ops i j) → ∀ i, (befEdges acc es s).testBit i = true → Reach ops i j
  | [], s, _, hs, i, h => hs i h
  | e :: es, s, he, hs, i, h => by
    refine befEdges_ok ho hacc es _ (fun e' h' => he e' (by simp [h'])) ?_ i h
    intro i h
    cases hb : Region.binds .any e with
    | false => rw [hb, cond_false] at h; exact hs i h
    | true =>
      rw [hb, cond_true, Nat.testBit_or, Nat.testBit_or, Nat.testBit_two_pow] at h
      simp only [Bool.or_eq_true, decide_eq_true_eq] at h
      have h0 : Reach ops e.on j := .edge ho (he e (by simp)) hb
      rcases h with (h | h) | h
      · exact hs i h
      · exact h ▸ h0
      · exact (hacc _ _ h).trans h0
theorem befs_ok {ops : Array Oper} : ∀ (rest : List Oper) (acc : Array Nat), rest = ops.toList.drop acc.size → (∀ m i, (acc.getD m 0).testBit i = true → Reach ops i m) →
    ∀ m i, ((befs rest acc).getD m 0).testBit i = true → Reach ops i m
  | [], acc, _, hacc => hacc
  | o :: rest, acc, hr, hacc => by
    have hlt : acc.size < ops.toList.length := by
      rcases Nat.lt_or_ge acc.size ops.toList.length with h | h
      · exact h
      · rw [List.drop_eq_nil_of_le h] at hr; cases hr
    rw [List.drop_eq_getElem_cons hlt] at hr
    simp only [List.cons.injEq] at hr
    obtain ⟨ho, hrest⟩ := hr
    have hi : ops[acc.size]? = some o := by
      rw [← Array.getElem?_toList, List.getElem?_eq_getElem hlt, ← ho]
    refine befs_ok rest _ (by simpa using hrest) ?_
    intro m i h
    rw [Array.getD_eq_getD_getElem?, Array.getElem?_push] at h
    by_cases hm : m = acc.size
    · subst hm
      rw [if_pos rfl] at h
      exact befEdges_ok hi hacc _ 0 (fun _ h => h) (fun i h => by simp at h) i h
    · rw [if_neg hm, ← Array.getD_eq_getD_getElem?] at h
      exact hacc m i h
theorem waits_ok {ops : Array Oper} {i j : Nat} (h : waits (bef ops) i j = true) : Reach ops i j :=
  befs_ok ops.toList #[] (by simp) (fun m i h => by simp at h) j i h
end
section
variable {P : Program} {φ ψ χ : Ren} {H K : AHeap} {w : World}

/-! ### What one operation is -/
theorem operS_inv {L : Lev} {ops : Array Oper} {o : Oper} {st : St} {kk : Option Kind} {v : Value} (hx : operS P L ops o st = some (kk, v, K)) :
    (Region.wanted o (aYielded ops st.tm) = false ∧ kk = none ∧ v = Go.undef ∧ K = st.h) ∨
    (Region.wanted o (aYielded ops st.tm) = true ∧ (∀ x ∈ o.op.operands, okOperand st.h.gl x = true) ∧ (∀ c, o.op ≠ .defer c) ∧
      ((kk = some .pure ∧ pureOp P (aEval st.h.gl st.tm) o = some v ∧ K = st.h) ∨
       (kk = some .read ∧ readOp P st.h (aEval st.h.gl st.tm) o = some v ∧ K = st.h) ∨
       (kk = some .alloc ∧ ∃ ob kv, newOp P (aEval st.h.gl st.tm) o = some (ob, kv) ∧ v = kv.at st.h.next ∧ K = st.h.new ob) ∨
       kk = some .eff)) := by
  unfold operS at hx
  cases hwant : Region.wanted o (aYielded ops st.tm) with
  | false =>
    rw [hwant, cond_false] at hx
    simp only [Option.some.injEq, Prod.mk.injEq] at hx
    obtain ⟨rfl, rfl, rfl⟩ := hx
    exact .inl ⟨rfl, rfl, rfl, rfl⟩
  | true =>
    rw [hwant, cond_true] at hx
    obtain ⟨hok, hx⟩ := bif_some hx
    refine .inr ⟨rfl, fun x hx => List.all_eq_true.1 hok x (by simpa using hx), ?_⟩
    cases hop : aOper P st.h (aEval st.h.gl st.tm) o with
    | none => rw [hop] at hx; cases hx
    | some q =>
    obtain ⟨k, x, H1⟩ := q
    rw [hop] at hx
    refine ⟨not_defer hop, ?_⟩
    unfold aOper at hop
    cases h1 : pureOp P (aEval st.h.gl st.tm) o with
    | some u =>
      rw [h1] at hop
      simp only [Option.some.injEq, Prod.mk.injEq] at hop
      obtain ⟨rfl, rfl, rfl⟩ := hop
      simp only [Option.some.injEq, Prod.mk.injEq] at hx
      obtain ⟨rfl, rfl, rfl⟩ := hx
      exact .inl ⟨rfl, rfl, rfl⟩
    | none =>
    rw [h1] at hop
    simp only at hop
    cases h2 : readOp P st.h (aEval st.h.gl st.tm) o with
    | some u =>
      rw [h2] at hop
      simp only [Option.some.injEq, Prod.mk.injEq] at hop
      obtain ⟨rfl, rfl, rfl⟩ := hop
      simp only [Option.some.injEq, Prod.mk.injEq] at hx
      obtain ⟨rfl, rfl, rfl⟩ := hx
      exact .inr (.inl ⟨rfl, rfl, rfl⟩)
    | none =>
    rw [h2] at hop
    simp only at hop
    cases h3 : newOp P (aEval st.h.gl st.tm) o with
    | some u =>
      obtain ⟨ob, kv⟩ := u
      rw [h3] at hop
      simp only [Option.some.injEq, Prod.mk.injEq] at hop
      obtain ⟨rfl, rfl, rfl⟩ := hop
      simp only [Option.some.injEq, Prod.mk.injEq] at hx
      obtain ⟨rfl, rfl, rfl⟩ := hx
      exact .inr (.inr (.inl ⟨rfl, ob, kv, rfl, rfl, rfl⟩))
    | none =>
    rw [h3] at hop
    simp only at hop
    cases h4 : effOp P st.h (aEval st.h.gl st.tm) o with
    | none => rw [h4] at hop; cases hop
    | some u =>
    obtain ⟨y, K1⟩ := u
    rw [h4] at hop
    simp only [Option.some.injEq, Prod.mk.injEq] at hop
    obtain ⟨rfl, rfl, rfl⟩ := hop
    refine .inr (.inr (.inr ?_))
    cases y with
    | value u => simp only [Option.some.injEq, Prod.mk.injEq] at hx; exact hx.1.symm
    | skip => simp only [Option.some.injEq, Prod.mk.injEq] at hx; exact hx.1.symm
    | enter f args =>
      simp only at hx
      split at hx
      · simp only [Option.some.injEq, Prod.mk.injEq] at hx; exact hx.1.symm
      · cases hx
    | round l args =>
      simp only at hx
      split at hx
      · simp only [Option.some.injEq, Prod.mk.injEq] at hx; exact hx.1.symm
      · cases hx

/-! ### The walk of the text's order, place by place -/
def tmAt (ss : List Seen) (last : T Value) (m : Nat) : T Value := match ss[m]? with | some s => s.tm | none => last
theorem drawS_trail {L : Lev} {n : Nat} {ops : Array Oper} : ∀ (rest : List Oper) (st st' : St) (acc sn : List Seen), drawS P L n ops rest st acc = some (st', sn) →
    ∃ ss, sn = ss.reverse ++ acc ∧ ss.length = rest.length ∧ st'.ds = st.ds ∧ hAt ss st'.h 0 = st.h ∧ tmAt ss st'.tm 0 = st.tm ∧
      ∀ i o s, rest[i]? = some o → ss[i]? = some s → operS P L ops o ⟨s.tm, st.ds, s.h⟩ = some (s.k, s.v, hAt ss st'.h (i + 1)) ∧ putT n s.tm o.dst s.v = some (tmAt ss st'.tm (i + 1))
  | [], st, st', acc, sn, hx => by
    simp only [drawS, Option.some.injEq, Prod.mk.injEq] at hx
    obtain ⟨rfl, rfl⟩ := hx
    exact ⟨[], rfl, rfl, rfl, rfl, rfl, fun i o s h => by simp at h⟩
  | o :: rest, st, st', acc, sn, hx => by
    simp only [drawS] at hx
    cases hop : operS P L ops o st with
    | none => rw [hop] at hx; cases hx
    | some q =>
    obtain ⟨k, v, h⟩ := q
    rw [hop] at hx
    simp only at hx
    cases hp : putT n st.tm o.dst v with
    | none => rw [hp] at hx; cases hx
    | some tm =>
    rw [hp] at hx
    simp only at hx
    obtain ⟨ss, e1, e2, e3, e4, e5, e6⟩ := drawS_trail rest _ _ _ _ hx
    refine ⟨⟨st.tm, st.h, k, v⟩ :: ss, by rw [e1]; simp, by simp [e2], e3, rfl, rfl, ?_⟩
    intro i o' s ho hs
    cases i with
    | zero =>
      simp only [List.getElem?_cons_zero, Option.some.injEq] at ho hs
      subst ho; subst hs
      refine ⟨?_, ?_⟩
      · show operS P L ops o st = _
        rw [hop]
        have : hAt (⟨st.tm, st.h, k, v⟩ :: ss) st'.h (0 + 1) = hAt ss st'.h 0 := rfl
        rw [this, e4]
      · show putT n st.tm o.dst v = _
        rw [hp]
        have : tmAt (⟨st.tm, st.h, k, v⟩ :: ss) st'.tm (0 + 1) = tmAt ss st'.tm 0 := rfl
        rw [this, e5]
    | succ i =>
      simp only [List.getElem?_cons_succ] at ho hs
      exact e6 i o' s ho hs

/-! ### A block that lies in the world gets its name -/
theorem adopt {ob : AObj} {o' : Obj} {b : Nat} {φ0 : Ren} {H0 : AHeap} {w0 : World} (h : HR (χ.cut H.next) H w) (hb : χ H.next = some b) (hw : w.heap[b]? = some o') (hor : OR (χ.cut H.next) ob o') (hcap : CapOf (χ.k b) ob o')
    (hu : ∀ j, χ j = some b → j = H.next) (hrng : ∀ i c, χ i = some c → c < w.heap.size) (hg : Goes φ0 H0 w0 (χ.cut H.next) H w) (hb0 : w0.heap.size ≤ b) :
    HR (χ.cut (H.next + 1)) (H.new ob) w ∧ Goes φ0 H0 w0 (χ.cut (H.next + 1)) (H.new ob) w := by
  have hle : (χ.cut H.next).le (χ.cut (H.next + 1)) := Ren.cut_mono χ (by omega)
  have hnew : (χ.cut (H.next + 1)) H.next = some b := by rw [Ren.cut_get _ (by omega)]; exact hb
  have hback : ∀ {j o c}, j ≠ H.next → H.objs.get j = some o → (χ.cut (H.next + 1)) j = some c → (χ.cut H.next) j = some c := fun {j o c} hj ho hc => by
    obtain ⟨c', _, e1, _⟩ := h.dom j o ho
    have := hle.1 _ _ e1
    rw [hc] at this; cases this; exact e1
  have hnb : ∀ {j o}, j ≠ H.next → H.objs.get j = some o → (χ.cut (H.next + 1)) j ≠ some b := fun {j o} hj ho hc => hj (hu j (Ren.cut_some hc).2)
  refine ⟨⟨?_, ?_, fun i hi => hle.1 _ _ (h.glob i hi), fun i c hc => hrng i c (Ren.cut_some hc).2, ?_⟩, ⟨Ren.le_trans hg.ren hle, hg.size, hg.keep, ?_, hg.os, hg.tape, hg.output, ?_⟩⟩
  · intro i o ho
    rw [AHeap.get_new] at ho
    by_cases hi : i = H.next
    · subst hi; rw [if_pos rfl] at ho; cases ho; exact ⟨b, o', hnew, hw, hor.mono hle⟩
    · rw [if_neg hi] at ho
      obtain ⟨c, o2, e1, e2, e3⟩ := h.dom i o ho
      exact ⟨c, o2, hle.1 _ _ e1, e2, e3.mono hle⟩
  · intro i j o o2 c hi hj ei ej ho
    rw [AHeap.get_new] at hi hj
    by_cases e1 : i = H.next
    · by_cases e2 : j = H.next
      · rw [e1, e2]
      · exfalso
        rw [if_neg e2] at hj
        rw [e1, hnew] at ei; cases ei
        exact hnb e2 hj ej
    · rw [if_neg e1] at hi
      by_cases e2 : j = H.next
      · exfalso
        rw [e2, hnew] at ej; cases ej
        exact hnb e1 hi ei
      · rw [if_neg e2] at hj
        exact h.inj i j o o2 c hi hj (hback e1 hi ei) (hback e2 hj ej) ho
  · intro i fl c e c2 c' fr hi hc hw' hs
    rw [AHeap.get_new] at hi
    by_cases e1 : i = H.next
    · subst e1
      rw [if_pos rfl] at hi; cases hi
      rw [hnew] at hc; cases hc
      rw [hw] at hw'; cases hw'
      exact hcap fl c e c' fr rfl rfl hs
    · rw [if_neg e1] at hi
      exact h.caps i fl c e c2 c' fr hi (hback e1 hi hc) hw' hs
  · rintro c ⟨i, o, hi, hwr, hc⟩
    rw [AHeap.get_new] at hi
    by_cases e1 : i = H.next
    · subst e1; rw [hnew] at hc; cases hc; exact .inr hb0
    · rw [if_neg e1] at hi
      exact hg.owns c ⟨i, o, hi, hwr, hback e1 hi hc⟩
  · intro i c hc
    obtain ⟨h1, h2⟩ := Ren.cut_some hc
    by_cases e1 : i = H.next
    · subst e1; rw [hb] at h2; cases h2; exact .inr hb0
    · exact hg.news i c (by rw [Ren.cut_get _ (by omega)]; exact h2)
theorem HR.grow {w1 : World} (h : HR φ H w) {o : Obj} (hh : w1.heap = w.heap.push o) : HR φ H w1 where
  dom := fun i ob ho => by
    obtain ⟨b, o', e1, e2, e3⟩ := h.dom i ob ho
    refine ⟨b, o', e1, ?_, e3⟩
    rw [hh, Array.getElem?_push, if_neg (by have := h.rng i b e1; omega)]
    exact e2
  inj := h.inj
  glob := h.glob
  rng := fun i b hb => by rw [hh, Array.size_push]; have := h.rng i b hb; omega
  caps := fun i fl c e b c' fr hi hb hw hs => by
    rw [hh, Array.getElem?_push, if_neg (by have := h.rng i b hb; omega)] at hw
    exact h.caps i fl c e b c' fr hi hb hw hs
theorem Goes.grow {φ0 : Ren} {H0 : AHeap} {w0 w1 : World} (h : Goes φ0 H0 w0 φ H w) {o : Obj} (hh : w1.heap = w.heap.push o) (h1 : w1.os = w.os) (h2 : w1.tape = w.tape) (h3 : w1.output = w.output) : Goes φ0 H0 w0 φ H w1 where
  ren := h.ren
  size := by rw [hh, Array.size_push]; exact Nat.le_succ_of_le h.size
  keep := fun b hb hn => by rw [hh, Array.getElem?_push, if_neg (by have := h.size; omega)]; exact h.keep b hb hn
  owns := h.owns
  os := h1.trans h.os
  tape := h2.trans h.tape
  output := h3.trans h.output
  news := h.news
theorem Goes.congr {φ0 : Ren} {H0 : AHeap} {w0 : World} (h : Goes φ0 H0 w0 φ H w) (hf : ∀ i, ψ i = φ i) (hle : φ.le ψ) : Goes φ0 H0 w0 ψ H w where
  ren := Ren.le_trans h.ren hle
  size := h.size
  keep := h.keep
  owns := fun b ⟨i, o, h1, h2, h3⟩ => h.owns b ⟨i, o, h1, h2, by rw [← hf]; exact h3⟩
  os := h.os
  tape := h.tape
  output := h.output
  news := fun i b hb => h.news i b (by rw [← hf]; exact hb)
end
section
variable {P : Program} {L : Lev} {n : Nat} {ops : Array Oper} {ds : List Nat} {ss : List Seen} {lh : AHeap} {lt : T Value}

/-- What is known of the walk of the text's order. -/
structure DrOk (P : Program) (L : Lev) (n : Nat) (ops : Array Oper) (ds : List Nat) (ss : List Seen) (lh : AHeap) (lt : T Value) : Prop where
  len : ss.length = ops.size
  step : ∀ i o s, ops[i]? = some o → ss[i]? = some s → operS P L ops o ⟨s.tm, ds, s.h⟩ = some (s.k, s.v, hAt ss lh (i + 1)) ∧ putT n s.tm o.dst s.v = some (tmAt ss lt (i + 1))
  gl0 : (hAt ss lh 0).gl ≤ (hAt ss lh 0).next
  nxt : ∀ i, i < ops.size → (hAt ss lh i).next ≤ (hAt ss lh (i + 1)).next
  gl : ∀ i, i < ops.size → (hAt ss lh i).gl = (hAt ss lh (i + 1)).gl
  eff : ∀ j, isE (kAt ss j) = true → ∀ i, i < j → (isE (kAt ss i) = true ∨ isA (kAt ss i) = true) → Reach ops i j
  read : ∀ i o s, ops[i]? = some o → ss[i]? = some s → isR s.k = true → lowV 20 s.h.next s.v = true ∧ ∀ m, (m = 0 ∨ ∃ e, isE (kAt ss e) = true ∧ m = e + 1) →
    (∃ j, isE (kAt ss j) = true ∧ ((j < m ∧ Reach ops i j) ∨ (m ≤ j ∧ Reach ops j i))) ∨ readOp P (hAt ss lh m) (aEval (hAt ss lh m).gl s.tm) o = some s.v
  edges : ∀ j o, ops[j]? = some o → ∀ e ∈ o.after.toList, Region.binds .any e = true → e.on < j
  slots : ∀ i j o oi d, ops[j]? = some o → ops[i]? = some oi → oi.dst = some d → d ∈ namesOf ops o → i ≠ j → (i < j ∧ Reach ops i j) ∨ (j < i ∧ Reach ops j i)

theorem kAt_lt {ss : List Seen} {i : Nat} {f : Option Kind → Bool} (hf : f none = false) (h : f (kAt ss i) = true) : i < ss.length := by
  rcases Nat.lt_or_ge i ss.length with h' | h'
  · exact h'
  · unfold kAt at h; rw [List.getElem?_eq_none h'] at h; simp only at h; rw [hf] at h; cases h
theorem kAt_eq {ss : List Seen} {i : Nat} {s : Seen} (h : ss[i]? = some s) : kAt ss i = s.k := by unfold kAt; rw [h]
theorem hAt_eq {ss : List Seen} {lh : AHeap} {i : Nat} {s : Seen} (h : ss[i]? = some s) : hAt ss lh i = s.h := by unfold hAt; rw [h]
theorem tmAt_eq {ss : List Seen} {lt : T Value} {i : Nat} {s : Seen} (h : ss[i]? = some s) : tmAt ss lt i = s.tm := by unfold tmAt; rw [h]

theorem drawOk_spec (h : drawOk P ops ss lh = true) (hlen : ss.length = ops.size)
    (hstep : ∀ i o s, ops[i]? = some o → ss[i]? = some s → operS P L ops o ⟨s.tm, ds, s.h⟩ = some (s.k, s.v, hAt ss lh (i + 1)) ∧ putT n s.tm o.dst s.v = some (tmAt ss lt (i + 1))) : DrOk P L n ops ds ss lh lt := by
  unfold drawOk drawStat slotsOk drawDyn at h
  simp only [Bool.and_eq_true, List.all_eq_true] at h
  obtain ⟨h1, ⟨⟨h2, h3⟩, h4⟩, h5⟩ := h
  have heff : ∀ j, isE (kAt ss j) = true → j ∈ effsOf ops.size ss := fun j hj => by
    unfold effsOf
    rw [List.mem_filter]
    exact ⟨List.mem_range.2 (hlen ▸ kAt_lt rfl hj), hj⟩
  have heff' : ∀ j, j ∈ effsOf ops.size ss → isE (kAt ss j) = true := fun j hj => by
    unfold effsOf at hj
    exact (List.mem_filter.1 hj).2
  have hops : ∀ {j o}, ops[j]? = some o → j ∈ List.range ops.size := fun {j o} h => List.mem_range.2 (Array.getElem?_eq_some_iff.1 h).1
  refine ⟨hlen, hstep, Nat.le_of_ble_eq_true h2, ?_, ?_, ?_, ?_, ?_, ?_⟩
  · intro i hi
    have := h3 i (List.mem_range.2 hi)
    exact Nat.le_of_ble_eq_true this.1
  · intro i hi
    have := h3 i (List.mem_range.2 hi)
    exact beq_true this.2
  · intro j hj i hij hi
    have := h4 j (heff j hj) i (List.mem_range.2 hij)
    simp only [Bool.or_eq_true, Bool.not_eq_true', Bool.or_eq_false_iff] at this
    rcases this with ⟨k1, k2⟩ | hw
    · rcases hi with hi | hi
      · rw [k1] at hi; cases hi
      · rw [k2] at hi; cases hi
    · exact waits_ok hw
  · intro i o s ho hs hr
    have := h5 i (hops ho)
    rw [ho, hs, kAt_eq hs, hr] at this
    simp only [Bool.not_true, Bool.false_or, Bool.and_eq_true, List.all_eq_true] at this
    refine ⟨this.1, fun m hm => ?_⟩
    have hm' : m ∈ 0 :: (effsOf ops.size ss).map (· + 1) := by
      rcases hm with rfl | ⟨e, he, rfl⟩
      · simp
      · simp only [List.mem_cons, List.mem_map]; exact .inr ⟨e, heff e he, rfl⟩
    have := this.2 m hm'
    unfold readAt at this
    simp only [Bool.or_eq_true, List.any_eq_true] at this
    rcases this with ⟨j, hj, hw⟩ | hread
    · refine .inl ⟨j, heff' j hj, ?_⟩
      cases hb : Nat.blt j m with
      | true => rw [hb, cond_true] at hw; exact .inl ⟨Nat.le_of_ble_eq_true hb, waits_ok hw⟩
      | false =>
        rw [hb, cond_false] at hw
        refine .inr ⟨?_, waits_ok hw⟩
        rcases Nat.lt_or_ge j m with hlt | hge
        · have : Nat.blt j m = true := Nat.ble_eq_true_of_le hlt
          rw [this] at hb; cases hb
        · exact hge
    · refine .inr ?_
      cases hrr : readOp P (hAt ss lh m) (aEval (hAt ss lh m).gl s.tm) o with
      | none => rw [hrr] at hread; cases hread
      | some v => rw [hrr] at hread; rw [sameV_ok 20 v s.v hread]
  · intro j o ho e he hb
    have := h1 j (hops ho)
    rw [ho] at this
    simp only [Bool.and_eq_true, List.all_eq_true] at this
    have := this.1 e he
    rw [hb] at this
    simp only [Bool.not_true, Bool.false_or] at this
    exact Nat.le_of_ble_eq_true this
  · intro i j o oi d ho hoi hd hn hij
    have := h1 j (hops ho)
    rw [ho] at this
    simp only [Bool.and_eq_true, List.all_eq_true] at this
    have := this.2 i (hops hoi)
    rw [hoi] at this
    simp only [Option.bind_some, hd, Bool.or_eq_true, Bool.not_eq_true'] at this
    rcases this with hb | hno | hw
    · exact absurd (beq_true hb) hij
    · exfalso
      have : (namesOf ops o).any (Nat.beq d) = true := List.any_eq_true.2 ⟨d, hn, Nat.beq_refl _⟩
      rw [this] at hno; cases hno
    · cases hb : Nat.blt i j with
      | true => rw [hb, cond_true] at hw; exact .inl ⟨Nat.le_of_ble_eq_true hb, waits_ok hw⟩
      | false =>
        rw [hb, cond_false] at hw
        refine .inr ⟨?_, waits_ok hw⟩
        rcases Nat.lt_or_ge i j with hlt | hge
        · have : Nat.blt i j = true := Nat.ble_eq_true_of_le hlt
          rw [this] at hb; cases hb
        · omega

section
variable (hD : DrOk P L n ops ds ss lh lt)
include hD
theorem DrOk.nx_le {i j : Nat} (hij : i ≤ j) (hj : j ≤ ops.size) : (hAt ss lh i).next ≤ (hAt ss lh j).next := by
  induction j with
  | zero => have : i = 0 := by omega
            subst this; exact Nat.le_refl _
  | succ j ih =>
    rcases Nat.lt_or_ge i (j + 1) with h | h
    · exact Nat.le_trans (ih (by omega) (by omega)) (hD.nxt j (by omega))
    · have : i = j + 1 := by omega
      subst this; exact Nat.le_refl _
theorem DrOk.gl_eq {j : Nat} (hj : j ≤ ops.size) : (hAt ss lh j).gl = (hAt ss lh 0).gl := by
  induction j with
  | zero => rfl
  | succ j ih => rw [← hD.gl j (by omega)]; exact ih (by omega)
theorem DrOk.at_ {i : Nat} (hi : i < ops.size) : ∃ o s, ops[i]? = some o ∧ ss[i]? = some s := by
  have h2 : i < ss.length := hD.len ▸ hi
  exact ⟨ops[i], ss[i], Array.getElem?_eq_getElem hi, List.getElem?_eq_getElem h2⟩
/-- Where nothing is written and nothing made, the heap stays as it is. -/
theorem DrOk.quiet {i : Nat} (hi : i < ops.size) (he : isE (kAt ss i) = false) (ha : isA (kAt ss i) = false) : hAt ss lh (i + 1) = hAt ss lh i := by
  obtain ⟨o, s, ho, hs⟩ := hD.at_ hi
  have h1 := (hD.step i o s ho hs).1
  rw [kAt_eq hs] at he ha
  rw [hAt_eq (lh := lh) hs]
  rcases operS_inv h1 with ⟨_, _, _, h⟩ | ⟨_, _, _, ⟨_, _, h⟩ | ⟨_, _, h⟩ | ⟨hk, _⟩ | hk⟩
  · exact h
  · exact h
  · exact h
  · rw [hk] at ha; cases ha
  · rw [hk] at he; cases he
theorem DrOk.allocs {i : Nat} (ha : isA (kAt ss i) = true) : (hAt ss lh (i + 1)).next = (hAt ss lh i).next + 1 := by
  have hi : i < ops.size := hD.len ▸ kAt_lt rfl ha
  obtain ⟨o, s, ho, hs⟩ := hD.at_ hi
  have h1 := (hD.step i o s ho hs).1
  rw [kAt_eq hs] at ha
  rw [hAt_eq (lh := lh) hs]
  rcases operS_inv h1 with ⟨_, hk, _, h⟩ | ⟨_, _, _, ⟨hk, _, h⟩ | ⟨hk, _, h⟩ | ⟨hk, ob, kv, _, _, h⟩ | hk⟩
  · rw [hk] at ha; cases ha
  · rw [hk] at ha; cases ha
  · rw [hk] at ha; cases ha
  · rw [h]; rfl
  · rw [hk] at ha; cases ha
end

/-- Listed. -/
def Li (l : Array Bool) (i : Nat) : Prop := l.getD i false = true
theorem li_set {l : Array Bool} {i j : Nat} (hj : j < l.size) : Li (l.setIfInBounds j true) i ↔ Li l i ∨ i = j := by
  unfold Li
  rw [Array.getD_eq_getD_getElem?, Array.getD_eq_getD_getElem?, Array.getElem?_setIfInBounds]
  by_cases h : j = i
  · subst h; simp [hj]
  · rw [if_neg h]
    constructor
    · exact .inl
    · rintro (h' | h')
      · exact h'
      · exact absurd h'.symm h
/-- Writes a slot. -/
def Wr (ops : Array Oper) (i t : Nat) : Prop := ∃ o, ops[i]? = some o ∧ o.dst = some t

/-- A block made ahead of its turn. -/
def AllocAt (ss : List Seen) (lh : AHeap) (w0 : World) (ψ : Ren) (w : World) (i : Nat) : Prop :=
  ∃ ob b o', hAt ss lh (i + 1) = (hAt ss lh i).new ob ∧ ψ (hAt ss lh i).next = some b ∧ w.heap[b]? = some o' ∧ OR (ψ.cut (hAt ss lh i).next) ob o' ∧ CapOf (ψ.k b) ob o' ∧
    (∀ j, ψ j = some b → j = (hAt ss lh i).next) ∧ w0.heap.size ≤ b
/-- Memory: all that was written up to place m, and blocks made ahead of their turn. -/
structure HeapAt (ops : Array Oper) (ss : List Seen) (lh : AHeap) (φ0 : Ren) (w0 : World) (ψ : Ren) (l : Array Bool) (w : World) (m : Nat) : Prop where
  le : m ≤ ops.size
  head : m = 0 ∨ ∃ e, isE (kAt ss e) = true ∧ m = e + 1
  done : ∀ i, i < m → (isE (kAt ss i) = true ∨ isA (kAt ss i) = true) → Li l i
  rest : ∀ i, m ≤ i → isE (kAt ss i) = true → ¬ Li l i
  hr : HR (ψ.cut (hAt ss lh m).next) (hAt ss lh m) w
  goes : Goes φ0 (hAt ss lh 0) w0 (ψ.cut (hAt ss lh m).next) (hAt ss lh m) w
  ahead : ∀ i, m ≤ i → isA (kAt ss i) = true → Li l i → AllocAt ss lh w0 ψ w i
  names : ∀ q b, ψ q = some b → q < (hAt ss lh m).next ∨ ∃ i, m ≤ i ∧ isA (kAt ss i) = true ∧ Li l i ∧ q = (hAt ss lh i).next
structure Inv (P : Program) (ops : Array Oper) (n : Nat) (ds : List Nat) (ss : List Seen) (lh : AHeap) (lt : T Value) (φ0 : Ren) (w0 : World) (ψ : Ren) (l : Array Bool) (a : Act) (w : World) : Prop where
  sz : l.size = ops.size
  cl : ∀ i j, Reach ops i j → Li l j → Li l i
  asz : a.tmps.size = n
  ads : DR P (ψ.cut (hAt ss lh 0).next) ds a.defers
  rng : ∀ i b, ψ i = some b → b < w.heap.size
  slots : ∀ t m, m ≤ ops.size → (∀ i, i < m → Wr ops i t → Li l i) → (∀ i, m ≤ i → Wr ops i t → ¬ Li l i) → VR (ψ.cut (hAt ss lh m).next) (((tmAt ss lt m).get t).getD Go.undef) (a.tmps.getD t Go.undef)
  heap : ∃ m, HeapAt ops ss lh φ0 w0 ψ l w m

section
variable {φ0 ψ : Ren} {w0 w : World} {l : Array Bool} {a : Act}
/-- From place m on to a later one, by the blocks made ahead. -/
theorem HeapAt.climb (hD : DrOk P L n ops ds ss lh lt) {m : Nat} (h : HeapAt ops ss lh φ0 w0 ψ l w m) (hrng : ∀ i b, ψ i = some b → b < w.heap.size) : ∀ (j : Nat), m ≤ j → j ≤ ops.size → (∀ i, m ≤ i → i < j → isE (kAt ss i) = false) → (∀ i, m ≤ i → i < j → isA (kAt ss i) = true → Li l i) →
    HR (ψ.cut (hAt ss lh j).next) (hAt ss lh j) w ∧ Goes φ0 (hAt ss lh 0) w0 (ψ.cut (hAt ss lh j).next) (hAt ss lh j) w := by
  intro j
  induction j with
  | zero =>
    intro hm _ _ _
    have : m = 0 := by omega
    subst this; exact ⟨h.hr, h.goes⟩
  | succ j ih =>
    intro hm hj he ha
    rcases Nat.lt_or_ge m (j + 1) with hlt | hge
    · obtain ⟨h1, h2⟩ := ih (by omega) (by omega) (fun i h1 h2 => he i h1 (by omega)) (fun i h1 h2 => ha i h1 (by omega))
      cases hA : isA (kAt ss j) with
      | false =>
        rw [hD.quiet (by omega) (he j (by omega) (by omega)) hA]
        exact ⟨h1, h2⟩
      | true =>
        obtain ⟨ob, b, o', e1, e2, e3, e4, e5, e6, e7⟩ := h.ahead j (by omega) hA (ha j (by omega) (by omega) hA)
        have := adopt h1 e2 e3 e4 e5 e6 hrng h2 e7
        rw [e1]
        exact this
    · have : m = j + 1 := by omega
      subst this; exact ⟨h.hr, h.goes⟩

theorem reach_ready {j : Nat} {o : Oper} (ho : ops[j]? = some o) (hcl : ∀ i j, Reach ops i j → Li l j → Li l i) (hr : ∀ e ∈ o.after.toList, Region.binds .any e = true → Li l e.on) : ∀ {i : Nat}, Reach ops i j → Li l i := by
  intro i h
  generalize hj : j = j' at h
  induction h with
  | edge ho' he hb =>
    subst hj
    rw [ho] at ho'; cases ho'
    exact hr _ he hb
  | trans h1 h2 _ ih2 => exact hcl _ _ h1 (ih2 hj)
theorem ready_spec {j : Nat} (hj : j ∈ Region.ready .any ops l) : j < ops.size ∧ ¬ Li l j ∧ ∃ o, ops[j]? = some o ∧ ∀ e ∈ o.after.toList, Region.binds .any e = true → Li l e.on := by
  unfold Region.ready at hj
  rw [List.mem_filter, List.mem_range, Bool.and_eq_true] at hj
  obtain ⟨h1, h2, h3⟩ := hj
  refine ⟨h1, ?_, ops[j], Array.getElem?_eq_getElem h1, ?_⟩
  · intro h
    unfold Li at h
    rw [Array.getD_eq_getD_getElem?] at h h2
    cases hx : l[j]? with
    | none => rw [hx] at h; cases h
    | some b => rw [hx] at h h2; simp only [Option.getD_some] at h h2; rw [h] at h2; cases h2
  · intro e he hb
    rw [Array.getElem?_eq_getElem h1] at h3
    simp only [Option.map_some, Option.getD_some] at h3
    rw [← Array.all_toList, List.all_eq_true] at h3
    have := h3 e he
    rw [hb] at this
    simpa [Li] using this
end
end
section
variable {P : Program} {L : Lev} {n : Nat} {ops : Array Oper} {ds : List Nat} {ss : List Seen} {lh : AHeap} {lt : T Value}
variable {φ0 ψ : Ren} {w0 w : World} {l : Array Bool} {a : Act}

theorem yielded_at {φ : Ren} {tm : T Value} {tmps : Array Value} (ops : Array Oper) (j : Nat) (h : ∀ d, (ops[j]?).bind (·.dst) = some d → VR φ ((tm.get d).getD Go.undef) (tmps.getD d Go.undef)) : yielded ops tmps j = aYielded ops tm j := by
  unfold yielded aYielded
  cases hd : (ops[j]?).bind (·.dst) with
  | none => rfl
  | some d =>
    simp only [Option.bind_some]
    have ht := h d hd
    cases hg : tm.get d with
    | none =>
      rw [hg] at ht
      simp only [Option.getD_none] at ht
      cases hx : tmps[d]? with
      | none => rfl
      | some x =>
        have e : tmps.getD d Go.undef = x := by rw [Array.getD_eq_getD_getElem?, hx]; rfl
        rw [e] at ht
        cases x <;> first | rfl | (cases ht; done)
    | some y =>
      rw [hg] at ht
      simp only [Option.getD_some] at ht
      cases hx : tmps[d]? with
      | none =>
        have e : tmps.getD d Go.undef = Go.undef := by rw [Array.getD_eq_getD_getElem?, hx]; rfl
        rw [e] at ht
        cases y <;> first | rfl | (cases ht; done)
      | some x =>
        have e : tmps.getD d Go.undef = x := by rw [Array.getD_eq_getD_getElem?, hx]; rfl
        rw [e] at ht
        cases ht <;> first | rfl | (rename_i hp; cases x <;> first | rfl | cases hp)

/-- What is so of an operation that may come up. -/
structure Up (ops : Array Oper) (ss : List Seen) (l : Array Bool) (j : Nat) (o : Oper) (s : Seen) : Prop where
  lt : j < ops.size
  ho : ops[j]? = some o
  hs : ss[j]? = some s
  not : ¬ Li l j
  reach : ∀ i, Reach ops i j → Li l i

theorem Inv.up (hD : DrOk P L n ops ds ss lh lt) (hI : Inv P ops n ds ss lh lt φ0 w0 ψ l a w) {j : Nat} (hj : j ∈ Region.ready .any ops l) : ∃ o s, Up ops ss l j o s := by
  obtain ⟨h1, h2, o, ho, h3⟩ := ready_spec hj
  obtain ⟨o', s, ho', hs⟩ := hD.at_ h1
  rw [ho] at ho'; cases ho'
  exact ⟨o, s, h1, ho, hs, h2, fun i hi => reach_ready ho hI.cl h3 hi⟩

section
variable {j : Nat} {o : Oper} {s : Seen}
theorem Inv.names_ok (hD : DrOk P L n ops ds ss lh lt) (hI : Inv P ops n ds ss lh lt φ0 w0 ψ l a w) (hU : Up ops ss l j o s) {t : Tmp} (ht : t ∈ namesOf ops o) : VR (ψ.cut s.h.next) ((s.tm.get t).getD Go.undef) (a.tmps.getD t Go.undef) := by
  have h := hI.slots t j (Nat.le_of_lt hU.lt) ?_ ?_
  · rw [tmAt_eq hU.hs, hAt_eq hU.hs] at h; exact h
  · rintro i hij ⟨oi, hoi, hd⟩
    rcases hD.slots i j o oi t hU.ho hoi hd ht (by omega) with ⟨_, h⟩ | ⟨h, _⟩
    · exact hU.reach i h
    · omega
  · rintro i hij ⟨oi, hoi, hd⟩ hl
    by_cases hij' : i = j
    · subst hij'; exact hU.not hl
    · rcases hD.slots i j o oi t hU.ho hoi hd ht hij' with ⟨h, _⟩ | ⟨_, h⟩
      · omega
      · exact hU.not (hI.cl j i h hl)
theorem Inv.glob (hD : DrOk P L n ops ds ss lh lt) (hI : Inv P ops n ds ss lh lt φ0 w0 ψ l a w) {g : Nat} (hg : g < (hAt ss lh 0).gl) : ψ g = some g := by
  obtain ⟨m, hm⟩ := hI.heap
  have := hm.hr.glob g (by rw [hD.gl_eq hm.le]; exact hg)
  exact (Ren.cut_some this).2
theorem Inv.operand_ok (hD : DrOk P L n ops ds ss lh lt) (hI : Inv P ops n ds ss lh lt φ0 w0 ψ l a w) (hU : Up ops ss l j o s) : ∀ x ∈ o.op.operands, okOperand s.h.gl x = true → VR (ψ.cut s.h.next) (aEval s.h.gl s.tm x) (a.eval x) := by
  intro x hx hok
  cases x with
  | tmp t =>
    refine hI.names_ok hD hU ?_
    unfold namesOf tmpsOf
    rw [List.mem_append, List.mem_append]
    exact .inr (.inl (List.mem_filterMap.2 ⟨.tmp t, by simpa using hx, rfl⟩))
  | const v => exact bare_spec 20 v hok
  | global g =>
    have hb : Nat.blt g s.h.gl = true := hok
    have hlt : g < s.h.gl := Nat.le_of_ble_eq_true hb
    simp only [aEval, hb, cond_true, Act.eval]
    have e : s.h.gl = (hAt ss lh 0).gl := by rw [← hD.gl_eq (Nat.le_of_lt hU.lt), hAt_eq hU.hs]
    refine .ptr ?_
    have h1 := hD.nx_le (Nat.zero_le j) (Nat.le_of_lt hU.lt)
    rw [hAt_eq hU.hs] at h1
    have h2 := hD.gl0
    rw [Ren.cut_get _ (by omega)]
    exact hI.glob hD (by omega)
  | func f => exact VR.func' (.func f) (LR.nil _) (LR.nil _)
theorem Inv.wanted_ok (hD : DrOk P L n ops ds ss lh lt) (hI : Inv P ops n ds ss lh lt φ0 w0 ψ l a w) (hU : Up ops ss l j o s) : Region.wanted o (yielded ops a.tmps) = Region.wanted o (aYielded ops s.tm) := by
  unfold Region.wanted
  cases hg : o.guard with
  | none => rfl
  | some q =>
    obtain ⟨g, want⟩ := q
    simp only
    rw [yielded_at (φ := ψ.cut s.h.next) (tm := s.tm) ops g]
    intro d hd
    refine hI.names_ok hD hU ?_
    unfold namesOf guardT
    rw [hg, List.mem_append, List.mem_append]
    simp only [hd, List.mem_singleton]
    exact .inr (.inr trivial)

/-- Slots, one operation on. -/
theorem tm_same (hD : DrOk P L n ops ds ss lh lt) {t i : Nat} : ∀ (m : Nat), i ≤ m → m ≤ ops.size → (∀ k, i ≤ k → k < m → ¬ Wr ops k t) → (tmAt ss lt m).get t = (tmAt ss lt i).get t := by
  intro m
  induction m with
  | zero => intro h _ _; have : i = 0 := by omega
            subst this; rfl
  | succ m ih =>
    intro h hm hw
    rcases Nat.lt_or_ge i (m + 1) with hlt | hge
    · rw [← ih (by omega) (by omega) (fun k h1 h2 => hw k h1 (by omega))]
      obtain ⟨o, s, ho, hs⟩ := hD.at_ (i := m) (by omega)
      have hp := (hD.step m o s ho hs).2
      rw [tmAt_eq (lt := lt) hs]
      cases hd : o.dst with
      | none => rw [hd] at hp; simp only [putT, Option.some.injEq] at hp; rw [← hp]
      | some d =>
        rw [hd] at hp
        simp only [putT] at hp
        obtain ⟨_, hp⟩ := bif_some hp
        simp only [Option.some.injEq] at hp
        rw [← hp, T.get_put_ne]
        intro e
        subst e
        exact hw m (by omega) (by omega) ⟨o, ho, hd⟩
    · have : i = m + 1 := by omega
      subst this; rfl
theorem Inv.slots_put (hD : DrOk P L n ops ds ss lh lt) (hI : Inv P ops n ds ss lh lt φ0 w0 ψ l a w) (hU : Up ops ss l j o s) {ψ' : Ren} (hle : ψ.le ψ') {v' : Value} (hv : VR (ψ'.cut (hAt ss lh (j + 1)).next) s.v v') :
    ∀ t m, m ≤ ops.size → (∀ i, i < m → Wr ops i t → Li (l.setIfInBounds j true) i) → (∀ i, m ≤ i → Wr ops i t → ¬ Li (l.setIfInBounds j true) i) →
      VR (ψ'.cut (hAt ss lh m).next) (((tmAt ss lt m).get t).getD Go.undef) ((a.put o.dst v').tmps.getD t Go.undef) := by
  intro t m hm hdone hrest
  have hset : ∀ i, Li (l.setIfInBounds j true) i ↔ Li l i ∨ i = j := fun i => li_set (by rw [hI.sz]; exact hU.lt)
  by_cases hd : o.dst = some t
  · have hjm : j < m := by
      rcases Nat.lt_or_ge j m with h | h
      · exact h
      · exact absurd ((hset j).2 (.inr rfl)) (hrest j h ⟨o, hU.ho, hd⟩)
    have hno : ∀ k, j + 1 ≤ k → k < m → ¬ Wr ops k t := by
      rintro k hk1 hk2 ⟨ok, hok, hdk⟩
      have hl := (hset k).1 (hdone k hk2 ⟨ok, hok, hdk⟩)
      have hl : Li l k := hl.resolve_right (by omega)
      rcases hD.slots j k ok o t hok hU.ho hd (by unfold namesOf; rw [hdk]; simp) (by omega) with ⟨_, h⟩ | ⟨h, _⟩
      · exact hU.not (hI.cl j k h hl)
      · omega
    have hp := (hD.step j o s hU.ho hU.hs).2
    rw [hd] at hp
    simp only [putT] at hp
    obtain ⟨hlt, hp⟩ := bif_some hp
    have hlt : t < n := Nat.le_of_ble_eq_true hlt
    simp only [Option.some.injEq] at hp
    rw [tm_same hD m (by omega) hm hno, ← hp, T.get_put_same, hd]
    simp only [Option.getD_some, Act.put]
    rw [Array.getD_eq_getD_getElem?, Array.getElem?_setIfInBounds, if_pos rfl, if_pos (by rw [hI.asz]; exact hlt)]
    exact hv.mono (Ren.cut_mono ψ' (hD.nx_le (by omega) hm))
  · have hnw : ¬ Wr ops j t := by
      rintro ⟨o', ho', hd'⟩
      rw [hU.ho] at ho'; cases ho'
      exact hd hd'
    have h := hI.slots t m hm (fun i hi hw => ((hset i).1 (hdone i hi hw)).resolve_right (fun e => hnw (e ▸ hw))) (fun i hi hw hl => hrest i hi hw ((hset i).2 (.inl hl)))
    have e : (a.put o.dst v').tmps.getD t Go.undef = a.tmps.getD t Go.undef := by
      cases hdd : o.dst with
      | none => rfl
      | some d =>
        simp only [Act.put]
        rw [Array.getD_eq_getD_getElem?, Array.getElem?_setIfInBounds, if_neg (fun e => hd (by rw [hdd, e])), ← Array.getD_eq_getD_getElem?]
    rw [e]
    exact h.mono (Ren.cut_le_cut hle _)
theorem Inv.cl_set (hI : Inv P ops n ds ss lh lt φ0 w0 ψ l a w) (hU : Up ops ss l j o s) : ∀ i k, Reach ops i k → Li (l.setIfInBounds j true) k → Li (l.setIfInBounds j true) i := by
  have hset : ∀ i, Li (l.setIfInBounds j true) i ↔ Li l i ∨ i = j := fun i => li_set (by rw [hI.sz]; exact hU.lt)
  intro i k hr hk
  rcases (hset k).1 hk with h | rfl
  · exact (hset i).2 (.inl (hI.cl i k hr h))
  · exact (hset i).2 (.inl (hU.reach i hr))

/-- An operation that leaves memory as it is. -/
theorem Inv.quiet (hD : DrOk P L n ops ds ss lh lt) (hI : Inv P ops n ds ss lh lt φ0 w0 ψ l a w) (hU : Up ops ss l j o s) (he : isE s.k = false) (ha : isA s.k = false) {v' : Value} (hv : VR (ψ.cut s.h.next) s.v v') :
    Inv P ops n ds ss lh lt φ0 w0 ψ (l.setIfInBounds j true) (a.put o.dst v') w := by
  have hset : ∀ i, Li (l.setIfInBounds j true) i ↔ Li l i ∨ i = j := fun i => li_set (by rw [hI.sz]; exact hU.lt)
  have hq := hD.quiet hU.lt (by rw [kAt_eq hU.hs]; exact he) (by rw [kAt_eq hU.hs]; exact ha)
  have hjE : ∀ i, isE (kAt ss i) = true → i ≠ j := fun i h e => by subst e; rw [kAt_eq hU.hs, he] at h; cases h
  have hjA : ∀ i, isA (kAt ss i) = true → i ≠ j := fun i h e => by subst e; rw [kAt_eq hU.hs, ha] at h; cases h
  refine ⟨by simp [hI.sz], hI.cl_set hU, by rw [put_size]; exact hI.asz, by rw [put_defers]; exact hI.ads, hI.rng, hI.slots_put hD hU (Ren.le_refl ψ) (by rw [hq, hAt_eq hU.hs]; exact hv), ?_⟩
  obtain ⟨m, hm⟩ := hI.heap
  exact ⟨m, hm.le, hm.head, fun i h1 h2 => (hset i).2 (.inl (hm.done i h1 h2)), fun i h1 h2 hl => ((hset i).1 hl).elim (hm.rest i h1 h2) (hjE i h2), hm.hr, hm.goes,
    fun i h1 h2 hl => hm.ahead i h1 h2 (((hset i).1 hl).resolve_right (hjA i h2)), fun q b hq => (hm.names q b hq).imp id (fun ⟨i, h1, h2, h3, h4⟩ => ⟨i, h1, h2, (hset i).2 (.inl h3), h4⟩)⟩
end
end
end Go.Vi
end
