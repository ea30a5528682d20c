/-
  Regions that draw their order: what is asked of them; small laws.
-/
import Derived.Test.YtabpbpdhapaffaaGreatDoorVi17
set_option linter.unusedSimpArgs false
set_option linter.unusedVariables false
namespace Go.Vi
variable {P : Program} {φ ψ : Ren} {H K : AHeap} {w : World}

/-! ### Names below a bound -/
def Ren.cut (φ : Ren) (n : Nat) : Ren := ⟨fun j => if j < n then φ j else none, φ.k⟩
theorem Ren.cut_some {φ : Ren} {n i b : Nat} (h : (φ.cut n) i = some b) : i < n ∧ φ i = some b := by
  simp only [Ren.cut] at h
  split at h
  · rename_i hi; exact ⟨hi, h⟩
  · cases h
theorem Ren.cut_get (φ : Ren) {n i : Nat} (h : i < n) : (φ.cut n) i = φ i := if_pos h
theorem Ren.cut_out (φ : Ren) {n i : Nat} (h : n ≤ i) : (φ.cut n) i = none := if_neg (by omega)
theorem Ren.cut_le (φ : Ren) (n : Nat) : (φ.cut n).le φ := ⟨fun _ _ h => (Ren.cut_some h).2, fun _ _ _ => rfl⟩
theorem Ren.cut_mono (φ : Ren) {n m : Nat} (h : n ≤ m) : (φ.cut n).le (φ.cut m) :=
  ⟨fun i b hb => by obtain ⟨h1, h2⟩ := Ren.cut_some hb; rw [Ren.cut_get _ (by omega)]; exact h2, fun _ _ _ => rfl⟩
theorem Ren.cut_le_cut {φ ψ : Ren} (h : φ.le ψ) (n : Nat) : (φ.cut n).le (ψ.cut n) :=
  ⟨fun i b hb => by obtain ⟨h1, h2⟩ := Ren.cut_some hb; rw [Ren.cut_get _ h1]; exact h.1 i b h2, fun i b hb => h.2 i b (Ren.cut_some hb).2⟩
theorem low_ok {v v' : Value} (h : VR φ v v') : ∀ (n k : Nat), lowV n k v = true → VR (φ.cut k) v v' := by
  have hl : ∀ {i k : Nat}, Nat.blt i k = true → i < k := fun h => Nat.le_of_ble_eq_true h
  induction h with
  | bool b => intro n k h; exact .bool b
  | int k n => intro _ _ h; exact .int k n
  | float k b => intro n _ h; exact .float k b
  | complex k a b => intro n _ h; exact .complex k a b
  | string s => intro n k h; exact .string s
  | ptrNil => intro n k h; exact .ptrNil
  | ptr e => intro n k h; exact .ptr (by rw [Ren.cut_get _ (hl (by cases n <;> exact h))]; exact e)
  | sliceNil => intro n k h; exact .sliceNil
  | slice l e hc hk => intro n k h; exact .slice l (by rw [Ren.cut_get _ (hl (by cases n <;> exact h))]; exact e) hc hk
  | sliceDead a hc => intro n k h; exact .sliceDead a hc
  | mapNil => intro n k h; exact .mapNil
  | map e => intro n k h; exact .map (by rw [Ren.cut_get _ (hl (by cases n <;> exact h))]; exact e)
  | chanNil => intro n k h; exact .chanNil
  | nilFunc => intro n k h; exact .nilFunc
  | func hf hx _ hy _ i1 i2 =>
    intro n k h
    cases n with
    | zero => cases hf <;> simp [lowV] at h
    | succ n =>
      cases hf with
      | yield e => simp [lowV] at h
      | func f =>
        simp only [lowV, Bool.and_eq_true, List.all_eq_true] at h
        exact .func (.func f) hx (fun i h1 h2 => i1 i h1 h2 n k (h.1 _ (by simp))) hy (fun i h1 h2 => i2 i h1 h2 n k (h.2 _ (by simp)))
  | nilIface => intro n k h; exact .nilIface
  | iface t _ ih =>
    intro n k h
    cases n with
    | zero => simp [lowV] at h
    | succ n => exact .iface t (ih n k (by simpa [lowV] using h))
  | agg hx _ ih =>
    intro n k h
    cases n with
    | zero => simp [lowV] at h
    | succ n =>
      simp only [lowV, List.all_eq_true] at h
      exact .agg hx (fun i h1 h2 => ih i h1 h2 n k (h _ (by simp)))
  | tuple hx _ ih =>
    intro n k h
    cases n with
    | zero => simp [lowV] at h
    | succ n =>
      simp only [lowV, List.all_eq_true] at h
      exact .tuple hx (fun i h1 h2 => ih i h1 h2 n k (h _ (by simp)))

theorem sameL_ok {f : Value → Value → Bool} (hf : ∀ a b, f a b = true → a = b) : ∀ (x y : List Value), sameV.sameL f x y = true → x = y
  | [], [], _ => rfl
  | [], _ :: _, h => by simp [sameV.sameL] at h
  | _ :: _, [], h => by simp [sameV.sameL] at h
  | a :: x, b :: y, h => by
    simp only [sameV.sameL, Bool.and_eq_true] at h
    rw [hf a b h.1, sameL_ok hf x y h.2]
theorem addr_eq {a b : Addr} (h1 : Nat.beq a.block b.block = true) (h2 : Nat.beq a.off b.off = true) (h3 : a.spot.isNone = true) (h4 : b.spot.isNone = true) : a = b := by
  obtain ⟨x, y, z⟩ := a
  obtain ⟨x', y', z'⟩ := b
  simp only at *
  rw [beq_true h1, beq_true h2, Option.isNone_iff_eq_none.1 h3, Option.isNone_iff_eq_none.1 h4]
theorem sameV_zero (a b : Value) (h : sameV 0 a b = true) : a = b := by
  unfold sameV at h
  split at h <;> first
      | (cases h; done)
      | rfl
      | (simp only [decide_eq_true_eq] at h; rw [h]; done)
      | (simp only [Bool.and_eq_true, decide_eq_true_eq] at h; rw [h.1, h.2]; done)
      | (simp only [decide_eq_true_eq] at h; rename_i x y; obtain ⟨⟨x⟩⟩ := x; obtain ⟨⟨y⟩⟩ := y; simp only at h; rw [h]; done)
      | (simp only [Bool.and_eq_true] at h; obtain ⟨⟨⟨h1, h2⟩, h3⟩, h4⟩ := h; rw [addr_eq h1 h2 h3 h4]; done)
      | (simp only [Bool.and_eq_true] at h; obtain ⟨⟨⟨⟨⟨h1, h2⟩, h3⟩, h4⟩, h5⟩, h6⟩ := h; rw [addr_eq h1 h2 h3 h4, beq_true h5, beq_true h6]; done)
      | (simp only [Bool.and_eq_true] at h; rw [beq_true h.1, beq_true h.2]; done)
      | (rw [beq_true h]; done)
      | omega
theorem sameV_ok : ∀ (n : Nat) (a b : Value), sameV n a b = true → a = b := by
  intro n
  induction n with
  | zero => exact sameV_zero
  | succ n ih =>
    intro a b h
    cases a with
    | iface t v =>
      cases b <;> try (cases h; done)
      have h : (Nat.beq t _ && sameV n v _) = true := h
      simp only [Bool.and_eq_true] at h
      rw [beq_true h.1, ih _ _ h.2]
    | agg x =>
      cases b <;> try (cases h; done)
      have h : sameV.sameL (sameV n) x.toList _ = true := h
      rw [Array.ext' (sameL_ok ih _ _ h)]
    | tuple x =>
      cases b <;> try (cases h; done)
      have h : sameV.sameL (sameV n) x.toList _ = true := h
      rw [Array.ext' (sameL_ok ih _ _ h)]
    | func f x y =>
      cases b <;> try (cases f <;> cases h; done)
      rename_i g x' y'
      cases f <;> cases g <;> try (cases h; done)
      rename_i f g
      have h : (Nat.beq f g && sameV.sameL (sameV n) x.toList x'.toList && sameV.sameL (sameV n) y.toList y'.toList) = true := h
      simp only [Bool.and_eq_true] at h
      rw [beq_true h.1.1, Array.ext' (sameL_ok ih _ _ h.1.2), Array.ext' (sameL_ok ih _ _ h.2)]
    | bool _ => exact sameV_zero _ b (by cases b <;> exact h)
    | int _ _ => exact sameV_zero _ b (by cases b <;> exact h)
    | float _ _ => exact sameV_zero _ b (by cases b <;> exact h)
    | complex _ _ _ => exact sameV_zero _ b (by cases b <;> exact h)
    | string _ => exact sameV_zero _ b (by cases b <;> exact h)
    | pointer p => exact sameV_zero _ b (by cases p <;> cases b <;> (try rename_i q; cases q) <;> exact h)
    | slice p _ _ => exact sameV_zero _ b (by cases p <;> cases b <;> (try rename_i q _ _; cases q) <;> exact h)
    | map p => exact sameV_zero _ b (by cases p <;> cases b <;> (try rename_i q; cases q) <;> exact h)
    | chan p => exact sameV_zero _ b (by cases p <;> cases b <;> (try rename_i q; cases q) <;> exact h)
    | nilFunc => exact sameV_zero _ b (by cases b <;> exact h)
    | nilIface => exact sameV_zero _ b (by cases b <;> exact h)

/-! ### Which operation waits for which -/
inductive Reach (ops : Array Oper) : Nat → Nat → Prop
  | edge {j : Nat} {o : Oper} {e : Edge} (ho : ops[j]? = some o) (he : e ∈ o.after.toList) (hb : Region.binds .any e = true) : Reach ops e.on j
  | trans {i j k : Nat} (h : Reach ops i j) (h' : Reach ops j k) : Reach ops i k
theorem befEdges_ok {ops : Array Oper} {acc : Array Nat} {j : Nat} {o : Oper} (ho : ops[j]? = some o) (hacc : ∀ m i, (acc.getD m 0).testBit i = true → Reach ops i m) :
    ∀ (es : List Edge) (s : Nat), (∀ e ∈ es, e ∈ o.after.toList) → (∀ i, s.testBit i = true → Reach ops i j) → ∀ i, (befEdges acc es s).testBit i = true → Reach ops i j
  | [], s, _, hs, i, h => hs i h
  | e :: es, s, he, hs, i, h => by
    refine befEdges_ok ho hacc es _ (fun e' h' => he e' (by simp [h'])) ?_ i h
    intro i h
    cases hb : Region.binds .any e with
    | false => rw [hb, cond_false] at h; exact hs i h
    | true =>
      rw [hb, cond_true, Nat.testBit_or, Nat.testBit_or, Nat.testBit_two_pow] at h
      simp only [Bool.or_eq_true, decide_eq_true_eq] at h
      have h0 : Reach ops e.on j := .edge ho (he e (by simp)) hb
      rcases h with (h | h) | h
      · exact hs i h
      · exact h ▸ h0
      · exact (hacc _ _ h).trans h0
theorem befs_ok {ops : Array Oper} : ∀ (rest : List Oper) (acc : Array Nat), rest = ops.toList.drop acc.size → (∀ m i, (acc.getD m 0).testBit i = true → Reach ops i m) →
    ∀ m i, ((befs rest acc).getD m 0).testBit i = true → Reach ops i m
  | [], acc, _, hacc => hacc
  | o :: rest, acc, hr, hacc => by
    have hlt : acc.size < ops.toList.length := by
      rcases Nat.lt_or_ge acc.size ops.toList.length with h | h
      · exact h
      · rw [List.drop_eq_nil_of_le h] at hr; cases hr
    rw [List.drop_eq_getElem_cons hlt] at hr
    simp only [List.cons.injEq] at hr
    obtain ⟨ho, hrest⟩ := hr
    have hi : ops[acc.size]? = some o := by
      rw [← Array.getElem?_toList, List.getElem?_eq_getElem hlt, ← ho]
    refine befs_ok rest _ (by simpa using hrest) ?_
    intro m i h
    rw [Array.getD_eq_getD_getElem?, Array.getElem?_push] at h
    by_cases hm : m = acc.size
    · subst hm
      rw [if_pos rfl] at h
      exact befEdges_ok hi hacc _ 0 (fun _ h => h) (fun i h => by simp at h) i h
    · rw [if_neg hm, ← Array.getD_eq_getD_getElem?] at h
      exact hacc m i h
theorem waits_ok {ops : Array Oper} {i j : Nat} (h : waits (bef ops) i j = true) : Reach ops i j :=
  befs_ok ops.toList #[] (by simp) (fun m i h => by simp at h) j i h
end Go.Vi
