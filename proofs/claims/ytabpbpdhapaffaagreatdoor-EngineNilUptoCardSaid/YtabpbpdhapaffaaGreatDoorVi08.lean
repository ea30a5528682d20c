/-
  Memory that changes: a new block; a block turned; a row that goes over to another name; and the operations that make one block.
-/
import Derived.Test.YtabpbpdhapaffaaGreatDoorVi07
set_option linter.unusedSimpArgs false
set_option linter.unusedVariables false
namespace Go.Vi
variable {P : Program} {φ : Ren} {H : AHeap} {w w1 : World}

theorem HR.of_heap (h : HR φ H w) (e : w1.heap = w.heap) : HR φ H w1 where
  dom := fun i o ho => by rw [e]; exact h.dom i o ho
  inj := h.inj
  glob := h.glob
  rng := by rw [e]; exact h.rng
  caps := by rw [e]; exact h.caps
theorem Goes.of_heap (e : w1.heap = w.heap) (h1 : w1.os = w.os) (h2 : w1.tape = w.tape) (h3 : w1.output = w.output) : Goes φ H w φ H w1 :=
  ⟨Ren.le_refl _, by rw [e]; exact Nat.le_refl _, fun b _ _ => by rw [e], fun b hb => .inl hb, h1, h2, h3, fun i _ h => .inl ⟨i, h⟩⟩

theorem AHeap.get_new (ob : AObj) (j : Nat) : (H.new ob).objs.get j = if j = H.next then some ob else H.objs.get j := T.get_put _ _ _ _
theorem AHeap.get_set (i : Nat) (ob : AObj) (j : Nat) : (H.set i ob).objs.get j = if j = i then some ob else H.objs.get j := T.get_put _ _ _ _

/-- What is known of the room of a row is so of the object. -/
def CapOf (n : Nat) (ob : AObj) (o' : Obj) : Prop := ∀ fl c e c' fr, ob = .cells fl c e → o' = .cells c' e fr → fl.sz ≠ 0 → c'.size = n * fl.sz

theorem HR.push (h : HR φ H w) (hf : Fresh φ H) {ob : AObj} {o' : Obj} {n : Nat} (hor : OR φ ob o') (hcap : CapOf n ob o') (hh : w1.heap = w.heap.push o') (h1 : w1.os = w.os) (h2 : w1.tape = w.tape) (h3 : w1.output = w.output) :
    HR (φ.set H.next w.heap.size n) (H.new ob) w1 ∧ Fresh (φ.set H.next w.heap.size n) (H.new ob) ∧ Goes φ H w (φ.set H.next w.heap.size n) (H.new ob) w1 := by
  have hle : φ.le (φ.set H.next w.heap.size n) := Ren.le_set (hf _ (Nat.le_refl _)) (.inl fun j e => absurd (h.rng j _ e) (Nat.lt_irrefl _))
  have hold : ∀ k, k < w.heap.size → w1.heap[k]? = w.heap[k]? := fun k hk => by rw [hh, Array.getElem?_push, if_neg (by omega)]
  have hnew : w1.heap[w.heap.size]? = some o' := by rw [hh, Array.getElem?_push, if_pos rfl]
  have hset : ∀ j, j ≠ H.next → (φ.set H.next w.heap.size n) j = φ j := fun j hj => Ren.set_ne _ _ _ hj
  have hset0 : (φ.set H.next w.heap.size n) H.next = some w.heap.size := Ren.set_same _ _ _ _
  have hlt : ∀ {j b o}, H.objs.get j = some o → φ j = some b → b < w.heap.size := fun {j b o} _ hb => h.rng j b hb
  refine ⟨⟨?_, ?_, ?_, ?_, ?_⟩, ?_, ⟨hle, by rw [hh]; simp, fun b hb _ => hold b hb, ?_, h1, h2, h3, fun i b hb => by
    by_cases hi : i = H.next
    · subst hi; rw [hset0] at hb; cases hb; exact .inr (Nat.le_refl _)
    · rw [hset i hi] at hb; exact .inl ⟨i, hb⟩⟩⟩
  · intro i o ho
    rw [AHeap.get_new] at ho
    by_cases hi : i = H.next
    · subst hi
      rw [if_pos rfl] at ho; cases ho
      exact ⟨_, o', hset0, hnew, hor.mono hle⟩
    · rw [if_neg hi] at ho
      obtain ⟨b, o2, e1, e2, e3⟩ := h.dom i o ho
      exact ⟨b, o2, by rw [hset i hi]; exact e1, by rw [hold b (hlt ho e1)]; exact e2, e3.mono hle⟩
  · intro i j o o2 b hi hj ei ej ho
    rw [AHeap.get_new] at hi hj
    by_cases h1 : i = H.next
    · by_cases h2 : j = H.next
      · rw [h1, h2]
      · exfalso
        rw [if_neg h2] at hj
        rw [h1, hset0] at ei; cases ei
        rw [hset j h2] at ej
        have := hlt hj ej; omega
    · rw [if_neg h1] at hi
      rw [hset i h1] at ei
      by_cases h2 : j = H.next
      · exfalso
        rw [h2, hset0] at ej; cases ej
        have := hlt hi ei; omega
      · rw [if_neg h2] at hj
        rw [hset j h2] at ej
        exact h.inj i j o o2 b hi hj ei ej ho
  · intro i hi
    have hi : i < H.gl := hi
    have := h.glob i hi
    have hne : i ≠ H.next := fun e => by rw [e, hf _ (Nat.le_refl _)] at this; cases this
    rw [hset i hne]; exact this
  · intro i b hb
    rw [hh, Array.size_push]
    by_cases h1 : i = H.next
    · subst h1; rw [hset0] at hb; cases hb; omega
    · rw [hset i h1] at hb; have := h.rng i b hb; omega
  · intro i fl c e b c' fr hi hb hw hs
    rw [AHeap.get_new] at hi
    by_cases h1 : i = H.next
    · subst h1
      rw [if_pos rfl] at hi; cases hi
      rw [hset0] at hb; cases hb
      rw [hnew] at hw; cases hw
      rw [Ren.set_k]
      exact hcap fl c e c' fr rfl rfl hs
    · rw [if_neg h1] at hi
      rw [hset i h1] at hb
      rw [hold b (hlt hi hb)] at hw
      rw [hle.2 _ _ hb]
      exact h.caps i fl c e b c' fr hi hb hw hs
  · intro i hi
    have hi : H.next + 1 ≤ i := hi
    rw [hset i (by omega)]; exact hf i (by omega)
  · rintro b ⟨i, o, hi, hw, hb⟩
    rw [AHeap.get_new] at hi
    by_cases h1 : i = H.next
    · subst h1; rw [hset0] at hb; cases hb; exact .inr (Nat.le_refl _)
    · rw [if_neg h1] at hi; rw [hset i h1] at hb; exact .inl ⟨i, o, hi, hw, hb⟩

theorem HR.turn (h : HR φ H w) (hf : Fresh φ H) {i b : Nat} {ob ob1 : AObj} {o1 : Obj} (hi : H.objs.get i = some ob) (hb : φ i = some b) (hw : ob.wr = true) (hor : OR φ ob1 o1) (hcap : CapOf (φ.k b) ob1 o1)
    (hs : w1.heap.size = w.heap.size) (hk : ∀ k, k ≠ b → w1.heap[k]? = w.heap[k]?) (hn : w1.heap[b]? = some o1) (h1 : w1.os = w.os) (h2 : w1.tape = w.tape) (h3 : w1.output = w.output) :
    HR φ (H.set i ob1) w1 ∧ Fresh φ (H.set i ob1) ∧ Goes φ H w φ (H.set i ob1) w1 := by
  have hother : ∀ {j o b'}, j ≠ i → H.objs.get j = some o → φ j = some b' → b' ≠ b := fun {j o b'} hj ho hb' e => by
    subst e
    exact hj (h.inj i j ob o _ hi ho hb hb' hw).symm
  refine ⟨⟨?_, ?_, h.glob, by rw [hs]; exact h.rng, ?_⟩, hf, ⟨Ren.le_refl _, by rw [hs]; exact Nat.le_refl _, ?_, ?_, h1, h2, h3, fun i _ h => .inl ⟨i, h⟩⟩⟩
  · intro j o ho
    rw [AHeap.get_set] at ho
    by_cases hj : j = i
    · subst hj; rw [if_pos rfl] at ho; cases ho; exact ⟨b, o1, hb, hn, hor⟩
    · rw [if_neg hj] at ho
      obtain ⟨b', o2, e1, e2, e3⟩ := h.dom j o ho
      exact ⟨b', o2, e1, by rw [hk b' (hother hj ho e1)]; exact e2, e3⟩
  · intro j k o o2 b' hj hk' ej ek ho
    rw [AHeap.get_set] at hj hk'
    by_cases e1 : j = i
    · by_cases e2 : k = i
      · rw [e1, e2]
      · exfalso
        rw [if_neg e2] at hk'
        rw [e1, hb] at ej; cases ej
        exact hother e2 hk' ek rfl
    · rw [if_neg e1] at hj
      by_cases e2 : k = i
      · exfalso
        rw [e2, hb] at ek; cases ek
        exact hother e1 hj ej rfl
      · rw [if_neg e2] at hk'
        exact h.inj j k o o2 b' hj hk' ej ek ho
  · intro j fl c e b' c' fr hj hb' hw' hsz
    rw [AHeap.get_set] at hj
    by_cases e1 : j = i
    · subst e1
      rw [if_pos rfl] at hj; cases hj
      rw [hb] at hb'; cases hb'
      rw [hn] at hw'; cases hw'
      exact hcap fl c e c' fr rfl rfl hsz
    · rw [if_neg e1] at hj
      rw [hk b' (hother e1 hj hb')] at hw'
      exact h.caps j fl c e b' c' fr hj hb' hw' hsz
  · intro k _ hno
    refine hk k fun e => hno ?_
    subst e
    exact ⟨i, ob, hi, hw, hb⟩
  · rintro k ⟨j, o, hj, hwj, hbj⟩
    rw [AHeap.get_set] at hj
    by_cases e1 : j = i
    · subst e1; exact .inl ⟨j, ob, hi, hw, hbj⟩
    · rw [if_neg e1] at hj; exact .inl ⟨j, o, hj, hwj, hbj⟩

theorem AHeap.get_drop (i j : Nat) : (H.drop i).objs.get j = if j = i then none else H.objs.get j := T.get_del _ _ _
theorem HR.drop (h : HR φ H w) (i : Nat) : HR φ (H.drop i) w where
  dom := fun j o ho => by
    rw [AHeap.get_drop] at ho
    by_cases e : j = i
    · rw [if_pos e] at ho; cases ho
    · rw [if_neg e] at ho; exact h.dom j o ho
  inj := fun j k o o' b hj hk ej ek ho => by
    rw [AHeap.get_drop] at hj hk
    by_cases e : j = i
    · rw [if_pos e] at hj; cases hj
    · rw [if_neg e] at hj
      by_cases e2 : k = i
      · rw [if_pos e2] at hk; cases hk
      · rw [if_neg e2] at hk; exact h.inj j k o o' b hj hk ej ek ho
  glob := h.glob
  rng := h.rng
  caps := fun j fl c e b c' fr hj => by
    rw [AHeap.get_drop] at hj
    by_cases e1 : j = i
    · rw [if_pos e1] at hj; cases hj
    · rw [if_neg e1] at hj; exact h.caps j fl c e b c' fr hj
theorem Goes.drop (φ : Ren) (H : AHeap) (w : World) (i : Nat) : Goes φ H w φ (H.drop i) w :=
  ⟨Ren.le_refl _, Nat.le_refl _, fun _ _ _ => rfl, fun b ⟨j, o, hj, hw, hb⟩ => by
    rw [AHeap.get_drop] at hj
    by_cases e : j = i
    · rw [if_pos e] at hj; cases hj
    · rw [if_neg e] at hj; exact .inl ⟨j, o, hj, hw, hb⟩, rfl, rfl, rfl, fun i _ h => .inl ⟨i, h⟩⟩

/-- A row goes over to a new name, and is turned. -/
theorem HR.move (h : HR φ H w) (hf : Fresh φ H) {i b : Nat} {ob ob1 : AObj} {o1 : Obj} (hi : H.objs.get i = some ob) (hb : φ i = some b) (hw : ob.wr = true) (hor : OR φ ob1 o1) (hcap : CapOf (φ.k b) ob1 o1)
    (hs : w1.heap.size = w.heap.size) (hk : ∀ k, k ≠ b → w1.heap[k]? = w.heap[k]?) (hn : w1.heap[b]? = some o1) (h1 : w1.os = w.os) (h2 : w1.tape = w.tape) (h3 : w1.output = w.output) :
    HR (φ.set H.next b (φ.k b)) ((H.drop i).new ob1) w1 ∧ Fresh (φ.set H.next b (φ.k b)) ((H.drop i).new ob1) ∧ Goes φ H w (φ.set H.next b (φ.k b)) ((H.drop i).new ob1) w1 := by
  have hle : φ.le (φ.set H.next b (φ.k b)) := Ren.le_set (hf _ (Nat.le_refl _)) (.inr rfl)
  have hset : ∀ j, j ≠ H.next → (φ.set H.next b (φ.k b)) j = φ j := fun j hj => Ren.set_ne _ _ _ hj
  have hset0 : (φ.set H.next b (φ.k b)) H.next = some b := Ren.set_same _ _ _ _
  have hget : ∀ j, ((H.drop i).new ob1).objs.get j = if j = H.next then some ob1 else if j = i then none else H.objs.get j := fun j => by
    rw [AHeap.get_new, AHeap.get_drop]; rfl
  have hother : ∀ {j o b'}, j ≠ i → H.objs.get j = some o → φ j = some b' → b' ≠ b := fun {j o b'} hj ho hb' e => by
    subst e
    exact hj (h.inj i j ob o _ hi ho hb hb' hw).symm
  refine ⟨⟨?_, ?_, ?_, ?_, ?_⟩, ?_, ⟨hle, by rw [hs]; exact Nat.le_refl _, ?_, ?_, h1, h2, h3, fun j c hc => by
    by_cases e1 : j = H.next
    · subst e1; rw [hset0] at hc; cases hc; exact .inl ⟨i, hb⟩
    · rw [hset j e1] at hc; exact .inl ⟨j, hc⟩⟩⟩
  · intro j o ho
    rw [hget] at ho
    by_cases e1 : j = H.next
    · subst e1; rw [if_pos rfl] at ho; cases ho; exact ⟨b, o1, hset0, hn, hor.mono hle⟩
    · rw [if_neg e1] at ho
      by_cases e2 : j = i
      · rw [if_pos e2] at ho; cases ho
      · rw [if_neg e2] at ho
        obtain ⟨b', o2, g1, g2, g3⟩ := h.dom j o ho
        exact ⟨b', o2, by rw [hset j e1]; exact g1, by rw [hk b' (hother e2 ho g1)]; exact g2, g3.mono hle⟩
  · intro j k o o2 b' hj hk' ej ek ho
    rw [hget] at hj hk'
    by_cases e1 : j = H.next
    · by_cases e2 : k = H.next
      · rw [e1, e2]
      · exfalso
        rw [if_neg e2] at hk'
        by_cases e3 : k = i
        · rw [if_pos e3] at hk'; cases hk'
        · rw [if_neg e3] at hk'
          rw [e1, hset0] at ej; cases ej
          rw [hset k e2] at ek
          exact hother e3 hk' ek rfl
    · rw [if_neg e1] at hj
      rw [hset j e1] at ej
      by_cases e3 : j = i
      · rw [if_pos e3] at hj; cases hj
      rw [if_neg e3] at hj
      by_cases e2 : k = H.next
      · exfalso
        rw [e2, hset0] at ek; cases ek
        exact hother e3 hj ej rfl
      · rw [if_neg e2] at hk'
        by_cases e4 : k = i
        · rw [if_pos e4] at hk'; cases hk'
        · rw [if_neg e4] at hk'
          rw [hset k e2] at ek
          exact h.inj j k o o2 b' hj hk' ej ek ho
  · intro j hj
    have hj : j < H.gl := hj
    have := h.glob j hj
    have hne : j ≠ H.next := fun e => by rw [e, hf _ (Nat.le_refl _)] at this; cases this
    rw [hset j hne]; exact this
  · intro j b' hb'
    rw [hs]
    by_cases e1 : j = H.next
    · subst e1; rw [hset0] at hb'; cases hb'; exact h.rng i b hb
    · rw [hset j e1] at hb'; exact h.rng j b' hb'
  · intro j fl c e b' c' fr hj hb' hw' hsz
    rw [hget] at hj
    by_cases e1 : j = H.next
    · subst e1
      rw [if_pos rfl] at hj; cases hj
      rw [hset0] at hb'; cases hb'
      rw [hn] at hw'; cases hw'
      rw [Ren.set_k]
      exact hcap fl c e c' fr rfl rfl hsz
    · rw [if_neg e1] at hj
      by_cases e2 : j = i
      · rw [if_pos e2] at hj; cases hj
      · rw [if_neg e2] at hj
        rw [hset j e1] at hb'
        rw [hk b' (hother e2 hj hb')] at hw'
        rw [hle.2 _ _ hb']
        exact h.caps j fl c e b' c' fr hj hb' hw' hsz
  · intro j hj
    have hj : H.next + 1 ≤ j := hj
    rw [hset j (by omega)]; exact hf j (by omega)
  · intro k _ hno
    refine hk k fun e => hno ?_
    subst e
    exact ⟨i, ob, hi, hw, hb⟩
  · rintro k ⟨j, o, hj, hwj, hbj⟩
    rw [hget] at hj
    by_cases e1 : j = H.next
    · subst e1; rw [hset0] at hbj; cases hbj; exact .inl ⟨i, ob, hi, hw, hb⟩
    · rw [if_neg e1] at hj
      by_cases e2 : j = i
      · rw [if_pos e2] at hj; cases hj
      · rw [if_neg e2] at hj; rw [hset j e1] at hbj; exact .inl ⟨j, o, hj, hwj, hbj⟩

/-! ### Stores -/
theorem oneCell_eq (v : Value) : oneCell v = v.oneCell' := by cases v <;> rfl
theorem frozen_off {b o : Nat} {c' : Array Value} {e : TypeId} {fr : Nat × Nat} (h : w.heap[b]? = some (.cells c' e fr)) (hfr : ¬ (fr.1 ≤ o ∧ o < fr.2)) : w.frozen? ⟨b, o, none⟩ = false := by
  unfold World.frozen?
  simp only [h]
  simp only [Bool.and_eq_false_iff, decide_eq_false_iff_not]
  omega
theorem splice_cons {cur : List Value} {k : Nat} (h : k < cur.length) (v : Value) (vs : List Value) : splice (cur.set k v) (k + 1) vs = splice cur k (v :: vs) := by
  unfold splice
  have e1 : (cur.set k v).take (k + 1) = cur.take k ++ [v] := by
    rw [List.take_set, List.take_succ_eq_append_getElem h, List.set_append_right _ _ (by simp; omega)]
    simp [Nat.min_eq_left (Nat.le_of_lt h)]
  have e2 : (cur.set k v).drop (k + 1 + vs.length) = cur.drop (k + (v :: vs).length) := by
    rw [List.drop_set_of_lt (by omega)]
    congr 1
    simp only [List.length_cons]; omega
  rw [e1, e2]
  simp
/-- Cells laid one behind the other into a row. -/
theorem run_storeCells {b : Nat} {e : TypeId} {fr : Nat × Nat} : ∀ (vs : List Value) (o i : Nat) (cur : Array Value) (w : World), w.heap[b]? = some (.cells cur e fr) →
    o + i + vs.length ≤ cur.size → (∀ j, j < cur.size → ¬ (fr.1 ≤ j ∧ j < fr.2)) → (∀ v ∈ vs, oneCell v = true) →
    ∃ w', (storeCells ⟨b, o, none⟩ vs i).run P w = .ok () w' ∧ w'.heap.size = w.heap.size ∧ (∀ k, k ≠ b → w'.heap[k]? = w.heap[k]?) ∧
      w'.heap[b]? = some (.cells (splice cur.toList (o + i) vs).toArray e fr) ∧ w'.os = w.os ∧ w'.tape = w.tape ∧ w'.output = w.output
  | [], o, i, cur, w, hb, _, _, _ => by
    refine ⟨w, rfl, rfl, fun _ _ => rfl, ?_, rfl, rfl, rfl⟩
    rw [hb]
    simp [splice]
  | v :: vs, o, i, cur, w, hb, hl, hfr, hv => by
    simp only [List.length_cons] at hl
    have hlt : o + i < cur.size := by omega
    have hc : w.cell? ⟨b, o + i, none⟩ = some cur[o + i] := by rw [cell_at hb, Array.getElem?_eq_getElem hlt]
    have hz := frozen_off (w := w) (o := o + i) hb (hfr _ hlt)
    have hst : (store ((⟨b, o, none⟩ : Addr).add i) v).run P w = .ok () (w.setCell ⟨b, o + i, none⟩ v) := by
      rw [addAddr_eq, run_store P w _ v _ (by rw [← oneCell_eq]; exact hv v (by simp)), hc]
      simp [hz]
    have hb1 : (w.setCell ⟨b, o + i, none⟩ v).heap[b]? = some (.cells (cur.setIfInBounds (o + i) v) e fr) := by
      simp only [World.setCell, Array.getElem?_modify, if_true, hb, Option.map_some]
      rfl
    obtain ⟨w', g1, g2, g3, g4, g5, g6, g7⟩ := run_storeCells vs o (i + 1) _ _ hb1 (by simp; omega) (by simpa using hfr) (fun u hu => hv u (by simp [hu]))
    refine ⟨w', ?_, by rw [g2]; simp, fun k hk => ?_, ?_, by rw [g5]; rfl, by rw [g6]; rfl, by rw [g7]; rfl⟩
    · simp only [storeCells, Sem.run_bind, hst, Result.andThen_ok, g1]
    · rw [g3 k hk]
      simp only [World.setCell, Array.getElem?_modify]
      rw [if_neg (Ne.symm hk)]
    · rw [g4]
      congr 2
      congr 1
      rw [Array.toList_setIfInBounds, show o + (i + 1) = o + i + 1 by omega, splice_cons (by simpa using hlt)]

theorem splice_LR {c c' vs vs' : List Value} {o : Nat} (h : LR φ c (c'.take c.length)) (hv : LR φ vs vs') (hl : o + vs.length ≤ c.length) :
    LR φ (splice c o vs) ((splice c' o vs').take (splice c o vs).length) ∧ (splice c o vs).length = c.length := by
  have hlen : (splice c o vs).length = c.length := by simp [splice]; omega
  have hcl : c.length ≤ c'.length := by have := h.1; simp only [List.length_take] at this; omega
  refine ⟨?_, hlen⟩
  rw [hlen]
  have e1 : (splice c' o vs').take c.length = (c'.take c.length).take o ++ (vs' ++ (c'.take c.length).drop (o + vs'.length)) := by
    have h1 := hv.1
    unfold splice
    have a1 : (c'.take o).length = o := by simp only [List.length_take]; omega
    rw [List.take_append, List.take_of_length_le (l := c'.take o) (by omega), a1, List.take_append, List.take_of_length_le (l := vs') (by omega), List.take_take, Nat.min_eq_left (by omega), List.drop_take]
    congr 3
    omega
  rw [e1]
  simp only [splice]
  rw [← hv.1]
  exact (h.take o).append (hv.append (h.drop _))

end Go.Vi
