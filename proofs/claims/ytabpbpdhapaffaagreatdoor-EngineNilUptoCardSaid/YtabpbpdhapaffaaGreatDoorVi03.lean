/-
  The interpreter's operations that hang on their operands alone are what the model does.
-/
import Derived.Test.YtabpbpdhapaffaaGreatDoorVi02
set_option linter.unusedSimpArgs false
set_option linter.unusedVariables false
namespace Go.Vi

theorem pureRun_sound {α : Type} {P : Program} : ∀ (s : Sem α) {a : α}, pureRun P s = some a → ∀ w, s.run P w = .ok a w := by
  intro s
  induction s with
  | pure a => intro b h w; simp only [pureRun, Option.some.injEq] at h; subst h; rfl
  | program k ih => intro b h w; simp only [pureRun] at h; exact ih P h w
  | mark m k ih => intro b h w; simp only [pureRun] at h; exact ih h w
  | choose q k ih =>
    intro b h w
    simp only [pureRun] at h
    cases hq : q.forced with
    | true =>
      rw [hq, cond_true] at h
      simp only [Sem.run, hq, if_true]
      exact ih 0 h w
    | false => rw [hq, cond_false] at h; cases h
  | load m a k _ => intro b h w; simp [pureRun] at h
  | store m a v k _ => intro b h w; simp [pureRun] at h
  | new o k _ => intro b h w; simp [pureRun] at h
  | shape r k _ => intro b h w; simp [pureRun] at h
  | freeze a n k _ => intro b h w; simp [pureRun] at h
  | frozen a k _ => intro b h w; simp [pureRun] at h
  | getObj r k _ => intro b h w; simp [pureRun] at h
  | setObj r o k _ => intro b h w; simp [pureRun] at h
  | sys c k _ => intro b h w; simp [pureRun] at h
  | halt x => intro b h w; simp [pureRun] at h

theorem VR.inj_bare {φ : Ren} {v v' : Value} (h : VR φ v v') : ∀ n, bare n v = true → v' = v := by
  induction h with
  | bool b => intro n _; rfl
  | int k n => intro n _; rfl
  | float k b => intro n _; rfl
  | complex k a b => intro n _; rfl
  | string s => intro n _; rfl
  | ptrNil => intro n _; rfl
  | ptr e => intro n h; cases n <;> simp [bare] at h
  | sliceNil => intro n _; rfl
  | slice l e hc hk => intro n h; cases n <;> simp [bare] at h
  | sliceDead a hc => intro n h; cases n <;> simp [bare] at h
  | mapNil => intro n _; rfl
  | map e => intro n h; cases n <;> simp [bare] at h
  | chanNil => intro n _; rfl
  | nilFunc => intro n _; rfl
  | func hf hx _ hy _ i1 i2 =>
    intro n h
    cases n with
    | zero => simp [bare] at h
    | succ n =>
      cases hf with
      | yield e => simp [bare] at h
      | func f =>
        simp only [bare, Bool.and_eq_true, List.all_eq_true] at h
        rename_i x y x' y' _ _
        have e1 : x' = x := Array.ext hx.symm fun i h1 h2 => i1 i h2 h1 n (h.1 _ (by simp))
        have e2 : y' = y := Array.ext hy.symm fun i h1 h2 => i2 i h2 h1 n (h.2 _ (by simp))
        rw [e1, e2]
  | nilIface => intro n _; rfl
  | iface t _ ih =>
    intro n h
    cases n with
    | zero => simp [bare] at h
    | succ n => rw [ih n (by simpa [bare] using h)]
  | agg hx _ ih =>
    intro n h
    cases n with
    | zero => simp [bare] at h
    | succ n =>
      simp only [bare, List.all_eq_true] at h
      rename_i x x' _
      have e1 : x' = x := Array.ext hx.symm fun i h1 h2 => ih i h2 h1 n (h _ (by simp))
      rw [e1]
  | tuple hx _ ih =>
    intro n h
    cases n with
    | zero => simp [bare] at h
    | succ n =>
      simp only [bare, List.all_eq_true] at h
      rename_i x x' _
      have e1 : x' = x := Array.ext hx.symm fun i h1 h2 => ih i h2 h1 n (h _ (by simp))
      rw [e1]

/-! ### Small inversions -/
section
variable {φ : Ren} {v' : Value}
theorem VR.bool_inv {b : Bool} (h : VR φ (.bool b) v') : v' = .bool b := by cases h; rfl
theorem VR.int_inv {k : IntKind} {n : Int} (h : VR φ (.int k n) v') : v' = .int k n := by cases h; rfl
theorem VR.string_inv {s : ByteArray} (h : VR φ (.string s) v') : v' = .string s := by cases h; rfl
theorem VR.ptrNil_inv (h : VR φ (.pointer none) v') : v' = .pointer none := by cases h; rfl
theorem VR.ptr_inv {a : Addr} (h : VR φ (.pointer (some a)) v') : ∃ b, φ a.block = some b ∧ a.spot = none ∧ v' = .pointer (some ⟨b, a.off, none⟩) := by
  cases h with
  | ptr e => exact ⟨_, e, rfl, rfl⟩
theorem VR.agg_inv {x : Array Value} (h : VR φ (.agg x) v') : ∃ x', v' = .agg x' ∧ AR φ x x' := by
  cases h with
  | agg hx hx' => exact ⟨_, rfl, LR.of_get hx hx'⟩
theorem VR.tuple_inv {x : Array Value} (h : VR φ (.tuple x) v') : ∃ x', v' = .tuple x' ∧ AR φ x x' := by
  cases h with
  | tuple hx hx' => exact ⟨_, rfl, LR.of_get hx hx'⟩
theorem VR.iface_inv {t : TypeId} {v : Value} (h : VR φ (.iface t v) v') : ∃ u, v' = .iface t u ∧ VR φ v u := by
  cases h with
  | iface _ h => exact ⟨_, rfl, h⟩
theorem VR.func_inv {f : Fn} {x y : Array Value} (h : VR φ (.func f x y) v') : ∃ f' x' y', v' = .func f' x' y' ∧ FnR φ f f' ∧ AR φ x x' ∧ AR φ y y' := by
  cases h with
  | func hf hx hx' hy hy' => exact ⟨_, _, _, rfl, hf, LR.of_get hx hx', LR.of_get hy hy'⟩
theorem VR.map_inv {r : Nat} (h : VR φ (.map (some r)) v') : ∃ b, φ r = some b ∧ v' = .map (some b) := by
  cases h with
  | map e => exact ⟨_, e, rfl⟩
theorem VR.mapNil_inv (h : VR φ (.map none) v') : v' = .map none := by cases h; rfl
theorem VR.sliceNil_inv {l c : Nat} (h : VR φ (.slice none l c) v') : l = 0 ∧ c = 0 ∧ v' = .slice none 0 0 := by cases h; exact ⟨rfl, rfl, rfl⟩
theorem VR.nilFunc_inv (h : VR φ .nilFunc v') : v' = .nilFunc := by cases h; rfl
theorem VR.nilIface_inv (h : VR φ .nilIface v') : v' = .nilIface := by cases h; rfl
/-- A slice that is not nil: at a known place, or an empty one at a place that is not known. -/
theorem VR.slice_inv {a : Addr} {l c : Nat} (h : VR φ (.slice (some a) l c) v') :
    (∃ b c', φ a.block = some b ∧ a.spot = none ∧ capOk c c' ∧ (a.off = 0 → c % 2 = 1 → c' = φ.k b) ∧ v' = .slice (some ⟨b, a.off, none⟩) l c') ∨
    (∃ a' c', a = nowhere ∧ l = 0 ∧ capOk c c' ∧ v' = .slice (some a') 0 c') := by
  cases h with
  | slice l e hc hk => exact .inl ⟨_, _, e, rfl, hc, hk, rfl⟩
  | sliceDead a hc => exact .inr ⟨_, _, rfl, rfl, hc, rfl⟩
end

theorem AR.map {φ : Ren} {ρ ρ' : Operand → Value} {xs : Array Operand} (h : ∀ x ∈ xs, VR φ (ρ x) (ρ' x)) : AR φ (xs.map ρ) (xs.map ρ') :=
  LR.of_get (by simp) (fun i h1 h2 => by simp only [Array.getElem_map]; exact h _ (by simp))
theorem AR.bare_eq {φ : Ren} {x x' : Array Value} (h : AR φ x x') {n : Nat} (hb : x.toList.all (bare n) = true) : x' = x := by
  rw [List.all_eq_true] at hb
  exact Array.ext h.size.symm fun i h1 h2 => VR.inj_bare (h.get i h2 h1) n (hb _ (by simp))
theorem AR.extract {φ : Ren} {x x' : Array Value} (h : AR φ x x') (i j : Nat) : AR φ (x.extract i j) (x'.extract i j) := by
  unfold AR at *
  rw [Array.toList_extract, Array.toList_extract, List.extract_eq_take_drop, List.extract_eq_take_drop]
  exact (h.drop i).take _
theorem AR.append {φ : Ren} {x x' y y' : Array Value} (h : AR φ x x') (k : AR φ y y') : AR φ (x ++ y) (x' ++ y') := by
  unfold AR at *
  rw [Array.toList_append, Array.toList_append]
  exact LR.append h k
theorem AR.one {φ : Ren} {v v' : Value} (h : VR φ v v') : AR φ #[v] #[v'] := LR.cons h (LR.nil φ)

section
variable {P : Program}
theorem und_run {t : TypeId} {d : TypeDesc} (h : P.underlying t = some d) (w : World) : (underlying t).run P w = .ok d w := by
  simp only [underlying, Sem.run_bind, run_program, Result.andThen_ok, h, Sem.run_pure]
theorem info_run {t : TypeId} {i : TypeInfo} (h : P.info? t = some i) (w : World) : (typeInfo t).run P w = .ok i w := by
  simp only [typeInfo, Sem.run_bind, run_program, Result.andThen_ok, h, Sem.run_pure]
theorem isAggT_run {t : TypeId} {b : Bool} (h : isAggT P t = some b) (w : World) : (isAgg t).run P w = .ok b w := by
  unfold isAggT at h
  cases hu : P.underlying t with
  | none => rw [hu] at h; cases h
  | some d =>
    rw [hu] at h
    simp only [isAgg, Sem.run_bind, und_run hu, Result.andThen_ok]
    cases d <;> simp at h <;> subst h <;> rfl
theorem sizeT_run {t : TypeId} {n : Nat} (h : sizeT P t = some n) (w : World) : (sizeOf t).run P w = .ok n w := by
  unfold sizeT at h
  cases hi : P.info? t with
  | none => rw [hi] at h; cases h
  | some i =>
    rw [hi] at h
    simp only [Option.map_some, Option.some.injEq] at h
    simp only [sizeOf, Sem.run_bind, info_run hi, Result.andThen_ok, Sem.run_pure, h]
theorem zeroT_run {t : TypeId} {z : Value} (h : zeroT P t = some z) (w : World) : (zeroValue t).run P w = .ok z w := by
  unfold zeroT at h
  cases hi : P.info? t with
  | none => rw [hi] at h; cases h
  | some i =>
    rw [hi] at h
    simp only [Option.bind_some] at h
    simp only [zeroValue, Sem.run_bind, info_run hi, Result.andThen_ok, h, Sem.run_pure]
end

theorem addAddr_eq {b o : Nat} (n : Nat) : (⟨b, o, none⟩ : Addr).add n = ⟨b, o + n, none⟩ := by
  unfold Addr.add
  split
  · rename_i h; subst h; rfl
  · rfl

theorem bif_true {α : Type} {c : Bool} {x : α} {y : Option α} (h : (bif c then some x else none) = y) {z : α} (hz : y = some z) : c = true ∧ x = z := by
  subst h
  cases c <;> simp at hz
  exact ⟨rfl, hz⟩
theorem bif_some {α : Type} {c : Bool} {x : Option α} {z : α} (h : (bif c then x else none) = some z) : c = true ∧ x = some z := by
  cases c <;> simp at h
  exact ⟨rfl, h⟩

end Go.Vi
