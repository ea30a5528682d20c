/-
  Iterators, copy, clear, delete; marks and strings over bytes.
-/
import Derived.Test.YtabpbpdhapaffaaGreatDoorVi11
set_option linter.unusedSimpArgs false
set_option linter.unusedVariables false
namespace Go.Vi
variable {P : Program} {φ : Ren} {H K : AHeap} {w : World}

def ValOk (P : Program) (φ : Ren) (H : AHeap) (w : World) (s : Sem Value) (v : Value) (K : AHeap) : Prop :=
  ∃ ψ v' w', s.run P w = .ok v' w' ∧ Leaves φ H w ψ K w' ∧ VR ψ v v'
theorem ValOk.same (h : HR φ H w) (hf : Fresh φ H) {s : Sem Value} {v v' : Value} (hs : s.run P w = .ok v' w) (hv : VR φ v v') : ValOk P φ H w s v H :=
  ⟨φ, v', w, hs, Leaves.same h hf, hv⟩
theorem getObj_run {b : Nat} {o : Obj} (h : w.heap[b]? = some o) (hn : ∀ c e fr, o ≠ .cells c e fr) : (getObj b).run P w = .ok o w := by
  cases o <;> first | (exact absurd rfl (hn _ _ _)) | simp only [getObj, Sem.run, h]
theorem setObj_run {b : Nat} {o o1 : Obj} (h : w.heap[b]? = some o) (hn : ∀ c e fr, o ≠ .cells c e fr) : (setObj b o1).run P w = .ok () { w with heap := w.heap.setIfInBounds b o1 } := by
  cases o <;> first | (exact absurd rfl (hn _ _ _)) | simp only [setObj, Sem.run, h]
/-- One block of another kind than cells turned. -/
theorem HR.setOther (h : HR φ H w) (hf : Fresh φ H) {i b : Nat} {ob ob1 : AObj} {o1 o' : Obj} (hi : H.objs.get i = some ob) (hb : φ i = some b) (hw : w.heap[b]? = some o') (hwr : ob.wr = true) (hor : OR φ ob1 o1)
    (hn : ∀ fl c e, ob1 ≠ .cells fl c e) : Leaves φ H w φ (H.set i ob1) { w with heap := w.heap.setIfInBounds b o1 } := by
  obtain ⟨s1, s2, s3⟩ := set_heap (o' := o1) hw
  obtain ⟨r1, r2, r3⟩ := h.turn (w1 := { w with heap := w.heap.setIfInBounds b o1 }) hf hi hb hwr hor (fun fl c e c' fr h => absurd h (hn _ _ _)) s1 s2 s3 rfl rfl rfl
  exact ⟨r1, r2, r3⟩
theorem HR.pushOther (h : HR φ H w) (hf : Fresh φ H) {ob : AObj} {o' : Obj} (hor : OR φ ob o') (hn : ∀ fl c e, ob ≠ .cells fl c e) :
    Leaves φ H w (φ.set H.next w.heap.size 0) (H.new ob) { w with heap := w.heap.push o' } := by
  obtain ⟨r1, r2, r3⟩ := h.push (w1 := { w with heap := w.heap.push o' }) (n := 0) hf hor (fun fl c e c' fr h => absurd h (hn _ _ _)) rfl rfl rfl rfl
  exact ⟨r1, r2, r3⟩

theorem range_ok (h : HR φ H w) (hf : Fresh φ H) {t : TypeId} {x x' v : Value} (hx : VR φ x x') (ha : rangeA P H t x = some (v, K)) : ValOk P φ H w (Instr.range t x') v K := by
  unfold rangeA at ha
  split at ha <;> try (cases ha; done)
  · rename_i s hu
    simp only [Option.some.injEq, Prod.mk.injEq] at ha
    obtain ⟨rfl, rfl⟩ := ha
    rw [hx.string_inv]
    refine ⟨_, _, _, ?_, h.pushOther hf (.sIter s 0) (fun _ _ _ e => by cases e), .ptr (Ren.set_same _ _ _ _)⟩
    simp only [Instr.range, Sem.run_bind, und_run hu, Result.andThen_ok, Sem.run_pure, run_newObj]
  · rename_i hu
    simp only [Option.some.injEq, Prod.mk.injEq] at ha
    obtain ⟨rfl, rfl⟩ := ha
    rw [hx.mapNil_inv]
    refine ⟨_, _, _, ?_, h.pushOther hf (.mIterN 0 [] 0) (fun _ _ _ e => by cases e), .ptr (Ren.set_same _ _ _ _)⟩
    simp only [Instr.range, Sem.run_bind, und_run hu, Result.andThen_ok, Sem.run_pure, run_newObj]
  · rename_i m hu
    obtain ⟨b, hb, rfl⟩ := hx.map_inv
    cases hm : H.objs.get m with
    | none => rw [hm] at ha; cases ha
    | some ob =>
    rw [hm] at ha
    cases ob <;> try (cases ha; done)
    rename_i es clock
    simp only [Option.some.injEq, Prod.mk.injEq] at ha
    obtain ⟨rfl, rfl⟩ := ha
    obtain ⟨es', g1, g2⟩ := h.mapObj hm hb
    refine ⟨_, _, _, ?_, h.pushOther hf (.mIter clock [] clock hb) (fun _ _ _ e => by cases e), .ptr (Ren.set_same _ _ _ _)⟩
    simp only [Instr.range, Sem.run_bind, und_run hu, Result.andThen_ok, Sem.run_pure, run_getObj_map g1, run_newObj]

theorem ER.filter {x y : List MapEntry} (h : ER φ x y) (f : Nat → Bool) : ER φ (x.filter fun e => f e.born) (y.filter fun e => f e.born) := by
  induction x generalizing y with
  | nil => rw [h.nil_inv]; exact ⟨rfl, fun i e he => by simp at he⟩
  | cons e x ih =>
    obtain ⟨e', y', rfl, r1, r2, r3, r4⟩ := h.cons_inv
    have ih := ih r4
    simp only [List.filter_cons, ← r3]
    cases f e.born with
    | false => simpa using ih
    | true =>
      simp only [if_true]
      exact ⟨by simp [ih.1], fun i u hu => by
        cases i with
        | zero => simp at hu; subst hu; exact ⟨e', by simp, r1, r2, r3⟩
        | succ i => simp at hu; obtain ⟨u', hu', r⟩ := ih.2 i u hu; exact ⟨u', by simpa using hu', r⟩⟩
theorem ER.all {x y : List MapEntry} (h : ER φ x y) (f : Nat → Bool) : y.all (fun e => f e.born) = x.all fun e => f e.born := by
  induction x generalizing y with
  | nil => rw [h.nil_inv]
  | cons e x ih =>
    obtain ⟨e', y', rfl, r1, r2, r3, r4⟩ := h.cons_inv
    simp only [List.all_cons, ih r4, r3]

theorem nextM_ok (h : HR φ H w) (hf : Fresh φ H) {ty : TypeId} {r b m : Nat} {since last clock : Nat} {seen : List Nat} {es : List MapEntry} {v : Value} (hr : φ r = some b) (hi : H.objs.get r = some (.mIter (some m) since seen last))
    (hm : H.objs.get m = some (.map es clock)) (ha : nextM H r m since seen last es clock = some (v, K)) : ValOk P φ H w (Instr.next (.pointer (some ⟨b, 0, none⟩)) false ty) v K := by
  obtain ⟨o', g1, g2⟩ := h.obj hi hr
  cases g2
  rename_i bm hbm
  obtain ⟨es', m1, m2⟩ := h.mapObj hm hbm
  have hget : (getObj b).run P w = .ok (.mapIter (some bm) since seen.toArray last) w := getObj_run g1 (fun _ _ _ e => by cases e)
  unfold nextM at ha
  cases hc : (!seen.isEmpty && !es.isEmpty && es.all fun e => Nat.ble last e.born) with
  | true => rw [hc] at ha; cases ha
  | false =>
  rw [hc, cond_false] at ha
  have hgone : (!seen.toArray.isEmpty && !es'.isEmpty && es'.all fun e => decide (e.born ≥ last)) = false := by
    have e1 : es'.isEmpty = es.isEmpty := m2.isEmpty
    have e2 : (es'.all fun e => decide (e.born ≥ last)) = es.all fun e => Nat.ble last e.born := by
      rw [← Array.all_toList, show (fun e : MapEntry => decide (e.born ≥ last)) = fun e => Nat.ble last e.born from by
        funext e
        rw [Bool.eq_iff_iff, decide_eq_true_eq, Nat.ble_eq]]
      exact m2.all (fun k => Nat.ble last k)
    have e3 : seen.toArray.isEmpty = seen.isEmpty := by cases seen <;> rfl
    rw [e1, e2, e3]; exact hc
  have hfil := m2.filter (fun k => !seen.contains k)
  have hfil' : (es'.filter fun e => !seen.toArray.contains e.born) = (es'.toList.filter fun e => !seen.contains e.born).toArray := by
    apply Array.ext'
    simp
  cases hl : es.filter (fun e => !seen.contains e.born) with
  | nil =>
    rw [hl] at ha hfil
    simp only [Option.some.injEq, Prod.mk.injEq] at ha
    obtain ⟨rfl, rfl⟩ := ha
    refine ValOk.same h hf (v' := .tuple #[.bool false]) ?_ (VR.tuple' (AR.one (.bool false)))
    have hz := hfil.nil_inv
    rw [hz] at hfil'
    have hch : (choose (.mapNext 1)).run P w = .ok 0 w := by simp [choose, Sem.run, Question.forced]
    simp only [Instr.next, Sem.run_bind, hget, Result.andThen_ok, run_getObj_map m1, hgone, Bool.false_eq_true, if_false, hfil', Sem.run_pure]
    simp [hch]
  | cons e l =>
    rw [hl] at ha hfil
    cases l with
    | cons _ _ => cases ha
    | nil =>
    simp only at ha
    obtain ⟨hlt, ha⟩ := bif_some ha
    have hlt : e.born < since := Nat.le_of_ble_eq_true hlt
    simp only [Option.some.injEq, Prod.mk.injEq] at ha
    obtain ⟨rfl, rfl⟩ := ha
    obtain ⟨e', y', hy, r1, r2, r3, r4⟩ := hfil.cons_inv
    rw [r4.nil_inv] at hy
    rw [hy] at hfil'
    have hlt' : e'.born < since := r3 ▸ hlt
    have hch : (choose (.mapNext 1)).run P w = .ok 0 w := by simp [choose, Sem.run, Question.forced]
    have hleave := h.setOther hf (ob1 := .mIter (some m) since (seen ++ [e.born]) clock) (o1 := .mapIter (some bm) since (seen ++ [e.born]).toArray clock) hi hr g1 rfl (.mIter since _ clock hbm) (fun _ _ _ e => by cases e)
    refine ⟨φ, .tuple #[.bool true, e'.key, e'.val], _, ?_, hleave, VR.tuple' (LR.cons (.bool true) (LR.cons r1 (LR.cons r2 (LR.nil φ))))⟩
    simp only [Instr.next, Sem.run_bind, hget, Result.andThen_ok, run_getObj_map m1, hgone, Bool.false_eq_true, if_false, hfil', Sem.run_pure]
    have f1 : ([e'].toArray.filter fun e => decide (e.born < since)) = #[e'] := by simp [hlt']
    have f2 : ([e'].toArray.filter fun e => decide (e.born ≥ since)) = #[] := by simp; omega
    rw [f1, f2]
    simp [hch, setObj_run g1 (fun _ _ _ e => by cases e), r3]

theorem next_ok (h : HR φ H w) (hf : Fresh φ H) {ty : TypeId} {it it' v : Value} {isString : Bool} (hx : VR φ it it') (ha : nextA H it isString = some (v, K)) : ValOk P φ H w (Instr.next it' isString ty) v K := by
  unfold nextA at ha
  split at ha <;> try (cases ha; done)
  rename_i r
  obtain ⟨b, hb, _, rfl⟩ := hx.ptr_inv
  simp only at hb
  split at ha <;> try (cases ha; done)
  · rename_i s pos hi
    obtain ⟨o', g1, g2⟩ := h.obj hi hb
    cases g2
    have hget : (getObj b).run P w = .ok (.stringIter s pos) w := getObj_run g1 (fun _ _ _ e => by cases e)
    cases hlt : Nat.blt pos s.size with
    | true =>
      rw [hlt, cond_true] at ha
      simp only [Option.some.injEq, Prod.mk.injEq] at ha
      obtain ⟨rfl, rfl⟩ := ha
      have hlt : pos < s.size := Nat.le_of_ble_eq_true hlt
      have hleave := h.setOther hf (ob1 := .sIter s (pos + (Utf8.decode s pos).2)) (o1 := .stringIter s (pos + (Utf8.decode s pos).2)) hi hb g1 rfl (.sIter s _) (fun _ _ _ e => by cases e)
      refine ⟨φ, _, _, ?_, hleave, VR.tuple' (LR.cons (.bool true) (LR.cons (.int _ _) (LR.cons (.int _ _) (LR.nil φ))))⟩
      simp only [Instr.next, Sem.run_bind, hget, Result.andThen_ok, hlt, if_true, setObj_run g1 (fun _ _ _ e => by cases e), Sem.run_pure, goInt]
    | false =>
      rw [hlt, cond_false] at ha
      simp only [Option.some.injEq, Prod.mk.injEq] at ha
      obtain ⟨rfl, rfl⟩ := ha
      have hlt : ¬ pos < s.size := fun hh => by
        have : Nat.blt pos s.size = true := by simp [Nat.blt]; omega
        rw [this] at hlt; cases hlt
      refine ValOk.same h hf (v' := .tuple #[.bool false]) ?_ (VR.tuple' (AR.one (.bool false)))
      simp only [Instr.next, Sem.run_bind, hget, Result.andThen_ok, hlt, if_false, Sem.run_pure]
  · rename_i since seen last hi
    simp only [Option.some.injEq, Prod.mk.injEq] at ha
    obtain ⟨rfl, rfl⟩ := ha
    obtain ⟨o', g1, g2⟩ := h.obj hi hb
    cases g2
    have hget : (getObj b).run P w = .ok (.mapIter none since seen.toArray last) w := getObj_run g1 (fun _ _ _ e => by cases e)
    refine ValOk.same h hf (v' := .tuple #[.bool false]) ?_ (VR.tuple' (AR.one (.bool false)))
    simp only [Instr.next, Sem.run_bind, hget, Result.andThen_ok, Sem.run_pure]
  · rename_i m since seen last hi
    cases hm : H.objs.get m with
    | none => rw [hm] at ha; cases ha
    | some ob =>
    rw [hm] at ha
    cases ob <;> try (cases ha; done)
    exact nextM_ok h hf hb hi hm ha
end Go.Vi
