/-
  EngineNotes returns true whatever the notes and what stands between them, part 9: GrA22, GrA23, GrB1. Conditions: none but those of the row.
-/
import Derived.Below
import Derived.Test.YtabpbpdhapaffaaGreatDoorNts08
set_option linter.unusedSimpArgs false
set_option linter.unusedVariables false
section
namespace Go.Vi
section
variable {P : Program} {L : Lev} {n : Nat} {ops : Array Oper} {ds : List Nat} {ss : List Seen} {lh : AHeap} {lt : T Value}
variable {φ0 ψ : Ren} {w0 w : World} {l : Array Bool} {a : Act}
section
variable {j : Nat} {o : Oper} {s : Seen}

/-- A block made. -/
theorem Inv.alloc (hD : DrOk P L n ops ds ss lh lt) (hI : Inv P ops n ds ss lh lt φ0 w0 ψ l a w) (hU : Up ops ss l j o s) (hk : s.k = some .alloc) {ob : AObj} {kv : NewV} {o' : Obj} {v' : Value} {w1 : World} {nn : Nat}
    (hv : s.v = kv.at s.h.next) (hK : hAt ss lh (j + 1) = s.h.new ob) (r2 : w1.heap = w.heap.push o') (r3 : w1.os = w.os) (r4 : w1.tape = w.tape) (r5 : w1.output = w.output) (r6 : OR (ψ.cut s.h.next) ob o') (r7 : CapOf nn ob o')
    (r8 : ∀ id, VR ((ψ.cut s.h.next).set id w.heap.size nn) (kv.at id) v') :
    Inv P ops n ds ss lh lt φ0 w0 (ψ.set s.h.next w.heap.size nn) (l.setIfInBounds j true) (a.put o.dst v') w1 := by
  have hset : ∀ i, Li (l.setIfInBounds j true) i ↔ Li l i ∨ i = j := fun i => li_set (by rw [hI.sz]; exact hU.lt)
  have hA : isA (kAt ss j) = true := by rw [kAt_eq hU.hs, hk]; rfl
  have hE : isE (kAt ss j) = false := by rw [kAt_eq hU.hs, hk]; rfl
  have hnj : (hAt ss lh j).next = s.h.next := by rw [hAt_eq hU.hs]
  have hn1 : (hAt ss lh (j + 1)).next = s.h.next + 1 := by rw [hK]; rfl
  obtain ⟨m, hm⟩ := hI.heap
  have hmj : m ≤ j := by
    rcases Nat.lt_or_ge j m with h | h
    · exact absurd (hm.done j h (.inr hA)) hU.not
    · exact h
  have hmn : (hAt ss lh m).next ≤ s.h.next := by rw [← hnj]; exact hD.nx_le hmj (Nat.le_of_lt hU.lt)
  -- other blocks made ahead have other names
  have hother : ∀ i, isA (kAt ss i) = true → i ≠ j → (hAt ss lh i).next ≠ s.h.next := fun i hi hij e => by
    have hil : i < ops.size := hD.len ▸ kAt_lt rfl hi
    rcases Nat.lt_or_ge i j with h | h
    · have h1 := hD.nx_le (i := i + 1) (j := j) (by omega) (Nat.le_of_lt hU.lt)
      rw [hD.allocs hi, hnj] at h1; omega
    · have h1 := hD.nx_le (i := j + 1) (j := i) (by omega) (Nat.le_of_lt hil)
      rw [hn1] at h1; omega
  have hfree : ψ s.h.next = none := by
    cases hx : ψ s.h.next with
    | none => rfl
    | some b =>
      rcases hm.names _ _ hx with h | ⟨i, h1, h2, h3, h4⟩
      · omega
      · exact absurd h4.symm (hother i h2 (fun e => hU.not (e ▸ h3)))
  have hnob : ∀ i, ψ i ≠ some w.heap.size := fun i hi => absurd (hI.rng i _ hi) (Nat.lt_irrefl _)
  have hle : ψ.le (ψ.set s.h.next w.heap.size nn) := Ren.le_set hfree (.inl hnob)
  have hold : ∀ {i b}, i ≠ s.h.next → (ψ.set s.h.next w.heap.size nn) i = some b → ψ i = some b := fun {i b} hi h => by rwa [Ren.set_ne _ _ _ hi] at h
  have hrng : ∀ i b, (ψ.set s.h.next w.heap.size nn) i = some b → b < w1.heap.size := fun i b h => by
    rw [r2, Array.size_push]
    by_cases hi : i = s.h.next
    · subst hi; rw [Ren.set_same] at h; cases h; omega
    · have := hI.rng i b (hold hi h); omega
  have hvv : VR ((ψ.set s.h.next w.heap.size nn).cut (hAt ss lh (j + 1)).next) s.v v' := by
    rw [hv]
    refine (r8 s.h.next).mono ⟨fun i b h => ?_, fun i b h => ?_⟩
    · by_cases hi : i = s.h.next
      · subst hi
        rw [Ren.set_same] at h; cases h
        rw [Ren.cut_get _ (by omega), Ren.set_same]
      · rw [Ren.set_ne _ _ _ hi] at h
        obtain ⟨h1, h2⟩ := Ren.cut_some h
        rw [Ren.cut_get _ (by omega), Ren.set_ne _ _ _ hi]; exact h2
    · rfl
  have hcutm : ∀ i, ((ψ.set s.h.next w.heap.size nn).cut (hAt ss lh m).next) i = (ψ.cut (hAt ss lh m).next) i := fun i => by
    by_cases hi : i < (hAt ss lh m).next
    · rw [Ren.cut_get _ hi, Ren.cut_get _ hi, Ren.set_ne _ _ _ (by omega)]
    · rw [Ren.cut_out _ (by omega), Ren.cut_out _ (by omega)]
  have hw1 : ∀ {b o'}, w.heap[b]? = some o' → w1.heap[b]? = some o' := fun {b o'} h => by
    have : b < w.heap.size := (Array.getElem?_eq_some_iff.1 h).1
    rw [r2, Array.getElem?_push, if_neg (by omega)]; exact h
  refine ⟨by simp [hI.sz], hI.cl_set hU, by rw [put_size]; exact hI.asz, by rw [put_defers]; exact hI.ads.mono (Ren.cut_le_cut hle _), hrng, hI.slots_put hD hU hle hvv, m, hm.le, hm.head, fun i h1 h2 => (hset i).2 (.inl (hm.done i h1 h2)), ?_, ?_, ?_, ?_, ?_⟩
  · intro i h1 h2 hl
    rcases (hset i).1 hl with h | rfl
    · exact hm.rest i h1 h2 h
    · rw [hE] at h2; cases h2
  · exact (hm.hr.grow r2).mono (Ren.cut_le_cut hle _) (fun i b h => hrng i b (Ren.cut_some h).2)
  · exact (hm.goes.grow r2 r3 r4 r5).congr hcutm (Ren.cut_le_cut hle _)
  · intro i h1 h2 hl
    by_cases hij : i = j
    · subst hij
      refine ⟨ob, w.heap.size, o', by rw [hK, hAt_eq hU.hs], by rw [hnj, Ren.set_same], by rw [r2, Array.getElem?_push, if_pos rfl], ?_, by rw [Ren.set_k]; exact r7, ?_, hm.goes.size⟩
      · rw [hnj]; exact r6.mono (Ren.cut_le_cut hle _)
      · intro q hq
        rw [hnj]
        by_cases hqn : q = s.h.next
        · exact hqn
        · exact absurd (hold hqn hq) (hnob q)
    · have hl' := ((hset i).1 hl).resolve_right hij
      obtain ⟨ob2, b2, o2, e1, e2, e3, e4, e5, e6, e7⟩ := hm.ahead i h1 h2 hl'
      have hne := hother i h2 hij
      have hb2 : b2 ≠ w.heap.size := fun e => hnob _ (e ▸ e2)
      refine ⟨ob2, b2, o2, e1, by rw [Ren.set_ne _ _ _ hne]; exact e2, hw1 e3, e4.mono (Ren.cut_le_cut hle _), by rw [Ren.set_k_ne _ _ _ hb2]; exact e5, ?_, e7⟩
      intro q hq
      by_cases hqn : q = s.h.next
      · subst hqn; rw [Ren.set_same] at hq; cases hq; exact absurd rfl hb2
      · exact e6 q (hold hqn hq)
  · intro q b hq
    by_cases hqn : q = s.h.next
    · exact .inr ⟨j, hmj, hA, (hset j).2 (.inr rfl), by rw [hqn, hnj]⟩
    · exact (hm.names q b (hold hqn hq)).imp id (fun ⟨i, h1, h2, h3, h4⟩ => ⟨i, h1, h2, (hset i).2 (.inl h3), h4⟩)

open Classical in
/-- Memory written. -/
theorem Inv.wrote (hD : DrOk P L n ops ds ss lh lt) (hI : Inv P ops n ds ss lh lt φ0 w0 ψ l a w) (hU : Up ops ss l j o s) (hk : s.k = some .eff)
    (hg : HR (ψ.cut s.h.next) s.h w ∧ Goes φ0 (hAt ss lh 0) w0 (ψ.cut s.h.next) s.h w) {m : Nat} (hm : HeapAt ops ss lh φ0 w0 ψ l w m) (hmj : m ≤ j)
    {ψ1 : Ren} {v' : Value} {w' : World} (hv : VR ψ1 s.v v') (hl : Leaves (ψ.cut s.h.next) s.h w ψ1 (hAt ss lh (j + 1)) w') :
    ∃ ψ', Inv P ops n ds ss lh lt φ0 w0 ψ' (l.setIfInBounds j true) (a.put o.dst v') w' := by
  have hset : ∀ i, Li (l.setIfInBounds j true) i ↔ Li l i ∨ i = j := fun i => li_set (by rw [hI.sz]; exact hU.lt)
  have hE : isE (kAt ss j) = true := by rw [kAt_eq hU.hs, hk]; rfl
  have hA : isA (kAt ss j) = false := by rw [kAt_eq hU.hs, hk]; rfl
  have hnj : (hAt ss lh j).next = s.h.next := by rw [hAt_eq hU.hs]
  have hmn : (hAt ss lh m).next ≤ s.h.next := by rw [← hnj]; exact hD.nx_le hmj (Nat.le_of_lt hU.lt)
  have hn1 : s.h.next ≤ (hAt ss lh (j + 1)).next := by rw [← hnj]; exact hD.nxt j hU.lt
  -- where the names lie
  have hwhere : ∀ q b, ψ q = some b → q < s.h.next ∨ ((hAt ss lh (j + 1)).next ≤ q ∧ ∃ i, j + 1 ≤ i ∧ isA (kAt ss i) = true ∧ Li l i ∧ q = (hAt ss lh i).next) := fun q b hq => by
    rcases hm.names q b hq with h | ⟨i, h1, h2, h3, h4⟩
    · exact .inl (by omega)
    · have hil : i < ops.size := hD.len ▸ kAt_lt rfl h2
      rcases Nat.lt_or_ge i j with h | h
      · left
        have := hD.nx_le (i := i + 1) (j := j) (by omega) (Nat.le_of_lt hU.lt)
        rw [hD.allocs h2, hnj] at this; omega
      · have hij : i ≠ j := fun e => by subst e; rw [hA] at h2; cases h2
        right
        refine ⟨?_, i, by omega, h2, h3, h4⟩
        rw [h4]; exact hD.nx_le (by omega) (Nat.le_of_lt hil)
  have huniq : ∀ q b, (hAt ss lh (j + 1)).next ≤ q → ψ q = some b → ∀ q', ψ q' = some b → q' = q := fun q b hq hb q' hq' => by
    rcases hwhere q b hb with h | ⟨_, i, h1, h2, h3, h4⟩
    · omega
    · obtain ⟨ob2, b2, o2, e1, e2, e3, e4, e5, e6, e7⟩ := hm.ahead i (by omega) h2 h3
      rw [h4] at hb
      rw [hb] at e2; cases e2
      rw [h4]; exact e6 q' hq'
  let nx1 := (hAt ss lh (j + 1)).next
  let pend : Nat → Prop := fun b => ∃ q, nx1 ≤ q ∧ ψ q = some b
  let ψ' : Ren := ⟨fun q => if q < nx1 then ψ1 q else ψ q, fun b => if pend b then ψ.k b else ψ1.k b⟩
  have hf1 : ∀ q, q < nx1 → ψ' q = ψ1 q := fun q hq => if_pos hq
  have hf2 : ∀ q, nx1 ≤ q → ψ' q = ψ q := fun q hq => if_neg (by omega)
  have hnp : ∀ q b, ψ1 q = some b → ¬ pend b := fun q b hq ⟨q', h1, h2⟩ => by
    rcases hl.goes.news q b hq with ⟨i, hi⟩ | h
    · obtain ⟨h3, h4⟩ := Ren.cut_some hi
      have := huniq q' b h1 h2 i h4
      omega
    · have := hI.rng q' b h2; omega
  have hk1 : ∀ b, ¬ pend b → ψ'.k b = ψ1.k b := fun b h => if_neg h
  have hk2 : ∀ b, pend b → ψ'.k b = ψ.k b := fun b h => if_pos h
  have ha' : ψ1.le (ψ'.cut nx1) := ⟨fun q b hq => by
      have hlt : q < nx1 := by
        rcases Nat.lt_or_ge q nx1 with h | h
        · exact h
        · rw [hl.fresh q h] at hq; cases hq
      rw [Ren.cut_get _ hlt, hf1 q hlt]; exact hq, fun q b hq => hk1 b (hnp q b hq)⟩
  have hb' : ψ.le ψ' := by
    refine ⟨fun q b hq => ?_, fun q b hq => ?_⟩
    · rcases hwhere q b hq with h | ⟨h, _⟩
      · rw [hf1 q (by omega)]
        exact hl.goes.ren.1 q b (by rw [Ren.cut_get _ h]; exact hq)
      · rw [hf2 q h]; exact hq
    · rcases hwhere q b hq with h | ⟨h, _⟩
      · have hc : (ψ.cut s.h.next) q = some b := by rw [Ren.cut_get _ h]; exact hq
        rw [hk1 b (hnp q b (hl.goes.ren.1 q b hc))]
        exact hl.goes.ren.2 q b hc
      · exact hk2 b ⟨q, h, hq⟩
  have hrng : ∀ q b, ψ' q = some b → b < w'.heap.size := fun q b hq => by
    rcases Nat.lt_or_ge q nx1 with h | h
    · rw [hf1 q h] at hq; exact hl.hr.rng q b hq
    · rw [hf2 q h] at hq; exact Nat.lt_of_lt_of_le (hI.rng q b hq) hl.goes.size
  have hcut : ∀ q, (ψ'.cut nx1) q = ψ1 q := fun q => by
    rcases Nat.lt_or_ge q nx1 with h | h
    · rw [Ren.cut_get _ h, hf1 q h]
    · rw [Ren.cut_out _ h, hl.fresh q h]
  have hgl : Goes φ0 (hAt ss lh 0) w0 (ψ'.cut nx1) (hAt ss lh (j + 1)) w' := (hg.2.trans hl.goes).congr hcut ha'
  refine ⟨ψ', by simp [hI.sz], hI.cl_set hU, by rw [put_size]; exact hI.asz, by rw [put_defers]; exact hI.ads.mono (Ren.cut_le_cut hb' _), hrng, hI.slots_put hD hU hb' (hv.mono ha'), j + 1, hU.lt, .inr ⟨j, hE, rfl⟩, ?_, ?_, ?_, hgl, ?_, ?_⟩
  · intro i h1 h2
    by_cases hij : i = j
    · exact (hset i).2 (.inr hij)
    · exact (hset i).2 (.inl (hU.reach i (hD.eff j hE i (by omega) h2)))
  · intro i h1 h2 hli
    have hli := ((hset i).1 hli).resolve_right (by omega)
    exact hU.not (hI.cl j i (hD.eff i h2 j (by omega) (.inl hE)) hli)
  · exact hl.hr.mono ha' (fun q b hq => hrng q b (Ren.cut_some hq).2)
  · intro i h1 h2 hli
    have hli := ((hset i).1 hli).resolve_right (by omega)
    have hil : i < ops.size := hD.len ▸ kAt_lt rfl h2
    obtain ⟨ob2, b2, o2, e1, e2, e3, e4, e5, e6, e7⟩ := hm.ahead i (by omega) h2 hli
    have hni : nx1 ≤ (hAt ss lh i).next := hD.nx_le h1 (Nat.le_of_lt hil)
    have hp : pend b2 := ⟨_, hni, e2⟩
    refine ⟨ob2, b2, o2, e1, by rw [hf2 _ hni]; exact e2, ?_, e4.mono (Ren.cut_le_cut hb' _), by rw [hk2 _ hp]; exact e5, ?_, e7⟩
    · rw [hl.goes.keep b2 (hI.rng _ _ e2)]
      · exact e3
      · rintro ⟨q, ob3, h3, h4, h5⟩
        obtain ⟨h6, h7⟩ := Ren.cut_some h5
        have := e6 q h7
        omega
    · intro q hq
      rcases Nat.lt_or_ge q nx1 with h | h
      · rw [hf1 q h] at hq
        exact absurd hp (hnp q b2 hq)
      · rw [hf2 q h] at hq; exact e6 q hq
  · intro q b hq
    rcases Nat.lt_or_ge q nx1 with h | h
    · exact .inl h
    · rw [hf2 q h] at hq
      rcases hwhere q b hq with h' | ⟨_, i, h1, h2, h3, h4⟩
      · omega
      · exact .inr ⟨i, h1, h2, (hset i).2 (.inl h3), h4⟩

/-- Whichever operation comes up. -/
theorem Inv.step (hL : LevOk P L) (hD : DrOk P L n ops ds ss lh lt) (hI : Inv P ops n ds ss lh lt φ0 w0 ψ l a w) (hU : Up ops ss l j o s) {ro : Option Nat} {nn : Nat} {Kc : Act → World → Prop} {Q : Exit → Act → World → Prop}
    (hk : ∀ ψ' a' w', Inv P ops n ds ss lh lt φ0 w0 ψ' (l.setIfInBounds j true) a' w' → Kc a' w') : wpOpIn (FW ro) nn P ops Q j Kc a w := by
  have hst := (hD.step j o s hU.ho hU.hs).1
  have hw := hI.wanted_ok hD hU
  have hρ := hI.operand_ok hD hU
  have hinv := operS_inv hst
  rcases hinv with ⟨i1, i2, i3, i4⟩ | ⟨i1, i2, i3, hc⟩
  · unfold wpOpIn
    simp only [hU.ho]
    have i1 : Region.wanted o (aYielded ops s.tm) = false := i1
    rw [hw, i1]
    simp only [Bool.false_eq_true, if_false]
    exact ⟨fun _ _ => trivial, hk ψ _ w (hI.quiet hD hU (by rw [i2]; rfl) (by rw [i2]; rfl) (by rw [i3]; exact VR.undef _))⟩
  · have i1 : Region.wanted o (aYielded ops s.tm) = true := i1
    have hρ' : ∀ x ∈ o.op.operands, VR (ψ.cut s.h.next) (aEval s.h.gl s.tm x) (a.eval x) := fun x hx => hρ x hx (i2 x hx)
    rcases hc with ⟨c1, c2, c3⟩ | ⟨c1, c2, c3⟩ | ⟨c1, ob, kv, c2, c3, c4⟩ | c1
    · obtain ⟨v', r1, r2⟩ := pureOp_ok (P := P) (φ := ψ.cut s.h.next) (fun f => rfl) hρ' c2
      unfold wpOpIn
      simp only [hU.ho]
      rw [hw, i1]
      simp only [if_true]
      exact pureOk_upon i3 (r2 w) (hk ψ _ w (hI.quiet hD hU (by rw [c1]; rfl) (by rw [c1]; rfl) r1))
    · obtain ⟨m, hm⟩ := hI.heap
      obtain ⟨d1, d2⟩ := hD.read j o s hU.ho hU.hs (by rw [c1]; rfl)
      have hread : readOp P (hAt ss lh m) (aEval (hAt ss lh m).gl s.tm) o = some s.v := by
        rcases d2 m hm.head with ⟨i, he, ⟨h1, h2⟩ | ⟨h1, h2⟩⟩ | h
        · exact absurd (hI.cl j i h2 (hm.done i h1 (.inl he))) hU.not
        · exact absurd (hU.reach i h2) (hm.rest i h1 he)
        · exact h
      have hgl : (hAt ss lh m).gl = s.h.gl := by rw [hD.gl_eq hm.le, ← hAt_eq (lh := lh) hU.hs, hD.gl_eq (Nat.le_of_lt hU.lt)]
      rw [hgl] at hread
      have hM : HR (ψ.cut (max (hAt ss lh m).next s.h.next)) (hAt ss lh m) w := hm.hr.mono (Ren.cut_mono ψ (Nat.le_max_left _ _)) (fun i b h => hI.rng i b (Ren.cut_some h).2)
      obtain ⟨v', r1, r2⟩ := readOp_ok hM (fun x hx => (hρ' x hx).mono (Ren.cut_mono ψ (Nat.le_max_right _ _))) hread
      have r3 : VR (ψ.cut s.h.next) s.v v' := (low_ok r1 20 s.h.next d1).mono (Ren.cut_le_cut (Ren.cut_le ψ _) _)
      unfold wpOpIn
      simp only [hU.ho]
      rw [hw, i1]
      simp only [if_true]
      exact pureOk_upon i3 r2 (hk ψ _ w (hI.quiet hD hU (by rw [c1]; rfl) (by rw [c1]; rfl) r3))
    · obtain ⟨o', v', w1, n1, r1, r2, r3, r4, r5, r6, r7, r8⟩ := newOp_ok (φ := ψ.cut s.h.next) hρ' c2 w
      unfold wpOpIn
      simp only [hU.ho]
      rw [hw, i1]
      simp only [if_true]
      exact pureOk_upon i3 r1 (hk _ _ w1 (hI.alloc hD hU c1 c3 c4 r2 r3 r4 r5 r6 r7 r8))
    · obtain ⟨m, hm⟩ := hI.heap
      have hE : isE (kAt ss j) = true := by rw [kAt_eq hU.hs, c1]; rfl
      have hmj : m ≤ j := by
        rcases Nat.lt_or_ge j m with h | h
        · exact absurd (hm.done j h (.inl hE)) hU.not
        · exact h
      have hclimb := hm.climb hD hI.rng j hmj (Nat.le_of_lt hU.lt)
        (fun i h1 h2 => by
          cases hx : isE (kAt ss i) with
          | false => rfl
          | true => exact absurd (hU.reach i (hD.eff j hE i h2 (.inl hx))) (hm.rest i h1 hx))
        (fun i h1 h2 h3 => hU.reach i (hD.eff j hE i h2 (.inr h3)))
      rw [hAt_eq hU.hs] at hclimb
      refine operS_ok (st := ⟨s.tm, ds, s.h⟩) hL hU.ho hclimb.1 (fun i hi => Ren.cut_out ψ hi) hw hρ hst ?_
      intro ψ1 v' w' q1 q2
      obtain ⟨ψ', h⟩ := hI.wrote hD hU c1 hclimb hm hmj q1 q2
      exact hk ψ' _ w' h
end

/-! ### All of a region -/
def unlisted (l : Array Bool) : Nat := l.toList.countP (fun b => !b)
theorem countP_set : ∀ (l : List Bool) (j : Nat), l[j]? = some false → (l.set j true).countP (fun b => !b) + 1 = l.countP (fun b => !b)
  | [], j, h => by simp at h
  | b :: l, 0, h => by simp at h; subst h; simp
  | b :: l, j + 1, h => by
    simp only [List.getElem?_cons_succ] at h
    have := countP_set l j h
    simp only [List.set_cons_succ, List.countP_cons]
    omega
theorem unlisted_set {l : Array Bool} {j : Nat} (hj : j < l.size) (hn : ¬ Li l j) : unlisted (l.setIfInBounds j true) + 1 = unlisted l := by
  unfold unlisted
  rw [Array.toList_setIfInBounds]
  refine countP_set _ _ ?_
  unfold Li at hn
  rw [Array.getD_eq_getD_getElem?] at hn
  rw [Array.getElem?_toList, Array.getElem?_eq_getElem hj] at *
  simp only [Option.getD_some, Bool.not_eq_true] at hn
  rw [hn]
theorem all_of_none {l : Array Bool} (hD : DrOk P L n ops ds ss lh lt) (hs : l.size = ops.size) (h : Region.ready .any ops l = []) : ∀ i, i < ops.size → Li l i := by
  intro i
  induction i using Nat.strongRecOn with
  | _ i ih =>
    intro hi
    by_cases hl : Li l i
    · exact hl
    · exfalso
      have hmem : i ∈ Region.ready .any ops l := by
        unfold Region.ready
        rw [List.mem_filter, List.mem_range, Bool.and_eq_true]
        refine ⟨hi, ?_, ?_⟩
        · unfold Li at hl
          rw [Array.getD_eq_getD_getElem?, Array.getElem?_eq_getElem (by omega)] at *
          simp only [Option.getD_some, Bool.not_eq_true] at hl ⊢
          rw [hl]; rfl
        · rw [Array.getElem?_eq_getElem hi]
          simp only [Option.map_some, Option.getD_some]
          rw [← Array.all_toList, List.all_eq_true]
          intro e he
          cases hb : Region.binds .any e with
          | false => rfl
          | true =>
            have hlt := hD.edges i ops[i] (Array.getElem?_eq_getElem hi) e he hb
            have := ih e.on hlt (by omega)
            simpa [Li] using this
      rw [h] at hmem; cases hmem
theorem Inv.fin (hD : DrOk P L n ops ds ss lh lt) (hI : Inv P ops n ds ss lh lt φ0 w0 ψ l a w) (h : Region.ready .any ops l = []) :
    SR P (ψ.cut lh.next) n ⟨lt, ds, lh⟩ a w ∧ Goes φ0 (hAt ss lh 0) w0 (ψ.cut lh.next) lh w := by
  have hall := all_of_none hD hI.sz h
  have hend : hAt ss lh ops.size = lh := by unfold hAt; rw [List.getElem?_eq_none (by rw [hD.len]; exact Nat.le_refl _)]
  have htend : tmAt ss lt ops.size = lt := by unfold tmAt; rw [List.getElem?_eq_none (by rw [hD.len]; exact Nat.le_refl _)]
  obtain ⟨m, hm⟩ := hI.heap
  have hclimb := hm.climb hD hI.rng ops.size hm.le (Nat.le_refl _)
    (fun i h1 h2 => by
      cases hx : isE (kAt ss i) with
      | false => rfl
      | true => exact absurd (hall i h2) (hm.rest i h1 hx))
    (fun i h1 h2 h3 => hall i h2)
  rw [hend] at hclimb
  refine ⟨⟨hclimb.1, fun i hi => Ren.cut_out ψ hi, ?_, hI.asz, ?_⟩, hclimb.2⟩
  · intro t
    have := hI.slots t ops.size (Nat.le_refl _) (fun i hi _ => hall i hi) (fun i hi ⟨o, ho, _⟩ => by rw [Array.getElem?_eq_none (by omega)] at ho; cases ho)
    rw [hend, htend] at this
    exact this
  · refine hI.ads.mono (Ren.cut_mono ψ ?_)
    have := hD.nx_le (Nat.zero_le ops.size) (Nat.le_refl _)
    rw [hend] at this; exact this
theorem any_ok (hL : LevOk P L) (hD : DrOk P L n ops ds ss lh lt) {ro : Option Nat} {nn : Nat} {Q : Exit → Act → World → Prop} (hQ : ∀ ψ a' w', SR P ψ n ⟨lt, ds, lh⟩ a' w' → Goes φ0 (hAt ss lh 0) w0 ψ lh w' → Q .normal a' w') :
    ∀ (fuel : Nat) (l : Array Bool) (ψ : Ren) (a : Act) (w : World), unlisted l ≤ fuel → Inv P ops n ds ss lh lt φ0 w0 ψ l a w → wpAnyIn (FW ro) nn P .any ops Q fuel l a w
  | 0, l, ψ, a, w, hf, hI => by
    have hnone : Region.ready .any ops l = [] := by
      cases hr : Region.ready .any ops l with
      | nil => rfl
      | cons j rs =>
        exfalso
        have hj : j ∈ Region.ready .any ops l := by rw [hr]; simp
        obtain ⟨o, s, hU⟩ := hI.up hD hj
        have := unlisted_set (l := l) (by rw [hI.sz]; exact hU.lt) hU.not
        omega
    obtain ⟨h1, h2⟩ := hI.fin hD hnone
    exact ⟨hnone, hQ _ a w h1 h2⟩
  | fuel + 1, l, ψ, a, w, hf, hI => by
    refine ⟨fun hnone => ?_, fun j hj => ?_⟩
    · obtain ⟨h1, h2⟩ := hI.fin hD hnone
      exact hQ _ a w h1 h2
    · obtain ⟨o, s, hU⟩ := hI.up hD hj
      have := unlisted_set (l := l) (by rw [hI.sz]; exact hU.lt) hU.not
      exact hI.step hL hD hU (fun ψ' a' w' h => any_ok hL hD hQ fuel _ ψ' a' w' (by omega) h)

theorem drawOk_ok (hL : LevOk P L) (hm : P.follows .mixedOrders = true) : DrawOk P L := by
  intro ro nn n id ops st st' sn φ a w Q hx hok hs hQ
  obtain ⟨ss, e1, e2, e3, e4, e5, e6⟩ := drawS_trail ops.toList st st' [] sn hx
  have e1 : sn.reverse = ss := by rw [e1]; simp
  rw [e1] at hok
  have hlen : ss.length = ops.size := by simpa using e2
  have hD : DrOk P L n ops st.ds ss st'.h st'.tm := drawOk_spec hok hlen (fun i o s ho hs => e6 i o s (by rw [Array.getElem?_toList]; exact ho) hs)
  refine wpIn_region_any hm ?_
  have hst' : (⟨st'.tm, st.ds, st'.h⟩ : St) = st' := by rw [← e3]
  refine any_ok (φ0 := φ) (w0 := w) hL hD (fun ψ a' w' h1 h2 => hQ ψ a' w' (by rw [← hst']; exact h1) (by rw [← e4]; exact h2)) ops.size _ φ a _ ?_ ?_
  · exact Nat.le_trans List.countP_le_length (by simp)
  · have hli : ∀ i, ¬ Li (Array.replicate ops.size false) i := fun i h => by
      unfold Li at h
      rw [Array.getD_eq_getD_getElem?, Array.getElem?_replicate] at h
      split at h <;> cases h
    have hcut : ∀ i, (φ.cut st.h.next) i = φ i := fun i => by
      rcases Nat.lt_or_ge i st.h.next with h | h
      · exact Ren.cut_get _ h
      · rw [Ren.cut_out _ h, hs.fresh i h]
    have hle : φ.le (φ.cut st.h.next) := ⟨fun i b h => by rw [hcut]; exact h, fun _ _ _ => rfl⟩
    refine ⟨by simp, fun i j _ h => absurd h (hli j), hs.size, ?_, hs.hr.rng, ?_, 0, Nat.zero_le _, .inl rfl, fun i h => absurd h (Nat.not_lt_zero _), fun i _ _ h => hli i h, ?_, ?_, fun i _ _ h => absurd h (hli i), ?_⟩
    · rw [e4]; exact hs.ds.mono hle
    · intro t m hmm h1 h2
      have hno : ∀ k, 0 ≤ k → k < m → ¬ Wr ops k t := fun k _ hk hw => hli k (h1 k hk hw)
      rw [tm_same hD m (Nat.zero_le _) hmm hno, e5]
      have := hD.nx_le (Nat.zero_le m) hmm
      rw [e4] at this
      exact (hs.tr t).mono (Ren.le_trans hle (Ren.cut_mono φ this))
    · rw [e4]
      exact (HR.of_heap (w1 := { w with drawn := w.drawn + 1 }) hs.hr rfl).mono hle (fun i b h => hs.hr.rng i b (Ren.cut_some h).2)
    · rw [e4]
      exact (Goes.of_heap (w := w) (w1 := { w with drawn := w.drawn + 1 }) rfl rfl rfl rfl).congr hcut hle
    · intro q b hq
      rw [e4]
      left
      rcases Nat.lt_or_ge q st.h.next with h | h
      · exact h
      · rw [hs.fresh q h] at hq; cases hq

/-! ### All levels -/
/-- What is told of functions beside their texts is so. -/
structure ExtOk (P : Program) (X : Ext) : Prop where
  ov : ∀ {g : FuncId} {args args' : Array Value} {H K : AHeap} {v : Value} {φ : Ren} {w : World}, X.ov g args H = some (v, K) → AR φ args args' → HR φ H w → Fresh φ H → CallsIn (FW none) 0 P g args' w (RetOk φ H w v K)
  quiet : ∀ {K : FuncId} {m : Nat}, X.quiet K = some m → QuietFn P K m
theorem ExtOk.nil : ExtOk P .nil := ⟨(fun h => by cases h), (fun h => by cases h)⟩
theorem lev_ok (hm : P.follows .mixedOrders = true) {X : Ext} (hX : ExtOk P X) : ∀ (f : Nat), LevN P (levX P X f) f
  | 0 => ⟨⟨fun h => hX.quiet h, fun h => (by cases h), fun h => (by cases h)⟩, fun h => (by cases h), fun h => (by cases h)⟩
  | f + 1 => by
    have ih := lev_ok hm hX f
    have hd := drawOk_ok ih.ok hm
    refine ⟨⟨fun h => hX.quiet h, fun {g args args' H K v φ w} h ha hh hf => ?_, fun h hr hs => codeS_ok ih hd _ h hr hs⟩,
      fun h hr hs => loop_ok ih (fun h1 => codeS_ok ih hd _ h1 hr hs) h hr, fun h hr hs => scopeS_ok ih hd h hr hs⟩
    have h' : callX P X (levX P X f) g args H = some (v, K) := h
    unfold callX at h'
    cases ho : X.ov g args H with
    | none => rw [ho] at h'; exact callS_ok ih hd h' ha hh hf
    | some r =>
      rw [ho] at h'
      simp only [Option.some.injEq] at h'
      subst h'
      exact hX.ov ho ha hh hf

/-- The interpreter's word on a call. -/
theorem call_soundX (hm : P.follows .mixedOrders = true) {X : Ext} (hX : ExtOk P X) (f : Nat) {g : FuncId} {args args' : Array Value} {H K : AHeap} {v : Value} {φ : Ren} {w : World} (hx : (levX P X f).call g args H = some (v, K)) (ha : AR φ args args') (h : HR φ H w) (hf : Fresh φ H) :
    Calls P g args' w (RetOk φ H w v K) := callsIn_wide.1 ((lev_ok hm hX f).ok.call hx ha h hf)
theorem call_sound (hm : P.follows .mixedOrders = true) (f : Nat) {g : FuncId} {args args' : Array Value} {H K : AHeap} {v : Value} {φ : Ren} {w : World} (hx : (lev P f).call g args H = some (v, K)) (ha : AR φ args args') (h : HR φ H w) (hf : Fresh φ H) :
    Calls P g args' w (RetOk φ H w v K) := call_soundX hm .nil f hx ha h hf
end
section
variable {P : Program} {w : World}

theorem HR.empty (w : World) (n : Nat) : HR ⟨fun _ => none, fun _ => 0⟩ ⟨n, 0, .nil⟩ w where
  dom := fun i o h => by cases h
  inj := fun i j o o' b h => by cases h
  glob := fun i h => absurd h (Nat.not_lt_zero _)
  rng := fun i b h => by cases h
  caps := fun i fl c e b c' fr h => by cases h
theorem below_of_goes {φ ψ : Ren} {n gl : Nat} {K : AHeap} {w' : World} (h : Goes φ ⟨n, gl, .nil⟩ w ψ K w') : RowKit.Below w.heap.size w w' :=
  ⟨h.os, h.tape, h.output, h.size, fun b hb => h.keep b hb (fun ⟨i, o, ho, _⟩ => by cases ho)⟩
/-- 'v', and what was there is as it was. -/
theorem closed_call (hm : P.follows .mixedOrders = true) (f : Nat) {g : FuncId} {args : Array Value} {v : Value} (hb : args.toList.all (bare 20) = true) (hv : bare 20 v = true)
    (hx : ((lev P f).call g args ⟨0, 0, .nil⟩).map (·.1) = some v) : Calls P g args w fun e w' => e = .returned v ∧ RowKit.Below w.heap.size w w' := by
  obtain ⟨q, hq, e⟩ := option_map_some hx
  obtain ⟨v', K⟩ := q
  simp only at e
  subst e
  have ha : AR ⟨fun _ => none, fun _ => 0⟩ args args := LR.refl_of fun u hu => bare_spec 20 u (List.all_eq_true.1 hb u hu)
  refine Calls.mono (call_sound hm f hq ha (HR.empty w 0) (fun _ _ => rfl)) ?_
  intro e w' he
  cases e with
  | returned u =>
    obtain ⟨ψ, h1, h2⟩ := he
    have := h1.inj_bare 20 hv
    subst this
    exact ⟨rfl, below_of_goes h2.goes⟩
  | panicked _ => exact he.elim
  | outgrown => exact he.elim
end
section

/-- One word more that must be so. -/
def also (c acc : Bool) : Bool := bif c then acc else false
/-! ### Operations taken by word: 'some (k, x, K, c)': if 'c' is so, this is what comes of it. -/
section
variable (P : Program) (H : AHeap) (ρ : Operand → Value)
/-- A test: it comes to 'b'. -/
def fTest (o : Oper) (b : Bool) : Option (Kind × ANext × AHeap × Bool) :=
  some (.pure, .value (.bool b), H, match pureOp P ρ o with
    | some (.bool t) => bif b then t else !t
    | _ => false)
/-- A place in a row: it is within the bounds. -/
def fIndex (t : TypeId) (x i : Operand) : Option (Kind × ANext × AHeap × Bool) :=
  match P.underlying t, ρ x, ρ i with
  | some (.slice e), .slice (some a) len _, .int _ n => match a.spot, sizeT P e with
    | none, some size => some (.pure, .value (.pointer (some (addAddr a (n.toNat * size)))), H, okInt n && decide (n < len))
    | _, _ => none
  | _, _, _ => none
/-- 'x[l:h]' of a slice of a known or open capacity; 'full': it begins where the capacity ends. -/
def fBound : Option Value → Option (Option Nat × Bool)
  | none => some (none, true)
  | some (.int _ n) => some (some n.toNat, okInt n)
  | _ => none
def fSlice (t : TypeId) (x : Operand) (lo hi mx : Option Operand) (o : Oper) (full : Bool) : Option (Kind × ANext × AHeap × Bool) :=
  match P.underlying t, ρ x, mx with
  | some (.slice e), .slice (some a) len cap, none =>
    match fBound (lo.map ρ), fBound (hi.map ρ), sizeT P e with
    | some (lo', c1), some (hi', c2), some size =>
      let h := hi'.getD len
      let l := lo'.getD 0
      match full with
      | true => some (.pure, .value (.slice (some nowhere) 0 (cap - 2 * l)), H, c1 && (c2 && (a.spot.isNone && (Nat.ble h (capLow cap) && (Nat.ble l h && ((!isOpen cap || Nat.beq l 0 || !(Nat.beq size 0)) && (Nat.beq (capLow cap) l && isOpen cap)))))))
      | false => some (.pure, .value (.slice (some (addAddr a (l * size))) (h - l) (cap - 2 * l)), H, c1 && (c2 && (a.spot.isNone && (Nat.ble h (capLow cap) && (Nat.ble l h && ((!isOpen cap || Nat.beq l 0 || !(Nat.beq size 0)) && !(Nat.beq (capLow cap) l)))))))
    | _, _, _ => none
  | some (.slice e), .slice (some a) len cap, some mx =>
    match fBound (lo.map ρ), fBound (hi.map ρ), fBound (some (ρ mx)), sizeT P e with
    | some (lo', c1), some (hi', c2), some (some m, c3), some size =>
      let h := hi'.getD len
      let l := lo'.getD 0
      some (.pure, .value (.slice (some (bif full then a else addAddr a (l * size))) (h - l) (2 * (m - l))), H,
        c1 && (c2 && (c3 && (a.spot.isNone && (Nat.ble m (capLow cap) && (Nat.ble h m && (Nat.ble l h && (hi'.isSome && (bif full then Nat.beq m l else !(Nat.beq m l))))))))))
    | _, _, _, _ => none
  | _, _, _ => none
/-- An integer out of a row. -/
def intIn : Option Value → Int
  | some (.int _ n) => n
  | _ => 0
def isIntIn (k : IntKind) : Option Value → Bool
  | some (.int j _) => decide (j = k)
  | _ => false
def fLoad (t : TypeId) (x : Operand) : Option (Kind × ANext × AHeap × Bool) :=
  match P.underlying t, ρ x with
  | some (.int k), .pointer (some a) =>
    some (.read, .value (.int k (intIn (H.cell? a))), H, isIntIn k (H.cell? a))
  | _, _ => none
/-- A slice out of a row: of a block of known name. -/
def offIn : Option Value → Nat
  | some (.slice (some a) _ _) => a.off
  | _ => 0
def lenOfIn : Option Value → Nat
  | some (.slice _ l _) => l
  | _ => 0
def capOfIn : Option Value → Nat
  | some (.slice _ _ c) => c
  | _ => 0
def isSliceIn (r : Nat) : Option Value → Bool
  | some (.slice (some ⟨b, _, none⟩) _ _) => Nat.beq b r
  | _ => false
def fLoadS (t : TypeId) (x : Operand) (r : Nat) : Option (Kind × ANext × AHeap × Bool) :=
  match P.underlying t, ρ x with
  | some (.slice _), .pointer (some a) =>
    some (.read, .value (.slice (some ⟨r, offIn (H.cell? a), none⟩) (lenOfIn (H.cell? a)) (capOfIn (H.cell? a))), H, isSliceIn r (H.cell? a))
  | _, _ => none
/-- Bytes as a string. -/
def fBytes (src dst : TypeId) (x : Operand) : Option (Kind × ANext × AHeap × Bool) :=
  match P.underlying src, P.underlying dst, ρ x with
  | some (.slice e), some .string, .slice (some a) len _ =>
    match P.underlying e, a.spot, H.objs.get a.block with
    | some (.int .u8), none, some (.cells _ c _) =>
      let r := (c.drop a.off).take len
      some (.read, .value (.string ⟨((bytesL r).getD []).toArray⟩), H, !(Nat.beq len 0) && (Nat.beq r.length len && (bytesL r).isSome))
    | _, _, _ => none
  | _, _, _ => none
/-- What is laid behind a slice: where it isn't empty. -/
def fSrc (size : Nat) (rest : Bool) (d : TypeDesc) (x : Value) : Option (Nat × List Value × Bool) :=
  match d, x with
  | .slice _, .slice (some a) n _ =>
    match a.spot, H.objs.get a.block with
    | none, some (.cells _ c _) => let r := bif rest then c.drop a.off else (c.drop a.off).take (n * size); some (n, r, !(Nat.beq n 0) && Nat.beq r.length (n * size))
    | _, _ => none
  | .slice _, .slice none 0 _ => some (0, [], true)
  | .string, .string t => some (t.size, byteVals t.data.toList, true)
  | _, _ => none
/-- 'append': 'way' 0: behind nil; 1: within what is known of the capacity; 2: a row of an open capacity goes over to a new name; 3: a row of a known capacity is laid anew; 4: an empty row of a known capacity. 'rest': what is laid behind is all the rest of its row. -/
def fAppend (ts : Array TypeId) (s x : Value) (way : Nat) (rest : Bool) : Option (Kind × ANext × AHeap × Bool) :=
  match ts[0]?.bind P.underlying, ts[1]?.bind P.underlying, s with
  | some (.slice e), some xd, .slice base sLen sCap =>
    match P.info? e with
    | none => none
    | some i =>
      bif (match i.zero with | some z => Nat.beq z.cells.size i.size | none => false) then
        match fSrc H i.size rest xd x with
        | some (n, new, c0) =>
          let grow := c0 && (!(Nat.ble (sLen + n) (capLow sCap)) && (Nat.ble ((sLen + n) * 2 * (i.bytes + 1)) 140737488355328 && (new.all oneCell && Nat.beq new.length (n * i.size))))
          let sl := Value.slice (some ⟨H.next, 0, none⟩) (sLen + n) (2 * (sLen + n) + 1)
          match way, base with
          | 0, none => some (.eff, .value sl, H.new (.cells (.open_ i.size) new e), grow && (Nat.beq sLen 0 && Nat.beq sCap 0))
          | 2, none => some (.eff, .value sl, H.new (.cells (.open_ i.size) new e), grow && (Nat.beq sLen 0 && Nat.beq sCap 0))
          | 1, some a =>
            (match a.spot, H.objs.get a.block with
             | none, some (.cells fl c e') =>
               some (.eff, .value (.slice (some a) (sLen + n) sCap), H.set a.block (.cells fl (splice c (a.off + sLen * i.size) new) e'),
                 c0 && (Nat.ble (sLen + n) (capLow sCap) && (fl.wr && (Nat.ble (a.off + sLen * i.size + new.length) c.length && new.all oneCell))))
             | _, _ => none)
          | 2, some a =>
            (match a.spot, H.objs.get a.block with
             | none, some (.cells fl c e') =>
               some (.eff, .value sl, (H.drop a.block).new (.cells fl (c ++ new) e),
                 grow && (isOpen sCap && (Nat.beq a.off 0 && (Nat.beq c.length (sLen * i.size) && (Nat.beq fl.sz i.size && (!(Nat.beq i.size 0) && Nat.beq e e'))))))
             | _, _ => none)
          | 3, some a =>
            (match a.spot, H.objs.get a.block with
             | none, some (.cells _ c _) =>
               let old := (c.drop a.off).take (sLen * i.size)
               some (.eff, .value sl, H.new (.cells (.open_ i.size) (old ++ new) e), grow && (!(isOpen sCap) && Nat.beq old.length (sLen * i.size)))
             | _, _ => none)
          | 4, some a =>
            (match a.spot, H.objs.get a.block with
             | none, some (.cells _ _ _) =>
               some (.eff, .value (.slice (some ⟨H.next, 0, none⟩) n (2 * n + 1)), H.new (.cells (.open_ i.size) new e), grow && (!(isOpen sCap) && Nat.beq sLen 0))
             | _, _ => none)
          | _, _ => none
        | none => none
      else none
  | _, _, _ => none
/-- A choice. -/
def fPick (c a b : Operand) (t : Bool) : Option (Kind × ANext × AHeap × Bool) :=
  match ρ c with
  | .bool x => some (.pure, .value (bif t then ρ a else ρ b), H, bif t then x else !x)
  | _ => none
def intAt : Value → Int
  | .int _ n => n
  | _ => 0
/-- An integer: it is 'n'. -/
def fInt (o : Oper) (n : Int) : Option (Kind × ANext × AHeap × Bool) :=
  match pureOp P ρ o with
  | some (.int k m) => some (.pure, .value (.int k n), H, decide (m = n))
  | _ => none
/-- By bits: it is 'n'. -/
def bitV (op : BinOp) (k k' : IntKind) (x y : Int) : Option Int :=
  match op with
  | .shl => bif decide (0 ≤ y) then some (k.wrap (x * 2 ^ min y.toNat k.bits)) else none
  | .shr => bif decide (0 ≤ y) then some (x.fdiv (2 ^ min y.toNat k.bits)) else none
  | .and => bif decide (k = k') then some (k.wrap (BitVec.ofInt k.bits x &&& BitVec.ofInt k.bits y).toNat) else none
  | .or => bif decide (k = k') then some (k.wrap (BitVec.ofInt k.bits x ||| BitVec.ofInt k.bits y).toNat) else none
  | .xor => bif decide (k = k') then some (k.wrap (BitVec.ofInt k.bits x ^^^ BitVec.ofInt k.bits y).toNat) else none
  | _ => none
def bitOk (op : BinOp) (k k' : IntKind) (x y n : Int) : Bool :=
  match bitV op k k' x y with
  | some m => decide (m = n)
  | none => false
def fBits (op : BinOp) (x y : Operand) (n : Int) : Option (Kind × ANext × AHeap × Bool) :=
  match ρ x, ρ y with
  | .int k a, .int k' b => some (.pure, .value (.int k n), H, bitOk op k k' a b n)
  | _, _ => none
/-- By word. -/
def fOp (o : Oper) (hint : Nat) : Option (Kind × ANext × AHeap × Bool) :=
  match o.op with
  | .binOp op _ x y _ => match hint with
    | 4 => fBits H ρ op x y (intAt (ρ x) * 2 ^ (intAt (ρ y)).toNat)
    | 5 => fBits H ρ op x y (intAt (ρ x) / 2 ^ (intAt (ρ y)).toNat)
    | 6 => fBits H ρ op x y (intAt (ρ x))
    | 7 => fBits H ρ op x y (intAt (ρ x) % 128 + 128)
    | 8 => fBits H ρ op x y (intAt (ρ x) % (intAt (ρ y) + 1))
    | 9 => fBits H ρ op x y (intAt (ρ x) + intAt (ρ y))
    | 2 => fInt P H ρ o (intAt (ρ x) + intAt (ρ y))
    | 3 => fInt P H ρ o (intAt (ρ x) - intAt (ρ y))
    | h => fTest P H ρ o (Nat.beq h 1)
  | .unOp .. => fTest P H ρ o (Nat.beq hint 1)
  | .pick c a b => fPick H ρ c a b (Nat.beq hint 1)
  | .indexAddr t x i => fIndex P H ρ t x i
  | .slice t x lo hi mx => fSlice P H ρ t x lo hi mx o (Nat.beq hint 1)
  | .load t x => match Nat.ble 100 hint with
    | true => fLoadS P H ρ t x (hint - 100)
    | false => fLoad P H ρ t x
  | .convert src dst x => match hint with
    | 2 => fInt P H ρ o (intAt (ρ x))
    | _ => fBytes P H ρ src dst x
  | .call { callee := .builtin .min, args, .. } => match args[hint]? with
    | some x => fInt P H ρ o (intAt (ρ x))
    | none => none
  | .call { callee := .builtin .max, args, .. } => match args[hint]? with
    | some x => fInt P H ρ o (intAt (ρ x))
    | none => none
  | .call { callee := .builtin .append, args, argTypes } => match args[0]?, args[1]? with
    | some s, some x => fAppend P H argTypes (ρ s) (ρ x) (hint % 10) (Nat.ble 10 hint)
    | _, _ => none
  | _ => none
end

/-! ### Code -/
/-- Which operations are taken by word, with their hints. -/
abbrev Word := Oper → Nat → Option Nat
/-- Is the note of the engine at 27 nil? -/
def noNote (H : AHeap) : Bool := match H.objs.get 27 with
  | some (.cells _ c _) => (match (c[6]? : Option Value) with
    | some (.slice none _ _) => true
    | _ => false)
  | _ => false
/-- Does a function look at the byte at 'k' of its first argument's row? -/
def atPos (k : Nat) (ρ : Operand → Value) : Bool :=
  match ρ (.tmp 0), ρ (.tmp 9) with
  | .slice (some a) _ _, .int _ n => Nat.beq (a.off + n.toNat) k
  | _, _ => false
/-- A hint that hangs on the state: 1000 (k + 1) + 100 z + 10 x + y: 'z' where the engine has a note, else 'x' where the byte at 'k' is looked at, else 'y'. -/
def pickHint (H : AHeap) (ρ : Operand → Value) (h : Nat) : Nat :=
  match Nat.ble 1000 h with
  | false => h
  | true => bif noNote H then (bif atPos (h / 1000 - 1) ρ then h % 100 / 10 else h % 10) else h % 1000 / 100
structure LevO : Type where
  code : Option Nat → Nat → Code → St → Option (AExit × St × List Bool)
  scope : Option Nat → Nat → Code → Code → St → Option (AExit × St × List Bool)
  call : FuncId → Array Value → AHeap → Option (Value × AHeap × List Bool)

section
variable (P : Program) (F : Word) (L : Lev) (M : LevO)

def operO (ops : Array Oper) (o : Oper) (st : St) : Option (Option Kind × Value × AHeap × List Bool) :=
  match F o st.h.next with
  | none =>
    bif Region.wanted o (aYielded ops st.tm) then
      bif o.op.operands.toList.all (okOperand st.h.gl) then
        match aOper P st.h (aEval st.h.gl st.tm) o with
        | some (k, .value v, h) => some (some k, v, h, [])
        | some (k, .skip, h) => some (some k, Go.undef, h, [])
        | some (k, .enter g args, h) => match M.call g args h with
          | some (v, h, b) => some (some k, v, h, b)
          | none => none
        | some (k, .round l args, h) => match roundS L l args h with
          | some (v, h) => some (some k, v, h, [])
          | none => none
        | none => none
      else none
    else some (none, Go.undef, st.h, [])
  | some hint =>
    bif Region.wanted o (aYielded ops st.tm) then
      bif o.op.operands.toList.all (okOperand st.h.gl) then
        match fOp P st.h (aEval st.h.gl st.tm) o (pickHint st.h (aEval st.h.gl st.tm) hint) with
        | some (k, .value v, h, c) => some (some k, v, h, [c])
        | _ => none
      else none
    else some (none, Go.undef, st.h, [])

def opsO (n : Nat) (ops : Array Oper) : List Oper → St → List Bool → Option (St × List Bool)
  | [], st, b => some (st, b)
  | o :: rest, st, b =>
    match operO P F L M ops o st with
    | some (_, v, h, c) => match putT n st.tm o.dst v with
      | some tm => opsO n ops rest { st with tm, h } (c ++ b)
      | none => none
    | none => none
def drawO (n : Nat) (ops : Array Oper) : List Oper → St → List Seen → List Bool → Option (St × List Seen × List Bool)
  | [], st, sn, b => some (st, sn, b)
  | o :: rest, st, sn, b =>
    match operO P F L M ops o st with
    | some (k, v, h, c) => match putT n st.tm o.dst v with
      | some tm => drawO n ops rest { st with tm, h } (⟨st.tm, st.h, k, v⟩ :: sn) (c ++ b)
      | none => none
    | none => none
def codeO (ro : Option Nat) (n : Nat) : Code → St → Option (AExit × St × List Bool)
  | .skip, st | .label _, st => some (.normal, st, [])
  | .ret, st => some (.ret, st, [])
  | .exit id, st => some (.exit id, st, [])
  | .goto l, st => some (.goto l, st, [])
  | .refuse _, _ => none
  | .seq a b, st => match codeO ro n a st with
    | some (.normal, st', c) => match codeO ro n b st' with
      | some (e, st'', d) => some (e, st'', d ++ c)
      | none => none
    | r => r
  | .cond c a b, st => match aEval st.h.gl st.tm c with
    | .bool true => codeO ro n a st
    | .bool false => codeO ro n b st
    | _ => none
  | .block id c, st => match codeO ro n c st with
    | some (.exit id', st', b) => bif Nat.beq id' id then some (.normal, st', b) else some (.exit id', st', b)
    | r => r
  | .loop c, st => match codeO ro n c st with
    | some (.normal, st', b) => match M.code ro n (.loop c) st' with
      | some (e, st'', d) => some (e, st'', d ++ b)
      | none => none
    | r => r
  | .scope c, st => match codeO ro n c st with
    | some (.goto l, st', b) => match findLabel c l with
      | some rest => match M.scope ro n c rest st' with
        | some (e, st'', d) => some (e, st'', d ++ b)
        | none => none
      | none => some (.goto l, st', b)
    | r => r
  | .region _ ops draw, st =>
    match draw with
    | false => match opsO P F L M n ops ops.toList st [] with
      | some (st', b) => some (.normal, st', b)
      | none => none
    | true => match drawO P F L M n ops ops.toList st [] [] with
      | some (st', sn, b) => some (.normal, st', drawOk P ops sn.reverse st'.h :: b)
      | none => none
  | .rangeFunc g ps assign body, st => match rangeS P L ro n g ps assign body st with
    | some (e, st') => some (e, st', [])
    | none => none
def scopeO (ro : Option Nat) (n : Nat) (whole c : Code) (st : St) : Option (AExit × St × List Bool) :=
  match codeO P F L M ro n c st with
  | some (.goto l, st', b) => match findLabel whole l with
    | some rest => match M.scope ro n whole rest st' with
      | some (e, st'', d) => some (e, st'', d ++ b)
      | none => none
    | none => some (.goto l, st', b)
  | r => r
def callO (g : FuncId) (args : Array Value) (h : AHeap) : Option (Value × AHeap × List Bool) :=
  match P.funcs[g]? with
  | none => none
  | some fn => match fn.body with
    | none => none
    | some c =>
      bif Nat.ble args.size fn.ntmps then
        match codeO P F L M none fn.ntmps c ⟨argsT args.toList 0 .nil, [], h⟩ with
        | some (.normal, st, b) | some (.ret, st, b) => match takeAll st.ds st.h with
          | some h => match resultsA P h fn st.tm with
            | some v => some (v, h, b)
            | none => none
          | none => none
        | _ => none
      else none
end
/-- What is told of functions beside their texts, with the tests that it hangs on. -/
structure ExtO : Type where
  ov : FuncId → Array Value → AHeap → Option (Value × AHeap × List Bool)
  quiet : FuncId → Option Nat
def ExtO.ext (Y : ExtO) : Ext := ⟨fun g args h => match Y.ov g args h with
  | some (v, K, ts) => bif ts.all id then some (v, K) else none
  | none => none, Y.quiet⟩
def callOX (P : Program) (Y : ExtO) (F : Word) (L : Lev) (M : LevO) (g : FuncId) (args : Array Value) (h : AHeap) : Option (Value × AHeap × List Bool) :=
  match Y.ov g args h with
  | some r => some r
  | none => callO P F L M g args h
def levO (P : Program) (Y : ExtO) (F : Word) : Nat → LevO
  | 0 => ⟨fun _ _ _ _ => none, fun _ _ _ _ _ => none, fun _ _ _ => none⟩
  | f + 1 => ⟨codeO P F (levX P Y.ext f) (levO P Y F f), scopeO P F (levX P Y.ext f) (levO P Y F f), callOX P Y F (levX P Y.ext f) (levO P Y F f)⟩
end
end Go.Vi
end
