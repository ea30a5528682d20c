/-
  Regions that draw their order: blocks made, memory written; all of a region.
-/
import Derived.Test.YtabpbpdhapaffaaGreatDoorVi21
set_option linter.unusedSimpArgs false
set_option linter.unusedVariables false
namespace Go.Vi
variable {P : Program} {L : Lev} {n : Nat} {ops : Array Oper} {ds : List Nat} {ss : List Seen} {lh : AHeap} {lt : T Value}
variable {φ0 ψ : Ren} {w0 w : World} {l : Array Bool} {a : Act}
section
variable {j : Nat} {o : Oper} {s : Seen}

/-- A block made. -/
theorem Inv.alloc (hD : DrOk P L n ops ds ss lh lt) (hI : Inv ops n ds ss lh lt φ0 w0 ψ l a w) (hU : Up ops ss l j o s) (hk : s.k = some .alloc) {ob : AObj} {kv : NewV} {o' : Obj} {v' : Value} {w1 : World} {nn : Nat}
    (hv : s.v = kv.at s.h.next) (hK : hAt ss lh (j + 1) = s.h.new ob) (r2 : w1.heap = w.heap.push o') (r3 : w1.os = w.os) (r4 : w1.tape = w.tape) (r5 : w1.output = w.output) (r6 : OR (ψ.cut s.h.next) ob o') (r7 : CapOf nn ob o')
    (r8 : ∀ id, VR ((ψ.cut s.h.next).set id w.heap.size nn) (kv.at id) v') :
    Inv ops n ds ss lh lt φ0 w0 (ψ.set s.h.next w.heap.size nn) (l.setIfInBounds j true) (a.put o.dst v') w1 := by
  have hset : ∀ i, Li (l.setIfInBounds j true) i ↔ Li l i ∨ i = j := fun i => li_set (by rw [hI.sz]; exact hU.lt)
  have hA : isA (kAt ss j) = true := by rw [kAt_eq hU.hs, hk]; rfl
  have hE : isE (kAt ss j) = false := by rw [kAt_eq hU.hs, hk]; rfl
  have hnj : (hAt ss lh j).next = s.h.next := by rw [hAt_eq hU.hs]
  have hn1 : (hAt ss lh (j + 1)).next = s.h.next + 1 := by rw [hK]; rfl
  obtain ⟨m, hm⟩ := hI.heap
  have hmj : m ≤ j := by
    rcases Nat.lt_or_ge j m with h | h
    · exact absurd (hm.done j h (.inr hA)) hU.not
    · exact h
  have hmn : (hAt ss lh m).next ≤ s.h.next := by rw [← hnj]; exact hD.nx_le hmj (Nat.le_of_lt hU.lt)
  -- other blocks made ahead have other names
  have hother : ∀ i, isA (kAt ss i) = true → i ≠ j → (hAt ss lh i).next ≠ s.h.next := fun i hi hij e => by
    have hil : i < ops.size := hD.len ▸ kAt_lt rfl hi
    rcases Nat.lt_or_ge i j with h | h
    · have h1 := hD.nx_le (i := i + 1) (j := j) (by omega) (Nat.le_of_lt hU.lt)
      rw [hD.allocs hi, hnj] at h1; omega
    · have h1 := hD.nx_le (i := j + 1) (j := i) (by omega) (Nat.le_of_lt hil)
      rw [hn1] at h1; omega
  have hfree : ψ s.h.next = none := by
    cases hx : ψ s.h.next with
    | none => rfl
    | some b =>
      rcases hm.names _ _ hx with h | ⟨i, h1, h2, h3, h4⟩
      · omega
      · exact absurd h4.symm (hother i h2 (fun e => hU.not (e ▸ h3)))
  have hnob : ∀ i, ψ i ≠ some w.heap.size := fun i hi => absurd (hI.rng i _ hi) (Nat.lt_irrefl _)
  have hle : ψ.le (ψ.set s.h.next w.heap.size nn) := Ren.le_set hfree (.inl hnob)
  have hold : ∀ {i b}, i ≠ s.h.next → (ψ.set s.h.next w.heap.size nn) i = some b → ψ i = some b := fun {i b} hi h => by rwa [Ren.set_ne _ _ _ hi] at h
  have hrng : ∀ i b, (ψ.set s.h.next w.heap.size nn) i = some b → b < w1.heap.size := fun i b h => by
    rw [r2, Array.size_push]
    by_cases hi : i = s.h.next
    · subst hi; rw [Ren.set_same] at h; cases h; omega
    · have := hI.rng i b (hold hi h); omega
  have hvv : VR ((ψ.set s.h.next w.heap.size nn).cut (hAt ss lh (j + 1)).next) s.v v' := by
    rw [hv]
    refine (r8 s.h.next).mono ⟨fun i b h => ?_, fun i b h => ?_⟩
    · by_cases hi : i = s.h.next
      · subst hi
        rw [Ren.set_same] at h; cases h
        rw [Ren.cut_get _ (by omega), Ren.set_same]
      · rw [Ren.set_ne _ _ _ hi] at h
        obtain ⟨h1, h2⟩ := Ren.cut_some h
        rw [Ren.cut_get _ (by omega), Ren.set_ne _ _ _ hi]; exact h2
    · rfl
  have hcutm : ∀ i, ((ψ.set s.h.next w.heap.size nn).cut (hAt ss lh m).next) i = (ψ.cut (hAt ss lh m).next) i := fun i => by
    by_cases hi : i < (hAt ss lh m).next
    · rw [Ren.cut_get _ hi, Ren.cut_get _ hi, Ren.set_ne _ _ _ (by omega)]
    · rw [Ren.cut_out _ (by omega), Ren.cut_out _ (by omega)]
  have hw1 : ∀ {b o'}, w.heap[b]? = some o' → w1.heap[b]? = some o' := fun {b o'} h => by
    have : b < w.heap.size := (Array.getElem?_eq_some_iff.1 h).1
    rw [r2, Array.getElem?_push, if_neg (by omega)]; exact h
  refine ⟨by simp [hI.sz], hI.cl_set hU, by rw [put_size]; exact hI.asz, by rw [put_defers]; exact hI.ads.mono (Ren.cut_le_cut hle _), hrng, hI.slots_put hD hU hle hvv, m, hm.le, hm.head, fun i h1 h2 => (hset i).2 (.inl (hm.done i h1 h2)), ?_, ?_, ?_, ?_, ?_⟩
  · intro i h1 h2 hl
    rcases (hset i).1 hl with h | rfl
    · exact hm.rest i h1 h2 h
    · rw [hE] at h2; cases h2
  · exact (hm.hr.grow r2).mono (Ren.cut_le_cut hle _) (fun i b h => hrng i b (Ren.cut_some h).2)
  · exact (hm.goes.grow r2 r3 r4 r5).congr hcutm (Ren.cut_le_cut hle _)
  · intro i h1 h2 hl
    by_cases hij : i = j
    · subst hij
      refine ⟨ob, w.heap.size, o', by rw [hK, hAt_eq hU.hs], by rw [hnj, Ren.set_same], by rw [r2, Array.getElem?_push, if_pos rfl], ?_, by rw [Ren.set_k]; exact r7, ?_, hm.goes.size⟩
      · rw [hnj]; exact r6.mono (Ren.cut_le_cut hle _)
      · intro q hq
        rw [hnj]
        by_cases hqn : q = s.h.next
        · exact hqn
        · exact absurd (hold hqn hq) (hnob q)
    · have hl' := ((hset i).1 hl).resolve_right hij
      obtain ⟨ob2, b2, o2, e1, e2, e3, e4, e5, e6, e7⟩ := hm.ahead i h1 h2 hl'
      have hne := hother i h2 hij
      have hb2 : b2 ≠ w.heap.size := fun e => hnob _ (e ▸ e2)
      refine ⟨ob2, b2, o2, e1, by rw [Ren.set_ne _ _ _ hne]; exact e2, hw1 e3, e4.mono (Ren.cut_le_cut hle _), by rw [Ren.set_k_ne _ _ _ hb2]; exact e5, ?_, e7⟩
      intro q hq
      by_cases hqn : q = s.h.next
      · subst hqn; rw [Ren.set_same] at hq; cases hq; exact absurd rfl hb2
      · exact e6 q (hold hqn hq)
  · intro q b hq
    by_cases hqn : q = s.h.next
    · exact .inr ⟨j, hmj, hA, (hset j).2 (.inr rfl), by rw [hqn, hnj]⟩
    · exact (hm.names q b (hold hqn hq)).imp id (fun ⟨i, h1, h2, h3, h4⟩ => ⟨i, h1, h2, (hset i).2 (.inl h3), h4⟩)

open Classical in
/-- Memory written. -/
theorem Inv.wrote (hD : DrOk P L n ops ds ss lh lt) (hI : Inv ops n ds ss lh lt φ0 w0 ψ l a w) (hU : Up ops ss l j o s) (hk : s.k = some .eff)
    (hg : HR (ψ.cut s.h.next) s.h w ∧ Goes φ0 (hAt ss lh 0) w0 (ψ.cut s.h.next) s.h w) {m : Nat} (hm : HeapAt ops ss lh φ0 w0 ψ l w m) (hmj : m ≤ j)
    {ψ1 : Ren} {v' : Value} {w' : World} (hv : VR ψ1 s.v v') (hl : Leaves (ψ.cut s.h.next) s.h w ψ1 (hAt ss lh (j + 1)) w') :
    ∃ ψ', Inv ops n ds ss lh lt φ0 w0 ψ' (l.setIfInBounds j true) (a.put o.dst v') w' := by
  have hset : ∀ i, Li (l.setIfInBounds j true) i ↔ Li l i ∨ i = j := fun i => li_set (by rw [hI.sz]; exact hU.lt)
  have hE : isE (kAt ss j) = true := by rw [kAt_eq hU.hs, hk]; rfl
  have hA : isA (kAt ss j) = false := by rw [kAt_eq hU.hs, hk]; rfl
  have hnj : (hAt ss lh j).next = s.h.next := by rw [hAt_eq hU.hs]
  have hmn : (hAt ss lh m).next ≤ s.h.next := by rw [← hnj]; exact hD.nx_le hmj (Nat.le_of_lt hU.lt)
  have hn1 : s.h.next ≤ (hAt ss lh (j + 1)).next := by rw [← hnj]; exact hD.nxt j hU.lt
  -- where the names lie
  have hwhere : ∀ q b, ψ q = some b → q < s.h.next ∨ ((hAt ss lh (j + 1)).next ≤ q ∧ ∃ i, j + 1 ≤ i ∧ isA (kAt ss i) = true ∧ Li l i ∧ q = (hAt ss lh i).next) := fun q b hq => by
    rcases hm.names q b hq with h | ⟨i, h1, h2, h3, h4⟩
    · exact .inl (by omega)
    · have hil : i < ops.size := hD.len ▸ kAt_lt rfl h2
      rcases Nat.lt_or_ge i j with h | h
      · left
        have := hD.nx_le (i := i + 1) (j := j) (by omega) (Nat.le_of_lt hU.lt)
        rw [hD.allocs h2, hnj] at this; omega
      · have hij : i ≠ j := fun e => by subst e; rw [hA] at h2; cases h2
        right
        refine ⟨?_, i, by omega, h2, h3, h4⟩
        rw [h4]; exact hD.nx_le (by omega) (Nat.le_of_lt hil)
  have huniq : ∀ q b, (hAt ss lh (j + 1)).next ≤ q → ψ q = some b → ∀ q', ψ q' = some b → q' = q := fun q b hq hb q' hq' => by
    rcases hwhere q b hb with h | ⟨_, i, h1, h2, h3, h4⟩
    · omega
    · obtain ⟨ob2, b2, o2, e1, e2, e3, e4, e5, e6, e7⟩ := hm.ahead i (by omega) h2 h3
      rw [h4] at hb
      rw [hb] at e2; cases e2
      rw [h4]; exact e6 q' hq'
  let nx1 := (hAt ss lh (j + 1)).next
  let pend : Nat → Prop := fun b => ∃ q, nx1 ≤ q ∧ ψ q = some b
  let ψ' : Ren := ⟨fun q => if q < nx1 then ψ1 q else ψ q, fun b => if pend b then ψ.k b else ψ1.k b⟩
  have hf1 : ∀ q, q < nx1 → ψ' q = ψ1 q := fun q hq => if_pos hq
  have hf2 : ∀ q, nx1 ≤ q → ψ' q = ψ q := fun q hq => if_neg (by omega)
  have hnp : ∀ q b, ψ1 q = some b → ¬ pend b := fun q b hq ⟨q', h1, h2⟩ => by
    rcases hl.goes.news q b hq with ⟨i, hi⟩ | h
    · obtain ⟨h3, h4⟩ := Ren.cut_some hi
      have := huniq q' b h1 h2 i h4
      omega
    · have := hI.rng q' b h2; omega
  have hk1 : ∀ b, ¬ pend b → ψ'.k b = ψ1.k b := fun b h => if_neg h
  have hk2 : ∀ b, pend b → ψ'.k b = ψ.k b := fun b h => if_pos h
  have ha' : ψ1.le (ψ'.cut nx1) := ⟨fun q b hq => by
      have hlt : q < nx1 := by
        rcases Nat.lt_or_ge q nx1 with h | h
        · exact h
        · rw [hl.fresh q h] at hq; cases hq
      rw [Ren.cut_get _ hlt, hf1 q hlt]; exact hq, fun q b hq => hk1 b (hnp q b hq)⟩
  have hb' : ψ.le ψ' := by
    refine ⟨fun q b hq => ?_, fun q b hq => ?_⟩
    · rcases hwhere q b hq with h | ⟨h, _⟩
      · rw [hf1 q (by omega)]
        exact hl.goes.ren.1 q b (by rw [Ren.cut_get _ h]; exact hq)
      · rw [hf2 q h]; exact hq
    · rcases hwhere q b hq with h | ⟨h, _⟩
      · have hc : (ψ.cut s.h.next) q = some b := by rw [Ren.cut_get _ h]; exact hq
        rw [hk1 b (hnp q b (hl.goes.ren.1 q b hc))]
        exact hl.goes.ren.2 q b hc
      · exact hk2 b ⟨q, h, hq⟩
  have hrng : ∀ q b, ψ' q = some b → b < w'.heap.size := fun q b hq => by
    rcases Nat.lt_or_ge q nx1 with h | h
    · rw [hf1 q h] at hq; exact hl.hr.rng q b hq
    · rw [hf2 q h] at hq; exact Nat.lt_of_lt_of_le (hI.rng q b hq) hl.goes.size
  have hcut : ∀ q, (ψ'.cut nx1) q = ψ1 q := fun q => by
    rcases Nat.lt_or_ge q nx1 with h | h
    · rw [Ren.cut_get _ h, hf1 q h]
    · rw [Ren.cut_out _ h, hl.fresh q h]
  have hgl : Goes φ0 (hAt ss lh 0) w0 (ψ'.cut nx1) (hAt ss lh (j + 1)) w' := (hg.2.trans hl.goes).congr hcut ha'
  refine ⟨ψ', by simp [hI.sz], hI.cl_set hU, by rw [put_size]; exact hI.asz, by rw [put_defers]; exact hI.ads.mono (Ren.cut_le_cut hb' _), hrng, hI.slots_put hD hU hb' (hv.mono ha'), j + 1, hU.lt, .inr ⟨j, hE, rfl⟩, ?_, ?_, ?_, hgl, ?_, ?_⟩
  · intro i h1 h2
    by_cases hij : i = j
    · exact (hset i).2 (.inr hij)
    · exact (hset i).2 (.inl (hU.reach i (hD.eff j hE i (by omega) h2)))
  · intro i h1 h2 hli
    have hli := ((hset i).1 hli).resolve_right (by omega)
    exact hU.not (hI.cl j i (hD.eff i h2 j (by omega) (.inl hE)) hli)
  · exact hl.hr.mono ha' (fun q b hq => hrng q b (Ren.cut_some hq).2)
  · intro i h1 h2 hli
    have hli := ((hset i).1 hli).resolve_right (by omega)
    have hil : i < ops.size := hD.len ▸ kAt_lt rfl h2
    obtain ⟨ob2, b2, o2, e1, e2, e3, e4, e5, e6, e7⟩ := hm.ahead i (by omega) h2 hli
    have hni : nx1 ≤ (hAt ss lh i).next := hD.nx_le h1 (Nat.le_of_lt hil)
    have hp : pend b2 := ⟨_, hni, e2⟩
    refine ⟨ob2, b2, o2, e1, by rw [hf2 _ hni]; exact e2, ?_, e4.mono (Ren.cut_le_cut hb' _), by rw [hk2 _ hp]; exact e5, ?_, e7⟩
    · rw [hl.goes.keep b2 (hI.rng _ _ e2)]
      · exact e3
      · rintro ⟨q, ob3, h3, h4, h5⟩
        obtain ⟨h6, h7⟩ := Ren.cut_some h5
        have := e6 q h7
        omega
    · intro q hq
      rcases Nat.lt_or_ge q nx1 with h | h
      · rw [hf1 q h] at hq
        exact absurd hp (hnp q b2 hq)
      · rw [hf2 q h] at hq; exact e6 q hq
  · intro q b hq
    rcases Nat.lt_or_ge q nx1 with h | h
    · exact .inl h
    · rw [hf2 q h] at hq
      rcases hwhere q b hq with h' | ⟨_, i, h1, h2, h3, h4⟩
      · omega
      · exact .inr ⟨i, h1, h2, (hset i).2 (.inl h3), h4⟩

/-- Whichever operation comes up. -/
theorem Inv.step (hL : LevOk P L) (hD : DrOk P L n ops ds ss lh lt) (hI : Inv ops n ds ss lh lt φ0 w0 ψ l a w) (hU : Up ops ss l j o s) {ro : Option Nat} {nn : Nat} {Kc : Act → World → Prop} {Q : Exit → Act → World → Prop}
    (hk : ∀ ψ' a' w', Inv ops n ds ss lh lt φ0 w0 ψ' (l.setIfInBounds j true) a' w' → Kc a' w') : wpOpIn (FW ro) nn P ops Q j Kc a w := by
  have hst := (hD.step j o s hU.ho hU.hs).1
  have hw := hI.wanted_ok hD hU
  have hρ := hI.operand_ok hD hU
  have hinv := operS_inv hst
  rcases hinv with ⟨i1, i2, i3, i4⟩ | ⟨i1, i2, i3, hc⟩
  · unfold wpOpIn
    simp only [hU.ho]
    have i1 : Region.wanted o (aYielded ops s.tm) = false := i1
    rw [hw, i1]
    simp only [Bool.false_eq_true, if_false]
    exact ⟨fun _ _ => trivial, hk ψ _ w (hI.quiet hD hU (by rw [i2]; rfl) (by rw [i2]; rfl) (by rw [i3]; exact VR.undef _))⟩
  · have i1 : Region.wanted o (aYielded ops s.tm) = true := i1
    have hρ' : ∀ x ∈ o.op.operands, VR (ψ.cut s.h.next) (aEval s.h.gl s.tm x) (a.eval x) := fun x hx => hρ x hx (i2 x hx)
    rcases hc with ⟨c1, c2, c3⟩ | ⟨c1, c2, c3⟩ | ⟨c1, ob, kv, c2, c3, c4⟩ | c1
    · obtain ⟨v', r1, r2⟩ := pureOp_ok (P := P) (φ := ψ.cut s.h.next) (fun f => rfl) hρ' c2
      unfold wpOpIn
      simp only [hU.ho]
      rw [hw, i1]
      simp only [if_true]
      exact pureOk_upon i3 (r2 w) (hk ψ _ w (hI.quiet hD hU (by rw [c1]; rfl) (by rw [c1]; rfl) r1))
    · obtain ⟨m, hm⟩ := hI.heap
      obtain ⟨d1, d2⟩ := hD.read j o s hU.ho hU.hs (by rw [c1]; rfl)
      have hread : readOp P (hAt ss lh m) (aEval (hAt ss lh m).gl s.tm) o = some s.v := by
        rcases d2 m hm.head with ⟨i, he, ⟨h1, h2⟩ | ⟨h1, h2⟩⟩ | h
        · exact absurd (hI.cl j i h2 (hm.done i h1 (.inl he))) hU.not
        · exact absurd (hU.reach i h2) (hm.rest i h1 he)
        · exact h
      have hgl : (hAt ss lh m).gl = s.h.gl := by rw [hD.gl_eq hm.le, ← hAt_eq (lh := lh) hU.hs, hD.gl_eq (Nat.le_of_lt hU.lt)]
      rw [hgl] at hread
      have hM : HR (ψ.cut (max (hAt ss lh m).next s.h.next)) (hAt ss lh m) w := hm.hr.mono (Ren.cut_mono ψ (Nat.le_max_left _ _)) (fun i b h => hI.rng i b (Ren.cut_some h).2)
      obtain ⟨v', r1, r2⟩ := readOp_ok hM (fun x hx => (hρ' x hx).mono (Ren.cut_mono ψ (Nat.le_max_right _ _))) hread
      have r3 : VR (ψ.cut s.h.next) s.v v' := (low_ok r1 20 s.h.next d1).mono (Ren.cut_le_cut (Ren.cut_le ψ _) _)
      unfold wpOpIn
      simp only [hU.ho]
      rw [hw, i1]
      simp only [if_true]
      exact pureOk_upon i3 r2 (hk ψ _ w (hI.quiet hD hU (by rw [c1]; rfl) (by rw [c1]; rfl) r3))
    · obtain ⟨o', v', w1, n1, r1, r2, r3, r4, r5, r6, r7, r8⟩ := newOp_ok (φ := ψ.cut s.h.next) hρ' c2 w
      unfold wpOpIn
      simp only [hU.ho]
      rw [hw, i1]
      simp only [if_true]
      exact pureOk_upon i3 r1 (hk _ _ w1 (hI.alloc hD hU c1 c3 c4 r2 r3 r4 r5 r6 r7 r8))
    · obtain ⟨m, hm⟩ := hI.heap
      have hE : isE (kAt ss j) = true := by rw [kAt_eq hU.hs, c1]; rfl
      have hmj : m ≤ j := by
        rcases Nat.lt_or_ge j m with h | h
        · exact absurd (hm.done j h (.inl hE)) hU.not
        · exact h
      have hclimb := hm.climb hD hI.rng j hmj (Nat.le_of_lt hU.lt)
        (fun i h1 h2 => by
          cases hx : isE (kAt ss i) with
          | false => rfl
          | true => exact absurd (hU.reach i (hD.eff j hE i h2 (.inl hx))) (hm.rest i h1 hx))
        (fun i h1 h2 h3 => hU.reach i (hD.eff j hE i h2 (.inr h3)))
      rw [hAt_eq hU.hs] at hclimb
      refine operS_ok (st := ⟨s.tm, ds, s.h⟩) hL hU.ho hclimb.1 (fun i hi => Ren.cut_out ψ hi) hw hρ hst ?_
      intro ψ1 v' w' q1 q2
      obtain ⟨ψ', h⟩ := hI.wrote hD hU c1 hclimb hm hmj q1 q2
      exact hk ψ' _ w' h
end

/-! ### All of a region -/
def unlisted (l : Array Bool) : Nat := l.toList.countP (fun b => !b)
theorem countP_set : ∀ (l : List Bool) (j : Nat), l[j]? = some false → (l.set j true).countP (fun b => !b) + 1 = l.countP (fun b => !b)
  | [], j, h => by simp at h
  | b :: l, 0, h => by simp at h; subst h; simp
  | b :: l, j + 1, h => by
    simp only [List.getElem?_cons_succ] at h
    have := countP_set l j h
    simp only [List.set_cons_succ, List.countP_cons]
    omega
theorem unlisted_set {l : Array Bool} {j : Nat} (hj : j < l.size) (hn : ¬ Li l j) : unlisted (l.setIfInBounds j true) + 1 = unlisted l := by
  unfold unlisted
  rw [Array.toList_setIfInBounds]
  refine countP_set _ _ ?_
  unfold Li at hn
  rw [Array.getD_eq_getD_getElem?] at hn
  rw [Array.getElem?_toList, Array.getElem?_eq_getElem hj] at *
  simp only [Option.getD_some, Bool.not_eq_true] at hn
  rw [hn]
theorem all_of_none {l : Array Bool} (hD : DrOk P L n ops ds ss lh lt) (hs : l.size = ops.size) (h : Region.ready .any ops l = []) : ∀ i, i < ops.size → Li l i := by
  intro i
  induction i using Nat.strongRecOn with
  | _ i ih =>
    intro hi
    by_cases hl : Li l i
    · exact hl
    · exfalso
      have hmem : i ∈ Region.ready .any ops l := by
        unfold Region.ready
        rw [List.mem_filter, List.mem_range, Bool.and_eq_true]
        refine ⟨hi, ?_, ?_⟩
        · unfold Li at hl
          rw [Array.getD_eq_getD_getElem?, Array.getElem?_eq_getElem (by omega)] at *
          simp only [Option.getD_some, Bool.not_eq_true] at hl ⊢
          rw [hl]; rfl
        · rw [Array.getElem?_eq_getElem hi]
          simp only [Option.map_some, Option.getD_some]
          rw [← Array.all_toList, List.all_eq_true]
          intro e he
          cases hb : Region.binds .any e with
          | false => rfl
          | true =>
            have hlt := hD.edges i ops[i] (Array.getElem?_eq_getElem hi) e he hb
            have := ih e.on hlt (by omega)
            simpa [Li] using this
      rw [h] at hmem; cases hmem
theorem Inv.fin (hD : DrOk P L n ops ds ss lh lt) (hI : Inv ops n ds ss lh lt φ0 w0 ψ l a w) (h : Region.ready .any ops l = []) :
    SR (ψ.cut lh.next) n ⟨lt, ds, lh⟩ a w ∧ Goes φ0 (hAt ss lh 0) w0 (ψ.cut lh.next) lh w := by
  have hall := all_of_none hD hI.sz h
  have hend : hAt ss lh ops.size = lh := by unfold hAt; rw [List.getElem?_eq_none (by rw [hD.len]; exact Nat.le_refl _)]
  have htend : tmAt ss lt ops.size = lt := by unfold tmAt; rw [List.getElem?_eq_none (by rw [hD.len]; exact Nat.le_refl _)]
  obtain ⟨m, hm⟩ := hI.heap
  have hclimb := hm.climb hD hI.rng ops.size hm.le (Nat.le_refl _)
    (fun i h1 h2 => by
      cases hx : isE (kAt ss i) with
      | false => rfl
      | true => exact absurd (hall i h2) (hm.rest i h1 hx))
    (fun i h1 h2 h3 => hall i h2)
  rw [hend] at hclimb
  refine ⟨⟨hclimb.1, fun i hi => Ren.cut_out ψ hi, ?_, hI.asz, ?_⟩, hclimb.2⟩
  · intro t
    have := hI.slots t ops.size (Nat.le_refl _) (fun i hi _ => hall i hi) (fun i hi ⟨o, ho, _⟩ => by rw [Array.getElem?_eq_none (by omega)] at ho; cases ho)
    rw [hend, htend] at this
    exact this
  · refine hI.ads.mono (Ren.cut_mono ψ ?_)
    have := hD.nx_le (Nat.zero_le ops.size) (Nat.le_refl _)
    rw [hend] at this; exact this
theorem any_ok (hL : LevOk P L) (hD : DrOk P L n ops ds ss lh lt) {ro : Option Nat} {nn : Nat} {Q : Exit → Act → World → Prop} (hQ : ∀ ψ a' w', SR ψ n ⟨lt, ds, lh⟩ a' w' → Goes φ0 (hAt ss lh 0) w0 ψ lh w' → Q .normal a' w') :
    ∀ (fuel : Nat) (l : Array Bool) (ψ : Ren) (a : Act) (w : World), unlisted l ≤ fuel → Inv ops n ds ss lh lt φ0 w0 ψ l a w → wpAnyIn (FW ro) nn P .any ops Q fuel l a w
  | 0, l, ψ, a, w, hf, hI => by
    have hnone : Region.ready .any ops l = [] := by
      cases hr : Region.ready .any ops l with
      | nil => rfl
      | cons j rs =>
        exfalso
        have hj : j ∈ Region.ready .any ops l := by rw [hr]; simp
        obtain ⟨o, s, hU⟩ := hI.up hD hj
        have := unlisted_set (l := l) (by rw [hI.sz]; exact hU.lt) hU.not
        omega
    obtain ⟨h1, h2⟩ := hI.fin hD hnone
    exact ⟨hnone, hQ _ a w h1 h2⟩
  | fuel + 1, l, ψ, a, w, hf, hI => by
    refine ⟨fun hnone => ?_, fun j hj => ?_⟩
    · obtain ⟨h1, h2⟩ := hI.fin hD hnone
      exact hQ _ a w h1 h2
    · obtain ⟨o, s, hU⟩ := hI.up hD hj
      have := unlisted_set (l := l) (by rw [hI.sz]; exact hU.lt) hU.not
      exact hI.step hL hD hU (fun ψ' a' w' h => any_ok hL hD hQ fuel _ ψ' a' w' (by omega) h)

theorem drawOk_ok (hL : LevOk P L) (hm : P.follows .mixedOrders = true) : DrawOk P L := by
  intro ro nn n id ops st st' sn φ a w Q hx hok hs hQ
  obtain ⟨ss, e1, e2, e3, e4, e5, e6⟩ := drawS_trail ops.toList st st' [] sn hx
  have e1 : sn.reverse = ss := by rw [e1]; simp
  rw [e1] at hok
  have hlen : ss.length = ops.size := by simpa using e2
  have hD : DrOk P L n ops st.ds ss st'.h st'.tm := drawOk_spec hok hlen (fun i o s ho hs => e6 i o s (by rw [Array.getElem?_toList]; exact ho) hs)
  refine wpIn_region_any hm ?_
  have hst' : (⟨st'.tm, st.ds, st'.h⟩ : St) = st' := by rw [← e3]
  refine any_ok (φ0 := φ) (w0 := w) hL hD (fun ψ a' w' h1 h2 => hQ ψ a' w' (by rw [← hst']; exact h1) (by rw [← e4]; exact h2)) ops.size _ φ a _ ?_ ?_
  · exact Nat.le_trans List.countP_le_length (by simp)
  · have hli : ∀ i, ¬ Li (Array.replicate ops.size false) i := fun i h => by
      unfold Li at h
      rw [Array.getD_eq_getD_getElem?, Array.getElem?_replicate] at h
      split at h <;> cases h
    have hcut : ∀ i, (φ.cut st.h.next) i = φ i := fun i => by
      rcases Nat.lt_or_ge i st.h.next with h | h
      · exact Ren.cut_get _ h
      · rw [Ren.cut_out _ h, hs.fresh i h]
    have hle : φ.le (φ.cut st.h.next) := ⟨fun i b h => by rw [hcut]; exact h, fun _ _ _ => rfl⟩
    refine ⟨by simp, fun i j _ h => absurd h (hli j), hs.size, ?_, hs.hr.rng, ?_, 0, Nat.zero_le _, .inl rfl, fun i h => absurd h (Nat.not_lt_zero _), fun i _ _ h => hli i h, ?_, ?_, fun i _ _ h => absurd h (hli i), ?_⟩
    · rw [e4]; exact hs.ds.mono hle
    · intro t m hmm h1 h2
      have hno : ∀ k, 0 ≤ k → k < m → ¬ Wr ops k t := fun k _ hk hw => hli k (h1 k hk hw)
      rw [tm_same hD m (Nat.zero_le _) hmm hno, e5]
      have := hD.nx_le (Nat.zero_le m) hmm
      rw [e4] at this
      exact (hs.tr t).mono (Ren.le_trans hle (Ren.cut_mono φ this))
    · rw [e4]
      exact (HR.of_heap (w1 := { w with drawn := w.drawn + 1 }) hs.hr rfl).mono hle (fun i b h => hs.hr.rng i b (Ren.cut_some h).2)
    · rw [e4]
      exact (Goes.of_heap (w := w) (w1 := { w with drawn := w.drawn + 1 }) rfl rfl rfl rfl).congr hcut hle
    · intro q b hq
      rw [e4]
      left
      rcases Nat.lt_or_ge q st.h.next with h | h
      · exact h
      · rw [hs.fresh q h] at hq; cases hq

/-! ### All levels -/
theorem lev_ok (hm : P.follows .mixedOrders = true) : ∀ (f : Nat), LevN P (lev P f) f
  | 0 => ⟨⟨fun h => (by cases h), fun h => (by cases h)⟩, fun h => (by cases h), fun h => (by cases h)⟩
  | f + 1 => by
    have ih := lev_ok hm f
    have hd := drawOk_ok ih.ok hm
    exact ⟨⟨fun h ha hh hf => callS_ok ih hd h ha hh hf, fun h hr hs => codeS_ok ih hd _ h hr hs⟩,
      fun h hr hs => loop_ok ih (fun h1 => codeS_ok ih hd _ h1 hr hs) h hr, fun h hr hs => scopeS_ok ih hd h hr hs⟩

/-- The interpreter's word on a call. -/
theorem call_sound (hm : P.follows .mixedOrders = true) (f : Nat) {g : FuncId} {args args' : Array Value} {H K : AHeap} {v : Value} {φ : Ren} {w : World} (hx : (lev P f).call g args H = some (v, K)) (ha : AR φ args args') (h : HR φ H w) (hf : Fresh φ H) :
    Calls P g args' w (RetOk φ H w v K) := callsIn_wide.1 ((lev_ok hm f).ok.call hx ha h hf)
end Go.Vi
