/-
  append, copy, clear; marks and strings over bytes.
-/
import Derived.Test.YtabpbpdhapaffaaGreatDoorVi10
import Derived.Laws.Append
set_option linter.unusedSimpArgs false
set_option linter.unusedVariables false
namespace Go.Vi
variable {P : Program} {φ : Ren} {H K : AHeap} {w : World}

/-- What is laid behind: n elements, as cells. -/
def SrcOk (P : Program) (φ : Ren) (w : World) (size : Nat) (x' : Value) (n : Nat) (new : List Value) : Prop :=
  (∀ w, (Builtin.lenOf x').run P w = .ok n w) ∧ ∃ new', LR φ new new' ∧ (Builtin.firstCells size n x').run P w = .ok new'.toArray w
theorem map_extract (t : ByteArray) : ((t.extract 0 t.size).data.map fun (b : UInt8) => Value.int .u8 (b.toNat : Int)) = (byteVals t.data.toList).toArray := by
  have e : (t.extract 0 t.size).data = t.data := by
    rw [ByteArray.data_extract]
    have : t.size = t.data.size := rfl
    rw [this, Array.extract_size]
  rw [e]
  apply Array.ext'
  simp [byteVals]
theorem src_ok (h : HR φ H w) {xd : TypeDesc} {x x' : Value} {size n : Nat} {new : List Value} (hx : VR φ x x')
    (hs : srcOf H size xd x = some (n, new)) : SrcOk P φ w size x' n new ∧ ((∃ e, xd = .slice e) ∨ xd = .string) := by
  unfold srcOf at hs
  split at hs <;> try (cases hs; done)
  · rename_i a n0 c0
    refine ⟨?_, .inl ⟨_, rfl⟩⟩
    obtain ⟨a', c', e1⟩ := hx.slice_any
    cases hz : Nat.beq n0 0 with
    | true =>
      rw [hz, cond_true, Option.some.injEq, Prod.mk.injEq] at hs
      obtain ⟨rfl, rfl⟩ := hs
      have hz := beq_true hz
      subst hz
      rw [e1]
      refine ⟨fun w => rfl, [], LR.nil φ, ?_⟩
      cases a' with
      | none => rfl
      | some a' => simp [Builtin.firstCells, loadCells, loadCellsFrom]
    | false =>
      rw [hz, cond_false] at hs
      cases hl : H.cells? a (n0 * size) with
      | none => rw [hl] at hs; cases hs
      | some l =>
      rw [hl] at hs
      simp only [Option.some.injEq, Prod.mk.injEq] at hs
      obtain ⟨rfl, rfl⟩ := hs
      rcases hx.slice_inv with ⟨b, c'', hb, hsp, hc, _, e2⟩ | ⟨a'', c'', rfl, rfl, _, _⟩
      · obtain ⟨i, o, s⟩ := a
        simp only at hsp hb; subst hsp
        obtain ⟨l', g1, g2, g3⟩ := h.loadCells (P := P) hl hb
        rw [e2]
        exact ⟨fun w => rfl, l', g1, g3⟩
      · cases hz
  · rename_i n0 c0
    refine ⟨?_, .inl ⟨_, rfl⟩⟩
    obtain ⟨hz, hs⟩ := bif_some hs
    simp only [Option.some.injEq, Prod.mk.injEq] at hs
    obtain ⟨rfl, rfl⟩ := hs
    obtain ⟨_, _, e1⟩ := hx.sliceNil_inv
    rw [e1]
    exact ⟨fun w => rfl, [], LR.nil φ, rfl⟩
  · rename_i t
    refine ⟨?_, .inr rfl⟩
    simp only [Option.some.injEq, Prod.mk.injEq] at hs
    obtain ⟨rfl, rfl⟩ := hs
    rw [hx.string_inv]
    refine ⟨fun w => rfl, byteVals t.data.toList, LR.refl_of fun v hv => by
        simp only [byteVals, List.mem_map] at hv
        obtain ⟨b, _, rfl⟩ := hv
        exact .int _ _, ?_⟩
    simp only [Builtin.firstCells, map_extract, Sem.run_pure]

theorem append_room {argTypes : Array TypeId} {ty : TypeId} {args : Array Value} {t0 t1 e : TypeId} {xd : TypeDesc} {base' : Option Addr} {sLen c' n : Nat} {x' : Value} {i : TypeInfo} {new' : List Value} {w' : World}
    (ht0 : argTypes[0]? = some t0) (hu0 : P.underlying t0 = some (.slice e)) (ht1 : argTypes[1]? = some t1) (hu1 : P.underlying t1 = some xd) (hxd : (∃ e, xd = .slice e) ∨ xd = .string)
    (ha0 : args[0]? = some (.slice base' sLen c')) (ha1 : args[1]? = some x') (hi : P.info? e = some i) (hlen : ∀ w, (Builtin.lenOf x').run P w = .ok n w)
    (hfirst : (Builtin.firstCells i.size n x').run P w = .ok new'.toArray w) (hroom : sLen + n ≤ c')
    (hst : (match base' with | some a => (storeCells (a.add (sLen * i.size)) new').run P w | none => .ok () w) = .ok () w') :
    (Builtin.append_ argTypes ty args).run P w = .ok (.slice base' (sLen + n) c') w' := by
  cases base' with
  | none =>
    simp only [Result.ok.injEq, true_and] at hst
    subst hst
    rcases hxd with ⟨e2, rfl⟩ | rfl <;>
      simp [Builtin.append_, ht0, ha0, ha1, ht1, run_underlying hu0, run_underlying hu1, sizeOf, typeInfo, hi, hlen, hroom, hfirst]
  | some a =>
    simp only at hst
    rcases hxd with ⟨e2, rfl⟩ | rfl <;>
      simp [Builtin.append_, ht0, ha0, ha1, ht1, run_underlying hu0, run_underlying hu1, sizeOf, typeInfo, hi, hlen, hroom, hfirst, hst]

theorem append_grow {argTypes : Array TypeId} {ty : TypeId} {args : Array Value} {t0 t1 e : TypeId} {xd : TypeDesc} {base' : Option Addr} {sLen c' n : Nat} {x' : Value} {i : TypeInfo} {z : Value} {old' new' : List Value}
    (ht0 : argTypes[0]? = some t0) (hu0 : P.underlying t0 = some (.slice e)) (ht1 : argTypes[1]? = some t1) (hu1 : P.underlying t1 = some xd) (hxd : (∃ e, xd = .slice e) ∨ xd = .string)
    (ha0 : args[0]? = some (.slice base' sLen c')) (ha1 : args[1]? = some x') (hi : P.info? e = some i) (hz : i.zero = some z) (hlen : ∀ w, (Builtin.lenOf x').run P w = .ok n w)
    (hfirst : (Builtin.firstCells i.size n x').run P w.drew = .ok new'.toArray w.drew) (hold : (Builtin.firstCells i.size sLen (.slice base' sLen c')).run P w.drew = .ok old'.toArray w.drew) (hgrow : ¬ sLen + n ≤ c')
    (hb : (sLen + n) * 2 * (i.bytes + 1) ≤ 140737488355328) :
    ∃ cap, sLen + n ≤ cap ∧ (Builtin.append_ argTypes ty args).run P w = .ok (.slice (some ⟨w.heap.size, 0, none⟩) (sLen + n) cap) (w.drew.alloc (.cells (old' ++ new' ++ (Builtin.zeroCells z.cells (cap - (sLen + n))).toList).toArray e)) := by
  have hm : (sLen + n) * 2 ≤ (sLen + n) * 2 * (i.bytes + 1) := Nat.le_mul_of_pos_right _ (Nat.succ_pos _)
  have h63' : ¬ (9223372036854775807 < ((sLen : Int) + (n : Int))) := by omega
  have h48' : ¬ (281474976710656 < Builtin.nextslicecap (sLen + n) c' * i.bytes) := by
    have h1 : Builtin.nextslicecap (sLen + n) c' * i.bytes ≤ 2 * (sLen + n) * i.bytes := Nat.mul_le_mul_right _ (nextslicecap_le (by omega))
    have h2 : 2 * (sLen + n) * i.bytes ≤ (sLen + n) * 2 * (i.bytes + 1) := by rw [Nat.mul_comm 2]; exact Nat.mul_le_mul_left _ (by omega)
    omega
  refine ⟨grownCap w (sLen + n) c' e, grownCap_ge _ _ _ _, ?_⟩
  have hn : ¬ (sLen + n ≤ c') := hgrow
  rcases hxd with ⟨e2, rfl⟩ | rfl
  · simp [Builtin.append_, ht0, ha0, ha1, ht1, run_underlying hu0, run_underlying hu1, sizeOf, typeInfo, zeroValue, hi, hz, hlen, hn, h63', h48', Question.forced, hfirst, hold, newRow, grownCap]
    congr 2
    apply Array.ext'
    simp
  · simp [Builtin.append_, ht0, ha0, ha1, ht1, run_underlying hu0, run_underlying hu1, sizeOf, typeInfo, zeroValue, hi, hz, hlen, hn, h63', h48', Question.forced, hfirst, hold, newRow, grownCap]
    congr 2
    apply Array.ext'
    simp

theorem LR.prefix_ {x x' r : List Value} (h : LR φ x x') : LR φ x ((x' ++ r).take x.length) := by
  rw [List.take_append_of_le_length (by rw [h.1]; exact Nat.le_refl _), List.take_of_length_le (by rw [h.1]; exact Nat.le_refl _)]
  exact h
/-- A row that grew, under a new name. -/
theorem grow_push (h : HR φ H w.drew) (hf : Fresh φ H) {fl : Fl} {e : TypeId} {size need cap : Nat} {cs cs' rest : List Value} (hcs : LR φ cs cs') (hfl : (∃ s, fl = .open_ s) ∨ ∃ s, fl = .mark s) (hsz : fl.sz = size)
    (hl : cs.length = need * size) (hr : rest.length = (cap - need) * size) (hn : need ≤ cap) :
    ∃ ψ, Leaves φ H w.drew ψ (H.new (.cells fl cs e)) (w.drew.alloc (.cells (cs' ++ rest).toArray e)) ∧ VR ψ (.slice (some ⟨H.next, 0, none⟩) need (2 * need + 1)) (.slice (some ⟨w.heap.size, 0, none⟩) need cap) := by
  have hor : OR φ (.cells fl cs e) (.cells (cs' ++ rest).toArray e (0, 0)) := by
    rcases hfl with ⟨s, rfl⟩ | ⟨s, rfl⟩
    · exact .open_ s e hcs.prefix_
    · exact .mark s e _ (.inl rfl) hcs.prefix_
  have hcap : CapOf cap (.cells fl cs e) (.cells (cs' ++ rest).toArray e (0, 0)) := fun fl1 c1 e1 c1' fr1 h1 h2 _ => by
    cases h1; cases h2
    rw [hsz]
    simp only [List.size_toArray, List.length_append, ← hcs.1, hl, hr]
    rw [← Nat.add_mul]; congr 1; omega
  obtain ⟨r1, r2, r3⟩ := h.push hf hor hcap (w1 := w.drew.alloc (.cells (cs' ++ rest).toArray e)) rfl rfl rfl rfl
  exact ⟨_, ⟨r1, r2, r3⟩, .slice _ (Ren.set_same _ _ _ _) (capOk_open hn) (fun _ _ => (Ren.set_k _ _ _ _).symm)⟩
theorem Leaves.drew {ψ : Ren} {v : World} (h : Leaves φ H w.drew ψ K v) : Leaves φ H w ψ K v :=
  ⟨h.hr, h.fresh, (Goes.of_heap (w := w) (w1 := w.drew) rfl rfl rfl rfl).trans h.goes⟩
theorem Leaves.trans {ψ χ : Ren} {L : AHeap} {v u : World} (h : Leaves φ H w ψ K v) (k : Leaves ψ K v χ L u) : Leaves φ H w χ L u :=
  ⟨k.hr, k.fresh, h.goes.trans k.goes⟩

theorem append_ok (h : HR φ H w) (hf : Fresh φ H) {argTypes : Array TypeId} {ty : TypeId} {args : Array Value} {s s' x x' v : Value} (hs : VR φ s s') (hx : VR φ x x') (ha0 : args[0]? = some s') (ha1 : args[1]? = some x')
    (ha : appendA P H argTypes s x = some (v, K)) : ∃ ψ v' w', (Builtin.append_ argTypes ty args).run P w = .ok v' w' ∧ Leaves φ H w ψ K w' ∧ VR ψ v v' := by
  unfold appendA at ha
  cases ht0 : argTypes[0]? with
  | none => rw [ht0] at ha; cases ha
  | some t0 =>
  rw [ht0] at ha
  simp only [Option.bind_some] at ha
  cases hu0 : P.underlying t0 with
  | none => rw [hu0] at ha; cases ha
  | some d0 =>
  rw [hu0] at ha
  cases d0 <;> try (cases ha; done)
  rename_i e
  cases ht1 : argTypes[1]? with
  | none => rw [ht1] at ha; cases ha
  | some t1 =>
  rw [ht1] at ha
  simp only [Option.bind_some] at ha
  cases hu1 : P.underlying t1 with
  | none => rw [hu1] at ha; cases ha
  | some xd =>
  rw [hu1] at ha
  cases s <;> try (cases ha; done)
  rename_i base sLen sCap
  simp only at ha
  cases hi : P.info? e with
  | none => rw [hi] at ha; cases ha
  | some i =>
  rw [hi] at ha
  simp only at ha
  obtain ⟨hz, ha⟩ := bif_some ha
  cases hz1 : i.zero with
  | none => rw [hz1] at hz; cases hz
  | some z =>
  rw [hz1] at hz
  have hz := beq_true hz
  cases hsrc : srcOf H i.size xd x with
  | none => rw [hsrc] at ha; cases ha
  | some p =>
  obtain ⟨n, new⟩ := p
  rw [hsrc] at ha
  simp only at ha
  obtain ⟨⟨hlen, new', hnew, hfirst⟩, hxd⟩ := src_ok (P := P) h hx hsrc
  have hd : HR φ H w.drew := h.of_heap rfl
  obtain ⟨⟨_, new2, hnew2, hfirst2⟩, _⟩ := src_ok (P := P) hd hx hsrc
  obtain ⟨base', c', rfl⟩ := hs.slice_any
  unfold appendB at ha
  cases hlow : Nat.ble (sLen + n) (capLow sCap) with
  | true =>
    rw [hlow, cond_true] at ha
    have hlow := ble_true hlow
    cases base with
    | none =>
      simp only at ha
      obtain ⟨hc, ha⟩ := bif_some ha
      simp only [Option.some.injEq, Prod.mk.injEq] at ha
      obtain ⟨rfl, rfl⟩ := ha
      simp only [Bool.and_eq_true] at hc
      obtain ⟨⟨c1, c2⟩, c3⟩ := hc
      have c1 := beq_true c1; have c2 := beq_true c2; have c3 := beq_true c3
      subst c1; subst c2; subst c3
      obtain ⟨_, _, e1⟩ := hs.sliceNil_inv
      simp only [Value.slice.injEq, true_and] at e1
      obtain ⟨rfl, rfl⟩ := e1
      exact ⟨φ, .slice none 0 0, w, append_room ht0 hu0 ht1 hu1 hxd ha0 ha1 hi hlen hfirst (Nat.le_refl _) rfl, Leaves.same h hf, .sliceNil⟩
    | some a =>
      simp only at ha
      cases hsp : a.spot with
      | some k => rw [hsp] at ha; cases ha
      | none =>
      rw [hsp] at ha
      simp only [Option.isSome_none, cond_false] at ha
      cases hst : H.store? (addAddr a (sLen * i.size)) new with
      | none => rw [hst] at ha; cases ha
      | some K' =>
      rw [hst] at ha
      simp only [Option.some.injEq, Prod.mk.injEq] at ha
      obtain ⟨rfl, rfl⟩ := ha
      rcases hs.slice_inv with ⟨b, c'', hb, _, hc, hk, e2⟩ | ⟨a'', c'', rfl, _, _, _⟩
      · simp only [Value.slice.injEq, true_and] at e2
        obtain ⟨rfl, rfl⟩ := e2
        obtain ⟨_, w', g1, g2⟩ := h.store (P := P) hf (a := addAddr a (sLen * i.size)) hb hnew hst
        refine ⟨φ, _, w', append_room ht0 hu0 ht1 hu1 hxd ha0 ha1 hi hlen hfirst (Nat.le_trans hlow (capOk_low hc)) ?_, g2, ?_⟩
        · simp only [addAddr_eq]; exact g1
        · obtain ⟨i0, o0, s0⟩ := a
          simp only at hsp; subst hsp
          exact .slice _ hb hc hk
      · cases hsp
  | false =>
    rw [hlow, cond_false] at ha
    obtain ⟨hcond, ha⟩ := bif_some ha
    simp only [Bool.and_eq_true] at hcond
    obtain ⟨⟨hb1, hone⟩, hnl⟩ := hcond
    have hb1 := ble_true hb1
    have hnl := beq_true hnl
    have hlow : ¬ sLen + n ≤ capLow sCap := fun hh => by rw [Nat.ble_eq_true_of_le hh] at hlow; cases hlow
    have hrest : ∀ cap, (Builtin.zeroCells z.cells (cap - (sLen + n))).toList.length = (cap - (sLen + n)) * i.size := fun cap => by
      rw [Array.length_toList, size_zeroCells, hz]
    cases base with
    | none =>
      simp only at ha
      obtain ⟨hc, ha⟩ := bif_some ha
      simp only [Option.some.injEq, Prod.mk.injEq] at ha
      obtain ⟨rfl, rfl⟩ := ha
      simp only [Bool.and_eq_true] at hc
      obtain ⟨c2, c3⟩ := hc
      have c2 := beq_true c2; have c3 := beq_true c3
      subst c2; subst c3
      obtain ⟨_, _, e1⟩ := hs.sliceNil_inv
      simp only [Value.slice.injEq, true_and] at e1
      obtain ⟨rfl, rfl⟩ := e1
      obtain ⟨cap, hcap, hrun⟩ := append_grow (w := w) (ty := ty) ht0 hu0 ht1 hu1 hxd ha0 ha1 hi hz1 hlen hfirst2 (old' := []) rfl (by unfold capLow at hlow; omega) hb1
      obtain ⟨ψ, r1, r2⟩ := grow_push (w := w) hd hf (fl := .open_ i.size) (e := e) (size := i.size) (need := 0 + n) (cap := cap) (rest := (Builtin.zeroCells z.cells (cap - (0 + n))).toList) hnew2 (.inl ⟨_, rfl⟩) rfl (by rw [hnl]; simp) (hrest cap) hcap
      exact ⟨ψ, _, _, hrun, r1.drew, r2⟩
    | some a =>
      simp only at ha
      cases hsp : a.spot with
      | some k => rw [hsp] at ha; cases ha
      | none =>
      rw [hsp] at ha
      simp only [Option.isSome_none, cond_false] at ha
      obtain ⟨i0, o0, s0⟩ := a
      simp only at hsp; subst hsp
      rcases hs.slice_inv with ⟨b, c'', hb, _, hc, hk, e2⟩ | ⟨a'', c'', e1, _, _, _⟩
      · simp only [Value.slice.injEq, true_and] at e2
        obtain ⟨rfl, rfl⟩ := e2
        simp only at hb hk
        cases hop : isOpen sCap with
        | false =>
          rw [hop, cond_false] at ha
          have hcc := isOpen_false hc hop
          cases hl : H.cells? ⟨i0, o0, none⟩ (sLen * i.size) with
          | none => rw [hl] at ha; cases ha
          | some old =>
          rw [hl] at ha
          simp only [Option.some.injEq, Prod.mk.injEq] at ha
          obtain ⟨rfl, rfl⟩ := ha
          obtain ⟨old', o1, o2, o3⟩ := hd.loadCells (P := P) hl hb
          obtain ⟨cap, hcap, hrun⟩ := append_grow (w := w) (ty := ty) ht0 hu0 ht1 hu1 hxd ha0 ha1 hi hz1 hlen hfirst2 (old' := old') o3 (by rw [hcc]; exact hlow) hb1
          obtain ⟨ψ, r1, r2⟩ := grow_push (w := w) hd hf (fl := .open_ i.size) (e := e) (size := i.size) (need := sLen + n) (cap := cap) (rest := (Builtin.zeroCells z.cells (cap - (sLen + n))).toList) (o1.append hnew2) (.inl ⟨_, rfl⟩) rfl
            (by rw [List.length_append, hnl, o1.1, o2, Nat.add_mul]) (hrest cap) hcap
          exact ⟨ψ, _, _, hrun, r1.drew, r2⟩
        | true =>
          rw [hop, cond_true] at ha
          cases ho : H.objs.get i0 with
          | none => rw [ho] at ha; cases ha
          | some ob =>
          rw [ho] at ha
          cases ob <;> try (cases ha; done)
          rename_i fl c e'
          simp only at ha
          obtain ⟨hcond, ha⟩ := bif_some ha
          simp only [Option.some.injEq, Prod.mk.injEq] at ha
          obtain ⟨rfl, rfl⟩ := ha
          simp only [Bool.and_eq_true, Bool.not_eq_true'] at hcond
          obtain ⟨⟨⟨⟨k1, k2⟩, k3⟩, k4⟩, k5⟩ := hcond
          have k1 := beq_true k1; have k2 := beq_true k2; have k3 := beq_true k3; have k5 := beq_true k5
          subst k1; subst k5
          have hs0 : i.size ≠ 0 := fun e0 => by rw [e0] at k4; cases k4
          have hfl : (∃ s, fl = .open_ s) ∨ ∃ s, fl = .mark s := by
            cases fl with
            | own => exact absurd k3.symm hs0
            | open_ s => exact .inl ⟨s, rfl⟩
            | mark s => exact .inr ⟨s, rfl⟩
            | ro => exact absurd k3.symm hs0
          have hodd : sCap % 2 = 1 := beq_true hop
          have hck : c' = φ.k b := hk rfl hodd
          by_cases hroom : sLen + n ≤ c'
          · obtain ⟨cur, fr, g1, g2, g3, g4, g5, g6⟩ := h.row ho hb
            have hcs := h.caps i0 fl c e b cur fr ho hb g1 (by rw [k3]; exact hs0)
            rw [k3, ← hck] at hcs
            have hlast : sLen * i.size + new'.length ≤ cur.size := by
              rw [← hnew.1, hnl, hcs, ← Nat.add_mul]; exact Nat.mul_le_mul_right _ hroom
            have hfr : ∀ j, j < cur.size → ¬ (fr.1 ≤ j ∧ j < fr.2) := by
              rcases hfl with ⟨s, rfl⟩ | ⟨s, rfl⟩
              · have := g5 (.inr ⟨s, rfl⟩); subst this; intro j _; simp
              · rcases g6 s rfl with h7 | h7 <;> subst h7 <;> intro j hj <;> simp <;> omega
            obtain ⟨w', q1, q2, q3, q4, q5, q6, q7⟩ := run_storeCells (P := P) new' (sLen * i.size) 0 cur w g1 (by omega) hfr (hnew.oneCell hone)
            simp only [Nat.add_zero] at q4
            have hsz : (splice cur.toList (sLen * i.size) new').toArray.size = cur.size := by simp [splice]; omega
            have hlr : LR φ (c ++ new) ((splice cur.toList (sLen * i.size) new').take (c ++ new).length) := by
              have e1 : (splice cur.toList (sLen * i.size) new').take (c ++ new).length = cur.toList.take c.length ++ new' := by
                unfold splice
                rw [k2, ← List.append_assoc, List.take_append_of_le_length, List.take_of_length_le]
                · simp only [List.length_append, List.length_take, hnew.1]; omega
                · simp only [List.length_append, List.length_take, hnew.1, Array.length_toList]; omega
              rw [e1]
              exact g2.append hnew
            have hor : OR φ (.cells fl (c ++ new) e) (.cells (splice cur.toList (sLen * i.size) new').toArray e fr) := by
              rcases hfl with ⟨s, rfl⟩ | ⟨s, rfl⟩
              · have := g5 (.inr ⟨s, rfl⟩); subst this; exact .open_ s e (by simpa using hlr)
              · exact .mark s e fr (by rw [hsz]; exact g6 s rfl) (by simpa using hlr)
            have hcapof : CapOf (φ.k b) (.cells fl (c ++ new) e) (.cells (splice cur.toList (sLen * i.size) new').toArray e fr) := by
              intro fl1 c1 e1 c1' fr1 h1 h2 _
              cases h1; cases h2
              rw [hsz, k3, ← hck]; exact hcs
            obtain ⟨r1, r2, r3⟩ := h.move hf ho hb (by rcases hfl with ⟨s, rfl⟩ | ⟨s, rfl⟩ <;> rfl) hor hcapof q2 q3 q4 q5 q6 q7
            refine ⟨_, _, w', append_room ht0 hu0 ht1 hu1 hxd ha0 ha1 hi hlen hfirst hroom ?_, ⟨r1, r2, r3⟩, ?_⟩
            · simp only [addAddr_eq, Nat.zero_add]; exact q1
            · exact .slice _ (Ren.set_same _ _ _ _) (capOk_open hroom) (fun _ _ => by rw [Ren.set_k]; exact hck)
          · obtain ⟨cur, fr, g1, g2, g3, g4, g5, g6⟩ := hd.row ho hb
            have hcl : H.cells? ⟨i0, 0, none⟩ (sLen * i.size) = some c := by
              unfold AHeap.cells?
              simp only [ho, List.drop_zero]
              rw [← k2, List.take_of_length_le (Nat.le_refl _), Nat.beq_refl]; rfl
            obtain ⟨old', o1, o2, o3⟩ := hd.loadCells (P := P) hcl hb
            obtain ⟨cap, hcap, hrun⟩ := append_grow (w := w) (ty := ty) ht0 hu0 ht1 hu1 hxd ha0 ha1 hi hz1 hlen hfirst2 (old' := old') o3 hroom hb1
            obtain ⟨ψ, r1, r2⟩ := grow_push (H := H.drop i0) (w := w) (hd.drop i0) hf (fl := fl) (e := e) (size := i.size) (need := sLen + n) (cap := cap) (rest := (Builtin.zeroCells z.cells (cap - (sLen + n))).toList) (o1.append hnew2) hfl k3
              (by rw [List.length_append, hnl, k2, Nat.add_mul]) (hrest cap) hcap
            have r0 : Leaves φ H w.drew φ (H.drop i0) w.drew := ⟨hd.drop i0, hf, Goes.drop _ _ _ _⟩
            exact ⟨ψ, _, _, hrun, (r0.trans r1).drew, r2⟩
      · cases e1
end Go.Vi
