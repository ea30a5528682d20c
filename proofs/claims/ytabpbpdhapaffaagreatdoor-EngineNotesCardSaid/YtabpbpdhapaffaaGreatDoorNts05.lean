/-
  EngineNotes returns true whatever the notes and what stands between them, part 5: GrA9, GrA10, GrA11. Conditions: none but those of the row.
-/
import Derived.Laws.Append
import Derived.Test.YtabpbpdhapaffaaGreatDoorNts04
set_option linter.unusedSimpArgs false
set_option linter.unusedVariables false
section
namespace Go.Vi
section
variable {P : Program} {φ : Ren} {H K : AHeap} {w : World}

theorem VR.oneCell {v v' : Value} (h : VR φ v v') : Go.Vi.oneCell v' = Go.Vi.oneCell v := by cases h <;> first | rfl | (rename_i e; exact topOk_one e)
theorem LR.oneCell {x y : List Value} (h : LR φ x y) (hx : x.all Go.Vi.oneCell = true) : ∀ v ∈ y, Go.Vi.oneCell v = true := by
  intro v hv
  obtain ⟨i, hi⟩ := List.getElem?_of_mem hv
  have hlt : i < x.length := by rw [h.1]; exact (List.getElem?_eq_some_iff.1 hi).1
  obtain ⟨v', e, r⟩ := h.2 i x[i] (List.getElem?_eq_getElem hlt)
  rw [e] at hi; cases hi
  rw [r.oneCell]
  exact (List.all_eq_true.1 hx) _ (List.getElem_mem hlt)

/-- What a step leaves: a state in which the new heap lies, and nothing turned that may not. -/
structure Leaves (φ : Ren) (H : AHeap) (w : World) (ψ : Ren) (K : AHeap) (v : World) : Prop where
  hr : HR ψ K v
  fresh : Fresh ψ K
  goes : Goes φ H w ψ K v

theorem HR.store (h : HR φ H w) (hf : Fresh φ H) {a : Addr} {b : Nat} {vs vs' : List Value} (hb : φ a.block = some b) (hv : LR φ vs vs') (hs : H.store? a vs = some K) :
    a.spot = none ∧ ∃ w', (storeCells ⟨b, a.off, none⟩ vs').run P w = .ok () w' ∧ Leaves φ H w φ K w' := by
  obtain ⟨i, o, sp⟩ := a
  unfold AHeap.store? at hs
  simp only at hs hb ⊢
  split at hs <;> try (cases hs; done)
  rename_i fl c e hi
  obtain ⟨hc, hs⟩ := bif_some hs
  simp only [Option.some.injEq] at hs; subst hs
  simp only [Bool.and_eq_true] at hc
  obtain ⟨⟨k1, k2⟩, k3⟩ := hc
  have k2 := ble_true k2
  refine ⟨rfl, ?_⟩
  obtain ⟨c', fr, h1, h2, h3, h4, h5, h6⟩ := h.row hi hb
  have hfr : ∀ j, j < c'.size → ¬ (fr.1 ≤ j ∧ j < fr.2) := by
    cases fl with
    | own => have := h5 (.inl rfl); subst this; intro j _; simp
    | open_ s => have := h5 (.inr ⟨s, rfl⟩); subst this; intro j _; simp
    | mark s => rcases h6 s rfl with h7 | h7 <;> subst h7 <;> intro j hj <;> simp <;> omega
    | ro => cases k1
  have hvl := hv.1
  obtain ⟨w', g1, g2, g3, g4, g5, g6, g7⟩ := run_storeCells (P := P) vs' o 0 c' w h1 (by omega) hfr (hv.oneCell k3)
  simp only [Nat.add_zero] at g4
  obtain ⟨s1, s2⟩ := splice_LR h2 hv k2
  have hsz : (splice c'.toList o vs').toArray.size = c'.size := by simp [splice]; omega
  have hor : OR φ (.cells fl (splice c o vs) e) (.cells (splice c'.toList o vs').toArray e fr) := by
    cases fl with
    | own =>
      have e1 := h5 (.inl rfl); subst e1
      refine .own e ?_
      rw [List.take_of_length_le] at s1
      · simpa using s1
      · rw [s2, h4 rfl]; simp [splice]; omega
    | open_ s => have e1 := h5 (.inr ⟨s, rfl⟩); subst e1; exact .open_ s e (by simpa using s1)
    | mark s =>
      refine .mark s e fr ?_ (by simpa using s1)
      rw [hsz]
      exact h6 s rfl
    | ro => cases k1
  have hcap : CapOf (φ.k b) (.cells fl (splice c o vs) e) (.cells (splice c'.toList o vs').toArray e fr) := by
    intro fl1 c1 e1 c1' fr1 ha hb1 hs1
    cases ha; cases hb1
    rw [hsz]
    exact h.caps i _ c e b c' fr hi hb h1 hs1
  obtain ⟨r1, r2, r3⟩ := h.turn hf hi hb (by exact k1) hor hcap g2 g3 g4 g5 g6 g7
  exact ⟨w', g1, r1, r2, r3⟩

theorem storeV_ok (h : HR φ H w) (hf : Fresh φ H) {t : TypeId} {a : Addr} {u v v' : Value} (hu : VR φ (.pointer (some a)) u) (hv : VR φ v v') (hs : storeV P H t a v = some K) :
    ∃ w', (Instr.storeAt t u v').run P w = .ok () w' ∧ Leaves φ H w φ K w' := by
  obtain ⟨b, hb, hsp, rfl⟩ := hu.ptr_inv
  unfold storeV at hs
  cases hz : sizeT P t with
  | none => rw [hz] at hs; cases hs
  | some n =>
  rw [hz] at hs
  simp only at hs
  obtain ⟨hn, hs⟩ := bif_some hs
  have hn := beq_true hn
  have hc := cells_ok hv
  obtain ⟨_, w', g1, g2⟩ := h.store hf hb hc hs (P := P)
  refine ⟨w', ?_, g2⟩
  have hsz : v'.cells.size = n := by rw [← hc.size]; exact hn
  simp only [Instr.storeAt, Instr.sureAddr, storeVar, Sem.run_bind, Sem.run_pure, Result.andThen_ok, sizeT_run hz, hsz, ne_eq, not_true_eq_false, if_false, g1]

/-! ### One new block -/
def NewOk (P : Program) (φ : Ren) (w : World) (s : Sem Next) (ob : AObj) (k : NewV) : Prop :=
  ∃ o' v' w1 n, s.run P w = .ok (.value v') w1 ∧ w1.heap = w.heap.push o' ∧ w1.os = w.os ∧ w1.tape = w.tape ∧ w1.output = w.output ∧ OR φ ob o' ∧ CapOf n ob o' ∧
    ∀ id, VR (φ.set id w.heap.size n) (k.at id) v'
theorem CapOf.own (n : Nat) (c : List Value) (e : TypeId) (o' : Obj) : CapOf n (.cells .own c e) o' := fun fl c1 e1 c' fr h _ hs => by cases h; exact absurd rfl hs
theorem range_map_ok {zero : Array Value} (h : AR φ zero zero) (n : Nat) : AR φ ((Array.range n).map (zero[· % zero.size]!)) ((Array.range n).map (zero[· % zero.size]!)) := by
  refine LR.refl_of fun v hv => ?_
  simp only [Array.toList_map, List.mem_map] at hv
  obtain ⟨i, _, rfl⟩ := hv
  by_cases hlt : i % zero.size < zero.size
  · rw [getElem!_pos zero _ hlt]
    exact h.get _ hlt hlt
  · rw [getElem!_neg zero _ hlt]
    exact .bool _

theorem zero_ok {e : TypeId} {m : Nat} {zero : Array Value} (hzero : (bif Nat.beq m 0 then some #[] else (zeroT P e).bind fun z => bif bare 20 z then some z.cells else none) = some zero) :
    AR φ zero zero ∧ ((m = 0 ∧ zero = #[]) ∨ (m ≠ 0 ∧ ∃ z, zeroT P e = some z ∧ zero = z.cells)) := by
  cases h0 : Nat.beq m 0 with
  | true =>
    rw [h0, cond_true, Option.some.injEq] at hzero; subst hzero
    exact ⟨LR.nil φ, .inl ⟨beq_true h0, rfl⟩⟩
  | false =>
    rw [h0, cond_false] at hzero
    have hne : m ≠ 0 := fun e0 => by rw [e0] at h0; cases h0
    cases hzz : zeroT P e with
    | none => rw [hzz] at hzero; cases hzero
    | some z =>
    rw [hzz] at hzero
    simp only [Option.bind_some] at hzero
    obtain ⟨hb, hzero⟩ := bif_some hzero
    simp only [Option.some.injEq] at hzero; subst hzero
    exact ⟨cells_ok (bare_spec 20 z hb), .inr ⟨hne, z, rfl, rfl⟩⟩
theorem wrap_small {n : Int} (h0 : 0 ≤ n) (h1 : n < 9223372036854775808) : IntKind.i64.wrap n = n := by
  have e : IntKind.i64.wrap n = (if decide (n % (2 ^ 64 : Int) ≥ (2 ^ 63 : Int)) = true then n % (2 ^ 64 : Int) - (2 ^ 64 : Int) else n % (2 ^ 64 : Int)) := rfl
  rw [e]
  split
  · rename_i h; simp only [decide_eq_true_eq] at h; omega
  · omega
theorem modify_push (a : Array Obj) (o : Obj) (f : Obj → Obj) : (a.push o).modify a.size f = a.push (f o) := by
  apply Array.ext_getElem?
  intro i
  rw [Array.getElem?_modify, Array.getElem?_push, Array.getElem?_push]
  by_cases h : i = a.size
  · subst h; simp
  · rw [if_neg h, if_neg (Ne.symm h), if_neg h]

def strA (s : ByteArray) (k : Nat) : Array Value := (s.data.map fun (b : UInt8) => Value.int .u8 (b.toNat : Int)) ++ Array.replicate k (Value.int .u8 0)
theorem strA_size (s : ByteArray) (k : Nat) : (strA s k).size = s.size + k := by
  unfold strA
  simp only [Array.size_append, Array.size_map, Array.size_replicate]
  rfl
theorem newOp_ok {ρ ρ' : Operand → Value} {o : Oper} {ob : AObj} {k : NewV} (hρ : ∀ x ∈ o.op.operands, VR φ (ρ x) (ρ' x)) (h : newOp P ρ o = some (ob, k)) (w : World) :
    NewOk P φ w (execOp ρ' o) ob k := by
  obtain ⟨dst, op, ty, pos, after, guard⟩ := o
  simp only at hρ
  cases op <;> simp only [newOp] at h <;> try (cases h; done)
  case alloc t =>
    cases hz : zeroT P t with
    | none => rw [hz] at h; cases h
    | some z =>
    rw [hz] at h
    simp only [Option.bind_some] at h
    obtain ⟨hb, h⟩ := bif_some h
    simp only [Option.some.injEq, Prod.mk.injEq] at h
    obtain ⟨rfl, rfl⟩ := h
    have hzb := cells_ok (bare_spec (φ := φ) 20 z hb)
    refine ⟨.cells z.cells t, .pointer (some ⟨w.heap.size, 0, none⟩), { w with heap := w.heap.push (.cells z.cells t) }, 0, ?_, rfl, rfl, rfl, rfl, .own t hzb, CapOf.own _ _ _ _, fun id => .ptr (Ren.set_same _ _ _ _)⟩
    simp only [execOp, Instr.alloc, newVar, newRow, Sem.run_bind, zeroT_run hz, Result.andThen_ok, run_newObj, Sem.run_pure]
  case box t x =>
    have hx := hρ x (by simp [Op.operands])
    simp only [Option.some.injEq, Prod.mk.injEq] at h
    obtain ⟨rfl, rfl⟩ := h
    refine ⟨.cells (ρ' x).cells t, .pointer (some ⟨w.heap.size, 0, none⟩), { w with heap := w.heap.push (.cells (ρ' x).cells t) }, 0, ?_, rfl, rfl, rfl, rfl, .own t (cells_ok hx), CapOf.own _ _ _ _, fun id => .ptr (Ren.set_same _ _ _ _)⟩
    simp only [execOp, Instr.box, newVar, newRow, Sem.run_bind, Result.andThen_ok, run_newObj, Sem.run_pure]
  case buildSlice t len parts =>
    cases hu : P.underlying t with
    | none => rw [hu] at h; cases h
    | some d =>
    rw [hu] at h
    cases d <;> try (cases h; done)
    rename_i e
    simp only at h
    cases hz : sizeT P e with
    | none => rw [hz] at h; cases h
    | some size =>
    rw [hz] at h
    simp only at h
    obtain ⟨hle, h⟩ := bif_some h
    have hle := ble_true hle
    cases hzero : (bif Nat.beq (len * size) 0 then some #[] else (zeroT P e).bind fun z => bif bare 20 z then some z.cells else none) with
    | none => rw [hzero] at h; cases h
    | some zero =>
    rw [hzero] at h
    simp only at h
    obtain ⟨cells, hf, h⟩ := option_map_some h
    simp only [Prod.mk.injEq] at h
    obtain ⟨rfl, rfl⟩ := h
    obtain ⟨hzr, hzc⟩ : AR φ zero zero ∧ ((len * size = 0 ∧ zero = #[]) ∨ (len * size ≠ 0 ∧ ∃ z, zeroT P e = some z ∧ zero = z.cells)) := zero_ok hzero
    obtain ⟨hp1, hp2⟩ := parts_ok (φ := φ) (ρ := ρ) (ρ' := ρ') (parts := parts) (fun p hp => hρ p.2 (by simp only [Op.operands, List.mem_toArray, List.mem_map]; exact ⟨p, by simpa using hp, rfl⟩))
    have hf' : Instr.fill (fun i => some (i * size, size)) ((Array.range (len * size)).map (zero[· % zero.size]!)) (parts.map fun (x : Nat × Operand) => (x.1, ρ x.2)).toList = some cells := by
      rw [← hf]; congr 1; simp
    obtain ⟨cells', g1, g2⟩ := fill_ok _ _ _ _ _ hp1 hp2 (range_map_ok hzr _) hf'
    refine ⟨.cells cells' e, .slice (some ⟨w.heap.size, 0, none⟩) len len, { w with heap := w.heap.push (.cells cells' e) }, 0, ?_, rfl, rfl, rfl, rfl, .own e g2, CapOf.own _ _ _ _, fun id => .slice _ (Ren.set_same _ _ _ _) (capOk_exact _) (fun _ h => by omega)⟩
    have hle' : ¬ len * size > 2 ^ 24 := by omega
    simp only [execOp, Instr.buildSlice, Sem.run_bind, und_run hu, Result.andThen_ok, sizeT_run hz, if_neg hle', Sem.run_pure, newRow]
    rcases hzc with ⟨h0, rfl⟩ | ⟨h0, z, hzz, rfl⟩
    · rw [if_pos h0]
      simp only [Sem.run_bind, Sem.run_pure, Result.andThen_ok, g1, run_newObj]
    · rw [if_neg h0]
      simp only [Sem.run_bind, Sem.run_pure, Result.andThen_ok, zeroT_run hzz, g1, run_newObj]
  case makeMap t r =>
    cases r with
    | some _ => cases h
    | none =>
    cases hu : P.underlying t with
    | none => rw [hu] at h; cases h
    | some d =>
    rw [hu] at h
    cases d <;> try (cases h; done)
    simp only [Option.some.injEq, Prod.mk.injEq] at h
    obtain ⟨rfl, rfl⟩ := h
    refine ⟨.map #[] 0, .map (some w.heap.size), { w with heap := w.heap.push (.map #[] 0) }, 0, ?_, rfl, rfl, rfl, rfl, .map 0 ⟨rfl, fun i e h => by simp at h⟩, (fun fl c e c' fr h => by cases h), fun id => .map (Ren.set_same _ _ _ _)⟩
    simp only [execOp, Instr.makeMap, Option.map_none, Sem.run_bind, run_newObj, Result.andThen_ok, Sem.run_pure]
  case makeSlice t l c =>
    have hl := hρ l (by simp [Op.operands])
    have hc := hρ c (by simp [Op.operands])
    cases hu : P.underlying t with
    | none => rw [hu] at h; cases h
    | some d =>
    rw [hu] at h
    cases d <;> try (cases h; done)
    rename_i e
    cases hv : ρ l <;> rw [hv] at h hl <;> (try simp only at h) <;> try (cases h; done)
    rename_i k1 n
    cases hv2 : ρ c <;> rw [hv2] at h hc <;> (try simp only at h) <;> try (cases h; done)
    rename_i k2 m
    cases hi : P.info? e with
    | none => rw [hi] at h; cases h
    | some i =>
    rw [hi] at h
    simp only at h
    obtain ⟨hcond, h⟩ := bif_some h
    simp only [Bool.and_eq_true, decide_eq_true_eq] at hcond
    obtain ⟨⟨⟨c1, c2⟩, c3⟩, c4⟩ := hcond
    have c1 := okInt_spec c1
    cases hzero : (bif Nat.beq (m.toNat * i.size) 0 then some #[] else i.zero.bind fun z => bif bare 20 z then some z.cells else none) with
    | none => rw [hzero] at h; cases h
    | some zero =>
    rw [hzero] at h
    simp only [Option.some.injEq, Prod.mk.injEq] at h
    obtain ⟨rfl, rfl⟩ := h
    have hz : sizeT P e = some i.size := by unfold sizeT; rw [hi]; rfl
    have hzt : zeroT P e = i.zero := by unfold zeroT; rw [hi]; rfl
    rw [← hzt] at hzero
    obtain ⟨hzr, hzc⟩ := zero_ok (φ := φ) hzero
    have wn : IntKind.i64.wrap n = n := wrap_small c1 (by omega)
    have wm : IntKind.i64.wrap m = m := wrap_small (by omega) (by omega)
    refine ⟨.cells ((Array.range (m.toNat * i.size)).map (zero[· % zero.size]!)) e, .slice (some ⟨w.heap.size, 0, none⟩) n.toNat m.toNat, { w with heap := w.heap.push (.cells ((Array.range (m.toNat * i.size)).map (zero[· % zero.size]!)) e) }, 0, ?_, rfl, rfl, rfl, rfl, .own e (range_map_ok hzr _), CapOf.own _ _ _ _,
      fun id => .slice _ (Ren.set_same _ _ _ _) (capOk_exact _) (fun _ h => by omega)⟩
    have t1 : ¬ (decide (m < 0) || decide ((i.bytes : Int) * m > 2 ^ 48)) = true := by
      simp only [Bool.or_eq_true, decide_eq_true_eq, not_or]
      omega
    have t2 : (decide (m < 0) || decide ((i.bytes : Int) * m > 2 ^ 48)) = false := by simpa using t1
    have t3 : ¬ n < 0 := by omega
    have t4 : ¬ n > m := by omega
    simp only [execOp, Instr.makeSlice, Sem.run_bind, und_run hu, Result.andThen_ok, hl.int_inv, hc.int_inv, asInt, asIntOf, Sem.run_pure, info_run hi, wn, wm, t2, t3, t4, decide_false, Bool.or_false, Bool.false_eq_true, if_false, run_askRoom, sizeT_run hz, newRow]
    rcases hzc with ⟨h0, rfl⟩ | ⟨h0, z, hzz, rfl⟩
    · rw [if_pos h0]
      simp only [Sem.run_bind, Sem.run_pure, Result.andThen_ok, run_newObj]
    · rw [if_neg h0]
      simp only [Sem.run_bind, Sem.run_pure, Result.andThen_ok, zeroT_run hzz, run_newObj]
  case convert src dst' x =>
    have hx := hρ x (by simp [Op.operands])
    cases hs : P.underlying src with
    | none => rw [hs] at h; cases h
    | some ds =>
    rw [hs] at h
    cases hd : P.underlying dst' with
    | none => rw [hd] at h; cases ds <;> cases h
    | some dd =>
    rw [hd] at h
    cases ds <;> try (cases h; done)
    cases dd <;> try (cases h; done)
    rename_i e
    cases hv : ρ x <;> rw [hv] at h hx <;> (try simp only at h) <;> try (cases h; done)
    rename_i s
    cases he : P.underlying e with
    | none => rw [he] at h; cases h
    | some de =>
    rw [he] at h
    cases de <;> try (cases h; done)
    rename_i k
    cases k <;> try (cases h; done)
    simp only [Option.some.injEq, Prod.mk.injEq] at h
    obtain ⟨rfl, rfl⟩ := h
    rw [show (execOp ρ' { dst := dst, op := Op.convert src dst' x, type := ty, pos := pos, after := after, guard := guard }) = (do pure (Next.value (← convert src dst' (ρ' x))) : Sem Next) from rfl, hx.string_inv]
    -- the capacity that is drawn
    obtain ⟨cap, hcap, hch⟩ : ∃ cap, s.size ≤ cap ∧ (choose (.appendCap s.size 0 e)).run P w = .ok cap w.drew := by
      refine ⟨_, ?_, run_choose P w _⟩
      show s.size ≤ s.size + _ % _
      omega
    have hsz : (strA s (cap - s.size)).size = cap := by rw [strA_size]; omega
    refine ⟨.cells (strA s (cap - s.size)) e (cap, cap + 1), .slice (some ⟨w.heap.size, 0, none⟩) s.size cap,
      { w.drew with heap := w.heap.push (.cells (strA s (cap - s.size)) e (cap, cap + 1)) }, cap, ?_, rfl, rfl, rfl, rfl, ?_, ?_, fun id => .slice _ (Ren.set_same _ _ _ _) (capOk_open hcap) (fun _ _ => (Ren.set_k _ _ _ _).symm)⟩
    · unfold convert
      simp only [Sem.run_bind, und_run hs, und_run hd, Result.andThen_ok, und_run he]
      unfold Conv.stringToBytes
      have hnr : (newRow e (strA s (cap - s.size))).run P w.drew = .ok ⟨w.heap.size, 0, none⟩ ({ w.drew with heap := w.heap.push (.cells (strA s (cap - s.size)) e) }) := rfl
      have hshape : ({ w.drew with heap := w.heap.push (.cells (strA s (cap - s.size)) e) } : World).shape? w.heap.size = some (e, cap) := by
        simp only [World.shape?, Array.getElem?_push, if_true, hsz]
      have hmk : (markStringish ⟨w.heap.size, 0, none⟩).run P ({ w.drew with heap := w.heap.push (.cells (strA s (cap - s.size)) e) }) = .ok () ({ w.drew with heap := w.heap.push (.cells (strA s (cap - s.size)) e (cap, cap + 1)) }) := by
        simp only [markStringish, Sem.run_bind, run_shape, hshape, Result.andThen_ok, run_freeze]
        congr 1
        simp only [World.freeze, Nat.one_ne_zero, if_false]
        rw [modify_push]
        simp
      show ((choose (.appendCap s.size 0 e) >>= fun cap => newRow e (strA s (cap - s.size)) >>= fun a => markStringish a >>= fun _ => pure (Value.slice (some a) s.size cap)).run P w).andThen _ = _
      simp only [Sem.run_bind, hch, Result.andThen_ok, hnr, hmk, Sem.run_pure]
    · refine .mark 1 e (cap, cap + 1) (.inr (by rw [hsz])) ?_
      have hl : (byteVals s.data.toList).length = s.size := by simp only [byteVals, List.length_map, Array.length_toList]; rfl
      have hd : (s.data.map fun (b : UInt8) => Value.int .u8 (b.toNat : Int)).toList = byteVals s.data.toList := by simp [byteVals]
      rw [hl, strA, Array.toList_append, hd, List.take_append_of_le_length (by omega), List.take_of_length_le (by omega)]
      exact LR.refl_of fun v hv => by
        simp only [byteVals, List.mem_map] at hv
        obtain ⟨b, _, rfl⟩ := hv
        exact .int _ _
    · intro fl c e1 c' fr h1 h2 _
      cases h1; cases h2
      rw [hsz]; simp [Fl.sz]
end
section
variable {P : Program} {φ : Ren} {H K : AHeap} {w : World}

def EffOk (P : Program) (φ : Ren) (H : AHeap) (w : World) (s : Sem Next) (x : ANext) (K : AHeap) : Prop :=
  match x with
  | .value v => ∃ ψ v' w', s.run P w = .ok (.value v') w' ∧ Leaves φ H w ψ K w' ∧ VR ψ v v'
  | .skip => ∃ ψ w', s.run P w = .ok .skip w' ∧ Leaves φ H w ψ K w'
  | .enter f args => K = H ∧ ∃ args', AR φ args args' ∧ s.run P w = .ok (.enter f args') w ∧ ∃ fn, P.funcs[f]? = some fn ∧ fn.body.isSome = true
  | .round l args => K = H ∧ ∃ b args', φ l = some b ∧ AR φ args args' ∧ s.run P w = (Instr.yield b args').run P w

theorem EffOk.of_value {s : Sem Value} {v v' : Value} {ψ : Ren} {w' : World} (hs : s.run P w = .ok v' w') (hl : Leaves φ H w ψ K w') (hv : VR ψ v v') :
    EffOk P φ H w (do pure (Next.value (← s))) (.value v) K :=
  ⟨ψ, v', w', by simp only [Sem.run_bind, hs, Result.andThen_ok, Sem.run_pure], hl, hv⟩
theorem Leaves.same (h : HR φ H w) (hf : Fresh φ H) : Leaves φ H w φ H w := ⟨h, hf, Goes.refl _ _ _⟩

/-! ### Maps -/
theorem setObj_map {b : Nat} {es es' : Array MapEntry} {c c' : Nat} (h : w.heap[b]? = some (.map es c)) :
    (setObj b (.map es' c')).run P w = .ok () { w with heap := w.heap.setIfInBounds b (.map es' c') } := by
  simp only [setObj, Sem.run, h]
theorem set_heap {b : Nat} {o o' : Obj} (h : w.heap[b]? = some o) :
    ({ w with heap := w.heap.setIfInBounds b o' } : World).heap.size = w.heap.size ∧ (∀ k, k ≠ b → ({ w with heap := w.heap.setIfInBounds b o' } : World).heap[k]? = w.heap[k]?) ∧
      ({ w with heap := w.heap.setIfInBounds b o' } : World).heap[b]? = some o' := by
  have hlt : b < w.heap.size := (Array.getElem?_eq_some_iff.1 h).1
  refine ⟨by simp, fun k hk => ?_, ?_⟩
  · show (w.heap.setIfInBounds b o')[k]? = _
    rw [Array.getElem?_setIfInBounds_ne (Ne.symm hk)]
  · show (w.heap.setIfInBounds b o')[b]? = _
    simp [hlt]
/-- A map turned. -/
theorem HR.setMap (h : HR φ H w) (hf : Fresh φ H) {i b : Nat} {es es1 : List MapEntry} {es' es1' : Array MapEntry} {c c1 : Nat} (hi : H.objs.get i = some (.map es c)) (hb : φ i = some b)
    (hw : w.heap[b]? = some (.map es' c)) (he : ER φ es1 es1'.toList) :
    Leaves φ H w φ (H.set i (.map es1 c1)) { w with heap := w.heap.setIfInBounds b (.map es1' c1) } := by
  obtain ⟨s1, s2, s3⟩ := set_heap (o' := .map es1' c1) hw
  obtain ⟨r1, r2, r3⟩ := h.turn (w1 := { w with heap := w.heap.setIfInBounds b (.map es1' c1) }) hf hi hb rfl (OR.map c1 he) (fun fl c e c' fr h => by cases h) s1 s2 s3 rfl rfl rfl
  exact ⟨r1, r2, r3⟩
theorem ER.append {x y : List MapEntry} {e e' : MapEntry} (h : ER φ x y) (h1 : VR φ e.key e'.key) (h2 : VR φ e.val e'.val) (h3 : e.born = e'.born) : ER φ (x ++ [e]) (y ++ [e']) := by
  refine ⟨by simp [h.1], fun i u hu => ?_⟩
  rcases Nat.lt_or_ge i x.length with hlt | hge
  · rw [List.getElem?_append_left hlt] at hu
    obtain ⟨u', e1, r⟩ := h.2 i u hu
    exact ⟨u', by rw [List.getElem?_append_left (h.1 ▸ hlt)]; exact e1, r⟩
  · rw [List.getElem?_append_right hge] at hu
    have : i - x.length = 0 := by
      have := (List.getElem?_eq_some_iff.1 hu).1
      simpa using this
    rw [this] at hu
    simp only [List.getElem?_cons_zero, Option.some.injEq] at hu
    subst hu
    exact ⟨e', by rw [List.getElem?_append_right (h.1 ▸ hge), ← h.1, this]; rfl, h1, h2, h3⟩
theorem ER.setAt {x y : List MapEntry} (h : ER φ x y) (n : Nat) {e e' : MapEntry} (h1 : VR φ e.key e'.key) (h2 : VR φ e.val e'.val) (h3 : e.born = e'.born) : ER φ (x.set n e) (y.set n e') := by
  refine ⟨by simp [h.1], fun i u hu => ?_⟩
  rw [List.getElem?_set] at hu ⊢
  by_cases hi : n = i
  · subst hi
    rw [if_pos rfl] at hu ⊢
    by_cases hl : n < x.length
    · rw [if_pos hl] at hu; cases hu; rw [if_pos (h.1 ▸ hl)]; exact ⟨e', rfl, h1, h2, h3⟩
    · rw [if_neg hl] at hu; cases hu
  · rw [if_neg hi] at hu ⊢; exact h.2 i u hu
theorem ER.erase {x y : List MapEntry} (h : ER φ x y) (n : Nat) : ER φ (x.eraseIdx n) (y.eraseIdx n) := by
  refine ⟨by simp only [List.length_eraseIdx, h.1], fun i u hu => ?_⟩
  rw [List.getElem?_eraseIdx] at hu ⊢
  split at hu
  · rename_i hc; rw [if_pos hc]; exact h.2 i u hu
  · rename_i hc; rw [if_neg hc]; exact h.2 (i + 1) u hu
theorem findK_idx {t : TypeId} {k : Value} : ∀ (es : List MapEntry) (i j : Nat) (v : Value), findK P t k es i = some (some (j, v)) → i ≤ j ∧ ∃ e, es[j - i]? = some e ∧ e.val = v ∧ keyEq P t k e.key = some true
  | [], _, _, _, h => by simp [findK] at h
  | x :: l, i, j, v, h => by
    simp only [findK] at h
    cases hq : keyEq P t k x.key with
    | none => rw [hq] at h; cases h
    | some q =>
    rw [hq] at h
    cases q with
    | true =>
      simp only [Option.some.injEq, Prod.mk.injEq] at h
      obtain ⟨rfl, rfl⟩ := h
      exact ⟨Nat.le_refl _, x, by simp, rfl, hq⟩
    | false =>
      obtain ⟨h1, e, h2, h3⟩ := findK_idx l (i + 1) j v h
      refine ⟨by omega, e, ?_, h3⟩
      rw [show j - i = (j - (i + 1)) + 1 by omega]
      simpa using h2

theorem mapUpdate_ok (h : HR φ H w) (hf : Fresh φ H) {t kt et : TypeId} {r : Nat} {m' k k' v v' : Value} {es : List MapEntry} {clock : Nat} (ht : P.underlying t = some (.map kt et))
    (hm : VR φ (.map (some r)) m') (hk : VR φ k k') (hv : VR φ v v') (ho : H.objs.get r = some (.map es clock)) (hko : keyOk P false kt k = true)
    (hx : (match findK P kt k es 0 with
            | some (some (i, _)) => (match es[i]? with
              | some e => bif Instr.sameBits 10000 e.key k then some (ANext.skip, H.set r (.map (es.set i { e with key := k, val := v }) clock)) else none
              | none => none)
            | some none => some (.skip, H.set r (.map (es ++ [{ key := k, val := v, born := clock }]) (clock + 1)))
            | none => none) = some (.skip, K)) :
    ∃ w', (Instr.mapUpdate t m' k' v').run P w = .ok () w' ∧ Leaves φ H w φ K w' := by
  obtain ⟨b, hb, rfl⟩ := hm.map_inv
  obtain ⟨es', g1, g2⟩ := h.mapObj ho hb
  obtain ⟨rfl, hck⟩ := keyOk_ok hk hko
  have hku : ∃ dk, P.underlying kt = some dk := by
    cases hkk : P.underlying kt with
    | some dk => exact ⟨dk, rfl⟩
    | none =>
      exfalso
      have h1 := hck w
      rw [show (10000 : Nat) = 9999 + 1 from rfl, Instr.checkKey] at h1
      simp [underlying, hkk] at h1
  obtain ⟨dk, hdk⟩ := hku
  cases hfk : findK P kt k' es 0 with
  | none => rw [hfk] at hx; cases hx
  | some res =>
  rw [hfk] at hx
  obtain ⟨res', f1, f2⟩ := findKey_ok hdk hk g2 hfk
  cases res with
  | some p =>
    obtain ⟨i, v0⟩ := p
    simp only at hx
    cases hei : es[i]? with
    | none => rw [hei] at hx; cases hx
    | some e =>
    rw [hei] at hx
    simp only at hx
    obtain ⟨hsb, hx⟩ := bif_some hx
    simp only [Option.some.injEq, Prod.mk.injEq, true_and] at hx; subst hx
    cases res' with
    | none => exact f2.elim
    | some p' =>
    obtain ⟨i', v0'⟩ := p'
    obtain ⟨rfl, _⟩ := f2
    obtain ⟨e', hei', r1, r2, r3⟩ := g2.2 i e hei
    -- the key in the map is a bare one
    obtain ⟨_, e2, he2, _, hkq⟩ := findK_idx es 0 i v0 hfk
    simp only [Nat.sub_zero] at he2
    rw [hei] at he2; cases he2
    obtain ⟨_, hkey, _⟩ := keyEq_ok hk r1 hkq
    refine ⟨{ w with heap := w.heap.setIfInBounds b (.map (es'.modify i fun e => { e with key := k', val := v' }) clock) }, ?_, ?_⟩
    · have hg : (es'[i]?).map (·.key) = some e.key := by
        rw [← Array.getElem?_toList, hei']; simp [hkey]
      have hstay : (Instr.keyThatStays e.key k').run P w = .ok k' w := by
        unfold Instr.keyThatStays; rw [hsb]; rfl
      simp only [Instr.mapUpdate, Sem.run_bind, und_run ht, Result.andThen_ok, run_getObj_map g1, hck, f1, hg, Option.getD_some, hstay, setObj_map g1]
    · refine h.setMap hf ho hb g1 ?_
      have em : (es'.modify i fun e => { e with key := k', val := v' }).toList = es'.toList.set i { e' with key := k', val := v' } := by
        rw [Array.toList_modify]
        apply List.ext_getElem?
        intro j
        rw [List.getElem?_modify, List.getElem?_set]
        by_cases hj : i = j
        · subst hj
          have hlt : i < es'.toList.length := (List.getElem?_eq_some_iff.1 hei').1
          rw [hei', if_pos rfl, if_pos hlt]; simp
        · simp [hj]
      rw [em]
      exact g2.setAt i hk hv r3
  | none =>
    simp only [Option.some.injEq, Prod.mk.injEq, true_and] at hx; subst hx
    cases res' with
    | some _ => exact f2.elim
    | none =>
    refine ⟨{ w with heap := w.heap.setIfInBounds b (.map (es'.push { key := k', val := v', born := clock }) (clock + 1)) }, ?_, ?_⟩
    · simp only [Instr.mapUpdate, Sem.run_bind, und_run ht, Result.andThen_ok, run_getObj_map g1, hck, f1, setObj_map g1]
    · refine h.setMap hf ho hb g1 ?_
      rw [Array.toList_push]
      exact g2.append hk hv rfl

theorem delete_ok (h : HR φ H w) (hf : Fresh φ H) {t kt et : TypeId} {ty : TypeId} {r : Nat} {m' k k' : Value} {es : List MapEntry} {clock : Nat} (ht : P.underlying t = some (.map kt et))
    (hm : VR φ (.map (some r)) m') (hk : VR φ k k') (ho : H.objs.get r = some (.map es clock)) (hko : keyOk P es.isEmpty kt k = true) {x : ANext} {argTypes : Array TypeId} {args : Array Value}
    (ha0 : argTypes[0]? = some t) (hA0 : args[0]? = some m') (hA1 : args[1]? = some k')
    (hx : (match findK P kt k es 0 with
            | some (some (i, _)) => some (ANext.value (.tuple #[]), H.set r (.map (es.eraseIdx i) clock))
            | some none => some (.value (.tuple #[]), H.set r (.map es clock))
            | none => none) = some (x, K)) :
    x = .value (.tuple #[]) ∧ ∃ w', (Builtin.delete_ argTypes ty args).run P w = .ok (.tuple #[]) w' ∧ Leaves φ H w φ K w' := by
  obtain ⟨b, hb, rfl⟩ := hm.map_inv
  obtain ⟨es', g1, g2⟩ := h.mapObj ho hb
  obtain ⟨rfl, hck⟩ := keyOk_ok hk hko
  have hku : ∃ dk, P.underlying kt = some dk := by
    cases hkk : P.underlying kt with
    | some dk => exact ⟨dk, rfl⟩
    | none =>
      exfalso
      have h1 := hck w
      rw [show (10000 : Nat) = 9999 + 1 from rfl, Instr.checkKey] at h1
      simp [underlying, hkk] at h1
  obtain ⟨dk, hdk⟩ := hku
  have hck' : (Instr.checkKey es'.isEmpty 10000 kt k').run P w = .ok () w := by rw [g2.isEmpty]; exact hck w
  cases hfk : findK P kt k' es 0 with
  | none => rw [hfk] at hx; cases hx
  | some res =>
  rw [hfk] at hx
  obtain ⟨res', f1, f2⟩ := findKey_ok hdk hk g2 hfk
  cases res with
  | some p =>
    obtain ⟨i, v0⟩ := p
    simp only [Option.some.injEq, Prod.mk.injEq] at hx
    obtain ⟨rfl, rfl⟩ := hx
    cases res' with
    | none => exact f2.elim
    | some p' =>
    obtain ⟨i', v0'⟩ := p'
    obtain ⟨rfl, _⟩ := f2
    refine ⟨rfl, { w with heap := w.heap.setIfInBounds b (.map (es'.eraseIdxIfInBounds i) clock) }, ?_, h.setMap hf ho hb g1 ?_⟩
    · simp only [Builtin.delete_, ha0, hA0, hA1, Sem.run_bind, und_run ht, Result.andThen_ok, run_getObj_map g1, hck', f1, setObj_map g1, Sem.run_pure]
    · rw [Array.toList_eraseIdxIfInBounds]
      exact g2.erase i
  | none =>
    simp only [Option.some.injEq, Prod.mk.injEq] at hx
    obtain ⟨rfl, rfl⟩ := hx
    cases res' with
    | some _ => exact f2.elim
    | none =>
    refine ⟨rfl, { w with heap := w.heap.setIfInBounds b (.map es' clock) }, ?_, h.setMap hf ho hb g1 g2⟩
    simp only [Builtin.delete_, ha0, hA0, hA1, Sem.run_bind, und_run ht, Result.andThen_ok, run_getObj_map g1, hck', f1, setObj_map g1, Sem.run_pure]
end
section
variable {P : Program} {φ : Ren} {H K : AHeap} {w : World}

/-- What is laid behind: n elements, as cells. -/
def SrcOk (P : Program) (φ : Ren) (w : World) (size : Nat) (x' : Value) (n : Nat) (new : List Value) : Prop :=
  (∀ w, (Builtin.lenOf x').run P w = .ok n w) ∧ ∃ new', LR φ new new' ∧ (Builtin.firstCells size n x').run P w = .ok new'.toArray w
theorem map_extract (t : ByteArray) : ((t.extract 0 t.size).data.map fun (b : UInt8) => Value.int .u8 (b.toNat : Int)) = (byteVals t.data.toList).toArray := by
  have e : (t.extract 0 t.size).data = t.data := by
    rw [ByteArray.data_extract]
    have : t.size = t.data.size := rfl
    rw [this, Array.extract_size]
  rw [e]
  apply Array.ext'
  simp [byteVals]
theorem src_ok (h : HR φ H w) {xd : TypeDesc} {x x' : Value} {size n : Nat} {new : List Value} (hx : VR φ x x')
    (hs : srcOf H size xd x = some (n, new)) : SrcOk P φ w size x' n new ∧ ((∃ e, xd = .slice e) ∨ xd = .string) := by
  unfold srcOf at hs
  split at hs <;> try (cases hs; done)
  · rename_i a n0 c0
    refine ⟨?_, .inl ⟨_, rfl⟩⟩
    obtain ⟨a', c', e1⟩ := hx.slice_any
    cases hz : Nat.beq n0 0 with
    | true =>
      rw [hz, cond_true, Option.some.injEq, Prod.mk.injEq] at hs
      obtain ⟨rfl, rfl⟩ := hs
      have hz := beq_true hz
      subst hz
      rw [e1]
      refine ⟨fun w => rfl, [], LR.nil φ, ?_⟩
      cases a' with
      | none => rfl
      | some a' => simp [Builtin.firstCells, loadCells, loadCellsFrom]
    | false =>
      rw [hz, cond_false] at hs
      cases hl : H.cells? a (n0 * size) with
      | none => rw [hl] at hs; cases hs
      | some l =>
      rw [hl] at hs
      simp only [Option.some.injEq, Prod.mk.injEq] at hs
      obtain ⟨rfl, rfl⟩ := hs
      rcases hx.slice_inv with ⟨b, c'', hb, hsp, hc, _, e2⟩ | ⟨a'', c'', rfl, rfl, _, _⟩
      · obtain ⟨i, o, s⟩ := a
        simp only at hsp hb; subst hsp
        obtain ⟨l', g1, g2, g3⟩ := h.loadCells (P := P) hl hb
        rw [e2]
        exact ⟨fun w => rfl, l', g1, g3⟩
      · cases hz
  · rename_i n0 c0
    refine ⟨?_, .inl ⟨_, rfl⟩⟩
    obtain ⟨hz, hs⟩ := bif_some hs
    simp only [Option.some.injEq, Prod.mk.injEq] at hs
    obtain ⟨rfl, rfl⟩ := hs
    obtain ⟨_, _, e1⟩ := hx.sliceNil_inv
    rw [e1]
    exact ⟨fun w => rfl, [], LR.nil φ, rfl⟩
  · rename_i t
    refine ⟨?_, .inr rfl⟩
    simp only [Option.some.injEq, Prod.mk.injEq] at hs
    obtain ⟨rfl, rfl⟩ := hs
    rw [hx.string_inv]
    refine ⟨fun w => rfl, byteVals t.data.toList, LR.refl_of fun v hv => by
        simp only [byteVals, List.mem_map] at hv
        obtain ⟨b, _, rfl⟩ := hv
        exact .int _ _, ?_⟩
    simp only [Builtin.firstCells, map_extract, Sem.run_pure]

theorem append_room {argTypes : Array TypeId} {ty : TypeId} {args : Array Value} {t0 t1 e : TypeId} {xd : TypeDesc} {base' : Option Addr} {sLen c' n : Nat} {x' : Value} {i : TypeInfo} {new' : List Value} {w' : World}
    (ht0 : argTypes[0]? = some t0) (hu0 : P.underlying t0 = some (.slice e)) (ht1 : argTypes[1]? = some t1) (hu1 : P.underlying t1 = some xd) (hxd : (∃ e, xd = .slice e) ∨ xd = .string)
    (ha0 : args[0]? = some (.slice base' sLen c')) (ha1 : args[1]? = some x') (hi : P.info? e = some i) (hlen : ∀ w, (Builtin.lenOf x').run P w = .ok n w)
    (hfirst : (Builtin.firstCells i.size n x').run P w = .ok new'.toArray w) (hroom : sLen + n ≤ c')
    (hst : (match base' with | some a => (storeCells (a.add (sLen * i.size)) new').run P w | none => .ok () w) = .ok () w') :
    (Builtin.append_ argTypes ty args).run P w = .ok (.slice base' (sLen + n) c') w' := by
  cases base' with
  | none =>
    simp only [Result.ok.injEq, true_and] at hst
    subst hst
    rcases hxd with ⟨e2, rfl⟩ | rfl <;>
      simp [Builtin.append_, ht0, ha0, ha1, ht1, run_underlying hu0, run_underlying hu1, sizeOf, typeInfo, hi, hlen, hroom, hfirst]
  | some a =>
    simp only at hst
    rcases hxd with ⟨e2, rfl⟩ | rfl <;>
      simp [Builtin.append_, ht0, ha0, ha1, ht1, run_underlying hu0, run_underlying hu1, sizeOf, typeInfo, hi, hlen, hroom, hfirst, hst]

theorem append_grow {argTypes : Array TypeId} {ty : TypeId} {args : Array Value} {t0 t1 e : TypeId} {xd : TypeDesc} {base' : Option Addr} {sLen c' n : Nat} {x' : Value} {i : TypeInfo} {z : Value} {old' new' : List Value}
    (ht0 : argTypes[0]? = some t0) (hu0 : P.underlying t0 = some (.slice e)) (ht1 : argTypes[1]? = some t1) (hu1 : P.underlying t1 = some xd) (hxd : (∃ e, xd = .slice e) ∨ xd = .string)
    (ha0 : args[0]? = some (.slice base' sLen c')) (ha1 : args[1]? = some x') (hi : P.info? e = some i) (hz : i.zero = some z) (hlen : ∀ w, (Builtin.lenOf x').run P w = .ok n w)
    (hfirst : (Builtin.firstCells i.size n x').run P w.drew = .ok new'.toArray w.drew) (hold : (Builtin.firstCells i.size sLen (.slice base' sLen c')).run P w.drew = .ok old'.toArray w.drew) (hgrow : ¬ sLen + n ≤ c')
    (hb : (sLen + n) * 2 * (i.bytes + 1) ≤ 140737488355328) :
    ∃ cap, sLen + n ≤ cap ∧ (Builtin.append_ argTypes ty args).run P w = .ok (.slice (some ⟨w.heap.size, 0, none⟩) (sLen + n) cap) (w.drew.alloc (.cells (old' ++ new' ++ (Builtin.zeroCells z.cells (cap - (sLen + n))).toList).toArray e)) := by
  have hm : (sLen + n) * 2 ≤ (sLen + n) * 2 * (i.bytes + 1) := Nat.le_mul_of_pos_right _ (Nat.succ_pos _)
  have h63' : ¬ (9223372036854775807 < ((sLen : Int) + (n : Int))) := by omega
  have h48' : ¬ (281474976710656 < Builtin.nextslicecap (sLen + n) c' * i.bytes) := by
    have h1 : Builtin.nextslicecap (sLen + n) c' * i.bytes ≤ 2 * (sLen + n) * i.bytes := Nat.mul_le_mul_right _ (nextslicecap_le (by omega))
    have h2 : 2 * (sLen + n) * i.bytes ≤ (sLen + n) * 2 * (i.bytes + 1) := by rw [Nat.mul_comm 2]; exact Nat.mul_le_mul_left _ (by omega)
    omega
  refine ⟨grownCap w (sLen + n) c' e, grownCap_ge _ _ _ _, ?_⟩
  have hn : ¬ (sLen + n ≤ c') := hgrow
  rcases hxd with ⟨e2, rfl⟩ | rfl
  · simp [Builtin.append_, ht0, ha0, ha1, ht1, run_underlying hu0, run_underlying hu1, sizeOf, typeInfo, zeroValue, hi, hz, hlen, hn, h63', h48', Question.forced, hfirst, hold, newRow, grownCap]
    congr 2
    apply Array.ext'
    simp
  · simp [Builtin.append_, ht0, ha0, ha1, ht1, run_underlying hu0, run_underlying hu1, sizeOf, typeInfo, zeroValue, hi, hz, hlen, hn, h63', h48', Question.forced, hfirst, hold, newRow, grownCap]
    congr 2
    apply Array.ext'
    simp

theorem LR.prefix_ {x x' r : List Value} (h : LR φ x x') : LR φ x ((x' ++ r).take x.length) := by
  rw [List.take_append_of_le_length (by rw [h.1]; exact Nat.le_refl _), List.take_of_length_le (by rw [h.1]; exact Nat.le_refl _)]
  exact h
/-- A row that grew, under a new name. -/
theorem grow_push (h : HR φ H w.drew) (hf : Fresh φ H) {fl : Fl} {e : TypeId} {size need cap : Nat} {cs cs' rest : List Value} (hcs : LR φ cs cs') (hfl : (∃ s, fl = .open_ s) ∨ ∃ s, fl = .mark s) (hsz : fl.sz = size)
    (hl : cs.length = need * size) (hr : rest.length = (cap - need) * size) (hn : need ≤ cap) :
    ∃ ψ, Leaves φ H w.drew ψ (H.new (.cells fl cs e)) (w.drew.alloc (.cells (cs' ++ rest).toArray e)) ∧ VR ψ (.slice (some ⟨H.next, 0, none⟩) need (2 * need + 1)) (.slice (some ⟨w.heap.size, 0, none⟩) need cap) := by
  have hor : OR φ (.cells fl cs e) (.cells (cs' ++ rest).toArray e (0, 0)) := by
    rcases hfl with ⟨s, rfl⟩ | ⟨s, rfl⟩
    · exact .open_ s e hcs.prefix_
    · exact .mark s e _ (.inl rfl) hcs.prefix_
  have hcap : CapOf cap (.cells fl cs e) (.cells (cs' ++ rest).toArray e (0, 0)) := fun fl1 c1 e1 c1' fr1 h1 h2 _ => by
    cases h1; cases h2
    rw [hsz]
    simp only [List.size_toArray, List.length_append, ← hcs.1, hl, hr]
    rw [← Nat.add_mul]; congr 1; omega
  obtain ⟨r1, r2, r3⟩ := h.push hf hor hcap (w1 := w.drew.alloc (.cells (cs' ++ rest).toArray e)) rfl rfl rfl rfl
  exact ⟨_, ⟨r1, r2, r3⟩, .slice _ (Ren.set_same _ _ _ _) (capOk_open hn) (fun _ _ => (Ren.set_k _ _ _ _).symm)⟩
theorem Leaves.drew {ψ : Ren} {v : World} (h : Leaves φ H w.drew ψ K v) : Leaves φ H w ψ K v :=
  ⟨h.hr, h.fresh, (Goes.of_heap (w := w) (w1 := w.drew) rfl rfl rfl rfl).trans h.goes⟩
theorem Leaves.trans {ψ χ : Ren} {L : AHeap} {v u : World} (h : Leaves φ H w ψ K v) (k : Leaves ψ K v χ L u) : Leaves φ H w χ L u :=
  ⟨k.hr, k.fresh, h.goes.trans k.goes⟩

theorem append_ok (h : HR φ H w) (hf : Fresh φ H) {argTypes : Array TypeId} {ty : TypeId} {args : Array Value} {s s' x x' v : Value} (hs : VR φ s s') (hx : VR φ x x') (ha0 : args[0]? = some s') (ha1 : args[1]? = some x')
    (ha : appendA P H argTypes s x = some (v, K)) : ∃ ψ v' w', (Builtin.append_ argTypes ty args).run P w = .ok v' w' ∧ Leaves φ H w ψ K w' ∧ VR ψ v v' := by
  unfold appendA at ha
  cases ht0 : argTypes[0]? with
  | none => rw [ht0] at ha; cases ha
  | some t0 =>
  rw [ht0] at ha
  simp only [Option.bind_some] at ha
  cases hu0 : P.underlying t0 with
  | none => rw [hu0] at ha; cases ha
  | some d0 =>
  rw [hu0] at ha
  cases d0 <;> try (cases ha; done)
  rename_i e
  cases ht1 : argTypes[1]? with
  | none => rw [ht1] at ha; cases ha
  | some t1 =>
  rw [ht1] at ha
  simp only [Option.bind_some] at ha
  cases hu1 : P.underlying t1 with
  | none => rw [hu1] at ha; cases ha
  | some xd =>
  rw [hu1] at ha
  cases s <;> try (cases ha; done)
  rename_i base sLen sCap
  simp only at ha
  cases hi : P.info? e with
  | none => rw [hi] at ha; cases ha
  | some i =>
  rw [hi] at ha
  simp only at ha
  obtain ⟨hz, ha⟩ := bif_some ha
  cases hz1 : i.zero with
  | none => rw [hz1] at hz; cases hz
  | some z =>
  rw [hz1] at hz
  have hz := beq_true hz
  cases hsrc : srcOf H i.size xd x with
  | none => rw [hsrc] at ha; cases ha
  | some p =>
  obtain ⟨n, new⟩ := p
  rw [hsrc] at ha
  simp only at ha
  obtain ⟨⟨hlen, new', hnew, hfirst⟩, hxd⟩ := src_ok (P := P) h hx hsrc
  have hd : HR φ H w.drew := h.of_heap rfl
  obtain ⟨⟨_, new2, hnew2, hfirst2⟩, _⟩ := src_ok (P := P) hd hx hsrc
  obtain ⟨base', c', rfl⟩ := hs.slice_any
  unfold appendB at ha
  cases hlow : Nat.ble (sLen + n) (capLow sCap) with
  | true =>
    rw [hlow, cond_true] at ha
    have hlow := ble_true hlow
    cases base with
    | none =>
      simp only at ha
      obtain ⟨hc, ha⟩ := bif_some ha
      simp only [Option.some.injEq, Prod.mk.injEq] at ha
      obtain ⟨rfl, rfl⟩ := ha
      simp only [Bool.and_eq_true] at hc
      obtain ⟨⟨c1, c2⟩, c3⟩ := hc
      have c1 := beq_true c1; have c2 := beq_true c2; have c3 := beq_true c3
      subst c1; subst c2; subst c3
      obtain ⟨_, _, e1⟩ := hs.sliceNil_inv
      simp only [Value.slice.injEq, true_and] at e1
      obtain ⟨rfl, rfl⟩ := e1
      exact ⟨φ, .slice none 0 0, w, append_room ht0 hu0 ht1 hu1 hxd ha0 ha1 hi hlen hfirst (Nat.le_refl _) rfl, Leaves.same h hf, .sliceNil⟩
    | some a =>
      simp only at ha
      cases hsp : a.spot with
      | some k => rw [hsp] at ha; cases ha
      | none =>
      rw [hsp] at ha
      simp only [Option.isSome_none, cond_false] at ha
      cases hst : H.store? (addAddr a (sLen * i.size)) new with
      | none => rw [hst] at ha; cases ha
      | some K' =>
      rw [hst] at ha
      simp only [Option.some.injEq, Prod.mk.injEq] at ha
      obtain ⟨rfl, rfl⟩ := ha
      rcases hs.slice_inv with ⟨b, c'', hb, _, hc, hk, e2⟩ | ⟨a'', c'', rfl, _, _, _⟩
      · simp only [Value.slice.injEq, true_and] at e2
        obtain ⟨rfl, rfl⟩ := e2
        obtain ⟨_, w', g1, g2⟩ := h.store (P := P) hf (a := addAddr a (sLen * i.size)) hb hnew hst
        refine ⟨φ, _, w', append_room ht0 hu0 ht1 hu1 hxd ha0 ha1 hi hlen hfirst (Nat.le_trans hlow (capOk_low hc)) ?_, g2, ?_⟩
        · simp only [addAddr_eq]; exact g1
        · obtain ⟨i0, o0, s0⟩ := a
          simp only at hsp; subst hsp
          exact .slice _ hb hc hk
      · cases hsp
  | false =>
    rw [hlow, cond_false] at ha
    obtain ⟨hcond, ha⟩ := bif_some ha
    simp only [Bool.and_eq_true] at hcond
    obtain ⟨⟨hb1, hone⟩, hnl⟩ := hcond
    have hb1 := ble_true hb1
    have hnl := beq_true hnl
    have hlow : ¬ sLen + n ≤ capLow sCap := fun hh => by rw [Nat.ble_eq_true_of_le hh] at hlow; cases hlow
    have hrest : ∀ cap, (Builtin.zeroCells z.cells (cap - (sLen + n))).toList.length = (cap - (sLen + n)) * i.size := fun cap => by
      rw [Array.length_toList, size_zeroCells, hz]
    cases base with
    | none =>
      simp only at ha
      obtain ⟨hc, ha⟩ := bif_some ha
      simp only [Option.some.injEq, Prod.mk.injEq] at ha
      obtain ⟨rfl, rfl⟩ := ha
      simp only [Bool.and_eq_true] at hc
      obtain ⟨c2, c3⟩ := hc
      have c2 := beq_true c2; have c3 := beq_true c3
      subst c2; subst c3
      obtain ⟨_, _, e1⟩ := hs.sliceNil_inv
      simp only [Value.slice.injEq, true_and] at e1
      obtain ⟨rfl, rfl⟩ := e1
      obtain ⟨cap, hcap, hrun⟩ := append_grow (w := w) (ty := ty) ht0 hu0 ht1 hu1 hxd ha0 ha1 hi hz1 hlen hfirst2 (old' := []) rfl (by unfold capLow at hlow; omega) hb1
      obtain ⟨ψ, r1, r2⟩ := grow_push (w := w) hd hf (fl := .open_ i.size) (e := e) (size := i.size) (need := 0 + n) (cap := cap) (rest := (Builtin.zeroCells z.cells (cap - (0 + n))).toList) hnew2 (.inl ⟨_, rfl⟩) rfl (by rw [hnl]; simp) (hrest cap) hcap
      exact ⟨ψ, _, _, hrun, r1.drew, r2⟩
    | some a =>
      simp only at ha
      cases hsp : a.spot with
      | some k => rw [hsp] at ha; cases ha
      | none =>
      rw [hsp] at ha
      simp only [Option.isSome_none, cond_false] at ha
      obtain ⟨i0, o0, s0⟩ := a
      simp only at hsp; subst hsp
      rcases hs.slice_inv with ⟨b, c'', hb, _, hc, hk, e2⟩ | ⟨a'', c'', e1, _, _, _⟩
      · simp only [Value.slice.injEq, true_and] at e2
        obtain ⟨rfl, rfl⟩ := e2
        simp only at hb hk
        cases hop : isOpen sCap with
        | false =>
          rw [hop, cond_false] at ha
          have hcc := isOpen_false hc hop
          cases hl : H.cells? ⟨i0, o0, none⟩ (sLen * i.size) with
          | none => rw [hl] at ha; cases ha
          | some old =>
          rw [hl] at ha
          simp only [Option.some.injEq, Prod.mk.injEq] at ha
          obtain ⟨rfl, rfl⟩ := ha
          obtain ⟨old', o1, o2, o3⟩ := hd.loadCells (P := P) hl hb
          obtain ⟨cap, hcap, hrun⟩ := append_grow (w := w) (ty := ty) ht0 hu0 ht1 hu1 hxd ha0 ha1 hi hz1 hlen hfirst2 (old' := old') o3 (by rw [hcc]; exact hlow) hb1
          obtain ⟨ψ, r1, r2⟩ := grow_push (w := w) hd hf (fl := .open_ i.size) (e := e) (size := i.size) (need := sLen + n) (cap := cap) (rest := (Builtin.zeroCells z.cells (cap - (sLen + n))).toList) (o1.append hnew2) (.inl ⟨_, rfl⟩) rfl
            (by rw [List.length_append, hnl, o1.1, o2, Nat.add_mul]) (hrest cap) hcap
          exact ⟨ψ, _, _, hrun, r1.drew, r2⟩
        | true =>
          rw [hop, cond_true] at ha
          cases ho : H.objs.get i0 with
          | none => rw [ho] at ha; cases ha
          | some ob =>
          rw [ho] at ha
          cases ob <;> try (cases ha; done)
          rename_i fl c e'
          simp only at ha
          obtain ⟨hcond, ha⟩ := bif_some ha
          simp only [Option.some.injEq, Prod.mk.injEq] at ha
          obtain ⟨rfl, rfl⟩ := ha
          simp only [Bool.and_eq_true, Bool.not_eq_true'] at hcond
          obtain ⟨⟨⟨⟨k1, k2⟩, k3⟩, k4⟩, k5⟩ := hcond
          have k1 := beq_true k1; have k2 := beq_true k2; have k3 := beq_true k3; have k5 := beq_true k5
          subst k1; subst k5
          have hs0 : i.size ≠ 0 := fun e0 => by rw [e0] at k4; cases k4
          have hfl : (∃ s, fl = .open_ s) ∨ ∃ s, fl = .mark s := by
            cases fl with
            | own => exact absurd k3.symm hs0
            | open_ s => exact .inl ⟨s, rfl⟩
            | mark s => exact .inr ⟨s, rfl⟩
            | ro => exact absurd k3.symm hs0
          have hodd : sCap % 2 = 1 := beq_true hop
          have hck : c' = φ.k b := hk rfl hodd
          by_cases hroom : sLen + n ≤ c'
          · obtain ⟨cur, fr, g1, g2, g3, g4, g5, g6⟩ := h.row ho hb
            have hcs := h.caps i0 fl c e b cur fr ho hb g1 (by rw [k3]; exact hs0)
            rw [k3, ← hck] at hcs
            have hlast : sLen * i.size + new'.length ≤ cur.size := by
              rw [← hnew.1, hnl, hcs, ← Nat.add_mul]; exact Nat.mul_le_mul_right _ hroom
            have hfr : ∀ j, j < cur.size → ¬ (fr.1 ≤ j ∧ j < fr.2) := by
              rcases hfl with ⟨s, rfl⟩ | ⟨s, rfl⟩
              · have := g5 (.inr ⟨s, rfl⟩); subst this; intro j _; simp
              · rcases g6 s rfl with h7 | h7 <;> subst h7 <;> intro j hj <;> simp <;> omega
            obtain ⟨w', q1, q2, q3, q4, q5, q6, q7⟩ := run_storeCells (P := P) new' (sLen * i.size) 0 cur w g1 (by omega) hfr (hnew.oneCell hone)
            simp only [Nat.add_zero] at q4
            have hsz : (splice cur.toList (sLen * i.size) new').toArray.size = cur.size := by simp [splice]; omega
            have hlr : LR φ (c ++ new) ((splice cur.toList (sLen * i.size) new').take (c ++ new).length) := by
              have e1 : (splice cur.toList (sLen * i.size) new').take (c ++ new).length = cur.toList.take c.length ++ new' := by
                unfold splice
                rw [k2, ← List.append_assoc, List.take_append_of_le_length, List.take_of_length_le]
                · simp only [List.length_append, List.length_take, hnew.1]; omega
                · simp only [List.length_append, List.length_take, hnew.1, Array.length_toList]; omega
              rw [e1]
              exact g2.append hnew
            have hor : OR φ (.cells fl (c ++ new) e) (.cells (splice cur.toList (sLen * i.size) new').toArray e fr) := by
              rcases hfl with ⟨s, rfl⟩ | ⟨s, rfl⟩
              · have := g5 (.inr ⟨s, rfl⟩); subst this; exact .open_ s e (by simpa using hlr)
              · exact .mark s e fr (by rw [hsz]; exact g6 s rfl) (by simpa using hlr)
            have hcapof : CapOf (φ.k b) (.cells fl (c ++ new) e) (.cells (splice cur.toList (sLen * i.size) new').toArray e fr) := by
              intro fl1 c1 e1 c1' fr1 h1 h2 _
              cases h1; cases h2
              rw [hsz, k3, ← hck]; exact hcs
            obtain ⟨r1, r2, r3⟩ := h.move hf ho hb (by rcases hfl with ⟨s, rfl⟩ | ⟨s, rfl⟩ <;> rfl) hor hcapof q2 q3 q4 q5 q6 q7
            refine ⟨_, _, w', append_room ht0 hu0 ht1 hu1 hxd ha0 ha1 hi hlen hfirst hroom ?_, ⟨r1, r2, r3⟩, ?_⟩
            · simp only [addAddr_eq, Nat.zero_add]; exact q1
            · exact .slice _ (Ren.set_same _ _ _ _) (capOk_open hroom) (fun _ _ => by rw [Ren.set_k]; exact hck)
          · obtain ⟨cur, fr, g1, g2, g3, g4, g5, g6⟩ := hd.row ho hb
            have hcl : H.cells? ⟨i0, 0, none⟩ (sLen * i.size) = some c := by
              unfold AHeap.cells?
              simp only [ho, List.drop_zero]
              rw [← k2, List.take_of_length_le (Nat.le_refl _), Nat.beq_refl]; rfl
            obtain ⟨old', o1, o2, o3⟩ := hd.loadCells (P := P) hcl hb
            obtain ⟨cap, hcap, hrun⟩ := append_grow (w := w) (ty := ty) ht0 hu0 ht1 hu1 hxd ha0 ha1 hi hz1 hlen hfirst2 (old' := old') o3 hroom hb1
            obtain ⟨ψ, r1, r2⟩ := grow_push (H := H.drop i0) (w := w) (hd.drop i0) hf (fl := fl) (e := e) (size := i.size) (need := sLen + n) (cap := cap) (rest := (Builtin.zeroCells z.cells (cap - (sLen + n))).toList) (o1.append hnew2) hfl k3
              (by rw [List.length_append, hnl, k2, Nat.add_mul]) (hrest cap) hcap
            have r0 : Leaves φ H w.drew φ (H.drop i0) w.drew := ⟨hd.drop i0, hf, Goes.drop _ _ _ _⟩
            exact ⟨ψ, _, _, hrun, (r0.trans r1).drew, r2⟩
      · cases e1
end
end Go.Vi
end
