/-
  Stores, and the operations that make one block.
-/
import Derived.Test.YtabpbpdhapaffaaGreatDoorVi08
set_option linter.unusedSimpArgs false
set_option linter.unusedVariables false
namespace Go.Vi
variable {P : Program} {φ : Ren} {H K : AHeap} {w : World}

theorem VR.oneCell {v v' : Value} (h : VR φ v v') : Go.Vi.oneCell v' = Go.Vi.oneCell v := by cases h <;> rfl
theorem LR.oneCell {x y : List Value} (h : LR φ x y) (hx : x.all Go.Vi.oneCell = true) : ∀ v ∈ y, Go.Vi.oneCell v = true := by
  intro v hv
  obtain ⟨i, hi⟩ := List.getElem?_of_mem hv
  have hlt : i < x.length := by rw [h.1]; exact (List.getElem?_eq_some_iff.1 hi).1
  obtain ⟨v', e, r⟩ := h.2 i x[i] (List.getElem?_eq_getElem hlt)
  rw [e] at hi; cases hi
  rw [r.oneCell]
  exact (List.all_eq_true.1 hx) _ (List.getElem_mem hlt)

/-- What a step leaves: a state in which the new heap lies, and nothing turned that may not. -/
structure Leaves (φ : Ren) (H : AHeap) (w : World) (ψ : Ren) (K : AHeap) (v : World) : Prop where
  hr : HR ψ K v
  fresh : Fresh ψ K
  goes : Goes φ H w ψ K v

theorem HR.store (h : HR φ H w) (hf : Fresh φ H) {a : Addr} {b : Nat} {vs vs' : List Value} (hb : φ a.block = some b) (hv : LR φ vs vs') (hs : H.store? a vs = some K) :
    a.spot = none ∧ ∃ w', (storeCells ⟨b, a.off, none⟩ vs').run P w = .ok () w' ∧ Leaves φ H w φ K w' := by
  obtain ⟨i, o, sp⟩ := a
  unfold AHeap.store? at hs
  simp only at hs hb ⊢
  split at hs <;> try (cases hs; done)
  rename_i fl c e hi
  obtain ⟨hc, hs⟩ := bif_some hs
  simp only [Option.some.injEq] at hs; subst hs
  simp only [Bool.and_eq_true] at hc
  obtain ⟨⟨k1, k2⟩, k3⟩ := hc
  have k2 := ble_true k2
  refine ⟨rfl, ?_⟩
  obtain ⟨c', fr, h1, h2, h3, h4, h5, h6⟩ := h.row hi hb
  have hfr : ∀ j, j < c'.size → ¬ (fr.1 ≤ j ∧ j < fr.2) := by
    cases fl with
    | own => have := h5 (.inl rfl); subst this; intro j _; simp
    | open_ s => have := h5 (.inr ⟨s, rfl⟩); subst this; intro j _; simp
    | mark s => rcases h6 s rfl with h7 | h7 <;> subst h7 <;> intro j hj <;> simp <;> omega
    | ro => cases k1
  have hvl := hv.1
  obtain ⟨w', g1, g2, g3, g4, g5, g6, g7⟩ := run_storeCells (P := P) vs' o 0 c' w h1 (by omega) hfr (hv.oneCell k3)
  simp only [Nat.add_zero] at g4
  obtain ⟨s1, s2⟩ := splice_LR h2 hv k2
  have hsz : (splice c'.toList o vs').toArray.size = c'.size := by simp [splice]; omega
  have hor : OR φ (.cells fl (splice c o vs) e) (.cells (splice c'.toList o vs').toArray e fr) := by
    cases fl with
    | own =>
      have e1 := h5 (.inl rfl); subst e1
      refine .own e ?_
      rw [List.take_of_length_le] at s1
      · simpa using s1
      · rw [s2, h4 rfl]; simp [splice]; omega
    | open_ s => have e1 := h5 (.inr ⟨s, rfl⟩); subst e1; exact .open_ s e (by simpa using s1)
    | mark s =>
      refine .mark s e fr ?_ (by simpa using s1)
      rw [hsz]
      exact h6 s rfl
    | ro => cases k1
  have hcap : CapOf (φ.k b) (.cells fl (splice c o vs) e) (.cells (splice c'.toList o vs').toArray e fr) := by
    intro fl1 c1 e1 c1' fr1 ha hb1 hs1
    cases ha; cases hb1
    rw [hsz]
    exact h.caps i _ c e b c' fr hi hb h1 hs1
  obtain ⟨r1, r2, r3⟩ := h.turn hf hi hb (by exact k1) hor hcap g2 g3 g4 g5 g6 g7
  exact ⟨w', g1, r1, r2, r3⟩

theorem storeV_ok (h : HR φ H w) (hf : Fresh φ H) {t : TypeId} {a : Addr} {u v v' : Value} (hu : VR φ (.pointer (some a)) u) (hv : VR φ v v') (hs : storeV P H t a v = some K) :
    ∃ w', (Instr.storeAt t u v').run P w = .ok () w' ∧ Leaves φ H w φ K w' := by
  obtain ⟨b, hb, hsp, rfl⟩ := hu.ptr_inv
  unfold storeV at hs
  cases hz : sizeT P t with
  | none => rw [hz] at hs; cases hs
  | some n =>
  rw [hz] at hs
  simp only at hs
  obtain ⟨hn, hs⟩ := bif_some hs
  have hn := beq_true hn
  have hc := cells_ok hv
  obtain ⟨_, w', g1, g2⟩ := h.store hf hb hc hs (P := P)
  refine ⟨w', ?_, g2⟩
  have hsz : v'.cells.size = n := by rw [← hc.size]; exact hn
  simp only [Instr.storeAt, Instr.sureAddr, storeVar, Sem.run_bind, Sem.run_pure, Result.andThen_ok, sizeT_run hz, hsz, ne_eq, not_true_eq_false, if_false, g1]

/-! ### One new block -/
def NewOk (P : Program) (φ : Ren) (w : World) (s : Sem Next) (ob : AObj) (k : NewV) : Prop :=
  ∃ o' v' w1 n, s.run P w = .ok (.value v') w1 ∧ w1.heap = w.heap.push o' ∧ w1.os = w.os ∧ w1.tape = w.tape ∧ w1.output = w.output ∧ OR φ ob o' ∧ CapOf n ob o' ∧
    ∀ id, VR (φ.set id w.heap.size n) (k.at id) v'
theorem CapOf.own (n : Nat) (c : List Value) (e : TypeId) (o' : Obj) : CapOf n (.cells .own c e) o' := fun fl c1 e1 c' fr h _ hs => by cases h; exact absurd rfl hs
theorem own_ok {c c' : List Value} {e : TypeId} (h : LR φ c c') : OR φ (.cells .own c e) (.cells c'.toArray e (0, 0)) := .own e (by simpa using h)

theorem range_map_ok {zero : Array Value} (h : AR φ zero zero) (n : Nat) : AR φ ((Array.range n).map (zero[· % zero.size]!)) ((Array.range n).map (zero[· % zero.size]!)) := by
  refine LR.refl_of fun v hv => ?_
  simp only [Array.toList_map, List.mem_map] at hv
  obtain ⟨i, _, rfl⟩ := hv
  by_cases hlt : i % zero.size < zero.size
  · rw [getElem!_pos zero _ hlt]
    exact h.get _ hlt hlt
  · rw [getElem!_neg zero _ hlt]
    exact .bool _

theorem zero_ok {e : TypeId} {m : Nat} {zero : Array Value} (hzero : (bif Nat.beq m 0 then some #[] else (zeroT P e).bind fun z => bif bare 20 z then some z.cells else none) = some zero) :
    AR φ zero zero ∧ ((m = 0 ∧ zero = #[]) ∨ (m ≠ 0 ∧ ∃ z, zeroT P e = some z ∧ zero = z.cells)) := by
  cases h0 : Nat.beq m 0 with
  | true =>
    rw [h0, cond_true, Option.some.injEq] at hzero; subst hzero
    exact ⟨LR.nil φ, .inl ⟨beq_true h0, rfl⟩⟩
  | false =>
    rw [h0, cond_false] at hzero
    have hne : m ≠ 0 := fun e0 => by rw [e0] at h0; cases h0
    cases hzz : zeroT P e with
    | none => rw [hzz] at hzero; cases hzero
    | some z =>
    rw [hzz] at hzero
    simp only [Option.bind_some] at hzero
    obtain ⟨hb, hzero⟩ := bif_some hzero
    simp only [Option.some.injEq] at hzero; subst hzero
    exact ⟨cells_ok (bare_spec 20 z hb), .inr ⟨hne, z, rfl, rfl⟩⟩
theorem wrap_small {n : Int} (h0 : 0 ≤ n) (h1 : n < 9223372036854775808) : IntKind.i64.wrap n = n := by
  have e : IntKind.i64.wrap n = (if decide (n % (2 ^ 64 : Int) ≥ (2 ^ 63 : Int)) = true then n % (2 ^ 64 : Int) - (2 ^ 64 : Int) else n % (2 ^ 64 : Int)) := rfl
  rw [e]
  split
  · rename_i h; simp only [decide_eq_true_eq] at h; omega
  · omega
theorem modify_push (a : Array Obj) (o : Obj) (f : Obj → Obj) : (a.push o).modify a.size f = a.push (f o) := by
  apply Array.ext_getElem?
  intro i
  rw [Array.getElem?_modify, Array.getElem?_push, Array.getElem?_push]
  by_cases h : i = a.size
  · subst h; simp
  · rw [if_neg h, if_neg (Ne.symm h), if_neg h]

def strA (s : ByteArray) (k : Nat) : Array Value := (s.data.map fun (b : UInt8) => Value.int .u8 (b.toNat : Int)) ++ Array.replicate k (Value.int .u8 0)
theorem strA_size (s : ByteArray) (k : Nat) : (strA s k).size = s.size + k := by
  unfold strA
  simp only [Array.size_append, Array.size_map, Array.size_replicate]
  rfl
theorem newOp_ok {ρ ρ' : Operand → Value} {o : Oper} {ob : AObj} {k : NewV} (hρ : ∀ x ∈ o.op.operands, VR φ (ρ x) (ρ' x)) (h : newOp P ρ o = some (ob, k)) (w : World) :
    NewOk P φ w (execOp ρ' o) ob k := by
  obtain ⟨dst, op, ty, pos, after, guard⟩ := o
  simp only at hρ
  cases op <;> simp only [newOp] at h <;> try (cases h; done)
  case alloc t =>
    cases hz : zeroT P t with
    | none => rw [hz] at h; cases h
    | some z =>
    rw [hz] at h
    simp only [Option.bind_some] at h
    obtain ⟨hb, h⟩ := bif_some h
    simp only [Option.some.injEq, Prod.mk.injEq] at h
    obtain ⟨rfl, rfl⟩ := h
    have hzb := cells_ok (bare_spec (φ := φ) 20 z hb)
    refine ⟨.cells z.cells t, .pointer (some ⟨w.heap.size, 0, none⟩), { w with heap := w.heap.push (.cells z.cells t) }, 0, ?_, rfl, rfl, rfl, rfl, .own t hzb, CapOf.own _ _ _ _, fun id => .ptr (Ren.set_same _ _ _ _)⟩
    simp only [execOp, Instr.alloc, newVar, newRow, Sem.run_bind, zeroT_run hz, Result.andThen_ok, run_newObj, Sem.run_pure]
  case box t x =>
    have hx := hρ x (by simp [Op.operands])
    simp only [Option.some.injEq, Prod.mk.injEq] at h
    obtain ⟨rfl, rfl⟩ := h
    refine ⟨.cells (ρ' x).cells t, .pointer (some ⟨w.heap.size, 0, none⟩), { w with heap := w.heap.push (.cells (ρ' x).cells t) }, 0, ?_, rfl, rfl, rfl, rfl, .own t (cells_ok hx), CapOf.own _ _ _ _, fun id => .ptr (Ren.set_same _ _ _ _)⟩
    simp only [execOp, Instr.box, newVar, newRow, Sem.run_bind, Result.andThen_ok, run_newObj, Sem.run_pure]
  case buildSlice t len parts =>
    cases hu : P.underlying t with
    | none => rw [hu] at h; cases h
    | some d =>
    rw [hu] at h
    cases d <;> try (cases h; done)
    rename_i e
    simp only at h
    cases hz : sizeT P e with
    | none => rw [hz] at h; cases h
    | some size =>
    rw [hz] at h
    simp only at h
    obtain ⟨hle, h⟩ := bif_some h
    have hle := ble_true hle
    cases hzero : (bif Nat.beq (len * size) 0 then some #[] else (zeroT P e).bind fun z => bif bare 20 z then some z.cells else none) with
    | none => rw [hzero] at h; cases h
    | some zero =>
    rw [hzero] at h
    simp only at h
    obtain ⟨cells, hf, h⟩ := option_map_some h
    simp only [Prod.mk.injEq] at h
    obtain ⟨rfl, rfl⟩ := h
    obtain ⟨hzr, hzc⟩ : AR φ zero zero ∧ ((len * size = 0 ∧ zero = #[]) ∨ (len * size ≠ 0 ∧ ∃ z, zeroT P e = some z ∧ zero = z.cells)) := zero_ok hzero
    obtain ⟨hp1, hp2⟩ := parts_ok (φ := φ) (ρ := ρ) (ρ' := ρ') (parts := parts) (fun p hp => hρ p.2 (by simp only [Op.operands, List.mem_toArray, List.mem_map]; exact ⟨p, by simpa using hp, rfl⟩))
    have hf' : Instr.fill (fun i => some (i * size, size)) ((Array.range (len * size)).map (zero[· % zero.size]!)) (parts.map fun (x : Nat × Operand) => (x.1, ρ x.2)).toList = some cells := by
      rw [← hf]; congr 1; simp
    obtain ⟨cells', g1, g2⟩ := fill_ok _ _ _ _ _ hp1 hp2 (range_map_ok hzr _) hf'
    refine ⟨.cells cells' e, .slice (some ⟨w.heap.size, 0, none⟩) len len, { w with heap := w.heap.push (.cells cells' e) }, 0, ?_, rfl, rfl, rfl, rfl, .own e g2, CapOf.own _ _ _ _, fun id => .slice _ (Ren.set_same _ _ _ _) (capOk_exact _) (fun _ h => by omega)⟩
    have hle' : ¬ len * size > 2 ^ 24 := by omega
    simp only [execOp, Instr.buildSlice, Sem.run_bind, und_run hu, Result.andThen_ok, sizeT_run hz, if_neg hle', Sem.run_pure, newRow]
    rcases hzc with ⟨h0, rfl⟩ | ⟨h0, z, hzz, rfl⟩
    · rw [if_pos h0]
      simp only [Sem.run_bind, Sem.run_pure, Result.andThen_ok, g1, run_newObj]
    · rw [if_neg h0]
      simp only [Sem.run_bind, Sem.run_pure, Result.andThen_ok, zeroT_run hzz, g1, run_newObj]
  case makeMap t r =>
    cases r with
    | some _ => cases h
    | none =>
    cases hu : P.underlying t with
    | none => rw [hu] at h; cases h
    | some d =>
    rw [hu] at h
    cases d <;> try (cases h; done)
    simp only [Option.some.injEq, Prod.mk.injEq] at h
    obtain ⟨rfl, rfl⟩ := h
    refine ⟨.map #[] 0, .map (some w.heap.size), { w with heap := w.heap.push (.map #[] 0) }, 0, ?_, rfl, rfl, rfl, rfl, .map 0 ⟨rfl, fun i e h => by simp at h⟩, (fun fl c e c' fr h => by cases h), fun id => .map (Ren.set_same _ _ _ _)⟩
    simp only [execOp, Instr.makeMap, Option.map_none, Sem.run_bind, run_newObj, Result.andThen_ok, Sem.run_pure]
  case makeSlice t l c =>
    have hl := hρ l (by simp [Op.operands])
    have hc := hρ c (by simp [Op.operands])
    cases hu : P.underlying t with
    | none => rw [hu] at h; cases h
    | some d =>
    rw [hu] at h
    cases d <;> try (cases h; done)
    rename_i e
    cases hv : ρ l <;> rw [hv] at h hl <;> (try simp only at h) <;> try (cases h; done)
    rename_i k1 n
    cases hv2 : ρ c <;> rw [hv2] at h hc <;> (try simp only at h) <;> try (cases h; done)
    rename_i k2 m
    cases hi : P.info? e with
    | none => rw [hi] at h; cases h
    | some i =>
    rw [hi] at h
    simp only at h
    obtain ⟨hcond, h⟩ := bif_some h
    simp only [Bool.and_eq_true, decide_eq_true_eq] at hcond
    obtain ⟨⟨⟨c1, c2⟩, c3⟩, c4⟩ := hcond
    have c1 := okInt_spec c1
    cases hzero : (bif Nat.beq (m.toNat * i.size) 0 then some #[] else i.zero.bind fun z => bif bare 20 z then some z.cells else none) with
    | none => rw [hzero] at h; cases h
    | some zero =>
    rw [hzero] at h
    simp only [Option.some.injEq, Prod.mk.injEq] at h
    obtain ⟨rfl, rfl⟩ := h
    have hz : sizeT P e = some i.size := by unfold sizeT; rw [hi]; rfl
    have hzt : zeroT P e = i.zero := by unfold zeroT; rw [hi]; rfl
    rw [← hzt] at hzero
    obtain ⟨hzr, hzc⟩ := zero_ok (φ := φ) hzero
    have wn : IntKind.i64.wrap n = n := wrap_small c1 (by omega)
    have wm : IntKind.i64.wrap m = m := wrap_small (by omega) (by omega)
    refine ⟨.cells ((Array.range (m.toNat * i.size)).map (zero[· % zero.size]!)) e, .slice (some ⟨w.heap.size, 0, none⟩) n.toNat m.toNat, { w with heap := w.heap.push (.cells ((Array.range (m.toNat * i.size)).map (zero[· % zero.size]!)) e) }, 0, ?_, rfl, rfl, rfl, rfl, .own e (range_map_ok hzr _), CapOf.own _ _ _ _,
      fun id => .slice _ (Ren.set_same _ _ _ _) (capOk_exact _) (fun _ h => by omega)⟩
    have t1 : ¬ (decide (m < 0) || decide ((i.bytes : Int) * m > 2 ^ 48)) = true := by
      simp only [Bool.or_eq_true, decide_eq_true_eq, not_or]
      omega
    have t2 : (decide (m < 0) || decide ((i.bytes : Int) * m > 2 ^ 48)) = false := by simpa using t1
    have t3 : ¬ n < 0 := by omega
    have t4 : ¬ n > m := by omega
    simp only [execOp, Instr.makeSlice, Sem.run_bind, und_run hu, Result.andThen_ok, hl.int_inv, hc.int_inv, asInt, asIntOf, Sem.run_pure, info_run hi, wn, wm, t2, t3, t4, decide_false, Bool.or_false, Bool.false_eq_true, if_false, run_askRoom, sizeT_run hz, newRow]
    rcases hzc with ⟨h0, rfl⟩ | ⟨h0, z, hzz, rfl⟩
    · rw [if_pos h0]
      simp only [Sem.run_bind, Sem.run_pure, Result.andThen_ok, run_newObj]
    · rw [if_neg h0]
      simp only [Sem.run_bind, Sem.run_pure, Result.andThen_ok, zeroT_run hzz, run_newObj]
  case convert src dst' x =>
    have hx := hρ x (by simp [Op.operands])
    cases hs : P.underlying src with
    | none => rw [hs] at h; cases h
    | some ds =>
    rw [hs] at h
    cases hd : P.underlying dst' with
    | none => rw [hd] at h; cases ds <;> cases h
    | some dd =>
    rw [hd] at h
    cases ds <;> try (cases h; done)
    cases dd <;> try (cases h; done)
    rename_i e
    cases hv : ρ x <;> rw [hv] at h hx <;> (try simp only at h) <;> try (cases h; done)
    rename_i s
    cases he : P.underlying e with
    | none => rw [he] at h; cases h
    | some de =>
    rw [he] at h
    cases de <;> try (cases h; done)
    rename_i k
    cases k <;> try (cases h; done)
    simp only [Option.some.injEq, Prod.mk.injEq] at h
    obtain ⟨rfl, rfl⟩ := h
    rw [show (execOp ρ' { dst := dst, op := Op.convert src dst' x, type := ty, pos := pos, after := after, guard := guard }) = (do pure (Next.value (← convert src dst' (ρ' x))) : Sem Next) from rfl, hx.string_inv]
    -- the capacity that is drawn
    obtain ⟨cap, hcap, hch⟩ : ∃ cap, s.size ≤ cap ∧ (choose (.appendCap s.size 0 e)).run P w = .ok cap w.drew := by
      refine ⟨_, ?_, run_choose P w _⟩
      show s.size ≤ s.size + _ % _
      omega
    have hsz : (strA s (cap - s.size)).size = cap := by rw [strA_size]; omega
    refine ⟨.cells (strA s (cap - s.size)) e (cap, cap + 1), .slice (some ⟨w.heap.size, 0, none⟩) s.size cap,
      { w.drew with heap := w.heap.push (.cells (strA s (cap - s.size)) e (cap, cap + 1)) }, cap, ?_, rfl, rfl, rfl, rfl, ?_, ?_, fun id => .slice _ (Ren.set_same _ _ _ _) (capOk_open hcap) (fun _ _ => (Ren.set_k _ _ _ _).symm)⟩
    · unfold convert
      simp only [Sem.run_bind, und_run hs, und_run hd, Result.andThen_ok, und_run he]
      unfold Conv.stringToBytes
      have hnr : (newRow e (strA s (cap - s.size))).run P w.drew = .ok ⟨w.heap.size, 0, none⟩ ({ w.drew with heap := w.heap.push (.cells (strA s (cap - s.size)) e) }) := rfl
      have hshape : ({ w.drew with heap := w.heap.push (.cells (strA s (cap - s.size)) e) } : World).shape? w.heap.size = some (e, cap) := by
        simp only [World.shape?, Array.getElem?_push, if_true, hsz]
      have hmk : (markStringish ⟨w.heap.size, 0, none⟩).run P ({ w.drew with heap := w.heap.push (.cells (strA s (cap - s.size)) e) }) = .ok () ({ w.drew with heap := w.heap.push (.cells (strA s (cap - s.size)) e (cap, cap + 1)) }) := by
        simp only [markStringish, Sem.run_bind, run_shape, hshape, Result.andThen_ok, run_freeze]
        congr 1
        simp only [World.freeze, Nat.one_ne_zero, if_false]
        rw [modify_push]
        simp
      show ((choose (.appendCap s.size 0 e) >>= fun cap => newRow e (strA s (cap - s.size)) >>= fun a => markStringish a >>= fun _ => pure (Value.slice (some a) s.size cap)).run P w).andThen _ = _
      simp only [Sem.run_bind, hch, Result.andThen_ok, hnr, hmk, Sem.run_pure]
    · refine .mark 1 e (cap, cap + 1) (.inr (by rw [hsz])) ?_
      have hl : (byteVals s.data.toList).length = s.size := by simp only [byteVals, List.length_map, Array.length_toList]; rfl
      have hd : (s.data.map fun (b : UInt8) => Value.int .u8 (b.toNat : Int)).toList = byteVals s.data.toList := by simp [byteVals]
      rw [hl, strA, Array.toList_append, hd, List.take_append_of_le_length (by omega), List.take_of_length_le (by omega)]
      exact LR.refl_of fun v hv => by
        simp only [byteVals, List.mem_map] at hv
        obtain ⟨b, _, rfl⟩ := hv
        exact .int _ _
    · intro fl c e1 c' fr h1 h2 _
      cases h1; cases h2
      rw [hsz]; simp [Fl.sz]
end Go.Vi
