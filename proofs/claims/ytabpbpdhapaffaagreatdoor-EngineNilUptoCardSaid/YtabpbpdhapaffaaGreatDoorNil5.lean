import Derived.Test.YtabpbpdhapaffaaGreatDoorNil4
import Derived.ProofKit
import Derived.OpenShut
set_option linter.unusedSimpArgs false
set_option linter.unusedVariables false
namespace Go.Proofs.YtabpbpdhapaffaaGreatDoor
open Go.ChangeShapes Go.WideShapes Go.ChangeAt Go.RowKit
variable {H : Type} {enc : TypeId × Value → H} {W : World} {sp : Nat → Bool} {hd : Bool} {fuel : Nat}

theorem cellsOf37 : Tryz.prog.cellsOf 37 = 4 := by kernel_rfl
theorem cellsOf34 : Tryz.prog.cellsOf 34 = 4 := by kernel_rfl
theorem cellsOf27 : Tryz.prog.cellsOf 27 = 3 := by kernel_rfl
theorem cellsOf24 : Tryz.prog.cellsOf 24 = 2 := by kernel_rfl
theorem cellsOf9 : Tryz.prog.cellsOf 9 = 1 := by kernel_rfl
theorem cellsOf3 : Tryz.prog.cellsOf 3 = 1 := by kernel_rfl
theorem cellsOf2 : Tryz.prog.cellsOf 2 = 1 := by kernel_rfl
theorem cellsOf22 : Tryz.prog.cellsOf 22 = 1 := by kernel_rfl
theorem cellsOf25 : Tryz.prog.cellsOf 25 = 1 := by kernel_rfl
theorem cellsOf35 : Tryz.prog.cellsOf 35 = 1 := by kernel_rfl
theorem cellsOf38 : Tryz.prog.cellsOf 38 = 1 := by kernel_rfl
theorem cellsOf53 : Tryz.prog.cellsOf 53 = 1 := by kernel_rfl
theorem cellsOf57 : Tryz.prog.cellsOf 57 = 1 := by kernel_rfl
theorem cellsOf59 : Tryz.prog.cellsOf 59 = 8 := by kernel_rfl

theorem spot_none {a : Addr} {v : Value} (h : W.cell? a = some v) : a.spot = none := by
  obtain ⟨b, o, s⟩ := a
  cases s with
  | none => rfl
  | some k =>
    unfold World.cell? at h
    split at h
    · simp at h
    · cases h

/-- One field's reading. -/
theorem field_trod {t : TypeId} {fs : Array Field} {cs : List Value} {x : DataW H × List MemPlace} (ht : Tryz.prog.underlying t = some (.struct fs)) (h : DataW.trod enc Tryz.prog W 0 sp hd fuel t cs = some x) :
    cs.length = Tryz.prog.cellsOf t ∧ ∃ n, ∀ (i : Nat) (u off k : Nat) (f : Field), fs[i]? = some f → f.type = u → f.offset = off → Tryz.prog.cellsOf u = k → ∃ y, DataW.trod enc Tryz.prog W 0 sp hd n u ((cs.drop off).take k) = some y := by
  obtain ⟨xs, n, _, _, hl, hx, h⟩ := DataW.trod_struct ht h
  refine ⟨hl, n, fun i u off k f hf h1 h2 h3 => ?_⟩
  have hi : i < xs.length := by rw [hx]; exact (Array.getElem?_eq_some_iff.1 hf).1
  subst h1; subst h2; subst h3
  exact ⟨xs[i], by rw [h i f hf, List.getElem?_eq_getElem hi]⟩

/-- A list's four. -/
theorem four {α : Type} {l : List α} (h : l.length = 4) : ∃ a b c d, l = [a, b, c, d] := by
  match l, h with
  | [a, b, c, d], _ => exact ⟨a, b, c, d, rfl⟩
theorem eight {α : Type} {l : List α} (h : l.length = 8) : ∃ a b c d e f g k, l = [a, b, c, d, e, f, g, k] := by
  match l, h with
  | [a, b, c, d, e, f, g, k], _ => exact ⟨a, b, c, d, e, f, g, k, rfl⟩

theorem cells_four {a : Addr} {cs : List Value} (h : W.cells? 0 a 4 = some cs) : ∃ x0 x1 x2 x3, cs = [x0, x1, x2, x3] ∧ a.spot = none ∧ a.block < W.heap.size ∧
    W.cell? ⟨a.block, a.off, none⟩ = some x0 ∧ W.cell? ⟨a.block, a.off + 1, none⟩ = some x1 ∧ W.cell? ⟨a.block, a.off + 2, none⟩ = some x2 ∧ W.cell? ⟨a.block, a.off + 3, none⟩ = some x3 := by
  have hb := World.cells?_block h (by decide)
  obtain ⟨_, hl, hc⟩ := World.cells?_some h
  obtain ⟨x0, x1, x2, x3, rfl⟩ := four hl
  obtain ⟨b, o, s⟩ := a
  have h0 : W.cell? ⟨b, o, s⟩ = some x0 := by
    have := hc 0 (by decide)
    simpa [Addr.add] using this
  have hs := spot_none h0
  simp only at hs
  subst hs
  refine ⟨x0, x1, x2, x3, rfl, rfl, hb, h0, ?_, ?_, ?_⟩
  · have := hc 1 (by decide); rw [Vi.addAddr_eq] at this; simpa using this
  · have := hc 2 (by decide); rw [Vi.addAddr_eq] at this; simpa using this
  · have := hc 3 (by decide); rw [Vi.addAddr_eq] at this; simpa using this

theorem str_of {x : Value} {n : Nat} {y : DataW H × List MemPlace} (h : DataW.trod enc Tryz.prog W 0 sp hd n 9 [x] = some y) : ∃ s : ByteArray, x = .string s ∧ s.size ≤ maxLen := by
  obtain ⟨s, e, _, hs⟩ := DataW.trod_string Tryz.underlying9 h
  exact ⟨s, by simpa using e, hs⟩
theorem int3_of {x : Value} {n : Nat} {y : DataW H × List MemPlace} (h : DataW.trod enc Tryz.prog W 0 sp hd n 3 [x] = some y) : ∃ i, x = .int .i64 i := by
  obtain ⟨s, e, _⟩ := DataW.trod_int Tryz.underlying3 h
  exact ⟨s, by simpa using e⟩
theorem int2_of {x : Value} {n : Nat} {y : DataW H × List MemPlace} (h : DataW.trod enc Tryz.prog W 0 sp hd n 2 [x] = some y) : ∃ i, x = .int .i64 i := by
  obtain ⟨s, e, _⟩ := DataW.trod_int Tryz.underlying2 h
  exact ⟨s, by simpa using e⟩
theorem slice_of {t e : TypeId} {x : Value} {n : Nat} {y : DataW H × List MemPlace} (ht : Tryz.prog.underlying t = some (.slice e)) (h : DataW.trod enc Tryz.prog W 0 sp hd n t [x] = some y) : ∃ a l c, x = .slice a l c := by
  rcases DataW.trod_slice ht h with ⟨e, _⟩ | ⟨a, l, c, _, _, _, _, e, _⟩
  · exact ⟨_, _, _, by simpa using e⟩
  · exact ⟨_, _, _, by simpa using e⟩
theorem field_at {a : Addr} {n : Nat} {cs : List Value} {y : DataW H × List MemPlace} (hc : W.cells? 0 a 4 = some cs) (h : DataW.trod enc Tryz.prog W 0 sp hd n 34 cs = some y) : a.spot = none ∧ a.block < W.heap.size ∧ FieldAt W a.block a.off := by
  obtain ⟨x0, x1, x2, x3, rfl, hs, hb, c0, c1, c2, c3⟩ := cells_four hc
  obtain ⟨_, m, hf⟩ := field_trod Tryz.underlying34 h
  have h0' : ∃ y, DataW.trod enc Tryz.prog W 0 sp hd m 9 [x0] = some y := hf 0 9 0 1 _ rfl rfl rfl cellsOf9
  obtain ⟨y0, h0⟩ := h0'
  have h1' : ∃ y, DataW.trod enc Tryz.prog W 0 sp hd m 27 [x1, x2, x3] = some y := hf 1 27 1 3 _ rfl rfl rfl cellsOf27
  obtain ⟨y1, h1⟩ := h1'
  obtain ⟨k, rfl, _⟩ := str_of h0
  obtain ⟨_, m2, hg⟩ := field_trod Tryz.underlying27 h1
  have g0' : ∃ y, DataW.trod enc Tryz.prog W 0 sp hd m2 3 [x1] = some y := hg 0 3 0 1 _ rfl rfl rfl cellsOf3
  obtain ⟨z0, g0⟩ := g0'
  have g1' : ∃ y, DataW.trod enc Tryz.prog W 0 sp hd m2 25 [x2] = some y := hg 1 25 1 1 _ rfl rfl rfl cellsOf25
  obtain ⟨z1, g1⟩ := g1'
  have g2' : ∃ y, DataW.trod enc Tryz.prog W 0 sp hd m2 9 [x3] = some y := hg 2 9 2 1 _ rfl rfl rfl cellsOf9
  obtain ⟨z2, g2⟩ := g2'
  obtain ⟨i, rfl⟩ := int3_of g0
  obtain ⟨u, e, _⟩ := DataW.trod_int Tryz.underlying25 g1
  obtain ⟨s, rfl, hs2⟩ := str_of g2
  have e : x2 = .int .u64 u := by simpa using e
  subst e
  exact ⟨hs, hb, k, i, u, s, c0, c1, c2, c3, hs2⟩
theorem fields_ok {n : Nat} {a : Option Addr} {l c : Nat} {y : DataW H × List MemPlace} (h : DataW.trod enc Tryz.prog W 0 sp hd n 35 [.slice a l c] = some y) : FieldsOk W a l ∧ l ≤ maxLen := by
  rcases DataW.trod_slice Tryz.underlying35 h with ⟨e, _⟩ | ⟨b, l', c', elems, rest, m, _, e, _, _, hl, hm, hel, hi, _⟩
  · simp at e
    obtain ⟨_, rfl, _⟩ := e
    exact ⟨.inl rfl, Nat.zero_le _⟩
  · simp at e
    obtain ⟨rfl, rfl, rfl⟩ := e
    refine ⟨?_, by omega⟩
    by_cases h0 : l = 0
    · exact .inl h0
    · right
      have key : ∀ i, i < l → (b.add (i * 4)).spot = none ∧ (b.add (i * 4)).block < W.heap.size ∧ FieldAt W (b.add (i * 4)).block (b.add (i * 4)).off := fun i hil => by
        have := hi i hil
        rw [cellsOf34] at this
        rw [List.getElem?_eq_getElem (by omega)] at this
        obtain ⟨cs, h1, h2⟩ := Option.bind_eq_some_iff.1 this
        exact field_at h1 h2
      obtain ⟨bb, bo, bs⟩ := b
      have k0 := key 0 (by omega)
      have e0 : (⟨bb, bo, bs⟩ : Addr).add (0 * 4) = ⟨bb, bo, bs⟩ := by simp [Addr.add]
      rw [e0] at k0
      obtain ⟨hs, hb, _⟩ := k0
      simp only at hs
      subst hs
      refine ⟨bb, bo, rfl, hb, fun j hj => ?_⟩
      have := (key j hj).2.2
      rwa [Vi.addAddr_eq] at this
theorem row_at {a : Addr} {n : Nat} {cs : List Value} {y : DataW H × List MemPlace} (hc : W.cells? 0 a 4 = some cs) (h : DataW.trod enc Tryz.prog W 0 sp hd n 37 cs = some y) : a.spot = none ∧ a.block < W.heap.size ∧ RowAt W a.block a.off := by
  obtain ⟨x0, x1, x2, x3, rfl, hs, hb, c0, c1, c2, c3⟩ := cells_four hc
  obtain ⟨_, m, hf⟩ := field_trod Tryz.underlying37 h
  have h0' : ∃ y, DataW.trod enc Tryz.prog W 0 sp hd m 24 [x0, x1] = some y := hf 0 24 0 2 _ rfl rfl rfl cellsOf24
  obtain ⟨y0, h0⟩ := h0'
  have h1' : ∃ y, DataW.trod enc Tryz.prog W 0 sp hd m 35 [x2] = some y := hf 1 35 2 1 _ rfl rfl rfl cellsOf35
  obtain ⟨y1, h1⟩ := h1'
  have h2' : ∃ y, DataW.trod enc Tryz.prog W 0 sp hd m 2 [x3] = some y := hf 2 2 3 1 _ rfl rfl rfl cellsOf2
  obtain ⟨y2, h2⟩ := h2'
  obtain ⟨_, m2, hg⟩ := field_trod Tryz.underlying24 h0
  have g0' : ∃ y, DataW.trod enc Tryz.prog W 0 sp hd m2 9 [x0] = some y := hg 0 9 0 1 _ rfl rfl rfl cellsOf9
  obtain ⟨z0, g0⟩ := g0'
  have g1' : ∃ y, DataW.trod enc Tryz.prog W 0 sp hd m2 22 [x1] = some y := hg 1 22 1 1 _ rfl rfl rfl cellsOf22
  obtain ⟨z1, g1⟩ := g1'
  obtain ⟨s, rfl, _⟩ := str_of g0
  obtain ⟨tb, tl, tc, rfl⟩ := slice_of Tryz.underlying22 g1
  obtain ⟨fb, fl, fc, rfl⟩ := slice_of Tryz.underlying35 h1
  obtain ⟨t, rfl⟩ := int2_of h2
  obtain ⟨hfo, hfl⟩ := fields_ok h1
  exact ⟨hs, hb, s, tb, tl, tc, fb, fl, fc, t, c0, c1, c2, c3, hfo, hfl⟩
theorem rows_ok {n : Nat} {a : Option Addr} {l c : Nat} {y : DataW H × List MemPlace} (h : DataW.trod enc Tryz.prog W 0 sp hd n 38 [.slice a l c] = some y) : RowsOk W a l ∧ l ≤ maxLen := by
  rcases DataW.trod_slice Tryz.underlying38 h with ⟨e, _⟩ | ⟨b, l', c', elems, rest, m, _, e, _, _, hl, hm, hel, hi, _⟩
  · simp at e
    obtain ⟨_, rfl, _⟩ := e
    exact ⟨.inl rfl, Nat.zero_le _⟩
  · simp at e
    obtain ⟨rfl, rfl, rfl⟩ := e
    refine ⟨?_, by omega⟩
    by_cases h0 : l = 0
    · exact .inl h0
    · right
      have key : ∀ i, i < l → (b.add (i * 4)).spot = none ∧ (b.add (i * 4)).block < W.heap.size ∧ RowAt W (b.add (i * 4)).block (b.add (i * 4)).off := fun i hil => by
        have := hi i hil
        rw [cellsOf37] at this
        rw [List.getElem?_eq_getElem (by omega)] at this
        obtain ⟨cs, h1, h2⟩ := Option.bind_eq_some_iff.1 this
        exact row_at h1 h2
      obtain ⟨bb, bo, bs⟩ := b
      have k0 := key 0 (by omega)
      have e0 : (⟨bb, bo, bs⟩ : Addr).add (0 * 4) = ⟨bb, bo, bs⟩ := by simp [Addr.add]
      rw [e0] at k0
      obtain ⟨hs, hb, _⟩ := k0
      simp only at hs
      subst hs
      refine ⟨bb, bo, rfl, hb, fun j hj => ?_⟩
      have := (key j hj).2.2
      rwa [Vi.addAddr_eq] at this
/-- The parameter's eight cells. -/
theorem op_cells {n : Nat} {cs : List Value} {y : DataW H × List MemPlace} (h : DataW.trod enc Tryz.prog W 0 sp hd n 59 cs = some y) :
    ∃ k m x z rb rl rc lb ll lc nm bb bl bc, cs = [.int .i64 k, .int .i64 m, .slice rb rl rc, .slice lb ll lc, .int .i64 x, .int .i64 z, .string nm, .slice bb bl bc] ∧ RowsOk W rb rl ∧ rl ≤ maxLen := by
  obtain ⟨hl, m, hf⟩ := field_trod Tryz.underlying59 h
  rw [cellsOf59] at hl
  obtain ⟨x0, x1, x2, x3, x4, x5, x6, x7, rfl⟩ := eight hl
  have h0' : ∃ y, DataW.trod enc Tryz.prog W 0 sp hd m 3 [x0] = some y := hf 0 3 0 1 _ rfl rfl rfl cellsOf3
  obtain ⟨_, h0⟩ := h0'
  have h1' : ∃ y, DataW.trod enc Tryz.prog W 0 sp hd m 3 [x1] = some y := hf 1 3 1 1 _ rfl rfl rfl cellsOf3
  obtain ⟨_, h1⟩ := h1'
  have h2' : ∃ y, DataW.trod enc Tryz.prog W 0 sp hd m 38 [x2] = some y := hf 2 38 2 1 _ rfl rfl rfl cellsOf38
  obtain ⟨_, h2⟩ := h2'
  have h3' : ∃ y, DataW.trod enc Tryz.prog W 0 sp hd m 53 [x3] = some y := hf 3 53 3 1 _ rfl rfl rfl cellsOf53
  obtain ⟨_, h3⟩ := h3'
  have h4' : ∃ y, DataW.trod enc Tryz.prog W 0 sp hd m 2 [x4] = some y := hf 4 2 4 1 _ rfl rfl rfl cellsOf2
  obtain ⟨_, h4⟩ := h4'
  have h5' : ∃ y, DataW.trod enc Tryz.prog W 0 sp hd m 2 [x5] = some y := hf 5 2 5 1 _ rfl rfl rfl cellsOf2
  obtain ⟨_, h5⟩ := h5'
  have h6' : ∃ y, DataW.trod enc Tryz.prog W 0 sp hd m 9 [x6] = some y := hf 6 9 6 1 _ rfl rfl rfl cellsOf9
  obtain ⟨_, h6⟩ := h6'
  have h7' : ∃ y, DataW.trod enc Tryz.prog W 0 sp hd m 57 [x7] = some y := hf 7 57 7 1 _ rfl rfl rfl cellsOf57
  obtain ⟨_, h7⟩ := h7'
  obtain ⟨k, rfl⟩ := int3_of h0
  obtain ⟨mm, rfl⟩ := int3_of h1
  obtain ⟨rb, rl, rc, rfl⟩ := slice_of Tryz.underlying38 h2
  obtain ⟨lb, ll, lc, rfl⟩ := slice_of Tryz.underlying53 h3
  obtain ⟨x, rfl⟩ := int2_of h4
  obtain ⟨z, rfl⟩ := int2_of h5
  obtain ⟨nm, rfl, _⟩ := str_of h6
  obtain ⟨bb, bl, bc, rfl⟩ := slice_of Tryz.underlying57 h7
  obtain ⟨r1, r2⟩ := rows_ok h2
  exact ⟨k, mm, x, z, rb, rl, rc, lb, ll, lc, nm, bb, bl, bc, rfl, r1, r2⟩
end Go.Proofs.YtabpbpdhapaffaaGreatDoor
