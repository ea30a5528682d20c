import Derived.Test.YtabpbpdhapaffaaGreatDoorNil1
import Derived.Test.YtabpbpdhapaffaaGreatDoorNil2
import Derived.Test.YtabpbpdhapaffaaGreatDoorNil3
import Derived.WalkKit
import Derived.Handy
set_option linter.unusedSimpArgs false
set_option linter.unusedVariables false
namespace Go.Proofs.YtabpbpdhapaffaaGreatDoor
open Go.RowKit
theorem FieldAt.mono {W w : World} (hB : Below W.heap.size W w) {b o : Nat} (hb : b < W.heap.size) (h : FieldAt W b o) : FieldAt w b o := by
  obtain ⟨k, n, m, s, h0, h1, h2, h3, hs⟩ := h
  exact ⟨k, n, m, s, (hB.cell (p := ⟨b, o, none⟩) hb).trans h0, (hB.cell (p := ⟨b, o + 1, none⟩) hb).trans h1, (hB.cell (p := ⟨b, o + 2, none⟩) hb).trans h2, (hB.cell (p := ⟨b, o + 3, none⟩) hb).trans h3, hs⟩
theorem FieldsOk.mono {W w : World} (hB : Below W.heap.size W w) {fb : Option Addr} {fl : Nat} (h : FieldsOk W fb fl) : FieldsOk w fb fl := by
  rcases h with h | ⟨b, o, e, hb, h⟩
  · exact .inl h
  · exact .inr ⟨b, o, e, Nat.lt_of_lt_of_le hb hB.size, fun j hj => (h j hj).mono hB hb⟩
theorem RowAt.mono {W w : World} (hB : Below W.heap.size W w) {b o : Nat} (hb : b < W.heap.size) (h : RowAt W b o) : RowAt w b o := by
  obtain ⟨s, tb, tl, tc, fb, fl, fc, t, h0, h1, h2, h3, hf, hl⟩ := h
  exact ⟨s, tb, tl, tc, fb, fl, fc, t, (hB.cell (p := ⟨b, o, none⟩) hb).trans h0, (hB.cell (p := ⟨b, o + 1, none⟩) hb).trans h1, (hB.cell (p := ⟨b, o + 2, none⟩) hb).trans h2, (hB.cell (p := ⟨b, o + 3, none⟩) hb).trans h3, hf.mono hB, hl⟩
theorem RowsOk.mono {W w : World} (hB : Below W.heap.size W w) {rb : Option Addr} {rl : Nat} (h : RowsOk W rb rl) : RowsOk w rb rl := by
  rcases h with h | ⟨b, o, e, hb, h⟩
  · exact .inl h
  · exact .inr ⟨b, o, e, Nat.lt_of_lt_of_le hb hB.size, fun j hj => (h j hj).mono hB hb⟩
theorem bcell {W w1 : World} (hb : Below W.heap.size W w1) : (∀ b o, b < W.heap.size → w1.cell? ⟨b, o, none⟩ = W.cell? ⟨b, o, none⟩) ∧ (∀ b o, b < W.heap.size → w1.frozen? ⟨b, o, none⟩ = W.frozen? ⟨b, o, none⟩) :=
  ⟨fun b o h => hb.cell (p := ⟨b, o, none⟩) h, fun b o h => hb.frozen (p := ⟨b, o, none⟩) h⟩
theorem alloc_size (w : World) (o : Obj) : (w.alloc o).heap.size = w.heap.size + 1 := by unfold World.alloc; exact Array.size_push ..
theorem cell_box (w : World) (c : Array Value) (t : TypeId) (o : Nat) : (w.alloc (.cells c t)).cell? ⟨w.heap.size, o, none⟩ = c[o]? := by
  unfold World.alloc
  simp [World.cell?]
/-- What lies in the parameter's own block. -/
theorem box_cells {W w : World} {c0 c1 c2 c3 c4 c5 c6 c7 : Value} (h : Below (W.heap.size + 1) (W.alloc (.cells #[c0, c1, c2, c3, c4, c5, c6, c7] 59)) w) :
    w.cell? ⟨W.heap.size, 2, none⟩ = some c2 ∧ w.cell? ⟨W.heap.size, 3, none⟩ = some c3 ∧ w.cell? ⟨W.heap.size, 4, none⟩ = some c4 ∧ w.cell? ⟨W.heap.size, 5, none⟩ = some c5 ∧ w.cell? ⟨W.heap.size, 6, none⟩ = some c6 ∧ w.cell? ⟨W.heap.size, 7, none⟩ = some c7 := by
  have hc : ∀ o, w.cell? ⟨W.heap.size, o, none⟩ = #[c0, c1, c2, c3, c4, c5, c6, c7][o]? := fun o => (h.cell (p := ⟨W.heap.size, o, none⟩) (Nat.lt_succ_self _)).trans (cell_box W _ 59 o)
  exact ⟨hc 2, hc 3, hc 4, hc 5, hc 6, hc 7⟩
theorem box_next {W w w' : World} {o : Obj} (h : Below (W.heap.size + 1) (W.alloc o) w) (hb : Below w.heap.size w w') : Below (W.heap.size + 1) (W.alloc o) w' :=
  h.trans (hb.mono (by have := h.size; rw [alloc_size] at this; exact this))
theorem box_old {W w : World} {o : Obj} (h : Below (W.heap.size + 1) (W.alloc o) w) : Below W.heap.size W w :=
  ((Below.refl _ _).alloc (Nat.le_refl _) _).trans (h.mono (Nat.le_succ _))

set_option maxRecDepth 100000 in
set_option maxHeartbeats 4000000 in
theorem walk_any (W : World) (k n x y : Int) (rb lb bb : Option Addr) (rl rc ll lc bl bc : Nat) (nm : ByteArray) (hrl : rl ≤ maxLen) (hrows : Hid (RowsOk W rb rl)) :
    Calls Tryz.prog 10 #[.agg #[.int .i64 k, .int .i64 n, .slice rb rl rc, .slice lb ll lc, .int .i64 x, .int .i64 y, .string nm, .slice bb bl bc]] W fun e w' => e = .returned (.bool true) ∧ Below W.heap.size W w' := by
  go_enter Tryz.func10, Tryz.ntmps10
  go_wp2_with fail
  go_at_call 12
  refine (awake_any _).mono ?_
  rintro e w1 ⟨rfl, hb⟩
  have H1 : Hid (Below (W.heap.size + 1) (W.alloc (.cells #[.int .i64 k, .int .i64 n, .slice rb rl rc, .slice lb ll lc, .int .i64 x, .int .i64 y, .string nm, .slice bb bl bc] 59)) w1) := (by simpa using hb : Below _ _ _)
  obtain ⟨hc, hf⟩ := bcell hb
  clear hb
  go_wp2_with fail
  clear hc hf
  go_at_call 20
  refine (few_any w1.heap.size _ (by rw [alloc_size]; omega) rb lb bb rl rc ll lc bl bc hrl (cell_box w1 _ 59 2) (cell_box w1 _ 59 3) (cell_box w1 _ 59 7) (RowsOk.mono ((box_old H1).alloc (box_old H1).size _) hrows)).mono ?_
  rintro e w2 ⟨⟨b, rfl⟩, hb⟩
  have H2 : Hid (Below (W.heap.size + 1) (W.alloc (.cells #[.int .i64 k, .int .i64 n, .slice rb rl rc, .slice lb ll lc, .int .i64 x, .int .i64 y, .string nm, .slice bb bl bc] 59)) w2) :=
    (Below.alloc H1 (by have := Below.size H1; rw [alloc_size] at this; exact this) _).trans (hb.mono (by have := Below.size H1; rw [alloc_size] at this ⊢; omega))
  clear H1 hb
  cases b with
  | false =>
    go_wp2_with fail
    go_at_call 12
    refine (awake_any _).mono ?_
    rintro e w3 ⟨rfl, hb⟩
    go_wp2_with fail
    go_ret
    exact ⟨rfl, (box_old H2).trans (hb.mono (box_old H2).size)⟩
  | true =>
    go_wp2_with fail
    go_at_call 34
    refine (open_nil _).mono ?_
    rintro e w3 ⟨rfl, hb⟩
    have H3 : Hid (Below (W.heap.size + 1) (W.alloc (.cells #[.int .i64 k, .int .i64 n, .slice rb rl rc, .slice lb ll lc, .int .i64 x, .int .i64 y, .string nm, .slice bb bl bc] 59)) w3) := box_next H2 hb
    clear H2 hb
    obtain ⟨c2, c3, c4, c5, c6, c7⟩ := box_cells H3
    go_wp2_with fail
    go_at_call 16
    refine (write_nil _ _).mono ?_
    rintro e w4 ⟨rfl, hb⟩
    have H4 : Hid (Below (W.heap.size + 1) (W.alloc (.cells #[.int .i64 k, .int .i64 n, .slice rb rl rc, .slice lb ll lc, .int .i64 x, .int .i64 y, .string nm, .slice bb bl bc] 59)) w4) := box_next H3 hb
    clear H3 hb c2 c3 c4 c5 c6 c7
    obtain ⟨c2, c3, c4, c5, c6, c7⟩ := box_cells H4
    go_wp2_with fail
    go_at_call 17
    refine (flush_nil _).mono ?_
    rintro e w' ⟨rfl, hw⟩
    subst w'
    go_wp2_with fail
    go_at_call 28
    refine (merge_nil _).mono ?_
    rintro e w5 ⟨rfl, hb⟩
    have H5 : Hid (Below (W.heap.size + 1) (W.alloc (.cells #[.int .i64 k, .int .i64 n, .slice rb rl rc, .slice lb ll lc, .int .i64 x, .int .i64 y, .string nm, .slice bb bl bc] 59)) w5) := box_next H4 hb
    clear H4 hb c2 c3 c4 c5 c6 c7
    obtain ⟨c2, c3, c4, c5, c6, c7⟩ := box_cells H5
    go_wp2_with fail
    go_at_call 19
    refine (delete_nil _ _ _ _).mono ?_
    rintro e w' ⟨rfl, hw⟩
    subst w'
    go_wp2_with fail
    go_at_call 37
    refine (drop_nil _ _).mono ?_
    rintro e w' ⟨rfl, hw⟩
    subst w'
    go_wp2_with fail
    go_at_call 38
    refine (note_nil _ _).mono ?_
    rintro e w' ⟨rfl, hw⟩
    subst w'
    go_wp2_with fail
    go_at_call 31
    refine (noted_nil _).mono ?_
    rintro e w' ⟨rfl, hw⟩
    subst w'
    go_wp2_with fail
    go_at_call 18
    refine (columns_nil _).mono ?_
    rintro e w' ⟨rfl, hw⟩
    subst w'
    go_wp2_with fail
    go_at_call 39
    refine (read_nil _ _ _ _ _).mono ?_
    rintro e w6 ⟨rfl, hb⟩
    have H6 : Hid (Below (W.heap.size + 1) (W.alloc (.cells #[.int .i64 k, .int .i64 n, .slice rb rl rc, .slice lb ll lc, .int .i64 x, .int .i64 y, .string nm, .slice bb bl bc] 59)) w6) := box_next H5 hb
    clear H5 hb c2 c3 c4 c5 c6 c7
    obtain ⟨c2, c3, c4, c5, c6, c7⟩ := box_cells H6
    go_wp2_with fail
    go_at_call 35
    refine (files_nil _).mono ?_
    rintro e w' ⟨rfl, hw⟩
    subst w'
    go_wp2_with fail
    go_at_call 36
    refine (waiting_nil _).mono ?_
    rintro e w' ⟨rfl, hw⟩
    subst w'
    go_wp2_with fail
    go_at_call 40
    refine (index_nil _).mono ?_
    rintro e w8 ⟨p, rfl, hb8, hnames⟩
    have hN : Hid (Calls Tryz.prog 41 #[p] w8 fun e w'' => e = .returned (.slice none 0 0) ∧ Below w6.heap.size w6 w'') := hnames
    clear hnames hb8 c2 c3 c4 c5 c6 c7
    go_wp2_with fail
    go_at_call 41
    refine Calls.mono hN ?_
    rintro e w9 ⟨rfl, hb⟩
    go_wp2_with fail
    go_ret
    exact ⟨rfl, (box_old H6).trans (hb.mono (box_old H6).size)⟩
end Go.Proofs.YtabpbpdhapaffaaGreatDoor
