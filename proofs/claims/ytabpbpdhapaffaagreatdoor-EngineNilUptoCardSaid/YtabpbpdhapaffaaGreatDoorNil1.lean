import Derived.Test.YtabpbpdhapaffaaGreatDoorProg
import Derived.WalkKit
import Derived.Deep.LoopGhost
set_option linter.unusedSimpArgs false
set_option linter.unusedVariables false
namespace Go.Proofs.YtabpbpdhapaffaaGreatDoor
open Go.RowKit
/-- A field of a row lies there. -/
def FieldAt (W : World) (b o : Nat) : Prop := ∃ k n m s, W.cell? ⟨b, o, none⟩ = some (.string k) ∧ W.cell? ⟨b, o + 1, none⟩ = some (.int .i64 n) ∧ W.cell? ⟨b, o + 2, none⟩ = some (.int .u64 m) ∧ W.cell? ⟨b, o + 3, none⟩ = some (.string s) ∧ s.size ≤ maxLen
def FieldsOk (W : World) (fb : Option Addr) (fl : Nat) : Prop := fl = 0 ∨ ∃ b o, fb = some ⟨b, o, none⟩ ∧ b < W.heap.size ∧ ∀ j, j < fl → FieldAt W b (o + j * 4)
def RowAt (W : World) (b o : Nat) : Prop := ∃ s tb tl tc fb fl fc t, W.cell? ⟨b, o, none⟩ = some (.string s) ∧ W.cell? ⟨b, o + 1, none⟩ = some (.slice tb tl tc) ∧ W.cell? ⟨b, o + 2, none⟩ = some (.slice fb fl fc) ∧ W.cell? ⟨b, o + 3, none⟩ = some (.int .i64 t) ∧ FieldsOk W fb fl ∧ fl ≤ maxLen
def RowsOk (W : World) (rb : Option Addr) (rl : Nat) : Prop := rl = 0 ∨ ∃ b o, rb = some ⟨b, o, none⟩ ∧ b < W.heap.size ∧ ∀ j, j < rl → RowAt W b (o + j * 4)

set_option maxHeartbeats 1000000 in
theorem few_any (blk : Nat) (W : World) (hblk : blk < W.heap.size) (rb lb bb : Option Addr) (rl rc ll lc bl bc : Nat) (hrl : rl ≤ maxLen)
   (h2 : W.cell? ⟨blk, 2, none⟩ = some (.slice rb rl rc)) (h3 : W.cell? ⟨blk, 3, none⟩ = some (.slice lb ll lc)) (h7 : W.cell? ⟨blk, 7, none⟩ = some (.slice bb bl bc)) (hrows : Hid (RowsOk W rb rl)) :
    Calls Tryz.prog 20 #[.slice (some ⟨blk, 0, none⟩) 1 1] W fun e w' => (∃ b, e = .returned (.bool b)) ∧ Below W.heap.size W w' := by
  unfold maxLen at hrl
  have H2 : Hid (W.cell? ⟨blk, 2, none⟩ = some (.slice rb rl rc)) := h2
  have H3 : Hid (W.cell? ⟨blk, 3, none⟩ = some (.slice lb ll lc)) := h3
  have H7 : Hid (W.cell? ⟨blk, 7, none⟩ = some (.slice bb bl bc)) := h7
  clear h2 h3 h7
  go_enter Tryz.func20, Tryz.ntmps20
  go_wp2
  go_loopg [3, 11] (1 : Nat) (fun k n i wr => (∃ z, n = .int .i64 z) ∧ i = .int .i64 (1 - (k : Int)) ∧ k ≤ 1 ∧ Below W.heap.size W wr)
  case atStart => exact ⟨⟨0, rfl⟩, rfl, Nat.le_refl _, Below.refl _ _⟩
  case round =>
    obtain ⟨⟨z, rfl⟩, rfl, hk, hB⟩ := hrel
    have g2 : wr.cell? ⟨blk, 2, none⟩ = some (.slice rb rl rc) := (hB.cell hblk).trans H2
    have g3 : wr.cell? ⟨blk, 3, none⟩ = some (.slice lb ll lc) := (hB.cell hblk).trans H3
    have g7 : wr.cell? ⟨blk, 7, none⟩ = some (.slice bb bl bc) := (hB.cell hblk).trans H7
    match gk, hk with
    | 0, _ =>
      go_wp2
      go_ret
      exact ⟨⟨_, rfl⟩, hB⟩
    | 1, _ =>
      go_wp2
      all_goals
        go_loopg [3, 29] rl (fun k n i wr => (∃ z, n = .int .i64 z) ∧ (∃ j : Nat, j + k = rl ∧ i = .int .i64 j) ∧ Below W.heap.size W wr)
        case atStart => exact ⟨⟨_, rfl⟩, ⟨0, by omega, rfl⟩, hB⟩
        case round =>
          clear g2 g3 g7
          obtain ⟨⟨z', rfl⟩, ⟨j, hj, rfl⟩, hB'⟩ := hrel
          have g2 : wr.cell? ⟨blk, 2, none⟩ = some (.slice rb rl rc) := (hB'.cell hblk).trans H2
          have g3 : wr.cell? ⟨blk, 3, none⟩ = some (.slice lb ll lc) := (hB'.cell hblk).trans H3
          by_cases hlt : j < rl
          · obtain ⟨k', rfl⟩ : ∃ k', gk = k' + 1 := ⟨gk - 1, by omega⟩
            have hrows' : RowsOk W rb rl := hrows
            clear hrows
            obtain hr0 | ⟨rbk, ro, rfl, hrb, hrow⟩ := hrows'
            · omega
            obtain ⟨s, tb, tl, tc, fb, fl, fc, t, c0, c1, c2, c3, hfs, hfl⟩ := hrow j hlt
            unfold maxLen at hfl
            have c0 := (hB'.cell (p := ⟨rbk, ro + j * 4, none⟩) hrb).trans c0
            have c1 := (hB'.cell (p := ⟨rbk, ro + j * 4 + 1, none⟩) hrb).trans c1
            have c2 := (hB'.cell (p := ⟨rbk, ro + j * 4 + 2, none⟩) hrb).trans c2
            have c3 := (hB'.cell (p := ⟨rbk, ro + j * 4 + 3, none⟩) hrb).trans c3
            have hfs : Hid (FieldsOk W fb fl) := hfs
            clear hrow
            go_wp2
            clear c0 c1 c2 c3 g2 g3
            go_loopg [3, 38] fl (fun k n i wr => (∃ z, n = .int .i64 z) ∧ (∃ j : Nat, j + k = fl ∧ i = .int .i64 j) ∧ Below W.heap.size W wr)
            case atStart => exact ⟨⟨_, rfl⟩, ⟨0, by omega, rfl⟩, hB'.alloc hB'.size _⟩
            case round =>
              obtain ⟨⟨z'', rfl⟩, ⟨i, hi, rfl⟩, hB''⟩ := hrel
              by_cases hlt2 : i < fl
              · obtain ⟨k'', rfl⟩ : ∃ k'', gk = k'' + 1 := ⟨gk - 1, by omega⟩
                have hfs' : FieldsOk W fb fl := hfs
                clear hfs
                obtain hr0 | ⟨fbk, fo, rfl, hfb, hf⟩ := hfs'
                · omega
                obtain ⟨fk, fn, fm, fs, d0, d1, d2, d3, hs⟩ := hf i hlt2
                unfold maxLen at hs
                have d0 := (hB''.cell (p := ⟨fbk, fo + i * 4, none⟩) hfb).trans d0
                have d1 := (hB''.cell (p := ⟨fbk, fo + i * 4 + 1, none⟩) hfb).trans d1
                have d2 := (hB''.cell (p := ⟨fbk, fo + i * 4 + 2, none⟩) hfb).trans d2
                have d3 := (hB''.cell (p := ⟨fbk, fo + i * 4 + 3, none⟩) hfb).trans d3
                clear hf
                go_wp2
                all_goals
                  go_roundg k''
                  case measure => omega
                  case rel =>
                    refine ⟨⟨_, rfl⟩, ⟨i + 1, by omega, ?_⟩, hB''.alloc hB''.size _⟩
                    go_num
              · go_wp2
                · go_ret
                  exact ⟨⟨_, rfl⟩, hB''⟩
                · go_roundg k'
                  case measure => omega
                  case rel =>
                    refine ⟨⟨_, rfl⟩, ⟨j + 1, by omega, ?_⟩, hB''⟩
                    go_num
          · go_wp2
            all_goals first
              | (go_ret; first | exact ⟨⟨_, rfl⟩, hB'⟩ | exact ⟨.inl rfl, hB'⟩ | exact ⟨.inr rfl, hB'⟩)
              | (go_roundg 0
                 case measure => omega
                 case rel => exact ⟨⟨_, rfl⟩, rfl, Nat.zero_le _, hB'⟩)
end Go.Proofs.YtabpbpdhapaffaaGreatDoor
