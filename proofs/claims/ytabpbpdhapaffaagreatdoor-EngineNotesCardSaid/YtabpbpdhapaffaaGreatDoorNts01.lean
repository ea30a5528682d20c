/-
  EngineNotes returns true whatever the notes and what stands between them, part 1: GrA1. Conditions: none but those of the row.
-/
import Derived.RangeFuncLeaves
import Derived.OrdersIn
set_option linter.unusedSimpArgs false
set_option linter.unusedVariables false
section
namespace Go.Vi
section

/-! ### A trie over numbers -/
inductive T (α : Type) : Type where
  | nil
  | node (l : T α) (v : Option α) (r : T α)

namespace T
variable {α : Type}
def get : T α → Nat → Option α
  | nil, _ => none
  | node l v r, n => bif Nat.beq n 0 then v else bif Nat.beq (n % 2) 1 then get l (n / 2) else get r (n / 2 - 1)
def upd : Nat → T α → Nat → Option α → T α
  | 0, t, _, _ => t
  | f + 1, nil, n, v => bif Nat.beq n 0 then node nil v nil else bif Nat.beq (n % 2) 1 then node (upd f nil (n / 2) v) none nil else node nil none (upd f nil (n / 2 - 1) v)
  | f + 1, node l u r, n, v => bif Nat.beq n 0 then node l v r else bif Nat.beq (n % 2) 1 then node (upd f l (n / 2) v) u r else node l u (upd f r (n / 2 - 1) v)
def put (t : T α) (n : Nat) (v : α) : T α := upd (n + 1) t n (some v)
def del (t : T α) (n : Nat) : T α := upd (n + 1) t n none

theorem nbeq {a b : Nat} (h : a ≠ b) : Nat.beq a b = false := by
  cases e : Nat.beq a b with
  | false => rfl
  | true => exact absurd (Nat.eq_of_beq_eq_true e) h
theorem get_node (l : T α) (v : Option α) (r : T α) (n : Nat) : (node l v r).get n = if n = 0 then v else if n % 2 = 1 then l.get (n / 2) else r.get (n / 2 - 1) := by
  rw [get]
  by_cases h0 : n = 0
  · subst h0; rfl
  · have : Nat.beq n 0 = false := nbeq h0
    rw [this, cond_false, if_neg h0]
    by_cases h1 : n % 2 = 1
    · rw [h1]; rfl
    · have : Nat.beq (n % 2) 1 = false := nbeq h1
      rw [this, cond_false, if_neg h1]
theorem get_upd : ∀ (f : Nat) (t : T α) (n : Nat) (v : Option α) (m : Nat), n < f → (upd f t n v).get m = if m = n then v else t.get m
  | 0, _, _, _, _, h => absurd h (Nat.not_lt_zero _)
  | f + 1, t, n, v, m, h => by
    by_cases h0 : n = 0
    · subst h0
      cases t with
      | nil =>
        have : upd (f + 1) (nil : T α) 0 v = node nil v nil := rfl
        rw [this, get_node]
        by_cases hm : m = 0
        · simp [hm]
        · rw [if_neg hm, if_neg hm]; split <;> rfl
      | node l u r =>
        have : upd (f + 1) (node l u r) 0 v = node l v r := rfl
        rw [this, get_node, get_node]
        by_cases hm : m = 0
        · simp [hm]
        · simp [hm]
    · have b0 : Nat.beq n 0 = false := nbeq h0
      by_cases h1 : n % 2 = 1
      · have b1 : Nat.beq (n % 2) 1 = true := by rw [h1]; rfl
        have ih := fun t => get_upd f t (n / 2) v (m / 2) (by omega)
        cases t with
        | nil =>
          have : upd (f + 1) (nil : T α) n v = node (upd f nil (n / 2) v) none nil := by rw [upd, b0, b1]; rfl
          rw [this, get_node]
          by_cases hm : m = 0
          · subst hm; rw [if_pos rfl, if_neg (Ne.symm h0)]; rfl
          · rw [if_neg hm]
            by_cases hm1 : m % 2 = 1
            · rw [if_pos hm1, ih]
              by_cases e : m = n
              · subst e; simp
              · rw [if_neg e, if_neg (by omega)]; rfl
            · rw [if_neg hm1, if_neg (by intro e; exact hm1 (e ▸ h1))]; rfl
        | node l u r =>
          have : upd (f + 1) (node l u r) n v = node (upd f l (n / 2) v) u r := by rw [upd, b0, b1]; rfl
          rw [this, get_node, get_node]
          by_cases hm : m = 0
          · subst hm; rw [if_pos rfl, if_pos rfl, if_neg (Ne.symm h0)]
          · rw [if_neg hm, if_neg hm]
            by_cases hm1 : m % 2 = 1
            · rw [if_pos hm1, if_pos hm1, ih]
              by_cases e : m = n
              · subst e; simp
              · rw [if_neg e, if_neg (by omega)]
            · rw [if_neg hm1, if_neg hm1, if_neg (by intro e; exact hm1 (e ▸ h1))]
      · have b1 : Nat.beq (n % 2) 1 = false := nbeq h1
        have ih := fun t => get_upd f t (n / 2 - 1) v (m / 2 - 1) (by omega)
        cases t with
        | nil =>
          have : upd (f + 1) (nil : T α) n v = node nil none (upd f nil (n / 2 - 1) v) := by rw [upd, b0, b1]; rfl
          rw [this, get_node]
          by_cases hm : m = 0
          · subst hm; rw [if_pos rfl, if_neg (Ne.symm h0)]; rfl
          · rw [if_neg hm]
            by_cases hm1 : m % 2 = 1
            · rw [if_pos hm1, if_neg (by intro e; exact h1 (e ▸ hm1))]; rfl
            · rw [if_neg hm1, ih]
              by_cases e : m = n
              · subst e; simp
              · rw [if_neg e, if_neg (by omega)]; rfl
        | node l u r =>
          have : upd (f + 1) (node l u r) n v = node l u (upd f r (n / 2 - 1) v) := by rw [upd, b0, b1]; rfl
          rw [this, get_node, get_node]
          by_cases hm : m = 0
          · subst hm; rw [if_pos rfl, if_pos rfl, if_neg (Ne.symm h0)]
          · rw [if_neg hm, if_neg hm]
            by_cases hm1 : m % 2 = 1
            · rw [if_pos hm1, if_pos hm1, if_neg (by intro e; exact h1 (e ▸ hm1))]
            · rw [if_neg hm1, if_neg hm1, ih]
              by_cases e : m = n
              · subst e; simp
              · rw [if_neg e, if_neg (by omega)]
theorem get_put (t : T α) (n : Nat) (v : α) (m : Nat) : (t.put n v).get m = if m = n then some v else t.get m := get_upd _ _ _ _ _ (Nat.lt_succ_self _)
theorem get_del (t : T α) (n m : Nat) : (t.del n).get m = if m = n then none else t.get m := get_upd _ _ _ _ _ (Nat.lt_succ_self _)
theorem get_put_same (t : T α) (n : Nat) (v : α) : (t.put n v).get n = some v := by rw [get_put, if_pos rfl]
theorem get_put_ne (t : T α) {n m : Nat} (v : α) (h : m ≠ n) : (t.put n v).get m = t.get m := by rw [get_put, if_neg h]
end T

/-! ### Names of blocks, and values that differ in them and in open capacities -/
/-- Which block a name stands for; and, of a block, how many elements its row has room for. -/
structure Ren where
  f : Nat → Option Nat
  k : Nat → Nat
instance : CoeFun Ren (fun _ => Nat → Option Nat) := ⟨Ren.f⟩
def Ren.le (φ ψ : Ren) : Prop := (∀ i b, φ i = some b → ψ i = some b) ∧ ∀ i b, φ i = some b → ψ.k b = φ.k b
theorem Ren.le_refl (φ : Ren) : φ.le φ := ⟨fun _ _ h => h, fun _ _ _ => rfl⟩
theorem Ren.le_trans {φ ψ χ : Ren} (h : φ.le ψ) (k : ψ.le χ) : φ.le χ := ⟨fun i b e => k.1 i b (h.1 i b e), fun i b e => (k.2 i b (h.1 i b e)).trans (h.2 i b e)⟩
def Ren.set (φ : Ren) (i b n : Nat) : Ren := ⟨fun j => if j = i then some b else φ j, fun c => if c = b then n else φ.k c⟩
theorem Ren.set_same (φ : Ren) (i b n : Nat) : (φ.set i b n) i = some b := if_pos rfl
theorem Ren.set_ne (φ : Ren) {i j : Nat} (b n : Nat) (h : j ≠ i) : (φ.set i b n) j = φ j := if_neg h
theorem Ren.set_k (φ : Ren) (i b n : Nat) : (φ.set i b n).k b = n := if_pos rfl
theorem Ren.set_k_ne (φ : Ren) (i n : Nat) {b c : Nat} (h : c ≠ b) : (φ.set i b n).k c = φ.k c := if_neg h
theorem Ren.le_set {φ : Ren} {i b n : Nat} (h : φ i = none) (hn : (∀ j, φ j ≠ some b) ∨ n = φ.k b) : φ.le (φ.set i b n) := by
  refine ⟨fun j c e => ?_, fun j c e => ?_⟩
  · by_cases hj : j = i
    · subst hj; rw [h] at e; cases e
    · rw [Ren.set_ne _ _ _ hj]; exact e
  · by_cases hc : c = b
    · subst hc
      rw [Ren.set_k]
      rcases hn with hn | hn
      · exact absurd e (hn j)
      · exact hn
    · rw [Ren.set_k_ne _ _ _ hc]

/-- Capacities: an even number: half of it; an odd one: half of it at least. -/
def capOk (c c' : Nat) : Prop := (c % 2 = 0 ∧ c' = c / 2) ∨ (c % 2 = 1 ∧ c / 2 ≤ c')
/-- The place of an empty slice where it is not known: 'x[len(x):]' of an open capacity. -/
def nowhere : Addr := ⟨0, 0, some 0⟩

def oneCell : Value → Bool
  | .agg _ | .tuple _ => false
  | _ => true
/-- What may stand for anything: one cell, and no bool. -/
def topOk : Value → Bool
  | .agg _ | .tuple _ | .bool _ => false
  | _ => true
theorem topOk_one {v : Value} (h : topOk v = true) : oneCell v = true := by cases v <;> first | rfl | cases h
inductive FnR (φ : Ren) : Fn → Fn → Prop
  | func (f : FuncId) : FnR φ (.func f) (.func f)
  | yield {l b : Nat} (h : φ l = some b) : FnR φ (.yield l) (.yield b)

inductive VR (φ : Ren) : Value → Value → Prop
  | bool (b : Bool) : VR φ (.bool b) (.bool b)
  | int (k : IntKind) (n : Int) : VR φ (.int k n) (.int k n)
  | float (k : FloatKind) (b : Nat) : VR φ (.float k b) (.float k b)
  | complex (k : FloatKind) (a b : Nat) : VR φ (.complex k a b) (.complex k a b)
  | string (s : ByteArray) : VR φ (.string s) (.string s)
  | ptrNil : VR φ (.pointer none) (.pointer none)
  | ptr {r o b : Nat} (h : φ r = some b) : VR φ (.pointer (some ⟨r, o, none⟩)) (.pointer (some ⟨b, o, none⟩))
  | sliceNil : VR φ (.slice none 0 0) (.slice none 0 0)
  | slice {r o b : Nat} (l : Nat) {c c' : Nat} (h : φ r = some b) (hc : capOk c c') (hk : o = 0 → c % 2 = 1 → c' = φ.k b) : VR φ (.slice (some ⟨r, o, none⟩) l c) (.slice (some ⟨b, o, none⟩) l c')
  | sliceDead {c c' : Nat} (a : Addr) (hc : capOk c c') : VR φ (.slice (some nowhere) 0 c) (.slice (some a) 0 c')
  | mapNil : VR φ (.map none) (.map none)
  | map {r b : Nat} (h : φ r = some b) : VR φ (.map (some r)) (.map (some b))
  | chanNil : VR φ (.chan none) (.chan none)
  | top {v : Value} (h : topOk v = true) : VR φ (.chan (some 0)) v
  | nilFunc : VR φ .nilFunc .nilFunc
  | func {f f' : Fn} {x y x' y' : Array Value} (hf : FnR φ f f') (hx : x.size = x'.size) (hx' : ∀ (i : Nat) (h : i < x.size) (h' : i < x'.size), VR φ x[i] x'[i])
      (hy : y.size = y'.size) (hy' : ∀ (i : Nat) (h : i < y.size) (h' : i < y'.size), VR φ y[i] y'[i]) : VR φ (.func f x y) (.func f' x' y')
  | nilIface : VR φ .nilIface .nilIface
  | iface (t : TypeId) {v v' : Value} (h : VR φ v v') : VR φ (.iface t v) (.iface t v')
  | agg {x x' : Array Value} (hx : x.size = x'.size) (hx' : ∀ (i : Nat) (h : i < x.size) (h' : i < x'.size), VR φ x[i] x'[i]) : VR φ (.agg x) (.agg x')
  | tuple {x x' : Array Value} (hx : x.size = x'.size) (hx' : ∀ (i : Nat) (h : i < x.size) (h' : i < x'.size), VR φ x[i] x'[i]) : VR φ (.tuple x) (.tuple x')

theorem FnR.mono {φ ψ : Ren} (h : φ.le ψ) {f f' : Fn} (k : FnR φ f f') : FnR ψ f f' := by
  cases k with
  | func f => exact .func f
  | yield e => exact .yield (h.1 _ _ e)
theorem VR.mono {φ ψ : Ren} (h : φ.le ψ) {v v' : Value} (k : VR φ v v') : VR ψ v v' := by
  induction k with
  | bool b => exact .bool b
  | int k n => exact .int k n
  | float k b => exact .float k b
  | complex k a b => exact .complex k a b
  | string s => exact .string s
  | ptrNil => exact .ptrNil
  | ptr e => exact .ptr (h.1 _ _ e)
  | sliceNil => exact .sliceNil
  | slice l e hc hk => exact .slice l (h.1 _ _ e) hc (fun h1 h2 => (hk h1 h2).trans (h.2 _ _ e).symm)
  | sliceDead a hc => exact .sliceDead a hc
  | mapNil => exact .mapNil
  | map e => exact .map (h.1 _ _ e)
  | chanNil => exact .chanNil
  | top e => exact .top e
  | nilFunc => exact .nilFunc
  | func hf hx _ hy _ i1 i2 => exact .func (hf.mono h) hx i1 hy i2
  | nilIface => exact .nilIface
  | iface t _ ih => exact .iface t ih
  | agg hx _ ih => exact .agg hx ih
  | tuple hx _ ih => exact .tuple hx ih

theorem VR.undef (φ : Ren) : VR φ Go.undef Go.undef := .tuple rfl (fun _ h => absurd h (Nat.not_lt_zero _))

/-- Rows of values, place by place. -/
def LR (φ : Ren) (x y : List Value) : Prop := x.length = y.length ∧ ∀ (i : Nat) (v : Value), x[i]? = some v → ∃ v', y[i]? = some v' ∧ VR φ v v'
def AR (φ : Ren) (x y : Array Value) : Prop := LR φ x.toList y.toList
theorem LR.mono {φ ψ : Ren} (h : φ.le ψ) {x y : List Value} (k : LR φ x y) : LR ψ x y := ⟨k.1, fun i v e => let ⟨v', e', r⟩ := k.2 i v e; ⟨v', e', r.mono h⟩⟩
theorem AR.mono {φ ψ : Ren} (h : φ.le ψ) {x y : Array Value} (k : AR φ x y) : AR ψ x y := LR.mono h k
theorem LR.nil (φ : Ren) : LR φ [] [] := ⟨rfl, fun _ _ e => by simp at e⟩
theorem LR.cons {φ : Ren} {v v' : Value} {x y : List Value} (h : VR φ v v') (k : LR φ x y) : LR φ (v :: x) (v' :: y) :=
  ⟨by simp [k.1], fun i u e => by
    cases i with
    | zero => simp at e; exact ⟨v', by simp, e ▸ h⟩
    | succ i => simp at e; obtain ⟨u', e', r⟩ := k.2 i u e; exact ⟨u', by simpa using e', r⟩⟩
theorem LR.nil_inv {φ : Ren} {y : List Value} (h : LR φ [] y) : y = [] := List.length_eq_zero_iff.1 h.1.symm
theorem LR.cons_inv {φ : Ren} {v : Value} {x y : List Value} (h : LR φ (v :: x) y) : ∃ v' y', y = v' :: y' ∧ VR φ v v' ∧ LR φ x y' := by
  cases y with
  | nil => exact absurd h.1 (by simp)
  | cons v' y' =>
    refine ⟨v', y', rfl, ?_, by simpa using h.1, fun i u e => ?_⟩
    · obtain ⟨u, e, r⟩ := h.2 0 v (by simp)
      simp at e; exact e ▸ r
    · obtain ⟨u', e', r⟩ := h.2 (i + 1) u (by simpa using e)
      exact ⟨u', by simpa using e', r⟩
theorem LR.append {φ : Ren} {x y x' y' : List Value} (h : LR φ x x') (k : LR φ y y') : LR φ (x ++ y) (x' ++ y') := by
  induction x generalizing x' with
  | nil => rw [h.nil_inv]; exact k
  | cons v x ih =>
    obtain ⟨v', z, rfl, hv, hz⟩ := h.cons_inv
    exact LR.cons hv (ih hz)
theorem LR.take {φ : Ren} (n : Nat) {x y : List Value} (h : LR φ x y) : LR φ (x.take n) (y.take n) :=
  ⟨by simp [h.1], fun i v e => by
    rw [List.getElem?_take] at e ⊢
    by_cases hi : i < n
    · rw [if_pos hi] at e ⊢; exact h.2 i v e
    · rw [if_neg hi] at e; cases e⟩
theorem LR.drop {φ : Ren} (n : Nat) {x y : List Value} (h : LR φ x y) : LR φ (x.drop n) (y.drop n) :=
  ⟨by simp [h.1], fun i v e => by rw [List.getElem?_drop] at e ⊢; exact h.2 _ v e⟩
theorem LR.set {φ : Ren} {x y : List Value} (h : LR φ x y) (n : Nat) {v v' : Value} (hv : VR φ v v') : LR φ (x.set n v) (y.set n v') :=
  ⟨by simp [h.1], fun i u e => by
    rw [List.getElem?_set] at e ⊢
    by_cases hi : n = i
    · subst hi
      rw [if_pos rfl] at e ⊢
      by_cases hl : n < x.length
      · rw [if_pos hl] at e; rw [if_pos (h.1 ▸ hl)]; exact ⟨v', rfl, by cases e; exact hv⟩
      · rw [if_neg hl] at e; cases e
    · rw [if_neg hi] at e ⊢; exact h.2 i u e⟩
theorem LR.of_get {φ : Ren} {x x' : Array Value} (hx : x.size = x'.size) (hx' : ∀ (i : Nat) (h : i < x.size) (h' : i < x'.size), VR φ x[i] x'[i]) : AR φ x x' :=
  ⟨by simpa using hx, fun i v e => by
    have hi : i < x.toList.length := (List.getElem?_eq_some_iff.1 e).1
    have hi1 : i < x.size := by simpa using hi
    have hi2 : i < x'.size := hx ▸ hi1
    refine ⟨x'[i], by simp [hi2], ?_⟩
    have : v = x[i] := by have := (List.getElem?_eq_some_iff.1 e).2; simpa using this.symm
    exact this ▸ hx' i hi1 hi2⟩
theorem AR.size {φ : Ren} {x x' : Array Value} (h : AR φ x x') : x.size = x'.size := by simpa using h.1
theorem AR.get {φ : Ren} {x x' : Array Value} (h : AR φ x x') (i : Nat) (h1 : i < x.size) (h2 : i < x'.size) : VR φ x[i] x'[i] := by
  obtain ⟨v', e, r⟩ := h.2 i x[i] (by simp [h1])
  simp [h2] at e
  exact e ▸ r
theorem AR.get? {φ : Ren} {x x' : Array Value} (h : AR φ x x') {i : Nat} {v : Value} (e : x[i]? = some v) : ∃ v', x'[i]? = some v' ∧ VR φ v v' := by
  obtain ⟨v', e', r⟩ := h.2 i v (by simpa using e)
  exact ⟨v', by simpa using e', r⟩
theorem AR.mk {φ : Ren} {x x' : List Value} (h : LR φ x x') : AR φ x.toArray x'.toArray := by unfold AR; simpa using h
theorem VR.agg' {φ : Ren} {x x' : Array Value} (h : AR φ x x') : VR φ (.agg x) (.agg x') := .agg h.size (fun i h1 h2 => h.get i h1 h2)
theorem VR.tuple' {φ : Ren} {x x' : Array Value} (h : AR φ x x') : VR φ (.tuple x) (.tuple x') := .tuple h.size (fun i h1 h2 => h.get i h1 h2)
theorem VR.func' {φ : Ren} {f f' : Fn} {x y x' y' : Array Value} (hf : FnR φ f f') (h : AR φ x x') (k : AR φ y y') : VR φ (.func f x y) (.func f' x' y') :=
  .func hf h.size (fun i h1 h2 => h.get i h1 h2) k.size (fun i h1 h2 => k.get i h1 h2)

/-- Values without names of blocks. -/
def bare : Nat → Value → Bool
  | _, .bool _ | _, .int _ _ | _, .float _ _ | _, .complex _ _ _ | _, .string _ | _, .pointer none | _, .slice none 0 0 | _, .map none | _, .chan none | _, .nilFunc | _, .nilIface => true
  | n + 1, .iface _ v => bare n v
  | n + 1, .agg x | n + 1, .tuple x => x.toList.all (bare n)
  | n + 1, .func (.func _) x y => x.toList.all (bare n) && y.toList.all (bare n)
  | _, _ => false
theorem LR.refl_of {φ : Ren} {x : List Value} (h : ∀ v ∈ x, VR φ v v) : LR φ x x := ⟨rfl, fun _ v e => ⟨v, e, h v (List.mem_of_getElem? e)⟩⟩
theorem bare_spec {φ : Ren} : ∀ (n : Nat) (v : Value), bare n v = true → VR φ v v := by
  intro n
  induction n with
  | zero =>
    intro v h
    cases v with
    | bool b => exact .bool b
    | int k n => exact .int k n
    | float k b => exact .float k b
    | complex k a b => exact .complex k a b
    | string s => exact .string s
    | pointer a => cases a with | none => exact .ptrNil | some a => simp [bare] at h
    | slice a l c => cases a with | none => (cases l <;> cases c <;> first | exact .sliceNil | simp [bare] at h) | some a => simp [bare] at h
    | map r => cases r with | none => exact .mapNil | some a => simp [bare] at h
    | chan r => cases r with | none => exact .chanNil | some a => simp [bare] at h
    | nilFunc => exact .nilFunc
    | nilIface => exact .nilIface
    | func f x y => simp [bare] at h
    | iface t v => simp [bare] at h
    | agg x => simp [bare] at h
    | tuple x => simp [bare] at h
  | succ n ih =>
    intro v h
    cases v with
    | bool b => exact .bool b
    | int k n => exact .int k n
    | float k b => exact .float k b
    | complex k a b => exact .complex k a b
    | string s => exact .string s
    | pointer a => cases a with | none => exact .ptrNil | some a => simp [bare] at h
    | slice a l c => cases a with | none => (cases l <;> cases c <;> first | exact .sliceNil | simp [bare] at h) | some a => simp [bare] at h
    | map r => cases r with | none => exact .mapNil | some a => simp [bare] at h
    | chan r => cases r with | none => exact .chanNil | some a => simp [bare] at h
    | nilFunc => exact .nilFunc
    | nilIface => exact .nilIface
    | func f x y =>
      cases f <;> simp only [bare, Bool.false_eq_true] at h
      rw [Bool.and_eq_true, List.all_eq_true, List.all_eq_true] at h
      exact VR.func' (.func _) (LR.refl_of fun v hv => ih v (h.1 v hv)) (LR.refl_of fun v hv => ih v (h.2 v hv))
    | iface t v => exact .iface t (ih v (by simpa [bare] using h))
    | agg x =>
      simp only [bare, List.all_eq_true] at h
      exact VR.agg' (LR.refl_of fun v hv => ih v (h v hv))
    | tuple x =>
      simp only [bare, List.all_eq_true] at h
      exact VR.tuple' (LR.refl_of fun v hv => ih v (h v hv))

/-! ### The heap -/
/-- How a row of cells may be used: 'own': written, its block of just this size and never frozen; 'open_ s': written, its block perhaps longer (so many elements of 's' cells), never frozen; 'mark s': written, perhaps longer, perhaps marked as a string's bytes (where s is 0 nothing is said of its length); 'ro': read alone. -/
inductive Fl | own | open_ (s : Nat) | mark (s : Nat) | ro
  deriving DecidableEq
def Fl.wr : Fl → Bool | .ro => false | _ => true
/-- The cells of an element, where the row may be longer than what is known of it. -/
def Fl.sz : Fl → Nat | .open_ s => s | .mark s => s | _ => 0

inductive AObj : Type where
  | cells (fl : Fl) (c : List Value) (e : TypeId)
  | map (es : List MapEntry) (clock : Nat)
  | sIter (s : ByteArray) (pos : Nat)
  | mIter (m : Option Nat) (since : Nat) (seen : List Nat) (stepped : Nat)
  | loop (st : LoopState) (pend : Option Code) (tm : T Value) (n : Nat) (params : Array Tmp) (assign body : Code) (defers : Nat)
  | dfr (on : Bool)
def AObj.wr : AObj → Bool
  | .cells fl _ _ => fl.wr
  | _ => true

structure AHeap : Type where
  next : Nat
  gl : Nat
  objs : T AObj

/-- Slots: what a trie says of each is so of the array. -/
def TR (φ : Ren) (tm : T Value) (tmps : Array Value) : Prop := ∀ t, VR φ ((tm.get t).getD Go.undef) (tmps.getD t Go.undef)
theorem TR.mono {φ ψ : Ren} (h : φ.le ψ) {tm : T Value} {tmps : Array Value} (k : TR φ tm tmps) : TR ψ tm tmps := fun t => (k t).mono h

def ER (φ : Ren) (x y : List MapEntry) : Prop := x.length = y.length ∧ ∀ (i : Nat) (e : MapEntry), x[i]? = some e → ∃ e', y[i]? = some e' ∧ VR φ e.key e'.key ∧ VR φ e.val e'.val ∧ e.born = e'.born
theorem ER.mono {φ ψ : Ren} (h : φ.le ψ) {x y : List MapEntry} (k : ER φ x y) : ER ψ x y :=
  ⟨k.1, fun i v e => let ⟨v', e', r1, r2, r3⟩ := k.2 i v e; ⟨v', e', r1.mono h, r2.mono h, r3⟩⟩

inductive OR (φ : Ren) : AObj → Obj → Prop
  | own {c : List Value} {c' : Array Value} (e : TypeId) (h : LR φ c c'.toList) : OR φ (.cells .own c e) (.cells c' e (0, 0))
  | open_ (s : Nat) {c : List Value} {c' : Array Value} (e : TypeId) (h : LR φ c (c'.toList.take c.length)) : OR φ (.cells (.open_ s) c e) (.cells c' e (0, 0))
  | mark (s : Nat) {c : List Value} {c' : Array Value} (e : TypeId) (fr : Nat × Nat) (hfr : fr = (0, 0) ∨ fr = (c'.size, c'.size + 1)) (h : LR φ c (c'.toList.take c.length)) : OR φ (.cells (.mark s) c e) (.cells c' e fr)
  | ro {c : List Value} {c' : Array Value} (e : TypeId) (fr : Nat × Nat) (h : LR φ c (c'.toList.take c.length)) : OR φ (.cells .ro c e) (.cells c' e fr)
  | map {es : List MapEntry} {es' : Array MapEntry} (clock : Nat) (h : ER φ es es'.toList) : OR φ (.map es clock) (.map es' clock)
  | sIter (s : ByteArray) (pos : Nat) : OR φ (.sIter s pos) (.stringIter s pos)
  | mIterN (since : Nat) (seen : List Nat) (stepped : Nat) : OR φ (.mIter none since seen stepped) (.mapIter none since seen.toArray stepped)
  | mIter {m b : Nat} (since : Nat) (seen : List Nat) (stepped : Nat) (h : φ m = some b) : OR φ (.mIter (some m) since seen stepped) (.mapIter (some b) since seen.toArray stepped)
  | loop {st : LoopState} {pend : Option Code} {fn : FuncId} {tm : T Value} {tmps : Array Value} {params : Array Tmp} {assign body : Code} {d b : Nat} (h : TR φ tm tmps) (hd : φ d = some b) :
      OR φ (.loop st pend tm tmps.size params assign body d) (.loop ⟨st, pend, fn, tmps, params, assign, body, b⟩)
  | dfrOn : OR φ (.dfr true) (.deferred (some []))
  | dfrOff : OR φ (.dfr false) (.deferred none)
theorem OR.mono {φ ψ : Ren} (h : φ.le ψ) {o : AObj} {o' : Obj} (k : OR φ o o') : OR ψ o o' := by
  cases k with
  | own e k => exact .own e (k.mono h)
  | open_ s e k => exact .open_ s e (k.mono h)
  | mark s e fr hfr k => exact .mark s e fr hfr (k.mono h)
  | ro e fr k => exact .ro e fr (k.mono h)
  | map c k => exact .map c (k.mono h)
  | sIter s p => exact .sIter s p
  | mIterN a b c => exact .mIterN a b c
  | mIter a b c k => exact .mIter a b c (h.1 _ _ k)
  | loop k kd => exact .loop (k.mono h) (h.1 _ _ kd)
  | dfrOn => exact .dfrOn
  | dfrOff => exact .dfrOff

/-- The heap 'H', its names read by 'φ', lies in the world 'w'. -/
structure HR (φ : Ren) (H : AHeap) (w : World) : Prop where
  dom : ∀ i o, H.objs.get i = some o → ∃ b o', φ i = some b ∧ w.heap[b]? = some o' ∧ OR φ o o'
  inj : ∀ i j o o' b, H.objs.get i = some o → H.objs.get j = some o' → φ i = some b → φ j = some b → o.wr = true → i = j
  glob : ∀ i, i < H.gl → φ i = some i
  rng : ∀ i b, φ i = some b → b < w.heap.size
  caps : ∀ i fl c e b c' fr, H.objs.get i = some (.cells fl c e) → φ i = some b → w.heap[b]? = some (.cells c' e fr) → fl.sz ≠ 0 → c'.size = φ.k b * fl.sz
def Fresh (φ : Ren) (H : AHeap) : Prop := ∀ i, H.next ≤ i → φ i = none
theorem HR.lt {φ : Ren} {H : AHeap} {w : World} (h : HR φ H w) (hf : Fresh φ H) {i : Nat} {o : AObj} (e : H.objs.get i = some o) : i < H.next := by
  obtain ⟨b, o', h1, _⟩ := h.dom i o e
  rcases Nat.lt_or_ge i H.next with h' | h'
  · exact h'
  · rw [hf i h'] at h1; cases h1
theorem HR.out {φ : Ren} {H : AHeap} {w : World} (h : HR φ H w) (hf : Fresh φ H) {i : Nat} (hi : H.next ≤ i) : H.objs.get i = Option.none := by
  cases e : H.objs.get i with
  | none => rfl
  | some o => exact absurd (h.lt hf e) (by omega)
theorem HR.mono {φ ψ : Ren} {H : AHeap} {w : World} (hle : φ.le ψ) (hrng : ∀ i b, ψ i = some b → b < w.heap.size) (h : HR φ H w) : HR ψ H w where
  dom := fun i o e => let ⟨b, o', h1, h2, h3⟩ := h.dom i o e; ⟨b, o', hle.1 _ _ h1, h2, h3.mono hle⟩
  inj := fun i j o o' b hi hj ei ej ho => by
    obtain ⟨bi, _, h1, _⟩ := h.dom i o hi
    obtain ⟨bj, _, h2, _⟩ := h.dom j o' hj
    have e1 := hle.1 _ _ h1
    have e2 := hle.1 _ _ h2
    rw [ei] at e1; rw [ej] at e2
    cases e1; cases e2
    exact h.inj i j o o' _ hi hj h1 h2 ho
  glob := fun i hi => hle.1 _ _ (h.glob i hi)
  rng := hrng
  caps := fun i fl c e b c' fr hi hb hw hs => by
    obtain ⟨b', _, h1, _⟩ := h.dom i _ hi
    have e1 := hle.1 _ _ h1
    rw [hb] at e1; cases e1
    rw [hle.2 _ _ h1]
    exact h.caps i fl c e b c' fr hi h1 hw hs

/-- The blocks that may be written. -/
def Owns (φ : Ren) (H : AHeap) (b : Nat) : Prop := ∃ i o, H.objs.get i = some o ∧ o.wr = true ∧ φ i = some b
/-- From one state to a later one. -/
structure Goes (φ : Ren) (H : AHeap) (w : World) (ψ : Ren) (K : AHeap) (v : World) : Prop where
  ren : φ.le ψ
  size : w.heap.size ≤ v.heap.size
  keep : ∀ b, b < w.heap.size → ¬ Owns φ H b → v.heap[b]? = w.heap[b]?
  owns : ∀ b, Owns ψ K b → Owns φ H b ∨ w.heap.size ≤ b
  os : v.os = w.os
  tape : v.tape = w.tape
  output : v.output = w.output
  news : ∀ i b, ψ i = some b → (∃ j, φ j = some b) ∨ w.heap.size ≤ b
theorem Goes.refl (φ : Ren) (H : AHeap) (w : World) : Goes φ H w φ H w := ⟨Ren.le_refl _, Nat.le_refl _, fun _ _ _ => rfl, fun _ h => .inl h, rfl, rfl, rfl, fun i _ h => .inl ⟨i, h⟩⟩
theorem Goes.trans {φ ψ χ : Ren} {H K L : AHeap} {w v u : World} (h : Goes φ H w ψ K v) (k : Goes ψ K v χ L u) : Goes φ H w χ L u where
  ren := Ren.le_trans h.ren k.ren
  size := Nat.le_trans h.size k.size
  keep := fun b hb hn => by
    rw [k.keep b (Nat.lt_of_lt_of_le hb h.size) (fun ho => (h.owns b ho).elim hn (by omega)), h.keep b hb hn]
  owns := fun b hb => (k.owns b hb).elim (h.owns b) (fun hv => .inr (Nat.le_trans h.size hv))
  os := k.os.trans h.os
  tape := k.tape.trans h.tape
  output := k.output.trans h.output
  news := fun i b e => (k.news i b e).elim (fun ⟨j, hj⟩ => h.news j b hj) (fun hv => .inr (Nat.le_trans h.size hv))

end
end Go.Vi
end
