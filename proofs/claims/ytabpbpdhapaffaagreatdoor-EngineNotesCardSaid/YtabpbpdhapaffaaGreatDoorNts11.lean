/-
  EngineNotes returns true whatever the notes and what stands between them, part 11: GrD5, GrD6, GrD7, GrE1, GrE2, GrE3, GrE4. Conditions: none but those of the row.
-/
import Derived.Test.YtabpbpdhapaffaaGreatDoorNts10
set_option linter.unusedSimpArgs false
set_option linter.unusedVariables false
section
namespace Go.Vi
section
variable {P : Program} {m n : Nat} {w v : World} {φ ψ χ : Ren} {H K L : AHeap} {S S' T' : St} {ρ : Nat → Option Nat}

/-- From one described world to another: names below 'm' stay, what isn't owned stays. -/
structure Went (m : Nat) (φ : Ren) (H : AHeap) (w : World) (ψ : Ren) (K : AHeap) (v : World) : Prop where
  low : ∀ i b, i < m → φ i = some b → ψ i = some b
  cap : ∀ i b, i < m → φ i = some b → ψ.k b = φ.k b
  size : w.heap.size ≤ v.heap.size
  keep : ∀ b, b < w.heap.size → ¬ Owns φ H b → v.heap[b]? = w.heap[b]?
  owns : ∀ b, Owns ψ K b → Owns φ H b ∨ w.heap.size ≤ b
  os : v.os = w.os
  tape : v.tape = w.tape
  output : v.output = w.output
  news : ∀ i b, ψ i = some b → (∃ j, φ j = some b) ∨ w.heap.size ≤ b
theorem Went.of_goes (h : Goes φ H w ψ K v) : Went m φ H w ψ K v where
  low := fun i b _ e => h.ren.1 i b e
  cap := fun i b _ e => h.ren.2 i b e
  size := h.size
  keep := h.keep
  owns := h.owns
  os := h.os
  tape := h.tape
  output := h.output
  news := h.news
theorem Went.goes (h : Went m φ H w ψ K v) (hf : Fresh φ H) (hm : H.next ≤ m) : Goes φ H w ψ K v where
  ren := ⟨fun i b e => h.low i b (by
      rcases Nat.lt_or_ge i m with h1 | h1
      · exact h1
      · rw [hf i (Nat.le_trans hm h1)] at e; cases e) e, fun i b e => h.cap i b (by
      rcases Nat.lt_or_ge i m with h1 | h1
      · exact h1
      · rw [hf i (Nat.le_trans hm h1)] at e; cases e) e⟩
  size := h.size
  keep := h.keep
  owns := h.owns
  os := h.os
  tape := h.tape
  output := h.output
  news := h.news
theorem Went.trans {u : World} (h : Went m φ H w ψ K v) (k : Went m ψ K v χ L u) : Went m φ H w χ L u where
  low := fun i b hi e => k.low i b hi (h.low i b hi e)
  cap := fun i b hi e => (k.cap i b hi (h.low i b hi e)).trans (h.cap i b hi e)
  size := Nat.le_trans h.size k.size
  keep := fun b hb hn => by
    rw [k.keep b (Nat.lt_of_lt_of_le hb h.size) (fun ho => (h.owns b ho).elim hn (by omega)), h.keep b hb hn]
  owns := fun b hb => (k.owns b hb).elim (h.owns b) (fun hv => .inr (Nat.le_trans h.size hv))
  os := k.os.trans h.os
  tape := k.tape.trans h.tape
  output := k.output.trans h.output
  news := fun i b e => (k.news i b e).elim (fun ⟨j, hj⟩ => h.news j b hj) (fun hv => .inr (Nat.le_trans h.size hv))
theorem Owns.gen {b : Nat} (g : Gen ρ K L) (h : Owns (ψ.via ρ) L b) : Owns ψ K b := by
  obtain ⟨i, o, e, ho, eb⟩ := h
  obtain ⟨j, o', h1, h2, _, h4, _⟩ := g.dom i o e
  have e1 : (ρ i).bind ψ.f = some b := eb
  rw [h1] at e1
  exact ⟨j, o', h2, h4.trans ho, e1⟩
theorem Ren.via_inv {i b : Nat} (h : (ψ.via ρ) i = some b) : ∃ j, ρ i = some j ∧ ψ j = some b := by
  have e1 : (ρ i).bind ψ.f = some b := h
  cases hr : ρ i with
  | none => rw [hr] at e1; cases e1
  | some j => rw [hr] at e1; exact ⟨j, rfl, e1⟩
theorem Went.gen (h : Went m φ H w ψ K v) (g : Gen ρ K L) (hp : ∀ i, i < m → ρ i = some i) : Went m φ H w (ψ.via ρ) L v where
  low := fun i b hi e => Ren.via_some (hp i hi) (h.low i b hi e)
  cap := h.cap
  size := h.size
  keep := h.keep
  owns := fun b hb => h.owns b (Owns.gen g hb)
  os := h.os
  tape := h.tape
  output := h.output
  news := fun i b e => let ⟨j, _, e2⟩ := Ren.via_inv e; h.news j b e2
theorem Went.refl : Went m φ H w φ H w := .of_goes (Goes.refl _ _ _)

/-- From 'S' the piece 'c' ends as 'e' in 'S''. -/
def TriW (P : Program) (m n : Nat) (S : St) (c : Code) (e : AExit) (S' : St) : Prop :=
  ∀ (φ : Ren) (a : Act) (w : World), SR P φ n S a w → c.wpIn (FW none) 0 P (fun x a' w' => XR e x ∧ ∃ ψ, SR P ψ n S' a' w' ∧ Went m φ S.h w ψ S'.h w') a w
theorem SR.gen {a : Act} (h : SR P ψ n T' a w) (g : GenS ρ T' S) : SR P (ψ.via ρ) n S a w where
  hr := h.hr.gen g.heap
  fresh := g.heap.freshR ψ
  tr := fun t => g.slots t ψ _ (h.tr t)
  size := h.size
  ds := by
    have h1 := h.ds
    rw [g.dsT] at h1
    rw [g.dsS]
    exact dr_nil h1 rfl
theorem TriW.gen {c : Code} {e : AExit} (h : TriW P m n S c e T') (g : GenS ρ T' S') (hp : ∀ i, i < m → ρ i = some i) : TriW P m n S c e S' := fun φ a w hs =>
  wpIn_mono (h φ a w hs) fun _ _ _ ⟨h1, ψ, h2, h3⟩ => ⟨h1, ψ.via ρ, h2.gen g, h3.gen g.heap hp⟩
theorem TriW.run (hm : P.follows .mixedOrders = true) {X : ExtO} (hX : ExtOk P X.ext) {F : Word} (f : Nat) {c : Code} {e : AExit} {ts : List Bool}
    (hx : codeO P F (levX P X.ext f) (levO P X F f) none n c S = some (e, S', ts)) (ht : allT ts) : TriW P m n S c e S' := fun φ a w hs => by
  have hL := lev_ok hm hX f
  refine wpIn_mono (codeS_ok hL (drawOk_ok hL.ok hm) c (codeO_ok (levO_ok f) _ _ _ _ _ hx ht) .none hs) ?_
  rintro x a' w' ⟨h1, ψ, h2, h3⟩
  exact ⟨h1, ψ, h2, .of_goes h3⟩
theorem TriW.seq {c d : Code} {e : AExit} {M : St} (h : TriW P m n S c .normal M) (k : TriW P m n M d e S') : TriW P m n S (.seq c d) e S' := fun φ a w hs => by
  refine wpIn_seq (wpIn_mono (h φ a w hs) ?_)
  rintro x a' w' ⟨h1, ψ, h2, h3⟩
  cases h1
  exact wpIn_mono (k ψ a' w' h2) fun _ _ _ ⟨k1, χ, k2, k3⟩ => ⟨k1, χ, k2, h3.trans k3⟩
theorem TriW.seq_out {c d : Code} {e : AExit} (he : e ≠ .normal) (h : TriW P m n S c e S') : TriW P m n S (.seq c d) e S' := fun φ a w hs => by
  refine wpIn_seq (wpIn_mono (h φ a w hs) ?_)
  rintro x a' w' ⟨h1, h2⟩
  cases h1 with
  | normal => exact absurd rfl he
  | exit id => exact ⟨.exit id, h2⟩
  | goto l => exact ⟨.goto l, h2⟩
  | ret => exact ⟨.ret, h2⟩
theorem TriW.block {id : Nat} {c : Code} (h : TriW P m n S c (.exit id) S') : TriW P m n S (.block id c) .normal S' := fun φ a w hs => by
  refine wpIn_block (wpIn_mono (h φ a w hs) ?_)
  rintro x a' w' ⟨h1, h2⟩
  cases h1
  show if id = id then _ else _
  rw [if_pos rfl]
  exact ⟨.normal, h2⟩
/-- A loop of 'r' rounds and a last one. -/
theorem TriW.loop {c : Code} {e : AExit} (he : e ≠ .normal) (V : Nat → St) (r : Nat) (hr : ∀ j, j < r → TriW P m n (V j) c .normal (V (j + 1))) (hl : TriW P m n (V r) c e S') :
    TriW P m n (V 0) (.loop c) e S' := fun φ a w hs => by
  have key : ∀ i j, j + i = r → ∀ ψ a w', SR P ψ n (V j) a w' → Went m φ (V 0).h w ψ (V j).h w' →
      Code.roundsIn (FW none) 0 P c (fun x a' w' => XR e x ∧ ∃ ψ, SR P ψ n S' a' w' ∧ Went m φ (V 0).h w ψ S'.h w') (i + 1) a w' := by
    intro i
    induction i with
    | zero =>
      intro j hj ψ a w' hs hw
      obtain rfl : j = r := hj
      refine wpIn_mono (hl ψ a w' hs) ?_
      rintro x a' w' ⟨h1, χ, h2, h3⟩
      cases h1 with
      | normal => exact absurd rfl he
      | exit id => exact ⟨.exit id, χ, h2, hw.trans h3⟩
      | goto l => exact ⟨.goto l, χ, h2, hw.trans h3⟩
      | ret => exact ⟨.ret, χ, h2, hw.trans h3⟩
    | succ i ih =>
      intro j hj ψ a w' hs hw
      refine wpIn_mono (hr j (by omega) ψ a w' hs) ?_
      rintro x a' w' ⟨h1, χ, h2, h3⟩
      cases h1
      exact ih (j + 1) (by omega) χ a' w' h2 (hw.trans h3)
  exact wpIn_loop_rounds (r + 1) (key r 0 (by omega) φ a w hs .refl)
/-- A function's code between described states: its call. -/
theorem TriW.ret {g : FuncId} {fn : Func} {c : Code} {args args' : Array Value} {e : AExit} {v : Value} (hfn : P.funcs[g]? = some fn) (hb : fn.body = some c) (hle : args.size ≤ fn.ntmps)
    (he : e = .normal ∨ e = .ret) (h : TriW P H.next fn.ntmps ⟨argsT args.toList 0 .nil, [], H⟩ c e S') (hd : S'.ds = []) (hr : resultsA P S'.h fn S'.tm = some v)
    (hh : HR φ H w) (hf : Fresh φ H) (ha : AR φ args args') : CallsIn (FW none) 0 P g args' w (RetOk φ H w v S'.h) := by
  have hsz : args'.size ≤ fn.ntmps := by rw [← ha.size]; exact hle
  have htr : TR φ (argsT args.toList 0 .nil) (args' ++ Array.replicate (fn.ntmps - args'.size) Go.undef) := by
    have := args_ok args.toList args'.toList 0 .nil (Array.replicate fn.ntmps Go.undef) ha (TR.undef φ _) (by simpa using hle)
    have e : (⟨(Array.replicate fn.ntmps Go.undef).toList.take 0 ++ (args'.toList ++ (Array.replicate fn.ntmps Go.undef).toList.drop (0 + args.toList.length))⟩ : Array Value) = args' ++ Array.replicate (fn.ntmps - args'.size) Go.undef := by
      apply Array.ext'
      simp [ha.size]
    rwa [e] at this
  have hs0 : SR P φ fn.ntmps ⟨argsT args.toList 0 .nil, [], H⟩ { tmps := args' ++ Array.replicate (fn.ntmps - args'.size) Go.undef, defers := [] } w :=
    ⟨hh, hf, htr, by simp; omega, .nil⟩
  refine callsIn_of_wp_marks hfn hb trivial ?_ rfl
  refine wpIn_mono (h φ _ w hs0) ?_
  rintro x a1 w1 ⟨hxr, ψ, hs1, hw⟩
  have fin : LeavesInM (FW none) 0 P fn a1.tmps (RetOk φ H w v S'.h) a1.defers .returning w1 := by
    have hds := hs1.ds
    rw [hd] at hds
    exact leaves_ok hds S'.h w1 hs1.hr hs1.fresh hs1.tr rfl hr (fun v' w' h1 h2 => ⟨ψ, h1, h2.hr, h2.fresh, (hw.goes hf (Nat.le_refl _)).trans h2.goes⟩)
  rcases he with rfl | rfl
  · cases hxr; exact fin
  · cases hxr; exact fin

/-! ### Less may be said of what is left; and more may lie beside -/
theorem HR.less (h : HR ψ K w) (hg : L.gl = K.gl) (hs : ∀ i o, L.objs.get i = some o → K.objs.get i = some o) : HR ψ L w where
  dom := fun i o e => h.dom i o (hs i o e)
  inj := fun i j o o' b hi hj => h.inj i j o o' b (hs i o hi) (hs j o' hj)
  glob := fun i hi => h.glob i (hg ▸ hi)
  rng := h.rng
  caps := fun i fl c e b c' fr hi => h.caps i fl c e b c' fr (hs _ _ hi)
theorem Owns.less {b : Nat} (hs : ∀ i o, L.objs.get i = some o → K.objs.get i = some o) (h : Owns ψ L b) : Owns ψ K b := let ⟨i, o, e, ho, eb⟩ := h; ⟨i, o, hs i o e, ho, eb⟩
theorem RetOk.less {v : Value} {e : Ending} {w' : World} (hn : L.next = K.next) (hg : L.gl = K.gl) (hs : ∀ i o, L.objs.get i = some o → K.objs.get i = some o) (h : RetOk φ H w v K e w') : RetOk φ H w v L e w' := by
  cases e with
  | returned v' =>
    obtain ⟨ψ, h1, h2⟩ := h
    refine ⟨ψ, h1, h2.hr.less hg hs, fun i hi => h2.fresh i (hn ▸ hi), ?_⟩
    exact ⟨h2.goes.ren, h2.goes.size, h2.goes.keep, fun b hb => h2.goes.owns b (Owns.less hs hb), h2.goes.os, h2.goes.tape, h2.goes.output, h2.goes.news⟩
  | panicked _ => exact h.elim
  | outgrown => exact h.elim
/-- What is told of a call over a part of the heap is told of it over the whole. -/
theorem RetOk.frame {H1 K1 : AHeap} {v : Value} {e : Ending} {w' : World} (hn : H1.next = H.next) (hg : H1.gl = H.gl) (hs : ∀ i o, H1.objs.get i = some o → H.objs.get i = some o) (hh : HR φ H w) (hf : Fresh φ H)
    (kn : K.next = K1.next) (kg : K.gl = K1.gl) (hk1 : K1.gl = H1.gl) (hk : ∀ i o, K.objs.get i = some o → K1.objs.get i = some o ∨ (H.objs.get i = some o ∧ H1.objs.get i = none))
    (hw : ∀ i o, K1.objs.get i = some o → (H.next ≤ i ∧ o.wr = true) ∨ ∃ o1, H1.objs.get i = some o1) (h : RetOk φ H1 w v K1 e w') : RetOk φ H w v K e w' := by
  cases e with
  | panicked _ => exact h.elim
  | outgrown => exact h.elim
  | returned v' =>
  obtain ⟨ψ, h1, h2⟩ := h
  obtain ⟨hr, hfr, hgo⟩ := h2
  have own1 : ∀ {b}, Owns φ H1 b → Owns φ H b := Owns.less hs
  -- a block that is named in what lies beside isn't owned by the part
  have out : ∀ {i o b}, H.objs.get i = some o → H1.objs.get i = none → φ i = some b → ¬ Owns φ H1 b := fun {i o b} hi h0 eb ⟨j, p, ej, hp, ebj⟩ => by
    have := hh.inj j i p o b (hs _ _ ej) hi ebj eb hp
    subst this
    rw [h0] at ej; cases ej
  -- an object of what came of the part, at a block that lay there, named beside
  have apart : ∀ {i j o p b}, K1.objs.get i = some o → ψ i = some b → H.objs.get j = some p → H1.objs.get j = none → φ j = some b → (o.wr = true ∨ p.wr = true) → False := fun {i j o p b} hi ei hj h0 ej hwr => by
    have hlt := hh.rng j b ej
    rcases hw i o hi with ⟨_, hwo⟩ | ⟨o1, ho1⟩
    · exact (hgo.owns b ⟨i, o, hi, hwo, ei⟩).elim (fun ho => out hj h0 ej ho) (fun hge => by omega)
    · have hilt : i < H.next := hh.lt hf (hs _ _ ho1)
      obtain ⟨b1, z, eb1, _, _⟩ := hh.dom i o1 (hs _ _ ho1)
      have : ψ i = some b1 := hgo.ren.1 i b1 eb1
      rw [ei] at this
      cases this
      rcases hwr with hwr | hwr
      · exact (hgo.owns b ⟨i, o, hi, hwr, ei⟩).elim (fun ho => out hj h0 ej ho) (fun hge => by omega)
      · have := hh.inj j i p o1 b hj (hs _ _ ho1) ej eb1 hwr
        subst this
        rw [h0] at ho1; cases ho1
  refine ⟨ψ, h1, ⟨fun i o e => ?_, fun i j o p b hi hj ei ej hwr => ?_, fun i hi => hr.glob i (kg ▸ hi), hr.rng, fun i fl c e b c' fr hi eb hb hsz => ?_⟩, fun i hi => hfr i (kn ▸ hi), ?_⟩
  · rcases hk i o e with h | ⟨h, h0⟩
    · exact hr.dom i o h
    · obtain ⟨b, z, e1, e2, e3⟩ := hh.dom i o h
      exact ⟨b, z, hgo.ren.1 i b e1, (hgo.keep b (hh.rng i b e1) (out h h0 e1)).trans e2, e3.mono hgo.ren⟩
  · rcases hk i o hi with h | ⟨h, h0⟩
    · rcases hk j p hj with k | ⟨k, k0⟩
      · exact hr.inj i j o p b h k ei ej hwr
      · obtain ⟨b', _, ej', _⟩ := hh.dom j p k
        have := hgo.ren.1 j b' ej'
        rw [ej] at this; cases this
        exact (apart h ei k k0 ej' (.inl hwr)).elim
    · obtain ⟨b', _, ei', _⟩ := hh.dom i o h
      have := hgo.ren.1 i b' ei'
      rw [ei] at this; cases this
      rcases hk j p hj with k | ⟨k, k0⟩
      · exact (apart k ej h h0 ei' (.inr hwr)).elim
      · obtain ⟨b2, _, ej', _⟩ := hh.dom j p k
        have := hgo.ren.1 j b2 ej'
        rw [ej] at this; cases this
        exact hh.inj i j o p b h k ei' ej' hwr
  · rcases hk i _ hi with h | ⟨h, h0⟩
    · exact hr.caps i fl c e b c' fr h eb hb hsz
    · obtain ⟨b', z, ei', ez, _⟩ := hh.dom i _ h
      have := hgo.ren.1 i b' ei'
      rw [eb] at this; cases this
      rw [hgo.keep b (hh.rng i b ei') (out h h0 ei')] at hb
      rw [hgo.ren.2 i b ei']
      exact hh.caps i fl c e b c' fr h ei' hb hsz
  · refine ⟨hgo.ren, hgo.size, fun b hb hno => hgo.keep b hb (fun ho => hno (own1 ho)), fun b hb => ?_, hgo.os, hgo.tape, hgo.output, hgo.news⟩
    obtain ⟨i, o, e, ho, eb⟩ := hb
    rcases hk i o e with h | ⟨h, h0⟩
    · exact (hgo.owns b ⟨i, o, h, ho, eb⟩).imp own1 id
    · obtain ⟨b', _, ei', _⟩ := hh.dom i o h
      have := hgo.ren.1 i b' ei'
      rw [eb] at this; cases this
      exact .inl ⟨i, o, h, ho, ei'⟩
end
section
variable {P : Program} {φ : Ren} {H : AHeap} {w : World}

/-- A test that the two are the same: none that is evaluated. -/
noncomputable def isSame {α : Type} (a b : α) : Bool := @decide (a = b) (Classical.propDecidable _)
theorem isSame_true {α : Type} {a b : α} (h : isSame a b = true) : a = b := @of_decide_eq_true _ (Classical.propDecidable _) h
theorem isSame_of {α : Type} {a b : α} (h : a = b) : isSame a b = true := @decide_eq_true _ (Classical.propDecidable _) h
theorem isSame_refl {α : Type} (a : α) : isSame a a = true := isSame_of rfl

/-- A call of 'g' where the next name is 'n0' and the objects 'pre' lie: it comes to 'v', and 'post' lies instead. -/
structure Con : Type where
  g : FuncId
  n0 : Nat
  gl : Nat
  args : List Value
  pre : List (Nat × AObj)
  v : Value
  next : Nat
  post : List (Nat × AObj)
def dels (l : List (Nat × AObj)) (t : T AObj) : T AObj := l.foldr (fun x t => t.del x.1) t
def puts (l : List (Nat × AObj)) (t : T AObj) : T AObj := l.foldr (fun x t => t.put x.1 x.2) t
def Con.heap (c : Con) (H : AHeap) : AHeap := ⟨c.next, H.gl, puts c.post (dels c.pre H.objs)⟩
noncomputable def sameArgs : List Value → List Value → List Bool
  | [], [] => []
  | a :: x, b :: y => isSame a b :: sameArgs x y
  | _, _ => [false]
noncomputable def Con.tests (c : Con) (args : Array Value) (H : AHeap) : List Bool :=
  sameArgs args.toList c.args ++ (Nat.beq H.gl c.gl :: c.pre.map fun p => isSame (H.objs.get p.1) (some p.2))
noncomputable def conOv : List Con → FuncId → Array Value → AHeap → Option (Value × AHeap × List Bool)
  | [], _, _, _ => none
  | c :: l, g, args, H => match Nat.beq c.g g with
    | true => match Nat.beq c.n0 H.next with
      | true => some (c.v, c.heap H, c.tests args H)
      | false => conOv l g args H
    | false => conOv l g args H
/-- Every name of 'post' is new and written, or one of 'pre'. -/
def Con.fits (c : Con) : Bool := c.post.all fun p => (Nat.ble c.n0 p.1 && p.2.wr) || c.pre.any fun q => Nat.beq q.1 p.1
structure Con.Ok (P : Program) (c : Con) : Prop where
  fits : c.fits = true
  call : ∀ {φ : Ren} {w : World} {args' : Array Value}, AR φ c.args.toArray args' → HR φ (heapOf c.n0 c.gl c.pre) w → Fresh φ (heapOf c.n0 c.gl c.pre) →
    CallsIn (FW none) 0 P c.g args' w (RetOk φ (heapOf c.n0 c.gl c.pre) w c.v (heapOf c.next c.gl c.post))

theorem dels_get : ∀ (l : List (Nat × AObj)) (t : T AObj) (i : Nat), (dels l t).get i = if i ∈ l.map (·.1) then none else t.get i
  | [], t, i => by
    exact (if_neg (by rw [List.map_nil]; exact List.not_mem_nil)).symm
  | x :: l, t, i => by
    have ih := dels_get l t i
    rw [show dels (x :: l) t = (dels l t).del x.1 from rfl, T.get_del]
    by_cases h : i = x.1
    · rw [if_pos h, if_pos (by rw [List.map_cons, h]; exact List.mem_cons_self)]
    · rw [if_neg h, ih, List.map_cons]
      by_cases hm : i ∈ l.map (·.1)
      · rw [if_pos hm, if_pos (List.mem_cons_of_mem _ hm)]
      · rw [if_neg hm, if_neg (by rw [List.mem_cons]; exact fun e => e.elim h hm)]
theorem puts_get : ∀ (l : List (Nat × AObj)) (t : T AObj) (i : Nat), (puts l t).get i = (heapOf 0 0 l).objs.get i ∨ ((puts l t).get i = t.get i ∧ (heapOf 0 0 l).objs.get i = none)
  | [], t, i => .inr ⟨rfl, rfl⟩
  | x :: l, t, i => by
    have ih := puts_get l t i
    rw [show puts (x :: l) t = (puts l t).put x.1 x.2 from rfl, show (heapOf 0 0 (x :: l)).objs = (heapOf 0 0 l).objs.put x.1 x.2 from rfl, T.get_put, T.get_put]
    by_cases h : i = x.1
    · simp [h]
    · rw [if_neg h, if_neg h]; exact ih
theorem sameArgs_eq : ∀ (a b : List Value), allT (sameArgs a b) → a = b
  | [], [], _ => rfl
  | a :: x, b :: y, h => by
    have h1 := isSame_true (h _ List.mem_cons_self)
    have h2 := sameArgs_eq x y (fun t ht => h t (List.mem_cons_of_mem _ ht))
    rw [h1, h2]
  | [], _ :: _, h => by have := h false (by simp [sameArgs]); cases this
  | _ :: _, [], h => by have := h false (by simp [sameArgs]); cases this
theorem heapOf_mem {next gl : Nat} {l : List (Nat × AObj)} {i : Nat} {o : AObj} (h : (heapOf next gl l).objs.get i = some o) : (i, o) ∈ l := heapOf_get h
theorem heapOf_none {next gl : Nat} : ∀ {l : List (Nat × AObj)} {i : Nat}, i ∉ l.map (·.1) → (heapOf next gl l).objs.get i = none
  | [], _, _ => rfl
  | x :: l, i, h => by
    simp only [List.map_cons, List.mem_cons, not_or] at h
    show (T.put _ x.1 x.2).get i = none
    rw [T.get_put, if_neg h.1]
    exact heapOf_none (next := next) (gl := gl) h.2
theorem heapOf_some {next gl : Nat} : ∀ {l : List (Nat × AObj)} {i : Nat}, i ∈ l.map (·.1) → ∃ o, (heapOf next gl l).objs.get i = some o
  | x :: l, i, h => by
    show ∃ o, (T.put _ x.1 x.2).get i = some o
    rw [T.get_put]
    by_cases e : i = x.1
    · rw [if_pos e]; exact ⟨_, rfl⟩
    · rw [if_neg e]
      simp only [List.map_cons, List.mem_cons] at h
      exact heapOf_some (next := next) (gl := gl) (h.resolve_left e)

theorem conOv_ok : ∀ (l : List Con), (∀ c ∈ l, Con.Ok P c) → ∀ {g : FuncId} {args args' : Array Value} {K : AHeap} {v : Value} {ts : List Bool}, conOv l g args H = some (v, K, ts) → allT ts → AR φ args args' → HR φ H w → Fresh φ H →
    CallsIn (FW none) 0 P g args' w (RetOk φ H w v K)
  | [], _, _, _, _, _, _, _, h, _, _, _, _ => by cases h
  | c :: l, hl, g, args, args', K, v, ts, h, ht, ha, hh, hf => by
    rw [conOv] at h
    cases h1 : Nat.beq c.g g with
    | false => rw [h1] at h; exact conOv_ok l (fun x hx => hl x (List.mem_cons_of_mem _ hx)) h ht ha hh hf
    | true =>
    cases h2 : Nat.beq c.n0 H.next with
    | false => rw [h1, h2] at h; exact conOv_ok l (fun x hx => hl x (List.mem_cons_of_mem _ hx)) h ht ha hh hf
    | true =>
    rw [h1, h2] at h
    simp only [Option.some.injEq, Prod.mk.injEq] at h
    obtain ⟨rfl, rfl, rfl⟩ := h
    have hc := hl c List.mem_cons_self
    obtain rfl := Nat.eq_of_beq_eq_true h1
    have hn := Nat.eq_of_beq_eq_true h2
    obtain ⟨t1, t2⟩ := allT_append ht
    have ea := sameArgs_eq _ _ t1
    have eg : H.gl = c.gl := Nat.eq_of_beq_eq_true (t2 _ List.mem_cons_self)
    have eo : ∀ p ∈ c.pre, H.objs.get p.1 = some p.2 := fun p hp => isSame_true (t2 _ (List.mem_cons_of_mem _ (List.mem_map.2 ⟨p, hp, rfl⟩)))
    have hs : ∀ i o, (heapOf c.n0 c.gl c.pre).objs.get i = some o → H.objs.get i = some o := fun i o e => eo _ (heapOf_mem e)
    have hh1 : HR φ (heapOf c.n0 c.gl c.pre) w := hh.less eg.symm hs
    have hf1 : Fresh φ (heapOf c.n0 c.gl c.pre) := fun i hi => hf i (by rw [← hn]; exact hi)
    have ha1 : AR φ c.args.toArray args' := by
      have : c.args.toArray = args := by rw [← ea]
      rw [this]; exact ha
    refine CallsIn.mono (hc.call ha1 hh1 hf1) fun e w' hr => ?_
    have fits := hc.fits
    rw [Con.fits, List.all_eq_true] at fits
    refine RetOk.frame (H1 := heapOf c.n0 c.gl c.pre) (K1 := heapOf c.next c.gl c.post) hn eg.symm hs hh hf rfl eg rfl ?_ ?_ hr
    · intro i o e
      have e' : (puts c.post (dels c.pre H.objs)).get i = some o := e
      rcases puts_get c.post (dels c.pre H.objs) i with h | ⟨h, h0⟩
      · left; rw [h] at e'; exact e'
      · right
        rw [h, dels_get] at e'
        by_cases hm : i ∈ c.pre.map (·.1)
        · rw [if_pos hm] at e'; cases e'
        · rw [if_neg hm] at e'
          exact ⟨e', heapOf_none hm⟩
    · intro i o e
      have hm := heapOf_mem e
      have := fits _ hm
      rw [Bool.or_eq_true, Bool.and_eq_true, List.any_eq_true] at this
      rcases this with ⟨k1, k2⟩ | ⟨q, hq, k⟩
      · left; exact ⟨hn ▸ Nat.le_of_ble_eq_true k1, k2⟩
      · right
        refine heapOf_some (List.mem_map.2 ⟨q, hq, Nat.eq_of_beq_eq_true k⟩)

/-- Overrides by contracts behind others. -/
noncomputable def ExtO.with (Y : ExtO) (l : List Con) : ExtO := ⟨fun g args H => match Y.ov g args H with
  | some r => some r
  | none => conOv l g args H, Y.quiet⟩
theorem ExtO.ext_ov {Y : ExtO} {g : FuncId} {args : Array Value} {K : AHeap} {v : Value} (h : Y.ext.ov g args H = some (v, K)) : ∃ ts, Y.ov g args H = some (v, K, ts) ∧ allT ts := by
  have h' : (match Y.ov g args H with | some (v, K, ts) => bif ts.all id then some (v, K) else none | none => none) = some (v, K) := h
  cases e : Y.ov g args H with
  | none => rw [e] at h'; cases h'
  | some r =>
    obtain ⟨v1, K1, ts⟩ := r
    rw [e] at h'
    simp only at h'
    cases ha : ts.all id with
    | false => rw [ha] at h'; cases h'
    | true =>
      rw [ha, cond_true] at h'
      simp only [Option.some.injEq, Prod.mk.injEq] at h'
      obtain ⟨rfl, rfl⟩ := h'
      exact ⟨ts, rfl, fun b hb => by rw [List.all_eq_true] at ha; exact ha b hb⟩
theorem ExtO.ov_ext {Y : ExtO} {g : FuncId} {args : Array Value} {K : AHeap} {v : Value} {ts : List Bool} (h : Y.ov g args H = some (v, K, ts)) (ht : allT ts) : Y.ext.ov g args H = some (v, K) := by
  show (match Y.ov g args H with | some (v, K, ts) => bif ts.all id then some (v, K) else none | none => none) = some (v, K)
  rw [h]
  have : ts.all id = true := by rw [List.all_eq_true]; exact ht
  simp only [this, cond_true]
theorem ExtOk.with {Y : ExtO} {l : List Con} (h : ExtOk P Y.ext) (hl : ∀ c ∈ l, Con.Ok P c) : ExtOk P (Y.with l).ext where
  ov := fun {g args args' H K v φ w} e ha hh hf => by
    obtain ⟨ts, h1, h2⟩ := ExtO.ext_ov e
    have h1' : (match Y.ov g args H with | some r => some r | none => conOv l g args H) = some (v, K, ts) := h1
    cases e1 : Y.ov g args H with
    | none => rw [e1] at h1'; exact conOv_ok l hl h1' h2 ha hh hf
    | some r =>
      rw [e1] at h1'
      cases h1'
      exact h.ov (ExtO.ov_ext e1 h2) ha hh hf
  quiet := h.quiet
end
section
variable {N n : Nat} {w0 w w1 : World} {φ ψ : Ren} {H K : AHeap}

/-- The names below 'n' alone. -/
def Ren.upto (ψ : Ren) (n : Nat) : Ren := ⟨fun i => if i < n then ψ i else none, ψ.k⟩
theorem Ren.upto_some {i b : Nat} (h : i < n) (k : ψ i = some b) : (ψ.upto n) i = some b := by
  show (if i < n then ψ i else none) = some b
  rw [if_pos h]; exact k
theorem Ren.upto_inv {i b : Nat} (h : (ψ.upto n) i = some b) : i < n ∧ ψ i = some b := by
  have h' : (if i < n then ψ i else none) = some b := h
  by_cases hi : i < n
  · rw [if_pos hi] at h'; exact ⟨hi, h'⟩
  · rw [if_neg hi] at h'; cases h'
/-- All names of 'φ' are below 'n'. -/
def Ren.low (φ : Ren) (n : Nat) : Prop := ∀ i b, φ i = some b → i < n
theorem FnR.upto (hl : φ.low n) {f f0 f' : Fn} (h0 : FnR φ f f0) (h : FnR ψ f f') : FnR (ψ.upto n) f f' := by
  cases h with
  | func f => exact .func f
  | yield e =>
    cases h0 with
    | yield e0 => exact .yield (Ren.upto_some (hl _ _ e0) e)
theorem VR.upto (hl : φ.low n) {v u0 : Value} (h0 : VR φ v u0) : ∀ {u : Value}, VR ψ v u → VR (ψ.upto n) v u := by
  induction h0 with
  | bool b => intro u h; cases h; exact .bool b
  | int k n => intro u h; cases h; exact .int k n
  | float k b => intro u h; cases h; exact .float k b
  | complex k a b => intro u h; cases h; exact .complex k a b
  | string s => intro u h; cases h; exact .string s
  | ptrNil => intro u h; cases h; exact .ptrNil
  | ptr e => intro u h; cases h with | ptr e1 => exact .ptr (Ren.upto_some (hl _ _ e) e1)
  | sliceNil => intro u h; cases h; exact .sliceNil
  | slice l e hc hk => intro u h; cases h with | slice l e1 hc1 hk1 => exact .slice l (Ren.upto_some (hl _ _ e) e1) hc1 hk1
  | sliceDead a hc => intro u h; cases h with | sliceDead a1 hc1 => exact .sliceDead a1 hc1
  | mapNil => intro u h; cases h; exact .mapNil
  | map e => intro u h; cases h with | map e1 => exact .map (Ren.upto_some (hl _ _ e) e1)
  | chanNil => intro u h; cases h; exact .chanNil
  | top _ => intro u h; cases h with | top e1 => exact .top e1
  | nilFunc => intro u h; cases h; exact .nilFunc
  | func hf hx _ hy _ i1 i2 =>
    intro u h
    cases h with
    | func hf1 hx1 hx1' hy1 hy1' =>
      exact .func (hf.upto hl hf1) hx1 (fun i h h' => i1 i h (hx ▸ h) (hx1' i h h')) hy1 (fun i h h' => i2 i h (hy ▸ h) (hy1' i h h'))
  | nilIface => intro u h; cases h; exact .nilIface
  | iface t _ ih => intro u h; cases h with | iface t k => exact .iface t (ih k)
  | agg hx _ ih =>
    intro u h
    cases h with
    | agg hx1 hx1' => exact .agg hx1 (fun i h h' => ih i h (hx ▸ h) (hx1' i h h'))
  | tuple hx _ ih =>
    intro u h
    cases h with
    | tuple hx1 hx1' => exact .tuple hx1 (fun i h h' => ih i h (hx ▸ h) (hx1' i h h'))
theorem LR.upto (hl : φ.low n) {x y0 y : List Value} (h0 : LR φ x y0) (h : LR ψ x y) : LR (ψ.upto n) x y :=
  ⟨h.1, fun i v e => let ⟨_, _, r0⟩ := h0.2 i v e; let ⟨v', e', r⟩ := h.2 i v e; ⟨v', e', r0.upto hl r⟩⟩
theorem ER.upto (hl : φ.low n) {x y0 y : List MapEntry} (h0 : ER φ x y0) (h : ER ψ x y) : ER (ψ.upto n) x y :=
  ⟨h.1, fun i v e => let ⟨_, _, r0, s0, _⟩ := h0.2 i v e; let ⟨v', e', r, s, t⟩ := h.2 i v e; ⟨v', e', r0.upto hl r, s0.upto hl s, t⟩⟩
/-- A row or a map. -/
def AObj.plain : AObj → Bool
  | .cells .. | .map .. => true
  | _ => false
theorem OR.upto (hl : φ.low n) {o : AObj} (hp : o.plain = true) {z0 z : Obj} (h0 : OR φ o z0) (h : OR ψ o z) : OR (ψ.upto n) o z := by
  cases h with
  | own e k => cases h0 with | own e k0 => exact .own e (k0.upto hl k)
  | open_ s e k => cases h0 with | open_ s e k0 => exact .open_ s e (k0.upto hl k)
  | mark s e fr hfr k => cases h0 with | mark s e fr0 hfr0 k0 => exact .mark s e fr hfr (k0.upto hl k)
  | ro e fr k => cases h0 with | ro e fr0 k0 => exact .ro e fr (k0.upto hl k)
  | map c k => cases h0 with | map c k0 => exact .map c (k0.upto hl k)
  | sIter s p => cases hp
  | mIterN a b c => cases hp
  | mIter a b c k => cases hp
  | loop k kd => cases hp
  | dfrOn => cases hp
  | dfrOff => cases hp
/-- What lay there lies there still, by the same names. -/
theorem At.upto (h0 : HR φ H w1) (hf0 : Fresh φ H) (hle : φ.le ψ) (h : At N w0 ψ K w) (hgl : H.gl = K.gl) (hs : ∀ i o, H.objs.get i = some o → K.objs.get i = some o)
    (hp : ∀ i o, H.objs.get i = some o → o.plain = true) (hg : H.gl ≤ H.next) : At N w0 (ψ.upto H.next) H w ∧ ∀ i b, φ i = some b → (ψ.upto H.next) i = some b := by
  have hl : φ.low H.next := fun i b e => by
    rcases Nat.lt_or_ge i H.next with h1 | h1
    · exact h1
    · rw [hf0 i h1] at e; cases e
  refine ⟨⟨⟨fun i o e => ?_, fun i j o o' b hi hj ei ej => ?_, fun i hi => ?_, fun i b e => h.hr.rng i b (Ren.upto_inv e).2, fun i fl c e b c' fr hi ei => ?_⟩, fun i hi => ?_, fun b ⟨i, o, e, ho, eb⟩ => ?_, h.room, h.below⟩, fun i b e => ?_⟩
  · obtain ⟨b0, z0, e0, _, r0⟩ := h0.dom i o e
    obtain ⟨b, z, e1, e2, r⟩ := h.hr.dom i o (hs i o e)
    exact ⟨b, z, Ren.upto_some (hl i b0 e0) e1, e2, r0.upto hl (hp i o e) r⟩
  · exact h.hr.inj i j o o' b (hs i o hi) (hs j o' hj) (Ren.upto_inv ei).2 (Ren.upto_inv ej).2
  · exact Ren.upto_some (Nat.lt_of_lt_of_le hi hg) (h.hr.glob i (hgl ▸ hi))
  · exact h.hr.caps i fl c e b c' fr (hs _ _ hi) (Ren.upto_inv ei).2
  · show (if i < H.next then ψ i else none) = none
    rw [if_neg (Nat.not_lt.2 hi)]
  · exact h.high b ⟨i, o, hs i o e, ho, (Ren.upto_inv eb).2⟩
  · exact Ren.upto_some (hl i b e) (hle.1 i b e)
/-- A call that changes none of the heap. -/
theorem At.call_same {P : Program} (h : At N w0 φ H w) (hm : P.follows .mixedOrders = true) {X : ExtO} (hX : ExtOk P X.ext) {F : Word} {f : Nat} {g : FuncId} {args args' : Array Value} {v : Value} {ts : List Bool}
    (hx : (levO P X F f).call g args H = some (v, K, ts)) (hc : allT ts) (ha : AR φ args args') (hgl : H.gl = K.gl) (hs : ∀ i o, H.objs.get i = some o → K.objs.get i = some o)
    (hp : ∀ i o, H.objs.get i = some o → o.plain = true) (hg : H.gl ≤ H.next) (hv : ∀ {ψ : Ren} {v' : Value}, VR ψ v v' → v' = v) :
    Calls P g args' w fun e w' => e = .returned v ∧ ∃ χ, At N w0 χ H w' ∧ ∀ i b, φ i = some b → χ i = some b :=
  Calls.mono (h.call hm hX hx hc ha) fun e w' ⟨v', ψ, h1, h2, h3, h4⟩ => by
    have := hv h2
    subst this
    exact ⟨h1, _, At.upto h.hr h.fresh h3 h4 hgl hs hp hg⟩
end
section
variable {P : Program} {m n : Nat} {S S' M M2 : St}

/-- The part of a sequence at a place ('false': left, 'true': right); what is ahead of it; what is behind it. -/
def Code.hole : List Bool → Code → Code
  | [], c => c
  | false :: p, .seq a _ => Code.hole p a
  | true :: p, .seq _ b => Code.hole p b
  | _, c => c
def Code.ahead : List Bool → Code → Code
  | [], _ => .skip
  | false :: p, .seq a _ => Code.ahead p a
  | true :: p, .seq a b => .seq a (Code.ahead p b)
  | _, _ => .exit 1000000
def Code.behind : List Bool → Code → Code
  | [], _ => .skip
  | false :: p, .seq a b => .seq (Code.behind p a) b
  | true :: p, .seq _ b => Code.behind p b
  | _, _ => .skip
theorem TriW.runS (hm : P.follows .mixedOrders = true) {X : Ext} (hX : ExtOk P X) (f : Nat) {c : Code} {e : AExit} (hx : codeS P (levX P X f) none n c S = some (e, S')) : TriW P m n S c e S' := fun φ a w hs => by
  have hL := lev_ok hm hX f
  refine wpIn_mono (codeS_ok hL (drawOk_ok hL.ok hm) c hx .none hs) ?_
  rintro x a' w' ⟨h1, ψ, h2, h3⟩
  exact ⟨h1, ψ, h2, .of_goes h3⟩
theorem TriW.around (hm : P.follows .mixedOrders = true) {X : Ext} (hX : ExtOk P X) (f : Nat) : ∀ (p : List Bool) {c : Code} {e : AExit} {S S' : St},
    codeS P (levX P X f) none n (Code.ahead p c) S = some (.normal, M) → TriW P m n M (Code.hole p c) .normal M2 → codeS P (levX P X f) none n (Code.behind p c) M2 = some (e, S') → TriW P m n S c e S'
  | [], c, e, S, S', h1, h2, h3 => by
    have e1 : (some (AExit.normal, S) : Option (AExit × St)) = some (.normal, M) := h1
    have e3 : (some (AExit.normal, M2) : Option (AExit × St)) = some (e, S') := h3
    cases e1; cases e3
    exact h2
  | false :: p, .seq a b, e, S, S', h1, h2, h3 => by
    have h3' : (match codeS P (levX P X f) none n (Code.behind p a) M2 with | some (.normal, st') => codeS P (levX P X f) none n b st' | r => r) = some (e, S') := h3
    cases hb : codeS P (levX P X f) none n (Code.behind p a) M2 with
    | none => rw [hb] at h3'; cases h3'
    | some q =>
      obtain ⟨e1, st1⟩ := q
      rw [hb] at h3'
      have ih := fun {e2 st2} hh => TriW.around hm hX f p (c := a) (e := e2) (S := S) (S' := st2) h1 h2 hh
      by_cases he : e1 = .normal
      · subst he
        exact TriW.seq (ih hb) (TriW.runS hm hX f h3')
      · have : (e1, st1) = (e, S') := by
          cases e1 with
          | normal => exact absurd rfl he
          | _ => simpa using h3'
        cases this
        exact TriW.seq_out he (ih hb)
  | true :: p, .seq a b, e, S, S', h1, h2, h3 => by
    have h1' : (match codeS P (levX P X f) none n a S with | some (.normal, st') => codeS P (levX P X f) none n (Code.ahead p b) st' | r => r) = some (.normal, M) := h1
    cases hb : codeS P (levX P X f) none n a S with
    | none => rw [hb] at h1'; cases h1'
    | some q =>
      obtain ⟨e1, st1⟩ := q
      rw [hb] at h1'
      by_cases he : e1 = .normal
      · subst he
        exact TriW.seq (TriW.runS hm hX f hb) (TriW.around hm hX f p (c := b) h1' h2 h3)
      · cases e1 with
        | normal => exact absurd rfl he
        | _ => simp at h1'
  | false :: p, .skip, _, _, _, h1, _, _ | false :: p, .label _, _, _, _, h1, _, _ | false :: p, .ret, _, _, _, h1, _, _ | false :: p, .exit _, _, _, _, h1, _, _ | false :: p, .goto _, _, _, _, h1, _, _
  | false :: p, .refuse _, _, _, _, h1, _, _ | false :: p, .cond _ _ _, _, _, _, h1, _, _ | false :: p, .block _ _, _, _, _, h1, _, _ | false :: p, .loop _, _, _, _, h1, _, _ | false :: p, .scope _, _, _, _, h1, _, _
  | false :: p, .region _ _ _, _, _, _, h1, _, _ | false :: p, .rangeFunc _ _ _ _, _, _, _, h1, _, _ => by cases h1
  | true :: p, .skip, _, _, _, h1, _, _ | true :: p, .label _, _, _, _, h1, _, _ | true :: p, .ret, _, _, _, h1, _, _ | true :: p, .exit _, _, _, _, h1, _, _ | true :: p, .goto _, _, _, _, h1, _, _
  | true :: p, .refuse _, _, _, _, h1, _, _ | true :: p, .cond _ _ _, _, _, _, h1, _, _ | true :: p, .block _ _, _, _, _, h1, _, _ | true :: p, .loop _, _, _, _, h1, _, _ | true :: p, .scope _, _, _, _, h1, _, _
  | true :: p, .region _ _ _, _, _, _, h1, _, _ | true :: p, .rangeFunc _ _ _ _, _, _, _, h1, _, _ => by cases h1
end
section
variable {P : Program} {m n : Nat} {w : World} {φ ψ : Ren} {S S' T' : St} {ρ : Nat → Option Nat}

/-- What is kept of a slot: nothing but that it is one cell and no bool; nothing was laid there; a bool; a value. -/
inductive Slot | top | undef | bool (b : Bool) | val (v : Value)
def Slot.value : Slot → Value
  | .top => .chan (some 0)
  | .undef => Go.undef
  | .bool b => .bool b
  | .val v => v
/-- Is the slot so? ('val' is looked at by itself.) -/
def Slot.fits : Slot → Value → Bool
  | .top, v => topOk v
  | .undef, .tuple x => x.toList.isEmpty
  | .bool b, .bool c => b == c
  | .val _, _ => true
  | _, _ => false
def slotsT (l : List (Nat × Slot)) : T Value := l.foldr (fun x t => match x.2 with | .undef => t | s => t.put x.1 s.value) .nil
theorem slotsT_get : ∀ (l : List (Nat × Slot)) (t : Nat), (∃ s, (t, s) ∈ l ∧ ((slotsT l).get t).getD Go.undef = s.value) ∨ (slotsT l).get t = none
  | [], t => .inr rfl
  | x :: l, t => by
    have ih := slotsT_get l t
    obtain ⟨i, s⟩ := x
    have hput : ∀ v, (T.put (slotsT l) i v).get t = if t = i then some v else (slotsT l).get t := fun v => T.get_put _ _ _ _
    have lift : (∃ s', (t, s') ∈ l ∧ ((slotsT l).get t).getD Go.undef = s'.value) ∨ (slotsT l).get t = none → ∀ (z : T Value), z.get t = (slotsT l).get t → (∃ s', (t, s') ∈ (i, s) :: l ∧ (z.get t).getD Go.undef = s'.value) ∨ z.get t = none := by
      rintro (⟨s', h1, h2⟩ | h) z hz
      · exact .inl ⟨s', List.mem_cons_of_mem _ h1, by rw [hz]; exact h2⟩
      · exact .inr (hz.trans h)
    cases s with
    | undef => exact lift ih (slotsT l) rfl
    | top =>
      by_cases h : t = i
      · subst h
        refine .inl ⟨.top, List.mem_cons_self, ?_⟩
        show ((T.put (slotsT l) t _).get t).getD Go.undef = _
        rw [hput, if_pos rfl]; rfl
      · refine lift ih (T.put (slotsT l) i _) ?_
        rw [hput, if_neg h]
    | bool b =>
      by_cases h : t = i
      · subst h
        refine .inl ⟨.bool b, List.mem_cons_self, ?_⟩
        show ((T.put (slotsT l) t _).get t).getD Go.undef = _
        rw [hput, if_pos rfl]; rfl
      · refine lift ih (T.put (slotsT l) i _) ?_
        rw [hput, if_neg h]
    | val v =>
      by_cases h : t = i
      · subst h
        refine .inl ⟨.val v, List.mem_cons_self, ?_⟩
        show ((T.put (slotsT l) t _).get t).getD Go.undef = _
        rw [hput, if_pos rfl]; rfl
      · refine lift ih (T.put (slotsT l) i _) ?_
        rw [hput, if_neg h]
/-- 'T' seen as a heap and slots say. -/
structure GenT (n : Nat) (ρ : Nat → Option Nat) (T' : St) (H : AHeap) (l : List (Nat × Slot)) : Prop where
  heap : Gen ρ T'.h H
  fits : (l.all fun x => x.2.fits ((T'.tm.get x.1).getD Go.undef)) = true
  vals : ∀ x ∈ l, ∀ v, x.2 = .val v → VG ρ v ((T'.tm.get x.1).getD Go.undef)
  all : ((List.range n).all fun t => (l.any fun x => Nat.beq x.1 t) || Slot.undef.fits ((T'.tm.get t).getD Go.undef)) = true
  once : ∀ x ∈ l, ∀ y ∈ l, x.1 = y.1 → x = y
  ds : T'.ds = []
theorem undef_fits {v : Value} (h : Slot.undef.fits v = true) : v = Go.undef := by
  cases v with
  | tuple x =>
    have : x = #[] := by
      apply Array.toList_inj.1
      exact List.isEmpty_iff.1 h
    subst this; rfl
  | _ => cases h
theorem GenT.slot {H : AHeap} {l : List (Nat × Slot)} (g : GenT n ρ T' H l) {t : Nat} (ht : t < n) : VG ρ (((slotsT l).get t).getD Go.undef) ((T'.tm.get t).getD Go.undef) := by
  have hund : ∀ v, v = Go.undef → VG ρ Go.undef v := fun v e => by
    subst e
    intro ψ u' hu
    cases hu with
    | tuple hx _ =>
      rename_i x' _
      have : x' = #[] := Array.eq_empty_of_size_eq_zero hx.symm
      subst this
      exact VR.undef _
  by_cases hm : ∃ s, (t, s) ∈ l
  · obtain ⟨s, hs⟩ := hm
    have hf := List.all_eq_true.1 g.fits _ hs
    simp only at hf
    have key : VG ρ s.value ((T'.tm.get t).getD Go.undef) := by
      cases s with
      | top => exact VG.top hf
      | undef => exact hund _ (undef_fits hf)
      | bool b =>
        generalize (T'.tm.get t).getD Go.undef = u at hf ⊢
        cases u <;> first | (cases hf; done) | (rename_i c; have : b = c := by simpa [Slot.fits] using hf
                                                subst this; exact VG.bool b)
      | val v => exact g.vals _ hs v rfl
    rcases slotsT_get l t with ⟨s', h1, h2⟩ | h
    · have : s' = s := by have := g.once _ h1 _ hs rfl; cases this; rfl
      subst this
      rw [h2]; exact key
    · rw [h]
      cases s with
      | undef => exact key
      | _ =>
        exfalso
        have : ∀ (l : List (Nat × Slot)) (t : Nat) (s : Slot), (t, s) ∈ l → s ≠ .undef → (slotsT l).get t ≠ none := by
          intro l
          induction l with
          | nil => intro t s h; cases h
          | cons x l ih =>
            intro t s h hne
            have hp : ∀ (i : Nat) v, (T.put (slotsT l) i v).get t = if t = i then some v else (slotsT l).get t := fun i v => T.get_put _ _ _ _
            obtain ⟨i, s0⟩ := x
            rcases List.mem_cons.1 h with h1 | h1
            · cases h1
              cases s with
              | undef => exact absurd rfl hne
              | top => show (T.put (slotsT l) t _).get t ≠ none; rw [hp, if_pos rfl]; simp
              | bool b => show (T.put (slotsT l) t _).get t ≠ none; rw [hp, if_pos rfl]; simp
              | val v => show (T.put (slotsT l) t _).get t ≠ none; rw [hp, if_pos rfl]; simp
            · have k := ih t s h1 hne
              cases s0 with
              | undef => exact k
              | top => show (T.put (slotsT l) i _).get t ≠ none; rw [hp]; split <;> simp_all
              | bool b => show (T.put (slotsT l) i _).get t ≠ none; rw [hp]; split <;> simp_all
              | val v => show (T.put (slotsT l) i _).get t ≠ none; rw [hp]; split <;> simp_all
        exact this l t _ hs (by simp) h
  · have h0 := List.all_eq_true.1 g.all t (List.mem_range.2 ht)
    rw [Bool.or_eq_true, List.any_eq_true] at h0
    rcases h0 with ⟨x, hx, he⟩ | h0
    · exact absurd ⟨x.2, by have := Nat.eq_of_beq_eq_true he; rw [← this]; exact hx⟩ hm
    · rcases slotsT_get l t with ⟨s', h1, _⟩ | h
      · exact absurd ⟨s', h1⟩ hm
      · rw [h]; exact hund _ (undef_fits h0)
theorem once_of {l : List (Nat × Slot)} (h : (l.map (·.1)).Nodup) : ∀ x ∈ l, ∀ y ∈ l, x.1 = y.1 → x = y := by
  induction l with
  | nil => intro x hx; cases hx
  | cons a l ih =>
    rw [List.map_cons, List.nodup_cons] at h
    intro x hx y hy e
    rcases List.mem_cons.1 hx with h1 | h1
    · rcases List.mem_cons.1 hy with h2 | h2
      · rw [h1, h2]
      · exact (h.1 (List.mem_map.2 ⟨y, h2, by rw [← e, h1]⟩)).elim
    · rcases List.mem_cons.1 hy with h2 | h2
      · exact (h.1 (List.mem_map.2 ⟨x, h1, by rw [e, h2]⟩)).elim
      · exact ih h.2 x h1 y h2 e
/-- The described state. -/
def seenAs (H : AHeap) (l : List (Nat × Slot)) : St := ⟨slotsT l, [], H⟩
theorem TriW.seen {c : Code} {e : AExit} {H : AHeap} {l : List (Nat × Slot)} (h : TriW P m n S c e T') (g : GenT n ρ T' H l) (hl : ∀ x ∈ l, x.1 < n) (hp : ∀ i, i < m → ρ i = some i) : TriW P m n S c e (seenAs H l) := fun φ a w hs =>
  wpIn_mono (h φ a w hs) fun _ a' _ ⟨h1, ψ, h2, h3⟩ => ⟨h1, ψ.via ρ, {
    hr := h2.hr.gen g.heap
    fresh := g.heap.freshR ψ
    tr := fun t => by
      rcases Nat.lt_or_ge t n with ht | ht
      · exact g.slot ht ψ _ (h2.tr t)
      · rcases slotsT_get l t with ⟨s', h1, _⟩ | h
        · exact absurd (hl _ h1) (by simp only; omega)
        · show VR _ (((slotsT l).get t).getD Go.undef) _
          rw [h]
          have : a'.tmps.getD t Go.undef = Go.undef := by
            have := h2.size
            simp [Array.getD, show ¬ t < a'.tmps.size by omega]
          rw [this]; exact VR.undef _
    size := h2.size
    ds := by
      have h4 := h2.ds
      rw [g.ds] at h4
      exact dr_nil h4 rfl }, h3.gen g.heap hp⟩
theorem SR.seen {a : Act} {H : AHeap} {l : List (Nat × Slot)} (h2 : SR P ψ n T' a w) (g : GenT n ρ T' H l) (hl : ∀ x ∈ l, x.1 < n) : SR P (ψ.via ρ) n (seenAs H l) a w where
  hr := h2.hr.gen g.heap
  fresh := g.heap.freshR ψ
  tr := fun t => by
    rcases Nat.lt_or_ge t n with ht | ht
    · exact g.slot ht ψ _ (h2.tr t)
    · rcases slotsT_get l t with ⟨s', h1, _⟩ | h
      · exact absurd (hl _ h1) (by simp only; omega)
      · show VR _ (((slotsT l).get t).getD Go.undef) _
        rw [h]
        have : a.tmps.getD t Go.undef = Go.undef := by
          have := h2.size
          simp [Array.getD, show ¬ t < a.tmps.size by omega]
        rw [this]; exact VR.undef _
  size := h2.size
  ds := by
    have h4 := h2.ds
    rw [g.ds] at h4
    exact dr_nil h4 rfl
/-- What is so from the described state is so from the state itself. -/
theorem TriW.pre {c : Code} {e : AExit} {H : AHeap} {l : List (Nat × Slot)} (h : TriW P m n (seenAs H l) c e S') (g : GenT n ρ T' H l) (hl : ∀ x ∈ l, x.1 < n) (hp : ∀ i, i < m → ρ i = some i) : TriW P m n T' c e S' := fun φ a w hs =>
  wpIn_mono (h (φ.via ρ) a w (SR.seen hs g hl)) fun _ _ _ ⟨h1, ψ, h2, h3⟩ => ⟨h1, ψ, h2, {
    low := fun i b hi e => h3.low i b hi (Ren.via_some (hp i hi) e)
    cap := fun i b hi e => h3.cap i b hi (Ren.via_some (hp i hi) e)
    size := h3.size
    keep := fun b hb hno => h3.keep b hb (fun ho => hno (Owns.gen g.heap ho))
    owns := fun b hb => (h3.owns b hb).imp (fun ho => Owns.gen g.heap ho) id
    os := h3.os
    tape := h3.tape
    output := h3.output
    news := fun i b e => (h3.news i b e).imp (fun ⟨j, hj⟩ => let ⟨j', _, hj'⟩ := Ren.via_inv hj; ⟨j', hj'⟩) id }⟩
/-- A contract out of a run. -/
theorem Con.ok_of_run (hm : P.follows .mixedOrders = true) {X : ExtO} (hX : ExtOk P X.ext) {F : Word} (f : Nat) {c : Con} {K : AHeap} {ts : List Bool} (hx : (levO P X F f).call c.g c.args.toArray (heapOf c.n0 c.gl c.pre) = some (c.v, K, ts)) (ht : allT ts)
    (hn : K.next = c.next) (hg : K.gl = c.gl) (hp : ∀ x ∈ c.post, K.objs.get x.1 = some x.2) (hf : c.fits = true) : Con.Ok P c where
  fits := hf
  call := fun ha hh hfr => CallsIn.mono ((lev_ok hm hX f).ok.call ((levO_ok f).call hx ht) ha hh hfr) fun _ _ hr => RetOk.less hn.symm hg.symm (fun i o e => hp _ (heapOf_mem e)) hr
/-- A contract out of a function's code. -/
theorem Con.ok_of_tri {c : Con} {fn : Func} {b : Code} {e : AExit} {S' : St} (hfn : P.funcs[c.g]? = some fn) (hb : fn.body = some b) (hle : c.args.length ≤ fn.ntmps) (he : e = .normal ∨ e = .ret)
    (h : TriW P c.n0 fn.ntmps ⟨argsT c.args 0 .nil, [], heapOf c.n0 c.gl c.pre⟩ b e S') (hd : S'.ds = []) (hr : resultsA P S'.h fn S'.tm = some c.v) (hn : S'.h.next = c.next) (hg : S'.h.gl = c.gl)
    (hp : ∀ x ∈ c.post, S'.h.objs.get x.1 = some x.2) (hf : c.fits = true) : Con.Ok P c where
  fits := hf
  call := fun ha hh hfr => CallsIn.mono (TriW.ret (args := c.args.toArray) hfn hb (by simpa using hle) he (show TriW P c.n0 fn.ntmps ⟨argsT c.args.toArray.toList 0 .nil, [], heapOf c.n0 c.gl c.pre⟩ b e S' from h) hd hr hh hfr ha) fun _ _ hr => RetOk.less hn.symm hg.symm (fun i o e => hp _ (heapOf_mem e)) hr
end
section
variable {P : Program} {m n : Nat} {S S' M M2 : St}
theorem TriW.around2 (hm : P.follows .mixedOrders = true) {X Y : Ext} (hX : ExtOk P X) (hY : ExtOk P Y) (f : Nat) : ∀ (p : List Bool) {c : Code} {e : AExit} {S S' : St},
    codeS P (levX P X f) none n (Code.ahead p c) S = some (.normal, M) → TriW P m n M (Code.hole p c) .normal M2 → codeS P (levX P Y f) none n (Code.behind p c) M2 = some (e, S') → TriW P m n S c e S'
  | [], c, e, S, S', h1, h2, h3 => by
    have e1 : (some (AExit.normal, S) : Option (AExit × St)) = some (.normal, M) := h1
    have e3 : (some (AExit.normal, M2) : Option (AExit × St)) = some (e, S') := h3
    cases e1; cases e3
    exact h2
  | false :: p, .seq a b, e, S, S', h1, h2, h3 => by
    have h3' : (match codeS P (levX P Y f) none n (Code.behind p a) M2 with | some (.normal, st') => codeS P (levX P Y f) none n b st' | r => r) = some (e, S') := h3
    cases hb : codeS P (levX P Y f) none n (Code.behind p a) M2 with
    | none => rw [hb] at h3'; cases h3'
    | some q =>
      obtain ⟨e1, st1⟩ := q
      rw [hb] at h3'
      have ih := fun {e2 st2} hh => TriW.around2 hm hX hY f p (c := a) (e := e2) (S := S) (S' := st2) h1 h2 hh
      by_cases he : e1 = .normal
      · subst he
        exact TriW.seq (ih hb) (TriW.runS hm hY f h3')
      · have : (e1, st1) = (e, S') := by
          cases e1 with
          | normal => exact absurd rfl he
          | _ => simpa using h3'
        cases this
        exact TriW.seq_out he (ih hb)
  | true :: p, .seq a b, e, S, S', h1, h2, h3 => by
    have h1' : (match codeS P (levX P X f) none n a S with | some (.normal, st') => codeS P (levX P X f) none n (Code.ahead p b) st' | r => r) = some (.normal, M) := h1
    cases hb : codeS P (levX P X f) none n a S with
    | none => rw [hb] at h1'; cases h1'
    | some q =>
      obtain ⟨e1, st1⟩ := q
      rw [hb] at h1'
      by_cases he : e1 = .normal
      · subst he
        exact TriW.seq (TriW.runS hm hX f hb) (TriW.around2 hm hX hY f p (c := b) h1' h2 h3)
      · cases e1 with
        | normal => exact absurd rfl he
        | _ => simp at h1'
  | false :: p, .skip, _, _, _, h1, _, _ | false :: p, .label _, _, _, _, h1, _, _ | false :: p, .ret, _, _, _, h1, _, _ | false :: p, .exit _, _, _, _, h1, _, _ | false :: p, .goto _, _, _, _, h1, _, _
  | false :: p, .refuse _, _, _, _, h1, _, _ | false :: p, .cond _ _ _, _, _, _, h1, _, _ | false :: p, .block _ _, _, _, _, h1, _, _ | false :: p, .loop _, _, _, _, h1, _, _ | false :: p, .scope _, _, _, _, h1, _, _
  | false :: p, .region _ _ _, _, _, _, h1, _, _ | false :: p, .rangeFunc _ _ _ _, _, _, _, h1, _, _ => by cases h1
  | true :: p, .skip, _, _, _, h1, _, _ | true :: p, .label _, _, _, _, h1, _, _ | true :: p, .ret, _, _, _, h1, _, _ | true :: p, .exit _, _, _, _, h1, _, _ | true :: p, .goto _, _, _, _, h1, _, _
  | true :: p, .refuse _, _, _, _, h1, _, _ | true :: p, .cond _ _ _, _, _, _, h1, _, _ | true :: p, .block _ _, _, _, _, h1, _, _ | true :: p, .loop _, _, _, _, h1, _, _ | true :: p, .scope _, _, _, _, h1, _, _
  | true :: p, .region _ _ _, _, _, _, h1, _, _ | true :: p, .rangeFunc _ _ _ _, _, _, _, h1, _, _ => by cases h1
end
section
variable {P : Program} {m n : Nat} {S S' T T' : St}
/-- An object that names but what lay there. -/
def LowM (m : Nat) (o : AObj) : Prop := ∀ ρ : Nat → Option Nat, (∀ i, i < m → ρ i = some i) → OG ρ o o
def cutR (m i : Nat) : Option Nat := if i < m then some i else none
theorem TriW.frame {c : Code} {e : AExit} (h : TriW P m n S c e S') (t1 : T.tm = S.tm) (d1 : T.ds = S.ds) (t2 : T'.tm = S'.tm) (d2 : T'.ds = S'.ds)
    (n1 : S.h.next = T.h.next) (g1 : S.h.gl = T.h.gl) (s1 : ∀ i o, S.h.objs.get i = some o → T.h.objs.get i = some o)
    (n2 : T'.h.next = S'.h.next) (g2 : T'.h.gl = S'.h.gl)
    (hk : ∀ i o, T'.h.objs.get i = some o → S'.h.objs.get i = some o ∨ (T.h.objs.get i = some o ∧ S.h.objs.get i = none ∧ i < m ∧ LowM m o))
    (hw : ∀ i o, S'.h.objs.get i = some o → (m ≤ i ∧ o.wr = true) ∨ (i < m ∧ ∃ o1, S.h.objs.get i = some o1)) : TriW P m n T c e T' := fun φ a w hs => by
  have hh := hs.hr
  have hs1 : SR P φ n S a w := ⟨hh.less g1 s1, fun i hi => hs.fresh i (n1 ▸ hi), fun t => t1 ▸ hs.tr t, hs.size, d1 ▸ hs.ds⟩
  refine wpIn_mono (h φ a w hs1) ?_
  rintro x a' w' ⟨hx, ψ, h2, hgo⟩
  have hr := h2.hr
  have own1 : ∀ {b}, Owns φ S.h b → Owns φ T.h b := Owns.less s1
  have out : ∀ {i o b}, T.h.objs.get i = some o → S.h.objs.get i = none → φ i = some b → ¬ Owns φ S.h b := fun {i o b} hi h0 eb ⟨j, p, ej, hp, ebj⟩ => by
    have := hh.inj j i p o b (s1 _ _ ej) hi ebj eb hp
    subst this
    rw [h0] at ej; cases ej
  have apart : ∀ {i j o p b}, S'.h.objs.get i = some o → ψ i = some b → T.h.objs.get j = some p → S.h.objs.get j = none → φ j = some b → (o.wr = true ∨ p.wr = true) → False := fun {i j o p b} hi ei hj h0 ej hwr => by
    have hlt := hh.rng j b ej
    rcases hw i o hi with ⟨_, hwo⟩ | ⟨him, o1, ho1⟩
    · exact (hgo.owns b ⟨i, o, hi, hwo, ei⟩).elim (fun ho => out hj h0 ej ho) (fun hge => by omega)
    · obtain ⟨b1, z, eb1, _, _⟩ := hh.dom i o1 (s1 _ _ ho1)
      have : ψ i = some b1 := hgo.low i b1 him eb1
      rw [ei] at this
      cases this
      rcases hwr with hwr | hwr
      · exact (hgo.owns b ⟨i, o, hi, hwr, ei⟩).elim (fun ho => out hj h0 ej ho) (fun hge => by omega)
      · have := hh.inj j i p o1 b hj (s1 _ _ ho1) ej eb1 hwr
        subst this
        rw [h0] at ho1; cases ho1
  have mono : ∀ {o z}, LowM m o → OR φ o z → OR ψ o z := fun {o z} hl ho => by
    have h1 : OR (φ.via (cutR m)) o z := hl (cutR m) (fun i hi => if_pos hi) φ z ho
    have hle : (φ.via (cutR m)).le ψ := by
      constructor
      · intro i b eb
        obtain ⟨j, e1, e2⟩ := Ren.via_inv eb
        by_cases hi : i < m
        · rw [cutR, if_pos hi] at e1; cases e1
          exact hgo.low _ b hi e2
        · rw [cutR, if_neg hi] at e1; cases e1
      · intro i b eb
        obtain ⟨j, e1, e2⟩ := Ren.via_inv eb
        by_cases hi : i < m
        · rw [cutR, if_pos hi] at e1; cases e1
          exact hgo.cap _ b hi e2
        · rw [cutR, if_neg hi] at e1; cases e1
    exact OR.mono hle h1
  refine ⟨hx, ψ, ⟨⟨fun i o e => ?_, fun i j o p b hi hj ei ej hwr => ?_, fun i hi => hr.glob i (g2 ▸ hi), hr.rng, fun i fl c e b c' fr hi eb hb hsz => ?_⟩, fun i hi => h2.fresh i (n2 ▸ hi), fun t => t2 ▸ h2.tr t, h2.size, d2 ▸ h2.ds⟩, ?_⟩
  · rcases hk i o e with h | ⟨h, h0, him, hlo⟩
    · exact hr.dom i o h
    · obtain ⟨b, z, e1, e2, e3⟩ := hh.dom i o h
      exact ⟨b, z, hgo.low i b him e1, (hgo.keep b (hh.rng i b e1) (out h h0 e1)).trans e2, mono hlo e3⟩
  · rcases hk i o hi with h | ⟨h, h0, him, hlo⟩
    · rcases hk j p hj with k | ⟨k, k0, kim, klo⟩
      · exact hr.inj i j o p b h k ei ej hwr
      · obtain ⟨b', _, ej', _⟩ := hh.dom j p k
        have := hgo.low j b' kim ej'
        rw [ej] at this; cases this
        exact (apart h ei k k0 ej' (.inl hwr)).elim
    · obtain ⟨b', _, ei', _⟩ := hh.dom i o h
      have := hgo.low i b' him ei'
      rw [ei] at this; cases this
      rcases hk j p hj with k | ⟨k, k0, kim, klo⟩
      · exact (apart k ej h h0 ei' (.inr hwr)).elim
      · obtain ⟨b2, _, ej', _⟩ := hh.dom j p k
        have := hgo.low j b2 kim ej'
        rw [ej] at this; cases this
        exact hh.inj i j o p b h k ei' ej' hwr
  · rcases hk i _ hi with h | ⟨h, h0, him, hlo⟩
    · exact hr.caps i fl c e b c' fr h eb hb hsz
    · obtain ⟨b', z, ei', ez, _⟩ := hh.dom i _ h
      have := hgo.low i b' him ei'
      rw [eb] at this; cases this
      rw [hgo.keep b (hh.rng i b ei') (out h h0 ei')] at hb
      rw [hgo.cap i b him ei']
      exact hh.caps i fl c e b c' fr h ei' hb hsz
  · refine ⟨hgo.low, hgo.cap, hgo.size, fun b hb hno => hgo.keep b hb (fun ho => hno (own1 ho)), fun b hb => ?_, hgo.os, hgo.tape, hgo.output, hgo.news⟩
    obtain ⟨i, o, e, ho, eb⟩ := hb
    rcases hk i o e with h | ⟨h, h0, him, hlo⟩
    · exact (hgo.owns b ⟨i, o, h, ho, eb⟩).imp own1 id
    · obtain ⟨b', _, ei', _⟩ := hh.dom i o h
      have := hgo.low i b' him ei'
      rw [eb] at this; cases this
      exact .inl ⟨i, o, h, ho, ei'⟩
theorem heapOf_app (k g : Nat) : ∀ (l x : List (Nat × AObj)) (i : Nat), (heapOf k g (l ++ x)).objs.get i = ((heapOf k g l).objs.get i).or ((heapOf k g x).objs.get i)
  | [], x, i => rfl
  | y :: l, x, i => by
    have ih := heapOf_app k g l x i
    rw [List.cons_append, show (heapOf k g (y :: (l ++ x))).objs = (heapOf k g (l ++ x)).objs.put y.1 y.2 from rfl, show (heapOf k g (y :: l)).objs = (heapOf k g l).objs.put y.1 y.2 from rfl, T.get_put, T.get_put]
    by_cases h : i = y.1
    · rw [if_pos h, if_pos h]; rfl
    · rw [if_neg h, if_neg h]; exact ih
theorem TriW.beside {c : Code} {e : AExit} {k k' g : Nat} {l l' x : List (Nat × AObj)} {s s' : List (Nat × Slot)} (h : TriW P m n (seenAs (heapOf k g l) s) c e (seenAs (heapOf k' g l') s'))
    (hx : ∀ p ∈ x, p.1 < m ∧ LowM m p.2 ∧ p.1 ∉ l.map (·.1)) (hw : ∀ p ∈ l', (m ≤ p.1 ∧ p.2.wr = true) ∨ (p.1 < m ∧ p.1 ∈ l.map (·.1))) :
    TriW P m n (seenAs (heapOf k g (l ++ x)) s) c e (seenAs (heapOf k' g (l' ++ x)) s') := by
  refine TriW.frame h rfl rfl rfl rfl rfl rfl ?_ rfl rfl ?_ ?_
  · intro i o hi
    show (heapOf k g (l ++ x)).objs.get i = some o
    rw [heapOf_app, show (heapOf k g l).objs.get i = some o from hi]; rfl
  · intro i o hi
    have hi' : (heapOf k' g (l' ++ x)).objs.get i = some o := hi
    rw [heapOf_app] at hi'
    cases hl : (heapOf k' g l').objs.get i with
    | some o' =>
      rw [hl] at hi'
      exact .inl (hl.trans hi')
    | none =>
      rw [hl, Option.none_or] at hi'
      have hm := heapOf_mem hi'
      obtain ⟨h1, h2, h3⟩ := hx _ hm
      have h0 : (heapOf k g l).objs.get i = none := heapOf_none h3
      refine .inr ⟨?_, h0, h1, h2⟩
      show (heapOf k g (l ++ x)).objs.get i = some o
      rw [heapOf_app, h0, Option.none_or]
      exact hi'
  · intro i o hi
    rcases hw _ (heapOf_mem hi) with h1 | ⟨h1, h2⟩
    · exact .inl h1
    · exact .inr ⟨h1, heapOf_some h2⟩
end
end Go.Vi
end
