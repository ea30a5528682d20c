/-
  EngineNotes returns true whatever the notes and what stands between them, part 2: GrA2, GrA3. Conditions: none but those of the row.
-/
import Derived.Test.YtabpbpdhapaffaaGreatDoorNts01
set_option linter.unusedSimpArgs false
set_option linter.unusedVariables false
section
namespace Go.Vi
section

/-! ### What hangs on the program alone -/
/-- The outcome of a piece of semantics that looks at no memory. -/
def pureRun {α : Type} (P : Program) : Sem α → Option α
  | .pure a => some a
  | .program k => pureRun P (k P)
  | .mark _ k => pureRun P k
  | .choose q k => bif q.forced then pureRun P (k 0) else none
  | _ => none

/-- The same, where the outcome names no block. -/
def pureV (P : Program) (s : Sem Value) : Option Value :=
  match pureRun P s with
  | some v => bif bare 20 v then some v else none
  | none => none
def isAggT (P : Program) (t : TypeId) : Option Bool :=
  match P.underlying t with
  | some (.struct _) | some (.array _ _) => some true
  | some _ => some false
  | none => none
def sizeT (P : Program) (t : TypeId) : Option Nat := (P.info? t).map (·.size)
def zeroT (P : Program) (t : TypeId) : Option Value := (P.info? t).bind (·.zero)

/-! ### The heap's own moves -/
def AHeap.cell? (H : AHeap) (a : Addr) : Option Value :=
  match a.spot, H.objs.get a.block with
  | none, some (.cells _ c _) => c[a.off]?
  | _, _ => none
def AHeap.cells? (H : AHeap) (a : Addr) (n : Nat) : Option (List Value) :=
  match a.spot, H.objs.get a.block with
  | none, some (.cells _ c _) => let r := (c.drop a.off).take n; bif Nat.beq r.length n then some r else none
  | _, _ => none
def AHeap.new (H : AHeap) (o : AObj) : AHeap := { H with next := H.next + 1, objs := H.objs.put H.next o }
def AHeap.set (H : AHeap) (i : Nat) (o : AObj) : AHeap := { H with objs := H.objs.put i o }
/-- A name let go. -/
def AHeap.drop (H : AHeap) (i : Nat) : AHeap := { H with objs := H.objs.del i }
def splice (c : List Value) (o : Nat) (vs : List Value) : List Value := c.take o ++ (vs ++ c.drop (o + vs.length))
def AHeap.store? (H : AHeap) (a : Addr) (vs : List Value) : Option AHeap :=
  match a.spot, H.objs.get a.block with
  | none, some (.cells fl c e) => bif fl.wr && Nat.ble (a.off + vs.length) c.length && vs.all oneCell then some (H.set a.block (.cells fl (splice c a.off vs) e)) else none
  | _, _ => none

def addAddr (a : Addr) (n : Nat) : Addr := ⟨a.block, a.off + n, none⟩
/-- A variable's value, at an address. -/
def loadV (P : Program) (H : AHeap) (t : TypeId) (a : Addr) : Option Value :=
  match isAggT P t with
  | some true => match sizeT P t with
    | some n => (H.cells? a n).map fun l => .agg l.toArray
    | none => none
  | some false => H.cell? a
  | none => none
def storeV (P : Program) (H : AHeap) (t : TypeId) (a : Addr) (v : Value) : Option AHeap :=
  match sizeT P t with
  | some n => bif Nat.beq v.cells.size n then H.store? a v.cells.toList else none
  | none => none

inductive ANext : Type where
  | value (v : Value)
  | skip
  | enter (f : FuncId) (args : Array Value)
  | round (l : Nat) (args : Array Value)

/-- A new block, and the value that names it. -/
inductive NewV | ptr | slice (l c : Nat) | map
def NewV.at (k : NewV) (i : Nat) : Value :=
  match k with
  | .ptr => .pointer (some ⟨i, 0, none⟩)
  | .slice l c => .slice (some ⟨i, 0, none⟩) l c
  | .map => .map (some i)

def okInt (n : Int) : Bool := decide (0 ≤ n)
/-- What is known of a capacity. -/
def capLow (c : Nat) : Nat := c / 2
def isOpen (c : Nat) : Bool := Nat.beq (c % 2) 1

def optInt : Option Value → Option (Option Nat)
  | none => some none
  | some (.int _ n) => bif okInt n then some (some n.toNat) else none
  | _ => none

/-- 'x[l:h:m]' of a slice: all bounds within what is known of the capacity. -/
def sliceV (P : Program) (e : TypeId) (a : Option Addr) (len cap : Nat) (lo hi mx : Option Nat) : Option Value :=
  match sizeT P e with
  | none => none
  | some size =>
    let h := hi.getD len
    let l := lo.getD 0
    match a, mx with
    | none, none => bif Nat.beq h 0 && Nat.beq l 0 then some (.slice none 0 0) else none
    | none, some m => bif Nat.beq h 0 && Nat.beq l 0 && Nat.beq m 0 && hi.isSome then some (.slice none 0 0) else none
    | some a, none =>
      bif a.spot.isSome then (bif Nat.beq h 0 && Nat.beq l 0 then some (.slice (some nowhere) 0 cap) else none)
      else bif Nat.ble h (capLow cap) && Nat.ble l h && (!isOpen cap || Nat.beq l 0 || !(Nat.beq size 0)) then
        (bif Nat.beq (capLow cap) l && isOpen cap then some (.slice (some nowhere) 0 (cap - 2 * l))
         else some (.slice (some (bif Nat.beq (capLow cap) l then a else addAddr a (l * size))) (h - l) (cap - 2 * l)))
      else none
    | some a, some m =>
      bif a.spot.isSome then (bif Nat.beq h 0 && Nat.beq l 0 && Nat.beq m 0 && hi.isSome then some (.slice (some nowhere) 0 0) else none)
      else bif Nat.ble m (capLow cap) && Nat.ble h m && Nat.ble l h && hi.isSome then
        some (.slice (some (bif Nat.beq m l then a else addAddr a (l * size))) (h - l) (2 * (m - l)))
      else none

def concreteT (P : Program) (t : TypeId) : Bool :=
  match P.underlying t with
  | some (.interface _) => false
  | some _ => true
  | none => false
def assertFails (P : Program) (t : TypeId) (ok : Bool) : Option Value :=
  bif ok then
    (match zeroT P t with
     | some z => bif bare 20 z then some (.tuple #[z, .bool false]) else none
     | none => none)
  else none
def typeAsrt (P : Program) (t : TypeId) (ok : Bool) : Value → Option Value
  | .iface u v => bif Nat.beq u t then some (bif ok then .tuple #[v, .bool true] else v) else assertFails P t ok
  | .nilIface => assertFails P t ok
  | _ => none
/-- '==' and '!=' of something that is not nil and nil. -/
def nilEq (P : Program) (t : TypeId) (op : BinOp) (u v : Value) : Option Bool :=
  match op with
  | .eql => eq
  | .neq => eq.map not
  | _ => none
where
  eq : Option Bool :=
    match u, v with
    | .pointer (some _), .pointer none | .pointer none, .pointer (some _) => (match P.underlying t with | some (.pointer _) => some false | _ => none)
    | .slice (some _) _ _, .slice none _ _ | .slice none _ _, .slice (some _) _ _ => (match P.underlying t with | some (.slice _) => some false | _ => none)
    | .map (some _), .map none => (match P.underlying t with | some (.map _ _) => some false | _ => none)
    | .func _ _ _, .nilFunc => (match P.underlying t with | some (.func ..) => some false | _ => none)
    | _, _ => none
/-- Operations that hang on their operands alone. -/
def pureOp (P : Program) (ρ : Operand → Value) (o : Oper) : Option Value :=
  match o.op with
  | .move x | .assign x => some (ρ x)
  | .pick c a b => match ρ c with | .bool t => some (bif t then ρ a else ρ b) | _ => none
  | .nilCheck x => match ρ x with | .pointer (some a) => some (.pointer (some a)) | _ => none
  | .fieldAddr s x f =>
    match P.underlying s, ρ x with
    | some (.struct fields), .pointer (some a) => match fields[f]? with
      | some fd => match a.spot, sizeT P fd.type with
        | none, some (_ + 1) => some (.pointer (some (addAddr a fd.offset)))
        | _, _ => none
      | none => none
    | _, _ => none
  | .field t x f =>
    match P.underlying t, ρ x with
    | some (.struct fields), .agg cs => match fields[f]? with
      | some fd => match isAggT P fd.type, sizeT P fd.type with
        | some true, some n => some (.agg (cs.extract fd.offset (fd.offset + n)))
        | some false, _ => cs[fd.offset]?
        | _, _ => none
      | none => none
    | _, _ => none
  | .build t parts => bif (match zeroT P t with | some z => bare 20 z | none => false) then pureRun P (Instr.build t (parts.map fun (x : Nat × Operand) => (x.1, ρ x.2))) else none
  | .extract t i => match ρ t with | .tuple vs => vs[i]? | _ => none
  | .makeInterface t x => match P.underlying t with | some (.interface _) => none | some _ => some (.iface t (ρ x)) | none => none
  | .makeFunc (.func f) first captured => some (.func (.func f) (first.map ρ) (captured.map ρ))
  | .indexAddr t x i =>
    match P.underlying t, ρ x, ρ i with
    | some (.slice e), .slice (some a) len _, .int _ n => match a.spot, sizeT P e with
      | none, some size => bif okInt n && decide (n < len) then some (.pointer (some (addAddr a (n.toNat * size)))) else none
      | _, _ => none
    | some (.array len e), .pointer (some a), .int _ n => match a.spot, sizeT P e with
      | none, some size => bif okInt n && decide (n < len) then some (.pointer (some (addAddr a (n.toNat * size)))) else none
      | _, _ => none
    | _, _, _ => none
  | .slice t x lo hi mx =>
    match P.underlying t, ρ x with
    | some (.slice e), .slice a len cap =>
      match optInt (lo.map ρ), optInt (hi.map ρ), optInt (mx.map ρ) with
      | some l, some h, some m => sliceV P e a len cap l h m
      | _, _, _ => none
    | some (.array n e), .pointer (some a) =>
      match a.spot, sizeT P e, optInt (lo.map ρ), optInt (hi.map ρ), mx with
      | none, some size, some l, some h, none =>
        let h := h.getD n
        let l := l.getD 0
        bif Nat.ble h n && Nat.ble l h then some (.slice (some (bif Nat.beq n l then a else addAddr a (l * size))) (h - l) (2 * (n - l))) else none
      | _, _, _, _, _ => none
    | some .string, .string s => bif (lo.map ρ).toList.all (bare 20) && (hi.map ρ).toList.all (bare 20) && (mx.map ρ).toList.all (bare 20) then pureV P (Instr.slice t (.string s) (lo.map ρ) (hi.map ρ) (mx.map ρ)) else none
    | _, _ => none
  | .binOp op t x y _ =>
    match nilEq P t op (ρ x) (ρ y) with
    | some r => some (.bool r)
    | none => bif bare 20 (ρ x) && bare 20 (ρ y) then pureV P (do eqGuard op t x y (ρ x) (ρ y); binOp op t (ρ x) (ρ y)) else none
  | .unOp op _ x => bif bare 20 (ρ x) then pureV P (Op.unary op (ρ x)) else none
  | .convert src dst x =>
    match P.underlying src, P.underlying dst, ρ x with
    | some (.slice _), _, _ => none
    | some .string, some (.slice _), _ => none
    | some (.pointer _), _, _ | some .unsafePointer, _, _ => none
    | _, _, u => bif bare 20 u then pureV P (convert src dst u) else none
  | .index t x i =>
    match ρ x with
    | .string s => bif bare 20 (ρ i) then pureV P (Instr.index t (.string s) (ρ i)) else none
    | .agg cs =>
      match P.underlying t, ρ i with
      | some (.array len e), .int _ n => match isAggT P e, sizeT P e with
        | some true, some sz => bif okInt n && decide (n < len) then some (.agg (cs.extract (n.toNat * sz) (n.toNat * sz + sz))) else none
        | some false, some sz => bif okInt n && decide (n < len) then cs[n.toNat * sz]? else none
        | _, _ => none
      | _, _ => none
    | _ => none
  | .typeAssert x _ at_ ok => bif concreteT P at_ then typeAsrt P at_ ok (ρ x) else none
  | .call { callee := .builtin .len, args, argTypes } =>
    match argTypes[0]?.bind P.underlying, args[0]?.map ρ with
    | some .string, some (.string s) => some (.int .i64 s.size)
    | some (.slice _), some (.slice _ n _) => some (.int .i64 n)
    | some (.array n _), some _ => some (.int .i64 n)
    | some (.map _ _), some (.map none) => some (.int .i64 0)
    | _, _ => none
  | .call { callee := .builtin .min, args, argTypes } => let l := args.map ρ; bif l.toList.all (bare 20) then pureV P (Builtin.min_ argTypes o.type l) else none
  | .call { callee := .builtin .max, args, argTypes } => let l := args.map ρ; bif l.toList.all (bare 20) then pureV P (Builtin.max_ argTypes o.type l) else none
  | .call { callee := .value (.func f), args, .. } =>
    match P.funcs[f]? with
    | some fn => bif fn.body.isNone && !(fn.name == "runtime.NumGoroutine") then
        (bif fn.name == "internal/abi.NoEscape" then (bif Nat.beq args.size 1 && (Extern.findNext fn).isNone then args[0]?.map ρ else none) else
          let l := args.map ρ
          bif l.toList.all (bare 20) then
            (match Extern.findNext fn, Extern.find fn with
             | none, some e => pureV P (e l)
             | _, _ => none)
          else none)
      else none
    | none => none
  | _ => none

/-- Equality of keys and of comparable values that name no block. -/
def keyEq (P : Program) (t : TypeId) (x y : Value) : Option Bool := bif bare 20 x && bare 20 y then pureRun P (Op.equal t x y) else none
/-- A key that names no block and can be hashed. -/
def keyOk (P : Program) (empty : Bool) (t : TypeId) (k : Value) : Bool :=
  bare 20 k && (match pureRun P (Instr.checkKey empty 10000 t k) with | some _ => true | none => false)
def findK (P : Program) (t : TypeId) (k : Value) : List MapEntry → Nat → Option (Option (Nat × Value))
  | [], _ => some none
  | e :: es, i => match keyEq P t k e.key with
    | some true => some (some (i, e.val))
    | some false => findK P t k es (i + 1)
    | none => none

def byteVals (l : List UInt8) : List Value := l.map fun b => Value.int .u8 b.toNat
def bytesL : List Value → Option (List UInt8)
  | [] => some []
  | .int .u8 n :: l => match bytesL l with
    | some r => some (UInt8.ofNat n.toNat :: r)
    | none => none
  | _ :: _ => none

def mapOf (H : AHeap) : Value → Option (List MapEntry)
  | .map none => some []
  | .map (some r) => match H.objs.get r with
    | some (.map es _) => some es
    | _ => none
  | _ => none
/-- Operations that look at memory and leave it as it is. -/
def readOp (P : Program) (H : AHeap) (ρ : Operand → Value) (o : Oper) : Option Value :=
  match o.op with
  | .load t x => match ρ x with | .pointer (some a) => loadV P H t a | _ => none
  | .lookup t m k ok =>
    match P.underlying t with
    | some (.map kt et) =>
      match mapOf H (ρ m) with
      | some es =>
        bif keyOk P es.isEmpty kt (ρ k) then
          (match findK P kt (ρ k) es 0 with
           | some (some (_, v)) => some (bif ok then .tuple #[v, .bool true] else v)
           | some none =>
             (match zeroT P et with
              | some z => bif bare 20 z then some (bif ok then .tuple #[z, .bool false] else z) else none
              | none => none)
           | none => none)
        else none
      | none => none
    | _ => none
  | .call { callee := .builtin .len, args, argTypes } =>
    match argTypes[0]?.bind P.underlying, args[0]?.map ρ with
    | some (.map _ _), some (.map (some r)) => (match H.objs.get r with | some (.map es _) => some (.int .i64 es.length) | _ => none)
    | _, _ => none
  | .convert src dst x =>
    match P.underlying src, P.underlying dst, ρ x with
    | some (.slice e), some .string, .slice a len _ =>
      (match P.underlying e with
       | some (.int .u8) =>
         (match a with
          | none => some (.string .empty)
          | some a => bif Nat.beq len 0 then some (.string .empty) else (H.cells? a len).bind fun l => (bytesL l).map fun r => .string ⟨r.toArray⟩)
       | _ => none)
    | some (.pointer t), some .unsafePointer, .pointer (some a) =>
      (match a.spot, H.objs.get a.block, sizeT P t with
       | none, some (.cells _ c _), some (_ + 1) => bif Nat.blt a.off c.length then some (.pointer (some a)) else none
       | _, _, _ => none)
    | some .unsafePointer, some (.pointer u), .pointer (some a) =>
      (match a.spot, H.objs.get a.block, sizeT P u with
       | none, some (.cells _ c e), some (n + 1) => bif Nat.beq a.off 0 && Nat.beq e u && Nat.beq (P.cellsOf e) (n + 1) && Nat.ble (n + 1) c.length then some (.pointer (some a)) else none
       | _, _, _ => none)
    | _, _, _ => none
  | .binOp op t x y _ =>
    match op, P.underlying t, ρ x, ρ y with
    | .eql, some (.pointer e), .pointer (some a), .pointer (some b) => (ptrEq e a b).map .bool
    | .neq, some (.pointer e), .pointer (some a), .pointer (some b) => (ptrEq e a b).map fun t => .bool (!t)
    | _, _, _, _ => none
  | .entry it =>
    match ρ it with
    | .pointer (some ⟨r, 0, none⟩) => (match H.objs.get r with
      | some (.mIter (some m) _ seen stepped) => (match seen.getLast?, H.objs.get m with
        | some stamp, some (.map es clock) => bif Nat.beq clock stepped then (match es.find? (fun e => Nat.beq e.born stamp) with | some e => some (.tuple #[e.key, e.val]) | none => none) else none
        | _, _ => none)
      | _ => none)
    | _ => none
  | .call { callee := .builtin .unsafeSliceData, args, .. } =>
    match args[0]?.map ρ, args.size with
    | some (.slice (some a) _ c), 1 => bif Nat.beq (capLow c) 0 || a.spot.isSome then none else some (.pointer (some a))
    | some (.slice none _ _), 1 => some (.pointer none)
    | _, _ => none
  | _ => none
where
  ptrEq (e : TypeId) (a b : Addr) : Option Bool :=
    match sizeT P e with
    | some (_ + 1) =>
      bif Nat.beq a.block b.block then some (Nat.beq a.off b.off)
      else match H.objs.get a.block, H.objs.get b.block with
        | some (.cells .own _ _), some (.cells .own _ _) => some false
        | some (.cells .own _ _), some (.cells (.open_ _) _ _) => some false
        | some (.cells (.open_ _) _ _), some (.cells .own _ _) => some false
        | some (.cells (.open_ _) _ _), some (.cells (.open_ _) _ _) => some false
        | _, _ => none
    | _ => none

/-- Operations that make one block and touch no other. -/
def newOp (P : Program) (ρ : Operand → Value) (o : Oper) : Option (AObj × NewV) :=
  match o.op with
  | .alloc t => (zeroT P t).bind fun z => bif bare 20 z then some (.cells .own z.cells.toList t, .ptr) else none
  | .box t x => some (.cells .own (ρ x).cells.toList t, .ptr)
  | .buildSlice t len parts =>
    match P.underlying t with
    | some (.slice e) => match sizeT P e with
      | some size =>
        bif Nat.ble (len * size) 16777216 then
          (match (bif Nat.beq (len * size) 0 then some #[] else (zeroT P e).bind fun z => bif bare 20 z then some z.cells else none) with
           | some zero => (Instr.fill (fun i => some (i * size, size)) ((Array.range (len * size)).map (zero[· % zero.size]!)) (parts.toList.map fun (i, x) => (i, ρ x))).map fun cells => (.cells .own cells.toList e, .slice len (2 * len))
           | none => none)
        else none
      | none => none
    | _ => none
  | .makeMap t r => match r, P.underlying t with | none, some (.map _ _) => some (.map [] 0, .map) | _, _ => none
  | .makeSlice t l c =>
    match P.underlying t, ρ l, ρ c with
    | some (.slice e), .int _ n, .int _ m =>
      match P.info? e with
      | some i =>
        bif okInt n && decide (n ≤ m) && decide (m < 1099511627776) && decide (i.bytes * m ≤ 281474976710656) then
          (match (bif Nat.beq (m.toNat * i.size) 0 then some #[] else i.zero.bind fun z => bif bare 20 z then some z.cells else none) with
           | some zero => some (.cells .own ((Array.range (m.toNat * i.size)).map (zero[· % zero.size]!)).toList e, .slice n.toNat (2 * m.toNat))
           | none => none)
        else none
      | none => none
    | _, _, _ => none
  | .convert src dst x =>
    match P.underlying src, P.underlying dst, ρ x with
    | some .string, some (.slice e), .string s =>
      (match P.underlying e with
       | some (.int .u8) => some (.cells (.mark 1) (byteVals s.data.toList) e, .slice s.size (2 * s.size + 1))
       | _ => none)
    | _, _, _ => none
  | _ => none

/-- What is laid behind a slice: how many elements, and their cells. -/
def srcOf (H : AHeap) (size : Nat) : TypeDesc → Value → Option (Nat × List Value)
  | .slice _, .slice (some a) n _ => bif Nat.beq n 0 then some (0, []) else
    match H.cells? a (n * size) with
    | some l => some (n, l)
    | none => none
  | .slice _, .slice none n _ => bif Nat.beq n 0 then some (0, []) else none
  | .string, .string t => some (t.size, byteVals t.data.toList)
  | _, _ => none
/-- 'append': within what is known of the capacity; behind a nil slice; behind a row of a known capacity; behind one of an open capacity (the row goes over to a new name). -/
def appendB (H : AHeap) (e : TypeId) (size bytes : Nat) (base : Option Addr) (sLen sCap n : Nat) (new : List Value) : Option (Value × AHeap) :=
  bif Nat.ble (sLen + n) (capLow sCap) then
    match base with
    | some a => bif a.spot.isSome then none else
      match H.store? (addAddr a (sLen * size)) new with
      | some K => some (.slice (some a) (sLen + n) sCap, K)
      | none => none
    | none => bif Nat.beq n 0 && Nat.beq sLen 0 && Nat.beq sCap 0 then some (.slice none 0 0, H) else none
  else bif Nat.ble ((sLen + n) * 2 * (bytes + 1)) 140737488355328 && new.all oneCell && Nat.beq new.length (n * size) then
    match base with
    | none => bif Nat.beq sLen 0 && Nat.beq sCap 0 then some (.slice (some ⟨H.next, 0, none⟩) (sLen + n) (2 * (sLen + n) + 1), H.new (.cells (.open_ size) new e)) else none
    | some a =>
      bif a.spot.isSome then none else
      bif isOpen sCap then
        match H.objs.get a.block with
        | some (.cells fl c e') =>
          bif Nat.beq a.off 0 && Nat.beq c.length (sLen * size) && Nat.beq fl.sz size && !(Nat.beq size 0) && Nat.beq e e' then
            some (.slice (some ⟨H.next, 0, none⟩) (sLen + n) (2 * (sLen + n) + 1), (H.drop a.block).new (.cells fl (c ++ new) e))
          else none
        | _ => none
      else
        match H.cells? a (sLen * size) with
        | some old => some (.slice (some ⟨H.next, 0, none⟩) (sLen + n) (2 * (sLen + n) + 1), H.new (.cells (.open_ size) (old ++ new) e))
        | none => none
  else none
/-- 'append(s, x...)'. -/
def appendA (P : Program) (H : AHeap) (argTypes : Array TypeId) (s x : Value) : Option (Value × AHeap) :=
  match argTypes[0]?.bind P.underlying, argTypes[1]?.bind P.underlying, s with
  | some (.slice e), some xd, .slice base sLen sCap =>
    match P.info? e with
    | none => none
    | some i =>
      bif (match i.zero with | some z => Nat.beq z.cells.size i.size | none => false) then
        match srcOf H i.size xd x with
        | some (n, new) => appendB H e i.size i.bytes base sLen sCap n new
        | none => none
      else none
  | _, _, _ => none

/-- A conversion from a slice of bytes to one. -/
def convSliceA (P : Program) (H : AHeap) (src dst : TypeId) (x : Value) : Option (Value × AHeap) :=
  match P.underlying src, P.underlying dst, x with
  | some (.slice _), some (.slice e), .slice (some a) l c =>
    (match P.underlying e, H.objs.get a.block with
     | some (.int .u8), some (.cells fl cs e') => bif src == dst && fl.wr && a.spot.isNone then some (.slice (some a) l c, H.set a.block (.cells (.mark 0) cs e')) else none
     | _, _ => none)
  | _, _, _ => none
def rangeA (P : Program) (H : AHeap) (t : TypeId) (x : Value) : Option (Value × AHeap) :=
  match P.underlying t, x with
  | some .string, .string s => some (.pointer (some ⟨H.next, 0, none⟩), H.new (.sIter s 0))
  | some (.map _ _), .map none => some (.pointer (some ⟨H.next, 0, none⟩), H.new (.mIter none 0 [] 0))
  | some (.map _ _), .map (some m) => (match H.objs.get m with
    | some (.map _ clock) => some (.pointer (some ⟨H.next, 0, none⟩), H.new (.mIter (some m) clock [] clock))
    | _ => none)
  | _, _ => none
/-- The next entry of a map: one way alone: nothing left, or one entry left that the loop found. -/
def nextM (H : AHeap) (r m since : Nat) (seen : List Nat) (last : Nat) (es : List MapEntry) (clock : Nat) : Option (Value × AHeap) :=
  bif !seen.isEmpty && !es.isEmpty && es.all (fun e => Nat.ble last e.born) then none else
  match es.filter (fun e => !seen.contains e.born) with
  | [] => some (.tuple #[.bool false], H)
  | [e] => bif Nat.blt e.born since then some (.tuple #[.bool true, e.key, e.val], H.set r (.mIter (some m) since (seen ++ [e.born]) clock)) else none
  | _ => none
def nextA (H : AHeap) (it : Value) (isString : Bool) : Option (Value × AHeap) :=
  match it with
  | .pointer (some ⟨r, 0, none⟩) =>
    (match H.objs.get r, isString with
     | some (.sIter s pos), true =>
       bif Nat.blt pos s.size then some (.tuple #[.bool true, .int .i64 pos, .int .i32 (Utf8.decode s pos).1], H.set r (.sIter s (pos + (Utf8.decode s pos).2)))
       else some (.tuple #[.bool false], H)
     | some (.mIter none _ _ _), false => some (.tuple #[.bool false], H)
     | some (.mIter (some m) since seen last), false =>
       (match H.objs.get m with
        | some (.map es clock) => nextM H r m since seen last es clock
        | _ => none)
     | _, _ => none)
  | _ => none
def copyA (P : Program) (H : AHeap) (argTypes : Array TypeId) (d s : Value) : Option (Value × AHeap) :=
  match argTypes[0]?.bind P.underlying, d, s with
  | some (.slice e), .slice base dLen _, .slice src sLen _ =>
    (match sizeT P e, src with
     | some size, some a => (H.cells? a (Nat.min sLen dLen * size)).bind fun l => match base with
        | some b => bif b.spot.isSome then none else (H.store? b l).map fun K => (.int .i64 (Nat.min sLen dLen : Nat), K)
        | none => some (.int .i64 (Nat.min sLen dLen : Nat), H)
     | some _, none => bif Nat.beq (Nat.min sLen dLen) 0 then some (.int .i64 0, H) else none
     | none, _ => none)
  | _, _, _ => none
def deleteA (P : Program) (H : AHeap) (argTypes : Array TypeId) (m k : Value) : Option (Value × AHeap) :=
  match argTypes[0]?.bind P.underlying, m with
  | some (.map kt _), .map none => bif keyOk P true kt k then some (.tuple #[], H) else none
  | some (.map kt _), .map (some r) =>
    (match H.objs.get r with
     | some (.map es clock) =>
       bif keyOk P es.isEmpty kt k then
         (match findK P kt k es 0 with
          | some (some (i, _)) => some (.tuple #[], H.set r (.map (es.eraseIdx i) clock))
          | some none => some (.tuple #[], H.set r (.map es clock))
          | none => none)
       else none
     | _ => none)
  | _, _ => none
def clearA (P : Program) (H : AHeap) (argTypes : Array TypeId) (x : Value) : Option (Value × AHeap) :=
  match argTypes[0]?.bind P.underlying, x with
  | some (.slice e), .slice a n _ =>
    (match a, n with
     | none, _ => some (.tuple #[], H)
     | some _, 0 => some (.tuple #[], H)
     | some a, n + 1 => (zeroT P e).bind fun z => bif bare 20 z then (H.store? a (Builtin.zeroCells z.cells (n + 1)).toList).map fun K => (.tuple #[], K) else none)
  | some (.map _ _), .map none => some (.tuple #[], H)
  | _, _ => none
def unsafeStringA (P : Program) (H : AHeap) (argTypes : Array TypeId) (vs : List Value) : Option (Value × AHeap) :=
  match vs, argTypes[0]?.bind P.underlying with
  | [.pointer none, .int _ n], some _ => bif decide (n = 0) then some (.string .empty, H) else none
  | [.pointer (some a), .int _ n], some (.pointer e) =>
    bif decide (n = 0) then some (.string .empty, H)
    else (match a.spot, H.objs.get a.block with
      | none, some (.cells fl c e') =>
        bif fl.wr && okInt n && decide (n < 9223372036854775807) && Nat.beq a.off 0 && Nat.beq e e' && Nat.beq (P.cellsOf e') 1 then
          (H.cells? a n.toNat).bind fun l => (bytesL l).map fun r =>
            (.string ⟨r.toArray⟩, H.set a.block (.cells .ro c e'))
        else none
      | _, _ => none)
  | _, _ => none
def asVal (x : Option (Value × AHeap)) : Option (ANext × AHeap) := x.map fun p => (.value p.1, p.2)

def mapUpdateA (P : Program) (H : AHeap) (t : TypeId) (m k x : Value) : Option (ANext × AHeap) :=
  match P.underlying t, m with
  | some (.map kt _), .map (some r) =>
    (match H.objs.get r with
     | some (.map es clock) =>
       bif keyOk P false kt k then
         (match findK P kt k es 0 with
          | some (some (i, _)) => (match es[i]? with
            | some e => bif Instr.sameBits 10000 e.key k then some (.skip, H.set r (.map (es.set i { e with key := k, val := x }) clock)) else none
            | none => none)
          | some none => some (.skip, H.set r (.map (es ++ [{ key := k, val := x, born := clock }]) (clock + 1)))
          | none => none)
       else none
     | _ => none)
  | _, _ => none
/-- A function of the program with a body, to be entered. -/
def enterA (P : Program) (H : AHeap) (f : FuncId) (args : Array Value) : Option (ANext × AHeap) :=
  match P.funcs[f]? with
  | some fn => bif fn.body.isSome && !(fn.name == "runtime.NumGoroutine") then some (.enter f args, H) else none
  | none => none
def callValueA (P : Program) (H : AHeap) (g : Value) (args : Array Value) : Option (ANext × AHeap) :=
  match g with
  | .func (.func f) first captured => enterA P H f (first ++ args ++ captured)
  | .func (.yield l) first captured => bif Nat.beq first.size 0 && Nat.beq captured.size 0 then some (.round l args, H) else none
  | _ => none
/-- The function behind a method's name, where the receiver is the value itself. -/
def methodA (P : Program) (t : TypeId) (name : String) : Option FuncId :=
  match P.info? t with
  | some i => (match i.methods.find? (·.name == name) with
    | some m => (match m.func, m.path.toList, P.underlying t with
      | some (f, pr), [], some d =>
        (match d, pr with
         | .pointer _, false => none
         | .pointer _, true => some f
         | _, true => none
         | _, false => some f)
      | _, _, _ => none)
    | none => none)
  | none => none
def callInvokeA (P : Program) (H : AHeap) (recv : Value) (name : String) (args : Array Value) : Option (ANext × AHeap) :=
  match recv with
  | .iface t v => (match methodA P t name with
    | some f => enterA P H f (#[v] ++ args)
    | none => none)
  | _ => none
/-- Builtins that write. -/
def builtinA (P : Program) (H : AHeap) (b : Builtin) (ts : Array TypeId) (vs : Array Value) : Option (Value × AHeap) :=
  match b with
  | .append => match vs[0]?, vs[1]? with
    | some s, some x => appendA P H ts s x
    | _, _ => none
  | .copy => match vs[0]?, vs[1]? with
    | some d, some s => copyA P H ts d s
    | _, _ => none
  | .delete => match vs[0]?, vs[1]? with
    | some m, some k => deleteA P H ts m k
    | _, _ => none
  | .clear => match vs[0]? with
    | some x => clearA P H ts x
    | none => none
  | .unsafeString => unsafeStringA P H ts vs.toList
  | _ => none
def callA (P : Program) (H : AHeap) (ρ : Operand → Value) (c : Call) : Option (ANext × AHeap) :=
  match c.callee with
  | .builtin b => asVal (builtinA P H b c.argTypes (c.args.map ρ))
  | .value g => callValueA P H (ρ g) (c.args.map ρ)
  | .invoke recv name => callInvokeA P H (ρ recv) name (c.args.map ρ)

/-- Operations that write. -/
def effOp (P : Program) (H : AHeap) (ρ : Operand → Value) (o : Oper) : Option (ANext × AHeap) :=
  match o.op with
  | .store t a x => match ρ a with | .pointer (some a) => (storeV P H t a (ρ x)).map fun K => (.skip, K) | _ => none
  | .mapUpdate t m k x => mapUpdateA P H t (ρ m) (ρ k) (ρ x)
  | .insert t m k x => mapUpdateA P H t (ρ m) (ρ k) (ρ x)
  | .convert src dst x => asVal (convSliceA P H src dst (ρ x))
  | .range t x => asVal (rangeA P H t (ρ x))
  | .next it isString => asVal (nextA H (ρ it) isString)
  | .call c => callA P H ρ c
  | _ => none

inductive Kind | pure | read | alloc | eff
  deriving DecidableEq

/-- One operation: its kind, what it yields, the heap behind it. -/
def aOper (P : Program) (H : AHeap) (ρ : Operand → Value) (o : Oper) : Option (Kind × ANext × AHeap) :=
  match pureOp P ρ o with
  | some v => some (.pure, .value v, H)
  | none => match readOp P H ρ o with
    | some v => some (.read, .value v, H)
    | none => match newOp P ρ o with
      | some (ob, k) => some (.alloc, .value (k.at H.next), H.new ob)
      | none => match effOp P H ρ o with
        | some (x, K) => some (.eff, x, K)
        | none => none

/-! ### Frames -/
structure St : Type where
  tm : T Value
  ds : List Nat
  h : AHeap

def aEval (gl : Nat) (tm : T Value) : Operand → Value
  | .tmp t => (tm.get t).getD Go.undef
  | .const v => v
  | .global g => bif Nat.blt g gl then .pointer (some ⟨g, 0, none⟩) else Go.undef
  | .func f => .func (.func f) #[] #[]
/-- Constants among the operands name no block, globals are known ones. -/
def okOperand (gl : Nat) : Operand → Bool
  | .const v => bare 20 v
  | .global g => Nat.blt g gl
  | _ => true
def putT (n : Nat) (tm : T Value) (dst : Option Tmp) (v : Value) : Option (T Value) :=
  match dst with
  | none => some tm
  | some d => bif Nat.blt d n then some (tm.put d v) else none
def aYielded (ops : Array Oper) (tm : T Value) (j : Nat) : Option Bool :=
  match (ops[j]?).bind (·.dst) with
  | some d => match tm.get d with
    | some (.bool b) => some b
    | _ => none
  | none => none
def argsT : List Value → Nat → T Value → T Value
  | [], _, t => t
  | v :: l, i, t => argsT l (i + 1) (t.put i v)
def paramsT (n : Nat) : List (Tmp × Value) → T Value → Option (T Value)
  | [], t => some t
  | (p, v) :: l, t => bif Nat.blt p n then paramsT n l (t.put p v) else none

inductive AExit | normal | exit (id : Nat) | goto (l : Nat) | ret
  deriving DecidableEq

/-- What was seen at one operation of a region that draws its order. -/
structure Seen : Type where
  tm : T Value
  h : AHeap
  k : Option Kind
  v : Value

def spotIs : Option Nat → Option Nat → Bool
  | none, none => true
  | some x, some y => Nat.beq x y
  | _, _ => false
/-- Two values, written alike. -/
def sameV : Nat → Value → Value → Bool
  | _, .bool a, .bool b => decide (a = b)
  | _, .int j a, .int k b => decide (j = k) && decide (a = b)
  | _, .string a, .string b => decide (a.data.toList = b.data.toList)
  | _, .pointer none, .pointer none => true
  | _, .pointer (some a), .pointer (some b) => Nat.beq a.block b.block && Nat.beq a.off b.off && a.spot.isNone && b.spot.isNone
  | _, .slice none l c, .slice none m d => Nat.beq l m && Nat.beq c d
  | _, .slice (some a) l c, .slice (some b) m d => Nat.beq a.block b.block && Nat.beq a.off b.off && spotIs a.spot b.spot && spotIs b.spot a.spot && Nat.beq l m && Nat.beq c d
  | _, .map none, .map none => true
  | _, .map (some a), .map (some b) => Nat.beq a b
  | _, .nilFunc, .nilFunc => true
  | _, .nilIface, .nilIface => true
  | n + 1, .iface t v, .iface u w => Nat.beq t u && sameV n v w
  | n + 1, .agg a, .agg b => sameL (sameV n) a.toList b.toList
  | n + 1, .tuple a, .tuple b => sameL (sameV n) a.toList b.toList
  | n + 1, .func (.func f) a c, .func (.func g) b d => Nat.beq f g && sameL (sameV n) a.toList b.toList && sameL (sameV n) c.toList d.toList
  | _, _, _ => false
where sameL (f : Value → Value → Bool) : List Value → List Value → Bool
  | [], [] => true
  | a :: x, b :: y => f a b && sameL f x y
  | _, _ => false
/-- All names in a value are older than that. -/
def lowV : Nat → Nat → Value → Bool
  | _, _, .bool _ | _, _, .int _ _ | _, _, .float _ _ | _, _, .complex _ _ _ | _, _, .string _ | _, _, .pointer none | _, _, .slice none _ _ | _, _, .map none | _, _, .chan none | _, _, .nilFunc | _, _, .nilIface => true
  | _, k, .pointer (some a) => Nat.blt a.block k
  | _, k, .slice (some a) _ _ => Nat.blt a.block k
  | _, k, .map (some r) => Nat.blt r k
  | n + 1, k, .iface _ v => lowV n k v
  | n + 1, k, .agg x | n + 1, k, .tuple x => x.toList.all (lowV n k)
  | n + 1, k, .func (.func _) x y => x.toList.all (lowV n k) && y.toList.all (lowV n k)
  | _, _, _ => false

/-! In a region that draws: may the operations be carried out in whatever order? 'ss': what the walk of the text's order saw; 'last': the heap behind it. -/
def isE : Option Kind → Bool | some .eff => true | _ => false
def isA : Option Kind → Bool | some .alloc => true | _ => false
def isR : Option Kind → Bool | some .read => true | _ => false
def hAt (ss : List Seen) (last : AHeap) (m : Nat) : AHeap := match ss[m]? with | some s => s.h | none => last
def kAt (ss : List Seen) (i : Nat) : Option Kind := match ss[i]? with | some s => s.k | none => none
def tmpsOf (xs : List Operand) : List Tmp := xs.filterMap fun | .tmp t => some t | _ => none
def guardT (ops : Array Oper) (o : Oper) : List Tmp :=
  match o.guard with
  | some (g, _) => (match (ops[g]?).bind (·.dst) with | some d => [d] | none => [])
  | none => []
def namesOf (ops : Array Oper) (o : Oper) : List Tmp := o.dst.toList ++ (tmpsOf o.op.operands.toList ++ guardT ops o)
/-- Behind which operations each one waits, as bits. -/
def befEdges (acc : Array Nat) : List Edge → Nat → Nat
  | [], s => s
  | e :: es, s => befEdges acc es (bif Region.binds .any e then s ||| 2 ^ e.on ||| acc.getD e.on 0 else s)
def befs : List Oper → Array Nat → Array Nat
  | [], acc => acc
  | o :: rest, acc => befs rest (acc.push (befEdges acc o.after.toList 0))
def bef (ops : Array Oper) : Array Nat := befs ops.toList #[]
def waits (b : Array Nat) (i j : Nat) : Bool := (b.getD j 0).testBit i
/-- What hangs on the text alone: edges lead back; who names a slot waits for its writers, or they for it. -/
def slotsOk (ops : Array Oper) (b : Array Nat) : Bool :=
  (List.range ops.size).all fun j => match ops[j]? with
    | none => true
    | some o => o.after.toList.all (fun e => !Region.binds .any e || Nat.blt e.on j) && (List.range ops.size).all fun i => Nat.beq i j || (match (ops[i]?).bind (·.dst) with
      | some d => !((namesOf ops o).any (Nat.beq d)) || (bif Nat.blt i j then waits b i j else waits b j i)
      | none => true)
def drawStat (ops : Array Oper) : Bool := slotsOk ops (bef ops)
def readAt (P : Program) (b : Array Nat) (effs : List Nat) (ss : List Seen) (last : AHeap) (i : Nat) (o : Oper) (s : Seen) (m : Nat) : Bool :=
  effs.any (fun j => bif Nat.blt j m then waits b i j else waits b j i) ||
  (match readOp P (hAt ss last m) (aEval (hAt ss last m).gl s.tm) o with | some v => sameV 20 v s.v | none => false)
def drawDyn (P : Program) (ops : Array Oper) (b : Array Nat) (effs : List Nat) (ss : List Seen) (last : AHeap) : Bool :=
  Nat.ble (hAt ss last 0).gl (hAt ss last 0).next &&
  (List.range ops.size).all (fun i => Nat.ble (hAt ss last i).next (hAt ss last (i + 1)).next && Nat.beq (hAt ss last i).gl (hAt ss last (i + 1)).gl) &&
  effs.all (fun j => (List.range j).all fun i => !(isE (kAt ss i) || isA (kAt ss i)) || waits b i j) &&
  (List.range ops.size).all (fun i => !isR (kAt ss i) || (match ops[i]?, ss[i]? with
    | some o, some s => lowV 20 s.h.next s.v && (0 :: effs.map (· + 1)).all (fun m => readAt P b effs ss last i o s m)
    | _, _ => false))
def effsOf (n : Nat) (ss : List Seen) : List Nat := (List.range n).filter fun i => isE (kAt ss i)
def drawOk (P : Program) (ops : Array Oper) (ss : List Seen) (last : AHeap) : Bool :=
  drawStat ops && drawDyn P ops (bef ops) (effsOf ops.size ss) ss last

def takeAll : List Nat → AHeap → Option AHeap
  | [], h => some h
  | r :: l, h => match h.objs.get r with
    | some (.dfr true) => takeAll l (h.set r (.dfr false))
    | _ => none
def resultA (P : Program) (h : AHeap) (tm : T Value) : ResultVar → Option Value
  | .tmp t => some ((tm.get t).getD Go.undef)
  | .cell a t => match (tm.get a).getD Go.undef with
    | .pointer (some a) => loadV P h t a
    | _ => none
def resultsL (P : Program) (h : AHeap) (tm : T Value) : List ResultVar → Option (List Value)
  | [] => some []
  | r :: l => match resultA P h tm r, resultsL P h tm l with
    | some v, some vs => some (v :: vs)
    | _, _ => none
def resultsA (P : Program) (h : AHeap) (fn : Func) (tm : T Value) : Option Value :=
  match resultsL P h tm fn.results.toList with
  | some [v] => some v
  | some vs => some (.tuple vs.toArray)
  | none => none

/-- What one level of the interpreter may call of the level below. -/
structure Lev : Type where
  /-- Deferred calls that do nothing where nothing panics, and how many arguments they have. -/
  quiet : FuncId → Option Nat
  code : Option Nat → Nat → Code → St → Option (AExit × St)
  scope : Option Nat → Nat → Code → Code → St → Option (AExit × St)
  call : FuncId → Array Value → AHeap → Option (Value × AHeap)

section
variable (P : Program) (L : Lev)

/-- One round of a loop over a function: 'yield(args)'. -/
def roundS (l : Nat) (args : Array Value) (h : AHeap) : Option (Value × AHeap) :=
  match h.objs.get l with
  | some (.loop _ _ tm n params assign body _) =>
    bif Nat.beq args.size params.size then
      match paramsT n (params.toList.zip args.toList) tm with
      | some tm => match L.code (some l) n assign ⟨tm, [], h⟩ with
        | some (.normal, st) => match st.h.objs.get l with
          | some (.loop .ready pend tm' n' ps' as' bo' d) =>
            match L.code (some l) n body { st with h := st.h.set l (.loop .busy pend tm' n' ps' as' bo' d) } with
            | some (e, st) => match st.h.objs.get l with
              | some (.loop _ _ tm' n' ps' as' bo' d) =>
                match e with
                | .normal => some (.bool true, st.h.set l (.loop .ready none tm' n' ps' as' bo' d))
                | .ret => some (.bool false, st.h.set l (.loop .done (some .ret) tm' n' ps' as' bo' d))
                | .exit id => some (.bool false, st.h.set l (.loop .done (some (.exit id)) tm' n' ps' as' bo' d))
                | .goto t => some (.bool false, st.h.set l (.loop .done (some (.goto t)) tm' n' ps' as' bo' d))
              | _ => none
            | none => none
          | _ => none
        | _ => none
      | none => none
    else none
  | _ => none

/-- One operation: its kind (none: its guard kept it back), its value, the heap behind it. -/
def operS (ops : Array Oper) (o : Oper) (st : St) : Option (Option Kind × Value × AHeap) :=
  bif Region.wanted o (aYielded ops st.tm) then
    bif o.op.operands.toList.all (okOperand st.h.gl) then
      match aOper P st.h (aEval st.h.gl st.tm) o with
      | some (k, .value v, h) => some (some k, v, h)
      | some (k, .skip, h) => some (some k, Go.undef, h)
      | some (k, .enter g args, h) => match L.call g args h with
        | some (v, h) => some (some k, v, h)
        | none => none
      | some (k, .round l args, h) => match roundS L l args h with
        | some (v, h) => some (some k, v, h)
        | none => none
      | none => none
    else none
  else some (none, Go.undef, st.h)

/-- The operations of a region, in the text's order. -/
def opsS (n : Nat) (ops : Array Oper) : List Oper → St → Option St
  | [], st => some st
  | o :: rest, st =>
    match operS P L ops o st with
    | some (_, v, h) => match putT n st.tm o.dst v with
      | some tm => opsS n ops rest { st with tm, h }
      | none => none
    | none => none
/-- A deferred call that does nothing where nothing panics. -/
def deferS (gl : Nat) (tm : T Value) (c : Call) : Bool :=
  match c.callee with
  | .value x => okOperand gl x && (match aEval gl tm x with
    | .func (.func f) first captured => (match L.quiet f with | some m => Nat.beq (first.size + c.args.size + captured.size) m | none => false)
    | _ => false)
  | _ => false
/-- A region in the text's order, 'defer' among its operations. -/
def opsD (n : Nat) (ops : Array Oper) : List Oper → St → Option St
  | [], st => some st
  | o :: rest, st =>
    match o.op with
    | .defer c =>
      bif Region.wanted o (aYielded ops st.tm) && deferS L st.h.gl st.tm c then
        match putT n st.tm o.dst Go.undef with
        | some tm => opsD n ops rest { st with tm }
        | none => none
      else none
    | _ =>
      match operS P L ops o st with
      | some (_, v, h) => match putT n st.tm o.dst v with
        | some tm => opsD n ops rest { st with tm, h }
        | none => none
      | none => none
def drawS (n : Nat) (ops : Array Oper) : List Oper → St → List Seen → Option (St × List Seen)
  | [], st, sn => some (st, sn)
  | o :: rest, st, sn =>
    match operS P L ops o st with
    | some (k, v, h) => match putT n st.tm o.dst v with
      | some tm => drawS n ops rest { st with tm, h } (⟨st.tm, st.h, k, v⟩ :: sn)
      | none => none
    | none => none

/-- The block for the rounds' deferred calls. -/
def aroundS (ro : Option Nat) (h : AHeap) : Option (Nat × List Nat × AHeap) :=
  match ro with
  | none => some (h.next, [h.next], h.new (.dfr true))
  | some l => match h.objs.get l with
    | some (.loop _ _ _ _ _ _ _ d) => some (d, [], h)
    | _ => none
/-- The end of a loop over a function: its record shut; the pending jump. -/
def afterS (ro : Option Nat) (n l : Nat) (st : St) : Option (AExit × St) :=
  match st.h.objs.get l with
  | some (.loop s pend tm' n' ps' as' bo' d') =>
    match s with
    | .busy => none
    | _ =>
      match pend with
      | none => some (.normal, { st with h := st.h.set l (.loop .exhausted pend tm' n' ps' as' bo' d') })
      | some c => L.code ro n c { st with h := st.h.set l (.loop .exhausted pend tm' n' ps' as' bo' d') }
  | _ => none
/-- 'for .. := range g { .. }' over a function; 'k': the code of a pending jump. -/
def rangeS (ro : Option Nat) (n : Nat) (g : Operand) (ps : Array Tmp) (assign body : Code) (st : St) : Option (AExit × St) :=
  match aEval st.h.gl st.tm g with
  | .func (.func gf) first captured =>
    match P.funcs[gf]? with
    | none => none
    | some fn => bif fn.body.isSome && !(fn.name == "runtime.NumGoroutine") && okOperand st.h.gl g then
        match aroundS ro st.h with
        | none => none
        | some (d, mark, h) =>
          match L.call gf (first ++ #[Value.func (Fn.yield h.next) #[] #[]] ++ captured) (h.new (.loop .ready none st.tm n ps assign body d)) with
          | some (_, h') => afterS L ro n h.next ⟨st.tm, mark ++ st.ds, h'⟩
          | none => none
      else none
  | _ => none

def codeS (ro : Option Nat) (n : Nat) : Code → St → Option (AExit × St)
  | .skip, st | .label _, st => some (.normal, st)
  | .ret, st => some (.ret, st)
  | .exit id, st => some (.exit id, st)
  | .goto l, st => some (.goto l, st)
  | .refuse _, _ => none
  | .seq a b, st => match codeS ro n a st with
    | some (.normal, st') => codeS ro n b st'
    | r => r
  | .cond c a b, st => match aEval st.h.gl st.tm c with
    | .bool true => codeS ro n a st
    | .bool false => codeS ro n b st
    | _ => none
  | .block id c, st => match codeS ro n c st with
    | some (.exit id', st') => bif Nat.beq id' id then some (.normal, st') else some (.exit id', st')
    | r => r
  | .loop c, st => match codeS ro n c st with
    | some (.normal, st') => L.code ro n (.loop c) st'
    | r => r
  | .scope c, st => match codeS ro n c st with
    | some (.goto l, st') => match findLabel c l with
      | some rest => L.scope ro n c rest st'
      | none => some (.goto l, st')
    | r => r
  | .region _ ops draw, st =>
    match draw with
    | false => match opsS P L n ops ops.toList st with
      | some st' => some (.normal, st')
      | none => match ro with
        | some _ => none
        | none => match opsD P L n ops ops.toList st with
          | some st' => some (.normal, st')
          | none => none
    | true => match drawS P L n ops ops.toList st [] with
      | some (st', sn) => bif drawOk P ops sn.reverse st'.h then some (.normal, st') else none
      | none => none
  | .rangeFunc g ps assign body, st => rangeS P L ro n g ps assign body st

def scopeS (ro : Option Nat) (n : Nat) (whole c : Code) (st : St) : Option (AExit × St) :=
  match codeS P L ro n c st with
  | some (.goto l, st') => match findLabel whole l with
    | some rest => L.scope ro n whole rest st'
    | none => some (.goto l, st')
  | r => r

def callS (g : FuncId) (args : Array Value) (h : AHeap) : Option (Value × AHeap) :=
  match P.funcs[g]? with
  | none => none
  | some fn => match fn.body with
    | none => none
    | some c =>
      bif Nat.ble args.size fn.ntmps then
        match codeS P L none fn.ntmps c ⟨argsT args.toList 0 .nil, [], h⟩ with
        | some (.normal, st) | some (.ret, st) => match takeAll st.ds st.h with
          | some h => match resultsA P h fn st.tm with
            | some v => some (v, h)
            | none => none
          | none => none
        | _ => none
      else none
end

/-- What is told of functions beside their texts: calls whose outcome is known; deferred calls that do nothing where nothing panics. -/
structure Ext : Type where
  ov : FuncId → Array Value → AHeap → Option (Value × AHeap)
  quiet : FuncId → Option Nat
def Ext.nil : Ext := ⟨fun _ _ _ => none, fun _ => none⟩
def callX (P : Program) (X : Ext) (L : Lev) (g : FuncId) (args : Array Value) (h : AHeap) : Option (Value × AHeap) :=
  match X.ov g args h with
  | some r => some r
  | none => callS P L g args h
def levX (P : Program) (X : Ext) : Nat → Lev
  | 0 => ⟨X.quiet, fun _ _ _ _ => none, fun _ _ _ _ _ => none, fun _ _ _ => none⟩
  | f + 1 => ⟨X.quiet, codeS P (levX P X f), scopeS P (levX P X f), callX P X (levX P X f)⟩
def lev (P : Program) (f : Nat) : Lev := levX P .nil f

end
section

theorem pureRun_sound {α : Type} {P : Program} : ∀ (s : Sem α) {a : α}, pureRun P s = some a → ∀ w, s.run P w = .ok a w := by
  intro s
  induction s with
  | pure a => intro b h w; simp only [pureRun, Option.some.injEq] at h; subst h; rfl
  | program k ih => intro b h w; simp only [pureRun] at h; exact ih P h w
  | mark m k ih => intro b h w; simp only [pureRun] at h; exact ih h w
  | choose q k ih =>
    intro b h w
    simp only [pureRun] at h
    cases hq : q.forced with
    | true =>
      rw [hq, cond_true] at h
      simp only [Sem.run, hq, if_true]
      exact ih 0 h w
    | false => rw [hq, cond_false] at h; cases h
  | load m a k _ => intro b h w; simp [pureRun] at h
  | store m a v k _ => intro b h w; simp [pureRun] at h
  | new o k _ => intro b h w; simp [pureRun] at h
  | shape r k _ => intro b h w; simp [pureRun] at h
  | freeze a n k _ => intro b h w; simp [pureRun] at h
  | frozen a k _ => intro b h w; simp [pureRun] at h
  | getObj r k _ => intro b h w; simp [pureRun] at h
  | setObj r o k _ => intro b h w; simp [pureRun] at h
  | sys c k _ => intro b h w; simp [pureRun] at h
  | halt x => intro b h w; simp [pureRun] at h

theorem VR.inj_bare {φ : Ren} {v v' : Value} (h : VR φ v v') : ∀ n, bare n v = true → v' = v := by
  induction h with
  | bool b => intro n _; rfl
  | int k n => intro n _; rfl
  | float k b => intro n _; rfl
  | complex k a b => intro n _; rfl
  | string s => intro n _; rfl
  | ptrNil => intro n _; rfl
  | ptr e => intro n h; cases n <;> simp [bare] at h
  | sliceNil => intro n _; rfl
  | slice l e hc hk => intro n h; cases n <;> simp [bare] at h
  | sliceDead a hc => intro n h; cases n <;> simp [bare] at h
  | mapNil => intro n _; rfl
  | map e => intro n h; cases n <;> simp [bare] at h
  | chanNil => intro n _; rfl
  | top e => intro n h; cases n <;> simp [bare] at h
  | nilFunc => intro n _; rfl
  | func hf hx _ hy _ i1 i2 =>
    intro n h
    cases n with
    | zero => simp [bare] at h
    | succ n =>
      cases hf with
      | yield e => simp [bare] at h
      | func f =>
        simp only [bare, Bool.and_eq_true, List.all_eq_true] at h
        rename_i x y x' y' _ _
        have e1 : x' = x := Array.ext hx.symm fun i h1 h2 => i1 i h2 h1 n (h.1 _ (by simp))
        have e2 : y' = y := Array.ext hy.symm fun i h1 h2 => i2 i h2 h1 n (h.2 _ (by simp))
        rw [e1, e2]
  | nilIface => intro n _; rfl
  | iface t _ ih =>
    intro n h
    cases n with
    | zero => simp [bare] at h
    | succ n => rw [ih n (by simpa [bare] using h)]
  | agg hx _ ih =>
    intro n h
    cases n with
    | zero => simp [bare] at h
    | succ n =>
      simp only [bare, List.all_eq_true] at h
      rename_i x x' _
      have e1 : x' = x := Array.ext hx.symm fun i h1 h2 => ih i h2 h1 n (h _ (by simp))
      rw [e1]
  | tuple hx _ ih =>
    intro n h
    cases n with
    | zero => simp [bare] at h
    | succ n =>
      simp only [bare, List.all_eq_true] at h
      rename_i x x' _
      have e1 : x' = x := Array.ext hx.symm fun i h1 h2 => ih i h2 h1 n (h _ (by simp))
      rw [e1]

/-! ### Small inversions -/
section
variable {φ : Ren} {v' : Value}
theorem VR.bool_inv {b : Bool} (h : VR φ (.bool b) v') : v' = .bool b := by cases h; rfl
theorem VR.int_inv {k : IntKind} {n : Int} (h : VR φ (.int k n) v') : v' = .int k n := by cases h; rfl
theorem VR.string_inv {s : ByteArray} (h : VR φ (.string s) v') : v' = .string s := by cases h; rfl
theorem VR.ptrNil_inv (h : VR φ (.pointer none) v') : v' = .pointer none := by cases h; rfl
theorem VR.ptr_inv {a : Addr} (h : VR φ (.pointer (some a)) v') : ∃ b, φ a.block = some b ∧ a.spot = none ∧ v' = .pointer (some ⟨b, a.off, none⟩) := by
  cases h with
  | ptr e => exact ⟨_, e, rfl, rfl⟩
theorem VR.agg_inv {x : Array Value} (h : VR φ (.agg x) v') : ∃ x', v' = .agg x' ∧ AR φ x x' := by
  cases h with
  | agg hx hx' => exact ⟨_, rfl, LR.of_get hx hx'⟩
theorem VR.tuple_inv {x : Array Value} (h : VR φ (.tuple x) v') : ∃ x', v' = .tuple x' ∧ AR φ x x' := by
  cases h with
  | tuple hx hx' => exact ⟨_, rfl, LR.of_get hx hx'⟩
theorem VR.iface_inv {t : TypeId} {v : Value} (h : VR φ (.iface t v) v') : ∃ u, v' = .iface t u ∧ VR φ v u := by
  cases h with
  | iface _ h => exact ⟨_, rfl, h⟩
theorem VR.func_inv {f : Fn} {x y : Array Value} (h : VR φ (.func f x y) v') : ∃ f' x' y', v' = .func f' x' y' ∧ FnR φ f f' ∧ AR φ x x' ∧ AR φ y y' := by
  cases h with
  | func hf hx hx' hy hy' => exact ⟨_, _, _, rfl, hf, LR.of_get hx hx', LR.of_get hy hy'⟩
theorem VR.map_inv {r : Nat} (h : VR φ (.map (some r)) v') : ∃ b, φ r = some b ∧ v' = .map (some b) := by
  cases h with
  | map e => exact ⟨_, e, rfl⟩
theorem VR.mapNil_inv (h : VR φ (.map none) v') : v' = .map none := by cases h; rfl
theorem VR.sliceNil_inv {l c : Nat} (h : VR φ (.slice none l c) v') : l = 0 ∧ c = 0 ∧ v' = .slice none 0 0 := by cases h; exact ⟨rfl, rfl, rfl⟩
theorem VR.nilFunc_inv (h : VR φ .nilFunc v') : v' = .nilFunc := by cases h; rfl
theorem VR.nilIface_inv (h : VR φ .nilIface v') : v' = .nilIface := by cases h; rfl
/-- A slice that is not nil: at a known place, or an empty one at a place that is not known. -/
theorem VR.slice_inv {a : Addr} {l c : Nat} (h : VR φ (.slice (some a) l c) v') :
    (∃ b c', φ a.block = some b ∧ a.spot = none ∧ capOk c c' ∧ (a.off = 0 → c % 2 = 1 → c' = φ.k b) ∧ v' = .slice (some ⟨b, a.off, none⟩) l c') ∨
    (∃ a' c', a = nowhere ∧ l = 0 ∧ capOk c c' ∧ v' = .slice (some a') 0 c') := by
  cases h with
  | slice l e hc hk => exact .inl ⟨_, _, e, rfl, hc, hk, rfl⟩
  | sliceDead a hc => exact .inr ⟨_, _, rfl, rfl, hc, rfl⟩
end

theorem AR.map {φ : Ren} {ρ ρ' : Operand → Value} {xs : Array Operand} (h : ∀ x ∈ xs, VR φ (ρ x) (ρ' x)) : AR φ (xs.map ρ) (xs.map ρ') :=
  LR.of_get (by simp) (fun i h1 h2 => by simp only [Array.getElem_map]; exact h _ (by simp))
theorem AR.bare_eq {φ : Ren} {x x' : Array Value} (h : AR φ x x') {n : Nat} (hb : x.toList.all (bare n) = true) : x' = x := by
  rw [List.all_eq_true] at hb
  exact Array.ext h.size.symm fun i h1 h2 => VR.inj_bare (h.get i h2 h1) n (hb _ (by simp))
theorem AR.extract {φ : Ren} {x x' : Array Value} (h : AR φ x x') (i j : Nat) : AR φ (x.extract i j) (x'.extract i j) := by
  unfold AR at *
  rw [Array.toList_extract, Array.toList_extract, List.extract_eq_take_drop, List.extract_eq_take_drop]
  exact (h.drop i).take _
theorem AR.append {φ : Ren} {x x' y y' : Array Value} (h : AR φ x x') (k : AR φ y y') : AR φ (x ++ y) (x' ++ y') := by
  unfold AR at *
  rw [Array.toList_append, Array.toList_append]
  exact LR.append h k
theorem AR.one {φ : Ren} {v v' : Value} (h : VR φ v v') : AR φ #[v] #[v'] := LR.cons h (LR.nil φ)

section
variable {P : Program}
theorem und_run {t : TypeId} {d : TypeDesc} (h : P.underlying t = some d) (w : World) : (underlying t).run P w = .ok d w := by
  simp only [underlying, Sem.run_bind, run_program, Result.andThen_ok, h, Sem.run_pure]
theorem info_run {t : TypeId} {i : TypeInfo} (h : P.info? t = some i) (w : World) : (typeInfo t).run P w = .ok i w := by
  simp only [typeInfo, Sem.run_bind, run_program, Result.andThen_ok, h, Sem.run_pure]
theorem isAggT_run {t : TypeId} {b : Bool} (h : isAggT P t = some b) (w : World) : (isAgg t).run P w = .ok b w := by
  unfold isAggT at h
  cases hu : P.underlying t with
  | none => rw [hu] at h; cases h
  | some d =>
    rw [hu] at h
    simp only [isAgg, Sem.run_bind, und_run hu, Result.andThen_ok]
    cases d <;> simp at h <;> subst h <;> rfl
theorem sizeT_run {t : TypeId} {n : Nat} (h : sizeT P t = some n) (w : World) : (sizeOf t).run P w = .ok n w := by
  unfold sizeT at h
  cases hi : P.info? t with
  | none => rw [hi] at h; cases h
  | some i =>
    rw [hi] at h
    simp only [Option.map_some, Option.some.injEq] at h
    simp only [sizeOf, Sem.run_bind, info_run hi, Result.andThen_ok, Sem.run_pure, h]
theorem zeroT_run {t : TypeId} {z : Value} (h : zeroT P t = some z) (w : World) : (zeroValue t).run P w = .ok z w := by
  unfold zeroT at h
  cases hi : P.info? t with
  | none => rw [hi] at h; cases h
  | some i =>
    rw [hi] at h
    simp only [Option.bind_some] at h
    simp only [zeroValue, Sem.run_bind, info_run hi, Result.andThen_ok, h, Sem.run_pure]
end

theorem addAddr_eq {b o : Nat} (n : Nat) : (⟨b, o, none⟩ : Addr).add n = ⟨b, o + n, none⟩ := by
  unfold Addr.add
  split
  · rename_i h; subst h; rfl
  · rfl

theorem bif_true {α : Type} {c : Bool} {x : α} {y : Option α} (h : (bif c then some x else none) = y) {z : α} (hz : y = some z) : c = true ∧ x = z := by
  subst h
  cases c <;> simp at hz
  exact ⟨rfl, hz⟩
theorem bif_some {α : Type} {c : Bool} {x : Option α} {z : α} (h : (bif c then x else none) = some z) : c = true ∧ x = some z := by
  cases c <;> simp at h
  exact ⟨rfl, h⟩

end
end Go.Vi
end
