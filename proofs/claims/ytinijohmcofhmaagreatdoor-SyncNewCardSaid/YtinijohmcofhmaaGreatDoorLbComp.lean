/- Resolved code out of the model's code. -/
import Derived.Test.YtinijohmcofhmaaGreatDoorLbRun
import GoSem.Core.Layout
namespace Lb
open Go

def oneV : Value → Bool
  | .agg _ | .tuple _ => false
  | _ => true

def constL : Value → L
  | .agg cs => if cs.toList.all oneV then .agg (cs.toList.map .v) else .dead
  | .tuple _ => .dead
  | x => .v x

def ropd : Operand → Opd
  | .tmp t => .t t
  | .const v => .c (constL v)
  | .global g => .c (.v (.pointer (some ⟨g, 0, none⟩)))
  | .func f => .c (.fn (.func f) [] [])

def isAggD : TypeDesc → Bool
  | .struct _ | .array _ _ => true
  | _ => false

def isAggT (P : Program) (t : TypeId) : Option Bool := (P.underlying t).map isAggD

def sizeT (P : Program) (t : TypeId) : Option Nat := (P.info? t).map (·.size)

def zeroT (P : Program) (t : TypeId) : Option Value := (P.info? t).bind (·.zero)

def zeroC (P : Program) (t : TypeId) : Option (List L) := (zeroT P t).bind fun z => if z.cells.toList.all oneV then some (z.cells.toList.map .v) else none

def zeroL (P : Program) (t : TypeId) : Option L := (zeroT P t).map constL

/-- the kinds of a type's cells; none: it isn't compared cell by cell -/
def leafK (P : Program) : Nat → TypeId → Option (List Leaf)
  | 0, _ => none
  | d + 1, t =>
    match P.underlying t with
    | some .bool => some [.bool]
    | some (.int k) => some [.int k]
    | some .string => some [.str]
    | some (.struct fs) => if P.stoodInHeld t then none else structK (leafK P d) fs.toList 0
    | some (.array n e) => (leafK P d e).bind fun ks => if sizeT P e = some ks.length then some ((List.replicate n ks).flatten) else none
    | _ => none
where
  structK (rec : TypeId → Option (List Leaf)) : List Field → Nat → Option (List Leaf)
    | [], _ => some []
    | f :: fs, off => if f.name = "_" ∨ f.offset ≠ off then none else
      (rec f.type).bind fun ks => if sizeT P f.type = some ks.length then (structK rec fs (off + ks.length)).map (ks ++ ·) else none

/-- the one kind of a type that is held against nil -/
def nilK (P : Program) (t : TypeId) : Option Leaf :=
  match P.underlying t with
  | some (.pointer e) => if sizeT P e = some 0 then none else some .ptr
  | some (.interface _) => some .iface
  | some (.func _ _ _) => some .func
  | some (.slice _) => some .slice
  | some (.map _ _) => some .map
  | _ => none

def elemT (P : Program) (t : TypeId) : Option TypeId :=
  match P.underlying t with
  | some (.slice e) => some e
  | _ => none

def bytesT (P : Program) (t : TypeId) : Option Nat := (P.info? t).map (·.bytes)

def partsOf (places : Nat → Option (Nat × Nat)) (parts : List (Nat × Operand)) : Option (List (Nat × Nat × Opd)) :=
  omapO (fun p => (places p.1).map fun q => (q.1, q.2, ropd p.2)) parts

def isC : Operand → Bool
  | .const _ => true
  | _ => false

def ropBin (P : Program) (op : BinOp) (t : TypeId) (x y : Operand) : Option ROp :=
  if op = .eql ∨ op = .neq then
    match P.underlying t with
    | some (.int _) | some .string => some (.bin op (ropd x) (ropd y))
    | some .bool => some (.eq (op = .neq) false [.bool] (ropd x) (ropd y))
    | some (.struct _) | some (.array _ _) => if P.eqGuardType P.depth t then none else (leafK P 20 t).map fun ks => .eq (op = .neq) true ks (ropd x) (ropd y)
    | some _ => (nilK P t).bind fun k => if k = .iface ∧ !isC x ∧ !isC y then none else some (.eq (op = .neq) false [k] (ropd x) (ropd y))
    | none => none
  else some (.bin op (ropd x) (ropd y))

def ropConv (P : Program) (src dst : TypeId) (x : Operand) : Option ROp :=
  match P.underlying src, P.underlying dst with
  | some (.int _), some (.int k) => some (.convInt k (ropd x))
  | some .string, some .string => some (.convId (ropd x))
  | some .string, some (.slice e) => match P.underlying e with | some (.int .u8) => some (.convS2B (ropd x)) | _ => none
  | some (.slice e), some .string => match P.underlying e with | some (.int .u8) => some (.convB2S (ropd x)) | _ => none
  | _, _ => none

/-- key kinds of a map type -/
def keyK (P : Program) (t : TypeId) : Option (List Leaf × Bool) :=
  match P.underlying t with
  | some (.map k _) => (leafK P 20 k).bind fun ks => (isAggT P k).map fun a => (ks, a)
  | _ => none

def mapElem (P : Program) (t : TypeId) : Option TypeId :=
  match P.underlying t with
  | some (.map _ e) => some e
  | _ => none

def ropCall (P : Program) (c : Call) : Option ROp :=
  match c.callee with
  | .value (.func f) => some (.call f (c.args.toList.map ropd))
  | .value x => some (.callv (ropd x) (c.args.toList.map ropd))
  | .invoke _ _ => none
  | .builtin b =>
    match b, c.args.toList, c.argTypes.toList with
    | .len, [x], [t] => match P.underlying t with
      | some .string => some (.lenStr (ropd x))
      | some (.slice _) => some (.lenSl (ropd x))
      | some (.map _ _) => some (.lenMap (ropd x))
      | some (.array n _) => some (.lenC n)
      | _ => none
    | .cap, [x], [t] => match P.underlying t with
      | some (.slice _) => some (.capSl (ropd x))
      | _ => none
    | .append, [s, x], [t, u] => (elemT P t).bind fun e => (sizeT P e).bind fun n => (bytesT P e).bind fun b => (zeroC P e).bind fun z =>
        if n = 0 ∨ b = 0 ∨ z.length ≠ n then none else match P.underlying u with
        | some (.slice e') => if sizeT P e' = some n then some (.append n b (ropd s) (ropd x)) else none
        | some .string => if n = 1 then some (.append n b (ropd s) (ropd x)) else none
        | _ => none
    | .copy, [d, x], [t, _] => (elemT P t).bind fun e => (sizeT P e).bind fun n => if n = 0 then none else some (.copy n (ropd d) (ropd x))
    | .delete, [m, k], [t, _] => (keyK P t).map fun q => .mapDelete q.1 q.2 (ropd m) (ropd k)
    | .max, xs, _ => some (.minmax true (xs.map ropd))
    | .min, xs, _ => some (.minmax false (xs.map ropd))
    | _, _, _ => none

def rop0 (P : Program) : Op → Option ROp
  | .move x | .assign x => some (.mv (ropd x))
  | .pick c a b => some (.pick (ropd c) (ropd a) (ropd b))
  | .alloc e => (zeroC P e).map .alloc
  | .box _ x => some (.box (ropd x))
  | .build t parts => match P.underlying t with
    | some (.struct fs) => if fs.toList.all (fun f => (sizeT P f.type).isSome) then (zeroC P t).bind fun z => (partsOf (fun i => (fs[i]?).bind fun f => (sizeT P f.type).map fun n => (f.offset, n)) parts.toList).map fun ps => .build z ps else none
    | some (.array _ e) => (zeroC P t).bind fun z => (sizeT P e).bind fun n => (partsOf (fun i => some (i * n, n)) parts.toList).map fun ps => .build z ps
    | _ => none
  | .buildSlice t len parts => (elemT P t).bind fun e => (sizeT P e).bind fun n => (zeroC P e).bind fun z =>
      if n = 0 ∨ z.length ≠ n ∨ len * n > 16777216 then none else (partsOf (fun i => some (i * n, n)) parts.toList).map fun ps => .buildSlice len n ((List.replicate len z).flatten) ps
  | .load t (.global b) => (isAggT P t).bind fun g => (sizeT P t).bind fun n => if g ∨ n = 1 then some (.gload b n g) else none
  | .load t a => (isAggT P t).bind fun g => (sizeT P t).bind fun n => if g ∨ n = 1 then some (.load n g (ropd a)) else none
  | .store t a x => (sizeT P t).map fun n => .store n (ropd a) (ropd x)
  | .nilCheck x => some (.nilCheck (ropd x))
  | .binOp op t x y _ => ropBin P op t x y
  | .unOp op _ x => some (.un op (ropd x))
  | .convert s d x => ropConv P s d x
  | .makeInterface t x => match P.underlying t with
    | some (.interface _) => none
    | some _ => some (.mkIface t (ropd x))
    | none => none
  | .makeFunc f first caps => some (.mkFunc f (first.toList.map ropd) (caps.toList.map ropd))
  | .makeMap _ none => some .mkMap
  | .makeSlice t l c => (elemT P t).bind fun e => (sizeT P e).bind fun n => (bytesT P e).bind fun b => (zeroC P e).bind fun z =>
      if n = 0 ∨ z.length ≠ n then none else some (.mkSlice n b z (ropd l) (ropd c))
  | .slice t x lo hi none => match P.underlying t with
    | some .string => some (.sliceStr (ropd x) (lo.map ropd) (hi.map ropd))
    | some (.slice e) => (sizeT P e).bind fun n => if n = 0 then none else some (.sliceSl n (ropd x) (lo.map ropd) (hi.map ropd))
    | some (.array n e) => (sizeT P e).bind fun s => if s = 0 then none else some (.sliceArr n s (ropd x) (lo.map ropd) (hi.map ropd))
    | _ => none
  | .fieldAddr s x i => match P.underlying s with
    | some (.struct fs) => (fs[i]?).bind fun f => (sizeT P f.type).bind fun n => if n = 0 then none else some (.fieldAddr f.offset (ropd x))
    | _ => none
  | .field s x i => match P.underlying s with
    | some (.struct fs) => (fs[i]?).bind fun f => (sizeT P f.type).bind fun n => (isAggT P f.type).bind fun g => if g ∨ n = 1 then some (.field f.offset n g (ropd x)) else none
    | _ => none
  | .indexAddr t (.global b) i => match P.underlying t with
    | some (.array n e) => (sizeT P e).map fun s => .gidx b n s (ropd i)
    | _ => none
  | .indexAddr t x i => match P.underlying t with
    | some (.slice e) => (sizeT P e).map fun n => .idxAddrSl n (ropd x) (ropd i)
    | some (.array n e) => (sizeT P e).map fun s => .idxAddrArr n s (ropd x) (ropd i)
    | _ => none
  | .index t x i => match P.underlying t with
    | some (.array n e) => (sizeT P e).bind fun s => (isAggT P e).bind fun g => if g ∨ s = 1 then some (.idxArr n s g (ropd x) (ropd i)) else none
    | some .string => some (.idxStr (ropd x) (ropd i))
    | _ => none
  | .lookup t x i ok => (keyK P t).bind fun q => (mapElem P t).bind fun e => (zeroL P e).map fun z => .lookup q.1 q.2 z (ropd x) (ropd i) ok
  | .mapUpdate t m k x | .insert t m k x => (keyK P t).map fun q => .mapUpdate q.1 q.2 (ropd m) (ropd k) (ropd x)
  | .range t x => match P.underlying t with
    | some .string => some (.rangeStr (ropd x))
    | some (.map _ _) => some (.rangeMap (ropd x))
    | _ => none
  | .next x true => some (.nextStr (ropd x))
  | .next x false => some (.nextMap (ropd x))
  | .entry x => some (.entry (ropd x))
  | .typeAssert x _ t ok => match P.underlying t with
    | some (.interface _) => none
    | some _ => (zeroL P t).map fun z => .assertTo t z (ropd x) ok
    | none => none
  | .extract x i => some (.extract (ropd x) i)
  | .call c => ropCall P c
  | _ => none

/-- what is not known is a failure only where it is met -/
def rop (P : Program) (o : Op) : Option ROp := some ((rop0 P o).getD .fail)

/-- the operations that must go ahead of one, as bits -/
def preBits (done : List Nat) (o : Oper) (i : Nat) : Option Nat :=
  o.after.toList.foldlM (fun s e => if Region.binds .any e then (if e.on < i then (done[e.on]?).map fun p => s ||| 2 ^ e.on ||| p else none) else some s) 0

def roper (P : Program) (ops : Array Oper) (done : List Nat) (o : Oper) (i : Nat) : Option (ROper × Nat) :=
  (rop P o.op).bind fun r => (preBits done o i).bind fun pre =>
  match o.guard with
  | none => some ({ dst := o.dst, op := r, guard := none, pre := pre }, pre)
  | some (j, w) => ((ops[j]?).bind (·.dst)).map fun t => ({ dst := o.dst, op := r, guard := some (t, w), pre := pre }, pre)

def ropers (P : Program) (ops : Array Oper) : List Oper → List Nat → Nat → Option (List ROper)
  | [], _, _ => some []
  | o :: os, done, i => (roper P ops done o i).bind fun r => (ropers P ops os (done ++ [r.2]) (i + 1)).map (r.1 :: ·)

/-- the operations that are bound to all others -/
def soloL (l : List ROper) : List ROper := l.zipIdx.map fun p => { p.1 with solo := isCall p.1.op && l.zipIdx.all fun q => p.2 == q.2 || p.1.pre.testBit q.2 || q.1.pre.testBit p.2 }

def rcode (P : Program) : Code → Option RCode
  | .skip => some .skip
  | .region _ ops draw => (ropers P ops ops.toList [] 0).map fun l => .region (if draw then soloL l else l.map fun o => { o with pre := 0 }) draw
  | .seq a b => (rcode P a).bind fun x => (rcode P b).map fun y => .seq x y
  | .cond c a b => (rcode P a).bind fun x => (rcode P b).map fun y => .cond (ropd c) x y
  | .block id b => (rcode P b).map (.block id)
  | .loop b => (rcode P b).map .loop
  | .exit id => some (.exit id)
  | .scope b => (rcode P b).map .scope
  | .label _ => some .skip
  | .ret => some .ret
  | .rangeFunc g _ _ _ => some (.rfunc (ropd g))
  | _ => some .stuck

def rres (P : Program) : ResultVar → Option RRes
  | .tmp t => some (.tmp t)
  | .cell a t => (isAggT P t).bind fun g => (sizeT P t).bind fun n => if g ∨ n = 1 then some (.cell a n g) else none

def rfn (P : Program) (fn : Func) : Option RFn :=
  fn.body.bind fun c => (rcode P c).bind fun b => (omapO (rres P) fn.results.toList).map fun rs => { ntmps := fn.ntmps, results := rs, body := b }

end Lb
