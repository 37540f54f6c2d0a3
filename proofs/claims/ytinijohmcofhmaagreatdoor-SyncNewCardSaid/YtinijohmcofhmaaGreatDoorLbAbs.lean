/- The abstract interpreter: values, objects, resolved code, and how it runs. -/
import GoSem.Dispatch
import GoSem.Core.Region
namespace Lb
open Go

/-- Abstract values. -/
inductive L : Type where
  | v (x : Value)
  | agg (cs : List L)
  | tup (xs : List L)
  | ref (o off : Nat)
  | osl (o off len esz : Nat)
  | sl (cs : List L) (len esz : Nat)
  | cp (cs : List L)
  | omap (o : Nat)
  /-- an iterator over a map -/
  | mit (o m : Nat)
  | fn (f : Fn) (first caps : List L)
  | ifc (t : TypeId) (x : L)
  /-- a value that is looked at no further: its number -/
  | sym (i : Nat)
  | dead
  deriving Inhabited

/-- Objects of the abstract heap. 'hole': not yet there; 'gone': no longer to be used. -/
inductive Ob : Type where
  | cells (c : List L)
  | map (es : List (L × L × Nat)) (clock : Nat)
  | siter (s : ByteArray) (pos : Nat)
  | miter (m since : Nat) (seen : List Nat) (last : Nat)
  | miter0
  /-- what never changes: the package's variables by their numbers -/
  | glob (gs : List (Nat × List L))
  /-- what never changes: some block's cells -/
  | const (c : List L)
  | hole
  | gone
  deriving Inhabited

inductive Opd : Type where
  | t (n : Nat)
  | c (l : L)

/-- How values of a type are compared: a leaf's kind, or the cells' kinds one by one. -/
inductive Leaf : Type where
  | bool | int (k : IntKind) | str | ptr | iface | func | slice | map
  deriving DecidableEq

inductive ROp : Type where
  | mv (x : Opd)
  | pick (c a b : Opd)
  | alloc (z : List L)
  | box (x : Opd)
  | build (z : List L) (parts : List (Nat × Nat × Opd))
  | buildSlice (len esz : Nat) (z : List L) (parts : List (Nat × Nat × Opd))
  | load (n : Nat) (agg : Bool) (a : Opd)
  | store (n : Nat) (a x : Opd)
  | nilCheck (x : Opd)
  | bin (op : BinOp) (x y : Opd)
  | eq (neg ag : Bool) (ks : List Leaf) (x y : Opd)
  | un (op : UnOp) (x : Opd)
  | convInt (k : IntKind) (x : Opd)
  | convId (x : Opd)
  | convS2B (x : Opd)
  | convB2S (x : Opd)
  | mkIface (t : TypeId) (x : Opd)
  | mkFunc (f : Fn) (first caps : List Opd)
  | mkMap
  | mkSlice (esz bytes : Nat) (z : List L) (l c : Opd)
  | sliceStr (x : Opd) (lo hi : Option Opd)
  | sliceSl (esz : Nat) (x : Opd) (lo hi : Option Opd)
  | sliceArr (n esz : Nat) (x : Opd) (lo hi : Option Opd)
  | fieldAddr (off : Nat) (x : Opd)
  | field (off n : Nat) (agg : Bool) (x : Opd)
  | idxAddrArr (n esz : Nat) (x i : Opd)
  | idxAddrSl (esz : Nat) (x i : Opd)
  | idxArr (n esz : Nat) (agg : Bool) (x i : Opd)
  | idxStr (x i : Opd)
  | lookup (ks : List Leaf) (kagg : Bool) (z : L) (x i : Opd) (ok : Bool)
  | mapUpdate (ks : List Leaf) (kagg : Bool) (m k x : Opd)
  | mapDelete (ks : List Leaf) (kagg : Bool) (m k : Opd)
  | extract (x : Opd) (i : Nat)
  | lenStr (x : Opd)
  | lenSl (x : Opd)
  | lenMap (x : Opd)
  | lenC (n : Nat)
  | capSl (x : Opd)
  | append (esz bytes : Nat) (s x : Opd)
  | copy (esz : Nat) (d x : Opd)
  | minmax (mx : Bool) (xs : List Opd)
  | rangeStr (x : Opd)
  | rangeMap (x : Opd)
  | nextMap (x : Opd)
  | entry (x : Opd)
  | nextStr (x : Opd)
  | assertTo (t : TypeId) (z : L) (x : Opd) (ok : Bool)
  | gload (g n : Nat) (agg : Bool)
  | gidx (g n esz : Nat) (i : Opd)
  /-- what this interpreter does not know -/
  | fail
  | call (f : Nat) (args : List Opd)
  | callv (x : Opd) (args : List Opd)

structure ROper : Type where
  dst : Option Nat
  op : ROp
  guard : Option (Nat × Bool)
  /-- all operations of the region that must go ahead, as bits -/
  pre : Nat
  /-- is it bound to all others of its region? -/
  solo : Bool := false

inductive RCode : Type where
  | skip
  | region (ops : List ROper) (draw : Bool)
  | seq (a b : RCode)
  | cond (c : Opd) (a b : RCode)
  | block (id : Nat) (b : RCode)
  | loop (b : RCode)
  | exit (id : Nat)
  | scope (b : RCode)
  | ret
  | stuck
  /-- a range over a function that comes to no round -/
  | rfunc (g : Opd)

inductive RRes : Type where
  | tmp (t : Nat)
  | cell (a n : Nat) (agg : Bool)

structure RFn : Type where
  ntmps : Nat
  results : List RRes
  body : RCode

structure St : Type where
  env : List L
  hp : List Ob

inductive AEx : Type where
  | normal
  | exit (id : Nat)
  | ret
  deriving DecidableEq

/-- what a single operation that calls nothing does -/
structure Eff : Type where
  res : Nat → L
  wr : Option (Nat × Ob) := none
  nw : Option Ob := none

def val (l : L) : Eff := { res := fun _ => l }

def opd (env : List L) : Opd → Option L
  | .t n => env[n]?
  | .c l => some l

/-- all of a list, or none -/
def omapO {α β : Type} (f : α → Option β) : List α → Option (List β)
  | [] => some []
  | x :: xs => (f x).bind fun y => (omapO f xs).map (y :: ·)

def opds (env : List L) (xs : List Opd) : Option (List L) := omapO (opd env) xs

def ext (c : List L) (off n : Nat) : Option (List L) := if off + n ≤ c.length then some ((c.drop off).take n) else none

def splice (c : List L) (off : Nat) (xs : List L) : Option (List L) :=
  if off + xs.length ≤ c.length then some (c.take off ++ xs ++ c.drop (off + xs.length)) else none

/-- the cells of a value -/
def L.cells : L → List L
  | .agg cs => cs
  | l => [l]

def ofCells (agg : Bool) (cs : List L) : Option L :=
  if agg then some (.agg cs) else match cs with | [x] => some x | _ => none

/-- what may lie in memory -/
def L.good : L → Bool
  | .tup _ | .dead => false
  | _ => true

/-- is it an aggregate? -/
def L.isA : L → Option Bool
  | .agg _ => some true
  | .tup _ | .dead => none
  | _ => some false

def fillC (cells : List L) : List (Nat × Nat × L) → Option (List L)
  | [] => some cells
  | (off, n, l) :: rest => if l.good && l.cells.length == n then (splice cells off l.cells).bind (fillC · rest) else none

/-- integers, strings, bools -/
def vbin : BinOp → Value → Value → Option Value
  | .shl, .int k a, .int _ b => if b < 0 then none else some (.int k (k.wrap (a * 2 ^ (min b.toNat k.bits))))
  | .shr, .int k a, .int _ b => if b < 0 then none else some (.int k (a.fdiv (2 ^ (min b.toNat k.bits))))
  | op, .int k a, .int k' b =>
    if k = k' then match op with
      | .add => some (.int k (k.wrap (a + b)))
      | .sub => some (.int k (k.wrap (a - b)))
      | .mul => some (.int k (k.wrap (a * b)))
      | .quo => if b = 0 then none else some (.int k (k.wrap (a.tdiv b)))
      | .rem => if b = 0 then none else some (.int k (a.tmod b))
      | .and => some (.int k (k.wrap (BitVec.ofInt k.bits a &&& BitVec.ofInt k.bits b).toNat))
      | .or => some (.int k (k.wrap (BitVec.ofInt k.bits a ||| BitVec.ofInt k.bits b).toNat))
      | .xor => some (.int k (k.wrap (BitVec.ofInt k.bits a ^^^ BitVec.ofInt k.bits b).toNat))
      | .andNot => some (.int k (k.wrap (BitVec.ofInt k.bits a &&& ~~~ BitVec.ofInt k.bits b).toNat))
      | .eql => some (.bool (a == b))
      | .neq => some (.bool (a != b))
      | .lss => some (.bool (a < b))
      | .leq => some (.bool (a ≤ b))
      | .gtr => some (.bool (a > b))
      | .geq => some (.bool (a ≥ b))
      | _ => none
    else none
  | op, .string a, .string b =>
    match op with
    | .add => if ((a.size + b.size : Nat) : Int) > IntKind.i64.max then none else some (.string ⟨(a.data.toList ++ b.data.toList).toArray⟩)
    | .eql => some (.bool (a.data.toList == b.data.toList))
    | .neq => some (.bool !(a.data.toList == b.data.toList))
    | .lss => some (.bool (Op.bytesLess a.data.toList b.data.toList))
    | .leq => some (.bool (Op.bytesLess a.data.toList b.data.toList || a.data.toList == b.data.toList))
    | .gtr => some (.bool !(Op.bytesLess a.data.toList b.data.toList || a.data.toList == b.data.toList))
    | .geq => some (.bool !(Op.bytesLess a.data.toList b.data.toList))
    | _ => none
  | _, _, _ => none

def vun : UnOp → Value → Option Value
  | .neg, .int k n => some (.int k (k.wrap (0 - n)))
  | .xor, .int k n => some (.int k (k.wrap (BitVec.ofInt k.bits (if k.signed then -1 else k.max) ^^^ BitVec.ofInt k.bits n).toNat))
  | .not, .bool b => some (.bool !b)
  | _, _ => none

/-- are two leaves of a kind the same? -/
def leafEq : Leaf → L → L → Option Bool
  | .bool, .v (.bool a), .v (.bool b) => some (a == b)
  | .int k, .v (.int k' a), .v (.int k'' b) => if k' = k ∧ k'' = k then some (a == b) else none
  | .str, .v (.string a), .v (.string b) => some (a.data.toList == b.data.toList)
  | .ptr, .v (.pointer none), .v (.pointer none) => some true
  | .ptr, .v (.pointer none), .ref _ _ => some false
  | .ptr, .ref _ _, .v (.pointer none) => some false
  | .ptr, .v (.pointer none), .cp _ => some false
  | .ptr, .cp _, .v (.pointer none) => some false
  | .iface, .v .nilIface, .v .nilIface => some true
  | .iface, .v .nilIface, .ifc _ _ => some false
  | .iface, .ifc _ _, .v .nilIface => some false
  | .func, .v .nilFunc, .v .nilFunc => some true
  | .func, .v .nilFunc, .fn _ _ _ => some false
  | .func, .fn _ _ _, .v .nilFunc => some false
  | .slice, .v (.slice none _ _), .v (.slice none _ _) => some true
  | .slice, .v (.slice none _ _), .osl _ _ _ _ => some false
  | .slice, .osl _ _ _ _, .v (.slice none _ _) => some false
  | .slice, .v (.slice none _ _), .sl _ _ _ => some false
  | .slice, .sl _ _ _, .v (.slice none _ _) => some false
  | .map, .v (.map none), .v (.map none) => some true
  | .map, .v (.map none), .omap _ => some false
  | .map, .omap _, .v (.map none) => some false
  | _, _, _ => none

def leavesEq : List Leaf → List L → List L → Option Bool
  | [], [], [] => some true
  | k :: ks, x :: xs, y :: ys => match leafEq k x y with
    | some true => leavesEq ks xs ys
    | some false => (leavesEq ks xs ys).map fun _ => false
    | none => none
  | _, _, _ => none

/-- the objects that an operation looks at -/
def rds : ROp → List L → List Nat
  | .load .., [.ref o _] => [o]
  | .store .., [.ref o _, _] => [o]
  | .convB2S _, [.osl o _ _ _] => [o]
  | .lookup .., [.omap o, _] => [o]
  | .mapUpdate .., [.omap o, _, _] => [o]
  | .mapDelete .., [.omap o, _] => [o]
  | .lenMap _, [.omap o] => [o]
  | .append .., [.osl o _ _ _, .osl p _ _ _] => [o, p]
  | .append .., [.osl o _ _ _, _] => [o]
  | .append .., [_, .osl p _ _ _] => [p]
  | .copy .., [.osl o _ _ _, .osl p _ _ _] => [o, p]
  | .copy .., [.osl o _ _ _, _] => [o]
  | .copy .., [_, .osl p _ _ _] => [p]
  | .nextStr _, [.ref o _] => [o]
  | .gload .., [] => [0]
  | .rangeMap _, [.omap o] => [o]
  | .nextMap _, [.mit o m] => [o, m]
  | .nextMap _, [.ref o _] => [o]
  | .entry _, [.mit o m] => [o, m]
  | .gidx .., [_] => [0]
  | .sliceArr .., .ref o _ :: _ => [o]
  | _, _ => []

/-- the operands of an operation that calls nothing -/
def rargs : ROp → List Opd
  | .mv x | .box x | .load _ _ x | .nilCheck x | .un _ x | .convInt _ x | .convId x | .convS2B x | .convB2S x | .mkIface _ x | .fieldAddr _ x | .field _ _ _ x
  | .extract x _ | .lenStr x | .lenSl x | .lenMap x | .rangeStr x | .nextStr x | .rangeMap x | .nextMap x | .entry x | .capSl x | .assertTo _ _ x _ => [x]
  | .pick c a b => [c, a, b]
  | .alloc _ | .mkMap | .lenC _ | .gload .. | .fail => []
  | .gidx _ _ _ i => [i]
  | .build _ ps | .buildSlice _ _ _ ps => ps.map (·.2.2)
  | .store _ a x | .bin _ a x | .eq _ _ _ a x | .mkSlice _ _ _ a x | .idxAddrArr _ _ a x | .idxAddrSl _ a x | .idxArr _ _ _ a x | .idxStr a x | .lookup _ _ _ a x _
  | .mapDelete _ _ a x | .append _ _ a x | .copy _ a x => [a, x]
  | .mapUpdate _ _ m k x => [m, k, x]
  | .mkFunc _ first caps => first ++ caps
  | .sliceStr x lo hi | .sliceSl _ x lo hi | .sliceArr _ _ x lo hi => x :: lo.toList ++ hi.toList
  | .minmax _ xs => xs
  | .call _ xs => xs
  | .callv x xs => x :: xs

def isCall : ROp → Bool
  | .call .. | .callv .. => true
  | _ => false

/-- a slice expression's bounds out of what stands behind the operand -/
def bounds (hasLo hasHi : Bool) (len : Nat) (rest : List L) : Option (Nat × Nat) :=
  match hasLo, hasHi, rest with
  | false, false, [] => some (0, len)
  | true, false, [.v (.int _ l)] => if 0 ≤ l ∧ l ≤ len then some (l.toNat, len) else none
  | false, true, [.v (.int _ h)] => if 0 ≤ h ∧ h ≤ len then some (0, h.toNat) else none
  | true, true, [.v (.int _ l), .v (.int _ h)] => if 0 ≤ h ∧ h ≤ len ∧ 0 ≤ l ∧ l ≤ h then some (l.toNat, h.toNat) else none
  | _, _, _ => none

def key1 (ks : List Leaf) (ag : Bool) (k c : L) : Option Bool := if k.isA = some ag ∧ c.isA = some ag then leavesEq ks k.cells c.cells else none

def findKey (ks : List Leaf) (ag : Bool) (k : L) : List (L × L × Nat) → Nat → Option (Option (Nat × L))
  | [], _ => some none
  | e :: es, i => match key1 ks ag k e.1 with
    | some true => some (some (i, e.2.1))
    | some false => findKey ks ag k es (i + 1)
    | none => none

def kind1 : Leaf → L → Bool
  | .bool, .v (.bool _) => true
  | .int k, .v (.int k' _) => k = k'
  | .str, .v (.string _) => true
  | _, _ => false

def kinds : List Leaf → List L → Bool
  | [], [] => true
  | k :: ks, c :: cs => kind1 k c && kinds ks cs
  | _, _ => false

/-- is a key of its type's kinds? -/
def kindOf (ks : List Leaf) (ag : Bool) (k : L) : Bool := (k.isA == some ag) && kinds ks k.cells

def findG : List (Nat × List L) → Nat → Option (List L)
  | [], _ => none
  | (h, c) :: r, g => if h = g then some c else findG r g

def contents (hp : List (Option Ob)) (i : Nat) : Option (List L) :=
  match hp[i]? with | some (some (.cells c)) => some c | _ => none

/-- the cells of a slice that is looked at (the i-th object, if it is one's) -/
def slCells (obs : List (Option Ob)) (i esz : Nat) : L → Option (List L)
  | .v (.slice none l _) => if l = 0 then some [] else none
  | .sl cs _ e => if e = esz then some cs else none
  | .osl _ off len e => if e = esz then (contents obs i).bind fun c => ext c off (len * esz) else none
  | .v (.string s) => if esz = 1 then some (s.data.toList.map fun b => .v (.int .u8 b.toNat)) else none
  | _ => none

def slLen : L → Option Nat
  | .v (.slice none l _) => if l = 0 then some 0 else none
  | .sl _ n _ => some n
  | .osl _ _ n _ => some n
  | .v (.string s) => some s.size
  | _ => none

/-- the bytes of cells -/
def bytesOf : List L → Option (List UInt8)
  | [] => some []
  | .v (.int .u8 n) :: r => (bytesOf r).map (UInt8.ofNat n.toNat :: ·)
  | _ => none

def notOf (o : Nat) : L → Bool
  | .osl p _ _ _ => p != o
  | _ => true

def mm2 (mx : Bool) : L → L → Option L
  | .v (.int k x), .v (.int k' y) => if k = k' then some (.v (.int k (if mx then (if y > x then y else x) else (if y < x then y else x)))) else none
  | _, _ => none

def mmAll (mx : Bool) : L → List L → Option L
  | x, [] => some x
  | x, y :: r => (mm2 mx x y).bind (mmAll mx · r)

/-- what an iterator may come to next -/
def cands (es : List (L × L × Nat)) (since : Nat) (seen : List Nat) : List (Option (L × L × Nat)) :=
  let left := es.filter fun e => !seen.contains e.2.2
  let old := left.filter fun e => decide (e.2.2 < since)
  let new := left.filter fun e => decide (e.2.2 ≥ since)
  (if old.isEmpty then [none] else []) ++ (old ++ new).map some

/-- map iteration, texts' characters, package variables -/
def nfnM : ROp → List L → List (Option Ob) → Option Eff
  | .bin op _ _, [.sym i, .sym j], _ => if i = j then match op with
      | .eql => some (val (.v (.bool true)))
      | .neq => some (val (.v (.bool false)))
      | _ => none
      else none
  | .capSl _, [.v (.slice none _ c)], _ => some (val (.v (.int .i64 c)))
  | .gload g n agg, [], obs => match obs with
      | [some (.glob gs)] => (findG gs g).bind fun c => (ext c 0 n).bind fun cs => (ofCells agg cs).map val
      | _ => none
  | .gidx g n esz _, [.v (.int _ i)], obs => match obs with
      | [some (.glob gs)] => if 0 ≤ i ∧ i < n then (findG gs g).bind fun c => if n * esz ≤ c.length then some (val (.cp (c.drop (i.toNat * esz)))) else none else none
      | _ => none
  | .minmax mx _, x :: xs, _ => (mmAll mx x xs).map val
  | .rangeStr _, [.v (.string s)], _ => some { res := fun o => .ref o 0, nw := some (.siter s 0) }
  | .nextStr _, [.ref o off], obs => match obs with
      | [some (.siter s pos)] => if off = 0 then
          if pos < s.size then some { res := fun _ => .tup [.v (.bool true), .v (.int .i64 pos), .v (.int .i32 (Utf8.decode s pos).1)], wr := some (o, .siter s (pos + (Utf8.decode s pos).2)) }
          else some (val (.tup [.v (.bool false)]))
          else none
      | _ => none
  | .rangeMap _, [.omap m], obs => match obs with
      | [some (.map _ clock)] => some { res := fun o => .mit o m, nw := some (.miter m clock [] clock) }
      | _ => none
  | .rangeMap _, [.v (.map none)], _ => some { res := fun o => .ref o 0, nw := some .miter0 }
  | .nextMap _, [.ref _ off], obs => match obs with
      | [some .miter0] => if off = 0 then some (val (.tup [.v (.bool false)])) else none
      | _ => none
  | .nextMap _, [.mit o m], obs => match obs with
      | [some (.miter m' since seen last), some (.map es clock)] =>
        if m' = m ∧ (!seen.isEmpty && !es.isEmpty && es.all (fun e => decide (e.2.2 ≥ last))) = false then
          match cands es since seen with
          | [none] => some (val (.tup [.v (.bool false)]))
          | [some e] => some { res := fun _ => .tup [.v (.bool true), e.1, e.2.1], wr := some (o, .miter m since (seen ++ [e.2.2]) clock) }
          | _ => none
        else none
      | _ => none
  | .entry _, [.mit _ m], obs => match obs with
      | [some (.miter m' _ seen last), some (.map es clock)] =>
        if m' = m ∧ clock = last then
          match seen.getLast? with
          | some stamp => (es.find? fun e => e.2.2 == stamp).map fun e => val (.tup [e.1, e.2.1])
          | none => none
        else none
      | _ => none
  | _, _, _ => none

/-- What an operation does that calls nothing. 'xs': its operands; 'obs': the objects that it looks at. -/
def nfn1 : ROp → List L → List (Option Ob) → Option Eff
  | .mv _, [x], _ => some (val x)
  | .pick .., [.v (.bool c), a, b], _ => some (val (if c then a else b))
  | .alloc z, [], _ => some { res := fun o => .ref o 0, nw := some (.cells z) }
  | .box _, [x], _ => if x.good then some { res := fun o => .ref o 0, nw := some (.cells x.cells) } else none
  | .build z ps, xs, _ => (fillC z ((ps.zip xs).map fun p => (p.1.1, p.1.2.1, p.2))).map fun cs => val (.agg cs)
  | .buildSlice len esz z ps, xs, _ => (fillC z ((ps.zip xs).map fun p => (p.1.1, p.1.2.1, p.2))).map fun cs =>
      { res := fun o => .osl o 0 len esz, nw := some (.cells cs) }
  | .load n agg _, [.ref _ off], obs => (contents obs 0).bind fun c => (ext c off n).bind fun cs => (ofCells agg cs).map val
  | .load n agg _, [.cp c], _ => (ext c 0 n).bind fun cs => (ofCells agg cs).map val
  | .store n _ _, [.ref o off, x], obs => if x.good && x.cells.length == n then (contents obs 0).bind fun c => (splice c off x.cells).map fun c' =>
      { res := fun _ => .tup [], wr := some (o, .cells c') } else none
  | .nilCheck _, [.ref o off], _ => some (val (.ref o off))
  | .nilCheck _, [.cp c], _ => some (val (.cp c))
  | .nilCheck _, [.fn (.func f) a b], _ => some (val (.fn (.func f) a b))
  | .bin op _ _, [.v a, .v b], _ => (vbin op a b).map fun x => val (.v x)
  | .eq neg ag ks _ _, [x, y], _ => if x.isA = some ag ∧ y.isA = some ag then (leavesEq ks x.cells y.cells).map fun b => val (.v (.bool (b != neg))) else none
  | .un op _, [.v a], _ => (vun op a).map fun x => val (.v x)
  | .convInt k _, [.v (.int _ n)], _ => some (val (.v (.int k (k.wrap n))))
  | .convId _, [.v (.string s)], _ => some (val (.v (.string s)))
  | .convS2B _, [.v (.string s)], _ => if s.size ≤ 9223372036854775807 then some { res := fun o => .osl o 0 s.size 1, nw := some (.cells (s.data.toList.map fun b => .v (.int .u8 b.toNat))) } else none
  | .convB2S _, [.v (.string _)], _ => none
  | .convB2S _, [x], obs => (slCells obs 0 1 x).bind fun cs => (bytesOf cs).map fun bs => val (.v (.string ⟨bs.toArray⟩))
  | .mkIface t _, [x], _ => some (val (.ifc t x))
  | .mkFunc f first caps, xs, _ => some (val (.fn f (xs.take first.length) (xs.drop first.length)))
  | .mkMap, [], _ => some { res := fun o => .omap o, nw := some (.map [] 0) }
  | .mkSlice esz bytes z _ _, [.v (.int _ l), .v (.int _ c)], _ =>
      if 0 ≤ l ∧ l ≤ c ∧ c * bytes ≤ 140737488355328 ∧ c ≤ 140737488355328 then some { res := fun o => .osl o 0 l.toNat esz, nw := some (.cells ((List.replicate c.toNat z).flatten)) } else none
  | .sliceStr _ lo hi, .v (.string s) :: rest, _ => (bounds lo.isSome hi.isSome s.size rest).map fun b => val (.v (.string (s.extract b.1 b.2)))
  | .sliceSl esz _ lo hi, .osl o off len e :: rest, _ => if e = esz then (bounds lo.isSome hi.isSome len rest).bind fun b =>
      some (val (if lo.isSome && b.1 == len then .sl [] 0 esz else .osl o (off + b.1 * esz) (b.2 - b.1) esz)) else none
  | .sliceSl esz _ lo hi, .sl cs len e :: rest, _ => if e = esz then (bounds lo.isSome hi.isSome len rest).map fun b =>
      val (.sl ((cs.drop (b.1 * esz)).take ((b.2 - b.1) * esz)) (b.2 - b.1) esz) else none
  | .sliceSl _ _ lo hi, .v (.slice none l c) :: rest, _ => if l = 0 ∧ c = 0 then (bounds lo.isSome hi.isSome 0 rest).map fun _ => val (.v (.slice none 0 0)) else none
  | .sliceArr n esz _ lo hi, .ref o off :: rest, obs => (contents obs 0).bind fun c => if off + n * esz ≤ c.length ∧ n ≤ 9223372036854775807 then (bounds lo.isSome hi.isSome n rest).map fun b =>
      val (if lo.isSome && b.1 == n then .sl [] 0 esz else .osl o (off + b.1 * esz) (b.2 - b.1) esz) else none
  | .fieldAddr off _, [.ref o f], _ => some (val (.ref o (f + off)))
  | .fieldAddr off _, [.cp c], _ => if off ≤ c.length then some (val (.cp (c.drop off))) else none
  | .field off n agg _, [.agg cs], _ => (ext cs off n).bind fun c => (ofCells agg c).map val
  | .idxAddrArr n esz _ _, [.ref o off, .v (.int _ i)], _ => if 0 ≤ i ∧ i < n then some (val (.ref o (off + i.toNat * esz))) else none
  | .idxAddrArr n esz _ _, [.cp c, .v (.int _ i)], _ => if 0 ≤ i ∧ i < n then some (val (.cp (c.drop (i.toNat * esz)))) else none
  | .idxAddrSl esz _ _, [.osl o off len e, .v (.int _ i)], _ => if e = esz ∧ 0 ≤ i ∧ i < len then some (val (.ref o (off + i.toNat * esz))) else none
  | .idxAddrSl esz _ _, [.sl cs len e, .v (.int _ i)], _ => if e = esz ∧ 0 ≤ i ∧ i < len then some (val (.cp (cs.drop (i.toNat * esz)))) else none
  | .idxArr n esz agg _ _, [.agg cs, .v (.int _ i)], _ => if 0 ≤ i ∧ i < n then (ext cs (i.toNat * esz) esz).bind fun c => (ofCells agg c).map val else none
  | .idxStr _ _, [.v (.string s), .v (.int _ i)], _ => if 0 ≤ i then (s.data.toList[i.toNat]?).map fun b => val (.v (.int .u8 b.toNat)) else none
  | .lookup ks kagg z _ _ ok, [.v (.map none), k], _ => if kindOf ks kagg k then some (val (if ok then .tup [z, .v (.bool false)] else z)) else none
  | .lookup ks kagg z _ _ ok, [.omap _, k], obs => if kindOf ks kagg k then match obs with
      | [some (.map es _)] => (findKey ks kagg k es 0).map fun r =>
          let p : L × Bool := match r with | some (_, v) => (v, true) | none => (z, false)
          val (if ok then .tup [p.1, .v (.bool p.2)] else p.1)
      | _ => none else none
  | .mapUpdate ks kagg _ _ _, [.omap o, k, x], obs => if kindOf ks kagg k then match obs with
      | [some (.map es clock)] => (findKey ks kagg k es 0).map fun r => match r with
          | some (i, _) => { res := fun _ => .tup [], wr := some (o, .map (es.modify i fun e => (e.1, x, e.2.2)) clock) }
          | none => { res := fun _ => .tup [], wr := some (o, .map (es ++ [(k, x, clock)]) (clock + 1)) }
      | _ => none else none
  | .mapDelete ks kagg _ _, [.omap o, k], obs => if kindOf ks kagg k then match obs with
      | [some (.map es clock)] => (findKey ks kagg k es 0).map fun r => match r with
          | some (i, _) => { res := fun _ => .tup [], wr := some (o, .map (es.eraseIdx i) clock) }
          | none => { res := fun _ => .tup [], wr := some (o, .map es clock) }
      | _ => none else none
  | .mapDelete ks kagg _ _, [.v (.map none), k], _ => if kindOf ks kagg k then some (val (.tup [])) else none
  | .extract _ i, [.tup xs], _ => (xs[i]?).map val
  | .lenStr _, [.v (.string s)], _ => some (val (.v (.int .i64 s.size)))
  | .lenSl _, [x], _ => match x with
      | .v (.slice none n _) => some (val (.v (.int .i64 n)))
      | .sl _ n _ => some (val (.v (.int .i64 n)))
      | .osl _ _ n _ => some (val (.v (.int .i64 n)))
      | _ => none
  | .lenMap _, [.v (.map none)], _ => some (val (.v (.int .i64 0)))
  | .lenMap _, [.omap _], obs => match obs with
      | [some (.map es _)] => some (val (.v (.int .i64 es.length)))
      | _ => none
  | .lenC n, [], _ => some (val (.v (.int .i64 n)))
  | .append esz bytes _ _, [s, x], obs => match s with
      | .v (.slice none l c) => if l = 0 ∧ c = 0 then (slCells obs 0 esz x).bind fun new => (slLen x).bind fun m =>
          if m * bytes ≤ 140737488355328 ∧ m ≤ 140737488355328 then
            if m = 0 then some (val (.v (.slice none 0 0))) else some { res := fun o => .osl o 0 m esz, nw := some (.cells new) }
          else none else none
      | .osl o off n e => if e = esz ∧ off = 0 then (contents obs 0).bind fun c => (slCells obs 1 esz x).bind fun new => (slLen x).bind fun m =>
          if c.length = n * esz ∧ (n + m) * bytes ≤ 140737488355328 ∧ n + m ≤ 140737488355328 ∧ notOf o x then
            some { res := fun o' => .osl o' 0 (n + m) esz, wr := some (o, .gone), nw := some (.cells (c ++ new)) }
          else none else none
      | _ => none
  | .copy esz _ _, [d, x], obs => match d with
      | .osl o off n e => if e = esz ∧ notOf o x then (contents obs 0).bind fun c => (slLen x).bind fun m => (slCells obs 1 esz x).bind fun cx =>
          (splice c off (cx.take (min m n * esz))).map fun c' => { res := fun _ => .v (.int .i64 (min m n : Nat)), wr := some (o, .cells c') } else none
      | .v (.slice none l _) => if l = 0 then (slCells obs 0 esz x).bind fun _ => (slLen x).map fun _ => val (.v (.int .i64 0)) else none
      | _ => none
  | .assertTo t z _ ok, [.ifc u x], _ => if u = t then some (val (if ok then .tup [x, .v (.bool true)] else x)) else
      if ok then some (val (.tup [z, .v (.bool false)])) else none
  | .assertTo _ z _ ok, [.v .nilIface], _ => if ok then some (val (.tup [z, .v (.bool false)])) else none
  | _, _, _ => none

def nfn : ROp → List L → List (Option Ob) → Option Eff
  | .capSl x, xs', obs => nfnM (.capSl x) xs' obs
  | .bin op x y, [.sym i, .sym j], obs => nfnM (.bin op x y) [.sym i, .sym j] obs
  | .rangeMap x, xs', obs => nfnM (.rangeMap x) xs' obs
  | .nextMap x, xs', obs => nfnM (.nextMap x) xs' obs
  | .entry x, xs', obs => nfnM (.entry x) xs' obs
  | .gload g n a, xs', obs => nfnM (.gload g n a) xs' obs
  | .gidx g n e i, xs', obs => nfnM (.gidx g n e i) xs' obs
  | .nextStr x, xs', obs => nfnM (.nextStr x) xs' obs
  | .rangeStr x, xs', obs => nfnM (.rangeStr x) xs' obs
  | .minmax b xs, xs', obs => nfnM (.minmax b xs) xs' obs
  | op, xs, obs => nfn1 op xs obs

end Lb
