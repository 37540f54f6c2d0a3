/- How resolved code runs on abstract states. -/
import Derived.Test.YtinijohmcofhmaaGreatDoorLbAbs
namespace Lb
open Go

abbrev CallF := Nat → Nat → List L → List Ob → Option (L × List Ob)

def look (hp : List Ob) (ids : List Nat) : List (Option Ob) := ids.map (hp[·]?)

def putE (env : List L) (dst : Option Nat) (d : L) : List L := match dst with | some t => env.set t d | none => env

/-- the new object goes to its reserved place, or to the end -/
def fresh (hp : List Ob) (e : Eff) (slot : Option Nat) : L × List Ob :=
  match e.nw, slot with
  | none, _ => (e.res 0, hp)
  | some b, some r => (e.res r, hp.set r b)
  | some b, none => (e.res hp.length, hp ++ [b])

def enact (lo : Nat) (hp : List Ob) (e : Eff) (slot : Option Nat) : Option (L × List Ob) :=
  match e.wr with
  | none => some (fresh hp e slot)
  | some (o, b) => if lo ≤ o then some (fresh (hp.set o b) e slot) else none

def wanted (g : Option (Nat × Bool)) (env : List L) : Option Bool :=
  match g with
  | none => some true
  | some (t, w) => match env[t]? with
    | some (.v (.bool b)) => some (b == w)
    | some (.tup []) => some false
    | _ => none

def callArgs : ROp → List L → Option (Nat × List L)
  | .call f _, args => some (f, args)
  | .callv .., .fn (.func f) first caps :: rest => some (f, first ++ rest ++ caps)
  | _, _ => none

def nonCall (lo : Nat) (slot : Option Nat) (op : ROp) (args : List L) (hp : List Ob) : Option (L × List Ob) :=
  (nfn op args (look hp (rds op args))).bind fun e => enact lo hp e slot

def stepOp (cf : CallF) (lo : Nat) (o : ROper) (s : St) : Option St :=
  (wanted o.guard s.env).bind fun w =>
    if w then (opds s.env (rargs o.op)).bind fun args =>
      (if isCall o.op then (callArgs o.op args).bind fun fa => cf lo fa.1 fa.2 s.hp else nonCall lo none o.op args s.hp).bind fun r =>
        some ⟨putE s.env o.dst r.1, r.2⟩
    else some ⟨putE s.env o.dst (.tup []), s.hp⟩

def stepOps (cf : CallF) (lo : Nat) : List ROper → St → Option St
  | [], s => some s
  | o :: os, s => (stepOp cf lo o s).bind (stepOps cf lo os)

/- Regions that draw their order. -/

/-- what an operation has touched: a call that found so many objects, or else what it looked at and what it wrote -/
inductive Fp : Type where
  | call (len : Nat)
  | wcall
  | op (ids : List Nat) (wr : Option Nat)
  | idle

def seenAs (pre i : Nat) : Ob → Ob
  | .hole => .gone
  | b => if pre.testBit i then b else .gone

/-- the reserved places that a call doesn't see: of operations that needn't go ahead -/
def maskL (pre n : Nat) : Nat → List Ob → List Ob
  | _, [] => []
  | i, b :: bs => if i < n then seenAs pre i b :: maskL pre n (i + 1) bs else b :: bs

def mask (base n pre : Nat) (hp : List Ob) : List Ob := hp.take base ++ maskL pre n 0 (hp.drop base)

/-- is a reserved place still free? -/
def free (hp : List Ob) (r : Nat) : Bool := match hp[r]? with | some .hole => true | _ => false

def reopenL (pre n : Nat) : Nat → List Ob → List Ob
  | _, [] => []
  | i, b :: bs => if i < n then (if pre.testBit i then b else .hole) :: reopenL pre n (i + 1) bs else b :: bs

/-- the later places are open again -/
def reopen (base n pre : Nat) (hp : List Ob) : List Ob := hp.take base ++ reopenL pre n 0 (hp.drop base)

def openAll (base n pre : Nat) (hp : List Ob) : Bool := (List.range n).all fun i => pre.testBit i || free hp (base + i)

def actD (cf : CallF) (lo base n i pre : Nat) (solo : Bool) (op : ROp) (args : List L) (hp : List Ob) : Option (L × List Ob × Fp) :=
  if isCall op then (callArgs op args).bind fun fa => if solo then
      (if openAll base n pre hp then cf lo fa.1 fa.2 (mask base n pre hp) else none).bind fun r => if hp.length ≤ r.2.length then some (r.1, reopen base n pre r.2, .wcall) else none
    else (cf hp.length fa.1 fa.2 (mask base n pre hp)).bind fun r => some (r.1, hp ++ r.2.drop hp.length, .call hp.length)
  else (nfn op args (look hp (rds op args))).bind fun e => (if free hp (base + i) then enact lo hp e (some (base + i)) else none).bind fun r => some (r.1, r.2, .op (rds op args) (e.wr.map (·.1)))

/-- an operation of a region that draws: 'i' its number, 'n' how many there are, 'base' where its places begin -/
def stepD (cf : CallF) (lo base n i : Nat) (o : ROper) (s : St) : Option (St × Fp) :=
  (wanted o.guard s.env).bind fun w =>
    if w then (opds s.env (rargs o.op)).bind fun args => (actD cf lo base n i o.pre o.solo o.op args s.hp).bind fun r => some (⟨putE s.env o.dst r.1, r.2.1⟩, r.2.2)
    else some (⟨putE s.env o.dst (.tup []), s.hp⟩, .idle)

/-- the slots that an operation reads -/
def tmpsOf (xs : List Opd) : List Nat := xs.filterMap fun | .t n => some n | .c _ => none
def seesT (o : ROper) : List Nat := tmpsOf (rargs o.op) ++ (match o.guard with | some (t, _) => [t] | none => [])

/-- do two operations not hinder one another's slots? -/
def apart (a b : ROper) : Bool :=
  (match a.dst with | some d => !(seesT b).contains d && b.dst != some d | none => true) &&
  (match b.dst with | some d => !(seesT a).contains d | none => true)

/-- an operation's writing, held against another operation -/
def farW (wr : Option Nat) (ids : List Nat) (wr' : Option Nat) (slot' : Nat) : Bool :=
  match wr with | some o => !ids.contains o && wr' != some o && slot' != o | none => true

def noConf (base : Nat) (i j : Nat) : Fp → Fp → Bool
  | .idle, _ => true
  | _, .idle => true
  | .wcall, _ => false
  | _, .wcall => false
  | .call _, .call _ => false
  | .call len, .op ids wr => wr.isNone && ids.all (· < len)
  | .op ids wr, .call len => wr.isNone && ids.all (· < len)
  | .op ids wr, .op ids' wr' => farW wr ids' wr' (base + j) && farW wr' ids wr (base + i) && !ids'.contains (base + i) && !ids.contains (base + j)

def okPair (base : Nat) (x y : Nat × ROper × Fp) : Bool :=
  x.1 < y.1 && (y.2.1.pre.testBit x.1 || (apart x.2.1 y.2.1 && noConf base x.1 y.1 x.2.2 y.2.2 && !x.2.1.pre.testBit y.1))

/-- the operations in the order of the text, each held against those ahead of it that needn't be ahead -/
def runD (cf : CallF) (lo base n : Nat) : Nat → List ROper → List (Nat × ROper × Fp) → St → Option St
  | _, [], _, s => some s
  | i, o :: os, done, s => (stepD cf lo base n i o s).bind fun r =>
      if done.all fun p => okPair base p (i, o, r.2) then runD cf lo base n (i + 1) os ((i, o, r.2) :: done) r.1 else none

def runDraw (cf : CallF) (lo : Nat) (ops : List ROper) (s : St) : Option St :=
  (runD cf lo s.hp.length ops.length 0 ops [] ⟨s.env, s.hp ++ List.replicate ops.length .hole⟩).map fun s' => ⟨s'.env, mask s.hp.length ops.length (2 ^ ops.length - 1) s'.hp⟩

def resOf (env : List L) (hp : List Ob) : RRes → Option L
  | .tmp t => env[t]?
  | .cell a n agg => match env[a]? with
    | some (.ref o off) => match hp[o]? with
      | some (.cells c) => (ext c off n).bind (ofCells agg)
      | _ => none
    | _ => none

def resultOf (fn : RFn) (s : St) : Option L :=
  match fn.results with
  | [r] => resOf s.env s.hp r
  | rs => (omapO (resOf s.env s.hp) rs).map .tup

structure Cfg : Type where
  fns : Nat → Option RFn
  orc : Nat → Option CallF

/-- a call, by an oracle or by the function's code -/
def callWith (C : Cfg) (run : Nat → RCode → St → Option (AEx × St)) : CallF := fun lo f args hp =>
  match C.orc f with
  | some g => g lo f args hp
  | none => (C.fns f).bind fun fn => (run lo fn.body ⟨args ++ List.replicate (fn.ntmps - args.length) (.tup []), hp⟩).bind fun r =>
      match r.1 with
      | .exit _ => none
      | _ => (resultOf fn r.2).map fun d => (d, r.2.hp)

def arun (C : Cfg) : Nat → Nat → RCode → St → Option (AEx × St)
  | 0, _, _, _ => none
  | _ + 1, _, .skip, s => some (.normal, s)
  | k + 1, lo, .region ops draw, s => (if draw then runDraw (callWith C (arun C k)) lo ops s else stepOps (callWith C (arun C k)) lo ops s).map fun s' => (.normal, s')
  | k + 1, lo, .seq a b, s => match arun C k lo a s with
    | some (.normal, s') => arun C k lo b s'
    | r => r
  | k + 1, lo, .cond c a b, s => match opd s.env c with
    | some (.v (.bool true)) => arun C k lo a s
    | some (.v (.bool false)) => arun C k lo b s
    | _ => none
  | k + 1, lo, .block id b, s => match arun C k lo b s with
    | some (.exit id', s') => some (if id' = id then .normal else .exit id', s')
    | r => r
  | k + 1, lo, .loop b, s => match arun C k lo b s with
    | some (.normal, s') => arun C k lo (.loop b) s'
    | r => r
  | _ + 1, _, .exit id, s => some (.exit id, s)
  | k + 1, lo, .scope b, s => arun C k lo b s
  | _ + 1, _, .ret, s => some (.ret, s)
  | _ + 1, _, .stuck, _ => none
  | k + 1, lo, .rfunc g, s => (opd s.env g).bind fun q => match q with
    | .fn (.func f) first caps => if (C.orc f).isSome then none else (callWith C (arun C k) lo f (first ++ [.dead] ++ caps) s.hp).map fun r => (.normal, ⟨s.env, r.2⟩)
    | _ => none

def acall (C : Cfg) (k : Nat) : CallF := callWith C (arun C k)

end Lb
