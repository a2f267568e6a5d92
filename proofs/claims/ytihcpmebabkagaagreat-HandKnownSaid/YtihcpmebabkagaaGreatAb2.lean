/- The abstract machine: code. -/
import Derived.Test.YtihcpmebabkagaaGreatAb1
import Derived.Orders
namespace Go.Ab

def evalT (tm : Array Value) : Operand → Value
  | .tmp t => tm.getD t undef
  | .const v => v
  | .global _ => undef
  | .func f => .func (.func f) #[] #[]
def operOk : Operand → Bool
  | .global _ => false
  | .const v => flat v
  | _ => true
def putT (tm : Array Value) (dst : Option Tmp) (v : Value) : Array Value :=
  match dst with
  | some d => tm.setIfInBounds d v
  | none => tm

abbrev CallT := FuncId → Array Value → Hp → Option (Value × Hp)

def stepOp (P : Program) (call : CallT) (tm : Array Value) (H : Hp) (o : Oper) : Option (Array Value × Hp) :=
  match aop P (evalT tm) o H with
  | some (.val v H) => some (putT tm o.dst v, H)
  | some (.enter f args H) => (call f args H).map fun r => (putT tm o.dst r.1, r.2)
  | none => none
def runOps (P : Program) (call : CallT) (ops : Array Oper) : List Oper → Array Value → Hp → Option (Array Value × Hp)
  | [], tm, H => some (tm, H)
  | o :: l, tm, H =>
    if Region.wanted o (yielded ops tm) then
      match stepOp P call tm H o with
      | some r => runOps P call ops l r.1 r.2
      | none => none
    else runOps P call ops l (putT tm o.dst undef) H

/-- Of no memory that was there. -/
def still (P : Program) (o : Oper) : Bool :=
  match o.op with
  | .move _ | .assign _ | .pick .. | .alloc _ | .box .. | .build .. | .buildSlice .. | .nilCheck _ | .binOp .. | .unOp .. | .makeFunc .. | .makeMap .. | .makeSlice ..
  | .slice .. | .fieldAddr .. | .field .. | .indexAddr .. | .index .. | .extract .. => true
  | .convert s d _ => !((P.underlying s matches some (.slice _)) && (P.underlying d matches some .string))
  | .call c => match c.callee, c.argTypes[0]? with
    | .builtin .len, some t => !(P.underlying t matches some (.map ..))
    | .builtin .cap, _ | .builtin .min, _ | .builtin .max, _ => true
    | _, _ => false
  | _ => false

/-- What an operation of a region that draws touched of what was there. -/
inductive Foot where
  | still
  | ld (b lo hi : Nat)
  | st (b lo hi : Nat)
  | loud (wrote : Bool)
  deriving Inhabited
def Foot.clash : Foot → Foot → Bool
  | .still, _ | _, .still => false
  | .ld .., .ld .. => false
  | .ld b lo hi, .st c l h | .st c l h, .ld b lo hi | .st b lo hi, .st c l h => b == c && lo < h && l < hi
  | .loud w, .ld .. | .ld .., .loud w => w
  | .loud _, .st .. | .st .., .loud _ => true
  | .loud v, .loud w => v || w
structure Did where
  lo : Nat
  hi : Nat
  foot : Foot

def masks (bk : Nat) : Nat → List Did → List (Nat × Nat)
  | _, [] => []
  | i, d :: l => if !bk.testBit i && d.lo < d.hi then (d.lo, d.hi) :: masks bk (i + 1) l else masks bk (i + 1) l
def clash (bk : Nat) (f : Foot) : Nat → List Did → Bool
  | _, [] => false
  | i, d :: l => (!bk.testBit i && d.foot.clash f) || clash bk f (i + 1) l
/-- One operation of a region that draws; ms: what it may not see. -/
def drawStep (P : Program) (call : CallT) (tm : Array Value) (H : Hp) (ms : List (Nat × Nat)) (o : Oper) : Option (Array Value × Hp × Foot) :=
  if still P o then
    match aop P (evalT tm) o ⟨.e, H.size, [], H.size⟩ with
    | some (.val v Hr) =>
      if Hr.size = H.size then some (putT tm o.dst v, H, .still)
      else if Hr.size = H.size + 1 then some (putT tm o.dst v, H.new (Hr.tr.get H.size), .still)
      else none
    | _ => none
  else match o.op with
  | .load t a =>
    match evalT tm a with
    | .pointer (some ⟨b, off, none⟩) =>
      match loadAt' P { H with msk := ms ++ H.msk } t (.pointer (some ⟨b, off, none⟩)), P.info? t with
      | some v, some i => some (putT tm o.dst v, H, .ld b off (off + max 1 i.size))
      | _, _ => none
    | _ => none
  | .store t a x =>
    match evalT tm a with
    | .pointer (some ⟨b, off, none⟩) =>
      match storeAt' P { H with msk := ms ++ H.msk } t (evalT tm x) (.pointer (some ⟨b, off, none⟩)), P.info? t with
      | some H1, some i => some (putT tm o.dst undef, { H1 with msk := H.msk }, .st b off (off + i.size))
      | _, _ => none
    | _ => none
  | _ =>
    match stepOp P call tm { H with msk := ms ++ H.msk, low := H.size } o with
    | some (tm', H') => some (tm', { H' with msk := H.msk, low := min H.low H'.low }, .loud (decide (H'.low < H.size)))
    | none => none
/-- 'did' in the text's order: the operations so far. -/
def drawOps (P : Program) (call : CallT) (ops : Array Oper) (b : Array Nat) : List Oper → List Did → Array Value → Hp → Option (Array Value × Hp)
  | [], _, tm, H => some (tm, H)
  | o :: l, did, tm, H =>
    if Region.wanted o (yielded ops tm) then
      match drawStep P call tm H (masks (b.getD did.length 0) 0 did) o with
      | some (tm', H', f) =>
        if clash (b.getD did.length 0) f 0 did then none
        else drawOps P call ops b l (did ++ [⟨H.size, H'.size, f⟩]) tm' H'
      | none => none
    else drawOps P call ops b l (did ++ [⟨H.size, H.size, .still⟩]) (putT tm o.dst undef) H
/-- Operations that nothing orders name other temporaries. -/
def apartFrom (ops : Array Oper) (bk : Nat) (o : Oper) : Nat → List Oper → Bool
  | _, [] => true
  | i, x :: l => (bk.testBit i || x.apart ops o) && apartFrom ops bk o (i + 1) l
def apartAll (ops : Array Oper) (b : Array Nat) : List Oper → List Oper → Bool
  | _, [] => true
  | pre, o :: l => apartFrom ops (b.getD pre.length 0) o 0 pre && apartAll ops b (pre ++ [o]) l
/-- Each edge that binds leads back. -/
def backAll : Nat → List Oper → Bool
  | _, [] => true
  | i, o :: l => o.after.all (fun e => !Region.binds .any e || e.on < i) && backAll (i + 1) l
def drawOk (ops : Array Oper) (b : Array Nat) : Bool := apartAll ops b [] ops.toList && backAll 0 ops.toList

inductive Ex where
  | normal
  | exit (id : Nat)
  | ret
  deriving DecidableEq, Inhabited

abbrev StepT := Array Value → Hp → Option (Ex × Array Value × Hp)
def loopN (body : StepT) : Nat → StepT
  | 0, _, _ => none
  | n + 1, tm, H =>
    match body tm H with
    | some (.normal, tm, H) => loopN body n tm H
    | r => r

def aCode (P : Program) (call : CallT) (N : Nat) : Code → StepT
  | .skip, tm, H | .label _, tm, H => some (.normal, tm, H)
  | .region _ ops draw, tm, H =>
    if ops.all fun o => o.op.operands.all operOk then
      if draw then (if drawOk ops (Region.before ops) then (drawOps P call ops (Region.before ops) ops.toList [] tm H).map fun r => (.normal, r.1, r.2) else none)
      else (runOps P call ops ops.toList tm H).map fun r => (.normal, r.1, r.2)
    else none
  | .seq a b, tm, H =>
    match aCode P call N a tm H with
    | some (.normal, tm, H) => aCode P call N b tm H
    | r => r
  | .cond c x y, tm, H =>
    match evalT tm c with
    | .bool true => aCode P call N x tm H
    | .bool false => aCode P call N y tm H
    | _ => none
  | .block id body, tm, H =>
    match aCode P call N body tm H with
    | some (.exit id', tm, H) => if id' = id then some (.normal, tm, H) else some (.exit id', tm, H)
    | r => r
  | .loop body, tm, H => loopN (aCode P call N body) N tm H
  | .exit id, tm, H => some (.exit id, tm, H)
  | .ret, tm, H => some (.ret, tm, H)
  | _, _, _ => none

def noTuple : Value → Bool
  | .tuple _ => false
  | _ => true
def aResult (P : Program) (tm : Array Value) (H : Hp) : ResultVar → Option Value
  | .tmp t => if noTuple (tm.getD t undef) then some (tm.getD t undef) else none
  | .cell a t => match loadAt' P H t (tm.getD a undef) with
    | some v => if noTuple v then some v else none
    | none => none
def aResL (P : Program) (tm : Array Value) (H : Hp) : List ResultVar → Option (List Value)
  | [] => some []
  | r :: l => match aResult P tm H r, aResL P tm H l with
    | some v, some vs => some (v :: vs)
    | _, _ => none
def aResults (P : Program) (fn : Func) (tm : Array Value) (H : Hp) : Option Value :=
  match aResL P tm H fn.results.toList with
  | some [v] => some v
  | some l => some (.tuple l.toArray)
  | none => none

def aBody (P : Program) (call : CallT) (N : Nat) (f : FuncId) (args : Array Value) (H : Hp) : Option (Value × Hp) :=
  match P.funcs[f]? with
  | none => none
  | some fn =>
    match fn.body with
    | none => none
    | some c =>
      match aCode P call N c (args ++ Array.replicate (fn.ntmps - args.size) undef) H with
      | some (.normal, tm, H) | some (.ret, tm, H) => (aResults P fn tm H).map fun v => (v, H)
      | _ => none

def callN (P : Program) (ext : CallT) (N : Nat) : Nat → CallT
  | 0, _, _, _ => none
  | d + 1, f, args, H =>
    match ext f args H with
    | some r => some r
    | none => aBody P (callN P ext N d) N f args H
end Go.Ab
