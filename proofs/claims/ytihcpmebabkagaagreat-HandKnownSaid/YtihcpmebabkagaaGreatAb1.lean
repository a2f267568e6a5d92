/- The abstract machine: values, heaps, operations. -/
import GoSem.Dispatch
import Derived.Control
import Derived.Laws.BytesArg
namespace Go.Ab

def big : Nat := 18446744073709551616

/-- A block: a row of cells (z > 0: room for elements of z cells may lie behind them), or a map. -/
inductive Blk where
  | cells (c : Array Value) (z : Nat)
  | map (es : Array MapEntry) (clock : Nat)
  deriving Inhabited

inductive Tr where
  | e
  | n (v : Option Blk) (l r : Tr)
  deriving Inhabited

def Tr.get : Tr → Nat → Option Blk
  | .e, _ => none
  | .n v l r, i => if i = 0 then v else if i % 2 = 1 then l.get (i / 2) else r.get (i / 2 - 1)
def Tr.setF (v : Option Blk) : Nat → Tr → Nat → Tr
  | 0, t, _ => t
  | k + 1, t, i =>
    match t with
    | .e => if i = 0 then .n v .e .e else if i % 2 = 1 then .n none (Tr.setF v k .e (i / 2)) .e else .n none .e (Tr.setF v k .e (i / 2 - 1))
    | .n u l r => if i = 0 then .n v l r else if i % 2 = 1 then .n u (Tr.setF v k l (i / 2)) r else .n u l (Tr.setF v k r (i / 2 - 1))
def Tr.set (t : Tr) (i : Nat) (v : Option Blk) : Tr := Tr.setF v (i + 1) t i

structure Hp where
  tr : Tr
  size : Nat
  msk : List (Nat × Nat)
  /-- the least block that was written, or gone -/
  low : Nat
  deriving Inhabited

def Hp.get (H : Hp) (b : Nat) : Option Blk := if H.msk.any fun m => m.1 ≤ b && b < m.2 then none else H.tr.get b
def Hp.new (H : Hp) (o : Option Blk) : Hp := { H with tr := H.tr.set H.size o, size := H.size + 1 }
def Hp.put (H : Hp) (b : Nat) (o : Option Blk) : Hp := { H with tr := H.tr.set b o, low := min H.low b }

def pureSem {α : Type} (P : Program) : Sem α → Option α
  | .pure a => some a
  | .program k => pureSem P (k P)
  | .mark _ k => pureSem P k
  | _ => none

/-! values -/
def flat0 : Value → Bool
  | .bool _ | .int .. | .float .. | .complex .. | .string _ | .nilFunc | .nilIface => true
  | .pointer a => a.isNone
  | .slice a _ _ => a.isNone
  | .map r => r.isNone
  | .chan r => r.isNone
  | .func _ f c => f.size == 0 && c.size == 0
  | _ => false
def flat2 : Value → Bool
  | .agg cs => cs.all flat0
  | v => flat0 v
def flat : Value → Bool
  | .tuple vs => vs.all flat2
  | v => flat2 v
/-- The value of one cell. -/
def one : Value → Bool
  | .agg _ | .tuple _ | .iface .. => false
  | .func _ f c => f.size == 0 && c.all fun v => match v with | .pointer _ => true | _ => false
  | _ => true
def part' (P : Program) (t : TypeId) (cs : Array Value) (off : Nat) : Option Value :=
  match P.underlying t with
  | some (.struct _) | some (.array ..) => (P.info? t).map fun i => .agg (cs.extract off (off + i.size))
  | some _ => match cs[off]? with | some v => if one v then some v else none | none => none
  | none => none
def isAgg' (P : Program) (t : TypeId) : Option Bool :=
  match P.underlying t with
  | some (.struct _) | some (.array ..) => some true
  | some _ => some false
  | none => none
def loadAt' (P : Program) (H : Hp) (t : TypeId) : Value → Option Value
  | .pointer (some ⟨b, o, none⟩) =>
    match H.get b with
    | some (.cells cs _) =>
      match isAgg' P t with
      | some true => do
        let i ← P.info? t
        if o + i.size ≤ cs.size then some (.agg (cs.extract o (o + i.size))) else none
      | some false => match cs[o]? with | some v => if one v then some v else none | none => none
      | none => none
    | _ => none
  | _ => none
def setCells (cs : Array Value) (o : Nat) : List Value → Array Value
  | [] => cs
  | v :: l => setCells (cs.setIfInBounds o v) (o + 1) l
def storeAt' (P : Program) (H : Hp) (t : TypeId) (v : Value) : Value → Option Hp
  | .pointer (some ⟨b, o, none⟩) =>
    match H.get b with
    | some (.cells cs op) => do
      let i ← P.info? t
      if v.cells.size = i.size ∧ o + i.size ≤ cs.size ∧ v.cells.all one then some (H.put b (some (.cells (setCells cs o v.cells.toList) op))) else none
    | _ => none
  | _ => none
def int? : Value → Option Int
  | .int _ n => some n
  | _ => none
/-- A bound of a slice expression: d where there is none; at most y. -/
def bnd (v : Option Value) (d y : Nat) : Option Nat :=
  match v with
  | none => some d
  | some (.int _ i) => if 0 ≤ i ∧ i ≤ y then some i.toNat else none
  | some _ => none
/-- x[lo:hi:mx] -/
def slice' (P : Program) (H : Hp) (t : TypeId) (x : Value) (lo hi mx : Option Value) : Option (Value × Hp) :=
  if mx.isSome && hi.isNone then none else
  match P.underlying t, x with
  | some (.array n elem), .pointer (some a) => do
    let i ← P.info? elem
    let m ← bnd mx n n
    let h ← bnd hi n m
    let l ← bnd lo 0 h
    if n < big then some (.slice (some (if m = l then a else a.add (l * i.size))) (h - l) (m - l), H) else none
  | some (.slice elem), .slice a len cap =>
    if big ≤ cap then
      match a with
      | some ⟨b, o, none⟩ => if len > cap - big then none else do
        let i ← P.info? elem
        if mx.isNone then
          let h ← bnd hi len (cap - big)
          let l ← bnd lo 0 h
          if l = cap - big ∧ 0 < l then some (.slice (some ⟨H.size, 0, none⟩) 0 big, H.new none)
          else some (.slice (some ((⟨b, o, none⟩ : Addr).add (l * i.size))) (h - l) (cap - l), H)
        else
          let m ← bnd mx 0 (cap - big)
          let h ← bnd hi len m
          let l ← bnd lo 0 h
          if m < big then some (.slice (some (if m = l then ⟨b, o, none⟩ else (⟨b, o, none⟩ : Addr).add (l * i.size))) (h - l) (m - l), H) else none
      | _ => none
    else do
      let i ← P.info? elem
      let m ← bnd mx cap cap
      let h ← bnd hi len m
      let l ← bnd lo 0 h
      some (.slice (if m = l then a else a.map (·.add (l * i.size))) (h - l) (m - l), H)
  | _, _ => none
/-- n elements of a slice, or n bytes of a string. -/
def rowOf (H : Hp) (size n : Nat) : Value → Option (Array Value)
  | .slice (some ⟨b, o, none⟩) _ _ =>
    if n * size = 0 then some #[] else
    match H.get b with
    | some (.cells cs _) => if o + n * size ≤ cs.size then some (cs.extract o (o + n * size)) else none
    | _ => none
  | .slice none _ _ => if n = 0 then some #[] else none
  | .string s => if size = 1 ∧ n ≤ s.size then some ((s.extract 0 n).data.map fun b => .int .u8 b.toNat) else none
  | _ => none
def len' : Value → Option Nat
  | .slice _ n _ => some n
  | .string s => some s.size
  | _ => none
def notInt (P : Program) : Option TypeId → Bool
  | none => true
  | some t => match P.underlying t with | some (.int _) | none => false | some _ => true
def known (cap : Nat) : Nat := if big ≤ cap then cap - big else cap
/-- append(s, x...): the new cells are at hand -/
def appendTo (H : Hp) (size : Nat) (base : Option Addr) (n cap m : Nat) (news : Array Value) (s : Value) : Option (Value × Hp) :=
  if n + m ≤ known cap then
    if m = 0 then some (.slice base (n + m) cap, H) else
    match base with
    | some ⟨b, o, none⟩ =>
      match H.get b with
      | some (.cells cs z) =>
        if o + (n + m) * size ≤ cs.size then some (.slice base (n + m) cap, H.put b (some (.cells (setCells cs (o + n * size) news.toList) z))) else none
      | _ => none
    | _ => none
  else if big ≤ cap then
    match base with
    | some ⟨b, o, none⟩ =>
      match H.get b with
      | some (.cells cs z) =>
        if o = 0 ∧ z = size ∧ n ≤ known cap ∧ known cap * size = cs.size then some (.slice (some ⟨H.size, 0, none⟩) (n + m) (big + (n + m)), (H.put b none).new (some (.cells (cs.extract 0 (n * size) ++ news) z))) else none
      | _ => none
    | _ => none
  else
    match rowOf H size n s with
    | some old => some (.slice (some ⟨H.size, 0, none⟩) (n + m) (big + (n + m)), H.new (some (.cells (old ++ news) size)))
    | none => none
def append' (P : Program) (H : Hp) (t : TypeId) (t2 : Option TypeId) (s x : Value) : Option (Value × Hp) :=
  match P.underlying t, s with
  | some (.slice elem), .slice base n cap =>
    match P.info? elem, len' x with
    | some i, some m =>
      if i.size = 0 ∨ i.bytes = 0 ∨ i.zero.map (·.cells.size) ≠ some i.size ∨ notInt P t2 = false then none else
      if (n + m) * i.bytes > 140737488355328 then none else
      if big ≤ cap ∧ base.isNone then none else
      match rowOf H i.size m x with
      | some news => appendTo H i.size base n cap m news s
      | none => none
    | _, _ => none
  | _, _ => none
def copy' (P : Program) (H : Hp) (t : TypeId) (d x : Value) : Option (Value × Hp) :=
  match P.underlying t, d with
  | some (.slice elem), .slice base n _ =>
    match P.info? elem, len' x with
    | some i, some m =>
      match rowOf H i.size (min m n) x with
      | some news =>
        if min m n * i.size = 0 then some (goInt ((min m n : Nat) : Int), H) else
        match base with
        | some ⟨b, o, none⟩ =>
          match H.get b with
          | some (.cells cs z) => if o + min m n * i.size ≤ cs.size then some (goInt ((min m n : Nat) : Int), H.put b (some (.cells (setCells cs o news.toList) z))) else none
          | _ => none
        | _ => none
      | none => none
    | _, _ => none
  | _, _ => none
def clear' (P : Program) (H : Hp) (t : TypeId) (x : Value) : Option (Value × Hp) :=
  match P.underlying t, x with
  | some (.slice elem), .slice (some ⟨b, o, none⟩) (n + 1) _ =>
    match P.info? elem with
    | some i =>
      match i.zero with
      | some z =>
        match H.get b with
        | some (.cells cs k) => if o + (n + 1) * i.size ≤ cs.size ∧ z.cells.size = i.size ∧ z.cells.all flat0 then some (.tuple #[], H.put b (some (.cells (setCells cs o (Builtin.zeroCells z.cells (n + 1)).toList) k))) else none
        | _ => none
      | none => none
    | none => none
  | some (.slice _), .slice _ 0 _ => some (.tuple #[], H)
  | _, _ => none
def makeSlice' (P : Program) (H : Hp) (t : TypeId) (len cap : Value) : Option (Value × Hp) :=
  match P.underlying t, len, cap with
  | some (.slice elem), .int _ l, .int _ c =>
    match P.info? elem with
    | some i =>
      match i.zero with
      | some z =>
        if 0 ≤ l ∧ l ≤ c ∧ i.bytes * c ≤ 281474976710656 ∧ c ≤ 281474976710656 ∧ z.cells.all flat0 then
          some (.slice (some ⟨H.size, 0, none⟩) l.toNat c.toNat, H.new (some (.cells ((Array.range (c.toNat * i.size)).map (z.cells[· % z.cells.size]!)) 0)))
        else none
      | none => none
    | none => none
  | _, _, _ => none
def unval (e : MapEntry) : MapEntry := { e with val := .bool true }
def findK (P : Program) (keyType : TypeId) (k : Value) (es : Array MapEntry) : Option (Option Nat) :=
  if flat k then
    (pureSem P (do Instr.checkKey es.isEmpty 10000 keyType k; Instr.findKey keyType k (es.toList.map unval))).map fun r => r.map (·.1)
  else none
def mapOf (H : Hp) : Value → Option (Array MapEntry)
  | .map none => some #[]
  | .map (some r) => match H.get r with | some (.map es _) => some es | _ => none
  | _ => none
def lookup' (P : Program) (H : Hp) (t : TypeId) (x k : Value) (ok : Bool) : Option Value :=
  match P.underlying t, mapOf H x with
  | some (.map key elem), some es =>
    match findK P key k es with
    | some (some i) =>
      match es[i]? with
      | some e => match e.val with
        | .tuple _ => none
        | v => some (if ok then .tuple #[v, .bool true] else v)
      | none => none
    | some none =>
      match (P.info? elem).bind (·.zero) with
      | some z => if flat2 z then some (if ok then .tuple #[z, .bool false] else z) else none
      | none => none
    | none => none
  | _, _ => none
def one2 : Value → Bool
  | .agg cs => cs.all one
  | v => one v
def mapUpdate' (P : Program) (H : Hp) (t : TypeId) (m k v : Value) : Option Hp :=
  match P.underlying t, m with
  | some (.map key _), .map (some r) =>
    match H.get r with
    | some (.map es clock) =>
      if one2 v && (pureSem P (Instr.checkKey false 10000 key k)).isSome then
        match findK P key k es with
        | some (some i) =>
          if Instr.sameBits 10000 (((es[i]?).map (·.key)).getD k) k then some (H.put r (some (.map (es.modify i fun e => { e with key := k, val := v }) clock))) else none
        | some none => some (H.put r (some (.map (es.push { key := k, val := v, born := clock }) (clock + 1))))
        | none => none
      else none
    | _ => none
  | _, _ => none
def delete' (P : Program) (H : Hp) (t : TypeId) (m k : Value) : Option Hp :=
  match P.underlying t, m with
  | some (.map key _), .map (some r) =>
    match H.get r with
    | some (.map es clock) =>
      match findK P key k es with
      | some (some i) => some (H.put r (some (.map (es.eraseIdxIfInBounds i) clock)))
      | some none => some (H.put r (some (.map es clock)))
      | none => none
    | _ => none
  | _, _ => none
/-- x == y, one of them nil -/
def nilEq (P : Program) (t : TypeId) (x y : Value) : Option Bool :=
  match P.underlying t, x, y with
  | some (.pointer _), .pointer none, .pointer b => some b.isNone
  | some (.pointer _), .pointer _, .pointer none => some false
  | some (.slice _), .slice none _ _, .slice b _ _ => some b.isNone
  | some (.slice _), .slice .., .slice none _ _ => some false
  | some (.map ..), .map none, .map b => some b.isNone
  | some (.map ..), .map _, .map none => some false
  | some (.func ..), .nilFunc, .func .. | some (.func ..), .func .., .nilFunc => some false
  | _, _, _ => none
def u8s : List Value → Option (List Int)
  | [] => some []
  | .int .u8 n :: l => (u8s l).map (n :: ·)
  | _ :: _ => none
def sizes (P : Program) : List Field → Option (List (Nat × Nat))
  | [] => some []
  | f :: l => match P.info? f.type, sizes P l with
    | some i, some r => some ((f.offset, i.size) :: r)
    | _, _ => none
def build' (P : Program) (t : TypeId) (ps : List (Nat × Value)) : Option Value :=
  match (P.info? t).bind (·.zero) with
  | some z =>
    if z.cells.all flat0 && ps.all (fun p => p.2.cells.all one) then
      match P.underlying t with
      | some (.struct fields) =>
        match sizes P fields.toList with
        | some places => (Instr.fill (places.toArray[·]?) z.cells ps).map .agg
        | none => none
      | some (.array _ elem) =>
        match P.info? elem with
        | some s => (Instr.fill (fun j => some (j * s.size, s.size)) z.cells ps).map .agg
        | none => none
      | _ => none
    else none
  | none => none
def buildSlice' (P : Program) (H : Hp) (t : TypeId) (len : Nat) (ps : List (Nat × Value)) : Option (Value × Hp) :=
  match P.underlying t with
  | some (.slice elem) =>
    match P.info? elem with
    | some i =>
      match i.zero with
      | some z =>
        if z.cells.all flat0 && ps.all (fun p => p.2.cells.all one) && len * i.size ≤ 2 ^ 24 && len < big then
          match Instr.fill (fun j => some (j * i.size, i.size)) ((Array.range (len * i.size)).map (z.cells[· % z.cells.size]!)) ps with
          | some cs => some (.slice (some ⟨H.size, 0, none⟩) len len, H.new (some (.cells cs 0)))
          | none => none
        else none
      | none => none
    | none => none
  | _ => none
def conv' (P : Program) (H : Hp) (src dst : TypeId) (x : Value) : Option (Option (Value × Hp)) :=
  match P.underlying src, P.underlying dst, x with
  | some .string, some (.slice e), .string s =>
    match P.underlying e with
    | some (.int .u8) => some (some (.slice (some ⟨H.size, 0, none⟩) s.size (big + s.size), H.new (some (.cells (s.data.map fun b => .int .u8 b.toNat) 1))))
    | _ => none
  | some (.slice e), some .string, .slice (some ⟨b, o, none⟩) n c =>
    match P.underlying e with
    | some (.int .u8) =>
      match rowOf H 1 n (.slice (some ⟨b, o, none⟩) n c) with
      | some cs => match u8s cs.toList with
        | some xs => some (some (.string (strOfNums xs), H))
        | none => none
      | none => none
    | _ => none
  | some (.slice _), some .string, .slice (some _) _ _ => none
  | _, _, _ => some none
inductive Res where
  | val (v : Value) (H : Hp)
  | enter (f : FuncId) (args : Array Value) (H : Hp)
  deriving Inhabited

def isPtr : Value → Bool
  | .pointer _ => true
  | _ => false
def calls' (P : Program) (f : Value) (args : Array Value) (H : Hp) : Option Res :=
  match f with
  | .func (.func f) first captured =>
    match P.funcs[f]? with
    | some fn => if fn.name != "runtime.NumGoroutine" && fn.body.isSome && first.size == 0 && captured.all isPtr then some (.enter f (args ++ captured) H) else none
    | none => none
  | _ => none
def pureKind : Op → Bool
  | .binOp .. | .unOp .. | .convert .. | .slice .. | .index .. => true
  | .call c => match c.callee with | .builtin _ => true | _ => false
  | _ => false
/-- Operations that hand values on, or that only reckon. -/
def aop (P : Program) (ev : Operand → Value) (o : Oper) (H : Hp) : Option Res :=
  match o.op with
  | .move x | .assign x => some (.val (ev x) H)
  | .pick c a b => match ev c with | .bool t => some (.val (if t then ev a else ev b) H) | _ => none
  | .alloc elem =>
    match (P.info? elem).bind (·.zero) with
    | some z => if z.cells.all flat0 then some (.val (.pointer (some ⟨H.size, 0, none⟩)) (H.new (some (.cells z.cells 0)))) else none
    | none => none
  | .box _ x => if (ev x).cells.all one then some (.val (.pointer (some ⟨H.size, 0, none⟩)) (H.new (some (.cells (ev x).cells 0)))) else none
  | .build t parts => (build' P t ((parts.map fun (j, x) => (j, ev x)).toList)).map fun v => .val v H
  | .buildSlice t len parts => (buildSlice' P H t len ((parts.map fun (j, x) => (j, ev x)).toList)).map fun r => .val r.1 r.2
  | .load t a => (loadAt' P H t (ev a)).map fun v => .val v H
  | .store t a x => (storeAt' P H t (ev x) (ev a)).map fun H => .val undef H
  | .nilCheck x =>
    match ev x with
    | .pointer (some a) => some (.val (.pointer (some a)) H)
    | .func (.func f) a b => some (.val (.func (.func f) a b) H)
    | .slice a n c => some (.val (.slice a n c) H)
    | _ => none
  | .binOp op t x y _ =>
    match op, nilEq P t (ev x) (ev y) with
    | .eql, some b => some (.val (.bool b) H)
    | .neq, some b => some (.val (.bool (!b)) H)
    | _, _ => pureOp
  | .convert src dst x =>
    match conv' P H src dst (ev x) with
    | some (some r) => some (.val r.1 r.2)
    | some none => pureOp
    | none => none
  | .makeFunc fn first captured =>
    match fn with
    | .func f => if first.size == 0 && (captured.map ev).all isPtr then some (.val (.func (.func f) #[] (captured.map ev)) H) else none
    | _ => none
  | .makeMap t r =>
    match P.underlying t with
    | some (.map ..) => if r.all (fun x => (int? (ev x)).isSome) then some (.val (.map (some H.size)) (H.new (some (.map #[] 0)))) else none
    | _ => none
  | .makeSlice t l c => (makeSlice' P H t (ev l) (ev c)).map fun r => .val r.1 r.2
  | .slice t x lo hi mx =>
    match ev x with
    | .string _ => pureOp
    | x => (slice' P H t x (lo.map ev) (hi.map ev) (mx.map ev)).map fun r => .val r.1 r.2
  | .fieldAddr s x f =>
    match P.underlying s, ev x with
    | some (.struct fields), .pointer (some a) =>
      match fields[f]? with
      | some fl => match P.info? fl.type with
        | some i => if i.size = 0 then none else some (.val (.pointer (some (a.add fl.offset))) H)
        | none => none
      | none => none
    | _, _ => none
  | .field t x f =>
    match P.underlying t, ev x with
    | some (.struct fields), .agg cs =>
      match fields[f]? with
      | some fl => (part' P fl.type cs fl.offset).map fun v => .val v H
      | none => none
    | _, _ => none
  | .indexAddr t x ix =>
    match P.underlying t, ev x, ev ix with
    | some (.array len elem), .pointer (some a), .int _ i =>
      match P.info? elem with
      | some s => if 0 ≤ i ∧ i < len then some (.val (.pointer (some (a.add (i.toNat * s.size)))) H) else none
      | none => none
    | some (.slice elem), .slice (some a) len _, .int _ i =>
      match P.info? elem with
      | some s => if 0 ≤ i ∧ i < len then some (.val (.pointer (some (a.add (i.toNat * s.size)))) H) else none
      | none => none
    | _, _, _ => none
  | .index t x ix =>
    match P.underlying t, ev x, ev ix with
    | some (.array len elem), .agg cs, .int _ i =>
      match P.info? elem with
      | some s => if 0 ≤ i ∧ i < len then (part' P elem cs (i.toNat * s.size)).map fun v => .val v H else none
      | none => none
    | _, _, _ => pureOp
  | .lookup t x ix ok => (lookup' P H t (ev x) (ev ix) ok).map fun v => .val v H
  | .mapUpdate t m k x | .insert t m k x => (mapUpdate' P H t (ev m) (ev k) (ev x)).map fun H => .val undef H
  | .extract t ix =>
    match ev t with
    | .tuple vs => match vs[ix]? with
      | some (.tuple _) | none => none
      | some v => some (.val v H)
    | _ => none
  | .call c =>
    match c.callee with
    | .value f => calls' P (ev f) (c.args.map ev) H
    | .builtin b =>
      let as := c.args.map ev
      if as.size > 2 then pureOp else
      match b, c.argTypes[0]?, as[0]?, as[1]? with
      | .append, some t, some s, some x => (append' P H t c.argTypes[1]? s x).map fun r => .val r.1 r.2
      | .copy, some t, some s, some x => (copy' P H t s x).map fun r => .val r.1 r.2
      | .clear, some t, some x, _ => (clear' P H t x).map fun r => .val r.1 r.2
      | .delete, some t, some m, some k => (delete' P H t m k).map fun H => .val (.tuple #[]) H
      | .len, some t, some (.slice _ n _), _ => match P.underlying t with | some (.slice _) => some (.val (goInt n) H) | _ => none
      | .len, some t, some (.map (some r)), _ =>
        match P.underlying t, H.get r with
        | some (.map ..), some (.map es _) => some (.val (goInt es.size) H)
        | _, _ => none
      | .cap, some t, some (.slice _ _ n), _ => match P.underlying t with | some (.slice _) => if n < big then some (.val (goInt n) H) else none | _ => none
      | _, _, _, _ => pureOp
    | _ => none
  | _ => pureOp
  where
  pureOp : Option Res :=
    if pureKind o.op && o.op.operands.all (fun x => flat (ev x)) then
      match pureSem P (execOp ev o) with
      | some (.value v) => if flat v then some (.val v H) else none
      | _ => none
    else none
end Go.Ab
