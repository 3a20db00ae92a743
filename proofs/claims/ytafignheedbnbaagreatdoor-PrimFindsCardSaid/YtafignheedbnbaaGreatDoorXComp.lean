/- A verified executor of the program's code, part XComp; no condition. -/
import Derived.Test.YtafignheedbnbaaGreatDoorXCore
import Derived.Orders
namespace Go.Proofs.YtafignheedbnbaaGreatDoor.X
open Go
set_option linter.unusedVariables false
set_option linter.unusedSimpArgs false

/-! ## Out of the model's code -/
def digits : List UInt8 → Nat
  | [] => 0
  | b :: r => b.toNat + 256 * digits r
mutual
def absV : Value → Option V
  | .bool b => some (.bool b)
  | .int k n => some (.int k n)
  | .string s => some (.str s.size (digits s.data.toList))
  | .pointer none => some (.ptr none)
  | .slice none 0 0 => some (.slice none 0 0 (some 0))
  | .map none => some (.map none)
  | .nilFunc => some .nilFunc
  | .nilIface => some .nilIface
  | .func (.func f) ⟨[]⟩ ⟨[]⟩ => some (.func (.func f) [] [])
  | .agg ⟨l⟩ => (absVs l).map .agg
  | .tuple ⟨l⟩ => (absVs l).map .tuple
  | _ => none
def absVs : List Value → Option (List V)
  | [] => some []
  | v :: r => match absV v, absVs r with | some x, some l => some (x :: l) | _, _ => none
end
def cOpd : Operand → Option Opd
  | .tmp t => some (.t (P.of t))
  | .const v => (absV v).map .c
  | .func f => some (.c (.func (.func f) [] []))
  | .global _ => none
def cOpds : List Operand → Option (List Opd)
  | [] => some []
  | x :: r => match cOpd x, cOpds r with | some a, some l => some (a :: l) | _, _ => none
def cOpt : Option Operand → Option (Option Opd)
  | none => some none
  | some x => (cOpd x).map some
def aggT (p : Program) (t : TypeId) : Option Bool := match p.underlying t with | some (.struct _) | some (.array _ _) => some true | some _ => some false | none => none
def szOf (p : Program) (t : TypeId) : Option Nat := (p.info? t).map (·.size)
def zeroOf (p : Program) (t : TypeId) : Option V := (p.info? t).bind fun i => i.zero.bind absV
/-- 0: one cell, no aggregate -/
def partSz (p : Program) (t : TypeId) : Option Nat := match aggT p t with
  | some true => (match szOf p t with | some (n + 1) => some (n + 1) | _ => none)
  | some false => some 0
  | none => none
def eqK (p : Program) : Nat → TypeId → Option EqK
  | 0, _ => none
  | d + 1, t =>
    match p.underlying t with
    | some .bool => some .bool
    | some (.int _) => some .int
    | some .string => some .str
    | some (.pointer e) => match szOf p e with | some 0 => none | some _ => some .ptr | none => none
    | some (.slice _) => some .slc
    | some (.map _ _) => some .map
    | some (.func _ _ _) => some .fn
    | some (.interface _) => some .ifc
    | some (.struct fs) => if p.stoodInHeld t then none else
        ((fs.toList.filter fun f : Field => f.name ≠ "_").mapM fun f : Field => do
          let k ← eqK p d f.type
          let s ← partSz p f.type
          pure (f.offset, s, k)).map .agg
    | _ => none
def cParts (p : Program) (place : Nat → Option (Nat × Nat)) : List (Nat × Operand) → Option (List (Nat × Nat × Opd))
  | [] => some []
  | (i, x) :: r => match place i, cOpd x, cParts p place r with | some (off, sz), some a, some l => some ((off, sz, a) :: l) | _, _, _ => none
def repeatV (z : List V) (n : Nat) : List V := (List.replicate n z).flatten
def absZ (p : Program) (t : TypeId) : Option (List V) := (zeroOf p t).map V.cells
def fieldsOf (p : Program) (t : TypeId) : Option (List Field) := match p.underlying t with | some (.struct fs) => some fs.toList | _ => none
/-- the function that a method's name comes to at a type, and which cell of the value is its receiver (none: the value) -/
def methFit (p : Program) (t : TypeId) (nm : String) : Option (FuncId × Option Nat) :=
  match p.info? t with
  | some i => (match i.methods.find? (·.name == nm) with
    | some m => (match m.path.toList with
      | [] => (match m.func, p.underlying t with
        | some (f, true), some (.pointer _) => some (f, none)
        | some (_, true), _ => none
        | some (_, false), some (.pointer _) => none
        | some (f, false), some _ => some (f, none)
        | _, _ => none)
      | [s] => if s.deref then none else (match p.underlying s.struct with
        | some (.struct fs) => (match fs[s.index]? with
          | some fd => (match m.func, p.underlying fd.type with
            | some (f, true), some (.pointer _) => some (f, some fd.offset)
            | _, _ => none)
          | none => none)
        | _ => none)
      | _ => none)
    | none => none)
  | none => none
def fitsOf (p : Program) (nm : String) : List (Nat × Nat × Option Nat) :=
  p.types.toList.zipIdx.filterMap fun (i, t) => if i.methods.any (·.name == nm) then (methFit p t nm).map fun f => (t, f) else none
def cPlain (p : Program) (o : Oper) : Option XO :=
  match o.op with
  | .move x | .assign x => (cOpd x).map .mv
  | .pick c a b => do pure (.pick (← cOpd c) (← cOpd a) (← cOpd b))
  | .alloc e => do
    let z ← absZ p e
    pure (.new z)
  | .box e x => do pure (.box (← szOf p e) (← cOpd x))
  | .build t ps =>
    match p.underlying t with
    | some (.struct fs) => do
      let z ← absZ p t
      let pl ← fs.toList.mapM (fun f => (p.info? f.type).map fun i => (f.offset, i.size))
      pure (.build z (← cParts p (fun i => pl[i]?) ps.toList))
    | some (.array _ e) => do
      let z ← absZ p t
      let s ← szOf p e
      pure (.build z (← cParts p (fun i => some (i * s, s)) ps.toList))
    | _ => none
  | .buildSlice t n ps =>
    match p.underlying t with
    | some (.slice e) => do
      let s ← szOf p e
      let z ← absZ p e
      if s = 0 || n * s > 2 ^ 20 || z.length ≠ s then none
      pure (.bslice s (repeatV z n) n (← cParts p (fun i => some (i * s, s)) ps.toList))
    | _ => none
  | .load t a => do
    let a ← cOpd a
    match aggT p t with
    | some true => pure (.loadn (← szOf p t) a)
    | some false => pure (.load a)
    | none => none
  | .store t a x => do pure (.store (← szOf p t) (← cOpd a) (← cOpd x))
  | .nilCheck x => (cOpd x).map .nilck
  | .binOp op t x y _ => do
    let a ← cOpd x
    let b ← cOpd y
    match op, p.underlying t with
    | .eql, some (.int _) | .eql, some .string | .neq, some (.int _) | .neq, some .string => pure (.bin op a b)
    | .eql, _ => if p.eqGuardType p.depth t && aggT p t != some false then none else pure (.eq false (← eqK p 20 t) a b)
    | .neq, _ => if p.eqGuardType p.depth t && aggT p t != some false then none else pure (.eq true (← eqK p 20 t) a b)
    | _, some (.int _) | _, some .string => pure (.bin op a b)
    | _, _ => none
  | .unOp op _ x => do pure (.un op (← cOpd x))
  | .convert src dst x => do
    let a ← cOpd x
    match p.underlying src, p.underlying dst with
    | some (.int _), some (.int k) => pure (.toInt k a)
    | some .string, some .string => pure (.same a)
    | some .string, some (.slice e) => match p.underlying e with | some (.int .u8) => pure (.toBytes a) | _ => none
    | some (.slice e), some .string => match p.underlying e with | some (.int .u8) => pure (.toStr a) | _ => none
    | _, _ => none
  | .makeInterface t x => match p.underlying t with
    | some (.interface _) => none
    | some _ => do pure (.mkiface t (← cOpd x))
    | none => none
  | .makeFunc (.method nm) a b => (match a.toList, b.toList with
    | [x], [] => do pure (.mkmeth (fitsOf p nm) (← cOpd x))
    | _, _ => none)
  | .makeFunc fn a b => do pure (.mkfunc fn (← cOpds a.toList) (← cOpds b.toList))
  | .makeMap t r => match r with
    | none => some .mkmap
    | some (.const (.int _ _)) => (match p.underlying t with | some (.map _ _) => some .mkmap | _ => none)
    | _ => none
  | .makeSlice t l c =>
    match p.underlying t with
    | some (.slice e) => do
      let s ← szOf p e
      let z ← absZ p e
      if s = 0 || z.length ≠ s || (p.bytesOf e) > 100000 then none
      pure (.mkslice z (← cOpd l) (← cOpd c))
    | _ => none
  | .slice t x lo hi mx =>
    match p.underlying t with
    | some .string => if mx.isSome then none else do pure (.sliceS (← cOpd x) (← cOpt lo) (← cOpt hi))
    | some (.slice e) => do
      let s ← szOf p e
      if s = 0 || (mx.isSome && hi.isNone) then none
      pure (.sliceL s (← cOpd x) (← cOpt lo) (← cOpt hi) (← cOpt mx))
    | some (.array n e) => do
      let s ← szOf p e
      if s = 0 || n = 0 || (mx.isSome && hi.isNone) then none
      pure (.sliceA n s (← cOpd x) (← cOpt lo) (← cOpt hi) (← cOpt mx))
    | _ => none
  | .fieldAddr s x f => do
    let fs ← fieldsOf p s
    let f ← fs[f]?
    if (← szOf p f.type) = 0 then none
    pure (.faddr f.offset (← cOpd x))
  | .field t x f => do
    let fs ← fieldsOf p t
    let f ← fs[f]?
    match aggT p f.type with
    | some true => pure (.field f.offset (some (← szOf p f.type)) (← cOpd x))
    | some false => pure (.field f.offset none (← cOpd x))
    | none => none
  | .indexAddr t x i =>
    match p.underlying t with
    | some (.array n e) => do pure (.iaddrA n (← szOf p e) (← cOpd x) (← cOpd i))
    | some (.slice e) => do
      let s ← szOf p e
      if s = 0 then none
      pure (.iaddrL s (← cOpd x) (← cOpd i))
    | _ => none
  | .index t x i =>
    match p.underlying t with
    | some .string => do pure (.idxS (← cOpd x) (← cOpd i))
    | some (.array n e) => do pure (.idxA n (← szOf p e) (← aggT p e) (← cOpd x) (← cOpd i))
    | _ => none
  | .lookup t m k ok =>
    match p.underlying t with
    | some (.map kt e) => do
      let q ← eqK p 20 kt
      if !q.key then none
      pure (.lookup (← zeroOf p e) q (← cOpd m) (← cOpd k) ok)
    | _ => none
  | .mapUpdate t m k v | .insert t m k v =>
    match p.underlying t with
    | some (.map kt _) => do
      let q ← eqK p 20 kt
      if !q.key then none
      pure (.mapset q (← cOpd m) (← cOpd k) (← cOpd v))
    | _ => none
  | .extract x n => do pure (.ext n (← cOpd x))
  | .call c =>
    match c.callee with
    | .value _ => none
    | .invoke .. => none
    | .builtin b =>
      match b, c.args.toList, c.argTypes.toList with
      | .len, [x], [t] => do
        let y ← cOpd x
        match p.underlying t with
        | some .string => pure (.len 0 y)
        | some (.slice _) => pure (.len 1 y)
        | some (.map _ _) => pure (.len 2 y)
        | some (.array n _) => pure (.mv (.c (.int .i64 n)))
        | _ => none
      | .append, [x, y], [t, u] => do
        match p.underlying t, p.underlying u with
        | some (.slice e), some (.int _) => do
          let s ← szOf p e
          let z ← absZ p e
          if s = 0 || z.length ≠ s || (p.bytesOf e) > 100000 then none
          pure (.appendz z (← cOpd x) (← cOpd y))
        | some (.slice e), some _ => do
          let s ← szOf p e
          let z ← absZ p e
          if s = 0 || z.length ≠ s || (p.bytesOf e) > 100000 then none
          pure (.append s (← cOpd x) (← cOpd y))
        | _, _ => none
      | .copy, [x, y], [t, _] => do
        match p.underlying t with
        | some (.slice e) => do
          let s ← szOf p e
          if s = 0 then none
          pure (.copy s (← cOpd x) (← cOpd y))
        | _ => none
      | .min, l, _ => do pure (.min (← cOpds l))
      | .max, l, _ => do pure (.max (← cOpds l))
      | _, _, _ => none
  | _ => none
def XO.plain : XO → Bool | .call .. | .dyn .. | .dfr .. | .invoke .. | .bad _ => false | _ => true
def cCall (p : Program) (c : Call) : Option XO :=
  match c.callee with
  | .value (.func f) =>
    match p.funcs[f]? with
    | some fn => if fn.name == "runtime.NumGoroutine" || fn.body.isNone then none else (cOpds c.args.toList).map (.call (P.of f))
    | none => none
  | .value f => (match cOpd f, cOpds c.args.toList with | some x, some l => some (.dyn x l) | _, _ => none)
  | .invoke r nm => (match cOpd r, cOpds c.args.toList with | some x, some l => some (.invoke (fitsOf p nm) x l) | _, _ => none)
  | _ => none
def cDefer (p : Program) (c : Call) : Option XO :=
  match c.callee with
  | .value f => (match cOpd f, cOpds c.args.toList with | some x, some l => some (.dfr x l) | _, _ => none)
  | _ => none
def isBuiltin (c : Call) : Bool := match c.callee with | .builtin _ => true | _ => false
def cOp (p : Program) (o : Oper) : Option XO :=
  match o.op with
  | .call c => if isBuiltin c then (cPlain p o).filter XO.plain else cCall p c
  | .defer c => cDefer p c
  | _ => (cPlain p o).filter XO.plain
def gOf (ops : Array Oper) (o : Oper) : Option (Option (P × Bool)) :=
  match o.guard with
  | none => some none
  | some (j, b) => match (ops[j]?).bind (·.dst) with | some d => some (some (P.of d, b)) | none => none
def dOk (nt : Nat) (o : Oper) : Bool := match o.dst with | some d => decide (d < nt) | none => true
def cOper (p : Program) (nt : Nat) (ops : Array Oper) (o : Oper) : XOp :=
  match gOf ops o, cOp p o with
  | some g, some x => if dOk nt o then ⟨g, o.dst.map P.of, x⟩ else ⟨none, none, .bad "slot"⟩
  | _, _ => ⟨none, none, .bad ""⟩
/-- 0: hangs on nothing; 1: reads memory; 2: makes memory; 3: may turn it -/
def XO.kind : XO → Nat
  | .load _ | .loadn .. | .lookup .. | .toStr _ | .sliceA .. => 1
  | .eq _ k _ _ => (match k with | .bool | .int | .str | .slc | .map | .fn | .ifc => 0 | _ => 1)
  | .len 2 _ => 1
  | .new _ | .box .. | .bslice .. | .mkmap | .mkslice .. | .toBytes _ | .rangeS _ => 2
  | .store .. | .mapset .. | .mapent .. | .entset .. | .mapdel .. | .nextS _ | .append .. | .appendz .. | .copy .. | .call .. | .dyn .. | .dfr .. | .invoke .. | .bad _ => 3
  | _ => 0
def pOpds (ps : List (Nat × Nat × Opd)) : List Opd := ps.map (·.2.2)
/-- what an operation looks at -/
def XO.opds : XO → List Opd
  | .mv x | .box _ x | .load x | .loadn _ x | .nilck x | .un _ x | .toInt _ x | .same x | .toBytes x | .toStr x | .runeStr x | .mkiface _ x | .mkmeth _ x | .faddr _ x | .field _ _ x | .rangeS x | .nextS x | .tassert _ _ _ x | .ext _ x | .len _ x | .cap x => [x]
  | .pick c x y => [c, x, y]
  | .new _ | .mkmap | .bad _ => []
  | .build _ ps | .bslice _ _ _ ps => pOpds ps
  | .store _ x y | .bin _ x y | .eq _ _ x y | .iaddrL _ x y | .iaddrA _ _ x y | .idxS x y | .idxA _ _ _ x y | .append _ x y | .appendz _ x y | .copy _ x y | .mkslice _ x y => [x, y]
  | .lookup _ _ x y _ | .mapent _ _ x y | .mapdel _ x y => [x, y]
  | .mapset _ x y z | .entset x y z => [x, y, z]
  | .sliceL _ x a b c | .sliceA _ _ x a b c => x :: (a.toList ++ b.toList ++ c.toList)
  | .sliceS x a b => x :: (a.toList ++ b.toList)
  | .mkfunc _ l m => l ++ m
  | .call _ l => l
  | .dyn f l => f :: l
  | .dfr f l => f :: l
  | .invoke _ x l => x :: l
  | .min l | .max l => l
/-- the numbers of the operations that stand ahead of each, by the edges that bind -/
def ancOf (A : List (List Nat)) (o : Oper) : List Nat := (o.after.toList.filter (Region.binds .any)).flatMap fun e => e.on :: A.getD e.on []
def anc : List Oper → List (List Nat) → List (List Nat)
  | [], A => A
  | o :: r, A => anc r (A ++ [(ancOf A o).eraseDups])
def inL (i : Nat) (l : List Nat) : Bool := l.any (Nat.beq i)
def XO.isW (x : XO) : Bool := Nat.ble 3 x.kind
def XO.isN (x : XO) : Bool := Nat.beq 2 x.kind
def XO.isQ (x : XO) : Bool := Nat.beq 1 x.kind
structure PlanOp where
  i : Nat
  chk : Nat
  w : Bool
/-- those of s in an order in which what makes memory comes late -/
def lateN (A : List (List Nat)) (xs : List XOp) (s : List Nat) : List Nat :=
  let acc := (s.filter fun i => !(xs.getD i default).op.isN).foldl (fun acc i => bif inL i acc then acc else acc ++ (s.filter fun j => inL j (A.getD i []) && !inL j acc) ++ [i]) []
  acc ++ s.filter fun i => !inL i acc
def seg (A An : List (List Nat)) (xs : List XOp) (n : Nat) (done : List Nat) : List Nat → List Nat
  | [] => lateN A xs ((List.range n).filter fun i => !inL i done)
  | w :: ws => let s := lateN A xs ((List.range n).filter fun i => inL i (An.getD w []) && !inL i done)
    s ++ [w] ++ seg A An xs n (done ++ s ++ [w]) ws
/-- pa: which one is the first of two stores that no edge orders -/
def chks (A : List (List Nat)) (xs : List XOp) (pa : Option Nat) : List Nat → List Nat → List PlanOp
  | _, [] => []
  | dw, i :: r =>
    let x := (xs.getD i default).op
    bif x.isW then ⟨i, bif pa == some i then 1 else 0, true⟩ :: chks A xs pa (i :: dw) r
    else ⟨i, bif x.isQ then (dw.takeWhile fun w => !inL w (A.getD i [])).length else 0, false⟩ :: chks A xs pa dw r
/-- two that no edge orders -/
def pairOf (A : List (List Nat)) : List Nat → Option (Nat × Nat)
  | a :: b :: r => bif inL a (A.getD b []) then pairOf A (b :: r) else some (a, b)
  | _ => none
def XO.isStore : XO → Bool | .store .. => true | _ => false
def pairOk (arr : Array Oper) (A : List (List Nat)) (xs : List XOp) (order : List Nat) (a b : Nat) : Bool :=
  let k0 := order.findIdx (Nat.beq a)
  (xs.getD a default).op.isStore && (xs.getD b default).op.isStore && (xs.getD a default).g.isNone && (xs.getD b default).g.isNone && (arr.getD a default).dst.isNone && (arr.getD b default).dst.isNone &&
  !inL a (A.getD b []) && Nat.blt b A.length && (order[k0]? == some a) && (order[k0 + 1]? == some b) && (order.drop (k0 + 2)).all fun i => !(xs.getD i default).op.isQ || inL a (A.getD i [])
/-- what stands in an order behind what it may stand behind -/
def orderOk (A : List (List Nat)) (xs : List XOp) : List Nat → List Nat → Bool
  | _, [] => true
  | done, i :: r =>
    let x := (xs.getD i default).op
    (A.getD i []).all (inL · done) && !inL i done &&
    (bif x.isW then done.all (fun j => inL j (A.getD i []) || Nat.beq (xs.getD j default).op.kind 0)
     else bif x.isQ then (done.takeWhile fun j => !(xs.getD j default).op.isW).all (fun j => !(xs.getD j default).op.isN || inL j (A.getD i []))
     else true) && orderOk A xs (i :: done) r
def looksOk (ops : Array Oper) (A : List (List Nat)) : Bool :=
  let l := ops.toList.zipIdx
  l.all fun (o, i) => l.all fun (q, j) => i == j || (match q.dst with
    | none => true
    | some d => (o.dst != some d) && (!(o.looksAt ops).contains d || inL j (A.getD i []) || inL i (A.getD j [])))
def ancOk (ops : List Oper) (A : List (List Nat)) : Bool :=
  ops.zipIdx.all fun (o, i) => ((A.getD i []).all fun j => o.after.any fun e => Region.binds .any e && (e.on == j || inL j (A.getD e.on []))) && o.after.all fun e => !Region.binds .any e || inL e.on (A.getD i [])
/-- a compiled operation looks at no slot that the operation does not look at -/
def opdsOk (arr : Array Oper) (xs : List XOp) : Bool :=
  arr.toList.zipIdx.all fun (o, i) => (xs.getD i default).op.opds.all fun | .t q => (o.looksAt arr).any fun t => decide (P.of t = q) | .c _ => true
def pairC (arr : Array Oper) (A : List (List Nat)) (xs : List XOp) (order : List Nat) : Option (Nat × Nat) → Bool
  | none => true
  | some (a, b) => pairOk arr A xs order a b
def planTry (arr : Array Oper) (xs : List XOp) (A A1 An : List (List Nat)) (ws : List Nat) (ab : Option (Nat × Nat)) : Option (List PlanOp) :=
  let order := seg A An xs arr.size [] ws
  if ancOk arr.toList A && looksOk arr A && orderOk A1 xs [] order && order.length == arr.size && order.all (Nat.blt · arr.size) && opdsOk arr xs && (List.range arr.size).all (inL · order) && pairC arr A xs order ab then some (chks A1 xs (ab.map (·.1)) [] order) else none
def planOf (p : Program) (nt : Nat) (arr : Array Oper) : Option (List PlanOp) :=
  let xs := arr.toList.map (cOper p nt arr)
  let A := anc arr.toList []
  let ws := (List.range arr.size).filter fun i => (xs.getD i default).op.isW
  match pairOf A ws with
  | none => planTry arr xs A A A ws none
  | some (a, b) => planTry arr xs A (A.set b (a :: A.getD b [])) (A.set a (A.getD a [] ++ A.getD b [])) ws (some (a, b))
def plan (p : Program) (nt : Nat) (arr : Array Oper) : List (Nat × Bool × XOp) :=
  match planOf p nt arr with
  | some l => l.map fun q => (q.chk, q.w, cOper p nt arr (arr.getD q.i default))
  | none => [(0, true, ⟨none, none, .bad "plan"⟩)]
def cCode (p : Program) (nt : Nat) : Code → XC
  | .skip => .skip
  | .region _ ops false => .ops (ops.toList.map (cOper p nt ops))
  | .region _ ops true => .draw (plan p nt ops)
  | .seq a b => .seq (cCode p nt a) (cCode p nt b)
  | .cond c a b => match cOpd c with | some x => .cond x (cCode p nt a) (cCode p nt b) | none => .bad "cond"
  | .block id b => .block id (cCode p nt b)
  | .loop b => .loop (cCode p nt b)
  | .exit id => .exit id
  | .ret => .ret
  | .scope b => cCode p nt b
  | .label _ => .skip
  | .goto _ => .bad "goto"
  | .rangeFunc .. => .bad "rangeFunc"
  | .refuse _ => .bad "refuse"
def cRes (p : Program) : ResultVar → Option XR
  | .tmp t => some (.t (P.of t))
  | .cell a t => match aggT p t with | some true => (szOf p t).map fun n => .celln (P.of a) n | some false => some (.cell (P.of a)) | none => none
def cFunc (p : Program) (f : Func) : Option XFn := do
  let b ← f.body
  let rs ← f.results.toList.mapM (cRes p)
  pure { body := cCode p f.ntmps b, res := rs }
end Go.Proofs.YtafignheedbnbaaGreatDoor.X
