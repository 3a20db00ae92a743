/- A verified executor of the program's code, part XCore; no condition. -/
import GoSem.Step
import Derived.Calls
namespace Go.Proofs.YtafignheedbnbaaGreatDoor.X
open Go
set_option linter.unusedVariables false
set_option linter.unusedSimpArgs false

/-! ## Positions and tries -/
inductive P where | h | o (p : P) | i (p : P)
  deriving DecidableEq, Repr, Inhabited
def P.toNat : P → Nat | .h => 0 | .o p => 2 * p.toNat + 1 | .i p => 2 * p.toNat + 2
inductive Tr (α : Type) where | lf | nd (l : Tr α) (v : Option α) (r : Tr α)
  deriving Inhabited

--PRIM
def P.succ : P → P | .h => .o .h | .o p => .i p | .i p => .o p.succ
def P.ofF : Nat → Nat → P
  | 0, _ => .h
  | f + 1, n => match n with
    | 0 => .h
    | m + 1 => bif Nat.beq (Nat.mod m 2) 0 then .o (P.ofF f (Nat.div m 2)) else .i (P.ofF f (Nat.div m 2))
def Tr.get {α : Type} : P → Tr α → Option α
  | _, .lf => none
  | .h, .nd _ v _ => v
  | .o p, .nd l _ _ => get p l
  | .i p, .nd _ _ r => get p r
/-- v: none takes away. -/
def Tr.put {α : Type} (v : Option α) : P → Tr α → Tr α
  | .h, .lf => .nd .lf v .lf
  | .h, .nd l _ r => .nd l v r
  | .o p, .lf => .nd (put v p .lf) none .lf
  | .o p, .nd l x r => .nd (put v p l) x r
  | .i p, .lf => .nd .lf none (put v p .lf)
  | .i p, .nd l x r => .nd l x (put v p r)
--ENDPRIM
def P.of (n : Nat) : P := P.ofF (n + 1) n

/-! ## Values -/
inductive V where
  | bool (b : Bool) | int (k : IntKind) (n : Int) | str (len n : Nat) | ptr (a : Option (P × Nat)) | slice (a : Option (P × Nat)) (sz len : Nat) (cap : Option Nat)
  | map (r : Option P) | func (fn : Fn) (first captured : List V) | nilFunc | iface (t : Nat) (v : V) | nilIface | agg (cs : List V) | tuple (vs : List V)
  | sym (i : Nat)
  deriving Inhabited
def V.undef : V := .tuple []
def V.cells : V → List V | .agg cs => cs | v => [v]
/-- one cell's value -/
def V.one : V → Bool | .agg _ => false | .tuple _ => false | _ => true

inductive Blk where
  | cells (c : Tr V) (n : Nat) (plain : Bool)
  | map (es : List (V × V × Nat)) (clock : Nat)
  | siter (len n pos : Nat)
  deriving Inhabited
structure Hp where
  t : Tr Blk
  next : P
  deriving Inhabited
abbrev Fr := Tr V

/-! ## Operations -/
inductive Opd where | t (p : P) | c (v : V)
  deriving Inhabited
inductive EqK where
  | bool | int | str | ptr | slc | map | fn | ifc | agg (parts : List (Nat × Nat × EqK))
  deriving Inhabited
inductive XO where
  | mv (x : Opd) | pick (c a b : Opd)
  | new (zero : List V) | box (n : Nat) (x : Opd)
  | build (zero : List V) (parts : List (Nat × Nat × Opd))
  | bslice (sz : Nat) (cells : List V) (len : Nat) (parts : List (Nat × Nat × Opd))
  | load (x : Opd) | loadn (n : Nat) (x : Opd) | store (n : Nat) (x y : Opd)
  | nilck (x : Opd)
  | bin (op : BinOp) (x y : Opd) | eq (neg : Bool) (k : EqK) (x y : Opd) | un (op : UnOp) (x : Opd)
  | toInt (k : IntKind) (x : Opd) | same (x : Opd) | toBytes (x : Opd) | toStr (x : Opd) | runeStr (x : Opd)
  | mkiface (t : Nat) (x : Opd) | mkmeth (fits : List (Nat × Nat × Option Nat)) (x : Opd) | mkfunc (fn : Fn) (first captured : List Opd) | mkmap | mkslice (zero : List V) (len cap : Opd)
  | sliceS (x : Opd) (lo hi : Option Opd) | sliceL (sz : Nat) (x : Opd) (lo hi mx : Option Opd) | sliceA (n sz : Nat) (x : Opd) (lo hi mx : Option Opd)
  | faddr (off : Nat) (x : Opd) | field (off : Nat) (sz : Option Nat) (x : Opd)
  | iaddrL (sz : Nat) (x i : Opd) | iaddrA (n sz : Nat) (x i : Opd) | idxS (x i : Opd) | idxA (n sz : Nat) (agg : Bool) (x i : Opd)
  | lookup (zero : V) (k : EqK) (m key : Opd) (ok : Bool) | mapset (k : EqK) (m key v : Opd) | mapent (zero : V) (k : EqK) (m key : Opd) | entset (m s v : Opd) | mapdel (k : EqK) (m key : Opd)
  | rangeS (x : Opd) | nextS (x : Opd)
  | tassert (t : Nat) (zero : V) (ok : Bool) (x : Opd)
  | ext (n : Nat) (x : Opd)
  | len (k : Nat) (x : Opd) | cap (x : Opd) | append (sz : Nat) (x y : Opd) | appendz (z : List V) (x n : Opd) | copy (sz : Nat) (x y : Opd) | min (xs : List Opd) | max (xs : List Opd)
  | call (f : P) (args : List Opd) | dyn (f : Opd) (args : List Opd) | dfr (f : Opd) (args : List Opd) | invoke (fits : List (Nat × Nat × Option Nat)) (x : Opd) (args : List Opd)
  | bad (why : String)
  deriving Inhabited
structure XOp where
  g : Option (P × Bool)
  dst : Option P
  op : XO
  deriving Inhabited
inductive XC where
  | skip | ops (l : List XOp) | draw (l : List (Nat × Bool × XOp)) | seq (a b : XC) | cond (c : Opd) (a b : XC) | block (id : Nat) (b : XC) | loop (b : XC) | exit (id : Nat) | ret | bad (why : String)
  deriving Inhabited
inductive XR where | t (p : P) | cell (a : P) | celln (a : P) (n : Nat)
  deriving Inhabited
structure XFn where
  body : XC
  res : List XR
  deriving Inhabited
inductive XE where | nrm | exit (id : Nat) | ret

/-! ## Numbers -/
def wrapI (k : IntKind) (n : Int) : Int :=
  match k, n with
  | .i64, .ofNat a => bif Nat.blt a 9223372036854775808 then .ofNat a else IntKind.wrap k n
  | .i64, .negSucc a => bif Nat.blt a 9223372036854775808 then .negSucc a else IntKind.wrap k n
  | .u64, .ofNat a => .ofNat (Nat.mod a 18446744073709551616)
  | .u32, .ofNat a => .ofNat (Nat.mod a 4294967296)
  | .u8, .ofNat a => .ofNat (Nat.mod a 256)
  | _, _ => IntKind.wrap k n
def ltI : Int → Int → Bool
  | .ofNat a, .ofNat b => Nat.blt a b
  | .negSucc _, .ofNat _ => true
  | .ofNat _, .negSucc _ => false
  | .negSucc a, .negSucc b => Nat.blt b a
def eqI : Int → Int → Bool
  | .ofNat a, .ofNat b => Nat.beq a b
  | .negSucc a, .negSucc b => Nat.beq a b
  | _, _ => false
/-- the bits of a number, as a natural number -/
def bitsI (k : IntKind) : Int → Nat
  | .ofNat a => Nat.mod a (Nat.pow 2 k.bits)
  | .negSucc a => Nat.sub (Nat.pow 2 k.bits) (Nat.succ (Nat.mod a (Nat.pow 2 k.bits)))

def binI (op : BinOp) (k : IntKind) (x y : Int) : Option V :=
  match op with
  | .add => some (.int k (wrapI k (Int.add x y)))
  | .sub => some (.int k (wrapI k (Int.sub x y)))
  | .mul => some (.int k (wrapI k (Int.mul x y)))
  | .quo => bif eqI y 0 then none else some (.int k (wrapI k (Int.tdiv x y)))
  | .rem => bif eqI y 0 then none else some (.int k (Int.tmod x y))
  | .and => some (.int k (wrapI k (.ofNat (Nat.land (bitsI k x) (bitsI k y)))))
  | .or => some (.int k (wrapI k (.ofNat (Nat.lor (bitsI k x) (bitsI k y)))))
  | .xor => some (.int k (wrapI k (.ofNat (Nat.xor (bitsI k x) (bitsI k y)))))
  | .andNot => some (.int k (wrapI k (.ofNat (Nat.land (bitsI k x) (Nat.sub (Nat.sub (Nat.pow 2 k.bits) 1) (bitsI k y))))))
  | .eql => some (.bool (eqI x y))
  | .neq => some (.bool (not (eqI x y)))
  | .lss => some (.bool (ltI x y))
  | .leq => some (.bool (not (ltI y x)))
  | .gtr => some (.bool (ltI y x))
  | .geq => some (.bool (not (ltI x y)))
  | .shl => none
  | .shr => none
def shI (op : BinOp) (k : IntKind) (x y : Int) : Option V :=
  match y with
  | .negSucc _ => none
  | .ofNat b =>
    match op with
    | .shl => some (.int k (wrapI k (Int.mul x (.ofNat (Nat.pow 2 (Nat.min b k.bits))))))
    | .shr => some (.int k (Int.fdiv x (.ofNat (Nat.pow 2 (Nat.min b k.bits)))))
    | _ => none
/-! ## Texts: a length, and the bytes as digits, the first the lowest -/
def strAt (n i : Nat) : Nat := Nat.mod (Nat.shiftRight n (Nat.mul 8 i)) 256
def strCut (n l h : Nat) : Nat := Nat.mod (Nat.shiftRight n (Nat.mul 8 l)) (Nat.pow 2 (Nat.mul 8 (Nat.sub h l)))
def strCat (la a b : Nat) : Nat := Nat.add a (Nat.shiftLeft b (Nat.mul 8 la))
def strLess : Nat → Nat → Nat → Nat → Nat → Nat → Bool
  | 0, _, _, _, _, _ => false
  | f + 1, i, la, a, lb, b =>
    bif Nat.ble lb i then false else bif Nat.ble la i then true else
    bif Nat.blt (strAt a i) (strAt b i) then true else bif Nat.beq (strAt a i) (strAt b i) then strLess f (i + 1) la a lb b else false
def binS (op : BinOp) (la a lb b : Nat) : Option V :=
  let eq := Nat.beq la lb && Nat.beq a b
  match op with
  | .add => bif Nat.ble (Nat.add la lb) 1000000000 then some (.str (Nat.add la lb) (strCat la a b)) else none
  | .eql => some (.bool eq)
  | .neq => some (.bool (not eq))
  | .lss => some (.bool (strLess (la + 1) 0 la a lb b))
  | .leq => some (.bool (strLess (la + 1) 0 la a lb b || eq))
  | .gtr => some (.bool (not (strLess (la + 1) 0 la a lb b || eq)))
  | .geq => some (.bool (not (strLess (la + 1) 0 la a lb b)))
  | _ => none

/-! ## Memory -/
def Hp.get (H : Hp) (b : P) : Option Blk := H.t.get b
def Hp.set (H : Hp) (b : P) (x : Blk) : Hp := ⟨H.t.put (some x) b, H.next⟩
def Hp.new (H : Hp) (x : Blk) : Hp := ⟨H.t.put (some x) H.next, H.next.succ⟩
def Hp.kill (H : Hp) (b : P) : Hp := ⟨H.t.put none b, H.next⟩
def rowOf : List V → Nat → Tr V → Tr V
  | [], _, t => t
  | v :: r, i, t => rowOf r (i + 1) (t.put (some v) (P.of i))
def Hp.newRow (H : Hp) (cs : List V) (plain : Bool) : Hp := H.new (.cells (rowOf cs 0 .lf) cs.length plain)
def rowGet (t : Tr V) : Nat → Nat → Option (List V)
  | 0, _ => some []
  | n + 1, i => match t.get (P.of i) with
    | none => none
    | some v => match rowGet t n (i + 1) with | none => none | some l => some (v :: l)
def Hp.load (H : Hp) (b : P) (i : Nat) : Option V :=
  match H.get b with | some (.cells c _ _) => c.get (P.of i) | _ => none
def Hp.loadn (H : Hp) (b : P) (i n : Nat) : Option (List V) :=
  match H.get b with | some (.cells c _ _) => rowGet c n i | _ => none
def allIn (c : Tr V) : Nat → Nat → Bool
  | 0, _ => true
  | n + 1, i => match c.get (P.of i) with | some _ => allIn c n (i + 1) | none => false
def Hp.storen (H : Hp) (b : P) (i : Nat) (vs : List V) : Option Hp :=
  match H.get b with
  | some (.cells c n p) => bif vs.all V.one && allIn c vs.length i then some (H.set b (.cells (rowOf vs i c) n p)) else none
  | _ => none

/-! ## Equality -/
def ptrEq (H : Hp) : Option (P × Nat) → Option (P × Nat) → Option Bool
  | none, none => some true
  | none, some _ => some false
  | some _, none => some false
  | some (a, i), some (b, j) => match H.get a, H.get b with
    | some (.cells _ _ true), some (.cells _ _ true) => some (bif decide (a = b) then Nat.beq i j else false)
    | _, _ => none
def sub1 (cs : List V) (off sz : Nat) : Option V :=
  match sz with | 0 => cs[off]? | _ => some (.agg ((cs.drop off).take sz))
def eqB : V → V → Option Bool | .bool a, .bool b => some (a == b) | _, _ => none
def eqN : V → V → Option Bool | .int j a, .int k b => bif decide (j = k) then some (eqI a b) else none | _, _ => none
def eqT : V → V → Option Bool | .str la a, .str lb b => some (Nat.beq la lb && Nat.beq a b) | _, _ => none
def eqPt (H : Hp) : V → V → Option Bool | .ptr a, .ptr b => ptrEq H a b | _, _ => none
def eqSl : V → V → Option Bool | .slice none _ _ _, .slice b _ _ _ => some b.isNone | .slice (some _) _ _ _, .slice none _ _ _ => some false | _, _ => none
def eqMp : V → V → Option Bool | .map none, .map b => some b.isNone | .map (some _), .map none => some false | _, _ => none
def eqFn : V → V → Option Bool | .nilFunc, .nilFunc => some true | .nilFunc, .func _ _ _ => some false | .func _ _ _, .nilFunc => some false | _, _ => none
def eqIf : V → V → Option Bool | .nilIface, .iface _ _ => some false | .iface _ _, .nilIface => some false | _, _ => none
def partsOf : V → V → Option (List V × List V) | .agg a, .agg b => some (a, b) | _, _ => none
mutual
def eqV (H : Hp) (k : EqK) (x y : V) : Option Bool :=
  match k with
  | .bool => eqB x y
  | .int => eqN x y
  | .str => eqT x y
  | .ptr => eqPt H x y
  | .slc => eqSl x y
  | .map => eqMp x y
  | .fn => eqFn x y
  | .ifc => eqIf x y
  | .agg ps => match partsOf x y with | some (xs, ys) => eqP H ps xs ys | none => none
def eqP (H : Hp) : List (Nat × Nat × EqK) → List V → List V → Option Bool
  | [], _, _ => some true
  | (off, sz, k) :: r, xs, ys => match sub1 xs off sz, sub1 ys off sz with
    | some x, some y => match eqV H k x y with
      | some true => eqP H r xs ys
      | some false => some false
      | none => none
    | _, _ => none
end
/-- the same value in an elder memory -/
def flatEq : V → V → Bool
  | .bool a, .bool b => a == b
  | .int j a, .int k b => decide (j = k) && eqI a b
  | .str la a, .str lb b => Nat.beq la lb && Nat.beq a b
  | .ptr none, .ptr none => true
  | .ptr (some (p, i)), .ptr (some (q, j)) => decide (p = q) && Nat.beq i j
  | .slice none s l c, .slice none s' l' c' => Nat.beq s s' && Nat.beq l l' && decide (c = c')
  | .slice (some (p, i)) s l c, .slice (some (q, j)) s' l' c' => decide (p = q) && Nat.beq i j && Nat.beq s s' && Nat.beq l l' && decide (c = c')
  | .map a, .map b => decide (a = b)
  | .nilFunc, .nilFunc => true
  | .nilIface, .nilIface => true
  | .sym i, .sym j => Nat.beq i j
  | _, _ => false
def flatEqs : List V → List V → Bool
  | [], [] => true
  | a :: r, b :: s => flatEq a b && flatEqs r s
  | _, _ => false
def sameV : V → V → Bool
  | .agg a, .agg b => flatEqs a b
  | a, b => flatEq a b
def EqK.key0 : EqK → Bool | .bool | .int | .str => true | _ => false
/-- may be a map's key -/
def EqK.key : EqK → Bool
  | .agg ps => ps.all fun q => Nat.beq q.2.1 0 && q.2.2.key0
  | k => k.key0
def V.basic : V → Bool | .bool _ => true | .int _ _ => true | .str _ _ => true | _ => false
/-- has a key's form -/
def keyShape : EqK → V → Bool
  | .agg ps, .agg cs => (ps.all fun q => Nat.blt q.1 cs.length) && cs.all V.basic
  | .agg _, _ => false
  | _, _ => true
/-- the key that is there is the same -/
def keySame (k : EqK) (key : V) (es : List (V × V × Nat)) (i : Nat) : Bool :=
  match k with
  | .agg _ => (match es[i]? with | some e => sameV key e.1 | none => false)
  | _ => true
def findK (H : Hp) (k : EqK) (key : V) : List (V × V × Nat) → Nat → Option (Option (Nat × V × Nat))
  | [], _ => some none
  | (k', v, b) :: r, i => match eqV H k key k' with
    | some true => some (some (i, v, b))
    | some false => findK H k key r (i + 1)
    | none => none
def listSet {α : Type} (x : α) : Nat → List α → List α
  | _, [] => []
  | 0, _ :: r => x :: r
  | i + 1, y :: r => y :: listSet x i r
def fillP (ev : Opd → V) : List (Nat × Nat × Opd) → List V → Option (List V)
  | [], cs => some cs
  | (off, sz, x) :: r, cs =>
    let vs := (ev x).cells
    bif Nat.beq vs.length sz && Nat.ble (Nat.add off sz) cs.length then fillP ev r (cs.take off ++ vs ++ cs.drop (off + sz)) else none
def ev (F : Fr) : Opd → V
  | .t p => (F.get p).getD V.undef
  | .c v => v
def bnd (x : V) (top : Nat) : Option Nat := match x with | .int _ (.ofNat a) => bif Nat.ble a top then some a else none | _ => none
def bndO (F : Fr) (x : Option Opd) (top dflt : Nat) : Option Nat := match x with | none => some dflt | some o => bnd (ev F o) top
def fitOf : List (Nat × Nat × Option Nat) → Nat → Option (Nat × Option Nat)
  | [], _ => none
  | (a, f) :: r, t => bif Nat.beq a t then some f else fitOf r t
/-- the receiver: the value itself, or one of its cells -/
def recvX : Option Nat → V → Option V
  | none, v => some v
  | some n, v => match v with | .agg cs => cs[n]? | _ => none
def mm (mx : Bool) (F : Fr) : List Opd → V → Option V
  | [], v => some v
  | x :: r, .int k a => match ev F x with
    | .int _ b => mm mx F r (.int k (bif (bif mx then ltI a b else ltI b a) then b else a))
    | _ => none
  | _ :: _, _ => none
def asBytes (n : Nat) : Nat → Nat → List V
  | 0, _ => []
  | f + 1, i => .int .u8 (.ofNat (strAt n i)) :: asBytes n f (i + 1)
def digitsOf : List V → Option Nat
  | [] => some 0
  | .int .u8 (.ofNat a) :: r => bif Nat.blt a 256 then match digitsOf r with | some n => some (Nat.add a (Nat.mul 256 n)) | none => none else none
  | _ => none
def newCap (mx : Bool) (m b : Nat) (c : Option Nat) : Option Nat :=
  match mx, c with | true, _ => some (m - b) | false, some c => some (c - b) | false, none => none
/-- what a slice or a text that is appended holds -/
def appended (H : Hp) (sz : Nat) : V → Option (List V)
  | .slice none _ _ _ => some []
  | .slice (some (b, i)) _ l _ => H.loadn b i (Nat.mul l sz)
  | .str l n => bif Nat.beq sz 1 then some (asBytes n l 0) else none
  | _ => none
def lenOf : V → Option Nat | .slice _ _ l _ => some l | .str l _ => some l | _ => none

def most : Nat := 1000000000
def appendL (H : Hp) (sz : Nat) (x : V) (vs : List V) (m : Nat) : Option (V × Hp) :=
  match x with
  | .slice none _ _ _ =>
    match m with
    | 0 => some (.slice none 0 0 (some 0), H)
    | _ => bif Nat.ble m most && vs.all V.one then some (.slice (some (H.next, 0)) sz m none, H.newRow vs false) else none
  | .slice (some (b, i)) sz' l c =>
    bif not (Nat.beq sz sz' && Nat.ble (l + m) most) then none else
    match c with
    | some c =>
      bif Nat.ble (l + m) c then match H.storen b (i + l * sz) vs with | some H' => some (.slice (some (b, i)) sz (l + m) (some c), H') | none => none
      else match H.loadn b i (l * sz) with
        | some old => bif vs.all V.one then some (.slice (some (H.next, 0)) sz (l + m) none, H.newRow (old ++ vs) false) else none
        | none => none
    | none => match H.loadn b i (l * sz) with
      | some old => bif vs.all V.one then some (.slice (some (H.next, 0)) sz (l + m) none, (H.kill b).newRow (old ++ vs) false) else none
      | none => none
  | _ => none
def appendX (H : Hp) (sz : Nat) (x y : V) : Option (V × Hp) :=
  match appended H sz y, lenOf y with
  | some vs, some m => appendL H sz x vs m
  | _, _ => none
def copyX (H : Hp) (sz : Nat) (x y : V) : Option (V × Hp) :=
  match x, appended H sz y, lenOf y with
  | .slice none _ _ _, some _, some _ => some (.int .i64 0, H)
  | .slice (some (b, i)) _ l _, some vs, some m =>
    let n := Nat.min m l
    match H.storen b i (vs.take (n * sz)) with | some H' => some (.int .i64 (.ofNat n), H') | none => none
  | _, _, _ => none
def strStep (_len n pos : Nat) : Option (Nat × Nat) :=
  let b := strAt n pos
  bif Nat.blt b 128 then some (b, 1) else none

/-- One operation that calls nothing. -/
def doX (o : XO) (F : Fr) (H : Hp) : Option (V × Hp) :=
  match o with
  | .mv x => some (ev F x, H)
  | .pick c a b => match ev F c with | .bool true => some (ev F a, H) | .bool false => some (ev F b, H) | _ => none
  | .new z => bif Nat.ble 1 z.length then some (.ptr (some (H.next, 0)), H.newRow z true) else none
  | .box n x => let cs := (ev F x).cells; bif Nat.beq cs.length n && Nat.ble 1 n && cs.all V.one then some (.ptr (some (H.next, 0)), H.newRow cs true) else none
  | .build z ps => match fillP (ev F) ps z with | some cs => some (.agg cs, H) | none => none
  | .bslice sz z l ps => match fillP (ev F) ps z with
    | some cs => bif cs.all V.one then some (.slice (some (H.next, 0)) sz l (some l), H.newRow cs (Nat.ble 1 cs.length)) else none
    | none => none
  | .load x => match ev F x with | .ptr (some (b, i)) => (match H.load b i with | some v => some (v, H) | none => none) | _ => none
  | .loadn n x => match ev F x with | .ptr (some (b, i)) => (match H.loadn b i n with | some l => some (.agg l, H) | none => none) | _ => none
  | .store n x y =>
    let vs := (ev F y).cells
    bif Nat.beq vs.length n then match ev F x with
      | .ptr (some (b, i)) => (match H.storen b i vs with | some H' => some (V.undef, H') | none => none)
      | _ => none
    else none
  | .nilck x => match ev F x with
    | .ptr (some a) => some (.ptr (some a), H)
    | .iface t v => some (.iface t v, H)
    | .func (.func f) a b => some (.func (.func f) a b, H)
    | .map r => some (.map r, H)
    | _ => none
  | .bin op x y => match op, ev F x, ev F y with
    | .shl, .int k a, .int _ b => (match shI op k a b with | some v => some (v, H) | none => none)
    | .shr, .int k a, .int _ b => (match shI op k a b with | some v => some (v, H) | none => none)
    | _, .int k a, .int j b => bif decide (k = j) then (match binI op k a b with | some v => some (v, H) | none => none) else none
    | _, .str la a, .str lb b => (match binS op la a lb b with | some v => some (v, H) | none => none)
    | _, _, _ => none
  | .eq neg k x y => match eqV H k (ev F x) (ev F y) with | some b => some (.bool (bif neg then not b else b), H) | none => none
  | .un op x => match op, ev F x with
    | .not, .bool b => some (.bool (not b), H)
    | .neg, .int k n => some (.int k (wrapI k (Int.sub 0 n)), H)
    | .xor, .int k n => (match binI .xor k (bif k.signed then (-1) else k.max) n with | some v => some (v, H) | none => none)
    | _, _ => none
  | .toInt k x => match ev F x with | .int _ n => some (.int k (wrapI k n), H) | _ => none
  | .same x => match ev F x with | .str l n => some (.str l n, H) | _ => none
  | .toBytes x => match ev F x with
    | .str l n => bif Nat.ble l most then some (.slice (some (H.next, 0)) 1 l none, H.newRow (asBytes n l 0) false) else none
    | _ => none
  | .toStr x => match ev F x with
    | .slice none _ _ _ => some (.str 0 0, H)
    | .slice (some (b, i)) _ l _ => (match H.loadn b i l with | some vs => (match digitsOf vs with | some n => some (.str l n, H) | none => none) | none => none)
    | _ => none
  | .runeStr x => match ev F x with
    | .int _ (.ofNat a) => bif Nat.blt a 128 then some (.str 1 a, H) else none
    | _ => none
  | .mkiface t x => some (.iface t (ev F x), H)
  | .mkmeth fits x => (match ev F x with
    | .iface t v => (match fitOf fits t with | some (f, n) => (match recvX n v with | some u => some (.func (.func f) [u] [], H) | none => none) | none => none)
    | _ => none)
  | .mkfunc fn a b => some (.func fn (a.map (ev F)) (b.map (ev F)), H)
  | .mkmap => some (.map (some H.next), H.new (.map [] 0))
  | .mkslice z l c => match ev F l, ev F c with
    | .int _ (.ofNat a), .int _ (.ofNat b) =>
      bif Nat.ble a b && Nat.ble b most then some (.slice (some (H.next, 0)) z.length a (some b), H.newRow (List.replicate b z).flatten (Nat.ble 1 b)) else none
    | _, _ => none
  | .sliceS x lo hi => match ev F x with
    | .str l n => (match bndO F hi l l with
      | some h => (match bndO F lo h 0 with | some a => some (.str (h - a) (strCut n a h), H) | none => none)
      | none => none)
    | _ => none
  | .sliceL sz x lo hi mx => match ev F x with
    | .slice a sz' l c => bif not (Nat.beq sz sz' || a.isNone) then none else
      let top := c.getD l
      (match bndO F mx top top with
      | some m => (match bndO F hi (bif mx.isSome then m else top) l with
        | some h => (match bndO F lo h 0 with
          | some b =>
            let c' := newCap mx.isSome m b c
            (match a with
            | none => some (.slice none 0 0 (some 0), H)
            | some (p, i) => some (.slice (some (p, i + b * sz)) sz (h - b) c', H))
          | none => none)
        | none => none)
      | none => none)
    | _ => none
  | .sliceA n sz x lo hi mx => match ev F x with
    | .ptr (some (p, i)) =>
      (match H.get p with
      | some (.cells c _ _) => bif allIn c (n * sz) i then
        (match bndO F mx n n with
        | some m => (match bndO F hi (bif mx.isSome then m else n) n with
          | some h => (match bndO F lo h 0 with
            | some b => some (.slice (some (p, i + b * sz)) sz (h - b) (some (m - b)), H)
            | none => none)
          | none => none)
        | none => none) else none
      | _ => none)
    | _ => none
  | .faddr off x => match ev F x with | .ptr (some (b, i)) => some (.ptr (some (b, Nat.add i off)), H) | _ => none
  | .field off sz x => match ev F x with
    | .agg cs => (match sz with
      | none => (match cs[off]? with | some v => some (v, H) | none => none)
      | some n => some (.agg ((cs.drop off).take n), H))
    | _ => none
  | .iaddrL sz x i => match ev F x, ev F i with
    | .slice (some (b, j)) _ l _, .int _ (.ofNat a) => bif Nat.blt a l then some (.ptr (some (b, Nat.add j (Nat.mul a sz))), H) else none
    | _, _ => none
  | .iaddrA n sz x i => match ev F x, ev F i with
    | .ptr (some (b, j)), .int _ (.ofNat a) => bif Nat.blt a n then some (.ptr (some (b, Nat.add j (Nat.mul a sz))), H) else none
    | _, _ => none
  | .idxS x i => match ev F x, ev F i with
    | .str l n, .int _ (.ofNat a) => bif Nat.blt a l then some (.int .u8 (.ofNat (strAt n a)), H) else none
    | _, _ => none
  | .idxA n sz agg x i => match ev F x, ev F i with
    | .agg cs, .int _ (.ofNat a) => bif Nat.blt a n then (bif agg then some (.agg ((cs.drop (a * sz)).take sz), H) else (match cs[a * sz]? with | some v => some (v, H) | none => none)) else none
    | _, _ => none
  | .lookup z k m key ok => bif not (keyShape k (ev F key)) then none else match ev F m with
    | .map none => some (bif ok then .tuple [z, .bool false] else z, H)
    | .map (some r) => (match H.get r with
      | some (.map es _) => (match findK H k (ev F key) es 0 with
        | some (some (_, v, _)) => some (bif ok then .tuple [v, .bool true] else v, H)
        | some none => some (bif ok then .tuple [z, .bool false] else z, H)
        | none => none)
      | _ => none)
    | _ => none
  | .mapset k m key v => bif not (keyShape k (ev F key)) then none else match ev F m with
    | .map (some r) => (match H.get r with
      | some (.map es cl) => (match findK H k (ev F key) es 0 with
        | some (some (i, _, b)) => bif keySame k (ev F key) es i then some (V.undef, H.set r (.map (listSet (ev F key, ev F v, b) i es) cl)) else none
        | some none => some (V.undef, H.set r (.map (es ++ [(ev F key, ev F v, cl)]) (cl + 1)))
        | none => none)
      | _ => none)
    | _ => none
  | .mapent z k m key => match ev F m with
    | .map (some r) => (match H.get r with
      | some (.map es cl) => (match findK H k (ev F key) es 0 with
        | some (some (i, v, b)) => some (.tuple [v, .int .i64 (.ofNat b)], H.set r (.map (listSet (ev F key, v, b) i es) cl))
        | some none => some (.tuple [z, .int .i64 (.ofNat cl)], H.set r (.map (es ++ [(ev F key, z, cl)]) (cl + 1)))
        | none => none)
      | _ => none)
    | _ => none
  | .entset m s v => match ev F m, ev F s with
    | .map (some r), .int _ (.ofNat b) => (match H.get r with
      | some (.map es cl) => (match es.findIdx? (fun e => Nat.beq e.2.2 b) with
        | some i => (match es[i]? with | some e => some (V.undef, H.set r (.map (listSet (e.1, ev F v, e.2.2) i es) cl)) | none => none)
        | none => none)
      | _ => none)
    | _, _ => none
  | .mapdel k m key => match ev F m with
    | .map none => some (V.undef, H)
    | .map (some r) => (match H.get r with
      | some (.map es cl) => (match findK H k (ev F key) es 0 with
        | some (some (i, _, _)) => some (V.undef, H.set r (.map (es.eraseIdx i) cl))
        | some none => some (V.undef, H)
        | none => none)
      | _ => none)
    | _ => none
  | .rangeS x => match ev F x with | .str l n => some (.ptr (some (H.next, 0)), H.new (.siter l n 0)) | _ => none
  | .nextS x => match ev F x with
    | .ptr (some (r, 0)) => (match H.get r with
      | some (.siter l n pos) =>
        bif Nat.blt pos l then (match strStep l n pos with
          | some (c, w) => some (.tuple [.bool true, .int .i64 (.ofNat pos), .int .i32 (.ofNat c)], H.set r (.siter l n (pos + w)))
          | none => none)
        else some (.tuple [.bool false], H)
      | _ => none)
    | _ => none
  | .tassert t z ok x => match ev F x with
    | .iface t' v => bif Nat.beq t t' then some (bif ok then .tuple [v, .bool true] else v, H) else bif ok then some (.tuple [z, .bool false], H) else none
    | .nilIface => bif ok then some (.tuple [z, .bool false], H) else none
    | _ => none
  | .ext n x => match ev F x with | .tuple vs => (match vs[n]? with | some v => some (v, H) | none => none) | _ => none
  | .len k x => match k, ev F x with
    | 1, .slice _ _ l _ => some (.int .i64 (.ofNat l), H)
    | 0, .str l _ => some (.int .i64 (.ofNat l), H)
    | 2, .map none => some (.int .i64 (.ofNat 0), H)
    | 2, .map (some r) => (match H.get r with | some (.map es _) => some (.int .i64 (.ofNat es.length), H) | _ => none)
    | _, _ => none
  | .cap x => match ev F x with | .slice _ _ _ (some c) => some (.int .i64 (.ofNat c), H) | _ => none
  | .append sz x y => appendX H sz (ev F x) (ev F y)
  | .appendz z x n => match ev F n with | .int _ (.ofNat m) => bif Nat.ble m most then appendL H z.length (ev F x) (List.replicate m z).flatten m else none | _ => none
  | .copy sz x y => copyX H sz (ev F x) (ev F y)
  | .min xs => match xs with | [] => none | x :: r => (match mm false F r (ev F x) with | some v => some (v, H) | none => none)
  | .max xs => match xs with | [] => none | x :: r => (match mm true F r (ev F x) with | some v => some (v, H) | none => none)
  | .call .. => none
  | .dyn .. => none
  | .dfr .. => none
  | .invoke .. => none
  | .bad _ => none

/-! ## Running -/
structure Env where
  fns : Tr XFn
  orc : P → List V → Option V
  idle : P → Nat → Bool
def frameOf : List V → P → Fr → Fr
  | [], _, t => t
  | v :: r, p, t => frameOf r p.succ (t.put (some v) p)
def resOf (F : Fr) (H : Hp) : XR → Option V
  | .t p => some ((F.get p).getD V.undef)
  | .cell a => match (F.get a).getD V.undef with | .ptr (some (b, i)) => H.load b i | _ => none
  | .celln a n => match (F.get a).getD V.undef with | .ptr (some (b, i)) => (match H.loadn b i n with | some l => some (.agg l) | none => none) | _ => none
def resAll (F : Fr) (H : Hp) : List XR → Option (List V)
  | [] => some []
  | x :: r => match resOf F H x with
    | none => none
    | some v => match resAll F H r with | none => none | some l => some (v :: l)
def resV : List V → V | [v] => v | l => .tuple l
abbrev Run := XC → Fr → Hp → Option (XE × Fr × Hp)
def callX (E : Env) (ih : Run) (f : P) (args : List V) (H : Hp) : Option (V × Hp) :=
  match E.orc f args with
  | some v => some (v, H)
  | none => match E.fns.get f with
    | none => none
    | some fn => match ih fn.body (frameOf args .h .lf) H with
      | some (.exit _, _, _) => none
      | some (_, F', H') => (match resAll F' H' fn.res with | some l => some (resV l, H') | none => none)
      | none => none
def fnArgs : V → List V → Option (P × List V)
  | .func (.func f) first cap, args => some (P.of f, first ++ args ++ cap)
  | _, _ => none
def opX (E : Env) (ih : Run) (o : XO) (F : Fr) (H : Hp) : Option (V × Hp) :=
  match o with
  | .call f args => callX E ih f (args.map (ev F)) H
  | .dyn f args => match fnArgs (ev F f) (args.map (ev F)) with | some (f, l) => callX E ih f l H | none => none
  | .dfr f args => match fnArgs (ev F f) (args.map (ev F)) with | some (g, l) => bif E.idle g l.length then some (V.undef, H) else none | none => none
  | .invoke fits x args => (match ev F x with
    | .iface t v => (match fitOf fits t with | some (f, n) => (match recvX n v with | some u => callX E ih (P.of f) (u :: args.map (ev F)) H | none => none) | none => none)
    | _ => none)
  | o => doX o F H
def want (F : Fr) : Option (P × Bool) → Option Bool
  | none => some true
  | some (p, b) => match F.get p with | some (.bool x) => some (x == b) | some (.sym _) => none | _ => some false
def putD (F : Fr) (d : Option P) (v : V) : Fr := match d with | some p => F.put (some v) p | none => F
def stepX (E : Env) (ih : Run) (o : XOp) (F : Fr) (H : Hp) : Option (Fr × Hp) :=
  match want F o.g with
  | some true => match opX E ih o.op F H with | some (v, H') => some (putD F o.dst v, H') | none => none
  | some false => some (putD F o.dst V.undef, H)
  | none => none
def recheck (o : XO) (F : Fr) (v : V) : List Hp → Nat → Bool
  | _, 0 => true
  | [], _ + 1 => false
  | H :: r, n + 1 => (match doX o F H with | some (u, _) => sameV v u | none => false) && recheck o F v r n
/-- two stores into two blocks -/
def apart2 (F : Fr) (o q : XO) : Bool :=
  match o, q with
  | .store _ x _, .store _ y _ => (match ev F x, ev F y with | .ptr (some (b, _)), .ptr (some (c, _)) => not (decide (b = c)) | _, _ => true)
  | _, _ => false
def apartB (F : Fr) (o : XO) : List (Nat × Bool × XOp) → Bool
  | (_, _, q) :: _ => apart2 F o q.op
  | [] => false
/-- chk: in how many elder memories it must give the same; w: it may turn memory. B: the memory behind the last that may turn it; Hs: those behind the ones before, the last first -/
def drawX (E : Env) (ih : Run) : List (Nat × Bool × XOp) → Fr → Hp → Hp → List Hp → Option (Fr × Hp)
  | [], F, H, _, _ => some (F, H)
  | (chk, w, o) :: r, F, H, B, Hs =>
    match want F o.g with
    | some true => (match opX E ih o.op F H with
      | some (v, H') => bif w then (bif Nat.ble H.next.toNat H'.next.toNat && (Nat.beq chk 0 || apartB F o.op r) then drawX E ih r (putD F o.dst v) H' H' (B :: Hs) else none)
        else (bif recheck o.op F v Hs chk then drawX E ih r (putD F o.dst v) H' B Hs else none)
      | none => none)
    | some false => bif w then drawX E ih r (putD F o.dst V.undef) H H (B :: Hs) else drawX E ih r (putD F o.dst V.undef) H B Hs
    | none => none
def opsX (E : Env) (ih : Run) : List XOp → Fr → Hp → Option (Fr × Hp)
  | [], F, H => some (F, H)
  | o :: r, F, H => match stepX E ih o F H with | some (F', H') => opsX E ih r F' H' | none => none
def execBody (E : Env) (ih : Run) : XC → Fr → Hp → Option (XE × Fr × Hp)
  | .skip, F, H => some (.nrm, F, H)
  | .ops l, F, H => match opsX E ih l F H with | some (F', H') => some (.nrm, F', H') | none => none
  | .draw l, F, H => match drawX E ih l F H H [] with | some (F', H') => some (.nrm, F', H') | none => none
  | .seq a b, F, H => match execBody E ih a F H with | some (.nrm, F', H') => execBody E ih b F' H' | r => r
  | .cond c a b, F, H => match ev F c with | .bool true => execBody E ih a F H | .bool false => execBody E ih b F H | _ => none
  | .block id b, F, H => match execBody E ih b F H with | some (.exit j, F', H') => bif Nat.beq j id then some (.nrm, F', H') else some (.exit j, F', H') | r => r
  | .loop b, F, H => match execBody E ih b F H with | some (.nrm, F', H') => ih (.loop b) F' H' | r => r
  | .exit id, F, H => some (.exit id, F, H)
  | .ret, F, H => some (.ret, F, H)
  | .bad _, _, _ => none
--PRIM2
def exec (E : Env) : Nat → Run
  | 0 => fun _ _ _ => none
  | n + 1 => execBody E (exec E n)
--ENDPRIM2
end Go.Proofs.YtafignheedbnbaaGreatDoor.X
