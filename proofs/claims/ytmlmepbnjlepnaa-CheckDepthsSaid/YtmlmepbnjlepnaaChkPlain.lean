/-
  CHECK, IN PLAIN LEAN: the tables of package api and package check; what 'check' computes of protos that are told as plain data. No program in sight.
-/
namespace Go.Proofs.Ytmlmepbnjlepnaa

/-- api.Prims: name (bytes), least, most. -/
def primT : List (List UInt8 × Int × Int) := [
  ([43], 0, -1), ([45], 1, -1), ([42], 0, -1), ([61], 1, -1),
  ([60], 1, -1), ([62], 1, -1), ([60, 61], 1, -1), ([62, 61], 1, -1),
  ([113, 117, 111, 116, 105, 101, 110, 116], 2, 2), ([114, 101, 109, 97, 105, 110, 100, 101, 114], 2, 2), ([109, 111, 100, 117, 108, 111], 2, 2), ([97, 98, 115], 1, 1),
  ([109, 105, 110], 1, -1), ([109, 97, 120], 1, -1), ([103, 99, 100], 0, -1), ([101, 120, 112, 116], 2, 2),
  ([122, 101, 114, 111, 63], 1, 1), ([112, 111, 115, 105, 116, 105, 118, 101, 63], 1, 1), ([110, 101, 103, 97, 116, 105, 118, 101, 63], 1, 1), ([111, 100, 100, 63], 1, 1),
  ([101, 118, 101, 110, 63], 1, 1), ([110, 117, 109, 98, 101, 114, 63], 1, 1), ([110, 117, 109, 98, 101, 114, 45, 62, 115, 116, 114, 105, 110, 103], 1, 1), ([115, 116, 114, 105, 110, 103, 45, 62, 110, 117, 109, 98, 101, 114], 1, 1),
  ([101, 113, 63], 2, 2), ([101, 113, 118, 63], 2, 2), ([101, 113, 117, 97, 108, 63], 2, 2), ([110, 111, 116], 1, 1),
  ([98, 111, 111, 108, 101, 97, 110, 63], 1, 1), ([110, 117, 108, 108, 63], 1, 1), ([112, 97, 105, 114, 63], 1, 1), ([108, 105, 115, 116, 63], 1, 1),
  ([115, 121, 109, 98, 111, 108, 63], 1, 1), ([115, 116, 114, 105, 110, 103, 63], 1, 1), ([99, 104, 97, 114, 63], 1, 1), ([118, 101, 99, 116, 111, 114, 63], 1, 1),
  ([112, 114, 111, 99, 101, 100, 117, 114, 101, 63], 1, 1), ([99, 111, 110, 115], 2, 2), ([99, 97, 114], 1, 1), ([99, 100, 114], 1, 1),
  ([115, 101, 116, 45, 99, 97, 114, 33], 2, 2), ([115, 101, 116, 45, 99, 100, 114, 33], 2, 2), ([108, 105, 115, 116], 0, -1), ([108, 101, 110, 103, 116, 104], 1, 1),
  ([97, 112, 112, 101, 110, 100], 0, -1), ([114, 101, 118, 101, 114, 115, 101], 1, 1), ([108, 105, 115, 116, 45, 114, 101, 102], 2, 2), ([108, 105, 115, 116, 45, 116, 97, 105, 108], 2, 2),
  ([109, 101, 109, 113], 2, 2), ([109, 101, 109, 118], 2, 2), ([109, 101, 109, 98, 101, 114], 2, 2), ([97, 115, 115, 113], 2, 2),
  ([97, 115, 115, 118], 2, 2), ([97, 115, 115, 111, 99], 2, 2), ([118, 101, 99, 116, 111, 114], 0, -1), ([109, 97, 107, 101, 45, 118, 101, 99, 116, 111, 114], 1, 2),
  ([118, 101, 99, 116, 111, 114, 45, 108, 101, 110, 103, 116, 104], 1, 1), ([118, 101, 99, 116, 111, 114, 45, 114, 101, 102], 2, 2), ([118, 101, 99, 116, 111, 114, 45, 115, 101, 116, 33], 3, 3), ([118, 101, 99, 116, 111, 114, 45, 62, 108, 105, 115, 116], 1, 1),
  ([108, 105, 115, 116, 45, 62, 118, 101, 99, 116, 111, 114], 1, 1), ([118, 101, 99, 116, 111, 114, 45, 102, 105, 108, 108, 33], 2, 2), ([115, 116, 114, 105, 110, 103, 45, 108, 101, 110, 103, 116, 104], 1, 1), ([115, 116, 114, 105, 110, 103, 45, 114, 101, 102], 2, 2),
  ([115, 116, 114, 105, 110, 103, 45, 97, 112, 112, 101, 110, 100], 0, -1), ([115, 117, 98, 115, 116, 114, 105, 110, 103], 3, 3), ([115, 116, 114, 105, 110, 103, 61, 63], 2, 2), ([115, 116, 114, 105, 110, 103, 60, 63], 2, 2),
  ([115, 116, 114, 105, 110, 103, 45, 62, 108, 105, 115, 116], 1, 1), ([108, 105, 115, 116, 45, 62, 115, 116, 114, 105, 110, 103], 1, 1), ([115, 116, 114, 105, 110, 103, 45, 62, 115, 121, 109, 98, 111, 108], 1, 1), ([115, 121, 109, 98, 111, 108, 45, 62, 115, 116, 114, 105, 110, 103], 1, 1),
  ([99, 104, 97, 114, 45, 62, 105, 110, 116, 101, 103, 101, 114], 1, 1), ([105, 110, 116, 101, 103, 101, 114, 45, 62, 99, 104, 97, 114], 1, 1), ([99, 104, 97, 114, 61, 63], 2, 2), ([99, 104, 97, 114, 60, 63], 2, 2),
  ([119, 114, 105, 116, 101], 1, 1), ([100, 105, 115, 112, 108, 97, 121], 1, 1), ([110, 101, 119, 108, 105, 110, 101], 0, 0), ([119, 114, 105, 116, 101, 45, 99, 104, 97, 114], 1, 1),
  ([99, 111, 110, 100, 105, 116, 105, 111, 110, 63], 1, 1), ([99, 111, 110, 100, 105, 116, 105, 111, 110, 45, 99, 108, 97, 115, 115], 1, 1), ([99, 111, 110, 100, 105, 116, 105, 111, 110, 45, 109, 101, 115, 115, 97, 103, 101], 1, 1), ([99, 111, 110, 100, 105, 116, 105, 111, 110, 45, 105, 114, 114, 105, 116, 97, 110, 116, 115], 1, 1),
  ([118, 111, 105, 100], 0, -1), ([97, 112, 112, 108, 121], 2, -1), ([99, 97, 108, 108, 47, 99, 99], 1, 1), ([100, 121, 110, 97, 109, 105, 99, 45, 119, 105, 110, 100], 3, 3),
  ([119, 105, 116, 104, 45, 101, 120, 99, 101, 112, 116, 105, 111, 110, 45, 104, 97, 110, 100, 108, 101, 114], 2, 2), ([114, 97, 105, 115, 101], 1, 1), ([114, 97, 105, 115, 101, 45, 99, 111, 110, 116, 105, 110, 117, 97, 98, 108, 101], 1, 1), ([101, 114, 114, 111, 114], 1, -1)
]

/-- What an instruction wants (check.want). -/
structure Want where
  known : Bool
  wants : Int
  more : Int
  a : Bool
  b : Bool
  byA : Bool
  byB : Bool
  jumps : Bool
  fin : Bool
  deriving DecidableEq

def wantT : Nat → Want
  | 1 => ⟨true, 0, 1, true, false, false, false, false, false⟩
  | 2 => ⟨true, 0, 1, true, false, false, false, false, false⟩
  | 3 => ⟨true, 0, 1, true, false, false, false, false, false⟩
  | 4 => ⟨true, 0, 1, true, false, false, false, false, false⟩
  | 5 => ⟨true, 1, 0, true, false, false, false, false, false⟩
  | 6 => ⟨true, 1, 0, true, false, false, false, false, false⟩
  | 7 => ⟨true, 1, 0, false, false, false, false, false, false⟩
  | 8 => ⟨true, 1, 0, false, false, false, false, false, false⟩
  | 9 => ⟨true, 2, -1, false, false, false, false, false, false⟩
  | 10 => ⟨true, 0, 1, true, true, false, true, false, false⟩
  | 11 => ⟨true, 1, 0, true, false, true, false, false, false⟩
  | 12 => ⟨true, 1, 0, true, false, true, false, false, true⟩
  | 13 => ⟨true, 1, -1, false, false, false, false, false, true⟩
  | 14 => ⟨true, 0, 0, true, false, false, false, true, true⟩
  | 15 => ⟨true, 1, -1, true, false, false, false, true, false⟩
  | 16 => ⟨true, 0, 1, true, true, false, true, false, false⟩
  | 17 => ⟨true, 1, -1, false, false, false, false, false, false⟩
  | 18 => ⟨true, 1, 0, true, false, true, false, false, false⟩
  | 19 => ⟨true, 1, -1, true, false, false, false, false, false⟩
  | 20 => ⟨true, 0, 0, false, false, false, false, false, false⟩
  | 21 => ⟨true, 0, 1, true, false, false, false, false, false⟩
  | _ => ⟨false, 0, 0, false, false, false, false, false, false⟩

/-- An instruction. -/
structure Ins where
  op : Int
  a : Int
  b : Int
  deriving DecidableEq

/-- A proto, as far as check looks: arguments, free values, rest, code, how many constants and names. -/
structure Pr where
  args : Int
  free : Int
  rest : Bool
  code : List Ins
  nc : Nat
  nn : Nat

def inB (n below : Int) : Bool := decide (0 ≤ n) && decide (n < below)

def headB (p : Pr) (i : Nat) : Bool :=
  inB p.args 65 && inB p.free 4097 && decide (1 ≤ p.code.length) && decide (p.code.length ≤ 65536) && (decide (0 < i) || (decide (p.args = 0) && !p.rest && decide (p.free = 0)))

/-- The count of an operand, where the chapter has one. -/
def okB (ps : List Pr) (p : Pr) (x : Ins) : Bool :=
  if x.op = 1 then inB x.a p.nc
  else if x.op = 3 then inB x.a p.free
  else if x.op = 4 ∨ x.op = 5 ∨ x.op = 6 then inB x.a p.nn
  else if x.op = 10 then inB x.a ps.length && inB x.b 65
  else if x.op = 11 ∨ x.op = 12 then inB x.a 65
  else if x.op = 18 then inB x.a 4097
  else if x.op = 16 then inB x.a 92
  else true

def primOf (a : Int) : Int × Int := match primT[a.toNat]? with
  | some r => r.2
  | none => (0, 0)

def freeOf (ps : List Pr) (a : Int) : Int := match ps[a.toNat]? with
  | some r => r.free
  | none => 0

def kindB (ps : List Pr) (x : Ins) : Bool :=
  if x.op = 10 then decide (freeOf ps x.a = x.b)
  else if x.op = 16 then decide (x.a < 85) && decide ((primOf x.a).1 ≤ x.b) && (decide ((primOf x.a).2 < 0) || decide (x.b ≤ (primOf x.a).2)) && decide (0 ≤ x.b)
  else true

/-- check.operands. -/
def opsE (ps : List Pr) (p : Pr) (x : Ins) : Int :=
  if !(inB x.op 22 && (wantT x.op.toNat).known) then 30
  else if (!(wantT x.op.toNat).a && decide (x.a ≠ 0)) || (!(wantT x.op.toNat).b && decide (x.b ≠ 0)) then 30
  else if !okB ps p x then 33
  else if !kindB ps x then 34
  else 0

def needOf (x : Ins) : Int := (wantT x.op.toNat).wants + (if (wantT x.op.toNat).byA then x.a else 0) + (if (wantT x.op.toNat).byB then x.b else 0)
def moreOf (x : Ins) : Int := (wantT x.op.toNat).more - (if (wantT x.op.toNat).byA then x.a else 0) - (if (wantT x.op.toNat).byB then x.b else 0)

/-- check.stack. -/
def stackE (x : Ins) (depth : Int) : Int × Int :=
  if depth < needOf x then (0, 31)
  else if (x.op = 2 ∨ x.op = 21 ∨ x.op = 19) ∧ inB x.a (if x.op = 19 then depth - 1 else depth) = false then (0, 33)
  else if 4096 < depth + moreOf x then (0, 31)
  else (depth + moreOf x, 0)

def goesL (x : Ins) (pc : Int) : List Int := (if (wantT x.op.toNat).jumps then [x.a] else []) ++ (if (wantT x.op.toNat).fin then [] else [pc + 1])

end Go.Proofs.Ytmlmepbnjlepnaa
