/-
  CHECK, IN PLAIN LEAN: the tables of package api and package check; what 'check' computes of protos that are told as plain data. No program in sight.
-/
import Derived.Test.YtafignheedbnbaaGreatDoorLib
import Derived.Deep.WholeRow
import Derived.Deep.OwnRows
import Derived.Deep.LoopGhost
import Derived.Outline
import Derived.Deep.CutRange
namespace Go.Proofs.YtafignheedbnbaaGreatDoor

/-- api.Prims: name (bytes), least, most. -/
def primT : List (List UInt8 × Int × Int) := [
  ([43], 0, -1), ([45], 1, -1), ([42], 0, -1), ([61], 1, -1),
  ([60], 1, -1), ([62], 1, -1), ([60, 61], 1, -1), ([62, 61], 1, -1),
  ([113, 117, 111, 116, 105, 101, 110, 116], 2, 2), ([114, 101, 109, 97, 105, 110, 100, 101, 114], 2, 2), ([109, 111, 100, 117, 108, 111], 2, 2), ([97, 98, 115], 1, 1),
  ([109, 105, 110], 1, -1), ([109, 97, 120], 1, -1), ([103, 99, 100], 0, -1), ([101, 120, 112, 116], 2, 2),
  ([122, 101, 114, 111, 63], 1, 1), ([112, 111, 115, 105, 116, 105, 118, 101, 63], 1, 1), ([110, 101, 103, 97, 116, 105, 118, 101, 63], 1, 1), ([111, 100, 100, 63], 1, 1),
  ([101, 118, 101, 110, 63], 1, 1), ([110, 117, 109, 98, 101, 114, 63], 1, 1), ([110, 117, 109, 98, 101, 114, 45, 62, 115, 116, 114, 105, 110, 103], 1, 1), ([115, 116, 114, 105, 110, 103, 45, 62, 110, 117, 109, 98, 101, 114], 1, 1),
  ([101, 113, 63], 2, 2), ([101, 113, 118, 63], 2, 2), ([101, 113, 117, 97, 108, 63], 2, 2), ([110, 111, 116], 1, 1),
  ([98, 111, 111, 108, 101, 97, 110, 63], 1, 1), ([110, 117, 108, 108, 63], 1, 1), ([112, 97, 105, 114, 63], 1, 1), ([108, 105, 115, 116, 63], 1, 1),
  ([115, 121, 109, 98, 111, 108, 63], 1, 1), ([115, 116, 114, 105, 110, 103, 63], 1, 1), ([99, 104, 97, 114, 63], 1, 1), ([118, 101, 99, 116, 111, 114, 63], 1, 1),
  ([112, 114, 111, 99, 101, 100, 117, 114, 101, 63], 1, 1), ([99, 111, 110, 115], 2, 2), ([99, 97, 114], 1, 1), ([99, 100, 114], 1, 1),
  ([115, 101, 116, 45, 99, 97, 114, 33], 2, 2), ([115, 101, 116, 45, 99, 100, 114, 33], 2, 2), ([108, 105, 115, 116], 0, -1), ([108, 101, 110, 103, 116, 104], 1, 1),
  ([97, 112, 112, 101, 110, 100], 0, -1), ([114, 101, 118, 101, 114, 115, 101], 1, 1), ([108, 105, 115, 116, 45, 114, 101, 102], 2, 2), ([108, 105, 115, 116, 45, 116, 97, 105, 108], 2, 2),
  ([109, 101, 109, 113], 2, 2), ([109, 101, 109, 118], 2, 2), ([109, 101, 109, 98, 101, 114], 2, 2), ([97, 115, 115, 113], 2, 2),
  ([97, 115, 115, 118], 2, 2), ([97, 115, 115, 111, 99], 2, 2), ([118, 101, 99, 116, 111, 114], 0, -1), ([109, 97, 107, 101, 45, 118, 101, 99, 116, 111, 114], 1, 2),
  ([118, 101, 99, 116, 111, 114, 45, 108, 101, 110, 103, 116, 104], 1, 1), ([118, 101, 99, 116, 111, 114, 45, 114, 101, 102], 2, 2), ([118, 101, 99, 116, 111, 114, 45, 115, 101, 116, 33], 3, 3), ([118, 101, 99, 116, 111, 114, 45, 62, 108, 105, 115, 116], 1, 1),
  ([108, 105, 115, 116, 45, 62, 118, 101, 99, 116, 111, 114], 1, 1), ([118, 101, 99, 116, 111, 114, 45, 102, 105, 108, 108, 33], 2, 2), ([115, 116, 114, 105, 110, 103, 45, 108, 101, 110, 103, 116, 104], 1, 1), ([115, 116, 114, 105, 110, 103, 45, 114, 101, 102], 2, 2),
  ([115, 116, 114, 105, 110, 103, 45, 97, 112, 112, 101, 110, 100], 0, -1), ([115, 117, 98, 115, 116, 114, 105, 110, 103], 3, 3), ([115, 116, 114, 105, 110, 103, 61, 63], 2, 2), ([115, 116, 114, 105, 110, 103, 60, 63], 2, 2),
  ([115, 116, 114, 105, 110, 103, 45, 62, 108, 105, 115, 116], 1, 1), ([108, 105, 115, 116, 45, 62, 115, 116, 114, 105, 110, 103], 1, 1), ([115, 116, 114, 105, 110, 103, 45, 62, 115, 121, 109, 98, 111, 108], 1, 1), ([115, 121, 109, 98, 111, 108, 45, 62, 115, 116, 114, 105, 110, 103], 1, 1),
  ([99, 104, 97, 114, 45, 62, 105, 110, 116, 101, 103, 101, 114], 1, 1), ([105, 110, 116, 101, 103, 101, 114, 45, 62, 99, 104, 97, 114], 1, 1), ([99, 104, 97, 114, 61, 63], 2, 2), ([99, 104, 97, 114, 60, 63], 2, 2),
  ([119, 114, 105, 116, 101], 1, 1), ([100, 105, 115, 112, 108, 97, 121], 1, 1), ([110, 101, 119, 108, 105, 110, 101], 0, 0), ([119, 114, 105, 116, 101, 45, 99, 104, 97, 114], 1, 1),
  ([99, 111, 110, 100, 105, 116, 105, 111, 110, 63], 1, 1), ([99, 111, 110, 100, 105, 116, 105, 111, 110, 45, 99, 108, 97, 115, 115], 1, 1), ([99, 111, 110, 100, 105, 116, 105, 111, 110, 45, 109, 101, 115, 115, 97, 103, 101], 1, 1), ([99, 111, 110, 100, 105, 116, 105, 111, 110, 45, 105, 114, 114, 105, 116, 97, 110, 116, 115], 1, 1),
  ([118, 111, 105, 100], 0, -1), ([97, 112, 112, 108, 121], 2, -1), ([99, 97, 108, 108, 47, 99, 99], 1, 1), ([100, 121, 110, 97, 109, 105, 99, 45, 119, 105, 110, 100], 3, 3),
  ([119, 105, 116, 104, 45, 101, 120, 99, 101, 112, 116, 105, 111, 110, 45, 104, 97, 110, 100, 108, 101, 114], 2, 2), ([114, 97, 105, 115, 101], 1, 1), ([114, 97, 105, 115, 101, 45, 99, 111, 110, 116, 105, 110, 117, 97, 98, 108, 101], 1, 1), ([101, 114, 114, 111, 114], 1, -1)
]

/-- What an instruction wants (check.want). -/
structure Want where
  known : Bool
  wants : Int
  more : Int
  a : Bool
  b : Bool
  byA : Bool
  byB : Bool
  jumps : Bool
  fin : Bool
  deriving DecidableEq

def wantT : Nat → Want
  | 1 => ⟨true, 0, 1, true, false, false, false, false, false⟩
  | 2 => ⟨true, 0, 1, true, false, false, false, false, false⟩
  | 3 => ⟨true, 0, 1, true, false, false, false, false, false⟩
  | 4 => ⟨true, 0, 1, true, false, false, false, false, false⟩
  | 5 => ⟨true, 1, 0, true, false, false, false, false, false⟩
  | 6 => ⟨true, 1, 0, true, false, false, false, false, false⟩
  | 7 => ⟨true, 1, 0, false, false, false, false, false, false⟩
  | 8 => ⟨true, 1, 0, false, false, false, false, false, false⟩
  | 9 => ⟨true, 2, -1, false, false, false, false, false, false⟩
  | 10 => ⟨true, 0, 1, true, true, false, true, false, false⟩
  | 11 => ⟨true, 1, 0, true, false, true, false, false, false⟩
  | 12 => ⟨true, 1, 0, true, false, true, false, false, true⟩
  | 13 => ⟨true, 1, -1, false, false, false, false, false, true⟩
  | 14 => ⟨true, 0, 0, true, false, false, false, true, true⟩
  | 15 => ⟨true, 1, -1, true, false, false, false, true, false⟩
  | 16 => ⟨true, 0, 1, true, true, false, true, false, false⟩
  | 17 => ⟨true, 1, -1, false, false, false, false, false, false⟩
  | 18 => ⟨true, 1, 0, true, false, true, false, false, false⟩
  | 19 => ⟨true, 1, -1, true, false, false, false, false, false⟩
  | 20 => ⟨true, 0, 0, false, false, false, false, false, false⟩
  | 21 => ⟨true, 0, 1, true, false, false, false, false, false⟩
  | _ => ⟨false, 0, 0, false, false, false, false, false, false⟩

/-- An instruction. -/
structure Ins where
  op : Int
  a : Int
  b : Int
  deriving DecidableEq

/-- A proto, as far as check looks: arguments, free values, rest, code, how many constants and names. -/
structure Pr where
  args : Int
  free : Int
  rest : Bool
  code : List Ins
  nc : Nat
  nn : Nat

def inB (n below : Int) : Bool := decide (0 ≤ n) && decide (n < below)

def headB (p : Pr) (i : Nat) : Bool :=
  inB p.args 65 && inB p.free 4097 && decide (1 ≤ p.code.length) && decide (p.code.length ≤ 65536) && (decide (0 < i) || (decide (p.args = 0) && !p.rest && decide (p.free = 0)))

/-- The count of an operand, where the chapter has one. -/
def okB (ps : List Pr) (p : Pr) (x : Ins) : Bool :=
  if x.op = 1 then inB x.a p.nc
  else if x.op = 3 then inB x.a p.free
  else if x.op = 4 ∨ x.op = 5 ∨ x.op = 6 then inB x.a p.nn
  else if x.op = 10 then inB x.a ps.length && inB x.b 65
  else if x.op = 11 ∨ x.op = 12 then inB x.a 65
  else if x.op = 18 then inB x.a 4097
  else if x.op = 16 then inB x.a 92
  else true

def primOf (a : Int) : Int × Int := match primT[a.toNat]? with
  | some r => r.2
  | none => (0, 0)

def freeOf (ps : List Pr) (a : Int) : Int := match ps[a.toNat]? with
  | some r => r.free
  | none => 0

def kindB (ps : List Pr) (x : Ins) : Bool :=
  if x.op = 10 then decide (freeOf ps x.a = x.b)
  else if x.op = 16 then decide (x.a < 85) && decide ((primOf x.a).1 ≤ x.b) && (decide ((primOf x.a).2 < 0) || decide (x.b ≤ (primOf x.a).2)) && decide (0 ≤ x.b)
  else true

/-- check.operands. -/
def opsE (ps : List Pr) (p : Pr) (x : Ins) : Int :=
  if !(inB x.op 22 && (wantT x.op.toNat).known) then 30
  else if (!(wantT x.op.toNat).a && decide (x.a ≠ 0)) || (!(wantT x.op.toNat).b && decide (x.b ≠ 0)) then 30
  else if !okB ps p x then 33
  else if !kindB ps x then 34
  else 0

def needOf (x : Ins) : Int := (wantT x.op.toNat).wants + (if (wantT x.op.toNat).byA then x.a else 0) + (if (wantT x.op.toNat).byB then x.b else 0)
def moreOf (x : Ins) : Int := (wantT x.op.toNat).more - (if (wantT x.op.toNat).byA then x.a else 0) - (if (wantT x.op.toNat).byB then x.b else 0)

/-- check.stack. -/
def stackE (x : Ins) (depth : Int) : Int × Int :=
  if depth < needOf x then (0, 31)
  else if (x.op = 2 ∨ x.op = 21 ∨ x.op = 19) ∧ inB x.a (if x.op = 19 then depth - 1 else depth) = false then (0, 33)
  else if 4096 < depth + moreOf x then (0, 31)
  else (depth + moreOf x, 0)

def goesL (x : Ins) (pc : Int) : List Int := (if (wantT x.op.toNat).jumps then [x.a] else []) ++ (if (wantT x.op.toNat).fin then [] else [pc + 1])

end Go.Proofs.YtafignheedbnbaaGreatDoor

/-
  The primitives' names: each is the name of one primitive. No program in sight; no condition.
-/
namespace Go.Proofs.YtafignheedbnbaaGreatDoor

def nm (k : Nat) : ByteArray := ⟨(primT.getD k ([], 0, 0)).1.toArray⟩

/-- The last place ahead of k that bears the name; -1: none does. -/
def lastN (s : ByteArray) : Nat → Int
  | 0 => -1
  | k + 1 => if nm k = s then (k : Int) else lastN s k

theorem names_apart : (primT.map (·.1)).Nodup := by decide +kernel

theorem nm_inj {i j : Nat} (hi : i < 92) (hj : j < 92) (h : nm i = nm j) : i = j := by
  have hl : primT.length = 92 := by decide +kernel
  have hi' : i < (primT.map (·.1)).length := by rw [List.length_map, hl]; exact hi
  have hj' : j < (primT.map (·.1)).length := by rw [List.length_map, hl]; exact hj
  have e : (primT.map (·.1))[i] = (primT.map (·.1))[j] := by
    have h2 := congrArg (fun b : ByteArray => b.data.toList) h
    simp only [nm] at h2
    rw [List.getD_eq_getElem?_getD, List.getD_eq_getElem?_getD, List.getElem?_eq_getElem (by omega), List.getElem?_eq_getElem (by omega)] at h2
    simpa using h2
  exact (List.getElem_inj (i := i) (j := j) names_apart).1 e

theorem lastN_at {s : ByteArray} {i : Nat} (hi : i < 92) (h : nm i = s) : ∀ k, k ≤ 92 → lastN s k = if i < k then (i : Int) else -1
  | 0, _ => rfl
  | k + 1, hk => by
    unfold lastN
    by_cases e : nm k = s
    · have : k = i := nm_inj (by omega) hi (e.trans h.symm)
      subst this
      rw [if_pos e, if_pos (by omega)]
    · rw [if_neg e, lastN_at hi h k (by omega)]
      have hne : i ≠ k := fun e2 => e (e2 ▸ h)
      by_cases h2 : i < k
      · rw [if_pos h2, if_pos (by omega)]
      · rw [if_neg h2, if_neg (by omega)]

theorem lastN_none {s : ByteArray} : ∀ k, (∀ j, j < k → nm j ≠ s) → lastN s k = -1
  | 0, _ => rfl
  | k + 1, h => by
    unfold lastN
    rw [if_neg (h k (by omega)), lastN_none k fun j hj => h j (by omega)]

end Go.Proofs.YtafignheedbnbaaGreatDoor

/-
  api.Prims in memory; the walk of package prim's Number.
-/
namespace Go.Proofs.YtafignheedbnbaaGreatDoor
open Go.RowKit

def primV (r : List UInt8 × Int × Int) : List Value := [.string ⟨r.1.toArray⟩, .int .i64 r.2.1, .int .i64 r.2.2]
def primsV : List Value := primT.flatMap primV

set_option maxRecDepth 100000 in
theorem prims_any (w : World) :
    Calls Tryz.prog 57 #[] w fun e w' => e = .returned (.slice (some ⟨w.heap.size, 0, none⟩) 92 92) ∧ w' = w.alloc (.cells ⟨primsV⟩ 109) := by
  refine calls_of_wp Tryz.func57 rfl ?_
  refine wp_seq_k fun K hK => ?_
  refine wp_region_lit (wpList_runs 1 ⟨#[.slice none 0 0] ++ Array.replicate 93 undef, []⟩ w (by kernel_rfl) (wpList_nil ?_))
  refine hK _ _ ?_
  clear hK K
  refine wp_seq_k fun K hK => ?_
  refine wp_region_lit (wpList_runs 200 ⟨#[.slice (some ⟨w.heap.size, 0, none⟩) 92 92] ++ (primT.map fun r => Value.agg ⟨primV r⟩).toArray ++ #[.slice (some ⟨w.heap.size, 0, none⟩) 92 92], []⟩ (w.alloc (.cells ⟨primsV⟩ 109)) (by kernel_rfl) (wpList_nil ?_))
  refine hK _ _ (wp_ret ?_)
  exact bodyPost_ret (v := .slice (some ⟨w.heap.size, 0, none⟩) 92 92) (by simp [results, Tryz.results57, go_sem]) rfl ⟨rfl, rfl⟩


theorem lt_of_heap {w : World} {b : Nat} {o : Obj} (h : w.heap[b]? = some o) : b < w.heap.size := (Array.getElem?_eq_some_iff.1 h).1

theorem cell_row {w : World} {b : Nat} {l : List Value} {t : TypeId} {fr : Nat × Nat} (h : w.heap[b]? = some (.cells ⟨l⟩ t fr)) (o : Nat) : w.cell? ⟨b, o, none⟩ = l[o]? := by
  simp [World.cell?, h]

theorem prims_get (k : Nat) (r : List UInt8 × Int × Int) (h : primT[k]? = some r) : primsV[k * 3 + 1]? = some (.int .i64 r.2.1) ∧ primsV[k * 3 + 2]? = some (.int .i64 r.2.2) := by
  have gen : ∀ (l : List (List UInt8 × Int × Int)) (k : Nat) (r : List UInt8 × Int × Int), l[k]? = some r → (l.flatMap primV)[k * 3 + 1]? = some (.int .i64 r.2.1) ∧ (l.flatMap primV)[k * 3 + 2]? = some (.int .i64 r.2.2) := by
    intro l
    induction l with
    | nil => intro k r h; cases h
    | cons x l ih =>
      intro k r h
      rw [List.flatMap_cons]
      cases k with
      | zero =>
        simp only [List.getElem?_cons_zero, Option.some.injEq] at h
        subst h
        exact ⟨rfl, rfl⟩
      | succ k =>
        have hl : (primV x).length = 3 := rfl
        obtain ⟨h1, h2⟩ := ih k r h
        refine ⟨?_, ?_⟩
        · rw [List.getElem?_append_right (by omega), hl, show (k + 1) * 3 + 1 - 3 = k * 3 + 1 from by omega]; exact h1
        · rw [List.getElem?_append_right (by omega), hl, show (k + 1) * 3 + 2 - 3 = k * 3 + 2 from by omega]; exact h2
  exact gen primT k r h

theorem prims_get0 (k : Nat) (r : List UInt8 × Int × Int) (h : primT[k]? = some r) : primsV[k * 3]? = some (.string ⟨r.1.toArray⟩) := by
  have gen : ∀ (l : List (List UInt8 × Int × Int)) (k : Nat) (r : List UInt8 × Int × Int), l[k]? = some r → (l.flatMap primV)[k * 3]? = some (.string ⟨r.1.toArray⟩) := by
    intro l
    induction l with
    | nil => intro k r h; cases h
    | cons x l ih =>
      intro k r h
      rw [List.flatMap_cons]
      cases k with
      | zero =>
        simp only [List.getElem?_cons_zero, Option.some.injEq] at h
        subst h
        rfl
      | succ k =>
        have hl : (primV x).length = 3 := rfl
        rw [List.getElem?_append_right (by omega), hl, show (k + 1) * 3 - 3 = k * 3 from by omega]
        exact ih k r h
  exact gen primT k r h


theorem prim_row {w : World} {b : Nat} {ty : TypeId} (h : w.heap[b]? = some (.cells ⟨primsV⟩ ty (0, 0))) {k : Nat} (hk : k < 92) :
    w.cell? ⟨b, k * 3, none⟩ = some (.string (nm k)) ∧ w.cell? ⟨b, k * 3 + 1, none⟩ = some (.int .i64 (primT.getD k ([], 0, 0)).2.1) ∧ w.cell? ⟨b, k * 3 + 2, none⟩ = some (.int .i64 (primT.getD k ([], 0, 0)).2.2) := by
  have hl : primT.length = 92 := by decide +kernel
  have e : primT[k]? = some (primT.getD k ([], 0, 0)) := by rw [List.getD_eq_getElem?_getD, List.getElem?_eq_getElem (by omega)]; rfl
  obtain ⟨h1, h2⟩ := prims_get k _ e
  have h0 := prims_get0 k _ e
  rw [cell_row h, cell_row h, cell_row h]
  exact ⟨h0, h1, h2⟩

theorem str_ne {x s : ByteArray} (h : ¬ x = s) : (x.toList == s.toList) = false := by
  rw [ByteArray.toList_eq, ByteArray.toList_eq, beq_eq_false_iff_ne]
  intro e
  apply h
  cases x; cases s
  congr 1
  exact Array.toList_inj.1 e

theorem genP {P : Program} {c : Code} {Q : Exit → Act → World → Prop} {a : Act} {w0 : World} (F : World → Prop) (h : F w0) (k : ∀ W, F W → Code.wp P c Q a W) : Code.wp P c Q a w0 := k _ h

/-- The table of primitives stands in block b. -/
def TabP (w : World) (b : Nat) : Prop := w.heap[b]? = some (.cells ⟨primsV⟩ 109 (0, 0))
theorem TabP.below {w w' : World} {b : Nat} (h : TabP w b) (hb : Below w.heap.size w w') : TabP w' b := (hb.block b (lt_of_heap h)).trans h

set_option maxRecDepth 100000 in
set_option maxHeartbeats 1000000 in
theorem number_any (s : ByteArray) (w : World) : Calls Tryz.prog 21 #[.string s] w fun e w' => e = .returned (.int .i64 (lastN s 92)) ∧ Below w.heap.size w w' := by
  go_enter Tryz.func21, Tryz.ntmps21
  go_wp2_with (go_at_call 57; refine (prims_any _).mono ?_; rintro e w1 ⟨rfl, rfl⟩)
  refine genP (fun U => TabP U w.heap.size ∧ Below w.heap.size w U) ⟨Deep.blk_alloc_new _ _, (Below.refl _ _).alloc (Nat.le_refl _) _⟩ ?_
  intro U hU
  obtain ⟨hT, hW⟩ := hU
  obtain ⟨b, hb⟩ : ∃ b, w.heap.size = b := ⟨_, rfl⟩
  rw [hb] at hT ⊢
  have HT := hide hT
  have HW := hide hW
  clear hT hW
  go_loopw [7] (fun c wr => ∃ k : Nat, k ≤ 92 ∧ c = .int .i64 k ∧ (∀ j, j < k → nm j ≠ s) ∧ Below U.heap.size U wr) (fun c _ => 92 - (intOf c).toNat)
  case atStart => exact ⟨0, Nat.zero_le _, rfl, fun j hj => by omega, Below.refl _ _⟩
  case round =>
    obtain ⟨k, hk, rfl, hno, hbw⟩ := hrel
    by_cases hlt : k < 92
    · obtain ⟨e0, e1, e2⟩ := prim_row (HT.out.below hbw) hlt
      have hlt' : (k : Int) < 92 := by omega
      have hk0 : (0 : Int) ≤ k := by omega
      have HN := hide (And.intro hno hbw)
      generalize (primT.getD k ([], 0, 0)).2.1 = l1 at *
      generalize (primT.getD k ([], 0, 0)).2.2 = l2 at *
      clear hno hbw
      by_cases hs : nm k = s
      · subst hs
        have HL := hide (lastN_at hlt rfl 92 (Nat.le_refl _))
        have hq : ((nm k).toList == (nm k).toList) = true := by simp
        go_wp2_with fail
        go_ret
        refine ⟨ret_int ?_, ?_⟩
        · rw [HL.out, if_pos hlt]
        · have e := HN.out.2
          have e2 := e.alloc (B := U.heap.size) e.size (.cells #[.string (nm k), .int .i64 l1, .int .i64 l2] 109)
          exact HW.out.trans (e2.mono HW.out.size)
      · have hne := str_ne hs
        have HS := hide hs
        generalize hx : nm k = x at *
        go_wp2_with fail
        refine ⟨⟨k + 1, by omega, by go_num, fun j hj => ?_, HN.out.2.alloc HN.out.2.size _⟩, by simp [intOf]; omega⟩
        by_cases e : j = k
        · subst e; rw [hx]; exact HS.out
        · exact HN.out.1 j (by omega)
    · obtain rfl : k = 92 := by omega
      have HN := hide (And.intro hno hbw)
      clear hno hbw
      go_wp2_with fail
      go_ret
      exact ⟨ret_int (lastN_none 92 HN.out.1).symm, HW.out.trans (HN.out.2.mono HW.out.size)⟩

def least (k : Nat) : Int := (primT.getD k ([], 0, 0)).2.1
def most (k : Nat) : Int := (primT.getD k ([], 0, 0)).2.2

end Go.Proofs.YtafignheedbnbaaGreatDoor
