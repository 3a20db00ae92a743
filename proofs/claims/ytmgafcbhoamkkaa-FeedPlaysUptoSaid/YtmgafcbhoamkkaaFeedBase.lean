/-
  The table of package feed in memory: a map from places (two ints) to pointers; what a look-up and a store of a new key do.
-/
import Derived.Test.YtmgafcbhoamkkaaLib
import Derived.DeepKeys4
import Derived.Maps.Keyed
namespace Go.Proofs.Ytmgafcbhoamkkaa
open Go.RowKit Go.ChangeMaps
open Go.Maps (Keyed)

theorem laidOutP : laidOutB Try.prog = true := by kernel_rfl
theorem keyed58 : Keyed Try.prog 58 := Keyed.of_law (deep_law_laid laidOutP (m := 2) (by omega) (of_decide_eq_true (by kernel_rfl)) (by kernel_rfl) (by kernel_rfl))
theorem cells58 : Try.prog.cellsOf 58 = 2 := by kernel_rfl
theorem cells3 : Try.prog.cellsOf 3 = 1 := by kernel_rfl
theorem keyType58 : Try.prog.keyType 58 = true := by kernel_rfl

/-- A number that an int can be. -/
def fits (n : Int) : Prop := (Lit.int .i64 n).wf = true

def keyV (p c : Int) : Value := .agg #[.int .i64 p, .int .i64 c]

theorem keyLits58 (d : Nat) {p c : Int} (hp : fits p) (hc : fits c) : Try.prog.keyLits (d + 2) 58 [.int .i64 p, .int .i64 c] = some [.int .i64 p, .int .i64 c] := by
  unfold fits at hp hc
  simp [Program.keyLits, Try.underlying58, cells58, Try.underlying3, cells3, hp, hc]

theorem key_read {p c : Int} (hp : fits p) (hc : fits c) : ∃ l, keyOf Try.prog 58 (keyV p c) = some l := by
  refine ⟨.string (keyBytes [.int .i64 p, .int .i64 c]), ?_⟩
  simp [keyOf, keyV, Try.underlying58, keyType58, Value.formed, cells58, Value.cells]
  exact ⟨_, keyLits58 _ hp hc, rfl⟩

/-- A place of the table: its key, and the block where it is kept. -/
structure Plc where
  p : Int
  c : Int
  blk : Nat

def Plc.key (q : Plc) : Value := keyV q.p q.c
def Plc.val (q : Plc) : Value := .pointer (some ⟨q.blk, 0, none⟩)

/-- The map's entries are these places. -/
def Holds (es : Array MapEntry) (L : List Plc) : Prop := es.toList.map (fun e => (e.key, e.val)) = L.map fun q => (q.key, q.val)

def hasKey (p c : Int) (q : Plc) : Bool := q.p == p && q.c == c
def blkOf (L : List Plc) (p c : Int) : Option Nat := (L.find? (hasKey p c)).map (·.blk)
def ptrOf : Option Nat → Value
  | none => .pointer none
  | some b => .pointer (some ⟨b, 0, none⟩)

def apartKeys (L : List Plc) : Prop := L.Pairwise fun q r => hasKey q.p q.c r = false

theorem keyV_inj {p c p' c' : Int} (h : keyV p c = keyV p' c') : p = p' ∧ c = c' := by simpa [keyV] using h

theorem hasKey_iff {p c : Int} {q : Plc} : hasKey p c q = true ↔ q.p = p ∧ q.c = c := by simp [hasKey]

theorem holds_mem {es : Array MapEntry} {L : List Plc} (h : Holds es L) {e : MapEntry} (he : e ∈ es.toList) : ∃ q ∈ L, e.key = q.key ∧ e.val = q.val := by
  have : (e.key, e.val) ∈ L.map fun q => (q.key, q.val) := by rw [← h]; exact List.mem_map.2 ⟨e, he, rfl⟩
  obtain ⟨q, hq, hqe⟩ := List.mem_map.1 this
  simp only [Prod.mk.injEq] at hqe
  exact ⟨q, hq, hqe.1.symm, hqe.2.symm⟩

theorem holds_keys {es : Array MapEntry} {L : List Plc} (h : Holds es L) (hf : ∀ q ∈ L, fits q.p ∧ fits q.c) : ∀ e ∈ es.toList, ∃ l, keyOf Try.prog 58 e.key = some l := by
  intro e he
  obtain ⟨q, hq, hk, _⟩ := holds_mem h he
  rw [hk]
  exact key_read (hf q hq).1 (hf q hq).2

theorem find_unique {L : List Plc} (ha : apartKeys L) {p c : Int} {q : Plc} (hq : q ∈ L) (hk : hasKey p c q = true) : L.find? (hasKey p c) = some q := by
  induction L with
  | nil => cases hq
  | cons r L ih =>
    obtain ⟨h1, h2⟩ := List.pairwise_cons.1 ha
    rcases List.mem_cons.1 hq with rfl | hq
    · simp [hk]
    · have : hasKey p c r = false := by
        have h3 := h1 q hq
        rw [hasKey_iff] at hk
        cases hr : hasKey p c r
        · rfl
        · rw [hasKey_iff] at hr
          rw [show hasKey r.p r.c q = true from by rw [hasKey_iff]; omega] at h3
          cases h3
      rw [List.find?_cons, this]
      exact ih h2 hq

/-- 't.places[k]'. -/
theorem run_look {es : Array MapEntry} {L : List Plc} {clock mb : Nat} (hL : Holds es L) (ha : apartKeys L) (hf : ∀ q ∈ L, fits q.p ∧ fits q.c) {p c : Int} (hp : fits p) (hc : fits c) (w : World) (hb : w.heap[mb]? = some (.map es clock)) :
    (Instr.lookup 50 (.map (some mb)) (keyV p c) false).run Try.prog w = .ok (ptrOf (blkOf L p c)) w := by
  obtain ⟨l, hl⟩ := key_read hp hc
  rcases keyed58.find w hl es.toList (holds_keys hL hf) with ⟨h1, h2⟩ | ⟨j, e0, h1, h2, h3⟩
  · have : L.find? (hasKey p c) = none := by
      rw [List.find?_eq_none]
      intro q hq hk
      have : (q.key, q.val) ∈ es.toList.map (fun e => (e.key, e.val)) := by rw [hL]; exact List.mem_map.2 ⟨q, hq, rfl⟩
      obtain ⟨e, he, hee⟩ := List.mem_map.1 this
      simp only [Prod.mk.injEq] at hee
      rw [hasKey_iff] at hk
      exact h2 e he (by rw [hee.1]; simp [Plc.key, hk.1, hk.2])
    simp [Instr.lookup, run_underlying Try.underlying50, MapKept.run_getObj_map hb, keyed58.check w _ hl, h1, Result.andThen, blkOf, this, ptrOf]
  · obtain ⟨q, hq, hk, hv⟩ := holds_mem hL (List.mem_of_getElem? h2)
    have hq' : hasKey p c q = true := by
      rw [hk] at h3
      rw [hasKey_iff]
      exact keyV_inj h3
    simp [Instr.lookup, run_underlying Try.underlying50, MapKept.run_getObj_map hb, keyed58.check w _ hl, h1, Result.andThen, blkOf, find_unique ha hq hq', ptrOf, hv, Plc.val]

/-- 't.places[k] = p' where there is none. -/
theorem run_store {es : Array MapEntry} {L : List Plc} {clock mb : Nat} (hL : Holds es L) (hf : ∀ q ∈ L, fits q.p ∧ fits q.c) {p c : Int} (hp : fits p) (hc : fits c) (hno : blkOf L p c = none) (b : Nat) (w : World) (hb : w.heap[mb]? = some (.map es clock)) :
    (Instr.mapUpdate 50 (.map (some mb)) (keyV p c) (.pointer (some ⟨b, 0, none⟩))).run Try.prog w = .ok () (setBlock w mb (.map (es.push ⟨keyV p c, .pointer (some ⟨b, 0, none⟩), clock⟩) (clock + 1))) := by
  obtain ⟨l, hl⟩ := key_read hp hc
  rcases keyed58.find w hl es.toList (holds_keys hL hf) with ⟨h1, h2⟩ | ⟨j, e0, h1, h2, h3⟩
  · simp [Instr.mapUpdate, run_underlying Try.underlying50, MapKept.run_getObj_map hb, keyed58.check w false hl, h1, MapKept.run_setObj_map _ hb, Result.andThen, setBlock]
  · exfalso
    obtain ⟨q, hq, hk, hv⟩ := holds_mem hL (List.mem_of_getElem? h2)
    have hq' : hasKey p c q = true := by
      rw [hk] at h3
      rw [hasKey_iff]
      exact keyV_inj h3
    simp only [blkOf, Option.map_eq_none_iff, List.find?_eq_none] at hno
    exact hno q hq hq'

theorem holds_push {es : Array MapEntry} {L : List Plc} (hL : Holds es L) (p c : Int) (b clock : Nat) : Holds (es.push ⟨keyV p c, .pointer (some ⟨b, 0, none⟩), clock⟩) (L ++ [⟨p, c, b⟩]) := by
  unfold Holds at *
  simp [hL, Plc.key, Plc.val]

end Go.Proofs.Ytmgafcbhoamkkaa
