/-
  The walks of feed.New and of the table's methods place, See, At: what they do to the table's memory.
-/
import Derived.Test.YtmgafcbhoamkkaaFeedJoin
import Derived.Deep.RegionHeld3
namespace Go.Proofs.Ytmgafcbhoamkkaa
open Go.RowKit Go.ChangeMaps

/-- A place of the table: its key, the block where it is kept, and what is kept there. -/
structure Pl where
  p : Int
  c : Int
  blk : Nat
  m : Int
  k : Int
  t : Int

def Pl.plc (q : Pl) : Plc := ⟨q.p, q.c, q.blk⟩
def Pl.obj (q : Pl) : Obj := .cells #[.int .i64 q.p, .int .i64 q.c, .int .i64 q.m, .int .i64 q.k, .int .i64 q.t] 56 (0, 0)

/-- The entries' births: each once, ahead of the clock. -/
def Births (es : Array MapEntry) (clock : Nat) : Prop := (∀ x ∈ es.toList, x.born < clock) ∧ (es.toList.map (·.born)).Nodup

theorem Births.push {es : Array MapEntry} {clock : Nat} (h : Births es clock) (k v : Value) : Births (es.push ⟨k, v, clock⟩) (clock + 1) := by
  refine ⟨fun x hx => ?_, ?_⟩
  · simp only [Array.toList_push, List.mem_append, List.mem_singleton] at hx
    rcases hx with hx | rfl
    · have := h.1 x hx; omega
    · exact Nat.lt_succ_self _
  · rw [Array.toList_push, List.map_append, List.nodup_append]
    refine ⟨h.2, by simp, fun a ha b hb => ?_⟩
    obtain ⟨x, hx, rfl⟩ := List.mem_map.1 ha
    simp at hb
    subst hb
    have := h.1 x hx
    omega

/-- The table at block tb, its map at block mb, holds the places L. -/
structure TabAt (w : World) (tb mb : Nat) (L : List Pl) : Prop where
  tab : w.heap[tb]? = some (.cells #[.map (some mb)] 52 (0, 0))
  map : ∃ es clock, w.heap[mb]? = some (.map es clock) ∧ Holds es (L.map Pl.plc)
  cells : ∀ q ∈ L, w.heap[q.blk]? = some q.obj
  keys : apartKeys (L.map Pl.plc)
  fit : ∀ q ∈ L, fits q.p ∧ fits q.c
  blks : (L.map Pl.blk).Nodup
  born : ∀ es clock, w.heap[mb]? = some (.map es clock) → Births es clock

def nameKey (p c : Int) (q : Pl) : Bool := q.p == p && q.c == c

theorem blkOf_map (L : List Pl) (p c : Int) : blkOf (L.map Pl.plc) p c = (L.find? (nameKey p c)).map Pl.blk := by
  unfold blkOf
  rw [List.find?_map, show (hasKey p c ∘ Pl.plc) = nameKey p c from rfl, Option.map_map]
  rfl

theorem TabAt.fit' {w : World} {tb mb : Nat} {L : List Pl} (h : TabAt w tb mb L) : ∀ q ∈ L.map Pl.plc, fits q.p ∧ fits q.c := by
  intro q hq
  obtain ⟨r, hr, rfl⟩ := List.mem_map.1 hq
  exact h.fit r hr

theorem TabAt.look {w : World} {tb mb : Nat} {L : List Pl} (h : TabAt w tb mb L) {p c : Int} (hp : fits p) (hc : fits c) (w' : World) (hw : w'.heap[mb]? = w.heap[mb]?) :
    (Instr.lookup 50 (.map (some mb)) (.agg #[.int .i64 p, .int .i64 c]) false).run Try.prog w' = .ok (ptrOf ((L.find? (nameKey p c)).map Pl.blk)) w' := by
  obtain ⟨es, clock, hb, hL⟩ := h.map
  rw [← blkOf_map]
  exact run_look hL h.keys h.fit' hp hc w' (hw.trans hb)

/-- Other memory may turn. -/
theorem TabAt.kept {w w' : World} {tb mb : Nat} {L : List Pl} (h : TabAt w tb mb L) (h1 : w'.heap[tb]? = w.heap[tb]?) (h2 : w'.heap[mb]? = w.heap[mb]?) (h3 : ∀ q ∈ L, w'.heap[q.blk]? = w.heap[q.blk]?) : TabAt w' tb mb L := by
  obtain ⟨es, clock, hb, hL⟩ := h.map
  exact ⟨h1.trans h.tab, ⟨es, clock, h2.trans hb, hL⟩, fun q hq => (h3 q hq).trans (h.cells q hq), h.keys, h.fit, h.blks, fun es' clock' hb' => h.born es' clock' (h2.symm.trans hb')⟩

theorem TabAt.drewN {w : World} {tb mb : Nat} {L : List Pl} (h : TabAt w tb mb L) (n : Nat) : TabAt (w.drewN n) tb mb L := h.kept rfl rfl fun _ _ => rfl
theorem grown_drewN {w w' : World} {row : Option Nat} (h : w.grownBy w' row) (n : Nat) : w.grownBy (w'.drewN n) row := ⟨h.os, h.tape, h.output, h.size, h.block⟩

theorem lt_of_heap {w : World} {b : Nat} {o : Obj} (h : w.heap[b]? = some o) : b < w.heap.size := (Array.getElem?_eq_some_iff.1 h).1

theorem TabAt.below {w w' : World} {tb mb : Nat} {L : List Pl} (h : TabAt w tb mb L) (hb : Below w.heap.size w w') : TabAt w' tb mb L := by
  obtain ⟨es, clock, hmb, hL⟩ := h.map
  exact h.kept (hb.block _ (lt_of_heap h.tab)) (hb.block _ (lt_of_heap hmb)) (fun q hq => hb.block _ (lt_of_heap (h.cells q hq)))

set_option maxHeartbeats 1000000 in
theorem place_found (tb mb : Nat) (L : List Pl) (p c : Int) (q : Pl) (hp : fits p) (hc : fits c) (w : World) (h : TabAt w tb mb L) (hq : L.find? (nameKey p c) = some q) :
    Calls Try.prog 25 #[.pointer (some ⟨tb, 0, none⟩), .int .i64 p, .int .i64 c] w fun e w' => e = .returned (.pointer (some ⟨q.blk, 0, none⟩)) ∧ Below w.heap.size w w' := by
  have htb := lt_of_heap h.tab
  have c0 : w.cell? ⟨tb, 0, none⟩ = some (.map (some mb)) := by simp [World.cell?, h.tab]
  have hmb : mb < w.heap.size := by obtain ⟨es, clock, hb, _⟩ := h.map; exact lt_of_heap hb
  have hl : ∀ n, (Instr.lookup 50 (.map (some mb)) (.agg #[.int .i64 p, .int .i64 c]) false).run Try.prog ((w.alloc (.cells #[.int .i64 p, .int .i64 c] 58)).drewN n) = .ok (.pointer (some ⟨q.blk, 0, none⟩)) ((w.alloc (.cells #[.int .i64 p, .int .i64 c] 58)).drewN n) := fun n => by
    have := h.look hp hc ((w.alloc (.cells #[.int .i64 p, .int .i64 c] 58)).drewN n) (by show (w.alloc _).heap[mb]? = _; exact Below.heap_alloc _ _ _ hmb)
    rw [hq] at this
    exact this
  clear h hq
  go_enter Try.func25, Try.ntmps25
  go_wp2
  go_quiet (fail)
  go_wp2
  go_quiet (fail)
  go_wp2
  go_ret
  exact ⟨rfl, by repeat (first | exact Below.refl _ _ | apply Below.drew | apply below_drewN | refine Below.alloc ?_ (by simp <;> omega) _)⟩

/-- A store into a map's block turns nothing else. -/
theorem heap_setBlock (w : World) (mb : Nat) (o : Obj) (i : Nat) : (setBlock w mb o).heap[i]? = if i = mb ∧ i < w.heap.size then some o else w.heap[i]? := by
  simp only [setBlock, Array.getElem?_setIfInBounds]
  by_cases h : mb = i
  · subst h
    by_cases h2 : mb < w.heap.size
    · simp [h2]
    · simp [h2]
  · rw [if_neg h, if_neg (by omega)]

/-- The world behind 't.places[k] = &place{Feed: first(..)}'. -/
def placed (w : World) (mb : Nat) (es : Array MapEntry) (clock : Nat) (p c : Int) (n : Nat) : World :=
  setBlock ((((w.alloc (.cells #[.int .i64 p, .int .i64 c] 58)).drewN n).alloc (.cells #[.int .i64 p, .int .i64 c, .int .i64 0, .int .i64 (-1)] 23)).alloc (.cells #[.int .i64 p, .int .i64 c, .int .i64 0, .int .i64 (-1), .int .i64 0] 56))
    mb (.map (es.push ⟨keyV p c, .pointer (some ⟨w.heap.size + 2, 0, none⟩), clock⟩) (clock + 1))

theorem heap_alloc (w : World) (o : Obj) (i : Nat) : (w.alloc o).heap[i]? = if i = w.heap.size then some o else w.heap[i]? := by
  show (w.heap.push o)[i]? = _
  rw [Array.getElem?_push]

theorem placed_heap (w : World) (mb : Nat) (es : Array MapEntry) (clock : Nat) (p c : Int) (n : Nat) (hmb : mb < w.heap.size) (i : Nat) :
    (placed w mb es clock p c n).heap[i]? = if i = mb then some (.map (es.push ⟨keyV p c, .pointer (some ⟨w.heap.size + 2, 0, none⟩), clock⟩) (clock + 1))
      else if i = w.heap.size then some (.cells #[.int .i64 p, .int .i64 c] 58)
      else if i = w.heap.size + 1 then some (.cells #[.int .i64 p, .int .i64 c, .int .i64 0, .int .i64 (-1)] 23)
      else if i = w.heap.size + 2 then some (.cells #[.int .i64 p, .int .i64 c, .int .i64 0, .int .i64 (-1), .int .i64 0] 56)
      else w.heap[i]? := by
  unfold placed
  rw [heap_setBlock]
  have hs : ((w.alloc (.cells #[.int .i64 p, .int .i64 c] 58)).drewN n).heap = (w.alloc (.cells #[.int .i64 p, .int .i64 c] 58)).heap := rfl
  by_cases h : i = mb
  · subst h
    rw [if_pos ⟨rfl, by simp; omega⟩, if_pos rfl]
  · rw [if_neg (by omega), if_neg h, heap_alloc, heap_alloc, hs, heap_alloc]
    simp
    by_cases h1 : i = w.heap.size
    · subst h1; simp; omega
    by_cases h2 : i = w.heap.size + 1
    · subst h2; simp
    by_cases h3 : i = w.heap.size + 2
    · subst h3; simp
    simp [h1, h2, h3]

theorem placed_grown (w : World) (mb : Nat) (es : Array MapEntry) (clock : Nat) (p c : Int) (n : Nat) (hmb : mb < w.heap.size) : w.grownBy (placed w mb es clock p c n) (some mb) := by
  refine ⟨rfl, rfl, rfl, by simp [placed, setBlock]; omega, fun i hi hne => ?_⟩
  rw [placed_heap _ _ _ _ _ _ _ hmb, if_neg (fun e => hne (by rw [e])), if_neg (by omega), if_neg (by omega), if_neg (by omega)]

theorem nodup_snoc {L : List Pl} {q : Pl} (h : (L.map Pl.blk).Nodup) (hq : ∀ r ∈ L, r.blk ≠ q.blk) : ((L ++ [q]).map Pl.blk).Nodup := by
  rw [List.map_append, List.nodup_append]
  refine ⟨h, by simp, ?_⟩
  intro a ha b hb
  obtain ⟨r, hr, rfl⟩ := List.mem_map.1 ha
  simp at hb
  subst hb
  exact hq r hr

/-- The table behind the store of a new place. -/
theorem placed_tab {w : World} {tb mb : Nat} {L : List Pl} (h : TabAt w tb mb L) {es : Array MapEntry} {clock : Nat} (hb : w.heap[mb]? = some (.map es clock)) (hL : Holds es (L.map Pl.plc)) {p c : Int} (hp : fits p) (hc : fits c)
    (hq : L.find? (nameKey p c) = none) (n : Nat) : TabAt (placed w mb es clock p c n) tb mb (L ++ [⟨p, c, w.heap.size + 2, 0, -1, 0⟩]) := by
  have hmb := lt_of_heap hb
  have htb := lt_of_heap h.tab
  have hne : tb ≠ mb := fun e => by have := h.tab; rw [e, hb] at this; cases this
  refine ⟨?_, ⟨es.push ⟨keyV p c, .pointer (some ⟨w.heap.size + 2, 0, none⟩), clock⟩, clock + 1, ?_, ?_⟩, ?_, ?_, ?_, ?_, ?_⟩
  · rw [placed_heap _ _ _ _ _ _ _ hmb, if_neg hne, if_neg (by omega), if_neg (by omega), if_neg (by omega)]; exact h.tab
  · rw [placed_heap _ _ _ _ _ _ _ hmb, if_pos rfl]
  · rw [List.map_append]; exact holds_push hL p c _ _
  · intro q hq'
    rcases List.mem_append.1 hq' with hq' | hq'
    · have hlt := lt_of_heap (h.cells q hq')
      have hne' : q.blk ≠ mb := fun e => by have := h.cells q hq'; rw [e, hb] at this; cases this
      rw [placed_heap _ _ _ _ _ _ _ hmb, if_neg hne', if_neg (by omega), if_neg (by omega), if_neg (by omega)]; exact h.cells q hq'
    · simp at hq'
      subst hq'
      rw [placed_heap _ _ _ _ _ _ _ hmb, if_neg (by simp; omega), if_neg (by simp), if_neg (by simp), if_pos rfl]
      rfl
  · rw [List.map_append]
    refine List.pairwise_append.2 ⟨h.keys, by simp, fun a ha b hb' => ?_⟩
    obtain ⟨r, hr, rfl⟩ := List.mem_map.1 ha
    simp at hb'
    subst hb'
    have h1 := List.find?_eq_none.1 hq r hr
    cases h2 : hasKey r.plc.p r.plc.c (Pl.plc ⟨p, c, w.heap.size + 2, 0, -1, 0⟩)
    · rfl
    · rw [hasKey_iff] at h2
      exact absurd (by simp only [nameKey, Bool.and_eq_true, beq_iff_eq]; exact ⟨h2.1.symm, h2.2.symm⟩) h1
  · intro q hq'
    rcases List.mem_append.1 hq' with hq' | hq'
    · exact h.fit q hq'
    · simp at hq'; subst hq'; exact ⟨hp, hc⟩
  · refine nodup_snoc h.blks fun r hr => ?_
    have := lt_of_heap (h.cells r hr)
    show r.blk ≠ w.heap.size + 2
    omega
  · intro es' clock' hb'
    rw [placed_heap _ _ _ _ _ _ _ hmb, if_pos rfl] at hb'
    cases hb'
    exact (h.born es clock hb).push _ _

theorem find_snoc {L : List Pl} {p c : Int} {q : Pl} (h : L.find? (nameKey p c) = none) (hq : nameKey p c q = true) : (L ++ [q]).find? (nameKey p c) = some q := by
  rw [List.find?_append, h]; simp [hq]

/-- What 'place' leaves where there was none. -/
def NewPlace (w : World) (tb mb : Nat) (L : List Pl) (p c : Int) (e : Ending) (w' : World) : Prop :=
  e = .returned (.pointer (some ⟨w.heap.size + 2, 0, none⟩)) ∧ TabAt w' tb mb (L ++ [⟨p, c, w.heap.size + 2, 0, -1, 0⟩]) ∧ w.grownBy w' (some mb)

set_option maxHeartbeats 1000000 in
theorem place_new (tb mb : Nat) (L : List Pl) (p c : Int) (hp : fits p) (hc : fits c) (w : World) (h : TabAt w tb mb L) (hq : L.find? (nameKey p c) = none) :
    Calls Try.prog 25 #[.pointer (some ⟨tb, 0, none⟩), .int .i64 p, .int .i64 c] w (NewPlace w tb mb L p c) := by
  have htb := lt_of_heap h.tab
  have c0 : w.cell? ⟨tb, 0, none⟩ = some (.map (some mb)) := by simp [World.cell?, h.tab]
  obtain ⟨es, clock, hb, hL⟩ := h.map
  have hmb := lt_of_heap hb
  have hne : tb ≠ mb := fun e => by have := h.tab; rw [e, hb] at this; cases this
  have hl : ∀ n, (Instr.lookup 50 (.map (some mb)) (.agg #[.int .i64 p, .int .i64 c]) false).run Try.prog ((w.alloc (.cells #[.int .i64 p, .int .i64 c] 58)).drewN n) = .ok (.pointer none) ((w.alloc (.cells #[.int .i64 p, .int .i64 c] 58)).drewN n) := fun n => by
    have := h.look hp hc ((w.alloc (.cells #[.int .i64 p, .int .i64 c] 58)).drewN n) (by show (w.alloc _).heap[mb]? = _; exact Below.heap_alloc _ _ _ hmb)
    rw [hq] at this
    exact this
  have hst : ∀ n, (Instr.mapUpdate 50 (.map (some mb)) (.agg #[.int .i64 p, .int .i64 c]) (.pointer (some ⟨w.heap.size + 1 + 1, 0, none⟩))).run Try.prog
      ((((w.alloc (.cells #[.int .i64 p, .int .i64 c] 58)).drewN n).alloc (.cells #[.int .i64 p, .int .i64 c, .int .i64 0, .int .i64 (-1)] 23)).alloc (.cells #[.int .i64 p, .int .i64 c, .int .i64 0, .int .i64 (-1), .int .i64 0] 56)) = .ok () (placed w mb es clock p c n) := fun n =>
    run_store hL h.fit' hp hc (by rw [blkOf_map, hq]; rfl) (w.heap.size + 1 + 1) _ (by
      have hs : ((w.alloc (.cells #[.int .i64 p, .int .i64 c] 58)).drewN n).heap = (w.alloc (.cells #[.int .i64 p, .int .i64 c] 58)).heap := rfl
      rw [heap_alloc, heap_alloc, hs, heap_alloc, if_neg (by simp; omega), if_neg (by simp; omega), if_neg (by omega)]; exact hb)
  have ht : ∀ n, TabAt (placed w mb es clock p c n) tb mb (L ++ [⟨p, c, w.heap.size + 2, 0, -1, 0⟩]) := fun n => placed_tab h hb hL hp hc hq n
  have hg : ∀ n, w.grownBy (placed w mb es clock p c n) (some mb) := fun n => placed_grown w mb es clock p c n hmb
  have p0 : ∀ n, (placed w mb es clock p c n).cell? ⟨tb, 0, none⟩ = some (.map (some mb)) := fun n => by simp [World.cell?, (ht n).tab]
  have p1 : ∀ n, (placed w mb es clock p c n).cell? ⟨w.heap.size, 0, none⟩ = some (.int .i64 p) := fun n => by
    simp only [World.cell?, placed_heap _ _ _ _ _ _ _ hmb]; rw [if_neg (by omega), if_pos trivial]; rfl
  have p2 : ∀ n, (placed w mb es clock p c n).cell? ⟨w.heap.size, 1, none⟩ = some (.int .i64 c) := fun n => by
    simp only [World.cell?, placed_heap _ _ _ _ _ _ _ hmb]; rw [if_neg (by omega), if_pos trivial]; rfl
  have hl2 : ∀ n m, (Instr.lookup 50 (.map (some mb)) (.agg #[.int .i64 p, .int .i64 c]) false).run Try.prog ((placed w mb es clock p c n).drewN m) = .ok (.pointer (some ⟨w.heap.size + 2, 0, none⟩)) ((placed w mb es clock p c n).drewN m) := fun n m => by
    have := (ht n).look hp hc ((placed w mb es clock p c n).drewN m) rfl
    rw [find_snoc hq (by simp [nameKey])] at this
    exact this
  have HT : Hid (∀ n, TabAt (placed w mb es clock p c n) tb mb (L ++ [⟨p, c, w.heap.size + 2, 0, -1, 0⟩])) := ht
  have HG : Hid (∀ n, w.grownBy (placed w mb es clock p c n) (some mb)) := hg
  clear ht hg h hq hb hL
  generalize placed w mb es clock p c = st at *
  go_enter Try.func25, Try.ntmps25
  go_wp2
  go_quiet (fail)
  clear hl
  go_wp2
  go_region_held3 (fun w' => w'.cell? ⟨tb, 0, none⟩ = some (.map (some mb)) ∧ w'.cell? ⟨w.heap.size, 0, none⟩ = some (.int .i64 p) ∧ w'.cell? ⟨w.heap.size, 1, none⟩ = some (.int .i64 c)) (go_keep)
    (first | (go_at_call 26; refine (first_any _ _ _).mono ?_; rintro e w' ⟨rfl, rfl⟩))
  go_wp2
  go_quiet (fail)
  go_wp2
  go_ret
  exact ⟨rfl, (HT.out _).drewN _, grown_drewN (HG.out _) _⟩

/-- A table just made. -/
def NewTab (w : World) (e : Ending) (w' : World) : Prop :=
  e = .returned (.pointer (some ⟨w.heap.size + 1, 0, none⟩)) ∧ TabAt w' (w.heap.size + 1) w.heap.size [] ∧ Below w.heap.size w w'

theorem new_any (w : World) : Calls Try.prog 10 #[] w (NewTab w) := by
  have hmm := @run_makeMap Try.prog
  go_enter Try.func10, Try.ntmps10
  go_wp2
  go_ret
  refine ⟨rfl, ⟨?_, ⟨#[], 0, ?_, rfl⟩, (fun q hq => by cases hq), List.Pairwise.nil, (fun q hq => by cases hq), List.nodup_nil, fun es' clock' hb' => ?_⟩, ((Below.refl _ _).alloc (Nat.le_refl _) _).alloc (by simp) _⟩
  · rw [heap_alloc]; simp
  · rw [heap_alloc, heap_alloc]; simp
  · rw [heap_alloc, heap_alloc] at hb'
    simp at hb'
    obtain ⟨rfl, rfl⟩ := hb'
    exact ⟨fun x hx => by simp at hx, by simp⟩

set_option maxHeartbeats 1000000 in
theorem at_none (tb mb : Nat) (L : List Pl) (p c : Int) (hp : fits p) (hc : fits c) (w : World) (h : TabAt w tb mb L) (hq : L.find? (nameKey p c) = none) :
    Calls Try.prog 12 #[.pointer (some ⟨tb, 0, none⟩), .int .i64 p, .int .i64 c] w fun e w' => e = .returned (.agg #[.int .i64 p, .int .i64 c, .int .i64 0, .int .i64 (-1)]) ∧ Below w.heap.size w w' := by
  have htb := lt_of_heap h.tab
  have c0 : w.cell? ⟨tb, 0, none⟩ = some (.map (some mb)) := by simp [World.cell?, h.tab]
  have hmb : mb < w.heap.size := by obtain ⟨es, clock, hb, _⟩ := h.map; exact lt_of_heap hb
  have hl : (Instr.lookup 50 (.map (some mb)) (.agg #[.int .i64 p, .int .i64 c]) false).run Try.prog (w.alloc (.cells #[.int .i64 0, .int .i64 0, .int .i64 0, .int .i64 0] 23)) = .ok (.pointer none) (w.alloc (.cells #[.int .i64 0, .int .i64 0, .int .i64 0, .int .i64 0] 23)) := by
    have := h.look hp hc (w.alloc (.cells #[.int .i64 0, .int .i64 0, .int .i64 0, .int .i64 0] 23)) (Below.heap_alloc _ _ _ hmb)
    rw [hq] at this
    exact this
  clear h hq
  go_enter Try.func12, Try.ntmps12
  go_wp2_with (go_at_call 26; refine (first_any _ _ _).mono ?_; rintro e w' ⟨rfl, rfl⟩)
  exact bodyPost_ret (v := .agg #[.int .i64 p, .int .i64 c, .int .i64 0, .int .i64 (-1)]) (by simp [results, Try.results12, go_sem]) rfl
    ⟨rfl, ((Below.refl _ _).alloc (Nat.le_refl _) _).alloc (by simp) _⟩

set_option maxHeartbeats 1000000 in
theorem at_some (tb mb : Nat) (L : List Pl) (p c : Int) (q : Pl) (hp : fits p) (hc : fits c) (w : World) (h : TabAt w tb mb L) (hq : L.find? (nameKey p c) = some q) :
    Calls Try.prog 12 #[.pointer (some ⟨tb, 0, none⟩), .int .i64 p, .int .i64 c] w fun e w' => e = .returned (.agg #[.int .i64 p, .int .i64 c, .int .i64 q.m, .int .i64 q.k]) ∧ Below w.heap.size w w' := by
  have htb := lt_of_heap h.tab
  have c0 : w.cell? ⟨tb, 0, none⟩ = some (.map (some mb)) := by simp [World.cell?, h.tab]
  have hmb : mb < w.heap.size := by obtain ⟨es, clock, hb, _⟩ := h.map; exact lt_of_heap hb
  have hl : (Instr.lookup 50 (.map (some mb)) (.agg #[.int .i64 p, .int .i64 c]) false).run Try.prog (w.alloc (.cells #[.int .i64 0, .int .i64 0, .int .i64 0, .int .i64 0] 23)) = .ok (.pointer (some ⟨q.blk, 0, none⟩)) (w.alloc (.cells #[.int .i64 0, .int .i64 0, .int .i64 0, .int .i64 0] 23)) := by
    have := h.look hp hc (w.alloc (.cells #[.int .i64 0, .int .i64 0, .int .i64 0, .int .i64 0] 23)) (Below.heap_alloc _ _ _ hmb)
    rw [hq] at this
    exact this
  have hm := List.mem_of_find?_eq_some hq
  have hcell := h.cells q hm
  have hkey : q.p = p ∧ q.c = c := by simpa [nameKey] using List.find?_some hq
  have hqb := lt_of_heap hcell
  have d0 : w.cell? ⟨q.blk, 0, none⟩ = some (.int .i64 p) := by simp [World.cell?, hcell, Pl.obj, hkey]
  have d1 : w.cell? ⟨q.blk, 1, none⟩ = some (.int .i64 c) := by simp [World.cell?, hcell, Pl.obj, hkey]
  have d2 : w.cell? ⟨q.blk, 2, none⟩ = some (.int .i64 q.m) := by simp [World.cell?, hcell, Pl.obj]
  have d3 : w.cell? ⟨q.blk, 3, none⟩ = some (.int .i64 q.k) := by simp [World.cell?, hcell, Pl.obj]
  clear h hq hm hcell hkey
  go_enter Try.func12, Try.ntmps12
  go_wp2
  exact bodyPost_ret (v := .agg #[.int .i64 p, .int .i64 c, .int .i64 q.m, .int .i64 q.k]) (by simp [results, Try.results12, go_sem]) rfl
    ⟨rfl, (Below.refl _ _).alloc (Nat.le_refl _) _⟩

end Go.Proofs.Ytmgafcbhoamkkaa
