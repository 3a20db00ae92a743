/-
  What the table's methods leave, in words of what the table says of each place.
-/
import Derived.Test.YtmgafcbhoamkkaaFeedTab
import Derived.LoopTactic
namespace Go.Proofs.Ytmgafcbhoamkkaa
open Go.RowKit Go.ChangeMaps

/-- w' is w with new blocks, and with writes to blocks of S. -/
structure Turned (S : Nat → Prop) (w w' : World) : Prop where
  os : w'.os = w.os
  tape : w'.tape = w.tape
  output : w'.output = w.output
  size : w.heap.size ≤ w'.heap.size
  block : ∀ k, k < w.heap.size → ¬ S k → w'.heap[k]? = w.heap[k]?

theorem Turned.refl (S : Nat → Prop) (w : World) : Turned S w w := ⟨rfl, rfl, rfl, Nat.le_refl _, fun _ _ _ => rfl⟩
theorem Turned.of_below {S : Nat → Prop} {w w' : World} (h : Below w.heap.size w w') : Turned S w w' := ⟨h.os, h.tape, h.output, h.size, fun k hk _ => h.block k hk⟩
theorem Turned.of_grown {S : Nat → Prop} {w w' : World} {mb : Nat} (h : w.grownBy w' (some mb)) (hS : S mb) : Turned S w w' :=
  ⟨h.os, h.tape, h.output, h.size, fun k hk hn => h.block k hk (fun e => by cases e; exact hn hS)⟩
/-- Two steps; what the second may write is the first's, or new. -/
theorem Turned.trans {S T : Nat → Prop} {a b c : World} (h : Turned S a b) (k : Turned T b c) (hT : ∀ i, T i → S i ∨ a.heap.size ≤ i) : Turned S a c :=
  ⟨k.os.trans h.os, k.tape.trans h.tape, k.output.trans h.output, Nat.le_trans h.size k.size, fun i hi hn =>
    (k.block i (Nat.lt_of_lt_of_le hi h.size) (fun ht => by rcases hT i ht with h1 | h1; exact hn h1; omega)).trans (h.block i hi hn)⟩
theorem Turned.mono {S T : Nat → Prop} {a b : World} (h : Turned S a b) (hT : ∀ i, S i → T i) : Turned T a b :=
  ⟨h.os, h.tape, h.output, h.size, fun i hi hn => h.block i hi (fun hs => hn (hT i hs))⟩
theorem Turned.setCell {S : Nat → Prop} {a b : World} (h : Turned S a b) {p : Addr} (hp : S p.block ∨ a.heap.size ≤ p.block) (u : Value) : Turned S a (b.setCell p u) :=
  ⟨h.os, h.tape, h.output, by simpa [World.setCell] using h.size, fun i hi hn => (Below.heap_setCell _ _ _ _ (by rintro rfl; rcases hp with h1 | h1; exact hn h1; omega)).trans (h.block i hi hn)⟩

/-- The blocks that a table's methods may write. -/
def Mine (mb : Nat) (L : List Pl) (k : Nat) : Prop := k = mb ∨ ∃ q ∈ L, q.blk = k

/-- The table with one place turned. -/
def turnAt (L : List Pl) (p c : Int) (f : Pl → Pl) : List Pl := L.map fun q => if nameKey p c q then f q else q

/-- What the table says of a place: mask, callee, count. -/
def tv (L : List Pl) (p c : Int) : Int × Int × Int := match L.find? (nameKey p c) with
  | some q => (q.m, q.k, q.t)
  | none => (0, -1, 0)

theorem nameKey_iff {p c : Int} {q : Pl} : nameKey p c q = true ↔ q.p = p ∧ q.c = c := by simp [nameKey]

theorem apart_of {L : List Pl} (h : apartKeys (L.map Pl.plc)) : L.Pairwise fun q r => ¬ (q.p = r.p ∧ q.c = r.c) := by
  unfold apartKeys at h
  rw [List.pairwise_map] at h
  refine h.imp fun {q r} hqr hh => ?_
  rw [show hasKey q.plc.p q.plc.c r.plc = true from by rw [hasKey_iff]; exact ⟨hh.1.symm, hh.2.symm⟩] at hqr
  cases hqr
theorem apart_to {L : List Pl} (h : L.Pairwise fun q r => ¬ (q.p = r.p ∧ q.c = r.c)) : apartKeys (L.map Pl.plc) := by
  unfold apartKeys
  rw [List.pairwise_map]
  refine h.imp fun {q r} hqr => ?_
  cases hh : hasKey q.plc.p q.plc.c r.plc
  · rfl
  · rw [hasKey_iff] at hh
    exact absurd ⟨hh.1.symm, hh.2.symm⟩ hqr

theorem find_mem {L : List Pl} (ha : L.Pairwise fun q r => ¬ (q.p = r.p ∧ q.c = r.c)) {q : Pl} (hq : q ∈ L) : L.find? (nameKey q.p q.c) = some q := by
  induction L with
  | nil => cases hq
  | cons r L ih =>
    obtain ⟨h1, h2⟩ := List.pairwise_cons.1 ha
    rcases List.mem_cons.1 hq with rfl | hq
    · simp [nameKey]
    · rw [List.find?_cons_of_neg (by rw [nameKey_iff]; exact h1 q hq)]
      exact ih h2 hq

theorem find_key {L : List Pl} {p c : Int} {q : Pl} (h : L.find? (nameKey p c) = some q) : q.p = p ∧ q.c = c := nameKey_iff.1 (List.find?_some h)

theorem find_turn {L : List Pl} {p c : Int} {f : Pl → Pl} (hf : ∀ r, (f r).p = r.p ∧ (f r).c = r.c) (p' c' : Int) :
    (turnAt L p c f).find? (nameKey p' c') = (L.find? (nameKey p' c')).map fun q => if nameKey p c q then f q else q := by
  unfold turnAt
  rw [List.find?_map]
  congr 1
  congr 1
  funext q
  simp only [Function.comp]
  split
  · simp [nameKey, hf q]
  · rfl

theorem tv_turn {L : List Pl} {p c : Int} {f : Pl → Pl} (hf : ∀ r, (f r).p = r.p ∧ (f r).c = r.c) {q : Pl} (hq : L.find? (nameKey p c) = some q) (p' c' : Int) :
    tv (turnAt L p c f) p' c' = if p' = p ∧ c' = c then ((f q).m, (f q).k, (f q).t) else tv L p' c' := by
  unfold tv
  rw [find_turn hf]
  by_cases h : p' = p ∧ c' = c
  · obtain ⟨rfl, rfl⟩ := h
    rw [hq, if_pos ⟨rfl, rfl⟩]
    have := List.find?_some hq
    simp [this]
  · rw [if_neg h]
    cases h2 : L.find? (nameKey p' c') with
    | none => rfl
    | some r =>
      have h3 := find_key h2
      have : nameKey p c r = false := by
        cases h4 : nameKey p c r
        · rfl
        · rw [nameKey_iff] at h4; exact absurd ⟨h3.1.symm.trans h4.1, h3.2.symm.trans h4.2⟩ h
      simp [this]

theorem tv_snoc {L : List Pl} {p c : Int} {b : Nat} (p' c' : Int) : tv (L ++ [⟨p, c, b, 0, -1, 0⟩]) p' c' = tv L p' c' := by
  unfold tv
  rw [List.find?_append]
  cases h : L.find? (nameKey p' c') with
  | some r => rfl
  | none =>
    by_cases h2 : p = p' ∧ c = c'
    · simp [nameKey, h2]
    · have : nameKey p' c' ⟨p, c, b, 0, -1, 0⟩ = false := by
        cases h4 : nameKey p' c' ⟨p, c, b, 0, -1, 0⟩
        · rfl
        · rw [nameKey_iff] at h4; exact absurd h4 h2
      simp [this]

/-- One place's block is written. -/
theorem TabAt.turn {w w' : World} {tb mb : Nat} {L : List Pl} (h : TabAt w tb mb L) {p c : Int} {q : Pl} (hq : L.find? (nameKey p c) = some q) {f : Pl → Pl} (hf : ∀ r, (f r).p = r.p ∧ (f r).c = r.c ∧ (f r).blk = r.blk)
    (h1 : w'.heap[q.blk]? = some (f q).obj) (hrest : ∀ k, k < w.heap.size → k ≠ q.blk → w'.heap[k]? = w.heap[k]?) : TabAt w' tb mb (turnAt L p c f) := by
  have hm := List.mem_of_find?_eq_some hq
  have hcell := h.cells q hm
  obtain ⟨es, clock, hb, hL⟩ := h.map
  have hap := apart_of h.keys
  have key := find_key hq
  have same : ∀ r ∈ L, nameKey p c r = true → r = q := fun r hr hk => by
    rw [nameKey_iff] at hk
    have := find_mem hap hr
    rw [hk.1, hk.2, hq] at this
    exact (Option.some.inj this).symm
  have hplc : (turnAt L p c f).map Pl.plc = L.map Pl.plc := by
    unfold turnAt
    rw [List.map_map]
    refine List.map_congr_left fun r _ => ?_
    simp only [Function.comp]
    split
    · simp [Pl.plc, hf r]
    · rfl
  have hmb2 : w'.heap[mb]? = some (.map es clock) := by
    rw [hrest _ (lt_of_heap hb) (fun e => by rw [e, hcell] at hb; simp [Pl.obj] at hb)]; exact hb
  refine ⟨?_, ⟨es, clock, ?_, ?_⟩, ?_, ?_, ?_, ?_, fun es' clock' hb' => ?_⟩
  · rw [hrest _ (lt_of_heap h.tab) (fun e => by have h2 := h.tab; rw [e, hcell] at h2; simp [Pl.obj] at h2)]; exact h.tab
  · rw [hrest _ (lt_of_heap hb) (fun e => by rw [e, hcell] at hb; simp [Pl.obj] at hb)]; exact hb
  · rw [hplc]; exact hL
  · intro r hr
    obtain ⟨s, hs, rfl⟩ := List.mem_map.1 hr
    by_cases hk : nameKey p c s = true
    · rw [if_pos hk]
      obtain rfl := same s hs hk
      rw [(hf s).2.2]; exact h1
    · rw [if_neg hk]
      have hne : s.blk ≠ q.blk := fun e => by
        have h3 : s = q := by
          have h4 := h.blks
          unfold List.Nodup at h4
          rw [List.pairwise_map] at h4
          rcases List.mem_iff_getElem.1 hs with ⟨i, hi, rfl⟩
          rcases List.mem_iff_getElem.1 hm with ⟨j, hj, rfl⟩
          rcases Nat.lt_trichotomy i j with h5 | h5 | h5
          · exact absurd e (List.pairwise_iff_getElem.1 h4 i j hi hj h5)
          · subst h5; rfl
          · exact absurd e.symm (List.pairwise_iff_getElem.1 h4 j i hj hi h5)
        rw [h3] at hk
        exact hk (nameKey_iff.2 key)
      rw [hrest _ (lt_of_heap (h.cells s hs)) hne]
      exact h.cells s hs
  · rw [hplc]; exact h.keys
  · intro r hr
    obtain ⟨s, hs, rfl⟩ := List.mem_map.1 hr
    split
    · rw [(hf s).1, (hf s).2.1]; exact h.fit s hs
    · exact h.fit s hs
  · have : (turnAt L p c f).map Pl.blk = L.map Pl.blk := by
      unfold turnAt
      rw [List.map_map]
      refine List.map_congr_left fun r _ => ?_
      simp only [Function.comp]
      split
      · exact (hf r).2.2
      · rfl
    rw [this]; exact h.blks
  · rw [hmb2] at hb'
    cases hb'
    exact h.born es clock hb

/-- Behind 'place': the place is there; the table says of all places what it said. -/
def PlaceDone (w : World) (tb mb : Nat) (L : List Pl) (p c : Int) (e : Ending) (w1 : World) : Prop :=
  ∃ (L1 : List Pl) (q : Pl), e = .returned (.pointer (some ⟨q.blk, 0, none⟩)) ∧ TabAt w1 tb mb L1 ∧ L1.find? (nameKey p c) = some q ∧ (∀ p' c', tv L1 p' c' = tv L p' c') ∧ Turned (Mine mb L) w w1 ∧ (∀ b, Mine mb L1 b → Mine mb L b ∨ w.heap.size ≤ b)

theorem place_any (tb mb : Nat) (L : List Pl) (p c : Int) (hp : fits p) (hc : fits c) (w : World) (h : TabAt w tb mb L) :
    Calls Try.prog 25 #[.pointer (some ⟨tb, 0, none⟩), .int .i64 p, .int .i64 c] w (PlaceDone w tb mb L p c) := by
  cases hq : L.find? (nameKey p c) with
  | some q => exact (place_found tb mb L p c q hp hc w h hq).mono fun e w1 ⟨he, hb⟩ => ⟨L, q, he, h.below hb, hq, fun _ _ => rfl, .of_below hb, fun b hb => .inl hb⟩
  | none =>
    refine (place_new tb mb L p c hp hc w h hq).mono fun e w1 ⟨he, ht, hg⟩ => ⟨_, ⟨p, c, w.heap.size + 2, 0, -1, 0⟩, he, ht, find_snoc hq (by simp [nameKey]), tv_snoc, .of_grown hg (.inl rfl), fun b hb => ?_⟩
    rcases hb with hb | ⟨q, hq, rfl⟩
    · exact .inl (.inl hb)
    · rcases List.mem_append.1 hq with hq | hq
      · exact .inl (.inr ⟨q, hq, rfl⟩)
      · simp at hq; subst hq; exact .inr (by simp)

def bitK (k : Int) : Int := wrap64 (2 ^ k.toNat)
def addK (m k : Int) : Int := if 1 ≤ k ∧ k ≤ 62 then bits BinOp.or .i64 m (bitK k) else m
def addKs (m : Int) (ks : List Int) : Int := ks.foldl addK m

theorem addKs_step (m : Int) (ks : List Int) (k : Nat) (hk : k < ks.length) : addKs m (ks.take (k + 1)) = addK (addKs m (ks.take k)) (ks.getD k 0) := by
  unfold addKs
  rw [List.take_succ_eq_append_getElem hk, List.foldl_append]
  simp [List.getD, hk]

/-- What a method of the table leaves: one place says something else. -/
def Done (w : World) (tb mb : Nat) (L : List Pl) (p c : Int) (m k t : Int) (w' : World) : Prop :=
  ∃ L', TabAt w' tb mb L' ∧ (∀ p' c', tv L' p' c' = if p' = p ∧ c' = c then (m, k, t) else tv L p' c') ∧ Turned (Mine mb L) w w' ∧ (∀ b, Mine mb L' b → Mine mb L b ∨ w.heap.size ≤ b)

/-- From the place's block, written, to what is left of the table. -/
theorem done_of {w w1 w' : World} {tb mb : Nat} {L L1 : List Pl} {p c : Int} {q : Pl} (ht : TabAt w1 tb mb L1) (hq : L1.find? (nameKey p c) = some q) (htv : ∀ p' c', tv L1 p' c' = tv L p' c') (hT : Turned (Mine mb L) w w1)
    (hM : ∀ b, Mine mb L1 b → Mine mb L b ∨ w.heap.size ≤ b) (m k t : Int) (h1 : w'.heap[q.blk]? = some (.cells #[.int .i64 p, .int .i64 c, .int .i64 m, .int .i64 k, .int .i64 t] 56 (0, 0)))
    (h2 : Turned (fun b => b = q.blk) w1 w') : Done w tb mb L p c m k t w' := by
  have hf : ∀ r : Pl, ({ r with m := m, k := k, t := t } : Pl).p = r.p ∧ ({ r with m := m, k := k, t := t } : Pl).c = r.c ∧ ({ r with m := m, k := k, t := t } : Pl).blk = r.blk := fun r => ⟨rfl, rfl, rfl⟩
  have key := find_key hq
  refine ⟨_, ht.turn hq hf (by rw [h1]; simp [Pl.obj, key]) (fun b hb hne => h2.block b hb hne), fun p' c' => ?_, hT.trans h2 (fun i hi => ?_), fun b hb => ?_⟩
  · rw [tv_turn (fun r => ⟨(hf r).1, (hf r).2.1⟩) hq, htv]
  · subst hi; exact hM _ (.inr ⟨q, List.mem_of_find?_eq_some hq, rfl⟩)
  · refine hM b ?_
    rcases hb with hb | ⟨r, hr, rfl⟩
    · exact .inl hb
    · obtain ⟨s, hs, rfl⟩ := List.mem_map.1 hr
      refine .inr ⟨s, hs, ?_⟩
      split <;> rfl

/-- The cells of one place's block. -/
theorem place_cells {w : World} {b : Nat} {p c m k t : Int} (h : w.heap[b]? = some (.cells #[.int .i64 p, .int .i64 c, .int .i64 m, .int .i64 k, .int .i64 t] 56 (0, 0))) :
    (w.cell? ⟨b, 0, none⟩ = some (.int .i64 p) ∧ w.cell? ⟨b, 1, none⟩ = some (.int .i64 c) ∧ w.cell? ⟨b, 2, none⟩ = some (.int .i64 m) ∧ w.cell? ⟨b, 3, none⟩ = some (.int .i64 k) ∧ w.cell? ⟨b, 4, none⟩ = some (.int .i64 t)) ∧
    (w.frozen? ⟨b, 2, none⟩ = false ∧ w.frozen? ⟨b, 3, none⟩ = false ∧ w.frozen? ⟨b, 4, none⟩ = false ∧ w.frozen? ⟨b, 0, none⟩ = false ∧ w.frozen? ⟨b, 1, none⟩ = false) := by
  simp [World.cell?, World.frozen?, h]

theorem setCell_self {w : World} {b : Nat} {o : Nat} {cs : Array Value} {t : TypeId} {fr : Nat × Nat} (h : w.heap[b]? = some (.cells cs t fr)) (v : Value) : (w.setCell ⟨b, o, none⟩ v).heap[b]? = some (.cells (cs.setIfInBounds o v) t fr) := by
  simp [World.setCell, Array.getElem?_modify, h]

end Go.Proofs.Ytmgafcbhoamkkaa
