/-
  The document's table in memory (tandemref14.T): two slices of the call's own, feeds and counts; what a store into one of them leaves. No condition.
-/
import Derived.Test.YtmgafcbhoamkkaaFeedSame
import Derived.OneCell
namespace Go.Proofs.Ytmgafcbhoamkkaa
open Go.RowKit Go.ChangeMaps
set_option linter.unusedSimpArgs false

theorem own_kept {w w' : World} {B : Nat} {e : TypeId} {s n : Nat} {v : Value} {xs : List Value} (h : w.ownsRow B e s v n xs) (hb : ∀ b, v.ownBlock = some b → w'.heap[b]? = w.heap[b]?) : w'.ownsRow B e s v n xs := by
  refine ⟨h.1, ?_⟩
  rcases h.2 with h | ⟨g, cap, cur, rfl, h2, h3, h4⟩
  · exact .inl h
  · exact .inr ⟨g, cap, cur, rfl, h2, (hb g rfl).trans h3, h4⟩

/-- One cell of an own row is written. -/
theorem own_set {w : World} {B : Nat} {e : TypeId} {s n : Nat} {g cap : Nat} {xs : List Value} (h : w.ownsRow B e s (.slice (some ⟨g, 0, none⟩) n cap) n xs) (o : Nat) (u : Value) :
    (w.setCell ⟨g, o, none⟩ u).ownsRow B e s (.slice (some ⟨g, 0, none⟩) n cap) n (xs.set o u) := by
  refine ⟨by rw [List.length_set]; exact h.1, ?_⟩
  rcases h.2 with ⟨h, -⟩ | ⟨g', cap', cur, e1, h2, h3, h4, h5, h6, h7⟩
  · cases h
  · cases e1
    refine .inr ⟨g, cap, cur.setIfInBounds o u, rfl, h2, ?_, h4, h5, by simpa using h6, ?_⟩
    · simp [World.setCell, Array.getElem?_modify, h3]
    · rw [← h7, Array.toList_setIfInBounds, List.take_set]

theorem flat_set : ∀ (l : List F) (i : Nat) (x0 x1 x2 x3 : Int), i < l.length →
    ((((l.flatMap encF).set (i * 4) (.int .i64 x0)).set (i * 4 + 1) (.int .i64 x1)).set (i * 4 + 2) (.int .i64 x2)).set (i * 4 + 3) (.int .i64 x3) = (l.set i (x0, x1, x2, x3)).flatMap encF
  | [], _, _, _, _, _, h => by simp at h
  | y :: l, 0, x0, x1, x2, x3, _ => by
    rw [List.set_cons_zero, List.flatMap_cons, List.flatMap_cons]
    simp [encF]
  | y :: l, i + 1, x0, x1, x2, x3, h => by
    have ih := flat_set l i x0 x1 x2 x3 (by simpa using h)
    have hl : (encF y).length = 4 := rfl
    rw [List.set_cons_succ, List.flatMap_cons, List.flatMap_cons, ← ih]
    rw [List.set_append_right _ _ (by rw [hl]; omega), List.set_append_right _ _ (by rw [hl]; omega), List.set_append_right _ _ (by rw [hl]; omega), List.set_append_right _ _ (by rw [hl]; omega), hl]
    rw [show (i + 1) * 4 - 4 = i * 4 from by omega, show (i + 1) * 4 + 1 - 4 = i * 4 + 1 from by omega, show (i + 1) * 4 + 2 - 4 = i * 4 + 2 from by omega, show (i + 1) * 4 + 3 - 4 = i * 4 + 3 from by omega]

theorem flat_set2 : ∀ (l : List F) (i : Nat) (x : F) (u : Int), l[i]? = some x → (l.flatMap encF).set (i * 4 + 2) (.int .i64 u) = (l.set i (x.1, x.2.1, u, x.2.2.2)).flatMap encF
  | [], _, _, _, h => by simp at h
  | y :: l, 0, x, u, h => by
    simp only [List.getElem?_cons_zero, Option.some.injEq] at h
    subst h
    rw [List.set_cons_zero, List.flatMap_cons, List.flatMap_cons]
    simp [encF]
  | y :: l, i + 1, x, u, h => by
    have ih := flat_set2 l i x u (by simpa using h)
    have hl : (encF y).length = 4 := rfl
    rw [List.set_cons_succ, List.flatMap_cons, List.flatMap_cons, ← ih]
    rw [List.set_append_right _ _ (by rw [hl]; omega), hl, show (i + 1) * 4 + 2 - 4 = i * 4 + 2 from by omega]

def Pl.cnt (q : Pl) : Value := .int .i64 q.t

/-- The document's table at block rb holds the places R (their blocks mean nothing). -/
structure RefAt (w : World) (rb : Nat) (vF vC : Value) (R : List Pl) : Prop where
  box : w.heap[rb]? = some (.cells #[vF, vC] 44 (0, 0))
  fs : w.ownsRow (rb + 1) 23 4 vF R.length ((R.map Pl.fd).flatMap encF)
  cs : w.ownsRow (rb + 1) 3 1 vC R.length (R.map Pl.cnt)
  keys : R.Pairwise fun q r => ¬ (q.p = r.p ∧ q.c = r.c)
  fit : ∀ q ∈ R, fits q.p ∧ fits q.c

/-- The blocks that its methods may write. -/
def RMine (rb : Nat) (vF vC : Value) (b : Nat) : Prop := b = rb ∨ vF.ownBlock = some b ∨ vC.ownBlock = some b

theorem own_block {w : World} {B : Nat} {e : TypeId} {s n : Nat} {v : Value} {xs : List Value} (h : w.ownsRow B e s v n xs) {b : Nat} (hb : v.ownBlock = some b) : B ≤ b ∧ b < w.heap.size ∧ ∃ cur, w.heap[b]? = some (.cells cur e (0, 0)) := by
  rcases h.2 with ⟨rfl, -⟩ | ⟨g, cap, cur, rfl, h2, h3, -⟩
  · simp [Value.ownBlock] at hb
  · simp [Value.ownBlock] at hb
    subst hb
    exact ⟨h2, lt_of_heap h3, cur, h3⟩

theorem RefAt.lt {w : World} {rb : Nat} {vF vC : Value} {R : List Pl} (h : RefAt w rb vF vC R) {b : Nat} (hb : RMine rb vF vC b) : b < w.heap.size ∧ rb ≤ b := by
  rcases hb with rfl | hb | hb
  · exact ⟨lt_of_heap h.box, Nat.le_refl _⟩
  · have := own_block h.fs hb; exact ⟨this.2.1, by omega⟩
  · have := own_block h.cs hb; exact ⟨this.2.1, by omega⟩

/-- Feeds and counts lie apart. -/
theorem RefAt.apart {w : World} {rb : Nat} {vF vC : Value} {R : List Pl} (h : RefAt w rb vF vC R) {b : Nat} (hF : vF.ownBlock = some b) (hC : vC.ownBlock = some b) : False := by
  obtain ⟨-, -, c1, h1⟩ := own_block h.fs hF
  obtain ⟨-, -, c2, h2⟩ := own_block h.cs hC
  rw [h1] at h2
  simp at h2

/-- Other memory may turn. -/
theorem RefAt.kept {w w' : World} {rb : Nat} {vF vC : Value} {R : List Pl} (h : RefAt w rb vF vC R) (hb : ∀ b, RMine rb vF vC b → w'.heap[b]? = w.heap[b]?) : RefAt w' rb vF vC R :=
  ⟨(hb _ (.inl rfl)).trans h.box, own_kept h.fs fun b e => hb b (.inr (.inl e)), own_kept h.cs fun b e => hb b (.inr (.inr e)), h.keys, h.fit⟩

theorem RefAt.below {w w' : World} {rb : Nat} {vF vC : Value} {R : List Pl} (h : RefAt w rb vF vC R) (hb : Below w.heap.size w w') : RefAt w' rb vF vC R := h.kept fun b e => hb.block b (h.lt e).1

/-- The table's blocks are none of the document's. -/
theorem mine_apart {w : World} {tb mb rb : Nat} {L R : List Pl} {vF vC : Value} (h : TabAt w tb mb L) (k : RefAt w rb vF vC R) {b : Nat} (hb : RMine rb vF vC b) : ¬ Mine mb L b ∧ b ≠ tb := by
  have hc : ∃ cur t, w.heap[b]? = some (.cells cur t (0, 0)) ∧ (t = 44 ∨ t = 23 ∨ t = 3) := by
    rcases hb with rfl | hb | hb
    · exact ⟨_, _, k.box, .inl rfl⟩
    · obtain ⟨-, -, c, e⟩ := own_block k.fs hb
      exact ⟨c, _, e, .inr (.inl rfl)⟩
    · obtain ⟨-, -, c, e⟩ := own_block k.cs hb
      exact ⟨c, _, e, .inr (.inr rfl)⟩
  obtain ⟨cur, t, e, ht⟩ := hc
  refine ⟨?_, ?_⟩
  · rintro (rfl | ⟨q, hq, rfl⟩)
    · obtain ⟨es, clock, hm, -⟩ := h.map
      rw [hm] at e; cases e
    · have hq2 := h.cells q hq
      rw [e] at hq2
      unfold Pl.obj at hq2
      simp only [Option.some.injEq, Obj.cells.injEq] at hq2
      obtain ⟨-, h3, -⟩ := hq2
      subst h3
      rcases ht with h | h | h <;> exact absurd h (by decide)
  · rintro rfl
    have h2 := h.tab
    rw [e] at h2
    simp only [Option.some.injEq, Obj.cells.injEq] at h2
    obtain ⟨-, h3, -⟩ := h2
    subst h3
    rcases ht with h | h | h <;> exact absurd h (by decide)

theorem RefAt.turned {w w' : World} {tb mb rb : Nat} {L R : List Pl} {vF vC : Value} (k : RefAt w rb vF vC R) (h : TabAt w tb mb L) (hT : Turned (Mine mb L) w w') : RefAt w' rb vF vC R :=
  k.kept fun b e => hT.block b (k.lt e).1 (mine_apart h k e).1

theorem TabAt.turned {w w' : World} {tb mb rb : Nat} {L R : List Pl} {vF vC : Value} (h : TabAt w tb mb L) (k : RefAt w rb vF vC R) (hT : Turned (RMine rb vF vC) w w') : TabAt w' tb mb L := by
  refine h.kept (hT.block _ (lt_of_heap h.tab) fun e => (mine_apart h k e).2 rfl) (hT.block _ (mine_lt h (.inl rfl)) fun e => (mine_apart h k e).1 (.inl rfl)) fun q hq => ?_
  exact hT.block _ (lt_of_heap (h.cells q hq)) fun e => (mine_apart h k e).1 (.inr ⟨q, hq, rfl⟩)

/-- What a method of the document's table leaves. -/
def RefDone (w : World) (rb : Nat) (vF vC : Value) (T : Tv) (N : Nat) (w' : World) : Prop :=
  ∃ vF' vC' R', RefAt w' rb vF' vC' R' ∧ tv R' = T ∧ R'.length ≤ N ∧ Turned (RMine rb vF vC) w w' ∧ (∀ b, RMine rb vF' vC' b → RMine rb vF vC b ∨ w.heap.size ≤ b)

theorem turnAt_set {R : List Pl} (ha : R.Pairwise fun q r => ¬ (q.p = r.p ∧ q.c = r.c)) {i : Nat} {q : Pl} (hi : R[i]? = some q) (f : Pl → Pl) : turnAt R q.p q.c f = R.set i (f q) := by
  obtain ⟨hil, hq⟩ := List.getElem?_eq_some_iff.1 hi
  refine List.ext_getElem (by simp [turnAt]) fun j h1 h2 => ?_
  have hjl : j < R.length := by simpa [turnAt] using h1
  rw [List.getElem_set]
  simp only [turnAt, List.getElem_map]
  by_cases e : i = j
  · subst e
    rw [if_pos rfl, hq, if_pos (by rw [nameKey_iff]; exact ⟨rfl, rfl⟩)]
  · rw [if_neg e, if_neg]
    intro hk
    rw [nameKey_iff] at hk
    have h3 := List.pairwise_iff_getElem.1 ha
    rcases Nat.lt_or_gt_of_ne e with hlt | hlt
    · have := h3 i j hil hjl hlt; rw [hq] at this; exact this ⟨hk.1.symm, hk.2.symm⟩
    · have := h3 j i hjl hil hlt; rw [hq] at this; exact this hk

theorem find_at {R : List Pl} (ha : R.Pairwise fun q r => ¬ (q.p = r.p ∧ q.c = r.c)) {i : Nat} {q : Pl} (hi : R[i]? = some q) : R.find? (nameKey q.p q.c) = some q := find_mem ha (List.mem_of_getElem? hi)

/-- The feeds' own row, at a place. -/
theorem RefAt.rowF {w : World} {rb : Nat} {vF vC : Value} {R : List Pl} (h : RefAt w rb vF vC R) (h0 : 0 < R.length) : ∃ g cap, vF = .slice (some ⟨g, 0, none⟩) R.length cap ∧ R.length ≤ cap ∧ g < w.heap.size ∧ (∀ o, w.frozen? ⟨g, o, none⟩ = false) ∧
    ∀ i q, R[i]? = some q → w.cell? ⟨g, i * 4, none⟩ = some (.int .i64 q.p) ∧ w.cell? ⟨g, i * 4 + 1, none⟩ = some (.int .i64 q.c) ∧ w.cell? ⟨g, i * 4 + 2, none⟩ = some (.int .i64 q.m) ∧ w.cell? ⟨g, i * 4 + 3, none⟩ = some (.int .i64 q.k) := by
  rcases h.fs.2 with ⟨-, h1⟩ | ⟨g, cap, cur, rfl, h2, h3, h4, h5, h6, h7⟩
  · omega
  · refine ⟨g, cap, rfl, h4, lt_of_heap h3, fun o => by simp [World.frozen?, h3], fun i q hi => ?_⟩
    have hil : i < R.length := (List.getElem?_eq_some_iff.1 hi).1
    have e : ∀ j u, j < 4 → (encF q.fd)[j]? = some u → w.cell? ⟨g, i * 4 + j, none⟩ = some u := fun j u hj hu => by
      have e1 := flat4_get (R.map Pl.fd) i q.fd (by rw [List.getElem?_map, hi]; rfl) j hj
      rw [hu, ← h7, List.getElem?_take, if_pos (by omega), Array.getElem?_toList] at e1
      simp [World.cell?, h3, e1]
    exact ⟨e 0 _ (by omega) rfl, e 1 _ (by omega) rfl, e 2 _ (by omega) rfl, e 3 _ (by omega) rfl⟩

theorem RefAt.rowC {w : World} {rb : Nat} {vF vC : Value} {R : List Pl} (h : RefAt w rb vF vC R) (h0 : 0 < R.length) : ∃ g cap, vC = .slice (some ⟨g, 0, none⟩) R.length cap ∧ R.length ≤ cap ∧ g < w.heap.size ∧ (∀ o, w.frozen? ⟨g, o, none⟩ = false) ∧
    ∀ i q, R[i]? = some q → w.cell? ⟨g, i, none⟩ = some (.int .i64 q.t) := by
  rcases h.cs.2 with ⟨-, h1⟩ | ⟨g, cap, cur, rfl, h2, h3, h4, h5, h6, h7⟩
  · omega
  · refine ⟨g, cap, rfl, h4, lt_of_heap h3, fun o => by simp [World.frozen?, h3], fun i q hi => ?_⟩
    have hil : i < R.length := (List.getElem?_eq_some_iff.1 hi).1
    have e1 : (R.map Pl.cnt)[i]? = some (.int .i64 q.t) := by rw [List.getElem?_map, hi]; rfl
    rw [← h7, List.getElem?_take, if_pos (by omega), Array.getElem?_toList] at e1
    simp [World.cell?, h3, e1]

theorem set_keys {R : List Pl} (ha : R.Pairwise fun q r => ¬ (q.p = r.p ∧ q.c = r.c)) {i : Nat} {q q' : Pl} (hi : R[i]? = some q) (hp : q'.p = q.p) (hc : q'.c = q.c) : (R.set i q').Pairwise fun q r => ¬ (q.p = r.p ∧ q.c = r.c) := by
  have h := List.pairwise_iff_getElem.1 ha
  obtain ⟨hil, hq⟩ := List.getElem?_eq_some_iff.1 hi
  rw [List.pairwise_iff_getElem]
  intro j k hj hk hjk
  rw [List.getElem_set, List.getElem_set]
  simp only [List.length_set] at hj hk
  have h1 := h j k hj hk hjk
  by_cases e1 : i = j
  · subst e1
    rw [if_pos rfl, if_neg (by omega), hp, hc]
    rw [hq] at h1; exact h1
  · rw [if_neg e1]
    by_cases e2 : i = k
    · subst e2
      rw [if_pos rfl, hp, hc]
      rw [hq] at h1; exact h1
    · rw [if_neg e2]; exact h1

theorem set_fit {R : List Pl} (hf : ∀ q ∈ R, fits q.p ∧ fits q.c) {i : Nat} {q q' : Pl} (hi : R[i]? = some q) (hp : q'.p = q.p) (hc : q'.c = q.c) : ∀ r ∈ R.set i q', fits r.p ∧ fits r.c := by
  intro r hr
  rcases List.mem_or_eq_of_mem_set hr with h | rfl
  · exact hf r h
  · rw [hp, hc]; exact hf q (List.mem_of_getElem? hi)

theorem tv_set {R : List Pl} (ha : R.Pairwise fun q r => ¬ (q.p = r.p ∧ q.c = r.c)) {i : Nat} {q : Pl} (hi : R[i]? = some q) (m k t : Int) (p' c' : Int) :
    tv (R.set i { q with m := m, k := k, t := t }) p' c' = if p' = q.p ∧ c' = q.c then (m, k, t) else tv R p' c' := by
  have e := turnAt_set ha hi (fun r => { r with m := m, k := k, t := t })
  rw [← e]
  exact tv_turn (f := fun r => { r with m := m, k := k, t := t }) (fun r => ⟨rfl, rfl⟩) (find_at ha hi) p' c'

/-- A feed's four cells are written. -/
theorem RefAt.setF {w : World} {rb : Nat} {vC : Value} {R : List Pl} {g cap : Nat} (h : RefAt w rb (.slice (some ⟨g, 0, none⟩) R.length cap) vC R) {i : Nat} {q : Pl} (hi : R[i]? = some q) (m k : Int) :
    RefAt ((((w.setCell ⟨g, i * 4, none⟩ (.int .i64 q.p)).setCell ⟨g, i * 4 + 1, none⟩ (.int .i64 q.c)).setCell ⟨g, i * 4 + 2, none⟩ (.int .i64 m)).setCell ⟨g, i * 4 + 3, none⟩ (.int .i64 k)) rb (.slice (some ⟨g, 0, none⟩) R.length cap) vC (R.set i { q with m := m, k := k }) := by
  have hil : i < R.length := (List.getElem?_eq_some_iff.1 hi).1
  have hg := own_block h.fs (b := g) rfl
  refine ⟨?_, ?_, ?_, set_keys h.keys hi rfl rfl, set_fit h.fit hi rfl rfl⟩
  · rw [Below.heap_setCell _ _ _ _ (by simp; omega), Below.heap_setCell _ _ _ _ (by simp; omega), Below.heap_setCell _ _ _ _ (by simp; omega), Below.heap_setCell _ _ _ _ (by simp; omega)]
    exact h.box
  · have h2 := own_set (own_set (own_set (own_set h.fs (i * 4) (.int .i64 q.p)) (i * 4 + 1) (.int .i64 q.c)) (i * 4 + 2) (.int .i64 m)) (i * 4 + 3) (.int .i64 k)
    rw [flat_set _ _ _ _ _ _ (by simpa using hil)] at h2
    rw [List.length_set, List.map_set]
    exact h2
  · have hne : vC.ownBlock ≠ some g := fun e => h.apart rfl e
    have h2 := ownsRow_setCell_other (ownsRow_setCell_other (ownsRow_setCell_other (ownsRow_setCell_other h.cs (a := ⟨g, i * 4, none⟩) hne (.int .i64 q.p)) (a := ⟨g, i * 4 + 1, none⟩) hne (.int .i64 q.c)) (a := ⟨g, i * 4 + 2, none⟩) hne (.int .i64 m)) (a := ⟨g, i * 4 + 3, none⟩) hne (.int .i64 k)
    rw [List.length_set, List.map_set]
    have e : (R.map Pl.cnt).set i (Pl.cnt { q with m := m, k := k }) = R.map Pl.cnt := by
      refine List.ext_getElem (by simp) fun j h1 h2 => ?_
      rw [List.getElem_set]
      split
      · rename_i e2; subst e2
        rw [List.getElem_map, (List.getElem?_eq_some_iff.1 hi).2]; rfl
      · rfl
    rw [e]
    exact h2

/-- A feed's mask is written. -/
theorem RefAt.setM {w : World} {rb : Nat} {vC : Value} {R : List Pl} {g cap : Nat} (h : RefAt w rb (.slice (some ⟨g, 0, none⟩) R.length cap) vC R) {i : Nat} {q : Pl} (hi : R[i]? = some q) (m : Int) :
    RefAt (w.setCell ⟨g, i * 4 + 2, none⟩ (.int .i64 m)) rb (.slice (some ⟨g, 0, none⟩) R.length cap) vC (R.set i { q with m := m }) := by
  have hg := own_block h.fs (b := g) rfl
  refine ⟨?_, ?_, ?_, set_keys h.keys hi rfl rfl, set_fit h.fit hi rfl rfl⟩
  · rw [Below.heap_setCell _ _ _ _ (by simp; omega)]
    exact h.box
  · have h2 := own_set h.fs (i * 4 + 2) (.int .i64 m)
    rw [flat_set2 _ i q.fd m (by rw [List.getElem?_map, hi]; rfl)] at h2
    rw [List.length_set, List.map_set]
    exact h2
  · have hne : vC.ownBlock ≠ some g := fun e => h.apart rfl e
    have h2 := ownsRow_setCell_other h.cs (a := ⟨g, i * 4 + 2, none⟩) hne (.int .i64 m)
    rw [List.length_set, List.map_set]
    have e : (R.map Pl.cnt).set i (Pl.cnt { q with m := m }) = R.map Pl.cnt := by
      refine List.ext_getElem (by simp) fun j h1 h2 => ?_
      rw [List.getElem_set]
      split
      · rename_i e2; subst e2
        rw [List.getElem_map, (List.getElem?_eq_some_iff.1 hi).2]; rfl
      · rfl
    rw [e]
    exact h2

/-- A count is written. -/
theorem RefAt.setC {w : World} {rb : Nat} {vF : Value} {R : List Pl} {g cap : Nat} (h : RefAt w rb vF (.slice (some ⟨g, 0, none⟩) R.length cap) R) {i : Nat} {q : Pl} (hi : R[i]? = some q) (t : Int) :
    RefAt (w.setCell ⟨g, i, none⟩ (.int .i64 t)) rb vF (.slice (some ⟨g, 0, none⟩) R.length cap) (R.set i { q with t := t }) := by
  have hg := own_block h.cs (b := g) rfl
  refine ⟨?_, ?_, ?_, set_keys h.keys hi rfl rfl, set_fit h.fit hi rfl rfl⟩
  · rw [Below.heap_setCell _ _ _ _ (by simp; omega)]
    exact h.box
  · have hne : vF.ownBlock ≠ some g := fun e => h.apart e rfl
    have h2 := ownsRow_setCell_other h.fs (a := ⟨g, i, none⟩) hne (.int .i64 t)
    rw [List.length_set, List.map_set]
    have e : (R.map Pl.fd).set i (Pl.fd { q with t := t }) = R.map Pl.fd := by
      refine List.ext_getElem (by simp) fun j h1 h2 => ?_
      rw [List.getElem_set]
      split
      · rename_i e2; subst e2
        rw [List.getElem_map, (List.getElem?_eq_some_iff.1 hi).2]; rfl
      · rfl
    rw [e]
    exact h2
  · have h2 := own_set h.cs i (.int .i64 t)
    rw [List.length_set, List.map_set]
    exact h2

/-! ### One more place -/
/-- A feed is appended, and the slice stored. -/
theorem app_fs {w W1 w3 : World} {rb n : Nat} {vF vC v1 : Value} {xs ys : List Value} {C : List Value} {m : Nat} (hbox : w.heap[rb]? = some (.cells #[vF, vC] 44 (0, 0)))
    (hfs : w.ownsRow (rb + 1) 23 4 vF n xs) (hcs : w.ownsRow (rb + 1) 3 1 vC m C) (hb : Below w.heap.size w W1) (hg : W1.grownBy w3 vF.ownBlock) (hown : w3.ownsRow (rb + 1) 23 4 v1 (n + 1) ys) (hob : v1.ownBlock = vF.ownBlock ∨ v1.ownBlock = some W1.heap.size) :
    (w3.setCell ⟨rb, 0, none⟩ v1).heap[rb]? = some (.cells #[v1, vC] 44 (0, 0)) ∧ (w3.setCell ⟨rb, 0, none⟩ v1).ownsRow (rb + 1) 23 4 v1 (n + 1) ys ∧ (w3.setCell ⟨rb, 0, none⟩ v1).ownsRow (rb + 1) 3 1 vC m C ∧
    Turned (RMine rb vF vC) w (w3.setCell ⟨rb, 0, none⟩ v1) ∧ (∀ b, RMine rb v1 vC b → RMine rb vF vC b ∨ w.heap.size ≤ b) := by
  have hrb := lt_of_heap hbox
  have hbr : w3.heap[rb]? = w.heap[rb]? := by
    rw [hg.block rb (Nat.lt_of_lt_of_le hrb hb.size) (fun e => by have := (own_block hfs e.symm).1; omega), hb.block rb hrb]
  have hT : Turned (RMine rb vF vC) w w3 := ⟨hg.os.trans hb.os, hg.tape.trans hb.tape, hg.output.trans hb.output, Nat.le_trans hb.size hg.size, fun k hk hn => by
    rw [hg.block k (Nat.lt_of_lt_of_le hk hb.size) (fun e => hn (.inr (.inl e.symm))), hb.block k hk]⟩
  refine ⟨?_, ownsRow_setCell_below hown (a := ⟨rb, 0, none⟩) (by show rb < rb + 1; omega) _, ?_, hT.setCell (p := ⟨rb, 0, none⟩) (.inl (.inl rfl)) _, fun b e => ?_⟩
  · rw [setCell_self (hbr.trans hbox)]; rfl
  · refine ownsRow_setCell_below (own_kept hcs fun b e => ?_) (a := ⟨rb, 0, none⟩) (by show rb < rb + 1; omega) _
    obtain ⟨-, e2, c1, e3⟩ := own_block hcs e
    rw [hg.block b (Nat.lt_of_lt_of_le e2 hb.size) (fun e4 => by
      obtain ⟨-, -, c2, e5⟩ := own_block hfs e4.symm
      rw [e3] at e5; simp at e5), hb.block b e2]
  · rcases e with e | e | e
    · exact .inl (.inl e)
    · rcases hob with h | h
      · rw [h] at e; exact .inl (.inr (.inl e))
      · rw [h] at e; cases e; exact .inr hb.size
    · exact .inl (.inr (.inr e))

/-- A count is appended, and the slice stored. -/
theorem app_cs {w W1 w3 : World} {rb n : Nat} {vF vC v1 : Value} {xs ys : List Value} {A : List Value} {m : Nat} (hbox : w.heap[rb]? = some (.cells #[vF, vC] 44 (0, 0)))
    (hfs : w.ownsRow (rb + 1) 23 4 vF m A) (hcs : w.ownsRow (rb + 1) 3 1 vC n xs) (hb : Below w.heap.size w W1) (hg : W1.grownBy w3 vC.ownBlock) (hown : w3.ownsRow (rb + 1) 3 1 v1 (n + 1) ys) (hob : v1.ownBlock = vC.ownBlock ∨ v1.ownBlock = some W1.heap.size) :
    (w3.setCell ⟨rb, 1, none⟩ v1).heap[rb]? = some (.cells #[vF, v1] 44 (0, 0)) ∧ (w3.setCell ⟨rb, 1, none⟩ v1).ownsRow (rb + 1) 23 4 vF m A ∧ (w3.setCell ⟨rb, 1, none⟩ v1).ownsRow (rb + 1) 3 1 v1 (n + 1) ys ∧
    Turned (RMine rb vF vC) w (w3.setCell ⟨rb, 1, none⟩ v1) ∧ (∀ b, RMine rb vF v1 b → RMine rb vF vC b ∨ w.heap.size ≤ b) := by
  have hrb := lt_of_heap hbox
  have hbr : w3.heap[rb]? = w.heap[rb]? := by
    rw [hg.block rb (Nat.lt_of_lt_of_le hrb hb.size) (fun e => by have := (own_block hcs e.symm).1; omega), hb.block rb hrb]
  have hT : Turned (RMine rb vF vC) w w3 := ⟨hg.os.trans hb.os, hg.tape.trans hb.tape, hg.output.trans hb.output, Nat.le_trans hb.size hg.size, fun k hk hn => by
    rw [hg.block k (Nat.lt_of_lt_of_le hk hb.size) (fun e => hn (.inr (.inr e.symm))), hb.block k hk]⟩
  refine ⟨?_, ?_, ownsRow_setCell_below hown (a := ⟨rb, 1, none⟩) (by show rb < rb + 1; omega) _, hT.setCell (p := ⟨rb, 1, none⟩) (.inl (.inl rfl)) _, fun b e => ?_⟩
  · rw [setCell_self (hbr.trans hbox)]; rfl
  · refine ownsRow_setCell_below (own_kept hfs fun b e => ?_) (a := ⟨rb, 1, none⟩) (by show rb < rb + 1; omega) _
    obtain ⟨-, e2, c1, e3⟩ := own_block hfs e
    rw [hg.block b (Nat.lt_of_lt_of_le e2 hb.size) (fun e4 => by
      obtain ⟨-, -, c2, e5⟩ := own_block hcs e4.symm
      rw [e3] at e5; simp at e5), hb.block b e2]
  · rcases e with e | e | e
    · exact .inl (.inl e)
    · exact .inl (.inr (.inl e))
    · rcases hob with h | h
      · rw [h] at e; exact .inl (.inr (.inr e))
      · rw [h] at e; cases e; exact .inr hb.size

theorem own_slice {w : World} {B : Nat} {e : TypeId} {s n : Nat} {v : Value} {xs : List Value} (h : w.ownsRow B e s v n xs) : ∃ p cap, v = .slice p n cap ∧ n ≤ cap ∧ (p = none → cap = 0) ∧ (0 < n → ∃ g, p = some ⟨g, 0, none⟩ ∧ g < w.heap.size) := by
  rcases h.2 with ⟨rfl, rfl⟩ | ⟨g, cap, cur, rfl, h2, h3, h4, -⟩
  · exact ⟨none, 0, rfl, Nat.le_refl _, fun _ => rfl, fun h => by omega⟩
  · exact ⟨_, cap, rfl, h4, (fun h => nomatch h), fun _ => ⟨g, rfl, lt_of_heap h3⟩⟩

end Go.Proofs.Ytmgafcbhoamkkaa
