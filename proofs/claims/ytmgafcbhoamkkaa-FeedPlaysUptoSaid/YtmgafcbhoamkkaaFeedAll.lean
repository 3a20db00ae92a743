/-
  The walk of the table's method All: the places that say something, in order.
-/
import Derived.Test.YtmgafcbhoamkkaaFeedCmp
import Derived.Test.YtmgafcbhoamkkaaFeedGrid
import Derived.Maps.RangeRun
import Derived.Maps.AppendAt
import Derived.Shelf.SlSortCmp.KitK
namespace Go.Proofs.Ytmgafcbhoamkkaa
open Go.RowKit Go.ChangeMaps Go.Sort
set_option linter.unusedSimpArgs false
set_option linter.unnecessarySimpa false

def Pl.fd (q : Pl) : F := (q.p, q.c, q.m, q.k)

/-- What has been gathered of the places D. -/
def got (D : List Pl) : List F := (D.filter live).map Pl.fd

theorem got_snoc (D : List Pl) (q : Pl) : got (D ++ [q]) = got D ++ if live q then [q.fd] else [] := by
  unfold got
  rw [List.filter_append, List.map_append]
  cases h : live q
  · rw [List.filter_cons_of_neg (by simp [h])]; rfl
  · rw [List.filter_cons_of_pos h]; rfl

/-- What is asked of the sort. -/
def SortOk : Prop := ∀ (blk cap : Nat) (d : Array F) (w : World), HoldsK encF 4 w blk 0 d → blk < w.heap.size → d.size < 4611686018427387904 →
  Calls Try.prog 27 #[.slice (some ⟨blk, 0, none⟩) d.size cap, .func (.func 28) #[] #[]] w fun e w' =>
    e = .returned (.tuple #[]) ∧ ∃ d' n os, PermIn 0 d.size d d' ∧ SortedIn (ltOf cfF) 0 d.size d' ∧ w' = sortWorldK encF 4 w blk 0 n d' os
def NoneOk : Prop := ∀ (p : Option Addr) (cap : Nat) (w : World), Calls Try.prog 27 #[.slice p 0 cap, .func (.func 28) #[] #[]] w fun e w' => e = .returned (.tuple #[]) ∧ w' = w

/-- What All gives. -/
def AllDone (w : World) (L : List Pl) (e : Ending) (w' : World) : Prop :=
  ∃ (l : List F) (p : Option Addr) (cap : Nat), e = .returned (.slice p l.length cap) ∧ l.Perm (got L) ∧ l.Pairwise ltF ∧
    (0 < l.length → ∃ g, p = some ⟨g, 0, none⟩ ∧ g < w'.heap.size ∧ ∀ i x, l[i]? = some x → ∀ j u, (encF x)[j]? = some u → w'.cell? ⟨g, i * 4 + j, none⟩ = some u) ∧ Below w.heap.size w w'

/-- The iterator: which births it has handed out, in words of the places. -/
structure Way (w : World) (r mb : Nat) (es : Array MapEntry) (clock : Nat) (L D : List Pl) (seen : Array Nat) : Prop where
  it : ∃ c0, w.heap[r]? = some (.mapIter (some mb) clock seen c0) ∧ clock ≤ c0
  sub : ∀ q ∈ D, q ∈ L
  once : D.Nodup
  told : ∀ e ∈ es.toList, seen.contains e.born = true ↔ ∃ q ∈ D, e.val = q.plc.val

theorem vals_apart {es : Array MapEntry} {L : List Pl} (hL : Holds es (L.map Pl.plc)) (hb : (L.map Pl.blk).Nodup) : (es.toList.map (·.val)).Nodup := by
  have e : es.toList.map (·.val) = L.map fun q => q.plc.val := by
    have h := congrArg (List.map Prod.snd) hL
    simpa [List.map_map, Function.comp_def] using h
  rw [e]
  have h2 : (L.map fun q => q.plc.val) = (L.map Pl.blk).map fun b => Value.pointer (some ⟨b, 0, none⟩) := by simp [List.map_map, Function.comp_def, Pl.plc, Plc.val]
  rw [h2]
  unfold List.Nodup at *
  rw [List.pairwise_map]
  refine hb.imp fun {a b} h e => h ?_
  simpa using e

theorem val_inj {es : Array MapEntry} (h : (es.toList.map (·.val)).Nodup) {x y : MapEntry} (hx : x ∈ es.toList) (hy : y ∈ es.toList) (e : x.val = y.val) : x = y := by
  obtain ⟨i, hi, rfl⟩ := List.mem_iff_getElem.1 hx
  obtain ⟨j, hj, rfl⟩ := List.mem_iff_getElem.1 hy
  have h2 : (es.toList.map (·.val))[i]'(by simpa using hi) = (es.toList.map (·.val))[j]'(by simpa using hj) := by simpa using e
  have := (List.getElem_inj h).1 h2
  subst this; rfl

theorem blk_inj {L : List Pl} (h : (L.map Pl.blk).Nodup) {q r : Pl} (hq : q ∈ L) (hr : r ∈ L) (e : q.plc.val = r.plc.val) : q = r := by
  obtain ⟨i, hi, rfl⟩ := List.mem_iff_getElem.1 hq
  obtain ⟨j, hj, rfl⟩ := List.mem_iff_getElem.1 hr
  have e' : L[i].blk = L[j].blk := by simpa [Pl.plc, Plc.val] using e
  have h2 : (L.map Pl.blk)[i]'(by simpa using hi) = (L.map Pl.blk)[j]'(by simpa using hj) := by simpa using e'
  have := (List.getElem_inj h).1 h2
  subst this; rfl

/-- One more has been handed out. -/
theorem told_more {es : Array MapEntry} {clock : Nat} {L D : List Pl} {seen : Array Nat} (hB : Births es clock) (hL : Holds es (L.map Pl.plc)) (hb : (L.map Pl.blk).Nodup)
    (h : ∀ e ∈ es.toList, seen.contains e.born = true ↔ ∃ q ∈ D, e.val = q.plc.val) {e : MapEntry} (he : e ∈ es.toList) {q : Pl} (hv : e.val = q.plc.val) :
    ∀ x ∈ es.toList, (seen.push e.born).contains x.born = true ↔ ∃ q' ∈ D ++ [q], x.val = q'.plc.val := by
  intro x hx
  rw [contains_push, Bool.or_eq_true, h x hx, beq_iff_eq]
  constructor
  · rintro (⟨q', h1, h2⟩ | h1)
    · exact ⟨q', List.mem_append_left _ h1, h2⟩
    · have : x = e := by
        obtain ⟨i, hi, rfl⟩ := List.mem_iff_getElem.1 hx
        obtain ⟨j, hj, rfl⟩ := List.mem_iff_getElem.1 he
        have h2 : (es.toList.map (·.born))[i]'(by simpa using hi) = (es.toList.map (·.born))[j]'(by simpa using hj) := by simpa using h1
        have := (List.getElem_inj hB.2).1 h2
        subst this; rfl
      subst this
      exact ⟨q, by simp, hv⟩
  · rintro ⟨q', h1, h2⟩
    rcases List.mem_append.1 h1 with h1 | h1
    · exact .inl ⟨q', h1, h2⟩
    · obtain rfl := List.mem_singleton.1 h1
      exact .inr (congrArg MapEntry.born (val_inj (vals_apart hL hb) hx he (h2.trans hv.symm)))

/-- Nothing is left: all places have been gathered. -/
theorem all_gone {es : Array MapEntry} {L D : List Pl} {seen : Array Nat} (hL : Holds es (L.map Pl.plc)) (hb : (L.map Pl.blk).Nodup) (hsub : ∀ q ∈ D, q ∈ L) (hD : D.Nodup)
    (h : ∀ e ∈ es.toList, seen.contains e.born = true ↔ ∃ q ∈ D, e.val = q.plc.val) (h0 : (leftOf es seen).size = 0) : (got D).Perm (got L) := by
  have hLn : L.Nodup := by
    unfold List.Nodup at *
    rw [List.pairwise_map] at hb
    exact hb.imp fun {a b} h e => h (by rw [e])
  have hp : D.Perm L := by
    rw [List.perm_ext_iff_of_nodup hD hLn]
    intro q
    refine ⟨hsub q, fun hq => ?_⟩
    have hm : (q.plc.key, q.plc.val) ∈ es.toList.map fun e => (e.key, e.val) := by
      rw [hL]; exact List.mem_map.2 ⟨q.plc, List.mem_map.2 ⟨q, hq, rfl⟩, rfl⟩
    obtain ⟨e, he, hee⟩ := List.mem_map.1 hm
    simp only [Prod.mk.injEq] at hee
    have hs : seen.contains e.born = true := by
      cases hc : seen.contains e.born with
      | true => rfl
      | false =>
        have : e ∈ leftOf es seen := Array.mem_filter.2 ⟨Array.mem_toList_iff.1 he, by rw [hc]; rfl⟩
        have h2 := Array.size_pos_of_mem this
        omega
    obtain ⟨q', h1, h2⟩ := (h e he).1 hs
    rw [blk_inj hb hq (hsub q' h1) (hee.2.symm.trans h2)]
    exact h1
  unfold got
  exact (hp.filter _).map _

theorem got_apart {L : List Pl} (ha : L.Pairwise fun q r => ¬ (q.p = r.p ∧ q.c = r.c)) : ApartF (got L) := by
  unfold ApartF got
  rw [List.pairwise_map]
  exact ha.filter _

/-- Of a world that the sort leaves. -/
theorem sort_world {w : World} {g n : Nat} {d d' : Array F} {os : Array Obj} (hH : HoldsK encF 4 w g 0 d) (hs : d'.size = d.size) (hg : g < w.heap.size) (B : Nat) (hB : B ≤ g) :
    Below B w (sortWorldK encF 4 w g 0 n d' os) ∧ w.heap.size ≤ (sortWorldK encF 4 w g 0 n d' os).heap.size ∧ ∀ i x, d'.toList[i]? = some x → ∀ j u, (encF x)[j]? = some u → (sortWorldK encF 4 w g 0 n d' os).cell? ⟨g, i * 4 + j, none⟩ = some u := by
  have hsz : w.heap.size ≤ (sortWorldK encF 4 w g 0 n d' os).heap.size := by
    simp [sortWorldK, putRowK]
  refine ⟨⟨rfl, rfl, rfl, hsz, fun k hk => ?_⟩, hsz, fun i x hx j u hu => ?_⟩
  · unfold sortWorldK
    rw [heap_grow_old _ _ (by simp [putRowK]; omega)]
    simp only [putRowK, putRow, mapBlock]
    rw [Array.getElem?_modify, if_neg (by omega)]
    rfl
  · have h1 : HoldsK encF 4 (sortWorldK encF 4 w g 0 n d' os) g 0 d' := by
      unfold sortWorldK
      exact holdsK_grow encF 4 _ os _ _ _ (by simp [putRowK]; exact hg) (holdsK_putRowK encF 4 _ _ _ d d' (show HoldsK encF 4 (Go.Sort.ahead w n) g 0 d from hH) hs)
    have hi : i < d'.size := by have := (List.getElem?_eq_some_iff.1 hx).1; simpa using this
    have hj : j < 4 := by have := (List.getElem?_eq_some_iff.1 hu).1; simpa [encF] using this
    have e := (h1.cell hi hj).1
    have e1 : d'[i]! = x := by
      rw [Array.getElem?_toList, Array.getElem?_eq_getElem hi] at hx
      rw [getElem!_pos d' i hi]
      exact Option.some.inj hx
    have hl : j < (encF x).length := by simp [encF]; omega
    have e2 : (encF x)[j]! = u := by
      rw [List.getElem?_eq_getElem hl] at hu
      rw [getElem!_pos _ j hl]
      exact Option.some.inj hu
    rw [e1, e2, Nat.zero_add] at e
    exact e

/-- A slice of the call's own as the sort's row. -/
theorem holds_own {w : World} {B g cap : Nat} {D : List F} (h : w.ownsRow B 23 4 (.slice (some ⟨g, 0, none⟩) D.length cap) D.length (D.flatMap encF)) : HoldsK encF 4 w g 0 D.toArray ∧ g < w.heap.size ∧ B ≤ g := by
  rcases h.2 with ⟨e, -⟩ | ⟨g', cap', cur, e, hg, hc, hn, hm, hsz, ht⟩
  · cases e
  · cases e
    refine ⟨fun j hj => ?_, (Array.getElem?_eq_some_iff.1 hc).1, hg⟩
    simp only [size_flatK, List.size_toArray] at hj
    have e1 : cur.toList[j]? = (D.flatMap encF)[j]? := by
      rw [← ht, List.getElem?_take, if_pos hj]
    have hd : j / 4 < D.length := by omega
    obtain ⟨x, hx⟩ : ∃ x, D[j / 4]? = some x := ⟨_, List.getElem?_eq_getElem hd⟩
    have e2 := flat4_get D (j / 4) x hx (j % 4) (by omega)
    rw [show j / 4 * 4 + j % 4 = j from by omega] at e2
    have e4 : D.toArray[j / 4]! = x := by
      have hd' : j / 4 < D.toArray.size := by simpa using hd
      rw [getElem!_pos D.toArray (j / 4) hd']
      rw [List.getElem?_eq_getElem hd] at hx
      simpa using hx
    have e3 : (flatK encF 4 D.toArray)[j]! = (encF x)[j % 4]! := by
      rw [get_flatK _ _ _ _ (by simpa using hj), e4]
    have hl : j % 4 < (encF x).length := by simp [encF]; omega
    refine ⟨?_, by simp [World.frozen?, hc]⟩
    rw [e3]
    simp only [World.cell?, hc, Nat.zero_add, id]
    rw [getElem!_pos (encF x) (j % 4) hl]
    rw [Array.getElem?_toList, e2, List.getElem?_eq_getElem hl] at e1
    simpa using e1

end Go.Proofs.Ytmgafcbhoamkkaa
