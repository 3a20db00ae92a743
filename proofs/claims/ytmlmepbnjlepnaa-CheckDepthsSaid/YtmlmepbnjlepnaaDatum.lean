/-
  DATA IN MEMORY: a list of data as a tree of its own (DL), what it means that a slice reads as one; what an append leaves of it. No function of the program in sight; no condition.
-/
import Derived.Test.YtmlmepbnjlepnaaLib
import Derived.Maps.AppendAt
import Derived.Deep.Heap
import Derived.Deep.OwnRows
namespace Go.Proofs.Ytmlmepbnjlepnaa
open Go.RowKit

/-- A datum without its items. -/
structure Hd where
  kind : Int
  n : Int
  neg : Bool
  mag : List Int
  text : ByteArray

/-- A list of data: the first one's head, items, rest; the others. -/
inductive DL
  | nil
  | cons (h : Hd) (i r n : DL)

def DL.elems : DL → List (Hd × DL × DL)
  | .nil => []
  | .cons h i r n => (h, i, r) :: n.elems
def DL.len (d : DL) : Nat := d.elems.length

theorem DL.ind {P : DL → Prop} (h : ∀ d, (∀ e ∈ d.elems, P e.2.1 ∧ P e.2.2) → P d) (d : DL) : P d := by
  refine h d ?_
  induction d with
  | nil => intro e he; cases he
  | cons hd i r n hi hr hn =>
    intro e he
    simp only [DL.elems, List.mem_cons] at he
    rcases he with rfl | he
    · exact ⟨h i hi, h r hr⟩
    · exact hn e he

/-- These cells stand there. -/
def CellsAt (w : World) (b o : Nat) (cs : List Value) : Prop := ∀ j u, cs[j]? = some u → w.cell? ⟨b, o + j, none⟩ = some u

/-- The limbs of a number. Q: in which blocks they may lie. -/
def MagR (w : World) (Q : Nat → Prop) (v : Value) (m : List Int) : Prop :=
  ∃ p c, v = .slice p m.length c ∧ (p = none → c = 0) ∧ m.length ≤ 35184372087808 ∧ (0 < m.length → ∃ b o, p = some ⟨b, o, none⟩ ∧ Q b ∧ b < w.heap.size ∧ ∀ j, j < m.length → w.cell? ⟨b, o + j, none⟩ = some (.int .u32 (m.getD j 0)))

def headV (h : Hd) (vm vi vr : Value) : List Value := [.int .i64 h.kind, .int .i64 h.n, .bool h.neg, vm, .string h.text, vi, vr]

/-- A row of data from this place on. -/
def RowR (w : World) (Q : Nat → Prop) : DL → Nat → Nat → Prop
  | .nil, _, _ => True
  | .cons h i r n, b, o => (∃ vm vi vr, CellsAt w b o (headV h vm vi vr) ∧ MagR w Q vm h.mag ∧
      (∃ p c, vi = .slice p i.len c ∧ i.len ≤ 1256584717421 ∧ (0 < i.len → ∃ b' o', p = some ⟨b', o', none⟩ ∧ Q b' ∧ b' < w.heap.size ∧ RowR w Q i b' o')) ∧
      (∃ p c, vr = .slice p r.len c ∧ r.len ≤ 1256584717421 ∧ (0 < r.len → ∃ b' o', p = some ⟨b', o', none⟩ ∧ Q b' ∧ b' < w.heap.size ∧ RowR w Q r b' o'))) ∧ RowR w Q n b (o + 7)

/-- A slice of data. -/
def SliceR (w : World) (Q : Nat → Prop) (v : Value) (d : DL) : Prop :=
  ∃ p c, v = .slice p d.len c ∧ d.len ≤ 1256584717421 ∧ (0 < d.len → ∃ b o, p = some ⟨b, o, none⟩ ∧ Q b ∧ b < w.heap.size ∧ RowR w Q d b o)

/-- One datum's cells. -/
def ElemR (w : World) (Q : Nat → Prop) (cs : List Value) (e : Hd × DL × DL) : Prop :=
  ∃ vm vi vr, cs = headV e.1 vm vi vr ∧ MagR w Q vm e.1.mag ∧ SliceR w Q vi e.2.1 ∧ SliceR w Q vr e.2.2

theorem rowR_of {w : World} {Q : Nat → Prop} : ∀ (d : DL) (b o : Nat), (∀ k e, d.elems[k]? = some e → ∃ cs, ElemR w Q cs e ∧ CellsAt w b (o + k * 7) cs) → RowR w Q d b o
  | .nil, _, _, _ => trivial
  | .cons h i r n, b, o, hk => by
    refine ⟨?_, rowR_of n b (o + 7) fun k e he => ?_⟩
    · obtain ⟨cs, ⟨vm, vi, vr, rfl, h1, h2, h3⟩, hc⟩ := hk 0 _ rfl
      exact ⟨vm, vi, vr, by simpa using hc, h1, h2, h3⟩
    · obtain ⟨cs, h1, h2⟩ := hk (k + 1) e (by simpa [DL.elems] using he)
      exact ⟨cs, h1, by rwa [show o + 7 + k * 7 = o + (k + 1) * 7 from by omega]⟩

theorem RowR.elem {w : World} {Q : Nat → Prop} : ∀ {d : DL} {b o : Nat}, RowR w Q d b o → ∀ k e, d.elems[k]? = some e → ∃ cs, ElemR w Q cs e ∧ CellsAt w b (o + k * 7) cs
  | .nil, _, _, _, k, e, he => by simp [DL.elems] at he
  | .cons h i r n, b, o, hr, k, e, he => by
    obtain ⟨⟨vm, vi, vr, h1, h2, h3, h4⟩, h5⟩ := hr
    cases k with
    | zero =>
      simp only [DL.elems, List.getElem?_cons_zero, Option.some.injEq] at he
      subst he
      exact ⟨_, ⟨vm, vi, vr, rfl, h2, h3, h4⟩, by simpa using h1⟩
    | succ k =>
      obtain ⟨cs, e1, e2⟩ := h5.elem k e (by simpa [DL.elems] using he)
      exact ⟨cs, e1, by rwa [show o + (k + 1) * 7 = o + 7 + k * 7 from by omega]⟩

/-! ### the world goes on -/
/-- All of these blocks stand as they stood, and may be looked into. -/
def Stays (w w' : World) (Q Q' : Nat → Prop) : Prop := w.heap.size ≤ w'.heap.size ∧ ∀ b, Q b → b < w.heap.size → Q' b ∧ w'.heap[b]? = w.heap[b]?

theorem CellsAt.stays {w w' : World} {b o : Nat} {cs : List Value} (h : CellsAt w b o cs) (hb : w'.heap[b]? = w.heap[b]?) : CellsAt w' b o cs := fun j u hj => (World.cell?_of_block (w := w) hb).trans (h j u hj)

theorem MagR.stays {w w' : World} {Q Q' : Nat → Prop} (hs : Stays w w' Q Q') {v : Value} {m : List Int} (h : MagR w Q v m) : MagR w' Q' v m := by
  obtain ⟨p, c, rfl, hn, h0, h1⟩ := h
  refine ⟨p, c, rfl, hn, h0, fun hm => ?_⟩
  obtain ⟨b, o, rfl, hq, hlt, hc⟩ := h1 hm
  obtain ⟨e1, e2⟩ := hs.2 b hq hlt
  exact ⟨b, o, rfl, e1, Nat.lt_of_lt_of_le hlt hs.1, fun j hj => (World.cell?_of_block (w := w) e2).trans (hc j hj)⟩

theorem RowR.stays {w w' : World} {Q Q' : Nat → Prop} (hs : Stays w w' Q Q') : ∀ {d : DL} {b o : Nat}, Q b → b < w.heap.size → RowR w Q d b o → RowR w' Q' d b o
  | .nil, _, _, _, _, _ => trivial
  | .cons h i r n, b, o, hq, hlt, hr => by
    obtain ⟨⟨vm, vi, vr, h1, h2, ⟨p1, c1, h3, h4, h5⟩, ⟨p2, c2, h6, h7, h8⟩⟩, h9⟩ := hr
    refine ⟨⟨vm, vi, vr, h1.stays (hs.2 b hq hlt).2, h2.stays hs, ⟨p1, c1, h3, h4, fun h0 => ?_⟩, ⟨p2, c2, h6, h7, fun h0 => ?_⟩⟩, RowR.stays hs hq hlt h9⟩
    · obtain ⟨b', o', e1, e2, e3, e4⟩ := h5 h0
      exact ⟨b', o', e1, (hs.2 b' e2 e3).1, Nat.lt_of_lt_of_le e3 hs.1, RowR.stays hs e2 e3 e4⟩
    · obtain ⟨b', o', e1, e2, e3, e4⟩ := h8 h0
      exact ⟨b', o', e1, (hs.2 b' e2 e3).1, Nat.lt_of_lt_of_le e3 hs.1, RowR.stays hs e2 e3 e4⟩

theorem SliceR.stays {w w' : World} {Q Q' : Nat → Prop} (hs : Stays w w' Q Q') {v : Value} {d : DL} (h : SliceR w Q v d) : SliceR w' Q' v d := by
  obtain ⟨p, c, h1, h2, h3⟩ := h
  refine ⟨p, c, h1, h2, fun h0 => ?_⟩
  obtain ⟨b', o', e1, e2, e3, e4⟩ := h3 h0
  exact ⟨b', o', e1, (hs.2 b' e2 e3).1, Nat.lt_of_lt_of_le e3 hs.1, e4.stays hs e2 e3⟩

theorem ElemR.stays {w w' : World} {Q Q' : Nat → Prop} (hs : Stays w w' Q Q') {cs : List Value} {e : Hd × DL × DL} (h : ElemR w Q cs e) : ElemR w' Q' cs e := by
  obtain ⟨vm, vi, vr, rfl, h1, h2, h3⟩ := h
  exact ⟨vm, vi, vr, rfl, h1.stays hs, h2.stays hs, h3.stays hs⟩

theorem stays_below {w w' : World} {Q : Nat → Prop} (hb : Below w.heap.size w w') : Stays w w' Q Q := ⟨hb.size, fun b hq hlt => ⟨hq, hb.block b hlt⟩⟩
theorem stays_refl {w : World} {Q Q' : Nat → Prop} (h : ∀ b, Q b → b < w.heap.size → Q' b) : Stays w w Q Q' := ⟨Nat.le_refl _, fun b hq hlt => ⟨h b hq hlt, rfl⟩⟩
theorem Stays.trans {a b c : World} {Q R S : Nat → Prop} (h : Stays a b Q R) (k : Stays b c R S) : Stays a c Q S :=
  ⟨Nat.le_trans h.1 k.1, fun i hq hlt => by
    obtain ⟨e1, e2⟩ := h.2 i hq hlt
    obtain ⟨e3, e4⟩ := k.2 i e1 (Nat.lt_of_lt_of_le hlt h.1)
    exact ⟨e3, e4.trans e2⟩⟩

/-! ### rows in the making -/
/-- So many data's cells. -/
def ElemsR (w : World) (Q : Nat → Prop) (css : List (List Value)) (l : List (Hd × DL × DL)) : Prop := css.length = l.length ∧ ∀ (k : Nat) (cs : List Value) (e : Hd × DL × DL), css[k]? = some cs → l[k]? = some e → ElemR w Q cs e

theorem ElemsR.stays {w w' : World} {Q Q' : Nat → Prop} (hs : Stays w w' Q Q') {css : List (List Value)} {l : List (Hd × DL × DL)} (h : ElemsR w Q css l) : ElemsR w' Q' css l := ⟨h.1, fun k cs e h1 h2 => (h.2 k cs e h1 h2).stays hs⟩

theorem ElemsR.snoc {w : World} {Q : Nat → Prop} {css : List (List Value)} {l : List (Hd × DL × DL)} {cs : List Value} {e : Hd × DL × DL} (h : ElemsR w Q css l) (h1 : ElemR w Q cs e) : ElemsR w Q (css ++ [cs]) (l ++ [e]) := by
  obtain ⟨h0, hk⟩ := h
  refine ⟨by simp [h0], fun k c' e' hc he => ?_⟩
  by_cases hlt : k < css.length
  · rw [List.getElem?_append_left hlt] at hc
    rw [List.getElem?_append_left (by omega)] at he
    exact hk k c' e' hc he
  · have hlt' : k = css.length := by
      have := (List.getElem?_eq_some_iff.1 hc).1
      simp at this; omega
    subst hlt'
    rw [List.getElem?_append_right (Nat.le_refl _), Nat.sub_self] at hc
    rw [h0, List.getElem?_append_right (Nat.le_refl _), Nat.sub_self] at he
    cases hc; cases he
    exact h1

theorem ElemR.len {w : World} {Q : Nat → Prop} {cs : List Value} {e : Hd × DL × DL} (h : ElemR w Q cs e) : cs.length = 7 := by
  obtain ⟨vm, vi, vr, rfl, -⟩ := h; rfl

theorem flat_get : ∀ (css : List (List Value)), (∀ c ∈ css, c.length = 7) → ∀ k cs, css[k]? = some cs → ∀ j, j < 7 → css.flatten[k * 7 + j]? = cs[j]?
  | [], _, k, cs, h, j, hj => by simp at h
  | c :: css, hl, 0, cs, h, j, hj => by
    simp only [List.getElem?_cons_zero, Option.some.injEq] at h
    subst h
    rw [List.flatten_cons, Nat.zero_mul, Nat.zero_add, List.getElem?_append_left (by rw [hl c (by simp)]; exact hj)]
  | c :: css, hl, k + 1, cs, h, j, hj => by
    have hc := hl c (by simp)
    rw [List.flatten_cons, List.getElem?_append_right (by rw [hc]; omega), hc, show (k + 1) * 7 + j - 7 = k * 7 + j from by omega]
    exact flat_get css (fun c h => hl c (by simp [h])) k cs (by simpa using h) j hj

theorem ElemsR.lens {w : World} {Q : Nat → Prop} {css : List (List Value)} {l : List (Hd × DL × DL)} (h : ElemsR w Q css l) : ∀ c ∈ css, c.length = 7 := fun c hc => by
  obtain ⟨k, hk, e⟩ := List.mem_iff_getElem.1 hc
  have hk' : k < l.length := by rw [← h.1]; exact hk
  exact (h.2 k c l[k] (by rw [List.getElem?_eq_getElem hk, e]) (List.getElem?_eq_getElem hk')).len

/-- A slice of the call's own, whose elements are there, reads as the list. -/
theorem own_slice {w : World} {Q : Nat → Prop} {B : Nat} {ty : TypeId} {v : Value} {d : DL} {css : List (List Value)} (h : w.ownsRow B ty 7 v d.len css.flatten) (he : ElemsR w Q css d.elems) (hlen : d.len ≤ 1256584717421)
    (hq : ∀ g, v.ownBlock = some g → Q g) : SliceR w Q v d := by
  rcases h.2 with ⟨rfl, h0⟩ | ⟨g, cap, cur, rfl, hg, hc, hn, hm, hsz, ht⟩
  · exact ⟨none, 0, by rw [h0], hlen, fun h => by omega⟩
  · refine ⟨some ⟨g, 0, none⟩, cap, rfl, hlen, fun h0 => ⟨g, 0, rfl, hq g rfl, (Array.getElem?_eq_some_iff.1 hc).1, rowR_of d g 0 fun k e hk => ?_⟩⟩
    have hkl : k < css.length := by rw [he.1]; exact (List.getElem?_eq_some_iff.1 hk).1
    refine ⟨css[k], he.2 k _ e (List.getElem?_eq_getElem hkl) hk, fun j u hj => ?_⟩
    have hl7 := he.lens css[k] (List.getElem_mem hkl)
    have hj7 : j < 7 := by rw [← hl7]; exact (List.getElem?_eq_some_iff.1 hj).1
    have e1 := flat_get css he.lens k _ (List.getElem?_eq_getElem hkl) j hj7
    have hkl2 : k < d.len := by rw [he.1] at hkl; exact hkl
    rw [hj, ← ht, List.getElem?_take, if_pos (by omega), Array.getElem?_toList] at e1
    simp only [World.cell?, hc, Nat.zero_add]
    exact e1

theorem flatten_snoc (css : List (List Value)) (cs : List Value) : (css ++ [cs]).flatten = css.flatten ++ cs := by simp

/-- Behind the laying of what is appended and the append. -/
theorem app_stays {w0 u1 w1 : World} (o : Obj) {B : Nat} {v v1 : Value} {Q0 : Nat → Prop} (hg : (u1.alloc o).grownBy w1 v.ownBlock) (hat : v1.ownBlock = v.ownBlock ∨ v1.ownBlock = some (u1.alloc o).heap.size)
    (hst : Below w0.heap.size w0 u1) (hQ : ∀ b, Q0 b → b < w0.heap.size → B ≤ b ∧ v.ownBlock ≠ some b) : Stays w0 w1 Q0 (fun b => B ≤ b ∧ v1.ownBlock ≠ some b) := by
  have hs := hst.size
  have hg1 := hg.size
  rw [Deep.nblk_alloc] at hg1 hat
  refine ⟨by omega, fun b hq hlt => ?_⟩
  obtain ⟨h1, h2⟩ := hQ b hq hlt
  refine ⟨⟨h1, ?_⟩, ?_⟩
  · rcases hat with e | e <;> rw [e]
    · exact h2
    · simp; omega
  · rw [hg.block b (by rw [Deep.nblk_alloc]; omega) (fun e => h2 e.symm), Deep.blk_alloc_lt _ _ _ (by omega)]
    exact hst.block b hlt

theorem app_staysP {w0 u1 w1 : World} (o : Obj) {P : Nat → Prop} {v v1 : Value} {Q0 : Nat → Prop} (hg : (u1.alloc o).grownBy w1 v.ownBlock) (hat : v1.ownBlock = v.ownBlock ∨ v1.ownBlock = some (u1.alloc o).heap.size)
    (hst : Below w0.heap.size w0 u1) (hQ : ∀ b, Q0 b → b < w0.heap.size → P b ∧ v.ownBlock ≠ some b) : Stays w0 w1 Q0 (fun b => P b ∧ v1.ownBlock ≠ some b) := by
  have e := app_stays (B := 0) o hg hat hst (fun b h1 h2 => ⟨Nat.zero_le _, (hQ b h1 h2).2⟩)
  exact ⟨e.1, fun b h1 h2 => ⟨⟨(hQ b h1 h2).1, (e.2 b h1 h2).1.2⟩, (e.2 b h1 h2).2⟩⟩

theorem own_below {w w' : World} {B : Nat} {e : TypeId} {s n : Nat} {v : Value} {xs : List Value} (h : w.ownsRow B e s v n xs) (hb : Below w.heap.size w w') : w'.ownsRow B e s v n xs := by
  refine ⟨h.1, ?_⟩
  rcases h.2 with h | ⟨g, cap, cur, h1, h2, h3, h4⟩
  · exact .inl h
  · exact .inr ⟨g, cap, cur, h1, h2, (hb.block g (Array.getElem?_eq_some_iff.1 h3).1).trans h3, h4⟩

theorem new_cells (w : World) (l : List Value) (t : TypeId) (j : Nat) (u : Value) (h : l[j]? = some u) : (w.alloc (.cells ⟨l⟩ t)).cell? ((⟨w.heap.size, 0, none⟩ : Addr).add j) = some u := by
  have e : (w.alloc (.cells ⟨l⟩ t)).heap[w.heap.size]? = some (.cells ⟨l⟩ t (0, 0)) := Deep.blk_alloc_new w (.cells ⟨l⟩ t (0, 0))
  rw [show (⟨w.heap.size, 0, none⟩ : Addr).add j = ⟨w.heap.size, j, none⟩ from by unfold Addr.add; split <;> simp_all]
  simp only [World.cell?, e]
  simpa using h

theorem ElemR.one {w : World} {Q : Nat → Prop} {cs : List Value} {e : Hd × DL × DL} (h : ElemR w Q cs e) : ∀ u ∈ cs, u.oneCell' = true := by
  obtain ⟨vm, vi, vr, rfl, ⟨p, c, rfl, -⟩, ⟨p2, c2, rfl, -⟩, ⟨p3, c3, rfl, -⟩⟩ := h
  intro u hu
  simp only [headV, List.mem_cons, List.not_mem_nil, or_false] at hu
  rcases hu with rfl | rfl | rfl | rfl | rfl | rfl | rfl <;> rfl

theorem take_snoc {α : Type} {l : List α} {k : Nat} {x : α} (h : l[k]? = some x) : l.take (k + 1) = l.take k ++ [x] := by rw [List.take_add_one, h]; rfl

theorem genW {P : Program} {c : Code} {Q : Exit → Act → World → Prop} {a : Act} {w0 : World} (F : World → Prop) (h : F w0) (k : ∀ W, F W → Code.wp P c Q a W) : Code.wp P c Q a w0 := k _ h

theorem twoB (w : World) (a b : Obj) : ((w.alloc a).alloc b).heap[w.heap.size]? = some a ∧ ((w.alloc a).alloc b).heap[w.heap.size + 1]? = some b ∧ Below w.heap.size w ((w.alloc a).alloc b) ∧ ((w.alloc a).alloc b).heap.size = w.heap.size + 2 := by
  refine ⟨?_, ?_, ((Below.refl _ w).alloc (Nat.le_refl _) _).alloc (by rw [Deep.nblk_alloc]; omega) _, by rw [Deep.nblk_alloc, Deep.nblk_alloc]⟩
  · rw [Deep.blk_alloc_lt _ _ _ (by rw [Deep.nblk_alloc]; omega)]
    exact Deep.blk_alloc_new _ _
  · have e := Deep.blk_alloc_new (w.alloc a) b
    rwa [Deep.nblk_alloc] at e

end Go.Proofs.Ytmlmepbnjlepnaa
