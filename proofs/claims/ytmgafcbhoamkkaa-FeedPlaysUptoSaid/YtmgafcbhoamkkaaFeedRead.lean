/-
  What a law's argument is, where it is a slice of feeds: its cells; no condition.
-/
import Derived.Test.YtmgafcbhoamkkaaIntsRead
import Derived.Test.YtmgafcbhoamkkaaFeedSort
import Derived.Test.YtmgafcbhoamkkaaFeedBase
namespace Go.Proofs.Ytmgafcbhoamkkaa
open Go.RowKit Go.ChangeShapes Go.WideShapes Go.ChangeAt

/-- A slice of feeds; the block where it lies, if it lies anywhere, is one of Q. -/
def FeedsR (w : World) (Q : Nat → Prop) (v : Value) (fs : List F) : Prop :=
  ∃ p c, v = .slice p fs.length c ∧ fs.length ≤ 4398046510976 ∧ (p = none → c = 0) ∧ (∀ x ∈ fs, fits x.1 ∧ fits x.2.1) ∧
    (0 < fs.length → ∃ b o, p = some ⟨b, o, none⟩ ∧ Q b ∧ b < w.heap.size ∧ ∀ i x, fs[i]? = some x → ∀ j u, (encF x)[j]? = some u → w.cell? ⟨b, o + i * 4 + j, none⟩ = some u)

theorem FeedsR.kept {w w' : World} {Q Q' : Nat → Prop} {v : Value} {fs : List F} (h : FeedsR w Q v fs) (hQ : ∀ b, Q b → b < w.heap.size → Q' b ∧ b < w'.heap.size ∧ w'.heap[b]? = w.heap[b]?) : FeedsR w' Q' v fs := by
  obtain ⟨p, c, h1, h2, hn, hf, h3⟩ := h
  refine ⟨p, c, h1, h2, hn, hf, fun h0 => ?_⟩
  obtain ⟨b, o, e1, e2, e3, e4⟩ := h3 h0
  obtain ⟨k1, k2, k3⟩ := hQ b e2 e3
  exact ⟨b, o, e1, k1, k2, fun i x hi j u hj => (World.cell?_of_block (w := w) k3).trans (e4 i x hi j u hj)⟩

theorem FeedsR.below {w w' : World} {Q : Nat → Prop} {v : Value} {fs : List F} (h : FeedsR w Q v fs) (hb : Below w.heap.size w w') : FeedsR w' Q v fs :=
  h.kept fun b hQ hlt => ⟨hQ, Nat.lt_of_lt_of_le hlt hb.size, hb.block b hlt⟩

set_option maxRecDepth 100000
section
variable {H : Type} {enc : TypeId × Value → H} {w : World} {held : Bool}

theorem size_feed : Try.prog.cellsOf 23 = 4 := by kernel_rfl
theorem bytes_feed : Try.prog.bytesOf 23 = 32 := by kernel_rfl

theorem feed_choose {R : Nat → F → Prop} : ∀ (n : Nat), (∀ i, i < n → ∃ a, R i a) → ∃ l : List F, l.length = n ∧ ∀ (i : Nat) (a : F), l[i]? = some a → R i a
  | 0, _ => ⟨[], rfl, fun i a h => by simp at h⟩
  | n + 1, h => by
    obtain ⟨l, hl, hr⟩ := feed_choose n fun i hi => h i (by omega)
    obtain ⟨a, ha⟩ := h n (by omega)
    refine ⟨l ++ [a], by simp [hl], fun i x hx => ?_⟩
    by_cases hi : i < l.length
    · rw [List.getElem?_append_left hi] at hx; exact hr i x hx
    · have hi' : i = n := by
        have := (List.getElem?_eq_some_iff.1 hx).1
        simp [hl] at this; omega
      subst hi'
      rw [← hl, List.getElem?_append_right (Nat.le_refl _), Nat.sub_self] at hx
      cases hx
      exact ha

/-- Cells that were read. -/
def CellsAt (w : World) (b o : Nat) (cs : List Value) : Prop := ∀ j u, cs[j]? = some u → w.cell? ⟨b, o + j, none⟩ = some u

theorem cells_at {a : Addr} {n : Nat} {cs : List Value} (h : w.cells? 0 a n = some cs) (hn : 0 < n) : a.spot = none ∧ a.block < w.heap.size ∧ cs.length = n ∧ CellsAt w a.block a.off cs := by
  obtain ⟨-, hl, hc⟩ := World.cells?_some h
  have h0 := hc 0 hn
  obtain ⟨v, hv⟩ : ∃ v, cs[0]? = some v := ⟨_, List.getElem?_eq_getElem (by omega)⟩
  rw [hv] at h0
  have hsp : a.spot = none := by
    cases hs : a.spot with
    | none => rfl
    | some s =>
      exfalso
      unfold World.cell? at h0
      split at h0
      · simp [Addr.add, hs] at h0
        try (revert h0; split <;> simp_all)
      · cases h0
  refine ⟨hsp, World.cells?_block h hn, hl, fun j u hj => ?_⟩
  have hjn : j < n := by rw [← hl]; exact (List.getElem?_eq_some_iff.1 hj).1
  have e := hc j hjn
  obtain ⟨b, o, s⟩ := a
  dsimp only at hsp
  subst hsp
  rw [show (⟨b, o, none⟩ : Addr).add j = ⟨b, o + j, none⟩ from by unfold Addr.add; split <;> simp_all, hj] at e
  exact e

theorem add_none (b o i : Nat) : (⟨b, o, none⟩ : Addr).add i = ⟨b, o + i, none⟩ := by unfold Addr.add; split <;> simp_all

/-- The first element tells the address. -/
theorem first_spot {a : Addr} {n : Nat} {cs : List Value} (h : w.cells? 0 (a.add (0 * n)) n = some cs) (hn : 0 < n) : ∃ b o, a = ⟨b, o, none⟩ ∧ b < w.heap.size := by
  rw [Nat.zero_mul, show a.add 0 = a from by simp [Addr.add]] at h
  obtain ⟨h1, h2, -⟩ := cells_at h hn
  obtain ⟨b, o, s⟩ := a
  dsimp only at h1 h2
  subst h1
  exact ⟨b, o, rfl, h2⟩

theorem four {α : Type} {l : List α} (h : l.length = 4) : ∃ a b c d, l = [a, b, c, d] := by
  match l, h with
  | [a, b, c, d], _ => exact ⟨a, b, c, d, rfl⟩

/-- One feed. -/
theorem read_feed {fuel : Nat} {cs : List Value} {x : DataW H × List MemPlace} (h : DataW.trod enc Try.prog w 0 (fun _ => true) held fuel 23 cs = some x) :
    ∃ y : F, cs = encF y ∧ fits y.1 ∧ fits y.2.1 := by
  obtain ⟨xs, n, rfl, rfl, hl, hxl, hf⟩ := DataW.trod_struct Try.underlying23 h
  rw [size_feed] at hl
  obtain ⟨c0, c1, c2, c3, rfl⟩ := four hl
  obtain ⟨x0, x1, x2, x3, rfl⟩ := four (l := xs) hxl
  have h0 : DataW.trod enc Try.prog w 0 (fun _ => true) held n 3 [c0] = some x0 := by simpa [size_i64] using hf 0 _ rfl
  have h1 : DataW.trod enc Try.prog w 0 (fun _ => true) held n 3 [c1] = some x1 := by simpa [size_i64] using hf 1 _ rfl
  have h2 : DataW.trod enc Try.prog w 0 (fun _ => true) held n 3 [c2] = some x2 := by simpa [size_i64] using hf 2 _ rfl
  have h3 : DataW.trod enc Try.prog w 0 (fun _ => true) held n 3 [c3] = some x3 := by simpa [size_i64] using hf 3 _ rfl
  obtain ⟨k0, e0, r0⟩ := DataW.trod_int Try.underlying3 h0
  obtain ⟨k1, e1, r1⟩ := DataW.trod_int Try.underlying3 h1
  obtain ⟨k2, e2, r2⟩ := DataW.trod_int Try.underlying3 h2
  obtain ⟨k3, e3, r3⟩ := DataW.trod_int Try.underlying3 h3
  cases e0; cases e1; cases e2; cases e3
  exact ⟨(k0, k1, k2, k3), rfl, r0.2, r1.2⟩

theorem read_feeds {fuel : Nat} {cs : List Value} {x : DataW H × List MemPlace} (h : DataW.trod enc Try.prog w 0 (fun _ => true) held fuel 35 cs = some x) (hs : (x.1.weights Try.prog 35).all (· ≤ reachBytes) = true) :
    ∃ v fs, cs = [v] ∧ FeedsR w (fun _ => True) v fs := by
  rcases DataW.trod_slice Try.underlying35 h with ⟨rfl, rfl⟩ | ⟨a, len, cap, elems, rest, n, rfl, rfl, rfl, -, -, -, hel, hi, -, -⟩
  · exact ⟨_, [], rfl, none, 0, rfl, by simp, fun _ => rfl, fun x hx => by (cases hx), fun h => by simp at h⟩
  · rw [size_feed] at hi
    have hsz : len * 32 ≤ reachBytes := by
      unfold DataW.weights at hs
      rw [Try.underlying35] at hs
      rw [List.all_cons, Bool.and_eq_true] at hs
      have e := hs.1
      rw [decide_eq_true_iff, bytes_feed, List.length_map, List.length_map, hel] at e
      omega
    by_cases hl0 : len = 0
    · subst hl0
      exact ⟨_, [], rfl, some a, cap, rfl, by simp, fun h => (nomatch h), fun x hx => by (cases hx), fun h => by simp at h⟩
    have hcs : ∀ i, i < len → ∃ y : F, w.cells? 0 (a.add (i * 4)) 4 = some (encF y) ∧ fits y.1 ∧ fits y.2.1 := by
      intro i hlt
      have e := hi i hlt
      obtain ⟨y, hy⟩ : ∃ y, elems[i]? = some y := ⟨_, List.getElem?_eq_getElem (by omega)⟩
      rw [hy, Option.bind_eq_some_iff] at e
      obtain ⟨cs', h1, h2⟩ := e
      obtain ⟨z, rfl, hz⟩ := read_feed h2
      exact ⟨z, h1, hz⟩
    obtain ⟨b, o, rfl, hb⟩ : ∃ b o, a = ⟨b, o, none⟩ ∧ b < w.heap.size := by
      obtain ⟨y, h1, -⟩ := hcs 0 (by omega)
      exact first_spot h1 (by omega)
    obtain ⟨m, hm, hr⟩ := feed_choose (R := fun i y => CellsAt w b (o + i * 4) (encF y) ∧ fits y.1 ∧ fits y.2.1) len (fun i hlt => by
      obtain ⟨y, h1, h2⟩ := hcs i hlt
      rw [add_none] at h1
      exact ⟨y, (cells_at h1 (by omega)).2.2.2, h2⟩)
    refine ⟨_, m, rfl, some ⟨b, o, none⟩, cap, by rw [hm], by rw [hm]; simp only [reachBytes] at hsz; omega, fun h => (nomatch h), fun y hy => ?_, fun h0 => ⟨b, o, rfl, trivial, hb, fun i y hy j u hu => (hr i y hy).1 j u hu⟩⟩
    obtain ⟨i, hi⟩ := List.mem_iff_getElem?.1 hy
    exact (hr i y hi).2

end
end Go.Proofs.Ytmgafcbhoamkkaa
