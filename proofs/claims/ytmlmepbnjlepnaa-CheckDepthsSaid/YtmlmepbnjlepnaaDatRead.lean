/-
  What a law's argument is, where it is a datum: it reads as a tree (DatCopy's, Datum's words); no condition.
-/
import Derived.Test.YtmlmepbnjlepnaaDatum
import Derived.Test.YtmlmepbnjlepnaaLaw
import Derived.ChangeArms
namespace Go.Proofs.Ytmlmepbnjlepnaa
open Go.RowKit Go.ChangeShapes Go.WideShapes Go.ChangeAt

set_option maxRecDepth 100000
section
variable {H : Type} {enc : TypeId × Value → H} {w : World} {held : Bool}

/-- No weight passes the reach. -/
def Sized (l : List Nat) : Prop := l.all (· ≤ reachBytes) = true
theorem Sized.left {a b : List Nat} (h : Sized (a ++ b)) : Sized a := by unfold Sized at *; rw [List.all_append, Bool.and_eq_true] at h; exact h.1
theorem Sized.right {a b : List Nat} (h : Sized (a ++ b)) : Sized b := by unfold Sized at *; rw [List.all_append, Bool.and_eq_true] at h; exact h.2
theorem Sized.head {a : Nat} {b : List Nat} (h : Sized (a :: b)) : a ≤ reachBytes := by unfold Sized at *; rw [List.all_cons, Bool.and_eq_true] at h; simpa using h.1
theorem Sized.tail {a : Nat} {b : List Nat} (h : Sized (a :: b)) : Sized b := by unfold Sized at *; rw [List.all_cons, Bool.and_eq_true] at h; exact h.2

theorem sized_all {P : Program} {t : TypeId} {l : List (DataW H)} (h : Sized (DataW.weightsAll P t l)) : ∀ d ∈ l, Sized (d.weights P t) := by
  induction l with
  | nil => intro d hd; cases hd
  | cons x l ih =>
    rw [DataW.weightsAll] at h
    intro d hd
    rcases List.mem_cons.1 hd with rfl | hd
    · exact h.left
    · exact ih h.right d hd

theorem list_choose {α : Type} {R : Nat → α → Prop} : ∀ (n : Nat), (∀ i, i < n → ∃ a, R i a) → ∃ l : List α, l.length = n ∧ ∀ (i : Nat) (a : α), l[i]? = some a → R i a
  | 0, _ => ⟨[], rfl, fun i a h => by simp at h⟩
  | n + 1, h => by
    obtain ⟨l, hl, hr⟩ := list_choose n fun i hi => h i (by omega)
    obtain ⟨a, ha⟩ := h n (by omega)
    refine ⟨l ++ [a], by simp [hl], fun i x hx => ?_⟩
    by_cases hi : i < l.length
    · rw [List.getElem?_append_left hi] at hx; exact hr i x hx
    · have hi' : i = n := by
        have := (List.getElem?_eq_some_iff.1 hx).1
        simp [hl] at this; omega
      subst hi'
      rw [← hl, List.getElem?_append_right (Nat.le_refl _), Nat.sub_self] at hx
      cases hx
      exact ha

def DL.of : List (Hd × DL × DL) → DL
  | [] => .nil
  | x :: l => .cons x.1 x.2.1 x.2.2 (DL.of l)
theorem DL.of_elems : ∀ l, (DL.of l).elems = l
  | [] => rfl
  | x :: l => by simp [DL.of, DL.elems, DL.of_elems l]

/-- Cells that were read. -/
theorem cells_at {a : Addr} {n : Nat} {cs : List Value} (h : w.cells? 0 a n = some cs) (hn : 0 < n) : a.spot = none ∧ a.block < w.heap.size ∧ cs.length = n ∧ CellsAt w a.block a.off cs := by
  obtain ⟨-, hl, hc⟩ := World.cells?_some h
  have h0 := hc 0 hn
  obtain ⟨v, hv⟩ : ∃ v, cs[0]? = some v := ⟨_, List.getElem?_eq_getElem (by omega)⟩
  rw [hv] at h0
  have hsp : a.spot = none := by
    cases hs : a.spot with
    | none => rfl
    | some s =>
      exfalso
      unfold World.cell? at h0
      split at h0
      · simp [Addr.add, hs] at h0
        try (revert h0; split <;> simp_all)
      · cases h0
  refine ⟨hsp, World.cells?_block h hn, hl, fun j u hj => ?_⟩
  have hjn : j < n := by rw [← hl]; exact (List.getElem?_eq_some_iff.1 hj).1
  have e := hc j hjn
  obtain ⟨b, o, s⟩ := a
  dsimp only at hsp
  subst hsp
  rw [show (⟨b, o, none⟩ : Addr).add j = ⟨b, o + j, none⟩ from by unfold Addr.add; split <;> simp_all, hj] at e
  exact e

theorem add_none (b o i : Nat) : (⟨b, o, none⟩ : Addr).add i = ⟨b, o + i, none⟩ := by unfold Addr.add; split <;> simp_all

/-- The first element tells the address. -/
theorem first_spot {a : Addr} {n : Nat} {cs : List Value} (h : w.cells? 0 (a.add (0 * n)) n = some cs) (hn : 0 < n) : ∃ b o, a = ⟨b, o, none⟩ ∧ b < w.heap.size := by
  rw [Nat.zero_mul, show a.add 0 = a from by simp [Addr.add]] at h
  obtain ⟨h1, h2, -⟩ := cells_at h hn
  obtain ⟨b, o, s⟩ := a
  dsimp only at h1 h2
  subst h1
  exact ⟨b, o, rfl, h2⟩

theorem und_u32 : Try.prog.underlying 87 = some (.int .u32) := by kernel_rfl
theorem size_u32 : Try.prog.cellsOf 87 = 1 := by kernel_rfl
theorem bytes_u32 : Try.prog.bytesOf 87 = 4 := by kernel_rfl
theorem size_datum : Try.prog.cellsOf 28 = 7 := by kernel_rfl
theorem bytes_datum : Try.prog.bytesOf 28 = 112 := by kernel_rfl

theorem read_mag {fuel : Nat} {cs : List Value} {x : DataW H × List MemPlace} (h : DataW.trod enc Try.prog w 0 (fun _ => true) held fuel 23 cs = some x) (hs : Sized (x.1.weights Try.prog 23)) :
    ∃ v m, cs = [v] ∧ MagR w (fun _ => True) v m := by
  rcases DataW.trod_slice Try.underlying23 h with ⟨rfl, rfl⟩ | ⟨a, len, cap, elems, rest, n, rfl, rfl, rfl, -, -, -, hel, hi, -, -⟩
  · exact ⟨_, [], rfl, none, 0, rfl, fun _ => rfl, by simp, fun h => by simp at h⟩
  · rw [size_u32] at hi
    have hsz : len * 4 ≤ reachBytes := by
      unfold DataW.weights at hs
      rw [Try.underlying23] at hs
      have e := hs.head
      rw [bytes_u32, List.length_map, List.length_map, hel] at e
      omega
    by_cases hl0 : len = 0
    · subst hl0
      exact ⟨_, [], rfl, some a, cap, rfl, fun h => (nomatch h), by simp, fun h => by simp at h⟩
    have hcs : ∀ i, i < len → ∃ cs' y, w.cells? 0 (a.add (i * 1)) 1 = some cs' ∧ DataW.trod enc Try.prog w 0 (fun _ => true) held n 87 cs' = some y := by
      intro i hlt
      have e := hi i hlt
      obtain ⟨y, hy⟩ : ∃ y, elems[i]? = some y := ⟨_, List.getElem?_eq_getElem (by omega)⟩
      rw [hy, Option.bind_eq_some_iff] at e
      obtain ⟨cs', h1, h2⟩ := e
      exact ⟨cs', y, h1, h2⟩
    obtain ⟨b, o, rfl, hb⟩ : ∃ b o, a = ⟨b, o, none⟩ ∧ b < w.heap.size := by
      obtain ⟨cs', y, h1, -⟩ := hcs 0 (by omega)
      exact first_spot h1 (by omega)
    obtain ⟨m, hm, hr⟩ := list_choose (R := fun i k => w.cell? ⟨b, o + i, none⟩ = some (.int .u32 k)) len (fun i hlt => by
      obtain ⟨cs', y, h1, h2⟩ := hcs i hlt
      obtain ⟨k, rfl, -⟩ := DataW.trod_int und_u32 h2
      rw [add_none] at h1
      have e6 := (cells_at h1 (by omega)).2.2.2 0 _ rfl
      exact ⟨k, by simpa using e6⟩)
    refine ⟨_, m, rfl, some ⟨b, o, none⟩, cap, by rw [hm], fun h => (nomatch h), by rw [hm]; simp only [reachBytes] at hsz; omega, fun h0 => ⟨b, o, rfl, trivial, hb, fun j hj => ?_⟩⟩
    rw [hr j m[j] (List.getElem?_eq_getElem hj)]
    simp [List.getD, hj]

/-- A datum's cells, read with so much fuel. -/
def ReadD (enc : TypeId × Value → H) (w : World) (held : Bool) (fuel : Nat) : Prop :=
  ∀ (cs : List Value) (x : DataW H × List MemPlace), DataW.trod enc Try.prog w 0 (fun _ => true) held fuel 28 cs = some x → Sized (x.1.weights Try.prog 28) → ∃ e, ElemR w (fun _ => True) cs e

theorem read_slice {fuel : Nat} (IH : ∀ n, n < fuel → ReadD enc w held n) {cs : List Value} {x : DataW H × List MemPlace} (h : DataW.trod enc Try.prog w 0 (fun _ => true) held fuel 26 cs = some x) (hs : Sized (x.1.weights Try.prog 26)) :
    ∃ v d, cs = [v] ∧ SliceR w (fun _ => True) v d := by
  rcases DataW.trod_slice Try.underlying26 h with ⟨rfl, rfl⟩ | ⟨a, len, cap, elems, rest, n, rfl, rfl, rfl, -, -, -, hel, hi, -, -⟩
  · exact ⟨_, .nil, rfl, none, 0, rfl, by simp [DL.len, DL.elems], fun h => by simp [DL.len, DL.elems] at h⟩
  · rw [size_datum] at hi
    unfold DataW.weights at hs
    rw [Try.underlying26] at hs
    have hw := sized_all hs.tail.left
    have hsz : len * 112 ≤ reachBytes := by
      have e := hs.head
      rw [bytes_datum, List.length_map, List.length_map, hel] at e
      omega
    by_cases hl0 : len = 0
    · subst hl0
      exact ⟨_, .nil, rfl, some a, cap, rfl, by simp [DL.len, DL.elems], fun h => by simp [DL.len, DL.elems] at h⟩
    have hcs : ∀ i, i < len → ∃ cs' e, w.cells? 0 (a.add (i * 7)) 7 = some cs' ∧ ElemR w (fun _ => True) cs' e := by
      intro i hlt
      have e := hi i hlt
      obtain ⟨y, hy⟩ : ∃ y, elems[i]? = some y := ⟨_, List.getElem?_eq_getElem (by omega)⟩
      rw [hy, Option.bind_eq_some_iff] at e
      obtain ⟨cs', h1, h2⟩ := e
      obtain ⟨e, he⟩ := IH n (by omega) cs' y h2 (hw y.1 (List.mem_map.2 ⟨y, List.mem_of_getElem? hy, rfl⟩))
      exact ⟨cs', e, h1, he⟩
    obtain ⟨b, o, rfl, hb⟩ : ∃ b o, a = ⟨b, o, none⟩ ∧ b < w.heap.size := by
      obtain ⟨cs', y, h1, -⟩ := hcs 0 (by omega)
      exact first_spot h1 (by omega)
    obtain ⟨l, hl, hr⟩ := list_choose (R := fun i (e : Hd × DL × DL) => ∃ cs, ElemR w (fun _ => True) cs e ∧ CellsAt w b (o + i * 7) cs) len (fun i hlt => by
      obtain ⟨cs', e, h1, he⟩ := hcs i hlt
      rw [add_none] at h1
      exact ⟨e, cs', he, (cells_at h1 (by omega)).2.2.2⟩)
    have hdl : (DL.of l).len = len := by rw [DL.len, DL.of_elems, hl]
    refine ⟨_, DL.of l, rfl, some ⟨b, o, none⟩, cap, by rw [hdl], by rw [hdl]; simp only [reachBytes] at hsz; omega, fun h0 => ⟨b, o, rfl, trivial, hb, rowR_of _ _ _ fun k e hk => ?_⟩⟩
    rw [DL.of_elems] at hk
    exact hr k e hk

theorem six {α : Type} {l : List α} (h : l.length = 6) : ∃ a b c d e f, l = [a, b, c, d, e, f] := by
  match l, h with
  | [a, b, c, d, e, f], _ => exact ⟨a, b, c, d, e, f, rfl⟩
theorem seven {α : Type} {l : List α} (h : l.length = 7) : ∃ a b c d e f g, l = [a, b, c, d, e, f, g] := by
  match l, h with
  | [a, b, c, d, e, f, g], _ => exact ⟨a, b, c, d, e, f, g, rfl⟩

theorem size_int : Try.prog.cellsOf 3 = 1 := by kernel_rfl
theorem size_bool : Try.prog.cellsOf 4 = 1 := by kernel_rfl
theorem size_string : Try.prog.cellsOf 9 = 1 := by kernel_rfl
theorem size_num : Try.prog.cellsOf 25 = 2 := by kernel_rfl
theorem size_mag : Try.prog.cellsOf 23 = 1 := by kernel_rfl
theorem size_items : Try.prog.cellsOf 26 = 1 := by kernel_rfl

theorem read_datum : ∀ fuel, ReadD enc w held fuel := by
  intro fuel
  induction fuel using Nat.strongRecOn with
  | ind fuel IH =>
    intro cs x h hs
    obtain ⟨xs, n, rfl, rfl, hl, hxl, hf⟩ := DataW.trod_struct Try.underlying28 h
    rw [size_datum] at hl
    obtain ⟨c0, c1, c2, c3, c4, c5, c6, rfl⟩ := seven hl
    obtain ⟨x0, x1, x2, x3, x4, x5, rfl⟩ := six (l := xs) hxl
    have h0 : DataW.trod enc Try.prog w 0 (fun _ => true) held n 3 [c0] = some x0 := by simpa [size_int] using hf 0 _ rfl
    have h1 : DataW.trod enc Try.prog w 0 (fun _ => true) held n 3 [c1] = some x1 := by simpa [size_int] using hf 1 _ rfl
    have h2 : DataW.trod enc Try.prog w 0 (fun _ => true) held n 25 [c2, c3] = some x2 := by simpa [size_num] using hf 2 _ rfl
    have h3 : DataW.trod enc Try.prog w 0 (fun _ => true) held n 9 [c4] = some x3 := by simpa [size_string] using hf 3 _ rfl
    have h4 : DataW.trod enc Try.prog w 0 (fun _ => true) held n 26 [c5] = some x4 := by simpa [size_items] using hf 4 _ rfl
    have h5 : DataW.trod enc Try.prog w 0 (fun _ => true) held n 26 [c6] = some x5 := by simpa [size_items] using hf 5 _ rfl
    unfold DataW.weights at hs
    rw [Try.underlying28] at hs
    simp only [List.map_cons, List.map_nil, DataW.weightsEach, List.append_nil] at hs
    have s2 := hs.right.right.left
    have s4 := hs.right.right.right.right.left
    have s5 := hs.right.right.right.right.right
    clear hf h hs
    obtain ⟨ys, m, rfl, rfl, -, hyl, hg⟩ := DataW.trod_struct Try.underlying25 h2
    obtain ⟨y0, y1, rfl⟩ : ∃ a b, ys = [a, b] := by
      match ys, hyl with
      | [a, b], _ => exact ⟨a, b, rfl⟩
    have g0 : DataW.trod enc Try.prog w 0 (fun _ => true) held m 4 [c2] = some y0 := by simpa [size_bool] using hg 0 _ rfl
    have g1 : DataW.trod enc Try.prog w 0 (fun _ => true) held m 23 [c3] = some y1 := by simpa [size_mag] using hg 1 _ rfl
    unfold DataW.weights at s2
    rw [Try.underlying25] at s2
    simp only [List.map_cons, List.map_nil, DataW.weightsEach, List.append_nil] at s2
    obtain ⟨kd, e0, -, -⟩ := DataW.trod_int Try.underlying3 h0
    obtain ⟨kn, e1, -, -⟩ := DataW.trod_int Try.underlying3 h1
    obtain ⟨ng, e2, -⟩ := DataW.trod_bool Try.underlying4 g0
    obtain ⟨tx, e4, -, -⟩ := DataW.trod_string Try.underlying9 h3
    obtain ⟨vm, mg, e3, hm⟩ := read_mag g1 s2.right
    obtain ⟨vi, di, e5, hi⟩ := read_slice (fun k hk => IH k (by omega)) h4 s4
    obtain ⟨vr, dr, e6, hr⟩ := read_slice (fun k hk => IH k (by omega)) h5 s5
    cases e0; cases e1; cases e2; cases e3; cases e4; cases e5; cases e6
    exact ⟨(⟨kd, kn, ng, mg, tx⟩, di, dr), _, _, _, rfl, hm, hi, hr⟩

end
end Go.Proofs.Ytmlmepbnjlepnaa
