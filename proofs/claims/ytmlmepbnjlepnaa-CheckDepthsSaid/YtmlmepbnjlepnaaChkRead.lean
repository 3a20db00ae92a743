/-
  What a law's argument is, where it is a program's protos: they lie in memory as PsAt says, and all their lists may be read; no condition.
-/
import Derived.Test.YtmlmepbnjlepnaaChkCopyL
import Derived.Test.YtmlmepbnjlepnaaDatRead
namespace Go.Proofs.Ytmlmepbnjlepnaa
open Go.RowKit Go.ChangeShapes Go.WideShapes Go.ChangeAt

set_option maxRecDepth 100000
section
variable {H : Type} {enc : TypeId × Value → H} {w : World} {held : Bool}

theorem wf_low {a : Int} (h : (Lit.int .i64 a).wf = true) : a ≤ 9223372036854775807 := by
  have e1 : IntKind.i64.min = -9223372036854775808 := by decide
  have e2 : IntKind.i64.max = 9223372036854775807 := by decide
  have h2 : -9223372036854775808 ≤ a ∧ a ≤ 9223372036854775807 := by simpa only [Lit.wf, e1, e2, Bool.and_eq_true, decide_eq_true_eq] using h
  exact h2.2

theorem size_ins : Try.prog.cellsOf 34 = 3 := by kernel_rfl
theorem bytes_ins : Try.prog.bytesOf 34 = 24 := by kernel_rfl
theorem size_proto : Try.prog.cellsOf 32 = 7 := by kernel_rfl
theorem bytes_proto : Try.prog.bytesOf 32 = 112 := by kernel_rfl
theorem bytes_str : Try.prog.bytesOf 9 = 16 := by kernel_rfl
theorem size_code : Try.prog.cellsOf 29 = 1 := by kernel_rfl
theorem size_names : Try.prog.cellsOf 30 = 1 := by kernel_rfl

theorem three {α : Type} {l : List α} (h : l.length = 3) : ∃ a b c, l = [a, b, c] := by
  match l, h with
  | [a, b, c], _ => exact ⟨a, b, c, rfl⟩

theorem read_ins {fuel : Nat} {cs : List Value} {x : DataW H × List MemPlace} (h : DataW.trod enc Try.prog w 0 (fun _ => true) held fuel 34 cs = some x) : ∃ y : Ins, cs = insV y ∧ y.b ≤ 9223372036854775807 := by
  obtain ⟨xs, n, rfl, rfl, hl, hxl, hf⟩ := DataW.trod_struct Try.underlying34 h
  rw [size_ins] at hl
  obtain ⟨c0, c1, c2, rfl⟩ := three hl
  obtain ⟨x0, x1, x2, rfl⟩ := three (l := xs) hxl
  have h0 : DataW.trod enc Try.prog w 0 (fun _ => true) held n 3 [c0] = some x0 := by simpa [size_int] using hf 0 _ rfl
  have h1 : DataW.trod enc Try.prog w 0 (fun _ => true) held n 3 [c1] = some x1 := by simpa [size_int] using hf 1 _ rfl
  have h2 : DataW.trod enc Try.prog w 0 (fun _ => true) held n 3 [c2] = some x2 := by simpa [size_int] using hf 2 _ rfl
  obtain ⟨k0, e0, r0⟩ := DataW.trod_int Try.underlying3 h0
  obtain ⟨k1, e1, r1⟩ := DataW.trod_int Try.underlying3 h1
  obtain ⟨k2, e2, r2⟩ := DataW.trod_int Try.underlying3 h2
  cases e0; cases e1; cases e2
  exact ⟨⟨k0, k1, k2⟩, rfl, wf_low r2.2⟩

/-- Code that may be read. -/
def CodeR (w : World) (p : Option Addr) (l : List Ins) (c : Nat) : Prop :=
  (p = none → c = 0) ∧ l.length ≤ 5864062014635 ∧ (∀ x ∈ l, x.b ≤ 9223372036854775807) ∧ (0 < l.length → ∃ b o, p = some ⟨b, o, none⟩ ∧ b < w.heap.size ∧ ∀ i x, l[i]? = some x → CellsAt w b (o + i * 3) (insV x))

theorem read_code {fuel : Nat} {cs : List Value} {x : DataW H × List MemPlace} (h : DataW.trod enc Try.prog w 0 (fun _ => true) held fuel 29 cs = some x) (hs : Sized (x.1.weights Try.prog 29)) :
    ∃ p l c, cs = [.slice p l.length c] ∧ CodeR w p l c := by
  rcases DataW.trod_slice Try.underlying29 h with ⟨rfl, rfl⟩ | ⟨a, len, cap, elems, rest, n, rfl, rfl, rfl, -, -, -, hel, hi, -, -⟩
  · exact ⟨none, [], 0, rfl, fun _ => rfl, by simp, fun x hx => by (cases hx), fun h => by simp at h⟩
  · rw [size_ins] at hi
    have hsz : len * 24 ≤ reachBytes := by
      unfold DataW.weights at hs
      rw [Try.underlying29] at hs
      have e := hs.head
      rw [bytes_ins, List.length_map, List.length_map, hel] at e
      omega
    by_cases hl0 : len = 0
    · subst hl0
      exact ⟨some a, [], cap, rfl, fun h => (nomatch h), by simp, fun x hx => by (cases hx), fun h => by simp at h⟩
    have hcs : ∀ i, i < len → ∃ y : Ins, w.cells? 0 (a.add (i * 3)) 3 = some (insV y) ∧ y.b ≤ 9223372036854775807 := by
      intro i hlt
      have e := hi i hlt
      obtain ⟨y, hy⟩ : ∃ y, elems[i]? = some y := ⟨_, List.getElem?_eq_getElem (by omega)⟩
      rw [hy, Option.bind_eq_some_iff] at e
      obtain ⟨cs', h1, h2⟩ := e
      obtain ⟨z, rfl, hz⟩ := read_ins h2
      exact ⟨z, h1, hz⟩
    obtain ⟨b, o, rfl, hb⟩ : ∃ b o, a = ⟨b, o, none⟩ ∧ b < w.heap.size := by
      obtain ⟨y, h1, -⟩ := hcs 0 (by omega)
      exact first_spot h1 (by omega)
    obtain ⟨m, hm, hr⟩ := list_choose (R := fun i (y : Ins) => CellsAt w b (o + i * 3) (insV y) ∧ y.b ≤ 9223372036854775807) len (fun i hlt => by
      obtain ⟨y, h1, h2⟩ := hcs i hlt
      rw [add_none] at h1
      exact ⟨y, (cells_at h1 (by omega)).2.2.2, h2⟩)
    refine ⟨some ⟨b, o, none⟩, m, cap, by rw [hm], fun h => (nomatch h), by rw [hm]; simp only [reachBytes] at hsz; omega, fun y hy => ?_, fun h0 => ⟨b, o, rfl, hb, fun i y hy => (hr i y hy).1⟩⟩
    obtain ⟨i, hi⟩ := List.mem_iff_getElem?.1 hy
    exact (hr i y hi).2

theorem read_names {fuel : Nat} {cs : List Value} {x : DataW H × List MemPlace} (h : DataW.trod enc Try.prog w 0 (fun _ => true) held fuel 30 cs = some x) (hs : Sized (x.1.weights Try.prog 30)) :
    ∃ p n c, cs = [.slice p n c] ∧ NamesR w p n c := by
  rcases DataW.trod_slice Try.underlying30 h with ⟨rfl, rfl⟩ | ⟨a, len, cap, elems, rest, n, rfl, rfl, rfl, -, -, -, hel, hi, -, -⟩
  · exact ⟨none, 0, 0, rfl, fun _ => rfl, by omega, [], rfl, fun h => by omega⟩
  · rw [size_string] at hi
    have hsz : len * 16 ≤ reachBytes := by
      unfold DataW.weights at hs
      rw [Try.underlying30] at hs
      have e := hs.head
      rw [bytes_str, List.length_map, List.length_map, hel] at e
      omega
    by_cases hl0 : len = 0
    · subst hl0
      exact ⟨some a, 0, cap, rfl, fun h => (nomatch h), by omega, [], rfl, fun h => by omega⟩
    have hcs : ∀ i, i < len → ∃ s : ByteArray, w.cells? 0 (a.add (i * 1)) 1 = some [.string s] := by
      intro i hlt
      have e := hi i hlt
      obtain ⟨y, hy⟩ : ∃ y, elems[i]? = some y := ⟨_, List.getElem?_eq_getElem (by omega)⟩
      rw [hy, Option.bind_eq_some_iff] at e
      obtain ⟨cs', h1, h2⟩ := e
      obtain ⟨s, rfl, -, -⟩ := DataW.trod_string Try.underlying9 h2
      exact ⟨s, h1⟩
    obtain ⟨b, o, rfl, hb⟩ : ∃ b o, a = ⟨b, o, none⟩ ∧ b < w.heap.size := by
      obtain ⟨y, h1⟩ := hcs 0 (by omega)
      exact first_spot h1 (by omega)
    obtain ⟨m, hm, hr⟩ := list_choose (R := fun i (s : ByteArray) => w.cell? ⟨b, o + i, none⟩ = some (.string s)) len (fun i hlt => by
      obtain ⟨s, h1⟩ := hcs i hlt
      rw [add_none] at h1
      have e := (cells_at h1 (by omega)).2.2.2 0 _ rfl
      exact ⟨s, by simpa using e⟩)
    exact ⟨some ⟨b, o, none⟩, len, cap, rfl, fun h => (nomatch h), by simp only [reachBytes] at hsz; omega, m, hm, fun h0 => ⟨b, o, rfl, hb, hr⟩⟩

theorem code_at {v : PrV} (h : CodeR w v.ca v.pr.code v.ccap) : CodeAt w v := fun i hi => by
  obtain ⟨-, -, -, h4⟩ := h
  obtain ⟨b, o, e1, e2, e3⟩ := h4 (by omega)
  have hx : v.pr.code[i]? = some (v.pr.code.getD i ⟨0, 0, 0⟩) := by
    rw [List.getElem?_eq_getElem hi]; simp [List.getD, hi]
  have e := e3 i _ hx
  exact ⟨b, o, e1, e2, by simpa using e 0 _ rfl, e 1 _ rfl, e 2 _ rfl⟩

theorem read_proto {fuel : Nat} {cs : List Value} {x : DataW H × List MemPlace} (h : DataW.trod enc Try.prog w 0 (fun _ => true) held fuel 32 cs = some x) (hs : Sized (x.1.weights Try.prog 32)) :
    ∃ v : PrV, cs = v.cells ∧ SrcR w v ∧ v.pr.nc ≤ 1256584717421 ∧ v.pr.nn ≤ 8796093021952 ∧ v.pr.code.length ≤ 5864062014635 ∧ ∀ x ∈ v.pr.code, x.b ≤ 9223372036854775807 := by
  obtain ⟨xs, n, rfl, rfl, hl, hxl, hf⟩ := DataW.trod_struct Try.underlying32 h
  rw [size_proto] at hl
  obtain ⟨c0, c1, c2, c3, c4, c5, c6, rfl⟩ := seven hl
  obtain ⟨x0, x1, x2, x3, x4, x5, x6, rfl⟩ := seven (l := xs) hxl
  have h0 : DataW.trod enc Try.prog w 0 (fun _ => true) held n 9 [c0] = some x0 := by simpa [size_string] using hf 0 _ rfl
  have h1 : DataW.trod enc Try.prog w 0 (fun _ => true) held n 3 [c1] = some x1 := by simpa [size_int, size_string] using hf 1 _ rfl
  have h2 : DataW.trod enc Try.prog w 0 (fun _ => true) held n 3 [c2] = some x2 := by simpa [size_int, size_string] using hf 2 _ rfl
  have h3 : DataW.trod enc Try.prog w 0 (fun _ => true) held n 4 [c3] = some x3 := by simpa [size_int, size_string, size_bool] using hf 3 _ rfl
  have h4 : DataW.trod enc Try.prog w 0 (fun _ => true) held n 29 [c4] = some x4 := by simpa [size_int, size_string, size_bool, size_code] using hf 4 _ rfl
  have h5 : DataW.trod enc Try.prog w 0 (fun _ => true) held n 26 [c5] = some x5 := by simpa [size_int, size_string, size_bool, size_code, size_items] using hf 5 _ rfl
  have h6 : DataW.trod enc Try.prog w 0 (fun _ => true) held n 30 [c6] = some x6 := by simpa [size_int, size_string, size_bool, size_code, size_items, size_names] using hf 6 _ rfl
  unfold DataW.weights at hs
  rw [Try.underlying32] at hs
  simp only [List.map_cons, List.map_nil, DataW.weightsEach, List.append_nil] at hs
  have s4 := hs.right.right.right.right.left
  have s5 := hs.right.right.right.right.right.left
  have s6 := hs.right.right.right.right.right.right
  obtain ⟨nm, e0, -, -⟩ := DataW.trod_string Try.underlying9 h0
  obtain ⟨pa, e1, -⟩ := DataW.trod_int Try.underlying3 h1
  obtain ⟨pf, e2, -⟩ := DataW.trod_int Try.underlying3 h2
  obtain ⟨pr, e3, -⟩ := DataW.trod_bool Try.underlying4 h3
  obtain ⟨ca, code, ccap, e4, hc⟩ := read_code h4 s4
  obtain ⟨vk, d, e5, hd⟩ := read_slice (fun k _ => read_datum k) h5 s5
  obtain ⟨na, nn, ncap, e6, hn⟩ := read_names h6 s6
  obtain ⟨ka, kcap, e7, hdl, -⟩ := id hd
  cases e0; cases e1; cases e2; cases e3; cases e4; cases e5; cases e6
  subst e7
  have hcat : CodeAt w ⟨nm, ⟨pa, pf, pr, code, d.len, nn⟩, ca, ccap, ka, kcap, na, ncap⟩ := code_at hc
  exact ⟨⟨nm, ⟨pa, pf, pr, code, d.len, nn⟩, ca, ccap, ka, kcap, na, ncap⟩, rfl, ⟨hcat, hc.1, ⟨d, rfl, hd⟩, hn⟩, hdl, hn.2.1, hc.2.1, hc.2.2.1⟩

theorem read_protos {fuel : Nat} {cs : List Value} {x : DataW H × List MemPlace} (h : DataW.trod enc Try.prog w 0 (fun _ => true) held fuel 38 cs = some x) (hs : Sized (x.1.weights Try.prog 38)) :
    ∃ psa cap L, cs = [.slice psa L.length cap] ∧ PsAt w psa L ∧ (∀ v ∈ L, SrcR w v) ∧ L.length ≤ 1256584717421 := by
  rcases DataW.trod_slice Try.underlying38 h with ⟨rfl, rfl⟩ | ⟨a, len, cap, elems, rest, n, rfl, rfl, rfl, -, -, -, hel, hi, -, -⟩
  · exact ⟨none, 0, [], rfl, ⟨fun i hi => by simp at hi, (fun v hv => nomatch hv), by simp, (fun v hv => nomatch hv), (fun v hv => nomatch hv), (fun v hv => nomatch hv), (fun v hv => nomatch hv)⟩, (fun v hv => nomatch hv), by simp⟩
  · rw [size_proto] at hi
    unfold DataW.weights at hs
    rw [Try.underlying38] at hs
    have hw := sized_all hs.tail.left
    have hsz : len * 112 ≤ reachBytes := by
      have e := hs.head
      rw [bytes_proto, List.length_map, List.length_map, hel] at e
      omega
    by_cases hl0 : len = 0
    · subst hl0
      exact ⟨some a, cap, [], rfl, ⟨fun i hi => by simp at hi, (fun v hv => nomatch hv), by simp, (fun v hv => nomatch hv), (fun v hv => nomatch hv), (fun v hv => nomatch hv), (fun v hv => nomatch hv)⟩, (fun v hv => nomatch hv), by simp⟩
    have hcs : ∀ i, i < len → ∃ v : PrV, w.cells? 0 (a.add (i * 7)) 7 = some v.cells ∧ SrcR w v ∧ v.pr.nc ≤ 1256584717421 ∧ v.pr.nn ≤ 8796093021952 ∧ v.pr.code.length ≤ 5864062014635 ∧ ∀ x ∈ v.pr.code, x.b ≤ 9223372036854775807 := by
      intro i hlt
      have e := hi i hlt
      obtain ⟨y, hy⟩ : ∃ y, elems[i]? = some y := ⟨_, List.getElem?_eq_getElem (by omega)⟩
      rw [hy, Option.bind_eq_some_iff] at e
      obtain ⟨cs', h1, h2⟩ := e
      obtain ⟨v, rfl, hv⟩ := read_proto h2 (hw y.1 (List.mem_map.2 ⟨y, List.mem_of_getElem? hy, rfl⟩))
      exact ⟨v, h1, hv⟩
    obtain ⟨b, o, rfl, hb⟩ : ∃ b o, a = ⟨b, o, none⟩ ∧ b < w.heap.size := by
      obtain ⟨v, h1, -⟩ := hcs 0 (by omega)
      exact first_spot h1 (by omega)
    obtain ⟨L, hL, hr⟩ := list_choose (R := fun i (v : PrV) => CellsAt w b (o + i * 7) v.cells ∧ SrcR w v ∧ v.pr.nc ≤ 1256584717421 ∧ v.pr.nn ≤ 8796093021952 ∧ v.pr.code.length ≤ 5864062014635 ∧ ∀ x ∈ v.pr.code, x.b ≤ 9223372036854775807) len (fun i hlt => by
      obtain ⟨v, h1, h2⟩ := hcs i hlt
      rw [add_none] at h1
      exact ⟨v, (cells_at h1 (by omega)).2.2.2, h2⟩)
    have hm : ∀ v ∈ L, SrcR w v ∧ v.pr.nc ≤ 1256584717421 ∧ v.pr.nn ≤ 8796093021952 ∧ v.pr.code.length ≤ 5864062014635 ∧ ∀ x ∈ v.pr.code, x.b ≤ 9223372036854775807 := fun v hv => by
      obtain ⟨i, hi⟩ := List.mem_iff_getElem?.1 hv
      exact (hr i v hi).2
    simp only [reachBytes] at hsz
    refine ⟨some ⟨b, o, none⟩, cap, L, by rw [hL], ⟨fun i hi => ?_, fun v hv => (hm v hv).1.code, by omega, fun v hv => by have := (hm v hv).2.1; omega, fun v hv => by have := (hm v hv).2.2.1; omega, fun v hv => (hm v hv).2.2.2.1, fun v hv => (hm v hv).2.2.2.2⟩, fun v hv => (hm v hv).1, by omega⟩
    obtain ⟨v, hv⟩ : ∃ v, L[i]? = some v := ⟨_, List.getElem?_eq_getElem hi⟩
    refine ⟨b, o, v, rfl, hb, hv, fun j hj => ?_⟩
    have e := (hr i v hv).1
    have hl7 : v.cells.length = 7 := rfl
    obtain ⟨u, hu⟩ : ∃ u, v.cells[j]? = some u := ⟨_, List.getElem?_eq_getElem (by omega)⟩
    rw [hu]
    exact e j u hu

end
end Go.Proofs.Ytmlmepbnjlepnaa
