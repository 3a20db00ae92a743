/-
  Feeds in order: what a sort by proto and pc makes of feeds of which no two are of one place. No function of the program in sight; no condition.
-/
import Derived.Test.YtmgafcbhoamkkaaLib
import Derived.Shelf.SlSortCmp.InsertionK
namespace Go.Proofs.Ytmgafcbhoamkkaa
open Go.RowKit Go.Sort

abbrev F := Int × Int × Int × Int
def encF (x : F) : List Value := [.int .i64 x.1, .int .i64 x.2.1, .int .i64 x.2.2.1, .int .i64 x.2.2.2]
def cfF (x y : F) : Int := if Lib.compareInt x.1 y.1 ≠ 0 then Lib.compareInt x.1 y.1 else Lib.compareInt x.2.1 y.2.1
def ltF (x y : F) : Prop := x.1 < y.1 ∨ (x.1 = y.1 ∧ x.2.1 < y.2.1)

theorem lt_cf (x y : F) : ltOf cfF x y = true ↔ ltF x y := by
  unfold ltOf cfF ltF Lib.compareInt
  rw [decide_eq_true_iff]
  by_cases h1 : x.1 < y.1 <;> by_cases h2 : x.1 > y.1 <;> by_cases h3 : x.2.1 < y.2.1 <;> by_cases h4 : x.2.1 > y.2.1 <;> simp [h1, h2, h3, h4] <;> omega
theorem not_cf (x y : F) : ltOf cfF x y = false ↔ ¬ ltF x y := by
  rw [← lt_cf]; simp

theorem swoF : SWO (ltOf cfF) where
  irrefl x := by rw [not_cf]; unfold ltF; omega
  trans x y z h1 h2 := by rw [lt_cf] at *; unfold ltF at *; omega
  ntrans x y z h1 h2 := by rw [not_cf] at *; unfold ltF at *; omega

/-- No two of one place. -/
def ApartF (l : List F) : Prop := l.Pairwise fun x y => ¬ (x.1 = y.1 ∧ x.2.1 = y.2.1)

theorem sorted_pair {d d' : Array F} (hp : PermIn 0 d.size d d') (hs : SortedIn (ltOf cfF) 0 d.size d') (ha : ApartF d.toList) : d'.toList.Perm d.toList ∧ d'.toList.Pairwise ltF := by
  obtain ⟨h1, -, h3⟩ := hp
  have e1 : (d.extract 0 d.size).toList = d.toList := by simp
  have e2 : (d'.extract 0 d.size).toList = d'.toList := by rw [← h1]; simp
  rw [e1, e2] at h3
  refine ⟨h3, ?_⟩
  have ha' : ApartF d'.toList := (List.Perm.pairwise_iff (fun {x y} h e => h ⟨e.1.symm, e.2.symm⟩) h3).2 ha
  rw [List.pairwise_iff_getElem]
  intro i j hi hj hij
  have h4 := (List.pairwise_iff_getElem.1 ha') i j hi hj hij
  have h5 := hs i j (Nat.zero_le _) hij (by simp at hj; omega)
  simp only [Array.length_toList] at hi hj
  rw [getElem!_pos d' j hj, getElem!_pos d' i hi, not_cf] at h5
  simp only [Array.getElem_toList] at h4 ⊢
  unfold ltF at *
  omega

theorem flat4_get : ∀ (l : List F) (i : Nat) (x : F), l[i]? = some x → ∀ j, j < 4 → (l.flatMap encF)[i * 4 + j]? = (encF x)[j]?
  | [], _, _, h, _, _ => by simp at h
  | y :: l, 0, x, h, j, hj => by
    simp only [List.getElem?_cons_zero, Option.some.injEq] at h
    subst h
    rw [List.flatMap_cons, Nat.zero_mul, Nat.zero_add, List.getElem?_append_left (by simp [encF]; omega)]
  | y :: l, i + 1, x, h, j, hj => by
    have hl : (encF y).length = 4 := rfl
    rw [List.flatMap_cons, List.getElem?_append_right (by rw [hl]; omega), hl, show (i + 1) * 4 + j - 4 = i * 4 + j from by omega]
    exact flat4_get l i x (by simpa using h) j hj
theorem flat4_len (l : List F) : (l.flatMap encF).length = l.length * 4 := by
  induction l with
  | nil => rfl
  | cons x l ih => rw [List.flatMap_cons, List.length_append, ih]; simp [encF]; omega

end Go.Proofs.Ytmgafcbhoamkkaa
