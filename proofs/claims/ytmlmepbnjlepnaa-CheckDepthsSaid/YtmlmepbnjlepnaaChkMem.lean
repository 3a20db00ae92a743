/-
  The checker in memory: its three fields in one block; what the tables' cells hold.
-/
import Derived.Test.YtmlmepbnjlepnaaChkTabs
namespace Go.Proofs.Ytmlmepbnjlepnaa
open Go.RowKit

set_option maxHeartbeats 400000 in
theorem in_any (n b : Int) (w : World) :
    Calls Try.prog 17 #[.int .i64 n, .int .i64 b] w fun e w' => e = .returned (.bool (inB n b)) ∧ w' = w := by
  by_cases h0 : 0 ≤ n <;> by_cases h1 : n < b
  all_goals
    go_enter Try.func17, Try.ntmps17
    go_wp2
    go_ret
    exact ⟨by simp [inB, h0, h1], rfl⟩

/-- The checker's block. -/
def chkCells (psv pv : Value) : List Value := psv :: (wantsV ++ [pv])

/-- The checker c at block cb: the protos' slice, the table, the primitives at block pb. -/
structure ChkAt (w : World) (cb pb : Nat) (psv : Value) : Prop where
  chk : w.heap[cb]? = some (.cells ⟨chkCells psv (.slice (some ⟨pb, 0, none⟩) 92 92)⟩ 54 (0, 0))
  prims : w.heap[pb]? = some (.cells ⟨primsV⟩ 67 (0, 0))

theorem lt_of_heap {w : World} {b : Nat} {o : Obj} (h : w.heap[b]? = some o) : b < w.heap.size := (Array.getElem?_eq_some_iff.1 h).1

theorem cell_row {w : World} {b : Nat} {l : List Value} {t : TypeId} {fr : Nat × Nat} (h : w.heap[b]? = some (.cells ⟨l⟩ t fr)) (o : Nat) : w.cell? ⟨b, o, none⟩ = l[o]? := by
  simp [World.cell?, h]

theorem chk_get (psv pv : Value) (o : Nat) (h : o < 198) : (chkCells psv pv)[1 + o]? = wantsV[o]? := by
  unfold chkCells
  rw [Nat.add_comm, List.getElem?_cons_succ, List.getElem?_append_left (by have : wantsV.length = 198 := by decide +kernel
                                                                           omega)]

theorem wants_get : ∀ k, k < 22 → ∀ j, j < 9 → wantsV[k * 9 + j]? = (wantV (wantT k))[j]? := by
  have h : ∀ k, k < 22 → (wantsV.drop (k * 9)).take 9 = wantV (wantT k) := by
    intro k hk
    rcases k with _ | _ | _ | _ | _ | _ | _ | _ | _ | _ | _ | _ | _ | _ | _ | _ | _ | _ | _ | _ | _ | _ | k
    all_goals first | rfl | omega
  intro k hk j hj
  rw [← h k hk, List.getElem?_take, if_pos hj, List.getElem?_drop]

/-- The nine cells of the table's row k. -/
structure WantAt (w : World) (cb : Nat) (k : Nat) (x : Want) : Prop where
  c0 : w.cell? ⟨cb, 1 + k * 9, none⟩ = some (.bool x.known)
  c1 : w.cell? ⟨cb, 1 + k * 9 + 1, none⟩ = some (.int .i64 x.wants)
  c2 : w.cell? ⟨cb, 1 + k * 9 + 2, none⟩ = some (.int .i64 x.more)
  c3 : w.cell? ⟨cb, 1 + k * 9 + 3, none⟩ = some (.bool x.a)
  c4 : w.cell? ⟨cb, 1 + k * 9 + 4, none⟩ = some (.bool x.b)
  c5 : w.cell? ⟨cb, 1 + k * 9 + 5, none⟩ = some (.bool x.byA)
  c6 : w.cell? ⟨cb, 1 + k * 9 + 6, none⟩ = some (.bool x.byB)
  c7 : w.cell? ⟨cb, 1 + k * 9 + 7, none⟩ = some (.bool x.jumps)
  c8 : w.cell? ⟨cb, 1 + k * 9 + 8, none⟩ = some (.bool x.fin)

theorem ChkAt.want {w : World} {cb pb : Nat} {psv : Value} (h : ChkAt w cb pb psv) (k : Nat) (hk : k < 22) : WantAt w cb k (wantT k) := by
  have e : ∀ j, j < 9 → w.cell? ⟨cb, 1 + k * 9 + j, none⟩ = (wantV (wantT k))[j]? := fun j hj => by
    rw [cell_row h.chk, Nat.add_assoc, chk_get _ _ _ (by omega), wants_get k hk j hj]
  exact ⟨e 0 (by omega), e 1 (by omega), e 2 (by omega), e 3 (by omega), e 4 (by omega), e 5 (by omega), e 6 (by omega), e 7 (by omega), e 8 (by omega)⟩

theorem ChkAt.ps {w : World} {cb pb : Nat} {psv : Value} (h : ChkAt w cb pb psv) : w.cell? ⟨cb, 0, none⟩ = some psv := by
  rw [cell_row h.chk]; rfl
theorem ChkAt.pr {w : World} {cb pb : Nat} {psv : Value} (h : ChkAt w cb pb psv) : w.cell? ⟨cb, 199, none⟩ = some (.slice (some ⟨pb, 0, none⟩) 92 92) := by
  rw [cell_row h.chk]
  unfold chkCells
  rw [List.getElem?_cons_succ, List.getElem?_append_right (by decide +kernel)]
  have : 198 - wantsV.length = 0 := by decide +kernel
  rw [this]; rfl

theorem prims_get (k : Nat) (r : List UInt8 × Int × Int) (h : primT[k]? = some r) : primsV[k * 3 + 1]? = some (.int .i64 r.2.1) ∧ primsV[k * 3 + 2]? = some (.int .i64 r.2.2) := by
  have gen : ∀ (l : List (List UInt8 × Int × Int)) (k : Nat) (r : List UInt8 × Int × Int), l[k]? = some r → (l.flatMap primV)[k * 3 + 1]? = some (.int .i64 r.2.1) ∧ (l.flatMap primV)[k * 3 + 2]? = some (.int .i64 r.2.2) := by
    intro l
    induction l with
    | nil => intro k r h; cases h
    | cons x l ih =>
      intro k r h
      rw [List.flatMap_cons]
      cases k with
      | zero =>
        simp only [List.getElem?_cons_zero, Option.some.injEq] at h
        subst h
        exact ⟨rfl, rfl⟩
      | succ k =>
        have hl : (primV x).length = 3 := rfl
        obtain ⟨h1, h2⟩ := ih k r h
        refine ⟨?_, ?_⟩
        · rw [List.getElem?_append_right (by omega), hl, show (k + 1) * 3 + 1 - 3 = k * 3 + 1 from by omega]; exact h1
        · rw [List.getElem?_append_right (by omega), hl, show (k + 1) * 3 + 2 - 3 = k * 3 + 2 from by omega]; exact h2
  exact gen primT k r h

theorem prims_get0 (k : Nat) (r : List UInt8 × Int × Int) (h : primT[k]? = some r) : primsV[k * 3]? = some (.string ⟨r.1.toArray⟩) := by
  have gen : ∀ (l : List (List UInt8 × Int × Int)) (k : Nat) (r : List UInt8 × Int × Int), l[k]? = some r → (l.flatMap primV)[k * 3]? = some (.string ⟨r.1.toArray⟩) := by
    intro l
    induction l with
    | nil => intro k r h; cases h
    | cons x l ih =>
      intro k r h
      rw [List.flatMap_cons]
      cases k with
      | zero =>
        simp only [List.getElem?_cons_zero, Option.some.injEq] at h
        subst h
        rfl
      | succ k =>
        have hl : (primV x).length = 3 := rfl
        rw [List.getElem?_append_right (by omega), hl, show (k + 1) * 3 - 3 = k * 3 from by omega]
        exact ih k r h
  exact gen primT k r h

theorem ChkAt.below {w w' : World} {cb pb : Nat} {psv : Value} (h : ChkAt w cb pb psv) (hb : Below w.heap.size w w') : ChkAt w' cb pb psv :=
  ⟨(hb.block _ (lt_of_heap h.chk)).trans h.chk, (hb.block _ (lt_of_heap h.prims)).trans h.prims⟩

end Go.Proofs.Ytmlmepbnjlepnaa
