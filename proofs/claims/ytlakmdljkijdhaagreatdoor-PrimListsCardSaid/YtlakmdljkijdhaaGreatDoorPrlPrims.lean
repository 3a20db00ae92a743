/-
  api.Prims in memory; the walks of package prim's Get, Control, Number.
-/
import Derived.Test.YtlakmdljkijdhaaGreatDoorLib
import Derived.Test.YtlakmdljkijdhaaGreatDoorPriNames
import Derived.Deep.WholeRow
import Derived.Deep.OwnRows
import Derived.Deep.LoopGhost
import Derived.Outline
import Derived.Deep.CutRange
namespace Go.Proofs.YtlakmdljkijdhaaGreatDoor
open Go.RowKit

def primV (r : List UInt8 × Int × Int) : List Value := [.string ⟨r.1.toArray⟩, .int .i64 r.2.1, .int .i64 r.2.2]
def primsV : List Value := primT.flatMap primV

set_option maxRecDepth 100000 in
theorem prims_any (w : World) :
    Calls Tryz.prog 4 #[] w fun e w' => e = .returned (.slice (some ⟨w.heap.size, 0, none⟩) 92 92) ∧ w' = w.alloc (.cells ⟨primsV⟩ 25) := by
  refine calls_of_wp Tryz.func4 rfl ?_
  refine wp_seq_k fun K hK => ?_
  refine wp_region_lit (wpList_runs 1 ⟨#[.slice none 0 0] ++ Array.replicate 93 undef, []⟩ w (by kernel_rfl) (wpList_nil ?_))
  refine hK _ _ ?_
  clear hK K
  refine wp_seq_k fun K hK => ?_
  refine wp_region_lit (wpList_runs 200 ⟨#[.slice (some ⟨w.heap.size, 0, none⟩) 92 92] ++ (primT.map fun r => Value.agg ⟨primV r⟩).toArray ++ #[.slice (some ⟨w.heap.size, 0, none⟩) 92 92], []⟩ (w.alloc (.cells ⟨primsV⟩ 25)) (by kernel_rfl) (wpList_nil ?_))
  refine hK _ _ (wp_ret ?_)
  exact bodyPost_ret (v := .slice (some ⟨w.heap.size, 0, none⟩) 92 92) (by simp [results, Tryz.results4, go_sem]) rfl ⟨rfl, rfl⟩


theorem lt_of_heap {w : World} {b : Nat} {o : Obj} (h : w.heap[b]? = some o) : b < w.heap.size := (Array.getElem?_eq_some_iff.1 h).1

theorem cell_row {w : World} {b : Nat} {l : List Value} {t : TypeId} {fr : Nat × Nat} (h : w.heap[b]? = some (.cells ⟨l⟩ t fr)) (o : Nat) : w.cell? ⟨b, o, none⟩ = l[o]? := by
  simp [World.cell?, h]

theorem prims_get (k : Nat) (r : List UInt8 × Int × Int) (h : primT[k]? = some r) : primsV[k * 3 + 1]? = some (.int .i64 r.2.1) ∧ primsV[k * 3 + 2]? = some (.int .i64 r.2.2) := by
  have gen : ∀ (l : List (List UInt8 × Int × Int)) (k : Nat) (r : List UInt8 × Int × Int), l[k]? = some r → (l.flatMap primV)[k * 3 + 1]? = some (.int .i64 r.2.1) ∧ (l.flatMap primV)[k * 3 + 2]? = some (.int .i64 r.2.2) := by
    intro l
    induction l with
    | nil => intro k r h; cases h
    | cons x l ih =>
      intro k r h
      rw [List.flatMap_cons]
      cases k with
      | zero =>
        simp only [List.getElem?_cons_zero, Option.some.injEq] at h
        subst h
        exact ⟨rfl, rfl⟩
      | succ k =>
        have hl : (primV x).length = 3 := rfl
        obtain ⟨h1, h2⟩ := ih k r h
        refine ⟨?_, ?_⟩
        · rw [List.getElem?_append_right (by omega), hl, show (k + 1) * 3 + 1 - 3 = k * 3 + 1 from by omega]; exact h1
        · rw [List.getElem?_append_right (by omega), hl, show (k + 1) * 3 + 2 - 3 = k * 3 + 2 from by omega]; exact h2
  exact gen primT k r h

theorem prims_get0 (k : Nat) (r : List UInt8 × Int × Int) (h : primT[k]? = some r) : primsV[k * 3]? = some (.string ⟨r.1.toArray⟩) := by
  have gen : ∀ (l : List (List UInt8 × Int × Int)) (k : Nat) (r : List UInt8 × Int × Int), l[k]? = some r → (l.flatMap primV)[k * 3]? = some (.string ⟨r.1.toArray⟩) := by
    intro l
    induction l with
    | nil => intro k r h; cases h
    | cons x l ih =>
      intro k r h
      rw [List.flatMap_cons]
      cases k with
      | zero =>
        simp only [List.getElem?_cons_zero, Option.some.injEq] at h
        subst h
        rfl
      | succ k =>
        have hl : (primV x).length = 3 := rfl
        rw [List.getElem?_append_right (by omega), hl, show (k + 1) * 3 - 3 = k * 3 from by omega]
        exact ih k r h
  exact gen primT k r h


theorem prim_row {w : World} {b : Nat} {ty : TypeId} (h : w.heap[b]? = some (.cells ⟨primsV⟩ ty (0, 0))) {k : Nat} (hk : k < 92) :
    w.cell? ⟨b, k * 3, none⟩ = some (.string (nm k)) ∧ w.cell? ⟨b, k * 3 + 1, none⟩ = some (.int .i64 (primT.getD k ([], 0, 0)).2.1) ∧ w.cell? ⟨b, k * 3 + 2, none⟩ = some (.int .i64 (primT.getD k ([], 0, 0)).2.2) := by
  have hl : primT.length = 92 := by decide +kernel
  have e : primT[k]? = some (primT.getD k ([], 0, 0)) := by rw [List.getD_eq_getElem?_getD, List.getElem?_eq_getElem (by omega)]; rfl
  obtain ⟨h1, h2⟩ := prims_get k _ e
  have h0 := prims_get0 k _ e
  rw [cell_row h, cell_row h, cell_row h]
  exact ⟨h0, h1, h2⟩

theorem str_ne {x s : ByteArray} (h : ¬ x = s) : (x.toList == s.toList) = false := by
  rw [ByteArray.toList_eq, ByteArray.toList_eq, beq_eq_false_iff_ne]
  intro e
  apply h
  cases x; cases s
  congr 1
  exact Array.toList_inj.1 e

theorem genP {P : Program} {c : Code} {Q : Exit → Act → World → Prop} {a : Act} {w0 : World} (F : World → Prop) (h : F w0) (k : ∀ W, F W → Code.wp P c Q a W) : Code.wp P c Q a w0 := k _ h

/-- The table of primitives stands in block b. -/
def TabP (w : World) (b : Nat) : Prop := w.heap[b]? = some (.cells ⟨primsV⟩ 25 (0, 0))
theorem TabP.below {w w' : World} {b : Nat} (h : TabP w b) (hb : Below w.heap.size w w') : TabP w' b := (hb.block b (lt_of_heap h)).trans h

set_option maxRecDepth 100000 in
set_option maxHeartbeats 1000000 in
theorem number_any (s : ByteArray) (w : World) : Calls Tryz.prog 7 #[.string s] w fun e w' => e = .returned (.int .i64 (lastN s 92)) ∧ Below w.heap.size w w' := by
  go_enter Tryz.func7, Tryz.ntmps7
  go_wp2_with (go_at_call 4; refine (prims_any _).mono ?_; rintro e w1 ⟨rfl, rfl⟩)
  refine genP (fun U => TabP U w.heap.size ∧ Below w.heap.size w U) ⟨Deep.blk_alloc_new _ _, (Below.refl _ _).alloc (Nat.le_refl _) _⟩ ?_
  intro U hU
  obtain ⟨hT, hW⟩ := hU
  obtain ⟨b, hb⟩ : ∃ b, w.heap.size = b := ⟨_, rfl⟩
  rw [hb] at hT ⊢
  have HT := hide hT
  have HW := hide hW
  clear hT hW
  go_loopw [7] (fun c wr => ∃ k : Nat, k ≤ 92 ∧ c = .int .i64 k ∧ (∀ j, j < k → nm j ≠ s) ∧ Below U.heap.size U wr) (fun c _ => 92 - (intOf c).toNat)
  case atStart => exact ⟨0, Nat.zero_le _, rfl, fun j hj => by omega, Below.refl _ _⟩
  case round =>
    obtain ⟨k, hk, rfl, hno, hbw⟩ := hrel
    by_cases hlt : k < 92
    · obtain ⟨e0, e1, e2⟩ := prim_row (HT.out.below hbw) hlt
      have hlt' : (k : Int) < 92 := by omega
      have hk0 : (0 : Int) ≤ k := by omega
      have HN := hide (And.intro hno hbw)
      generalize (primT.getD k ([], 0, 0)).2.1 = l1 at *
      generalize (primT.getD k ([], 0, 0)).2.2 = l2 at *
      clear hno hbw
      by_cases hs : nm k = s
      · subst hs
        have HL := hide (lastN_at hlt rfl 92 (Nat.le_refl _))
        have hq : ((nm k).toList == (nm k).toList) = true := by simp
        go_wp2_with fail
        go_ret
        refine ⟨ret_int ?_, ?_⟩
        · rw [HL.out, if_pos hlt]
        · have e := HN.out.2
          have e2 := e.alloc (B := U.heap.size) e.size (.cells #[.string (nm k), .int .i64 l1, .int .i64 l2] 25)
          exact HW.out.trans (e2.mono HW.out.size)
      · have hne := str_ne hs
        have HS := hide hs
        generalize hx : nm k = x at *
        go_wp2_with fail
        refine ⟨⟨k + 1, by omega, by go_num, fun j hj => ?_, HN.out.2.alloc HN.out.2.size _⟩, by simp [intOf]; omega⟩
        by_cases e : j = k
        · subst e; rw [hx]; exact HS.out
        · exact HN.out.1 j (by omega)
    · obtain rfl : k = 92 := by omega
      have HN := hide (And.intro hno hbw)
      clear hno hbw
      go_wp2_with fail
      go_ret
      exact ⟨ret_int (lastN_none 92 HN.out.1).symm, HW.out.trans (HN.out.2.mono HW.out.size)⟩

def least (k : Nat) : Int := (primT.getD k ([], 0, 0)).2.1
def most (k : Nat) : Int := (primT.getD k ([], 0, 0)).2.2

set_option maxRecDepth 100000 in
set_option maxHeartbeats 1000000 in
theorem get_in (k : Nat) (hk : k < 92) (w : World) : Calls Tryz.prog 5 #[.int .i64 k] w fun e w' => e = .returned (.tuple #[.agg #[.string (nm k), .int .i64 (least k), .int .i64 (most k)], .bool true]) ∧ Below w.heap.size w w' := by
  have hlt' : (k : Int) < 92 := by omega
  have hge' : ¬ (92 : Int) ≤ k := by omega
  have hk0 : (0 : Int) ≤ k := by omega
  have hk1 : ¬ (k : Int) < 0 := by omega
  go_enter Tryz.func5, Tryz.ntmps5
  go_upto_region 2 with (go_at_call 4; refine (prims_any _).mono ?_; rintro e w1 ⟨rfl, rfl⟩)
  refine genP (fun U => TabP U (w.heap.size + 1) ∧ U.heap[w.heap.size]? = some (.cells #[.string ⟨#[]⟩, .int .i64 0, .int .i64 0] 25 (0, 0)) ∧ Below w.heap.size w U) ?_ ?_
  · refine ⟨?_, ?_, ((Below.refl _ _).alloc (Nat.le_refl _) _).alloc (by rw [Deep.nblk_alloc]; omega) _⟩
    · have e := Deep.blk_alloc_new (w.alloc (.cells #[.string ⟨#[]⟩, .int .i64 0, .int .i64 0] 25)) (.cells ⟨primsV⟩ 25)
      rwa [Deep.nblk_alloc] at e
    · rw [Deep.blk_alloc_lt _ _ _ (by rw [Deep.nblk_alloc]; omega)]
      exact Deep.blk_alloc_new _ _
  intro U hU
  obtain ⟨hT, hZ, hW⟩ := hU
  obtain ⟨e0, e1, e2⟩ := prim_row hT hk
  obtain ⟨b, hb⟩ : ∃ b, w.heap.size = b := ⟨_, rfl⟩
  rw [hb] at hZ e0 e1 e2 ⊢
  have z0 : U.cell? ⟨b, 0, none⟩ = some (.string ⟨#[]⟩) := by simp [World.cell?, hZ]
  have z1 : U.cell? ⟨b, 1, none⟩ = some (.int .i64 0) := by simp [World.cell?, hZ]
  have z2 : U.cell? ⟨b, 2, none⟩ = some (.int .i64 0) := by simp [World.cell?, hZ]
  have zf : ∀ o, U.frozen? ⟨b, o, none⟩ = false := fun o => by simp [World.frozen?, hZ]
  change U.cell? ⟨b + 1, k * 3 + 1, none⟩ = some (.int .i64 (least k)) at e1
  change U.cell? ⟨b + 1, k * 3 + 2, none⟩ = some (.int .i64 (most k)) at e2
  have HW := hide (And.intro hW hZ)
  clear hW hZ hT
  go_wp2_with fail
  obtain ⟨hW, hZ⟩ := HW.out
  rw [← hb] at hZ ⊢
  have hV : (((U.setCell ⟨w.heap.size, 0, none⟩ (.string (nm k))).setCell ⟨w.heap.size, 1, none⟩ (.int .i64 (least k))).setCell ⟨w.heap.size, 2, none⟩ (.int .i64 (most k))).heap[w.heap.size]? = some (.cells #[.string (nm k), .int .i64 (least k), .int .i64 (most k)] 25 (0, 0)) := by
    simp [World.setCell, Array.getElem?_modify, hZ]
  have hB := ((hW.setCell (p := ⟨w.heap.size, 0, none⟩) (Nat.le_refl _) (.string (nm k))).setCell (p := ⟨w.heap.size, 1, none⟩) (Nat.le_refl _) (.int .i64 (least k))).setCell (p := ⟨w.heap.size, 2, none⟩) (Nat.le_refl _) (.int .i64 (most k))
  generalize (((U.setCell ⟨w.heap.size, 0, none⟩ (.string (nm k))).setCell ⟨w.heap.size, 1, none⟩ (.int .i64 (least k))).setCell ⟨w.heap.size, 2, none⟩ (.int .i64 (most k))) = V at *
  have v0 : V.cell? ⟨w.heap.size, 0, none⟩ = some (.string (nm k)) := by simp [World.cell?, hV]
  have v1 : V.cell? ⟨w.heap.size, 1, none⟩ = some (.int .i64 (least k)) := by simp [World.cell?, hV]
  have v2 : V.cell? ⟨w.heap.size, 2, none⟩ = some (.int .i64 (most k)) := by simp [World.cell?, hV]
  exact bodyPost_ret (v := .tuple #[.agg #[.string (nm k), .int .i64 (least k), .int .i64 (most k)], .bool true]) (by simp [results, Tryz.results5, go_sem, v0, v1, v2]) rfl ⟨rfl, hB⟩

set_option maxRecDepth 100000 in
set_option maxHeartbeats 1000000 in
theorem get_out (n : Int) (hn : n < 0 ∨ 92 ≤ n) (w : World) : Calls Tryz.prog 5 #[.int .i64 n] w fun e w' => e = .returned (.tuple #[.agg #[.string ⟨#[]⟩, .int .i64 0, .int .i64 0], .bool false]) ∧ Below w.heap.size w w' := by
  by_cases h0 : n < 0
  all_goals
    go_enter Tryz.func5, Tryz.ntmps5
    go_wp2_with (go_at_call 4; refine (prims_any _).mono ?_; rintro e w1 ⟨rfl, rfl⟩)
    exact bodyPost_ret (v := .tuple #[.agg #[.string ⟨#[]⟩, .int .i64 0, .int .i64 0], .bool false]) (by simp [results, Tryz.results5, go_sem]) rfl ⟨rfl, ((Below.refl _ _).alloc (Nat.le_refl _) _).alloc (by rw [Deep.nblk_alloc]; omega) _⟩

set_option maxRecDepth 100000 in
set_option maxHeartbeats 1000000 in
theorem control_any (n : Int) (w : World) : Calls Tryz.prog 6 #[.int .i64 n] w fun e w' => e = .returned (.bool (decide (85 ≤ n) && decide (n < 92))) ∧ Below w.heap.size w w' := by
  have h3 : (85 ≤ n ∧ n < 92) ∨ (85 ≤ n ∧ ¬ n < 92) ∨ (¬ 85 ≤ n ∧ n < 92) := by omega
  rcases h3 with ⟨h0, h1⟩ | ⟨h0, h1⟩ | ⟨h0, h1⟩
  all_goals
    go_enter Tryz.func6, Tryz.ntmps6
    go_wp2_with (go_at_call 4; refine (prims_any _).mono ?_; rintro e w1 ⟨rfl, rfl⟩)
    go_ret
    exact ⟨ret_bool (by simp [h0, h1]), (Below.refl _ _).alloc (Nat.le_refl _) _⟩

end Go.Proofs.YtlakmdljkijdhaaGreatDoor
