/-
  The walks of prim.New, and of the table's Get and Control.
-/
import Derived.Test.YtafignheedbnbaaGreatDoorPhF
import Derived.Test.YtafignheedbnbaaGreatDoorPhE
import Derived.Test.YtafignheedbnbaaGreatDoorPhC
namespace Go.Proofs.YtafignheedbnbaaGreatDoor
open Go.RowKit Go.BigFrame
set_option linter.unusedSimpArgs false
set_option linter.unusedVariables false

/-- The table of primitives: its struct, the call, the map of the bound methods. -/
structure TabAt (w : World) (tb cb : Nat) : Prop where
  box : ∃ pb mb, w.heap[tb]? = some (.cells #[.slice (some ⟨pb, 0, none⟩) 92 92, .pointer (some ⟨cb, 0, none⟩), .map (some mb)] 155 (0, 0)) ∧ TabP w pb ∧ w.heap[mb]? = some (.map (wordsOf cb) 70)

theorem TabAt.below {w w' : World} {tb cb : Nat} (h : TabAt w tb cb) (hb : Below w.heap.size w w') : TabAt w' tb cb := by
  obtain ⟨⟨pb, mb, h1, h2, h3⟩⟩ := h
  exact ⟨⟨pb, mb, (hb.block _ (ph_lt h1)).trans h1, h2.below hb, (hb.block _ (ph_lt h3)).trans h3⟩⟩

/-- A call of a primitive: the store, the name, the arguments. -/
def CallAt (w : World) (cb sb : Nat) (nm : ByteArray) (A : Option Addr) (n c : Nat) : Prop :=
  w.heap[cb]? = some (.cells #[.pointer (some ⟨sb, 0, none⟩), .string nm, .slice A n c, .slice none 0 0, .int .i64 0] 151 (0, 0))

def NewTab (w : World) (e : Ending) (w' : World) : Prop :=
  ∃ tb cb, e = .returned (.pointer (some ⟨tb, 0, none⟩)) ∧ TabAt w' tb cb ∧ w'.heap[cb]? = some (.cells #[.pointer none, .string ⟨#[]⟩, .slice none 0 0, .slice none 0 0, .int .i64 0] 151 (0, 0)) ∧ w.heap.size ≤ cb ∧ w.heap.size ≤ tb ∧ Below w.heap.size w w'

set_option maxHeartbeats 1000000 in
theorem newt_any (w : World) : Calls Tryz.prog 55 #[] w (NewTab w) := by
  go_enter Tryz.func55, Tryz.ntmps55
  go_wp2_with (first | (go_at_call 57; refine (prims_any _).mono ?_; rintro e w1 ⟨rfl, rfl⟩) | (go_at_call 95; refine (words_any _ _).mono ?_; rintro e w1 ⟨rfl, rfl⟩))
  go_ret
  have hk : ∀ (W : World) (o : Obj) (b : Nat) (x : Obj), W.heap[b]? = some x → (W.alloc o).heap[b]? = some x := fun W o b x h => by rw [Deep.blk_alloc_lt _ _ _ (ph_lt h)]; exact h
  refine ⟨w.heap.size + 1 + 1 + 1, w.heap.size, rfl, ⟨⟨w.heap.size + 1, w.heap.size + 1 + 1, ?_, ?_, ?_⟩⟩, ?_, Nat.le_refl _, by omega, ?_⟩
  · have e := Deep.blk_alloc_new (((w.alloc (.cells #[.pointer none, .string ⟨#[]⟩, .slice none 0 0, .slice none 0 0, .int .i64 0] 151)).alloc (.cells ⟨primsV⟩ 109)).alloc (.map (wordsOf w.heap.size) 70)) (.cells #[.slice (some ⟨w.heap.size + 1, 0, none⟩) 92 92, .pointer (some ⟨w.heap.size, 0, none⟩), .map (some (w.heap.size + 1 + 1))] 155)
    simpa [Deep.nblk_alloc] using e
  · have e := Deep.blk_alloc_new (w.alloc (.cells #[.pointer none, .string ⟨#[]⟩, .slice none 0 0, .slice none 0 0, .int .i64 0] 151)) (.cells ⟨primsV⟩ 109)
    rw [Deep.nblk_alloc] at e
    exact hk _ _ _ _ (hk _ _ _ _ e)
  · have e := Deep.blk_alloc_new ((w.alloc (.cells #[.pointer none, .string ⟨#[]⟩, .slice none 0 0, .slice none 0 0, .int .i64 0] 151)).alloc (.cells ⟨primsV⟩ 109)) (.map (wordsOf w.heap.size) 70)
    rw [Deep.nblk_alloc, Deep.nblk_alloc] at e
    exact hk _ _ _ _ e
  · exact hk _ _ _ _ (hk _ _ _ _ (hk _ _ _ _ (Deep.blk_alloc_new _ _)))
  · exact ((((Below.refl _ _).alloc (Nat.le_refl _) _).alloc (by simp) _).alloc (by simp; omega) _).alloc (by simp; omega) _

theorem TabAt.cells {w : World} {tb cb : Nat} (h : TabAt w tb cb) : ∃ pb mb, w.cell? ⟨tb, 0, none⟩ = some (.slice (some ⟨pb, 0, none⟩) 92 92) ∧ w.cell? ⟨tb, 1, none⟩ = some (.pointer (some ⟨cb, 0, none⟩)) ∧ w.cell? ⟨tb, 2, none⟩ = some (.map (some mb)) ∧ TabP w pb ∧ w.heap[mb]? = some (.map (wordsOf cb) 70) ∧ tb < w.heap.size := by
  obtain ⟨⟨pb, mb, h1, h2, h3⟩⟩ := h
  exact ⟨pb, mb, by simp [World.cell?, h1], by simp [World.cell?, h1], by simp [World.cell?, h1], h2, h3, ph_lt h1⟩

set_option maxHeartbeats 1000000 in
theorem tcontrol_any {w : World} {tb cb : Nat} (h : TabAt w tb cb) (k : Nat) (hk : k < 85) : Calls Tryz.prog 97 #[.pointer (some ⟨tb, 0, none⟩), .int .i64 k] w fun e w' => e = .returned (.bool false) ∧ Below w.heap.size w w' := by
  obtain ⟨pb, mb, c0, -, -, -, -, htl⟩ := h.cells
  have f1 : ¬ (85 : Int) ≤ k := by omega
  clear h
  go_enter Tryz.func97, Tryz.ntmps97
  go_wp2
  go_ret
  exact ⟨rfl, Below.refl _ _⟩

set_option maxRecDepth 100000 in
set_option maxHeartbeats 1000000 in
theorem tget_any {w : World} {tb cb : Nat} (h : TabAt w tb cb) (k : Nat) (hk : k < 92) : Calls Tryz.prog 96 #[.pointer (some ⟨tb, 0, none⟩), .int .i64 k] w fun e w' => e = .returned (.tuple #[.agg #[.string (nm k), .int .i64 (least k), .int .i64 (most k)], .bool true]) ∧ Below w.heap.size w w' := by
  obtain ⟨pb, mb, c0, -, -, hp, -, htl⟩ := h.cells
  have hlt' : (k : Int) < 92 := by omega
  have hge' : ¬ (92 : Int) ≤ k := by omega
  have hk0 : (0 : Int) ≤ k := by omega
  have hk1 : ¬ (k : Int) < 0 := by omega
  have HP := hide (And.intro hp hk)
  clear h hp
  go_enter Tryz.func96, Tryz.ntmps96
  go_upto_region 3 with fail
  refine genW (fun U => TabP U pb ∧ U.cell? ⟨tb, 0, none⟩ = some (.slice (some ⟨pb, 0, none⟩) 92 92) ∧ U.heap[w.heap.size]? = some (.cells #[.string ⟨#[]⟩, .int .i64 0, .int .i64 0] 109 (0, 0)) ∧ Below w.heap.size w U) ?_ ?_
  · refine ⟨HP.out.1.below ((Below.refl _ _).alloc (Nat.le_refl _) _), ?_, Deep.blk_alloc_new _ _, (Below.refl _ _).alloc (Nat.le_refl _) _⟩
    rw [World.cell?_alloc_lt _ _ _ htl]; exact c0
  intro U hU
  obtain ⟨hT, hc, hZ, hW⟩ := hU
  obtain ⟨e0, e1, e2⟩ := prim_row hT HP.out.2
  obtain ⟨b, hb⟩ : ∃ b, w.heap.size = b := ⟨_, rfl⟩
  rw [hb] at hZ ⊢
  have z0 : U.cell? ⟨b, 0, none⟩ = some (.string ⟨#[]⟩) := by simp [World.cell?, hZ]
  have z1 : U.cell? ⟨b, 1, none⟩ = some (.int .i64 0) := by simp [World.cell?, hZ]
  have z2 : U.cell? ⟨b, 2, none⟩ = some (.int .i64 0) := by simp [World.cell?, hZ]
  have zf : ∀ o, U.frozen? ⟨b, o, none⟩ = false := fun o => by simp [World.frozen?, hZ]
  change U.cell? ⟨pb, k * 3 + 1, none⟩ = some (.int .i64 (least k)) at e1
  change U.cell? ⟨pb, k * 3 + 2, none⟩ = some (.int .i64 (most k)) at e2
  have HW := hide (And.intro hW hZ)
  clear hW hZ hT c0 htl
  go_wp2_with fail
  obtain ⟨hW, hZ⟩ := HW.out
  rw [← hb] at hZ ⊢
  have hV : (((U.setCell ⟨w.heap.size, 0, none⟩ (.string (nm k))).setCell ⟨w.heap.size, 1, none⟩ (.int .i64 (least k))).setCell ⟨w.heap.size, 2, none⟩ (.int .i64 (most k))).heap[w.heap.size]? = some (.cells #[.string (nm k), .int .i64 (least k), .int .i64 (most k)] 109 (0, 0)) := by
    simp [World.setCell, Array.getElem?_modify, hZ]
  have hB := ((hW.setCell (p := ⟨w.heap.size, 0, none⟩) (Nat.le_refl _) (.string (nm k))).setCell (p := ⟨w.heap.size, 1, none⟩) (Nat.le_refl _) (.int .i64 (least k))).setCell (p := ⟨w.heap.size, 2, none⟩) (Nat.le_refl _) (.int .i64 (most k))
  generalize (((U.setCell ⟨w.heap.size, 0, none⟩ (.string (nm k))).setCell ⟨w.heap.size, 1, none⟩ (.int .i64 (least k))).setCell ⟨w.heap.size, 2, none⟩ (.int .i64 (most k))) = V at *
  have v0 : V.cell? ⟨w.heap.size, 0, none⟩ = some (.string (nm k)) := by simp [World.cell?, hV]
  have v1 : V.cell? ⟨w.heap.size, 1, none⟩ = some (.int .i64 (least k)) := by simp [World.cell?, hV]
  have v2 : V.cell? ⟨w.heap.size, 2, none⟩ = some (.int .i64 (most k)) := by simp [World.cell?, hV]
  exact bodyPost_ret (v := .tuple #[.agg #[.string (nm k), .int .i64 (least k), .int .i64 (most k)], .bool true]) (by simp [results, Tryz.results96, go_sem, v0, v1, v2]) rfl ⟨rfl, hB⟩

end Go.Proofs.YtafignheedbnbaaGreatDoor
