/-
  The walk of the laws' own test of the document's example ('awake'): it answers true.
-/
import Derived.Test.YtmgafcbhoamkkaaFeedSee
namespace Go.Proofs.Ytmgafcbhoamkkaa
open Go.RowKit Go.ChangeMaps

theorem at_any (tb mb : Nat) (L : List Pl) (p c : Int) (hp : fits p) (hc : fits c) (w : World) (h : TabAt w tb mb L) :
    Calls Try.prog 12 #[.pointer (some ⟨tb, 0, none⟩), .int .i64 p, .int .i64 c] w fun e w' => e = .returned (.agg #[.int .i64 p, .int .i64 c, .int .i64 (tv L p c).1, .int .i64 (tv L p c).2.1]) ∧ Below w.heap.size w w' := by
  cases hq : L.find? (nameKey p c) with
  | some q => rw [tv_found hq]; exact at_some tb mb L p c q hp hc w h hq
  | none =>
    have : tv L p c = (0, -1, 0) := by unfold tv; rw [hq]
    rw [this]; exact at_none tb mb L p c hp hc w h hq

theorem mine_nil {mb b : Nat} : Mine mb [] b ↔ b = mb := by simp [Mine]

set_option maxHeartbeats 1000000 in
theorem awake_any (w : World) : Calls Try.prog 9 #[] w fun e w' => e = .returned (.bool true) ∧ Below w.heap.size w w' := by
  go_enter Try.func9, Try.ntmps9
  go_wp2_with fail
  refine (new_any _).mono ?_
  rintro e w1 ⟨rfl, ht, hb1⟩
  have hs1 : w.heap.size + 1 < w1.heap.size := lt_of_heap ht.tab
  have hA : TabAt (w1.alloc (.cells #[.int .i64 1, .int .i64 2] 3)) (w.heap.size + 1) w.heap.size [] := ht.below ((Below.refl _ _).alloc (Nat.le_refl _) _)
  have hS := hide (see_any w1.heap.size 2 (w.heap.size + 1) w.heap.size [] 0 3 [1, 2] (by unfold fits; decide) (by unfold fits; decide) (w1.alloc (.cells #[.int .i64 1, .int .i64 2] 3)) hA (by simp) (by rw [mine_nil]; omega)
    (by intro j hj; match j, hj with | 0, _ => simp | 1, _ => simp) (by decide))
  clear ht hA
  go_wp2_with fail
  refine hS.out.mono ?_
  rintro e w2 ⟨rfl, L', hL', htv, hT, -⟩
  have htv' : tv L' 0 3 = (6, -1, 0) := by rw [htv, if_pos ⟨rfl, rfl⟩]; decide +kernel
  have hb2 : Below w.heap.size w w2 := by
    have h1 := hb1.alloc (B := w.heap.size) (by omega) (.cells #[.int .i64 1, .int .i64 2] 3)
    exact ⟨hT.os.trans h1.os, hT.tape.trans h1.tape, hT.output.trans h1.output, Nat.le_trans h1.size hT.size, fun k hk => (hT.block k (by simp; omega) (by rw [mine_nil]; omega)).trans (h1.block k hk)⟩
  have hW := hide (at_any (w.heap.size + 1) w.heap.size L' 0 3 (by unfold fits; decide) (by unfold fits; decide) w2 hL')
  rw [htv'] at hW
  clear hS hL' htv hT htv' hb1
  go_wp2_with fail
  refine hW.out.mono ?_
  rintro e w3 ⟨rfl, hb3⟩
  have hb4 := hb2.trans (hb3.mono hb2.size)
  clear hW hb2 hb3
  go_wp2
  go_ret
  exact ⟨rfl, hb4⟩

end Go.Proofs.Ytmgafcbhoamkkaa
