/-
  The walk of tandemlaw08.ExpandStrips.
-/
import Derived.Test.YtfhjamimbgdfpaaGreatDatRef
import Derived.Test.YtfhjamimbgdfpaaGreatDatSame
import Derived.Test.YtfhjamimbgdfpaaGreatExpAwake
namespace Go.Proofs.YtfhjamimbgdfpaaGreat
open Go.RowKit Go.BigFrame

theorem strips_awake (w : World) : Calls Tryz.prog 11 #[] w fun e w' => e = .returned (.bool true) ∧ Below w.heap.size w w' := by
  have key := X.Exp.awake_rule (l := []) (by simp)
  refine (key.2 w (fun _ => none) [] .nil).mono ?_
  rintro e w' ⟨x, rfl, hv, hb⟩
  rw [hv.bool_inv]
  exact ⟨rfl, hb⟩

set_option maxRecDepth 100000 in
set_option maxHeartbeats 4000000 in
theorem strips_any {x : Hd × DL × DL} {W : World} {Q : Nat → Prop} {cs : List Value} (h : ElemR W Q cs x) : Calls Tryz.prog 3 #[.agg ⟨cs⟩] W fun e w' => e = .returned (.bool true) ∧ Below W.heap.size W w' := by
  obtain ⟨vm, vi, vr, rfl, h1, h2, h3⟩ := id h
  obtain ⟨⟨kd, n, ng, mg, tx⟩, di, dr⟩ := x
  obtain ⟨bx, hbx⟩ : ∃ bx, W.heap.size = bx := ⟨_, rfl⟩
  have HH := hide h
  clear h h1 h2 h3
  unfold headV
  dsimp only
  go_enter Tryz.func3, Tryz.ntmps3
  go_upto_region 1 with fail
  refine genW (fun U => BoxD U bx [.int .i64 kd, .int .i64 n, .bool ng, vm, .string tx, vi, vr] ∧ Below W.heap.size W U) ⟨by rw [← hbx]; exact Deep.blk_alloc_new _ _, (Below.refl _ _).alloc (Nat.le_refl _) _⟩ ?_
  intro U hU
  obtain ⟨hB, hW⟩ := hU
  obtain ⟨c0, c1, c2, c3, c4, c5, c6, cf⟩ := box7 hB
  have HB := hide hB
  have HW := hide hW
  have HC := hide (fun (U' : World) (hb : Below U.heap.size U U') => copy_of (copyAll_any di) (copyAll_any dr) (HH.out.stays ((stays_below hW).trans (stays_below hb))))
  have HF := hide (fun (U' : World) (hb : Below U.heap.size U U') => ref_of (x := (⟨kd, n, ng, mg, tx⟩, di, dr)) (ref_all di) (ref_all dr) U' U'.heap.size (headV ⟨kd, n, ng, mg, tx⟩ vm vi vr) (Nat.le_refl _) (HH.out.stays ((stays_below hW).trans ((stays_below hb).trans (stays_refl fun b _ h => h)))))
  clear hB hW
  go_region_with (first
    | (go_at_call 9; refine (HC.out _ ((Below.refl _ _).drew)).mono ?_; rintro e u1 ⟨cs1, rfl, hE1, hb1⟩; have hw1 : Below U.heap.size U u1 := ((Below.refl _ U).drew).trans hb1; obtain ⟨d0, d1, d2, d3, d4, d5, d6, df⟩ := box7 (HB.out.below hw1))
    | (go_at_call 8; refine (strip_of (stripped_any _) (stripped_any _) (Nat.le_refl _) (hE1.stays (stays_refl fun b _ h => h))).mono ?_; rintro e u2 ⟨cs2, rfl, hE2, hb2⟩; have hw2 := hw1.trans (hb2.mono hw1.size); obtain ⟨x0, x1, x2, x3, x4, x5, x6, xf⟩ := box7 (HB.out.below hw2))
    | (go_at_call 10; refine (HF.out u2 hw2).mono ?_; rintro e u3 ⟨cs3, rfl, hE3, hb3⟩; have hw3 := hw2.trans (hb3.mono hw2.size))
    | (go_at_call 7; refine (same_of (sameAll_any _) (sameAll_any _) (hE2.stays (stays_below hb3)) hE3).mono ?_; rintro e u4 ⟨rfl, hb4⟩)
    | (go_at_call 11; refine (strips_awake _).mono ?_; rintro e u5 ⟨rfl, hb5⟩))
  all_goals
    have hw4 := hw3.trans (hb4.mono hw3.size)
    have hw5 := hw4.trans (hb5.mono hw4.size)
    have HE := hide (HW.out.trans (hw5.mono HW.out.size))
    clear hw4 hw5 hw3 hw2 hw1 hb1 hb2 hb3 hb4 hb5
    go_wp2
    go_ret
    exact ⟨rfl, HE.out⟩

end Go.Proofs.YtfhjamimbgdfpaaGreat
