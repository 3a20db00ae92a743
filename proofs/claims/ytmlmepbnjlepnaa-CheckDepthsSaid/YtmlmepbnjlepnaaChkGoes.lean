/-
  The walk of the checker's method goes: where an instruction goes.
-/
import Derived.Test.YtmlmepbnjlepnaaChkMem
import Derived.BigRegion
import Derived.BigQuiet
import Derived.Deep.QuietTactic
namespace Go.Proofs.Ytmlmepbnjlepnaa
open Go.RowKit

theorem info3 : (Try.prog.info? 3).map (fun i => (i.zero, i.size, i.bytes)) = some (some (.int .i64 0), 1, 8) := by kernel_rfl

def goesW (x : Want) (a pc : Int) : List Int := (if x.jumps then [a] else []) ++ (if x.fin then [] else [pc + 1])

set_option maxRecDepth 100000 in
set_option maxHeartbeats 1000000 in
theorem goes_any (cb : Nat) (k : Nat) (a b pc : Int) (x : Want) (w : World) (hk : k < 22) (hcb : cb < w.heap.size) (hx : WantAt w cb k x) (hpc : 0 ≤ pc) (hpc2 : pc ≤ 65536) :
    Calls Try.prog 24 #[.pointer (some ⟨cb, 0, none⟩), .agg #[.int .i64 k, .int .i64 a, .int .i64 b], .int .i64 pc] w (OwnInts w (goesW x a pc)) := by
  obtain ⟨i0, hi, hz0, hz1, hz2⟩ := info_parts info3
  obtain ⟨c0, c1, c2, c3, c4, c5, c6, c7, c8⟩ := hx
  obtain ⟨q0, q1, q2, q3, q4, q5, q6, q7, q8⟩ := x
  dsimp only at c0 c1 c2 c3 c4 c5 c6 c7 c8
  have hkk : (k : Int) < 22 := by omega
  have hk0 : (0 : Int) ≤ k := by omega
  cases q7 <;> cases q8
  case false.true =>
    go_enter Try.func24, Try.ntmps24
    go_wp2
    go_region
    go_wp2
    go_ret
    exact ⟨_, rfl, World.ownsRow_nil _ _ _ _, by repeat (first | exact Below.refl _ _ | apply Below.drew | refine Below.alloc ?_ (by simp) _ | refine Below.alloc ?_ (by simp; omega) _)⟩
  case false.false =>
    go_enter Try.func24, Try.ntmps24
    go_wp2
    go_region
    go_wp2_with (at_builtin; refine wpList_append1 _ rfl _ _ 42 rfl w.heap.size 3 i0 (.int .i64 0) 8 Try.underlying42 hi hz0 hz1 hz2 rfl _ 0 [] rfl (World.ownsRow_nil _ _ _ _) _ (.int .i64 (pc + 1)) rfl ?_ rfl (by decide) (by decide) ?_ ?_; rotate_right; intro v1 w1 hown1 hgrow1; obtain ⟨hc1, hf1, hs1⟩ := bgrow hgrow1 rfl)
    go_ret
    exact ⟨_, rfl, hown1, below_own (by repeat (first | exact Below.refl _ _ | apply Below.drew | refine Below.alloc ?_ (by simp <;> omega) _)) hgrow1 (World.ownsRow_nil _ w.heap.size 3 1) (by simp <;> omega)⟩
    all_goals (first | (go_simp; done) | (simp; omega))
  case true.true =>
    go_enter Try.func24, Try.ntmps24
    go_wp2
    go_region
    go_wp2_with (at_builtin; refine wpList_append1 _ rfl _ _ 42 rfl w.heap.size 3 i0 (.int .i64 0) 8 Try.underlying42 hi hz0 hz1 hz2 rfl _ 0 [] rfl (World.ownsRow_nil _ _ _ _) _ (.int .i64 a) rfl ?_ rfl (by decide) (by decide) ?_ ?_; rotate_right; intro v1 w1 hown1 hgrow1; obtain ⟨hc1, hf1, hs1⟩ := bgrow hgrow1 rfl)
    go_ret
    exact ⟨_, rfl, hown1, below_own (by repeat (first | exact Below.refl _ _ | apply Below.drew | refine Below.alloc ?_ (by simp <;> omega) _)) hgrow1 (World.ownsRow_nil _ w.heap.size 3 1) (by simp <;> omega)⟩
    all_goals (first | (go_simp; done) | (simp; omega))
  case true.false =>
    go_enter Try.func24, Try.ntmps24
    go_wp2
    go_region
    go_wp2_with (first
      | (at_builtin; refine wpList_append1 _ rfl (.tmp 18) (.tmp 21) 42 rfl w.heap.size 3 i0 (.int .i64 0) 8 Try.underlying42 hi hz0 hz1 hz2 rfl _ 0 [] rfl (World.ownsRow_nil _ _ _ _) _ (.int .i64 a) rfl ?_ rfl (by decide) (by decide) ?_ ?_; rotate_right; intro v1 w1 hown1 hgrow1; obtain ⟨hc1, hf1, hs1⟩ := bgrow hgrow1 rfl)
      | (at_builtin; refine wpList_append1 _ rfl (.tmp 26) (.tmp 29) 42 rfl w.heap.size 3 i0 (.int .i64 0) 8 Try.underlying42 hi hz0 hz1 hz2 rfl _ 1 _ rfl (hown1.alloc _) _ (.int .i64 (pc + 1)) rfl ?_ rfl (by decide) (by decide) ?_ ?_; rotate_right; intro v2 w2 hown2 hgrow2))
    go_ret
    exact ⟨_, rfl, hown2, below_own ((below_own (by repeat (first | exact Below.refl _ _ | apply Below.drew | refine Below.alloc ?_ (by simp <;> omega) _)) hgrow1 (World.ownsRow_nil _ w.heap.size 3 1) (by simp <;> omega)).alloc (by simp at hs1 ⊢; omega) _) hgrow2 (hown1.alloc _) (by simp at hs1 ⊢; omega)⟩
    all_goals (first | (go_simp; done) | (simp; omega) | (simp at hs1 ⊢; omega))

end Go.Proofs.Ytmlmepbnjlepnaa
