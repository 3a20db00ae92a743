/-
  The walks of feed.join, feed.Join, tandemref14.Join, feed.first: what each hands back; nothing that was there has turned.
-/
import Derived.Test.YtmgafcbhoamkkaaFeedBase
import Derived.BigRegion
import Derived.BigQuiet
import Derived.Deep.QuietTactic
import Derived.Outline
namespace Go.Proofs.Ytmgafcbhoamkkaa
open Go.RowKit

/-- One callee of two. -/
def fj (a b : Int) : Int :=
  let a := if a < -2 then -2 else a
  let b := if b < -2 then -2 else b
  if a = -1 ∨ a = b then b else if b = -1 then a else -2

set_option maxHeartbeats 400000 in
theorem join_any (a b : Int) (w : World) :
    Calls Try.prog 24 #[.int .i64 a, .int .i64 b] w fun e w' => e = .returned (.int .i64 (fj a b)) ∧ w = w' := by
  by_cases ha : a < -2 <;> by_cases hb : b < -2
  all_goals
    go_enter Try.func24, Try.ntmps24
    go_wp2
    all_goals go_ret
    all_goals refine ⟨ret_int ?_, rfl⟩
    all_goals (simp_all [fj]; try omega)

set_option maxHeartbeats 400000 in
theorem first_any (p c : Int) (w : World) :
    Calls Try.prog 26 #[.int .i64 p, .int .i64 c] w fun e w' => e = .returned (.agg #[.int .i64 p, .int .i64 c, .int .i64 0, .int .i64 (-1)]) ∧ w' = w.alloc (.cells #[.int .i64 p, .int .i64 c, .int .i64 0, .int .i64 (-1)] 23) := by
  go_enter Try.func26, Try.ntmps26
  go_wp2
  exact bodyPost_ret (v := .agg #[.int .i64 p, .int .i64 c, .int .i64 0, .int .i64 (-1)]) (by simp [results, Try.results26, go_sem]) rfl ⟨rfl, rfl⟩

set_option maxHeartbeats 400000 in
theorem fJoin_any (p c m k p' c' m' k' : Int) (w : World) :
    Calls Try.prog 7 #[.agg #[.int .i64 p, .int .i64 c, .int .i64 m, .int .i64 k], .agg #[.int .i64 p', .int .i64 c', .int .i64 m', .int .i64 k']] w fun e w' => e = .returned (.agg #[.int .i64 p, .int .i64 c, .int .i64 (bits BinOp.or .i64 m m'), .int .i64 (fj k k')]) ∧ Below w.heap.size w w' := by
  go_enter Try.func7, Try.ntmps7
  go_wp2_with (go_at_call 24; refine (join_any _ _ _).mono ?_; rintro e w' ⟨rfl, rfl⟩)
  exact bodyPost_ret (v := .agg #[.int .i64 p, .int .i64 c, .int .i64 (bits BinOp.or .i64 m m'), .int .i64 (fj k k')]) (by simp [results, Try.results7, go_sem]) rfl
    ⟨rfl, (((Below.refl _ _).alloc (Nat.le_refl _) _).alloc (by simp) _).alloc (by simp; omega) _⟩

set_option maxHeartbeats 1000000 in
theorem rJoin_any (p c m k p' c' m' k' : Int) (w : World) :
    Calls Try.prog 8 #[.agg #[.int .i64 p, .int .i64 c, .int .i64 m, .int .i64 k], .agg #[.int .i64 p', .int .i64 c', .int .i64 m', .int .i64 k']] w fun e w' => e = .returned (.agg #[.int .i64 p, .int .i64 c, .int .i64 (bits BinOp.or .i64 m m'), .int .i64 (fj k k')]) ∧ Below w.heap.size w w' := by
  by_cases ha : k < -2 <;> by_cases hb : k' < -2
  all_goals
    go_enter Try.func8, Try.ntmps8
    go_wp2
    all_goals
      refine bodyPost_ret (v := _) ?_ rfl ⟨rfl, ((((Below.refl _ _).alloc (Nat.le_refl _) _).alloc (by simp) _).alloc (by simp; omega) _).alloc (by simp; omega) _⟩
      simp_all [results, Try.results8, go_sem, fj]
    all_goals try omega

end Go.Proofs.Ytmgafcbhoamkkaa
