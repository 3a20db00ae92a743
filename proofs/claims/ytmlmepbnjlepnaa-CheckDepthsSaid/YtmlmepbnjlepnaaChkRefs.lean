/-
  The walks of the document's small functions: in, named, wants, own.
-/
import Derived.Test.YtmlmepbnjlepnaaChkHead
namespace Go.Proofs.Ytmlmepbnjlepnaa
open Go.RowKit Go.BigFrame
set_option linter.unusedSimpArgs false
set_option linter.unusedVariables false

set_option maxHeartbeats 400000 in
theorem rin_any (n b : Int) (w : World) :
    Calls Try.prog 20 #[.int .i64 n, .int .i64 b] w fun e w' => e = .returned (.bool (inB n b)) ∧ w' = w := by
  by_cases h0 : 0 ≤ n <;> by_cases h1 : n < b
  all_goals
    go_enter Try.func20, Try.ntmps20
    go_wp2
    go_ret
    exact ⟨by simp [inB, h0, h1], rfl⟩

theorem ops21 {op : Int} (h : 1 ≤ op ∧ op ≤ 21) : op = 1 ∨ op = 2 ∨ op = 3 ∨ op = 4 ∨ op = 5 ∨ op = 6 ∨ op = 7 ∨ op = 8 ∨ op = 9 ∨ op = 10 ∨ op = 11 ∨ op = 12 ∨ op = 13 ∨ op = 14 ∨ op = 15 ∨ op = 16 ∨ op = 17 ∨ op = 18 ∨ op = 19 ∨ op = 20 ∨ op = 21 := by omega

set_option maxRecDepth 100000 in
set_option maxHeartbeats 4000000 in
theorem named_any (op : Int) (h : 1 ≤ op ∧ op ≤ 21) (w : World) :
    Calls Try.prog 29 #[.int .i64 op] w fun e w' => e = .returned (.tuple #[.bool (wantT op.toNat).a, .bool (wantT op.toNat).b]) ∧ w' = w := by
  rcases ops21 h with h | h | h | h | h | h | h | h | h | h | h | h | h | h | h | h | h | h | h | h | h <;> subst h <;>
  · go_enter Try.func29, Try.ntmps29
    go_wp2
    go_ret2
    exact ⟨rfl, rfl⟩

/-- By how much the document turns the depth. -/
def turnR (x : Ins) : Int := if x.op = 12 ∨ x.op = 13 then 0 else moreOf x

set_option maxRecDepth 100000 in
set_option maxHeartbeats 8000000 in
theorem rwants_any (x : Ins) (h : 1 ≤ x.op ∧ x.op ≤ 21) (ha : (wantT x.op.toNat).byA = true → 0 ≤ x.a ∧ x.a ≤ 4096) (hb : (wantT x.op.toNat).byB = true → 0 ≤ x.b ∧ x.b ≤ 9223372036854775807) (w : World) :
    Calls Try.prog 27 #[.agg #[.int .i64 x.op, .int .i64 x.a, .int .i64 x.b]] w fun e w' => e = .returned (.tuple #[.int .i64 (needOf x), .int .i64 (turnR x)]) ∧ Below w.heap.size w w' := by
  obtain ⟨op, a, b⟩ := x
  dsimp only at h ha hb ⊢
  rcases ops21 h with h | h | h | h | h | h | h | h | h | h | h | h | h | h | h | h | h | h | h | h | h <;> subst h <;> simp [wantT] at ha hb <;>
  · go_enter Try.func27, Try.ntmps27
    go_wp2
    try (go_region; go_wp2)
    go_ret2
    exact ⟨by simp [needOf, turnR, moreOf, wantT] <;> (try constructor) <;> omega, by repeat (first | exact Below.refl _ _ | apply Below.drew | apply below_drewN | refine Below.alloc ?_ (by simp <;> omega) _)⟩

end Go.Proofs.Ytmlmepbnjlepnaa
