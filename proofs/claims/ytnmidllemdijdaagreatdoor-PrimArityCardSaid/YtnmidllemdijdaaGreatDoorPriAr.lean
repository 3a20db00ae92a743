/- What the runs of the law of arity lean on; no condition. -/
import Derived.Test.YtnmidllemdijdaaGreatDoorPriAwake
namespace Go.Proofs.YtnmidllemdijdaaGreatDoor.X.Pri
open Go
noncomputable def prules (i j : Nat) : List Rule := [⟨P.of 6, [.sym 0, .int .i64 (.ofNat 85)], .int .i64 (.ofNat i)⟩, ⟨P.of 6, [.sym 1, .int .i64 (.ofNat 8)], .int .i64 (.ofNat j)⟩, ⟨P.of 7, [], .bool true⟩]
noncomputable def prun (i j : Nat) : Bool := answer (env (prules i j)) 1000000 (P.of 3) [.sym 0, .sym 1]
theorem pcase (a b : Int) (i j : Nat) (h1 : placeN a 85 = i) (h2 : placeN b 8 = j) (h : prun i j = true) : RuleOk Tryz.prog (sg [.int .i64 a, .int .i64 b]) 3 [.sym 0, .sym 1] (.bool true) := by
  have hl : ∀ v ∈ [Value.int .i64 a, Value.int .i64 b], ∃ k m, v = .int k m := List.forall_mem_cons.2 ⟨⟨_, _, rfl⟩, List.forall_mem_cons.2 ⟨⟨_, _, rfl⟩, List.forall_mem_nil _⟩⟩
  refine run_rule hl (rules := prules i j) ?_ _ _ rfl h
  have p1 := place_rule (l := [.int .i64 a, .int .i64 b]) (i := 0) (v := a) rfl 85 (by decide) (by decide)
  have p2 := place_rule (l := [.int .i64 a, .int .i64 b]) (i := 1) (v := b) rfl 8 (by decide) (by decide)
  rw [h1] at p1
  rw [h2] at p2
  exact List.forall_mem_cons.2 ⟨rule_at p1, List.forall_mem_cons.2 ⟨rule_at p2, List.forall_mem_cons.2 ⟨rule_at (awake_rule hl), List.forall_mem_nil _⟩⟩⟩
/-- all eight counts of arguments -/
def Eight (i : Nat) : Prop := ∀ j, j < 8 → prun i j = true
theorem eight {i : Nat} (h0 : prun i 0 = true) (h1 : prun i 1 = true) (h2 : prun i 2 = true) (h3 : prun i 3 = true) (h4 : prun i 4 = true) (h5 : prun i 5 = true) (h6 : prun i 6 = true) (h7 : prun i 7 = true) : Eight i := by
  intro j hj
  match j, hj with
  | 0, _ => exact h0
  | 1, _ => exact h1
  | 2, _ => exact h2
  | 3, _ => exact h3
  | 4, _ => exact h4
  | 5, _ => exact h5
  | 6, _ => exact h6
  | 7, _ => exact h7
end Go.Proofs.YtnmidllemdijdaaGreatDoor.X.Pri
