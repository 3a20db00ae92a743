/- What the runs of the law of hygiene lean on; no condition. -/
import Derived.Test.YtfhjamimbgdfpaaGreatExpAwake
namespace Go.Proofs.YtfhjamimbgdfpaaGreat.X.Exp
open Go
noncomputable def hrules (i j k : Nat) : List Rule := [⟨P.of 12, [.sym 0, .int .i64 (.ofNat 9)], .int .i64 (.ofNat i)⟩, ⟨P.of 12, [.sym 1, .int .i64 (.ofNat 9)], .int .i64 (.ofNat j)⟩, ⟨P.of 12, [.sym 2, .int .i64 (.ofNat 4)], .int .i64 (.ofNat k)⟩, ⟨P.of 11, [], .bool true⟩]
noncomputable def hrun (i j k : Nat) : Bool := answer (env (hrules i j k)) 1000000 (P.of 4) [.sym 0, .sym 1, .sym 2]
theorem hcase (a b c : Int) (i j k : Nat) (h1 : placeN a 9 = i) (h2 : placeN b 9 = j) (h3 : placeN c 4 = k) (h : hrun i j k = true) : RuleOk Tryz.prog (sg [.int .i64 a, .int .i64 b, .int .i64 c]) 4 [.sym 0, .sym 1, .sym 2] (.bool true) := by
  have hl : ∀ v ∈ [Value.int .i64 a, Value.int .i64 b, Value.int .i64 c], ∃ k m, v = .int k m := List.forall_mem_cons.2 ⟨⟨_, _, rfl⟩, List.forall_mem_cons.2 ⟨⟨_, _, rfl⟩, List.forall_mem_cons.2 ⟨⟨_, _, rfl⟩, List.forall_mem_nil _⟩⟩⟩
  refine run_rule hl (rules := hrules i j k) ?_ _ _ rfl h
  have p1 := place_rule (l := [.int .i64 a, .int .i64 b, .int .i64 c]) (i := 0) (v := a) rfl 9 (by decide) (by decide)
  have p2 := place_rule (l := [.int .i64 a, .int .i64 b, .int .i64 c]) (i := 1) (v := b) rfl 9 (by decide) (by decide)
  have p3 := place_rule (l := [.int .i64 a, .int .i64 b, .int .i64 c]) (i := 2) (v := c) rfl 4 (by decide) (by decide)
  rw [h1] at p1
  rw [h2] at p2
  rw [h3] at p3
  exact List.forall_mem_cons.2 ⟨rule_at p1, List.forall_mem_cons.2 ⟨rule_at p2, List.forall_mem_cons.2 ⟨rule_at p3, List.forall_mem_cons.2 ⟨rule_at (awake_rule hl), List.forall_mem_nil _⟩⟩⟩⟩
end Go.Proofs.YtfhjamimbgdfpaaGreat.X.Exp
