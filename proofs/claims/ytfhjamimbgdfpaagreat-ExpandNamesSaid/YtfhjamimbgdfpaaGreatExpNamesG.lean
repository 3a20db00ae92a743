/- Runs of the law of names, part 6; no condition. -/
import Derived.Test.YtfhjamimbgdfpaaGreatExpAwake
namespace Go.Proofs.YtfhjamimbgdfpaaGreat.X.Exp
open Go
set_option maxRecDepth 100000
noncomputable def nrules60 : List Rule := [⟨P.of 12, [.sym 0, .int .i64 (.ofNat 10)], .int .i64 (.ofNat 6)⟩, ⟨P.of 12, [.sym 1, .int .i64 (.ofNat 10)], .int .i64 (.ofNat 0)⟩, ⟨P.of 11, [], .bool true⟩]
theorem nran60 : answer (env nrules60) 1000000 (P.of 5) [.sym 0, .sym 1] = true := by decide +kernel
theorem ncase60 (a b : Int) (h1 : placeN a 10 = 6) (h2 : placeN b 10 = 0) : RuleOk Tryz.prog (sg [.int .i64 a, .int .i64 b]) 5 [.sym 0, .sym 1] (.bool true) := by
  have hl : ∀ v ∈ [Value.int .i64 a, Value.int .i64 b], ∃ k m, v = .int k m := List.forall_mem_cons.2 ⟨⟨_, _, rfl⟩, List.forall_mem_cons.2 ⟨⟨_, _, rfl⟩, List.forall_mem_nil _⟩⟩
  refine run_rule hl (rules := nrules60) ?_ _ _ rfl nran60
  have p1 := place_rule (l := [.int .i64 a, .int .i64 b]) (i := 0) (v := a) rfl 10 (by decide) (by decide)
  have p2 := place_rule (l := [.int .i64 a, .int .i64 b]) (i := 1) (v := b) rfl 10 (by decide) (by decide)
  rw [h1] at p1
  rw [h2] at p2
  exact List.forall_mem_cons.2 ⟨rule_at p1, List.forall_mem_cons.2 ⟨rule_at p2, List.forall_mem_cons.2 ⟨rule_at (awake_rule hl), List.forall_mem_nil _⟩⟩⟩
noncomputable def nrules61 : List Rule := [⟨P.of 12, [.sym 0, .int .i64 (.ofNat 10)], .int .i64 (.ofNat 6)⟩, ⟨P.of 12, [.sym 1, .int .i64 (.ofNat 10)], .int .i64 (.ofNat 1)⟩, ⟨P.of 11, [], .bool true⟩]
theorem nran61 : answer (env nrules61) 1000000 (P.of 5) [.sym 0, .sym 1] = true := by decide +kernel
theorem ncase61 (a b : Int) (h1 : placeN a 10 = 6) (h2 : placeN b 10 = 1) : RuleOk Tryz.prog (sg [.int .i64 a, .int .i64 b]) 5 [.sym 0, .sym 1] (.bool true) := by
  have hl : ∀ v ∈ [Value.int .i64 a, Value.int .i64 b], ∃ k m, v = .int k m := List.forall_mem_cons.2 ⟨⟨_, _, rfl⟩, List.forall_mem_cons.2 ⟨⟨_, _, rfl⟩, List.forall_mem_nil _⟩⟩
  refine run_rule hl (rules := nrules61) ?_ _ _ rfl nran61
  have p1 := place_rule (l := [.int .i64 a, .int .i64 b]) (i := 0) (v := a) rfl 10 (by decide) (by decide)
  have p2 := place_rule (l := [.int .i64 a, .int .i64 b]) (i := 1) (v := b) rfl 10 (by decide) (by decide)
  rw [h1] at p1
  rw [h2] at p2
  exact List.forall_mem_cons.2 ⟨rule_at p1, List.forall_mem_cons.2 ⟨rule_at p2, List.forall_mem_cons.2 ⟨rule_at (awake_rule hl), List.forall_mem_nil _⟩⟩⟩
noncomputable def nrules62 : List Rule := [⟨P.of 12, [.sym 0, .int .i64 (.ofNat 10)], .int .i64 (.ofNat 6)⟩, ⟨P.of 12, [.sym 1, .int .i64 (.ofNat 10)], .int .i64 (.ofNat 2)⟩, ⟨P.of 11, [], .bool true⟩]
theorem nran62 : answer (env nrules62) 1000000 (P.of 5) [.sym 0, .sym 1] = true := by decide +kernel
theorem ncase62 (a b : Int) (h1 : placeN a 10 = 6) (h2 : placeN b 10 = 2) : RuleOk Tryz.prog (sg [.int .i64 a, .int .i64 b]) 5 [.sym 0, .sym 1] (.bool true) := by
  have hl : ∀ v ∈ [Value.int .i64 a, Value.int .i64 b], ∃ k m, v = .int k m := List.forall_mem_cons.2 ⟨⟨_, _, rfl⟩, List.forall_mem_cons.2 ⟨⟨_, _, rfl⟩, List.forall_mem_nil _⟩⟩
  refine run_rule hl (rules := nrules62) ?_ _ _ rfl nran62
  have p1 := place_rule (l := [.int .i64 a, .int .i64 b]) (i := 0) (v := a) rfl 10 (by decide) (by decide)
  have p2 := place_rule (l := [.int .i64 a, .int .i64 b]) (i := 1) (v := b) rfl 10 (by decide) (by decide)
  rw [h1] at p1
  rw [h2] at p2
  exact List.forall_mem_cons.2 ⟨rule_at p1, List.forall_mem_cons.2 ⟨rule_at p2, List.forall_mem_cons.2 ⟨rule_at (awake_rule hl), List.forall_mem_nil _⟩⟩⟩
noncomputable def nrules63 : List Rule := [⟨P.of 12, [.sym 0, .int .i64 (.ofNat 10)], .int .i64 (.ofNat 6)⟩, ⟨P.of 12, [.sym 1, .int .i64 (.ofNat 10)], .int .i64 (.ofNat 3)⟩, ⟨P.of 11, [], .bool true⟩]
theorem nran63 : answer (env nrules63) 1000000 (P.of 5) [.sym 0, .sym 1] = true := by decide +kernel
theorem ncase63 (a b : Int) (h1 : placeN a 10 = 6) (h2 : placeN b 10 = 3) : RuleOk Tryz.prog (sg [.int .i64 a, .int .i64 b]) 5 [.sym 0, .sym 1] (.bool true) := by
  have hl : ∀ v ∈ [Value.int .i64 a, Value.int .i64 b], ∃ k m, v = .int k m := List.forall_mem_cons.2 ⟨⟨_, _, rfl⟩, List.forall_mem_cons.2 ⟨⟨_, _, rfl⟩, List.forall_mem_nil _⟩⟩
  refine run_rule hl (rules := nrules63) ?_ _ _ rfl nran63
  have p1 := place_rule (l := [.int .i64 a, .int .i64 b]) (i := 0) (v := a) rfl 10 (by decide) (by decide)
  have p2 := place_rule (l := [.int .i64 a, .int .i64 b]) (i := 1) (v := b) rfl 10 (by decide) (by decide)
  rw [h1] at p1
  rw [h2] at p2
  exact List.forall_mem_cons.2 ⟨rule_at p1, List.forall_mem_cons.2 ⟨rule_at p2, List.forall_mem_cons.2 ⟨rule_at (awake_rule hl), List.forall_mem_nil _⟩⟩⟩
noncomputable def nrules64 : List Rule := [⟨P.of 12, [.sym 0, .int .i64 (.ofNat 10)], .int .i64 (.ofNat 6)⟩, ⟨P.of 12, [.sym 1, .int .i64 (.ofNat 10)], .int .i64 (.ofNat 4)⟩, ⟨P.of 11, [], .bool true⟩]
theorem nran64 : answer (env nrules64) 1000000 (P.of 5) [.sym 0, .sym 1] = true := by decide +kernel
theorem ncase64 (a b : Int) (h1 : placeN a 10 = 6) (h2 : placeN b 10 = 4) : RuleOk Tryz.prog (sg [.int .i64 a, .int .i64 b]) 5 [.sym 0, .sym 1] (.bool true) := by
  have hl : ∀ v ∈ [Value.int .i64 a, Value.int .i64 b], ∃ k m, v = .int k m := List.forall_mem_cons.2 ⟨⟨_, _, rfl⟩, List.forall_mem_cons.2 ⟨⟨_, _, rfl⟩, List.forall_mem_nil _⟩⟩
  refine run_rule hl (rules := nrules64) ?_ _ _ rfl nran64
  have p1 := place_rule (l := [.int .i64 a, .int .i64 b]) (i := 0) (v := a) rfl 10 (by decide) (by decide)
  have p2 := place_rule (l := [.int .i64 a, .int .i64 b]) (i := 1) (v := b) rfl 10 (by decide) (by decide)
  rw [h1] at p1
  rw [h2] at p2
  exact List.forall_mem_cons.2 ⟨rule_at p1, List.forall_mem_cons.2 ⟨rule_at p2, List.forall_mem_cons.2 ⟨rule_at (awake_rule hl), List.forall_mem_nil _⟩⟩⟩
noncomputable def nrules65 : List Rule := [⟨P.of 12, [.sym 0, .int .i64 (.ofNat 10)], .int .i64 (.ofNat 6)⟩, ⟨P.of 12, [.sym 1, .int .i64 (.ofNat 10)], .int .i64 (.ofNat 5)⟩, ⟨P.of 11, [], .bool true⟩]
theorem nran65 : answer (env nrules65) 1000000 (P.of 5) [.sym 0, .sym 1] = true := by decide +kernel
theorem ncase65 (a b : Int) (h1 : placeN a 10 = 6) (h2 : placeN b 10 = 5) : RuleOk Tryz.prog (sg [.int .i64 a, .int .i64 b]) 5 [.sym 0, .sym 1] (.bool true) := by
  have hl : ∀ v ∈ [Value.int .i64 a, Value.int .i64 b], ∃ k m, v = .int k m := List.forall_mem_cons.2 ⟨⟨_, _, rfl⟩, List.forall_mem_cons.2 ⟨⟨_, _, rfl⟩, List.forall_mem_nil _⟩⟩
  refine run_rule hl (rules := nrules65) ?_ _ _ rfl nran65
  have p1 := place_rule (l := [.int .i64 a, .int .i64 b]) (i := 0) (v := a) rfl 10 (by decide) (by decide)
  have p2 := place_rule (l := [.int .i64 a, .int .i64 b]) (i := 1) (v := b) rfl 10 (by decide) (by decide)
  rw [h1] at p1
  rw [h2] at p2
  exact List.forall_mem_cons.2 ⟨rule_at p1, List.forall_mem_cons.2 ⟨rule_at p2, List.forall_mem_cons.2 ⟨rule_at (awake_rule hl), List.forall_mem_nil _⟩⟩⟩
noncomputable def nrules66 : List Rule := [⟨P.of 12, [.sym 0, .int .i64 (.ofNat 10)], .int .i64 (.ofNat 6)⟩, ⟨P.of 12, [.sym 1, .int .i64 (.ofNat 10)], .int .i64 (.ofNat 6)⟩, ⟨P.of 11, [], .bool true⟩]
theorem nran66 : answer (env nrules66) 1000000 (P.of 5) [.sym 0, .sym 1] = true := by decide +kernel
theorem ncase66 (a b : Int) (h1 : placeN a 10 = 6) (h2 : placeN b 10 = 6) : RuleOk Tryz.prog (sg [.int .i64 a, .int .i64 b]) 5 [.sym 0, .sym 1] (.bool true) := by
  have hl : ∀ v ∈ [Value.int .i64 a, Value.int .i64 b], ∃ k m, v = .int k m := List.forall_mem_cons.2 ⟨⟨_, _, rfl⟩, List.forall_mem_cons.2 ⟨⟨_, _, rfl⟩, List.forall_mem_nil _⟩⟩
  refine run_rule hl (rules := nrules66) ?_ _ _ rfl nran66
  have p1 := place_rule (l := [.int .i64 a, .int .i64 b]) (i := 0) (v := a) rfl 10 (by decide) (by decide)
  have p2 := place_rule (l := [.int .i64 a, .int .i64 b]) (i := 1) (v := b) rfl 10 (by decide) (by decide)
  rw [h1] at p1
  rw [h2] at p2
  exact List.forall_mem_cons.2 ⟨rule_at p1, List.forall_mem_cons.2 ⟨rule_at p2, List.forall_mem_cons.2 ⟨rule_at (awake_rule hl), List.forall_mem_nil _⟩⟩⟩
noncomputable def nrules67 : List Rule := [⟨P.of 12, [.sym 0, .int .i64 (.ofNat 10)], .int .i64 (.ofNat 6)⟩, ⟨P.of 12, [.sym 1, .int .i64 (.ofNat 10)], .int .i64 (.ofNat 7)⟩, ⟨P.of 11, [], .bool true⟩]
theorem nran67 : answer (env nrules67) 1000000 (P.of 5) [.sym 0, .sym 1] = true := by decide +kernel
theorem ncase67 (a b : Int) (h1 : placeN a 10 = 6) (h2 : placeN b 10 = 7) : RuleOk Tryz.prog (sg [.int .i64 a, .int .i64 b]) 5 [.sym 0, .sym 1] (.bool true) := by
  have hl : ∀ v ∈ [Value.int .i64 a, Value.int .i64 b], ∃ k m, v = .int k m := List.forall_mem_cons.2 ⟨⟨_, _, rfl⟩, List.forall_mem_cons.2 ⟨⟨_, _, rfl⟩, List.forall_mem_nil _⟩⟩
  refine run_rule hl (rules := nrules67) ?_ _ _ rfl nran67
  have p1 := place_rule (l := [.int .i64 a, .int .i64 b]) (i := 0) (v := a) rfl 10 (by decide) (by decide)
  have p2 := place_rule (l := [.int .i64 a, .int .i64 b]) (i := 1) (v := b) rfl 10 (by decide) (by decide)
  rw [h1] at p1
  rw [h2] at p2
  exact List.forall_mem_cons.2 ⟨rule_at p1, List.forall_mem_cons.2 ⟨rule_at p2, List.forall_mem_cons.2 ⟨rule_at (awake_rule hl), List.forall_mem_nil _⟩⟩⟩
noncomputable def nrules68 : List Rule := [⟨P.of 12, [.sym 0, .int .i64 (.ofNat 10)], .int .i64 (.ofNat 6)⟩, ⟨P.of 12, [.sym 1, .int .i64 (.ofNat 10)], .int .i64 (.ofNat 8)⟩, ⟨P.of 11, [], .bool true⟩]
theorem nran68 : answer (env nrules68) 1000000 (P.of 5) [.sym 0, .sym 1] = true := by decide +kernel
theorem ncase68 (a b : Int) (h1 : placeN a 10 = 6) (h2 : placeN b 10 = 8) : RuleOk Tryz.prog (sg [.int .i64 a, .int .i64 b]) 5 [.sym 0, .sym 1] (.bool true) := by
  have hl : ∀ v ∈ [Value.int .i64 a, Value.int .i64 b], ∃ k m, v = .int k m := List.forall_mem_cons.2 ⟨⟨_, _, rfl⟩, List.forall_mem_cons.2 ⟨⟨_, _, rfl⟩, List.forall_mem_nil _⟩⟩
  refine run_rule hl (rules := nrules68) ?_ _ _ rfl nran68
  have p1 := place_rule (l := [.int .i64 a, .int .i64 b]) (i := 0) (v := a) rfl 10 (by decide) (by decide)
  have p2 := place_rule (l := [.int .i64 a, .int .i64 b]) (i := 1) (v := b) rfl 10 (by decide) (by decide)
  rw [h1] at p1
  rw [h2] at p2
  exact List.forall_mem_cons.2 ⟨rule_at p1, List.forall_mem_cons.2 ⟨rule_at p2, List.forall_mem_cons.2 ⟨rule_at (awake_rule hl), List.forall_mem_nil _⟩⟩⟩
noncomputable def nrules69 : List Rule := [⟨P.of 12, [.sym 0, .int .i64 (.ofNat 10)], .int .i64 (.ofNat 6)⟩, ⟨P.of 12, [.sym 1, .int .i64 (.ofNat 10)], .int .i64 (.ofNat 9)⟩, ⟨P.of 11, [], .bool true⟩]
theorem nran69 : answer (env nrules69) 1000000 (P.of 5) [.sym 0, .sym 1] = true := by decide +kernel
theorem ncase69 (a b : Int) (h1 : placeN a 10 = 6) (h2 : placeN b 10 = 9) : RuleOk Tryz.prog (sg [.int .i64 a, .int .i64 b]) 5 [.sym 0, .sym 1] (.bool true) := by
  have hl : ∀ v ∈ [Value.int .i64 a, Value.int .i64 b], ∃ k m, v = .int k m := List.forall_mem_cons.2 ⟨⟨_, _, rfl⟩, List.forall_mem_cons.2 ⟨⟨_, _, rfl⟩, List.forall_mem_nil _⟩⟩
  refine run_rule hl (rules := nrules69) ?_ _ _ rfl nran69
  have p1 := place_rule (l := [.int .i64 a, .int .i64 b]) (i := 0) (v := a) rfl 10 (by decide) (by decide)
  have p2 := place_rule (l := [.int .i64 a, .int .i64 b]) (i := 1) (v := b) rfl 10 (by decide) (by decide)
  rw [h1] at p1
  rw [h2] at p2
  exact List.forall_mem_cons.2 ⟨rule_at p1, List.forall_mem_cons.2 ⟨rule_at p2, List.forall_mem_cons.2 ⟨rule_at (awake_rule hl), List.forall_mem_nil _⟩⟩⟩
end Go.Proofs.YtfhjamimbgdfpaaGreat.X.Exp
