/- Runs of the law of names, part 4; no condition. -/
import Derived.Test.YtfhjamimbgdfpaaGreatExpAwake
namespace Go.Proofs.YtfhjamimbgdfpaaGreat.X.Exp
open Go
set_option maxRecDepth 100000
noncomputable def nrules40 : List Rule := [⟨P.of 12, [.sym 0, .int .i64 (.ofNat 10)], .int .i64 (.ofNat 4)⟩, ⟨P.of 12, [.sym 1, .int .i64 (.ofNat 10)], .int .i64 (.ofNat 0)⟩, ⟨P.of 11, [], .bool true⟩]
theorem nran40 : answer (env nrules40) 1000000 (P.of 5) [.sym 0, .sym 1] = true := by decide +kernel
theorem ncase40 (a b : Int) (h1 : placeN a 10 = 4) (h2 : placeN b 10 = 0) : RuleOk Tryz.prog (sg [.int .i64 a, .int .i64 b]) 5 [.sym 0, .sym 1] (.bool true) := by
  have hl : ∀ v ∈ [Value.int .i64 a, Value.int .i64 b], ∃ k m, v = .int k m := List.forall_mem_cons.2 ⟨⟨_, _, rfl⟩, List.forall_mem_cons.2 ⟨⟨_, _, rfl⟩, List.forall_mem_nil _⟩⟩
  refine run_rule hl (rules := nrules40) ?_ _ _ rfl nran40
  have p1 := place_rule (l := [.int .i64 a, .int .i64 b]) (i := 0) (v := a) rfl 10 (by decide) (by decide)
  have p2 := place_rule (l := [.int .i64 a, .int .i64 b]) (i := 1) (v := b) rfl 10 (by decide) (by decide)
  rw [h1] at p1
  rw [h2] at p2
  exact List.forall_mem_cons.2 ⟨rule_at p1, List.forall_mem_cons.2 ⟨rule_at p2, List.forall_mem_cons.2 ⟨rule_at (awake_rule hl), List.forall_mem_nil _⟩⟩⟩
noncomputable def nrules41 : List Rule := [⟨P.of 12, [.sym 0, .int .i64 (.ofNat 10)], .int .i64 (.ofNat 4)⟩, ⟨P.of 12, [.sym 1, .int .i64 (.ofNat 10)], .int .i64 (.ofNat 1)⟩, ⟨P.of 11, [], .bool true⟩]
theorem nran41 : answer (env nrules41) 1000000 (P.of 5) [.sym 0, .sym 1] = true := by decide +kernel
theorem ncase41 (a b : Int) (h1 : placeN a 10 = 4) (h2 : placeN b 10 = 1) : RuleOk Tryz.prog (sg [.int .i64 a, .int .i64 b]) 5 [.sym 0, .sym 1] (.bool true) := by
  have hl : ∀ v ∈ [Value.int .i64 a, Value.int .i64 b], ∃ k m, v = .int k m := List.forall_mem_cons.2 ⟨⟨_, _, rfl⟩, List.forall_mem_cons.2 ⟨⟨_, _, rfl⟩, List.forall_mem_nil _⟩⟩
  refine run_rule hl (rules := nrules41) ?_ _ _ rfl nran41
  have p1 := place_rule (l := [.int .i64 a, .int .i64 b]) (i := 0) (v := a) rfl 10 (by decide) (by decide)
  have p2 := place_rule (l := [.int .i64 a, .int .i64 b]) (i := 1) (v := b) rfl 10 (by decide) (by decide)
  rw [h1] at p1
  rw [h2] at p2
  exact List.forall_mem_cons.2 ⟨rule_at p1, List.forall_mem_cons.2 ⟨rule_at p2, List.forall_mem_cons.2 ⟨rule_at (awake_rule hl), List.forall_mem_nil _⟩⟩⟩
noncomputable def nrules42 : List Rule := [⟨P.of 12, [.sym 0, .int .i64 (.ofNat 10)], .int .i64 (.ofNat 4)⟩, ⟨P.of 12, [.sym 1, .int .i64 (.ofNat 10)], .int .i64 (.ofNat 2)⟩, ⟨P.of 11, [], .bool true⟩]
theorem nran42 : answer (env nrules42) 1000000 (P.of 5) [.sym 0, .sym 1] = true := by decide +kernel
theorem ncase42 (a b : Int) (h1 : placeN a 10 = 4) (h2 : placeN b 10 = 2) : RuleOk Tryz.prog (sg [.int .i64 a, .int .i64 b]) 5 [.sym 0, .sym 1] (.bool true) := by
  have hl : ∀ v ∈ [Value.int .i64 a, Value.int .i64 b], ∃ k m, v = .int k m := List.forall_mem_cons.2 ⟨⟨_, _, rfl⟩, List.forall_mem_cons.2 ⟨⟨_, _, rfl⟩, List.forall_mem_nil _⟩⟩
  refine run_rule hl (rules := nrules42) ?_ _ _ rfl nran42
  have p1 := place_rule (l := [.int .i64 a, .int .i64 b]) (i := 0) (v := a) rfl 10 (by decide) (by decide)
  have p2 := place_rule (l := [.int .i64 a, .int .i64 b]) (i := 1) (v := b) rfl 10 (by decide) (by decide)
  rw [h1] at p1
  rw [h2] at p2
  exact List.forall_mem_cons.2 ⟨rule_at p1, List.forall_mem_cons.2 ⟨rule_at p2, List.forall_mem_cons.2 ⟨rule_at (awake_rule hl), List.forall_mem_nil _⟩⟩⟩
noncomputable def nrules43 : List Rule := [⟨P.of 12, [.sym 0, .int .i64 (.ofNat 10)], .int .i64 (.ofNat 4)⟩, ⟨P.of 12, [.sym 1, .int .i64 (.ofNat 10)], .int .i64 (.ofNat 3)⟩, ⟨P.of 11, [], .bool true⟩]
theorem nran43 : answer (env nrules43) 1000000 (P.of 5) [.sym 0, .sym 1] = true := by decide +kernel
theorem ncase43 (a b : Int) (h1 : placeN a 10 = 4) (h2 : placeN b 10 = 3) : RuleOk Tryz.prog (sg [.int .i64 a, .int .i64 b]) 5 [.sym 0, .sym 1] (.bool true) := by
  have hl : ∀ v ∈ [Value.int .i64 a, Value.int .i64 b], ∃ k m, v = .int k m := List.forall_mem_cons.2 ⟨⟨_, _, rfl⟩, List.forall_mem_cons.2 ⟨⟨_, _, rfl⟩, List.forall_mem_nil _⟩⟩
  refine run_rule hl (rules := nrules43) ?_ _ _ rfl nran43
  have p1 := place_rule (l := [.int .i64 a, .int .i64 b]) (i := 0) (v := a) rfl 10 (by decide) (by decide)
  have p2 := place_rule (l := [.int .i64 a, .int .i64 b]) (i := 1) (v := b) rfl 10 (by decide) (by decide)
  rw [h1] at p1
  rw [h2] at p2
  exact List.forall_mem_cons.2 ⟨rule_at p1, List.forall_mem_cons.2 ⟨rule_at p2, List.forall_mem_cons.2 ⟨rule_at (awake_rule hl), List.forall_mem_nil _⟩⟩⟩
noncomputable def nrules44 : List Rule := [⟨P.of 12, [.sym 0, .int .i64 (.ofNat 10)], .int .i64 (.ofNat 4)⟩, ⟨P.of 12, [.sym 1, .int .i64 (.ofNat 10)], .int .i64 (.ofNat 4)⟩, ⟨P.of 11, [], .bool true⟩]
theorem nran44 : answer (env nrules44) 1000000 (P.of 5) [.sym 0, .sym 1] = true := by decide +kernel
theorem ncase44 (a b : Int) (h1 : placeN a 10 = 4) (h2 : placeN b 10 = 4) : RuleOk Tryz.prog (sg [.int .i64 a, .int .i64 b]) 5 [.sym 0, .sym 1] (.bool true) := by
  have hl : ∀ v ∈ [Value.int .i64 a, Value.int .i64 b], ∃ k m, v = .int k m := List.forall_mem_cons.2 ⟨⟨_, _, rfl⟩, List.forall_mem_cons.2 ⟨⟨_, _, rfl⟩, List.forall_mem_nil _⟩⟩
  refine run_rule hl (rules := nrules44) ?_ _ _ rfl nran44
  have p1 := place_rule (l := [.int .i64 a, .int .i64 b]) (i := 0) (v := a) rfl 10 (by decide) (by decide)
  have p2 := place_rule (l := [.int .i64 a, .int .i64 b]) (i := 1) (v := b) rfl 10 (by decide) (by decide)
  rw [h1] at p1
  rw [h2] at p2
  exact List.forall_mem_cons.2 ⟨rule_at p1, List.forall_mem_cons.2 ⟨rule_at p2, List.forall_mem_cons.2 ⟨rule_at (awake_rule hl), List.forall_mem_nil _⟩⟩⟩
noncomputable def nrules45 : List Rule := [⟨P.of 12, [.sym 0, .int .i64 (.ofNat 10)], .int .i64 (.ofNat 4)⟩, ⟨P.of 12, [.sym 1, .int .i64 (.ofNat 10)], .int .i64 (.ofNat 5)⟩, ⟨P.of 11, [], .bool true⟩]
theorem nran45 : answer (env nrules45) 1000000 (P.of 5) [.sym 0, .sym 1] = true := by decide +kernel
theorem ncase45 (a b : Int) (h1 : placeN a 10 = 4) (h2 : placeN b 10 = 5) : RuleOk Tryz.prog (sg [.int .i64 a, .int .i64 b]) 5 [.sym 0, .sym 1] (.bool true) := by
  have hl : ∀ v ∈ [Value.int .i64 a, Value.int .i64 b], ∃ k m, v = .int k m := List.forall_mem_cons.2 ⟨⟨_, _, rfl⟩, List.forall_mem_cons.2 ⟨⟨_, _, rfl⟩, List.forall_mem_nil _⟩⟩
  refine run_rule hl (rules := nrules45) ?_ _ _ rfl nran45
  have p1 := place_rule (l := [.int .i64 a, .int .i64 b]) (i := 0) (v := a) rfl 10 (by decide) (by decide)
  have p2 := place_rule (l := [.int .i64 a, .int .i64 b]) (i := 1) (v := b) rfl 10 (by decide) (by decide)
  rw [h1] at p1
  rw [h2] at p2
  exact List.forall_mem_cons.2 ⟨rule_at p1, List.forall_mem_cons.2 ⟨rule_at p2, List.forall_mem_cons.2 ⟨rule_at (awake_rule hl), List.forall_mem_nil _⟩⟩⟩
noncomputable def nrules46 : List Rule := [⟨P.of 12, [.sym 0, .int .i64 (.ofNat 10)], .int .i64 (.ofNat 4)⟩, ⟨P.of 12, [.sym 1, .int .i64 (.ofNat 10)], .int .i64 (.ofNat 6)⟩, ⟨P.of 11, [], .bool true⟩]
theorem nran46 : answer (env nrules46) 1000000 (P.of 5) [.sym 0, .sym 1] = true := by decide +kernel
theorem ncase46 (a b : Int) (h1 : placeN a 10 = 4) (h2 : placeN b 10 = 6) : RuleOk Tryz.prog (sg [.int .i64 a, .int .i64 b]) 5 [.sym 0, .sym 1] (.bool true) := by
  have hl : ∀ v ∈ [Value.int .i64 a, Value.int .i64 b], ∃ k m, v = .int k m := List.forall_mem_cons.2 ⟨⟨_, _, rfl⟩, List.forall_mem_cons.2 ⟨⟨_, _, rfl⟩, List.forall_mem_nil _⟩⟩
  refine run_rule hl (rules := nrules46) ?_ _ _ rfl nran46
  have p1 := place_rule (l := [.int .i64 a, .int .i64 b]) (i := 0) (v := a) rfl 10 (by decide) (by decide)
  have p2 := place_rule (l := [.int .i64 a, .int .i64 b]) (i := 1) (v := b) rfl 10 (by decide) (by decide)
  rw [h1] at p1
  rw [h2] at p2
  exact List.forall_mem_cons.2 ⟨rule_at p1, List.forall_mem_cons.2 ⟨rule_at p2, List.forall_mem_cons.2 ⟨rule_at (awake_rule hl), List.forall_mem_nil _⟩⟩⟩
noncomputable def nrules47 : List Rule := [⟨P.of 12, [.sym 0, .int .i64 (.ofNat 10)], .int .i64 (.ofNat 4)⟩, ⟨P.of 12, [.sym 1, .int .i64 (.ofNat 10)], .int .i64 (.ofNat 7)⟩, ⟨P.of 11, [], .bool true⟩]
theorem nran47 : answer (env nrules47) 1000000 (P.of 5) [.sym 0, .sym 1] = true := by decide +kernel
theorem ncase47 (a b : Int) (h1 : placeN a 10 = 4) (h2 : placeN b 10 = 7) : RuleOk Tryz.prog (sg [.int .i64 a, .int .i64 b]) 5 [.sym 0, .sym 1] (.bool true) := by
  have hl : ∀ v ∈ [Value.int .i64 a, Value.int .i64 b], ∃ k m, v = .int k m := List.forall_mem_cons.2 ⟨⟨_, _, rfl⟩, List.forall_mem_cons.2 ⟨⟨_, _, rfl⟩, List.forall_mem_nil _⟩⟩
  refine run_rule hl (rules := nrules47) ?_ _ _ rfl nran47
  have p1 := place_rule (l := [.int .i64 a, .int .i64 b]) (i := 0) (v := a) rfl 10 (by decide) (by decide)
  have p2 := place_rule (l := [.int .i64 a, .int .i64 b]) (i := 1) (v := b) rfl 10 (by decide) (by decide)
  rw [h1] at p1
  rw [h2] at p2
  exact List.forall_mem_cons.2 ⟨rule_at p1, List.forall_mem_cons.2 ⟨rule_at p2, List.forall_mem_cons.2 ⟨rule_at (awake_rule hl), List.forall_mem_nil _⟩⟩⟩
noncomputable def nrules48 : List Rule := [⟨P.of 12, [.sym 0, .int .i64 (.ofNat 10)], .int .i64 (.ofNat 4)⟩, ⟨P.of 12, [.sym 1, .int .i64 (.ofNat 10)], .int .i64 (.ofNat 8)⟩, ⟨P.of 11, [], .bool true⟩]
theorem nran48 : answer (env nrules48) 1000000 (P.of 5) [.sym 0, .sym 1] = true := by decide +kernel
theorem ncase48 (a b : Int) (h1 : placeN a 10 = 4) (h2 : placeN b 10 = 8) : RuleOk Tryz.prog (sg [.int .i64 a, .int .i64 b]) 5 [.sym 0, .sym 1] (.bool true) := by
  have hl : ∀ v ∈ [Value.int .i64 a, Value.int .i64 b], ∃ k m, v = .int k m := List.forall_mem_cons.2 ⟨⟨_, _, rfl⟩, List.forall_mem_cons.2 ⟨⟨_, _, rfl⟩, List.forall_mem_nil _⟩⟩
  refine run_rule hl (rules := nrules48) ?_ _ _ rfl nran48
  have p1 := place_rule (l := [.int .i64 a, .int .i64 b]) (i := 0) (v := a) rfl 10 (by decide) (by decide)
  have p2 := place_rule (l := [.int .i64 a, .int .i64 b]) (i := 1) (v := b) rfl 10 (by decide) (by decide)
  rw [h1] at p1
  rw [h2] at p2
  exact List.forall_mem_cons.2 ⟨rule_at p1, List.forall_mem_cons.2 ⟨rule_at p2, List.forall_mem_cons.2 ⟨rule_at (awake_rule hl), List.forall_mem_nil _⟩⟩⟩
noncomputable def nrules49 : List Rule := [⟨P.of 12, [.sym 0, .int .i64 (.ofNat 10)], .int .i64 (.ofNat 4)⟩, ⟨P.of 12, [.sym 1, .int .i64 (.ofNat 10)], .int .i64 (.ofNat 9)⟩, ⟨P.of 11, [], .bool true⟩]
theorem nran49 : answer (env nrules49) 1000000 (P.of 5) [.sym 0, .sym 1] = true := by decide +kernel
theorem ncase49 (a b : Int) (h1 : placeN a 10 = 4) (h2 : placeN b 10 = 9) : RuleOk Tryz.prog (sg [.int .i64 a, .int .i64 b]) 5 [.sym 0, .sym 1] (.bool true) := by
  have hl : ∀ v ∈ [Value.int .i64 a, Value.int .i64 b], ∃ k m, v = .int k m := List.forall_mem_cons.2 ⟨⟨_, _, rfl⟩, List.forall_mem_cons.2 ⟨⟨_, _, rfl⟩, List.forall_mem_nil _⟩⟩
  refine run_rule hl (rules := nrules49) ?_ _ _ rfl nran49
  have p1 := place_rule (l := [.int .i64 a, .int .i64 b]) (i := 0) (v := a) rfl 10 (by decide) (by decide)
  have p2 := place_rule (l := [.int .i64 a, .int .i64 b]) (i := 1) (v := b) rfl 10 (by decide) (by decide)
  rw [h1] at p1
  rw [h2] at p2
  exact List.forall_mem_cons.2 ⟨rule_at p1, List.forall_mem_cons.2 ⟨rule_at p2, List.forall_mem_cons.2 ⟨rule_at (awake_rule hl), List.forall_mem_nil _⟩⟩⟩
end Go.Proofs.YtfhjamimbgdfpaaGreat.X.Exp
