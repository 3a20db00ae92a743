/- Runs of the law of names, part 2; no condition. -/
import Derived.Test.YtfhjamimbgdfpaaGreatExpAwake
namespace Go.Proofs.YtfhjamimbgdfpaaGreat.X.Exp
open Go
set_option maxRecDepth 100000
noncomputable def nrules20 : List Rule := [⟨P.of 12, [.sym 0, .int .i64 (.ofNat 10)], .int .i64 (.ofNat 2)⟩, ⟨P.of 12, [.sym 1, .int .i64 (.ofNat 10)], .int .i64 (.ofNat 0)⟩, ⟨P.of 11, [], .bool true⟩]
theorem nran20 : answer (env nrules20) 1000000 (P.of 5) [.sym 0, .sym 1] = true := by decide +kernel
theorem ncase20 (a b : Int) (h1 : placeN a 10 = 2) (h2 : placeN b 10 = 0) : RuleOk Tryz.prog (sg [.int .i64 a, .int .i64 b]) 5 [.sym 0, .sym 1] (.bool true) := by
  have hl : ∀ v ∈ [Value.int .i64 a, Value.int .i64 b], ∃ k m, v = .int k m := List.forall_mem_cons.2 ⟨⟨_, _, rfl⟩, List.forall_mem_cons.2 ⟨⟨_, _, rfl⟩, List.forall_mem_nil _⟩⟩
  refine run_rule hl (rules := nrules20) ?_ _ _ rfl nran20
  have p1 := place_rule (l := [.int .i64 a, .int .i64 b]) (i := 0) (v := a) rfl 10 (by decide) (by decide)
  have p2 := place_rule (l := [.int .i64 a, .int .i64 b]) (i := 1) (v := b) rfl 10 (by decide) (by decide)
  rw [h1] at p1
  rw [h2] at p2
  exact List.forall_mem_cons.2 ⟨rule_at p1, List.forall_mem_cons.2 ⟨rule_at p2, List.forall_mem_cons.2 ⟨rule_at (awake_rule hl), List.forall_mem_nil _⟩⟩⟩
noncomputable def nrules21 : List Rule := [⟨P.of 12, [.sym 0, .int .i64 (.ofNat 10)], .int .i64 (.ofNat 2)⟩, ⟨P.of 12, [.sym 1, .int .i64 (.ofNat 10)], .int .i64 (.ofNat 1)⟩, ⟨P.of 11, [], .bool true⟩]
theorem nran21 : answer (env nrules21) 1000000 (P.of 5) [.sym 0, .sym 1] = true := by decide +kernel
theorem ncase21 (a b : Int) (h1 : placeN a 10 = 2) (h2 : placeN b 10 = 1) : RuleOk Tryz.prog (sg [.int .i64 a, .int .i64 b]) 5 [.sym 0, .sym 1] (.bool true) := by
  have hl : ∀ v ∈ [Value.int .i64 a, Value.int .i64 b], ∃ k m, v = .int k m := List.forall_mem_cons.2 ⟨⟨_, _, rfl⟩, List.forall_mem_cons.2 ⟨⟨_, _, rfl⟩, List.forall_mem_nil _⟩⟩
  refine run_rule hl (rules := nrules21) ?_ _ _ rfl nran21
  have p1 := place_rule (l := [.int .i64 a, .int .i64 b]) (i := 0) (v := a) rfl 10 (by decide) (by decide)
  have p2 := place_rule (l := [.int .i64 a, .int .i64 b]) (i := 1) (v := b) rfl 10 (by decide) (by decide)
  rw [h1] at p1
  rw [h2] at p2
  exact List.forall_mem_cons.2 ⟨rule_at p1, List.forall_mem_cons.2 ⟨rule_at p2, List.forall_mem_cons.2 ⟨rule_at (awake_rule hl), List.forall_mem_nil _⟩⟩⟩
noncomputable def nrules22 : List Rule := [⟨P.of 12, [.sym 0, .int .i64 (.ofNat 10)], .int .i64 (.ofNat 2)⟩, ⟨P.of 12, [.sym 1, .int .i64 (.ofNat 10)], .int .i64 (.ofNat 2)⟩, ⟨P.of 11, [], .bool true⟩]
theorem nran22 : answer (env nrules22) 1000000 (P.of 5) [.sym 0, .sym 1] = true := by decide +kernel
theorem ncase22 (a b : Int) (h1 : placeN a 10 = 2) (h2 : placeN b 10 = 2) : RuleOk Tryz.prog (sg [.int .i64 a, .int .i64 b]) 5 [.sym 0, .sym 1] (.bool true) := by
  have hl : ∀ v ∈ [Value.int .i64 a, Value.int .i64 b], ∃ k m, v = .int k m := List.forall_mem_cons.2 ⟨⟨_, _, rfl⟩, List.forall_mem_cons.2 ⟨⟨_, _, rfl⟩, List.forall_mem_nil _⟩⟩
  refine run_rule hl (rules := nrules22) ?_ _ _ rfl nran22
  have p1 := place_rule (l := [.int .i64 a, .int .i64 b]) (i := 0) (v := a) rfl 10 (by decide) (by decide)
  have p2 := place_rule (l := [.int .i64 a, .int .i64 b]) (i := 1) (v := b) rfl 10 (by decide) (by decide)
  rw [h1] at p1
  rw [h2] at p2
  exact List.forall_mem_cons.2 ⟨rule_at p1, List.forall_mem_cons.2 ⟨rule_at p2, List.forall_mem_cons.2 ⟨rule_at (awake_rule hl), List.forall_mem_nil _⟩⟩⟩
noncomputable def nrules23 : List Rule := [⟨P.of 12, [.sym 0, .int .i64 (.ofNat 10)], .int .i64 (.ofNat 2)⟩, ⟨P.of 12, [.sym 1, .int .i64 (.ofNat 10)], .int .i64 (.ofNat 3)⟩, ⟨P.of 11, [], .bool true⟩]
theorem nran23 : answer (env nrules23) 1000000 (P.of 5) [.sym 0, .sym 1] = true := by decide +kernel
theorem ncase23 (a b : Int) (h1 : placeN a 10 = 2) (h2 : placeN b 10 = 3) : RuleOk Tryz.prog (sg [.int .i64 a, .int .i64 b]) 5 [.sym 0, .sym 1] (.bool true) := by
  have hl : ∀ v ∈ [Value.int .i64 a, Value.int .i64 b], ∃ k m, v = .int k m := List.forall_mem_cons.2 ⟨⟨_, _, rfl⟩, List.forall_mem_cons.2 ⟨⟨_, _, rfl⟩, List.forall_mem_nil _⟩⟩
  refine run_rule hl (rules := nrules23) ?_ _ _ rfl nran23
  have p1 := place_rule (l := [.int .i64 a, .int .i64 b]) (i := 0) (v := a) rfl 10 (by decide) (by decide)
  have p2 := place_rule (l := [.int .i64 a, .int .i64 b]) (i := 1) (v := b) rfl 10 (by decide) (by decide)
  rw [h1] at p1
  rw [h2] at p2
  exact List.forall_mem_cons.2 ⟨rule_at p1, List.forall_mem_cons.2 ⟨rule_at p2, List.forall_mem_cons.2 ⟨rule_at (awake_rule hl), List.forall_mem_nil _⟩⟩⟩
noncomputable def nrules24 : List Rule := [⟨P.of 12, [.sym 0, .int .i64 (.ofNat 10)], .int .i64 (.ofNat 2)⟩, ⟨P.of 12, [.sym 1, .int .i64 (.ofNat 10)], .int .i64 (.ofNat 4)⟩, ⟨P.of 11, [], .bool true⟩]
theorem nran24 : answer (env nrules24) 1000000 (P.of 5) [.sym 0, .sym 1] = true := by decide +kernel
theorem ncase24 (a b : Int) (h1 : placeN a 10 = 2) (h2 : placeN b 10 = 4) : RuleOk Tryz.prog (sg [.int .i64 a, .int .i64 b]) 5 [.sym 0, .sym 1] (.bool true) := by
  have hl : ∀ v ∈ [Value.int .i64 a, Value.int .i64 b], ∃ k m, v = .int k m := List.forall_mem_cons.2 ⟨⟨_, _, rfl⟩, List.forall_mem_cons.2 ⟨⟨_, _, rfl⟩, List.forall_mem_nil _⟩⟩
  refine run_rule hl (rules := nrules24) ?_ _ _ rfl nran24
  have p1 := place_rule (l := [.int .i64 a, .int .i64 b]) (i := 0) (v := a) rfl 10 (by decide) (by decide)
  have p2 := place_rule (l := [.int .i64 a, .int .i64 b]) (i := 1) (v := b) rfl 10 (by decide) (by decide)
  rw [h1] at p1
  rw [h2] at p2
  exact List.forall_mem_cons.2 ⟨rule_at p1, List.forall_mem_cons.2 ⟨rule_at p2, List.forall_mem_cons.2 ⟨rule_at (awake_rule hl), List.forall_mem_nil _⟩⟩⟩
noncomputable def nrules25 : List Rule := [⟨P.of 12, [.sym 0, .int .i64 (.ofNat 10)], .int .i64 (.ofNat 2)⟩, ⟨P.of 12, [.sym 1, .int .i64 (.ofNat 10)], .int .i64 (.ofNat 5)⟩, ⟨P.of 11, [], .bool true⟩]
theorem nran25 : answer (env nrules25) 1000000 (P.of 5) [.sym 0, .sym 1] = true := by decide +kernel
theorem ncase25 (a b : Int) (h1 : placeN a 10 = 2) (h2 : placeN b 10 = 5) : RuleOk Tryz.prog (sg [.int .i64 a, .int .i64 b]) 5 [.sym 0, .sym 1] (.bool true) := by
  have hl : ∀ v ∈ [Value.int .i64 a, Value.int .i64 b], ∃ k m, v = .int k m := List.forall_mem_cons.2 ⟨⟨_, _, rfl⟩, List.forall_mem_cons.2 ⟨⟨_, _, rfl⟩, List.forall_mem_nil _⟩⟩
  refine run_rule hl (rules := nrules25) ?_ _ _ rfl nran25
  have p1 := place_rule (l := [.int .i64 a, .int .i64 b]) (i := 0) (v := a) rfl 10 (by decide) (by decide)
  have p2 := place_rule (l := [.int .i64 a, .int .i64 b]) (i := 1) (v := b) rfl 10 (by decide) (by decide)
  rw [h1] at p1
  rw [h2] at p2
  exact List.forall_mem_cons.2 ⟨rule_at p1, List.forall_mem_cons.2 ⟨rule_at p2, List.forall_mem_cons.2 ⟨rule_at (awake_rule hl), List.forall_mem_nil _⟩⟩⟩
noncomputable def nrules26 : List Rule := [⟨P.of 12, [.sym 0, .int .i64 (.ofNat 10)], .int .i64 (.ofNat 2)⟩, ⟨P.of 12, [.sym 1, .int .i64 (.ofNat 10)], .int .i64 (.ofNat 6)⟩, ⟨P.of 11, [], .bool true⟩]
theorem nran26 : answer (env nrules26) 1000000 (P.of 5) [.sym 0, .sym 1] = true := by decide +kernel
theorem ncase26 (a b : Int) (h1 : placeN a 10 = 2) (h2 : placeN b 10 = 6) : RuleOk Tryz.prog (sg [.int .i64 a, .int .i64 b]) 5 [.sym 0, .sym 1] (.bool true) := by
  have hl : ∀ v ∈ [Value.int .i64 a, Value.int .i64 b], ∃ k m, v = .int k m := List.forall_mem_cons.2 ⟨⟨_, _, rfl⟩, List.forall_mem_cons.2 ⟨⟨_, _, rfl⟩, List.forall_mem_nil _⟩⟩
  refine run_rule hl (rules := nrules26) ?_ _ _ rfl nran26
  have p1 := place_rule (l := [.int .i64 a, .int .i64 b]) (i := 0) (v := a) rfl 10 (by decide) (by decide)
  have p2 := place_rule (l := [.int .i64 a, .int .i64 b]) (i := 1) (v := b) rfl 10 (by decide) (by decide)
  rw [h1] at p1
  rw [h2] at p2
  exact List.forall_mem_cons.2 ⟨rule_at p1, List.forall_mem_cons.2 ⟨rule_at p2, List.forall_mem_cons.2 ⟨rule_at (awake_rule hl), List.forall_mem_nil _⟩⟩⟩
noncomputable def nrules27 : List Rule := [⟨P.of 12, [.sym 0, .int .i64 (.ofNat 10)], .int .i64 (.ofNat 2)⟩, ⟨P.of 12, [.sym 1, .int .i64 (.ofNat 10)], .int .i64 (.ofNat 7)⟩, ⟨P.of 11, [], .bool true⟩]
theorem nran27 : answer (env nrules27) 1000000 (P.of 5) [.sym 0, .sym 1] = true := by decide +kernel
theorem ncase27 (a b : Int) (h1 : placeN a 10 = 2) (h2 : placeN b 10 = 7) : RuleOk Tryz.prog (sg [.int .i64 a, .int .i64 b]) 5 [.sym 0, .sym 1] (.bool true) := by
  have hl : ∀ v ∈ [Value.int .i64 a, Value.int .i64 b], ∃ k m, v = .int k m := List.forall_mem_cons.2 ⟨⟨_, _, rfl⟩, List.forall_mem_cons.2 ⟨⟨_, _, rfl⟩, List.forall_mem_nil _⟩⟩
  refine run_rule hl (rules := nrules27) ?_ _ _ rfl nran27
  have p1 := place_rule (l := [.int .i64 a, .int .i64 b]) (i := 0) (v := a) rfl 10 (by decide) (by decide)
  have p2 := place_rule (l := [.int .i64 a, .int .i64 b]) (i := 1) (v := b) rfl 10 (by decide) (by decide)
  rw [h1] at p1
  rw [h2] at p2
  exact List.forall_mem_cons.2 ⟨rule_at p1, List.forall_mem_cons.2 ⟨rule_at p2, List.forall_mem_cons.2 ⟨rule_at (awake_rule hl), List.forall_mem_nil _⟩⟩⟩
noncomputable def nrules28 : List Rule := [⟨P.of 12, [.sym 0, .int .i64 (.ofNat 10)], .int .i64 (.ofNat 2)⟩, ⟨P.of 12, [.sym 1, .int .i64 (.ofNat 10)], .int .i64 (.ofNat 8)⟩, ⟨P.of 11, [], .bool true⟩]
theorem nran28 : answer (env nrules28) 1000000 (P.of 5) [.sym 0, .sym 1] = true := by decide +kernel
theorem ncase28 (a b : Int) (h1 : placeN a 10 = 2) (h2 : placeN b 10 = 8) : RuleOk Tryz.prog (sg [.int .i64 a, .int .i64 b]) 5 [.sym 0, .sym 1] (.bool true) := by
  have hl : ∀ v ∈ [Value.int .i64 a, Value.int .i64 b], ∃ k m, v = .int k m := List.forall_mem_cons.2 ⟨⟨_, _, rfl⟩, List.forall_mem_cons.2 ⟨⟨_, _, rfl⟩, List.forall_mem_nil _⟩⟩
  refine run_rule hl (rules := nrules28) ?_ _ _ rfl nran28
  have p1 := place_rule (l := [.int .i64 a, .int .i64 b]) (i := 0) (v := a) rfl 10 (by decide) (by decide)
  have p2 := place_rule (l := [.int .i64 a, .int .i64 b]) (i := 1) (v := b) rfl 10 (by decide) (by decide)
  rw [h1] at p1
  rw [h2] at p2
  exact List.forall_mem_cons.2 ⟨rule_at p1, List.forall_mem_cons.2 ⟨rule_at p2, List.forall_mem_cons.2 ⟨rule_at (awake_rule hl), List.forall_mem_nil _⟩⟩⟩
noncomputable def nrules29 : List Rule := [⟨P.of 12, [.sym 0, .int .i64 (.ofNat 10)], .int .i64 (.ofNat 2)⟩, ⟨P.of 12, [.sym 1, .int .i64 (.ofNat 10)], .int .i64 (.ofNat 9)⟩, ⟨P.of 11, [], .bool true⟩]
theorem nran29 : answer (env nrules29) 1000000 (P.of 5) [.sym 0, .sym 1] = true := by decide +kernel
theorem ncase29 (a b : Int) (h1 : placeN a 10 = 2) (h2 : placeN b 10 = 9) : RuleOk Tryz.prog (sg [.int .i64 a, .int .i64 b]) 5 [.sym 0, .sym 1] (.bool true) := by
  have hl : ∀ v ∈ [Value.int .i64 a, Value.int .i64 b], ∃ k m, v = .int k m := List.forall_mem_cons.2 ⟨⟨_, _, rfl⟩, List.forall_mem_cons.2 ⟨⟨_, _, rfl⟩, List.forall_mem_nil _⟩⟩
  refine run_rule hl (rules := nrules29) ?_ _ _ rfl nran29
  have p1 := place_rule (l := [.int .i64 a, .int .i64 b]) (i := 0) (v := a) rfl 10 (by decide) (by decide)
  have p2 := place_rule (l := [.int .i64 a, .int .i64 b]) (i := 1) (v := b) rfl 10 (by decide) (by decide)
  rw [h1] at p1
  rw [h2] at p2
  exact List.forall_mem_cons.2 ⟨rule_at p1, List.forall_mem_cons.2 ⟨rule_at p2, List.forall_mem_cons.2 ⟨rule_at (awake_rule hl), List.forall_mem_nil _⟩⟩⟩
end Go.Proofs.YtfhjamimbgdfpaaGreat.X.Exp
