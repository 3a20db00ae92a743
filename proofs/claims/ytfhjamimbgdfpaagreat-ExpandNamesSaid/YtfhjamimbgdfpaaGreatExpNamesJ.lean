/- Runs of the law of names, part 9; no condition. -/
import Derived.Test.YtfhjamimbgdfpaaGreatExpAwake
namespace Go.Proofs.YtfhjamimbgdfpaaGreat.X.Exp
open Go
set_option maxRecDepth 100000
noncomputable def nrules90 : List Rule := [⟨P.of 12, [.sym 0, .int .i64 (.ofNat 10)], .int .i64 (.ofNat 9)⟩, ⟨P.of 12, [.sym 1, .int .i64 (.ofNat 10)], .int .i64 (.ofNat 0)⟩, ⟨P.of 11, [], .bool true⟩]
theorem nran90 : answer (env nrules90) 1000000 (P.of 5) [.sym 0, .sym 1] = true := by decide +kernel
theorem ncase90 (a b : Int) (h1 : placeN a 10 = 9) (h2 : placeN b 10 = 0) : RuleOk Tryz.prog (sg [.int .i64 a, .int .i64 b]) 5 [.sym 0, .sym 1] (.bool true) := by
  have hl : ∀ v ∈ [Value.int .i64 a, Value.int .i64 b], ∃ k m, v = .int k m := List.forall_mem_cons.2 ⟨⟨_, _, rfl⟩, List.forall_mem_cons.2 ⟨⟨_, _, rfl⟩, List.forall_mem_nil _⟩⟩
  refine run_rule hl (rules := nrules90) ?_ _ _ rfl nran90
  have p1 := place_rule (l := [.int .i64 a, .int .i64 b]) (i := 0) (v := a) rfl 10 (by decide) (by decide)
  have p2 := place_rule (l := [.int .i64 a, .int .i64 b]) (i := 1) (v := b) rfl 10 (by decide) (by decide)
  rw [h1] at p1
  rw [h2] at p2
  exact List.forall_mem_cons.2 ⟨rule_at p1, List.forall_mem_cons.2 ⟨rule_at p2, List.forall_mem_cons.2 ⟨rule_at (awake_rule hl), List.forall_mem_nil _⟩⟩⟩
noncomputable def nrules91 : List Rule := [⟨P.of 12, [.sym 0, .int .i64 (.ofNat 10)], .int .i64 (.ofNat 9)⟩, ⟨P.of 12, [.sym 1, .int .i64 (.ofNat 10)], .int .i64 (.ofNat 1)⟩, ⟨P.of 11, [], .bool true⟩]
theorem nran91 : answer (env nrules91) 1000000 (P.of 5) [.sym 0, .sym 1] = true := by decide +kernel
theorem ncase91 (a b : Int) (h1 : placeN a 10 = 9) (h2 : placeN b 10 = 1) : RuleOk Tryz.prog (sg [.int .i64 a, .int .i64 b]) 5 [.sym 0, .sym 1] (.bool true) := by
  have hl : ∀ v ∈ [Value.int .i64 a, Value.int .i64 b], ∃ k m, v = .int k m := List.forall_mem_cons.2 ⟨⟨_, _, rfl⟩, List.forall_mem_cons.2 ⟨⟨_, _, rfl⟩, List.forall_mem_nil _⟩⟩
  refine run_rule hl (rules := nrules91) ?_ _ _ rfl nran91
  have p1 := place_rule (l := [.int .i64 a, .int .i64 b]) (i := 0) (v := a) rfl 10 (by decide) (by decide)
  have p2 := place_rule (l := [.int .i64 a, .int .i64 b]) (i := 1) (v := b) rfl 10 (by decide) (by decide)
  rw [h1] at p1
  rw [h2] at p2
  exact List.forall_mem_cons.2 ⟨rule_at p1, List.forall_mem_cons.2 ⟨rule_at p2, List.forall_mem_cons.2 ⟨rule_at (awake_rule hl), List.forall_mem_nil _⟩⟩⟩
noncomputable def nrules92 : List Rule := [⟨P.of 12, [.sym 0, .int .i64 (.ofNat 10)], .int .i64 (.ofNat 9)⟩, ⟨P.of 12, [.sym 1, .int .i64 (.ofNat 10)], .int .i64 (.ofNat 2)⟩, ⟨P.of 11, [], .bool true⟩]
theorem nran92 : answer (env nrules92) 1000000 (P.of 5) [.sym 0, .sym 1] = true := by decide +kernel
theorem ncase92 (a b : Int) (h1 : placeN a 10 = 9) (h2 : placeN b 10 = 2) : RuleOk Tryz.prog (sg [.int .i64 a, .int .i64 b]) 5 [.sym 0, .sym 1] (.bool true) := by
  have hl : ∀ v ∈ [Value.int .i64 a, Value.int .i64 b], ∃ k m, v = .int k m := List.forall_mem_cons.2 ⟨⟨_, _, rfl⟩, List.forall_mem_cons.2 ⟨⟨_, _, rfl⟩, List.forall_mem_nil _⟩⟩
  refine run_rule hl (rules := nrules92) ?_ _ _ rfl nran92
  have p1 := place_rule (l := [.int .i64 a, .int .i64 b]) (i := 0) (v := a) rfl 10 (by decide) (by decide)
  have p2 := place_rule (l := [.int .i64 a, .int .i64 b]) (i := 1) (v := b) rfl 10 (by decide) (by decide)
  rw [h1] at p1
  rw [h2] at p2
  exact List.forall_mem_cons.2 ⟨rule_at p1, List.forall_mem_cons.2 ⟨rule_at p2, List.forall_mem_cons.2 ⟨rule_at (awake_rule hl), List.forall_mem_nil _⟩⟩⟩
noncomputable def nrules93 : List Rule := [⟨P.of 12, [.sym 0, .int .i64 (.ofNat 10)], .int .i64 (.ofNat 9)⟩, ⟨P.of 12, [.sym 1, .int .i64 (.ofNat 10)], .int .i64 (.ofNat 3)⟩, ⟨P.of 11, [], .bool true⟩]
theorem nran93 : answer (env nrules93) 1000000 (P.of 5) [.sym 0, .sym 1] = true := by decide +kernel
theorem ncase93 (a b : Int) (h1 : placeN a 10 = 9) (h2 : placeN b 10 = 3) : RuleOk Tryz.prog (sg [.int .i64 a, .int .i64 b]) 5 [.sym 0, .sym 1] (.bool true) := by
  have hl : ∀ v ∈ [Value.int .i64 a, Value.int .i64 b], ∃ k m, v = .int k m := List.forall_mem_cons.2 ⟨⟨_, _, rfl⟩, List.forall_mem_cons.2 ⟨⟨_, _, rfl⟩, List.forall_mem_nil _⟩⟩
  refine run_rule hl (rules := nrules93) ?_ _ _ rfl nran93
  have p1 := place_rule (l := [.int .i64 a, .int .i64 b]) (i := 0) (v := a) rfl 10 (by decide) (by decide)
  have p2 := place_rule (l := [.int .i64 a, .int .i64 b]) (i := 1) (v := b) rfl 10 (by decide) (by decide)
  rw [h1] at p1
  rw [h2] at p2
  exact List.forall_mem_cons.2 ⟨rule_at p1, List.forall_mem_cons.2 ⟨rule_at p2, List.forall_mem_cons.2 ⟨rule_at (awake_rule hl), List.forall_mem_nil _⟩⟩⟩
noncomputable def nrules94 : List Rule := [⟨P.of 12, [.sym 0, .int .i64 (.ofNat 10)], .int .i64 (.ofNat 9)⟩, ⟨P.of 12, [.sym 1, .int .i64 (.ofNat 10)], .int .i64 (.ofNat 4)⟩, ⟨P.of 11, [], .bool true⟩]
theorem nran94 : answer (env nrules94) 1000000 (P.of 5) [.sym 0, .sym 1] = true := by decide +kernel
theorem ncase94 (a b : Int) (h1 : placeN a 10 = 9) (h2 : placeN b 10 = 4) : RuleOk Tryz.prog (sg [.int .i64 a, .int .i64 b]) 5 [.sym 0, .sym 1] (.bool true) := by
  have hl : ∀ v ∈ [Value.int .i64 a, Value.int .i64 b], ∃ k m, v = .int k m := List.forall_mem_cons.2 ⟨⟨_, _, rfl⟩, List.forall_mem_cons.2 ⟨⟨_, _, rfl⟩, List.forall_mem_nil _⟩⟩
  refine run_rule hl (rules := nrules94) ?_ _ _ rfl nran94
  have p1 := place_rule (l := [.int .i64 a, .int .i64 b]) (i := 0) (v := a) rfl 10 (by decide) (by decide)
  have p2 := place_rule (l := [.int .i64 a, .int .i64 b]) (i := 1) (v := b) rfl 10 (by decide) (by decide)
  rw [h1] at p1
  rw [h2] at p2
  exact List.forall_mem_cons.2 ⟨rule_at p1, List.forall_mem_cons.2 ⟨rule_at p2, List.forall_mem_cons.2 ⟨rule_at (awake_rule hl), List.forall_mem_nil _⟩⟩⟩
noncomputable def nrules95 : List Rule := [⟨P.of 12, [.sym 0, .int .i64 (.ofNat 10)], .int .i64 (.ofNat 9)⟩, ⟨P.of 12, [.sym 1, .int .i64 (.ofNat 10)], .int .i64 (.ofNat 5)⟩, ⟨P.of 11, [], .bool true⟩]
theorem nran95 : answer (env nrules95) 1000000 (P.of 5) [.sym 0, .sym 1] = true := by decide +kernel
theorem ncase95 (a b : Int) (h1 : placeN a 10 = 9) (h2 : placeN b 10 = 5) : RuleOk Tryz.prog (sg [.int .i64 a, .int .i64 b]) 5 [.sym 0, .sym 1] (.bool true) := by
  have hl : ∀ v ∈ [Value.int .i64 a, Value.int .i64 b], ∃ k m, v = .int k m := List.forall_mem_cons.2 ⟨⟨_, _, rfl⟩, List.forall_mem_cons.2 ⟨⟨_, _, rfl⟩, List.forall_mem_nil _⟩⟩
  refine run_rule hl (rules := nrules95) ?_ _ _ rfl nran95
  have p1 := place_rule (l := [.int .i64 a, .int .i64 b]) (i := 0) (v := a) rfl 10 (by decide) (by decide)
  have p2 := place_rule (l := [.int .i64 a, .int .i64 b]) (i := 1) (v := b) rfl 10 (by decide) (by decide)
  rw [h1] at p1
  rw [h2] at p2
  exact List.forall_mem_cons.2 ⟨rule_at p1, List.forall_mem_cons.2 ⟨rule_at p2, List.forall_mem_cons.2 ⟨rule_at (awake_rule hl), List.forall_mem_nil _⟩⟩⟩
noncomputable def nrules96 : List Rule := [⟨P.of 12, [.sym 0, .int .i64 (.ofNat 10)], .int .i64 (.ofNat 9)⟩, ⟨P.of 12, [.sym 1, .int .i64 (.ofNat 10)], .int .i64 (.ofNat 6)⟩, ⟨P.of 11, [], .bool true⟩]
theorem nran96 : answer (env nrules96) 1000000 (P.of 5) [.sym 0, .sym 1] = true := by decide +kernel
theorem ncase96 (a b : Int) (h1 : placeN a 10 = 9) (h2 : placeN b 10 = 6) : RuleOk Tryz.prog (sg [.int .i64 a, .int .i64 b]) 5 [.sym 0, .sym 1] (.bool true) := by
  have hl : ∀ v ∈ [Value.int .i64 a, Value.int .i64 b], ∃ k m, v = .int k m := List.forall_mem_cons.2 ⟨⟨_, _, rfl⟩, List.forall_mem_cons.2 ⟨⟨_, _, rfl⟩, List.forall_mem_nil _⟩⟩
  refine run_rule hl (rules := nrules96) ?_ _ _ rfl nran96
  have p1 := place_rule (l := [.int .i64 a, .int .i64 b]) (i := 0) (v := a) rfl 10 (by decide) (by decide)
  have p2 := place_rule (l := [.int .i64 a, .int .i64 b]) (i := 1) (v := b) rfl 10 (by decide) (by decide)
  rw [h1] at p1
  rw [h2] at p2
  exact List.forall_mem_cons.2 ⟨rule_at p1, List.forall_mem_cons.2 ⟨rule_at p2, List.forall_mem_cons.2 ⟨rule_at (awake_rule hl), List.forall_mem_nil _⟩⟩⟩
noncomputable def nrules97 : List Rule := [⟨P.of 12, [.sym 0, .int .i64 (.ofNat 10)], .int .i64 (.ofNat 9)⟩, ⟨P.of 12, [.sym 1, .int .i64 (.ofNat 10)], .int .i64 (.ofNat 7)⟩, ⟨P.of 11, [], .bool true⟩]
theorem nran97 : answer (env nrules97) 1000000 (P.of 5) [.sym 0, .sym 1] = true := by decide +kernel
theorem ncase97 (a b : Int) (h1 : placeN a 10 = 9) (h2 : placeN b 10 = 7) : RuleOk Tryz.prog (sg [.int .i64 a, .int .i64 b]) 5 [.sym 0, .sym 1] (.bool true) := by
  have hl : ∀ v ∈ [Value.int .i64 a, Value.int .i64 b], ∃ k m, v = .int k m := List.forall_mem_cons.2 ⟨⟨_, _, rfl⟩, List.forall_mem_cons.2 ⟨⟨_, _, rfl⟩, List.forall_mem_nil _⟩⟩
  refine run_rule hl (rules := nrules97) ?_ _ _ rfl nran97
  have p1 := place_rule (l := [.int .i64 a, .int .i64 b]) (i := 0) (v := a) rfl 10 (by decide) (by decide)
  have p2 := place_rule (l := [.int .i64 a, .int .i64 b]) (i := 1) (v := b) rfl 10 (by decide) (by decide)
  rw [h1] at p1
  rw [h2] at p2
  exact List.forall_mem_cons.2 ⟨rule_at p1, List.forall_mem_cons.2 ⟨rule_at p2, List.forall_mem_cons.2 ⟨rule_at (awake_rule hl), List.forall_mem_nil _⟩⟩⟩
noncomputable def nrules98 : List Rule := [⟨P.of 12, [.sym 0, .int .i64 (.ofNat 10)], .int .i64 (.ofNat 9)⟩, ⟨P.of 12, [.sym 1, .int .i64 (.ofNat 10)], .int .i64 (.ofNat 8)⟩, ⟨P.of 11, [], .bool true⟩]
theorem nran98 : answer (env nrules98) 1000000 (P.of 5) [.sym 0, .sym 1] = true := by decide +kernel
theorem ncase98 (a b : Int) (h1 : placeN a 10 = 9) (h2 : placeN b 10 = 8) : RuleOk Tryz.prog (sg [.int .i64 a, .int .i64 b]) 5 [.sym 0, .sym 1] (.bool true) := by
  have hl : ∀ v ∈ [Value.int .i64 a, Value.int .i64 b], ∃ k m, v = .int k m := List.forall_mem_cons.2 ⟨⟨_, _, rfl⟩, List.forall_mem_cons.2 ⟨⟨_, _, rfl⟩, List.forall_mem_nil _⟩⟩
  refine run_rule hl (rules := nrules98) ?_ _ _ rfl nran98
  have p1 := place_rule (l := [.int .i64 a, .int .i64 b]) (i := 0) (v := a) rfl 10 (by decide) (by decide)
  have p2 := place_rule (l := [.int .i64 a, .int .i64 b]) (i := 1) (v := b) rfl 10 (by decide) (by decide)
  rw [h1] at p1
  rw [h2] at p2
  exact List.forall_mem_cons.2 ⟨rule_at p1, List.forall_mem_cons.2 ⟨rule_at p2, List.forall_mem_cons.2 ⟨rule_at (awake_rule hl), List.forall_mem_nil _⟩⟩⟩
noncomputable def nrules99 : List Rule := [⟨P.of 12, [.sym 0, .int .i64 (.ofNat 10)], .int .i64 (.ofNat 9)⟩, ⟨P.of 12, [.sym 1, .int .i64 (.ofNat 10)], .int .i64 (.ofNat 9)⟩, ⟨P.of 11, [], .bool true⟩]
theorem nran99 : answer (env nrules99) 1000000 (P.of 5) [.sym 0, .sym 1] = true := by decide +kernel
theorem ncase99 (a b : Int) (h1 : placeN a 10 = 9) (h2 : placeN b 10 = 9) : RuleOk Tryz.prog (sg [.int .i64 a, .int .i64 b]) 5 [.sym 0, .sym 1] (.bool true) := by
  have hl : ∀ v ∈ [Value.int .i64 a, Value.int .i64 b], ∃ k m, v = .int k m := List.forall_mem_cons.2 ⟨⟨_, _, rfl⟩, List.forall_mem_cons.2 ⟨⟨_, _, rfl⟩, List.forall_mem_nil _⟩⟩
  refine run_rule hl (rules := nrules99) ?_ _ _ rfl nran99
  have p1 := place_rule (l := [.int .i64 a, .int .i64 b]) (i := 0) (v := a) rfl 10 (by decide) (by decide)
  have p2 := place_rule (l := [.int .i64 a, .int .i64 b]) (i := 1) (v := b) rfl 10 (by decide) (by decide)
  rw [h1] at p1
  rw [h2] at p2
  exact List.forall_mem_cons.2 ⟨rule_at p1, List.forall_mem_cons.2 ⟨rule_at p2, List.forall_mem_cons.2 ⟨rule_at (awake_rule hl), List.forall_mem_nil _⟩⟩⟩
end Go.Proofs.YtfhjamimbgdfpaaGreat.X.Exp
