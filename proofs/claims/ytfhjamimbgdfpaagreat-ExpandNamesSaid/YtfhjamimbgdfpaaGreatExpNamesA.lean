/- Runs of the law of names, part 0; no condition. -/
import Derived.Test.YtfhjamimbgdfpaaGreatExpAwake
namespace Go.Proofs.YtfhjamimbgdfpaaGreat.X.Exp
open Go
set_option maxRecDepth 100000
noncomputable def nrules00 : List Rule := [⟨P.of 12, [.sym 0, .int .i64 (.ofNat 10)], .int .i64 (.ofNat 0)⟩, ⟨P.of 12, [.sym 1, .int .i64 (.ofNat 10)], .int .i64 (.ofNat 0)⟩, ⟨P.of 11, [], .bool true⟩]
theorem nran00 : answer (env nrules00) 1000000 (P.of 5) [.sym 0, .sym 1] = true := by decide +kernel
theorem ncase00 (a b : Int) (h1 : placeN a 10 = 0) (h2 : placeN b 10 = 0) : RuleOk Tryz.prog (sg [.int .i64 a, .int .i64 b]) 5 [.sym 0, .sym 1] (.bool true) := by
  have hl : ∀ v ∈ [Value.int .i64 a, Value.int .i64 b], ∃ k m, v = .int k m := List.forall_mem_cons.2 ⟨⟨_, _, rfl⟩, List.forall_mem_cons.2 ⟨⟨_, _, rfl⟩, List.forall_mem_nil _⟩⟩
  refine run_rule hl (rules := nrules00) ?_ _ _ rfl nran00
  have p1 := place_rule (l := [.int .i64 a, .int .i64 b]) (i := 0) (v := a) rfl 10 (by decide) (by decide)
  have p2 := place_rule (l := [.int .i64 a, .int .i64 b]) (i := 1) (v := b) rfl 10 (by decide) (by decide)
  rw [h1] at p1
  rw [h2] at p2
  exact List.forall_mem_cons.2 ⟨rule_at p1, List.forall_mem_cons.2 ⟨rule_at p2, List.forall_mem_cons.2 ⟨rule_at (awake_rule hl), List.forall_mem_nil _⟩⟩⟩
noncomputable def nrules01 : List Rule := [⟨P.of 12, [.sym 0, .int .i64 (.ofNat 10)], .int .i64 (.ofNat 0)⟩, ⟨P.of 12, [.sym 1, .int .i64 (.ofNat 10)], .int .i64 (.ofNat 1)⟩, ⟨P.of 11, [], .bool true⟩]
theorem nran01 : answer (env nrules01) 1000000 (P.of 5) [.sym 0, .sym 1] = true := by decide +kernel
theorem ncase01 (a b : Int) (h1 : placeN a 10 = 0) (h2 : placeN b 10 = 1) : RuleOk Tryz.prog (sg [.int .i64 a, .int .i64 b]) 5 [.sym 0, .sym 1] (.bool true) := by
  have hl : ∀ v ∈ [Value.int .i64 a, Value.int .i64 b], ∃ k m, v = .int k m := List.forall_mem_cons.2 ⟨⟨_, _, rfl⟩, List.forall_mem_cons.2 ⟨⟨_, _, rfl⟩, List.forall_mem_nil _⟩⟩
  refine run_rule hl (rules := nrules01) ?_ _ _ rfl nran01
  have p1 := place_rule (l := [.int .i64 a, .int .i64 b]) (i := 0) (v := a) rfl 10 (by decide) (by decide)
  have p2 := place_rule (l := [.int .i64 a, .int .i64 b]) (i := 1) (v := b) rfl 10 (by decide) (by decide)
  rw [h1] at p1
  rw [h2] at p2
  exact List.forall_mem_cons.2 ⟨rule_at p1, List.forall_mem_cons.2 ⟨rule_at p2, List.forall_mem_cons.2 ⟨rule_at (awake_rule hl), List.forall_mem_nil _⟩⟩⟩
noncomputable def nrules02 : List Rule := [⟨P.of 12, [.sym 0, .int .i64 (.ofNat 10)], .int .i64 (.ofNat 0)⟩, ⟨P.of 12, [.sym 1, .int .i64 (.ofNat 10)], .int .i64 (.ofNat 2)⟩, ⟨P.of 11, [], .bool true⟩]
theorem nran02 : answer (env nrules02) 1000000 (P.of 5) [.sym 0, .sym 1] = true := by decide +kernel
theorem ncase02 (a b : Int) (h1 : placeN a 10 = 0) (h2 : placeN b 10 = 2) : RuleOk Tryz.prog (sg [.int .i64 a, .int .i64 b]) 5 [.sym 0, .sym 1] (.bool true) := by
  have hl : ∀ v ∈ [Value.int .i64 a, Value.int .i64 b], ∃ k m, v = .int k m := List.forall_mem_cons.2 ⟨⟨_, _, rfl⟩, List.forall_mem_cons.2 ⟨⟨_, _, rfl⟩, List.forall_mem_nil _⟩⟩
  refine run_rule hl (rules := nrules02) ?_ _ _ rfl nran02
  have p1 := place_rule (l := [.int .i64 a, .int .i64 b]) (i := 0) (v := a) rfl 10 (by decide) (by decide)
  have p2 := place_rule (l := [.int .i64 a, .int .i64 b]) (i := 1) (v := b) rfl 10 (by decide) (by decide)
  rw [h1] at p1
  rw [h2] at p2
  exact List.forall_mem_cons.2 ⟨rule_at p1, List.forall_mem_cons.2 ⟨rule_at p2, List.forall_mem_cons.2 ⟨rule_at (awake_rule hl), List.forall_mem_nil _⟩⟩⟩
noncomputable def nrules03 : List Rule := [⟨P.of 12, [.sym 0, .int .i64 (.ofNat 10)], .int .i64 (.ofNat 0)⟩, ⟨P.of 12, [.sym 1, .int .i64 (.ofNat 10)], .int .i64 (.ofNat 3)⟩, ⟨P.of 11, [], .bool true⟩]
theorem nran03 : answer (env nrules03) 1000000 (P.of 5) [.sym 0, .sym 1] = true := by decide +kernel
theorem ncase03 (a b : Int) (h1 : placeN a 10 = 0) (h2 : placeN b 10 = 3) : RuleOk Tryz.prog (sg [.int .i64 a, .int .i64 b]) 5 [.sym 0, .sym 1] (.bool true) := by
  have hl : ∀ v ∈ [Value.int .i64 a, Value.int .i64 b], ∃ k m, v = .int k m := List.forall_mem_cons.2 ⟨⟨_, _, rfl⟩, List.forall_mem_cons.2 ⟨⟨_, _, rfl⟩, List.forall_mem_nil _⟩⟩
  refine run_rule hl (rules := nrules03) ?_ _ _ rfl nran03
  have p1 := place_rule (l := [.int .i64 a, .int .i64 b]) (i := 0) (v := a) rfl 10 (by decide) (by decide)
  have p2 := place_rule (l := [.int .i64 a, .int .i64 b]) (i := 1) (v := b) rfl 10 (by decide) (by decide)
  rw [h1] at p1
  rw [h2] at p2
  exact List.forall_mem_cons.2 ⟨rule_at p1, List.forall_mem_cons.2 ⟨rule_at p2, List.forall_mem_cons.2 ⟨rule_at (awake_rule hl), List.forall_mem_nil _⟩⟩⟩
noncomputable def nrules04 : List Rule := [⟨P.of 12, [.sym 0, .int .i64 (.ofNat 10)], .int .i64 (.ofNat 0)⟩, ⟨P.of 12, [.sym 1, .int .i64 (.ofNat 10)], .int .i64 (.ofNat 4)⟩, ⟨P.of 11, [], .bool true⟩]
theorem nran04 : answer (env nrules04) 1000000 (P.of 5) [.sym 0, .sym 1] = true := by decide +kernel
theorem ncase04 (a b : Int) (h1 : placeN a 10 = 0) (h2 : placeN b 10 = 4) : RuleOk Tryz.prog (sg [.int .i64 a, .int .i64 b]) 5 [.sym 0, .sym 1] (.bool true) := by
  have hl : ∀ v ∈ [Value.int .i64 a, Value.int .i64 b], ∃ k m, v = .int k m := List.forall_mem_cons.2 ⟨⟨_, _, rfl⟩, List.forall_mem_cons.2 ⟨⟨_, _, rfl⟩, List.forall_mem_nil _⟩⟩
  refine run_rule hl (rules := nrules04) ?_ _ _ rfl nran04
  have p1 := place_rule (l := [.int .i64 a, .int .i64 b]) (i := 0) (v := a) rfl 10 (by decide) (by decide)
  have p2 := place_rule (l := [.int .i64 a, .int .i64 b]) (i := 1) (v := b) rfl 10 (by decide) (by decide)
  rw [h1] at p1
  rw [h2] at p2
  exact List.forall_mem_cons.2 ⟨rule_at p1, List.forall_mem_cons.2 ⟨rule_at p2, List.forall_mem_cons.2 ⟨rule_at (awake_rule hl), List.forall_mem_nil _⟩⟩⟩
noncomputable def nrules05 : List Rule := [⟨P.of 12, [.sym 0, .int .i64 (.ofNat 10)], .int .i64 (.ofNat 0)⟩, ⟨P.of 12, [.sym 1, .int .i64 (.ofNat 10)], .int .i64 (.ofNat 5)⟩, ⟨P.of 11, [], .bool true⟩]
theorem nran05 : answer (env nrules05) 1000000 (P.of 5) [.sym 0, .sym 1] = true := by decide +kernel
theorem ncase05 (a b : Int) (h1 : placeN a 10 = 0) (h2 : placeN b 10 = 5) : RuleOk Tryz.prog (sg [.int .i64 a, .int .i64 b]) 5 [.sym 0, .sym 1] (.bool true) := by
  have hl : ∀ v ∈ [Value.int .i64 a, Value.int .i64 b], ∃ k m, v = .int k m := List.forall_mem_cons.2 ⟨⟨_, _, rfl⟩, List.forall_mem_cons.2 ⟨⟨_, _, rfl⟩, List.forall_mem_nil _⟩⟩
  refine run_rule hl (rules := nrules05) ?_ _ _ rfl nran05
  have p1 := place_rule (l := [.int .i64 a, .int .i64 b]) (i := 0) (v := a) rfl 10 (by decide) (by decide)
  have p2 := place_rule (l := [.int .i64 a, .int .i64 b]) (i := 1) (v := b) rfl 10 (by decide) (by decide)
  rw [h1] at p1
  rw [h2] at p2
  exact List.forall_mem_cons.2 ⟨rule_at p1, List.forall_mem_cons.2 ⟨rule_at p2, List.forall_mem_cons.2 ⟨rule_at (awake_rule hl), List.forall_mem_nil _⟩⟩⟩
noncomputable def nrules06 : List Rule := [⟨P.of 12, [.sym 0, .int .i64 (.ofNat 10)], .int .i64 (.ofNat 0)⟩, ⟨P.of 12, [.sym 1, .int .i64 (.ofNat 10)], .int .i64 (.ofNat 6)⟩, ⟨P.of 11, [], .bool true⟩]
theorem nran06 : answer (env nrules06) 1000000 (P.of 5) [.sym 0, .sym 1] = true := by decide +kernel
theorem ncase06 (a b : Int) (h1 : placeN a 10 = 0) (h2 : placeN b 10 = 6) : RuleOk Tryz.prog (sg [.int .i64 a, .int .i64 b]) 5 [.sym 0, .sym 1] (.bool true) := by
  have hl : ∀ v ∈ [Value.int .i64 a, Value.int .i64 b], ∃ k m, v = .int k m := List.forall_mem_cons.2 ⟨⟨_, _, rfl⟩, List.forall_mem_cons.2 ⟨⟨_, _, rfl⟩, List.forall_mem_nil _⟩⟩
  refine run_rule hl (rules := nrules06) ?_ _ _ rfl nran06
  have p1 := place_rule (l := [.int .i64 a, .int .i64 b]) (i := 0) (v := a) rfl 10 (by decide) (by decide)
  have p2 := place_rule (l := [.int .i64 a, .int .i64 b]) (i := 1) (v := b) rfl 10 (by decide) (by decide)
  rw [h1] at p1
  rw [h2] at p2
  exact List.forall_mem_cons.2 ⟨rule_at p1, List.forall_mem_cons.2 ⟨rule_at p2, List.forall_mem_cons.2 ⟨rule_at (awake_rule hl), List.forall_mem_nil _⟩⟩⟩
noncomputable def nrules07 : List Rule := [⟨P.of 12, [.sym 0, .int .i64 (.ofNat 10)], .int .i64 (.ofNat 0)⟩, ⟨P.of 12, [.sym 1, .int .i64 (.ofNat 10)], .int .i64 (.ofNat 7)⟩, ⟨P.of 11, [], .bool true⟩]
theorem nran07 : answer (env nrules07) 1000000 (P.of 5) [.sym 0, .sym 1] = true := by decide +kernel
theorem ncase07 (a b : Int) (h1 : placeN a 10 = 0) (h2 : placeN b 10 = 7) : RuleOk Tryz.prog (sg [.int .i64 a, .int .i64 b]) 5 [.sym 0, .sym 1] (.bool true) := by
  have hl : ∀ v ∈ [Value.int .i64 a, Value.int .i64 b], ∃ k m, v = .int k m := List.forall_mem_cons.2 ⟨⟨_, _, rfl⟩, List.forall_mem_cons.2 ⟨⟨_, _, rfl⟩, List.forall_mem_nil _⟩⟩
  refine run_rule hl (rules := nrules07) ?_ _ _ rfl nran07
  have p1 := place_rule (l := [.int .i64 a, .int .i64 b]) (i := 0) (v := a) rfl 10 (by decide) (by decide)
  have p2 := place_rule (l := [.int .i64 a, .int .i64 b]) (i := 1) (v := b) rfl 10 (by decide) (by decide)
  rw [h1] at p1
  rw [h2] at p2
  exact List.forall_mem_cons.2 ⟨rule_at p1, List.forall_mem_cons.2 ⟨rule_at p2, List.forall_mem_cons.2 ⟨rule_at (awake_rule hl), List.forall_mem_nil _⟩⟩⟩
noncomputable def nrules08 : List Rule := [⟨P.of 12, [.sym 0, .int .i64 (.ofNat 10)], .int .i64 (.ofNat 0)⟩, ⟨P.of 12, [.sym 1, .int .i64 (.ofNat 10)], .int .i64 (.ofNat 8)⟩, ⟨P.of 11, [], .bool true⟩]
theorem nran08 : answer (env nrules08) 1000000 (P.of 5) [.sym 0, .sym 1] = true := by decide +kernel
theorem ncase08 (a b : Int) (h1 : placeN a 10 = 0) (h2 : placeN b 10 = 8) : RuleOk Tryz.prog (sg [.int .i64 a, .int .i64 b]) 5 [.sym 0, .sym 1] (.bool true) := by
  have hl : ∀ v ∈ [Value.int .i64 a, Value.int .i64 b], ∃ k m, v = .int k m := List.forall_mem_cons.2 ⟨⟨_, _, rfl⟩, List.forall_mem_cons.2 ⟨⟨_, _, rfl⟩, List.forall_mem_nil _⟩⟩
  refine run_rule hl (rules := nrules08) ?_ _ _ rfl nran08
  have p1 := place_rule (l := [.int .i64 a, .int .i64 b]) (i := 0) (v := a) rfl 10 (by decide) (by decide)
  have p2 := place_rule (l := [.int .i64 a, .int .i64 b]) (i := 1) (v := b) rfl 10 (by decide) (by decide)
  rw [h1] at p1
  rw [h2] at p2
  exact List.forall_mem_cons.2 ⟨rule_at p1, List.forall_mem_cons.2 ⟨rule_at p2, List.forall_mem_cons.2 ⟨rule_at (awake_rule hl), List.forall_mem_nil _⟩⟩⟩
noncomputable def nrules09 : List Rule := [⟨P.of 12, [.sym 0, .int .i64 (.ofNat 10)], .int .i64 (.ofNat 0)⟩, ⟨P.of 12, [.sym 1, .int .i64 (.ofNat 10)], .int .i64 (.ofNat 9)⟩, ⟨P.of 11, [], .bool true⟩]
theorem nran09 : answer (env nrules09) 1000000 (P.of 5) [.sym 0, .sym 1] = true := by decide +kernel
theorem ncase09 (a b : Int) (h1 : placeN a 10 = 0) (h2 : placeN b 10 = 9) : RuleOk Tryz.prog (sg [.int .i64 a, .int .i64 b]) 5 [.sym 0, .sym 1] (.bool true) := by
  have hl : ∀ v ∈ [Value.int .i64 a, Value.int .i64 b], ∃ k m, v = .int k m := List.forall_mem_cons.2 ⟨⟨_, _, rfl⟩, List.forall_mem_cons.2 ⟨⟨_, _, rfl⟩, List.forall_mem_nil _⟩⟩
  refine run_rule hl (rules := nrules09) ?_ _ _ rfl nran09
  have p1 := place_rule (l := [.int .i64 a, .int .i64 b]) (i := 0) (v := a) rfl 10 (by decide) (by decide)
  have p2 := place_rule (l := [.int .i64 a, .int .i64 b]) (i := 1) (v := b) rfl 10 (by decide) (by decide)
  rw [h1] at p1
  rw [h2] at p2
  exact List.forall_mem_cons.2 ⟨rule_at p1, List.forall_mem_cons.2 ⟨rule_at p2, List.forall_mem_cons.2 ⟨rule_at (awake_rule hl), List.forall_mem_nil _⟩⟩⟩
end Go.Proofs.YtfhjamimbgdfpaaGreat.X.Exp
