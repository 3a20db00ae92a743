/- ExpandLoops: whatever the number, the law answers true: it comes to one of six runs; no condition. -/
import Derived.Test.YtfhjamimbgdfpaaGreatExpLoopsA
import Derived.Test.YtfhjamimbgdfpaaGreatExpLoopsB
import Derived.Test.YtfhjamimbgdfpaaGreatExpLoopsC
import Derived.Test.YtfhjamimbgdfpaaGreatExpLoopsD
import Derived.Test.YtfhjamimbgdfpaaGreatExpLoopsE
namespace Go.Proofs.YtfhjamimbgdfpaaGreat.X.Exp
open Go Go.RowKit
set_option maxRecDepth 100000
set_option linter.unusedVariables false
noncomputable def rules0 : List Rule := [⟨P.of 12, [.sym 0, .int .i64 (.ofNat 6)], .int .i64 (.ofNat 0)⟩, ⟨P.of 11, [], .bool true⟩, ⟨P.of 16, args_two0, .bool true⟩, ⟨P.of 17, args_loops0, .bool true⟩]
theorem ran0 : answer (env rules0) 1000000 (P.of 6) [.sym 0] = true := by decide +kernel
noncomputable def rules1 : List Rule := [⟨P.of 12, [.sym 0, .int .i64 (.ofNat 6)], .int .i64 (.ofNat 1)⟩, ⟨P.of 11, [], .bool true⟩, ⟨P.of 16, args_two1, .bool true⟩, ⟨P.of 17, args_loops1, .bool true⟩]
theorem ran1 : answer (env rules1) 1000000 (P.of 6) [.sym 0] = true := by decide +kernel
noncomputable def rules2 : List Rule := [⟨P.of 12, [.sym 0, .int .i64 (.ofNat 6)], .int .i64 (.ofNat 2)⟩, ⟨P.of 11, [], .bool true⟩, ⟨P.of 16, args_two2, .bool true⟩, ⟨P.of 17, args_loops2, .bool true⟩]
theorem ran2 : answer (env rules2) 1000000 (P.of 6) [.sym 0] = true := by decide +kernel
noncomputable def rules3 : List Rule := [⟨P.of 12, [.sym 0, .int .i64 (.ofNat 6)], .int .i64 (.ofNat 3)⟩, ⟨P.of 11, [], .bool true⟩, ⟨P.of 16, args_two3, .bool true⟩, ⟨P.of 17, args_loops3, .bool true⟩]
theorem ran3 : answer (env rules3) 1000000 (P.of 6) [.sym 0] = true := by decide +kernel
noncomputable def rules4 : List Rule := [⟨P.of 12, [.sym 0, .int .i64 (.ofNat 6)], .int .i64 (.ofNat 4)⟩, ⟨P.of 11, [], .bool true⟩, ⟨P.of 16, args_two4, .bool true⟩, ⟨P.of 17, args_loops4, .bool true⟩]
theorem ran4 : answer (env rules4) 1000000 (P.of 6) [.sym 0] = true := by decide +kernel
noncomputable def rules5 : List Rule := [⟨P.of 12, [.sym 0, .int .i64 (.ofNat 6)], .int .i64 (.ofNat 5)⟩, ⟨P.of 11, [], .bool true⟩, ⟨P.of 16, args_two5, .bool true⟩, ⟨P.of 17, args_loops5, .bool true⟩]
theorem ran5 : answer (env rules5) 1000000 (P.of 6) [.sym 0] = true := by decide +kernel
theorem int_only (n : Int) : ∀ v ∈ [Value.int .i64 n], ∃ k m, v = .int k m := by
  intro v hv
  simp at hv
  exact ⟨_, _, hv⟩
theorem case0 (n : Int) (h : placeN n 6 = 0) : RuleOk Tryz.prog (sg [.int .i64 n]) 6 [.sym 0] (.bool true) := by
  have hl := int_only n
  refine run_rule hl (rules := rules0) ?_ _ _ rfl ran0
  have hp := place_rule (l := [.int .i64 n]) (i := 0) (v := n) rfl 6 (by decide) (by decide)
  rw [h] at hp
  exact List.forall_mem_cons.2 ⟨rule_at hp, List.forall_mem_cons.2 ⟨rule_at (run_rule hl no_rules _ _ rfl ran_awake), List.forall_mem_cons.2 ⟨rule_at (run_rule hl no_rules _ _ rfl ran_two0), List.forall_mem_cons.2 ⟨rule_at (run_rule hl no_rules _ _ rfl ran_loops0), List.forall_mem_nil _⟩⟩⟩⟩
theorem case1 (n : Int) (h : placeN n 6 = 1) : RuleOk Tryz.prog (sg [.int .i64 n]) 6 [.sym 0] (.bool true) := by
  have hl := int_only n
  refine run_rule hl (rules := rules1) ?_ _ _ rfl ran1
  have hp := place_rule (l := [.int .i64 n]) (i := 0) (v := n) rfl 6 (by decide) (by decide)
  rw [h] at hp
  exact List.forall_mem_cons.2 ⟨rule_at hp, List.forall_mem_cons.2 ⟨rule_at (run_rule hl no_rules _ _ rfl ran_awake), List.forall_mem_cons.2 ⟨rule_at (run_rule hl no_rules _ _ rfl ran_two1), List.forall_mem_cons.2 ⟨rule_at (run_rule hl no_rules _ _ rfl ran_loops1), List.forall_mem_nil _⟩⟩⟩⟩
theorem case2 (n : Int) (h : placeN n 6 = 2) : RuleOk Tryz.prog (sg [.int .i64 n]) 6 [.sym 0] (.bool true) := by
  have hl := int_only n
  refine run_rule hl (rules := rules2) ?_ _ _ rfl ran2
  have hp := place_rule (l := [.int .i64 n]) (i := 0) (v := n) rfl 6 (by decide) (by decide)
  rw [h] at hp
  exact List.forall_mem_cons.2 ⟨rule_at hp, List.forall_mem_cons.2 ⟨rule_at (run_rule hl no_rules _ _ rfl ran_awake), List.forall_mem_cons.2 ⟨rule_at (run_rule hl no_rules _ _ rfl ran_two2), List.forall_mem_cons.2 ⟨rule_at (run_rule hl no_rules _ _ rfl ran_loops2), List.forall_mem_nil _⟩⟩⟩⟩
theorem case3 (n : Int) (h : placeN n 6 = 3) : RuleOk Tryz.prog (sg [.int .i64 n]) 6 [.sym 0] (.bool true) := by
  have hl := int_only n
  refine run_rule hl (rules := rules3) ?_ _ _ rfl ran3
  have hp := place_rule (l := [.int .i64 n]) (i := 0) (v := n) rfl 6 (by decide) (by decide)
  rw [h] at hp
  exact List.forall_mem_cons.2 ⟨rule_at hp, List.forall_mem_cons.2 ⟨rule_at (run_rule hl no_rules _ _ rfl ran_awake), List.forall_mem_cons.2 ⟨rule_at (run_rule hl no_rules _ _ rfl ran_two3), List.forall_mem_cons.2 ⟨rule_at (run_rule hl no_rules _ _ rfl ran_loops3), List.forall_mem_nil _⟩⟩⟩⟩
theorem case4 (n : Int) (h : placeN n 6 = 4) : RuleOk Tryz.prog (sg [.int .i64 n]) 6 [.sym 0] (.bool true) := by
  have hl := int_only n
  refine run_rule hl (rules := rules4) ?_ _ _ rfl ran4
  have hp := place_rule (l := [.int .i64 n]) (i := 0) (v := n) rfl 6 (by decide) (by decide)
  rw [h] at hp
  exact List.forall_mem_cons.2 ⟨rule_at hp, List.forall_mem_cons.2 ⟨rule_at (run_rule hl no_rules _ _ rfl ran_awake), List.forall_mem_cons.2 ⟨rule_at (run_rule hl no_rules _ _ rfl ran_two4), List.forall_mem_cons.2 ⟨rule_at (run_rule hl no_rules _ _ rfl ran_loops4), List.forall_mem_nil _⟩⟩⟩⟩
theorem case5 (n : Int) (h : placeN n 6 = 5) : RuleOk Tryz.prog (sg [.int .i64 n]) 6 [.sym 0] (.bool true) := by
  have hl := int_only n
  refine run_rule hl (rules := rules5) ?_ _ _ rfl ran5
  have hp := place_rule (l := [.int .i64 n]) (i := 0) (v := n) rfl 6 (by decide) (by decide)
  rw [h] at hp
  exact List.forall_mem_cons.2 ⟨rule_at hp, List.forall_mem_cons.2 ⟨rule_at (run_rule hl no_rules _ _ rfl ran_awake), List.forall_mem_cons.2 ⟨rule_at (run_rule hl no_rules _ _ rfl ran_two5), List.forall_mem_cons.2 ⟨rule_at (run_rule hl no_rules _ _ rfl ran_loops5), List.forall_mem_nil _⟩⟩⟩⟩
theorem loops_any (n : Int) (w : World) : Calls Tryz.prog 6 #[.int .i64 n] w fun e w' => e = .returned (.bool true) ∧ Below w.heap.size w w' := by
  have hlt := placeN_lt n 6 (by decide)
  have key : RuleOk Tryz.prog (sg [.int .i64 n]) 6 [.sym 0] (.bool true) := by
    have h6 : placeN n 6 = 0 ∨ placeN n 6 = 1 ∨ placeN n 6 = 2 ∨ placeN n 6 = 3 ∨ placeN n 6 = 4 ∨ placeN n 6 = 5 := by omega
    rcases h6 with h | h | h | h | h | h
    · exact case0 n h
    · exact case1 n h
    · exact case2 n h
    · exact case3 n h
    · exact case4 n h
    · exact case5 n h
  refine (key.2 w (fun _ => none) [.int .i64 n] (.cons (.sym 0) .nil)).mono ?_
  rintro e w' ⟨x, rfl, hv, hb⟩
  rw [hv.bool_inv]
  exact ⟨rfl, hb⟩
end Go.Proofs.YtfhjamimbgdfpaaGreat.X.Exp
