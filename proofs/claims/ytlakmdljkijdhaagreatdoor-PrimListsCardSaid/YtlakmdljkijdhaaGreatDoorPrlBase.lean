/- What the run of the document's example leans on; no condition. -/
import Derived.Test.YtlakmdljkijdhaaGreatDoorPrlEnv
import Derived.Test.YtlakmdljkijdhaaGreatDoorLib
namespace Go.Proofs.YtlakmdljkijdhaaGreatDoor.X.Prl
open Go Go.RowKit
set_option linter.unusedSimpArgs false
set_option linter.unusedVariables false

noncomputable def sg (l : List Value) : Sg := { val := fun i => l.getD i (.bool false), prog := Tryz.prog }
theorem sg_ok {l : List Value} (h : ∀ v ∈ l, ∃ k n, v = .int k n) : SgOk (sg l) := by
  intro i
  show match l.getD i (.bool false) with | .agg _ => False | .tuple _ => False | _ => True
  rw [List.getD_eq_getElem?_getD]
  cases hi : l[i]? with
  | none => trivial
  | some v =>
    obtain ⟨k, n, rfl⟩ := h v (List.mem_of_getElem? hi)
    trivial
/-- the closures of a run -/
noncomputable def env (rules : List Rule) : SE := seOf fns idles rules
theorem env_ok {l : List Value} {rules : List Rule} (hr : ∀ r ∈ rules, RuleOk Tryz.prog (sg l) r.p.toNat r.args r.v) : EnvOk Tryz.prog (sg l) (specE Tryz.prog tab idles rules) :=
  specE_ok (p := Tryz.prog) (σ := sg l) (tab := tab) (idles := idles) (rules := rules) rfl tab_ok (List.forall_mem_nil _) hr
theorem run_rule {l : List Value} (hl : ∀ v ∈ l, ∃ k n, v = .int k n) {rules : List Rule} (hr : ∀ r ∈ rules, RuleOk Tryz.prog (sg l) r.p.toNat r.args r.v) (f : Nat) (args : List V) (hflat : args.all flat0 = true)
    (h : answer (env rules) 1000000 (P.of f) args = true) : RuleOk Tryz.prog (sg l) f args (.bool true) :=
  rule_bool mixed (sg_ok hl) (env_ok hr) (seOk fns_eq tab_ok) hflat h
theorem rule_at {l : List Value} {f : Nat} {args : List V} {v : V} (h : RuleOk Tryz.prog (sg l) f args v) : RuleOk Tryz.prog (sg l) (Rule.mk (P.of f) args v).p.toNat args v := by
  show RuleOk Tryz.prog (sg l) (P.of f).toNat args v
  rw [P.toNat_of]; exact h
theorem no_rules {l : List Value} : ∀ r ∈ ([] : List Rule), RuleOk Tryz.prog (sg l) r.p.toNat r.args r.v := List.forall_mem_nil _

end Go.Proofs.YtlakmdljkijdhaaGreatDoor.X.Prl
