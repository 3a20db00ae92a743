/- What the runs of the Expand laws lean on: the deferred closure of the expander's top does nothing where nothing panics; a place below a bound is a number; no condition. -/
import Derived.Test.YtfhjamimbgdfpaaGreatExpEnv
import Derived.Test.YtfhjamimbgdfpaaGreatLib
import Derived.Recover
namespace Go.Proofs.YtfhjamimbgdfpaaGreat.X.Exp
open Go Go.RowKit
set_option linter.unusedSimpArgs false
set_option linter.unusedVariables false

theorem idle51 : IdleOk Tryz.prog 51 1 := by
  refine ⟨⟨_, Tryz.func51, by kernel_rfl, by kernel_rfl⟩, fun w rargs hl => ?_⟩
  obtain ⟨x, rfl⟩ : ∃ x, rargs = [x] := by
    match rargs, hl with
    | [x], _ => exact ⟨x, rfl⟩
  refine callsD_of_wpS Tryz.func51 rfl fun c₀ cs hu => ?_
  apply wpS_seq
  apply wpS_region
  simp [wpOpsS, go_sem, recoverD, hu, Tryz.ntmps51, Exit.thenS]
  apply wpS_seq
  apply wpS_region
  simp [wpOpsS, go_sem, recoverD, hu, Tryz.ntmps51, Exit.thenS]
  refine wpS_cond (t := false) (by simp [Act.eval, Array.replicate]) ?_
  simp only [Bool.false_eq_true, if_false]
  refine wpS_of_wp (wp_skip ?_)
  cases c₀
  simp_all [bodyPostS, results, Tryz.results51]
  exact Below.refl _ _

/-- the place that a number comes to -/
def placeN (v : Int) (n : Nat) : Nat := if v.tmod n < 0 then (v.tmod n + n).toNat else (v.tmod n).toNat
theorem placeN_lt (v : Int) (n : Nat) (hn : 1 ≤ n) : placeN v n < n := by
  have h1 := Int.tmod_lt_of_pos v (show (0 : Int) < n by omega)
  have h2 : -(n : Int) < v.tmod n := by
    have := Int.lt_tmod_of_pos v (show (0 : Int) < n by omega)
    omega
  unfold placeN
  split <;> omega
theorem place_any (v : Int) (n : Nat) (w : World) (hn : 1 ≤ n) (hn2 : n ≤ 1000) :
    Calls Tryz.prog 12 #[.int .i64 v, .int .i64 n] w fun e w' => e = .returned (.int .i64 (placeN v n)) ∧ Below w.heap.size w w' := by
  have hn0 : ((n : Int) == 0) = false := beq_eq_false_iff_ne.2 (by omega)
  have hn' : ¬ (n : Int) = 0 := by omega
  have h1 := Int.tmod_lt_of_pos v (show (0 : Int) < n by omega)
  have h2 : -(n : Int) < v.tmod n := by
    have := Int.lt_tmod_of_pos v (show (0 : Int) < n by omega)
    omega
  go_enter Tryz.func12, Tryz.ntmps12
  go_wp2
  · go_ret
    refine ⟨ret_int ?_, Below.refl _ _⟩
    unfold placeN
    rw [if_pos (by simp_all), Int.toNat_of_nonneg (by omega)]
  · go_ret
    refine ⟨ret_int ?_, Below.refl _ _⟩
    unfold placeN
    have hn3 : ¬ v.tmod n < 0 := by simp_all
    rw [if_neg hn3, Int.toNat_of_nonneg (by omega)]
noncomputable def sg (l : List Value) : Sg := { val := fun i => l.getD i (.bool false), prog := Tryz.prog }
theorem sg_ok {l : List Value} (h : ∀ v ∈ l, ∃ k n, v = .int k n) : SgOk (sg l) := by
  intro i
  show match l.getD i (.bool false) with | .agg _ => False | .tuple _ => False | _ => True
  rw [List.getD_eq_getElem?_getD]
  cases hi : l[i]? with
  | none => trivial
  | some v =>
    obtain ⟨k, n, rfl⟩ := h v (List.mem_of_getElem? hi)
    trivial
theorem place_rule {l : List Value} {i : Nat} {v : Int} (hi : l.getD i (.bool false) = .int .i64 v) (n : Nat) (hn : 1 ≤ n) (hn2 : n ≤ 1000) : RuleOk Tryz.prog (sg l) 12 [.sym i, .int .i64 (.ofNat n)] (.int .i64 (.ofNat (placeN v n))) := by
  refine ⟨⟨_, Tryz.func12, by kernel_rfl, by kernel_rfl⟩, fun w ρ rargs ha => ?_⟩
  cases ha with
  | cons h t =>
    rename_i x y
    cases t with
    | cons h2 t =>
      cases t
      cases h2
      have hx : x = .int .i64 v := by
        generalize hs : (sg l) = s at h
        cases h
        subst hs
        exact hi
      subst hx
      refine (place_any v n w hn hn2).mono ?_
      rintro e w' ⟨rfl, hb⟩
      exact ⟨_, rfl, .int _ _, hb⟩
/-- the closures of a run -/
noncomputable def env (rules : List Rule) : SE := seOf fns idles rules
theorem env_ok {l : List Value} {rules : List Rule} (hr : ∀ r ∈ rules, RuleOk Tryz.prog (sg l) r.p.toNat r.args r.v) : EnvOk Tryz.prog (sg l) (specE Tryz.prog tab idles rules) :=
  specE_ok (p := Tryz.prog) (σ := sg l) (tab := tab) (idles := idles) (rules := rules) rfl tab_ok (List.forall_mem_cons.2 ⟨idle51, List.forall_mem_nil _⟩) hr
theorem run_rule {l : List Value} (hl : ∀ v ∈ l, ∃ k n, v = .int k n) {rules : List Rule} (hr : ∀ r ∈ rules, RuleOk Tryz.prog (sg l) r.p.toNat r.args r.v) (f : Nat) (args : List V) (hflat : args.all flat0 = true)
    (h : answer (env rules) 1000000 (P.of f) args = true) : RuleOk Tryz.prog (sg l) f args (.bool true) :=
  rule_bool mixed (sg_ok hl) (env_ok hr) (seOk fns_eq tab_ok) hflat h
theorem rule_at {l : List Value} {f : Nat} {args : List V} {v : V} (h : RuleOk Tryz.prog (sg l) f args v) : RuleOk Tryz.prog (sg l) (Rule.mk (P.of f) args v).p.toNat args v := by
  show RuleOk Tryz.prog (sg l) (P.of f).toNat args v
  rw [P.toNat_of]; exact h
theorem no_rules {l : List Value} : ∀ r ∈ ([] : List Rule), RuleOk Tryz.prog (sg l) r.p.toNat r.args r.v := List.forall_mem_nil _

end Go.Proofs.YtfhjamimbgdfpaaGreat.X.Exp
