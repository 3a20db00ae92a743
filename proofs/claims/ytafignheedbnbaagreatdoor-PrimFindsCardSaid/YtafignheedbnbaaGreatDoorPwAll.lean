/- The table of the compiled functions as a tree; no condition. -/
import Derived.Test.YtafignheedbnbaaGreatDoorPwTabA
import Derived.Test.YtafignheedbnbaaGreatDoorPwTabB
import Derived.Test.YtafignheedbnbaaGreatDoorLib
namespace Go.Proofs.YtafignheedbnbaaGreatDoor.X.Pw
open Go
set_option linter.unusedVariables false
set_option maxRecDepth 100000
noncomputable def tab : List (Nat × FW) := [(12, x12), (14, x14), (20, x20), (21, x21), (22, x22), (23, x23), (29, x29), (32, x32), (33, x33), (34, x34), (35, x35), (43, x43), (46, x46), (49, x49), (50, x50), (51, x51), (55, x55), (56, x56), (57, x57), (58, x58), (59, x59), (60, x60), (61, x61), (62, x62), (65, x65), (66, x66), (67, x67), (68, x68), (69, x69), (70, x70), (71, x71), (72, x72), (73, x73), (74, x74), (80, x80), (81, x81), (82, x82), (83, x83), (91, x91), (95, x95), (96, x96), (97, x97), (98, x98), (99, x99), (100, x100), (101, x101), (102, x102), (104, x104), (105, x105), (106, x106), (107, x107), (108, x108), (109, x109), (110, x110), (112, x112), (113, x113), (114, x114), (125, x125), (126, x126), (127, x127), (170, x170), (174, x174), (178, x178), (192, x192)]
noncomputable def fns : Tr FW := (.nd (.nd (.nd (.nd (.nd (.nd (.nd (.nd .lf (some x127) .lf) none .lf) none (.nd .lf (some x95) .lf)) none .lf) none (.nd (.nd (.nd .lf (some x71) .lf) none .lf) (some x23) (.nd .lf (some x55) .lf))) none (.nd (.nd (.nd (.nd .lf (some x67) .lf) (some x35) (.nd .lf (some x99) .lf)) none (.nd (.nd .lf (some x83) .lf) (some x51) .lf)) none (.nd (.nd .lf (some x43) (.nd .lf (some x107) .lf)) none (.nd (.nd .lf (some x91) .lf) (some x59) .lf)))) none (.nd (.nd (.nd (.nd (.nd .lf (some x65) .lf) (some x33) (.nd .lf (some x97) .lf)) none (.nd (.nd .lf (some x81) .lf) (some x49) (.nd .lf (some x113) .lf))) none (.nd (.nd (.nd .lf (some x73) .lf) none (.nd .lf (some x105) .lf)) none (.nd .lf (some x57) .lf))) none (.nd (.nd (.nd (.nd .lf (some x69) .lf) none (.nd .lf (some x101) .lf)) (some x21) .lf) none (.nd (.nd .lf none (.nd .lf (some x109) .lf)) (some x29) (.nd .lf (some x61) (.nd .lf (some x125) .lf)))))) none (.nd (.nd (.nd (.nd (.nd (.nd .lf none (.nd .lf (some x192) .lf)) (some x32) (.nd .lf (some x96) .lf)) none (.nd (.nd .lf (some x80) .lf) none (.nd .lf (some x112) .lf))) none (.nd (.nd (.nd .lf (some x72) .lf) none (.nd .lf (some x104) .lf)) none (.nd .lf (some x56) .lf))) none (.nd (.nd (.nd (.nd .lf (some x68) .lf) none (.nd .lf (some x100) .lf)) (some x20) .lf) (some x12) (.nd (.nd .lf none (.nd .lf (some x108) .lf)) none (.nd .lf (some x60) .lf)))) none (.nd (.nd (.nd (.nd (.nd .lf (some x66) .lf) (some x34) (.nd .lf (some x98) .lf)) none (.nd (.nd .lf (some x82) .lf) (some x50) (.nd (.nd .lf (some x178) .lf) (some x114) .lf))) none (.nd (.nd (.nd .lf (some x74) .lf) none (.nd (.nd .lf (some x170) .lf) (some x106) .lf)) none (.nd .lf (some x58) .lf))) none (.nd (.nd (.nd (.nd .lf (some x70) .lf) none (.nd .lf (some x102) .lf)) (some x22) .lf) (some x14) (.nd (.nd .lf (some x46) (.nd (.nd .lf (some x174) .lf) (some x110) .lf)) none (.nd .lf (some x62) (.nd .lf (some x126) .lf)))))))
theorem fns_eq : fns = buildW tab := by kernel_rfl
theorem tab_ok : ∀ q ∈ tab, FnW Tryz.prog q.1 q.2 := List.forall_mem_cons.2 ⟨k12, List.forall_mem_cons.2 ⟨k14, List.forall_mem_cons.2 ⟨k20, List.forall_mem_cons.2 ⟨k21, List.forall_mem_cons.2 ⟨k22, List.forall_mem_cons.2 ⟨k23, List.forall_mem_cons.2 ⟨k29, List.forall_mem_cons.2 ⟨k32, List.forall_mem_cons.2 ⟨k33, List.forall_mem_cons.2 ⟨k34, List.forall_mem_cons.2 ⟨k35, List.forall_mem_cons.2 ⟨k43, List.forall_mem_cons.2 ⟨k46, List.forall_mem_cons.2 ⟨k49, List.forall_mem_cons.2 ⟨k50, List.forall_mem_cons.2 ⟨k51, List.forall_mem_cons.2 ⟨k55, List.forall_mem_cons.2 ⟨k56, List.forall_mem_cons.2 ⟨k57, List.forall_mem_cons.2 ⟨k58, List.forall_mem_cons.2 ⟨k59, List.forall_mem_cons.2 ⟨k60, List.forall_mem_cons.2 ⟨k61, List.forall_mem_cons.2 ⟨k62, List.forall_mem_cons.2 ⟨k65, List.forall_mem_cons.2 ⟨k66, List.forall_mem_cons.2 ⟨k67, List.forall_mem_cons.2 ⟨k68, List.forall_mem_cons.2 ⟨k69, List.forall_mem_cons.2 ⟨k70, List.forall_mem_cons.2 ⟨k71, List.forall_mem_cons.2 ⟨k72, List.forall_mem_cons.2 ⟨k73, List.forall_mem_cons.2 ⟨k74, List.forall_mem_cons.2 ⟨k80, List.forall_mem_cons.2 ⟨k81, List.forall_mem_cons.2 ⟨k82, List.forall_mem_cons.2 ⟨k83, List.forall_mem_cons.2 ⟨k91, List.forall_mem_cons.2 ⟨k95, List.forall_mem_cons.2 ⟨k96, List.forall_mem_cons.2 ⟨k97, List.forall_mem_cons.2 ⟨k98, List.forall_mem_cons.2 ⟨k99, List.forall_mem_cons.2 ⟨k100, List.forall_mem_cons.2 ⟨k101, List.forall_mem_cons.2 ⟨k102, List.forall_mem_cons.2 ⟨k104, List.forall_mem_cons.2 ⟨k105, List.forall_mem_cons.2 ⟨k106, List.forall_mem_cons.2 ⟨k107, List.forall_mem_cons.2 ⟨k108, List.forall_mem_cons.2 ⟨k109, List.forall_mem_cons.2 ⟨k110, List.forall_mem_cons.2 ⟨k112, List.forall_mem_cons.2 ⟨k113, List.forall_mem_cons.2 ⟨k114, List.forall_mem_cons.2 ⟨k125, List.forall_mem_cons.2 ⟨k126, List.forall_mem_cons.2 ⟨k127, List.forall_mem_cons.2 ⟨k170, List.forall_mem_cons.2 ⟨k174, List.forall_mem_cons.2 ⟨k178, List.forall_mem_cons.2 ⟨k192, List.forall_mem_nil _⟩⟩⟩⟩⟩⟩⟩⟩⟩⟩⟩⟩⟩⟩⟩⟩⟩⟩⟩⟩⟩⟩⟩⟩⟩⟩⟩⟩⟩⟩⟩⟩⟩⟩⟩⟩⟩⟩⟩⟩⟩⟩⟩⟩⟩⟩⟩⟩⟩⟩⟩⟩⟩⟩⟩⟩⟩⟩⟩⟩⟩⟩⟩⟩
theorem mixed : Tryz.prog.follows .mixedOrders = true := by kernel_rfl
def idles : List (P × Nat) := []
end Go.Proofs.YtafignheedbnbaaGreatDoor.X.Pw

/- What the run of the document's example leans on; no condition. -/
namespace Go.Proofs.YtafignheedbnbaaGreatDoor.X.Pw
open Go Go.RowKit
set_option linter.unusedSimpArgs false
set_option linter.unusedVariables false

noncomputable def sg (l : List Value) : Sg := { val := fun i => l.getD i (.bool false), prog := Tryz.prog }
theorem sg_ok {l : List Value} (h : ∀ v ∈ l, ∃ k n, v = .int k n) : SgOk (sg l) := by
  intro i
  show match l.getD i (.bool false) with | .agg _ => False | .tuple _ => False | _ => True
  rw [List.getD_eq_getElem?_getD]
  cases hi : l[i]? with
  | none => trivial
  | some v =>
    obtain ⟨k, n, rfl⟩ := h v (List.mem_of_getElem? hi)
    trivial
/-- the closures of a run -/
noncomputable def env (rules : List Rule) : SE := seOf fns idles rules
theorem env_ok {l : List Value} {rules : List Rule} (hr : ∀ r ∈ rules, RuleOk Tryz.prog (sg l) r.p.toNat r.args r.v) : EnvOk Tryz.prog (sg l) (specE Tryz.prog tab idles rules) :=
  specE_ok (p := Tryz.prog) (σ := sg l) (tab := tab) (idles := idles) (rules := rules) rfl tab_ok (List.forall_mem_nil _) hr
theorem run_rule {l : List Value} (hl : ∀ v ∈ l, ∃ k n, v = .int k n) {rules : List Rule} (hr : ∀ r ∈ rules, RuleOk Tryz.prog (sg l) r.p.toNat r.args r.v) (f : Nat) (args : List V) (hflat : args.all flat0 = true)
    (h : answer (env rules) 1000000 (P.of f) args = true) : RuleOk Tryz.prog (sg l) f args (.bool true) :=
  rule_bool mixed (sg_ok hl) (env_ok hr) (seOk fns_eq tab_ok) hflat h
theorem rule_at {l : List Value} {f : Nat} {args : List V} {v : V} (h : RuleOk Tryz.prog (sg l) f args v) : RuleOk Tryz.prog (sg l) (Rule.mk (P.of f) args v).p.toNat args v := by
  show RuleOk Tryz.prog (sg l) (P.of f).toNat args v
  rw [P.toNat_of]; exact h
theorem no_rules {l : List Value} : ∀ r ∈ ([] : List Rule), RuleOk Tryz.prog (sg l) r.p.toNat r.args r.v := List.forall_mem_nil _

end Go.Proofs.YtafignheedbnbaaGreatDoor.X.Pw

/- The run of the document's example: it answers true; no condition. -/
namespace Go.Proofs.YtafignheedbnbaaGreatDoor.X.Pw
open Go
set_option maxRecDepth 100000
theorem ran_awake : answer (env []) 1000000 (P.of 14) [] = true := by decide +kernel
theorem awake_rule {l : List Value} (hl : ∀ v ∈ l, ∃ k n, v = .int k n) : RuleOk Tryz.prog (sg l) 14 [] (.bool true) := run_rule hl no_rules _ _ rfl ran_awake
end Go.Proofs.YtafignheedbnbaaGreatDoor.X.Pw

/- What num.Of makes of a small number: no minus, and some limbs; found by the executor for each number; no condition. -/
namespace Go.Proofs.YtafignheedbnbaaGreatDoor.X
open Go
set_option linter.unusedVariables false

/-- a run whose answer passes a test -/
def doneP (q : V → Bool) : KV := fun v H => bif q v then some (.nrm, ⟨ub, ub, ub, ub, ub, ub, ub, ub⟩, H) else none
noncomputable def answerP (S : SE) (n : Nat) (f : P) (args : List V) (q : V → Bool) : Bool := isS (callN S n f args ⟨.lf, .h⟩ (doneP q))
theorem answerP_spec {E : Env} {S : SE} (hS : SeOk E S) {n : Nat} {f : P} {args : List V} {q : V → Bool} (h : answerP S n f args q = true) : ∃ m v H, callX E (exec E m) f args ⟨.lf, .h⟩ = some (v, H) ∧ q v = true := by
  unfold answerP at h
  cases hc : callN S n f args ⟨.lf, .h⟩ (doneP q) with
  | none => rw [hc] at h; cases h
  | some r =>
    obtain ⟨v, H', ⟨m, e⟩, hk⟩ := (callN_sound hS n).call f args _ _ r hc
    refine ⟨m, v, H', e, ?_⟩
    unfold doneP at hk
    cases hy : q v with
    | false => rw [hy] at hk; cases hk
    | true => rfl

/-- no minus, and a slice -/
def numQ : V → Bool
  | .agg [.bool false, .slice _ _ _ _] => true
  | _ => false
theorem numQ_inv {v : V} (h : numQ v = true) : ∃ a s l c, v = .agg [.bool false, .slice a s l c] := by
  unfold numQ at h
  split at h
  · exact ⟨_, _, _, _, rfl⟩
  · cases h

end Go.Proofs.YtafignheedbnbaaGreatDoor.X
namespace Go.Proofs.YtafignheedbnbaaGreatDoor.X.Pw
open Go
set_option maxRecDepth 100000
theorem of_runs : ((List.range 130).all fun k => answerP (env []) 1000000 (P.of 51) [.int .i64 (.ofNat k)] numQ) = true := by decide +kernel
end Go.Proofs.YtafignheedbnbaaGreatDoor.X.Pw
namespace Go.Proofs.YtafignheedbnbaaGreatDoor
open Go Go.RowKit

def OfDone (w : World) (e : Ending) (w' : World) : Prop := ∃ a l c, e = .returned (.agg #[.bool false, .slice a l c]) ∧ Below w.heap.size w w'

theorem of_any (k : Nat) (hk : k < 130) (w : World) : Calls Tryz.prog 51 #[.int .i64 k] w (OfDone w) := by
  have hr := List.all_eq_true.1 X.Pw.of_runs k (List.mem_range.2 hk)
  obtain ⟨m, v, H, e, hq⟩ := X.answerP_spec (X.seOk X.Pw.fns_eq X.Pw.tab_ok) hr
  obtain ⟨a, s, l, c, rfl⟩ := X.numQ_inv hq
  have hl : ∀ v ∈ ([] : List Value), ∃ k n, v = .int k n := by simp
  have hE := X.Pw.env_ok (l := []) (rules := []) X.Pw.no_rules
  refine (X.calls_of_exec X.Pw.mixed (X.Pw.sg_ok hl) hE e (ρ := fun _ => none) (.cons (.int .i64 k) .nil) w).2.mono ?_
  rintro e2 w' ⟨x, ρ', rfl, hv, hb⟩
  cases hv with
  | agg h1 =>
    cases h1 with
    | cons h2 h3 =>
      cases h3 with
      | cons h4 h5 =>
        cases h5
        cases h2
        cases h4 with
        | slcN => exact ⟨_, _, _, rfl, hb⟩
        | slc => exact ⟨_, _, _, rfl, hb⟩
        | slc0 => exact ⟨_, _, _, rfl, hb⟩

end Go.Proofs.YtafignheedbnbaaGreatDoor
