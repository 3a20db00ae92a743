/- The table of the compiled functions as a tree; no condition. -/
import Derived.Test.YtafignheedbnbaaGreatDoorPeTabA
import Derived.Test.YtafignheedbnbaaGreatDoorPwAll
namespace Go.Proofs.YtafignheedbnbaaGreatDoor.X.Pe
open Go
set_option linter.unusedVariables false
set_option maxRecDepth 100000
noncomputable def tab : List (Nat × FW) := [(17, x17), (18, x18), (23, x23), (24, x24), (47, x47), (49, x49), (50, x50), (51, x51), (52, x52), (53, x53), (59, x59), (63, x63), (81, x81), (83, x83), (84, x84), (91, x91), (92, x92), (93, x93), (125, x125), (126, x126), (127, x127), (177, x177)]
noncomputable def fns : Tr FW := (.nd (.nd (.nd (.nd (.nd (.nd (.nd (.nd .lf (some x127) .lf) (some x63) .lf) none .lf) none (.nd .lf (some x47) .lf)) none (.nd .lf (some x23) .lf)) none (.nd (.nd .lf none (.nd (.nd .lf (some x83) .lf) (some x51) .lf)) none (.nd .lf none (.nd (.nd .lf (some x91) .lf) (some x59) .lf)))) none (.nd (.nd (.nd .lf (some x17) (.nd (.nd .lf (some x81) .lf) (some x49) (.nd (.nd .lf (some x177) .lf) none .lf))) none .lf) none (.nd (.nd .lf none (.nd .lf (some x53) .lf)) none (.nd .lf none (.nd (.nd .lf (some x93) .lf) none (.nd .lf (some x125) .lf)))))) none (.nd (.nd (.nd .lf none (.nd .lf (some x24) .lf)) none (.nd (.nd .lf none (.nd (.nd .lf (some x84) .lf) (some x52) .lf)) none (.nd .lf none (.nd (.nd .lf (some x92) .lf) none .lf)))) none (.nd (.nd (.nd .lf (some x18) (.nd .lf (some x50) .lf)) none .lf) none (.nd .lf none (.nd .lf none (.nd .lf none (.nd .lf (some x126) .lf)))))))
theorem fns_eq : fns = buildW tab := by kernel_rfl
theorem tab_ok : ∀ q ∈ tab, FnW Tryz.prog q.1 q.2 := List.forall_mem_cons.2 ⟨k17, List.forall_mem_cons.2 ⟨k18, List.forall_mem_cons.2 ⟨k23, List.forall_mem_cons.2 ⟨k24, List.forall_mem_cons.2 ⟨k47, List.forall_mem_cons.2 ⟨k49, List.forall_mem_cons.2 ⟨k50, List.forall_mem_cons.2 ⟨k51, List.forall_mem_cons.2 ⟨k52, List.forall_mem_cons.2 ⟨k53, List.forall_mem_cons.2 ⟨k59, List.forall_mem_cons.2 ⟨k63, List.forall_mem_cons.2 ⟨k81, List.forall_mem_cons.2 ⟨k83, List.forall_mem_cons.2 ⟨k84, List.forall_mem_cons.2 ⟨k91, List.forall_mem_cons.2 ⟨k92, List.forall_mem_cons.2 ⟨k93, List.forall_mem_cons.2 ⟨k125, List.forall_mem_cons.2 ⟨k126, List.forall_mem_cons.2 ⟨k127, List.forall_mem_cons.2 ⟨k177, List.forall_mem_nil _⟩⟩⟩⟩⟩⟩⟩⟩⟩⟩⟩⟩⟩⟩⟩⟩⟩⟩⟩⟩⟩⟩
theorem mixed : Tryz.prog.follows .mixedOrders = true := by kernel_rfl
def idles : List (P × Nat) := []
end Go.Proofs.YtafignheedbnbaaGreatDoor.X.Pe

/- What Store.Eqv says of two small numbers: whether they are the same; found by the executor for each two; no condition. -/
namespace Go.Proofs.YtafignheedbnbaaGreatDoor.X.Pe
open Go Go.RowKit
set_option linter.unusedSimpArgs false
set_option linter.unusedVariables false
set_option maxRecDepth 100000

noncomputable def sg (v : Value) : Sg := { val := fun _ => v, prog := Tryz.prog }
theorem sg_ok (a : Option Addr) : SgOk (sg (.pointer a)) := fun _ => trivial
noncomputable def env : SE := seOf fns idles []
theorem env_ok (a : Option Addr) : EnvOk Tryz.prog (sg (.pointer a)) (specE Tryz.prog tab idles []) :=
  specE_ok (p := Tryz.prog) (σ := sg (.pointer a)) (tab := tab) (idles := idles) (rules := []) rfl tab_ok (List.forall_mem_nil _) (List.forall_mem_nil _)

/-- just this Boolean -/
def boolQ (b : Bool) : V → Bool
  | .bool c => c == b
  | _ => false
theorem boolQ_inv {b : Bool} {v : V} (h : boolQ b v = true) : v = .bool b := by
  unfold boolQ at h
  split at h
  · rw [beq_iff_eq.1 h]
  · cases h

noncomputable def eqvRun (a : Nat) : Bool := (List.range 12).all fun b => answerP env 1000000 (P.of 177) [.sym 0, .int .u64 (.ofNat (4 * a + 1)), .int .u64 (.ofNat (4 * b + 1))] (boolQ (Nat.beq a b))
theorem run0 : ((List.range 3).all eqvRun) = true := by decide +kernel
theorem run1 : (((List.range 3).map (· + 3)).all eqvRun) = true := by decide +kernel
theorem run2 : (((List.range 3).map (· + 6)).all eqvRun) = true := by decide +kernel
theorem run3 : (((List.range 3).map (· + 9)).all eqvRun) = true := by decide +kernel
theorem runs (a : Nat) (h : a < 12) : eqvRun a = true := by
  by_cases h1 : a < 3
  · exact List.all_eq_true.1 run0 a (List.mem_range.2 h1)
  by_cases h2 : a < 6
  · exact List.all_eq_true.1 run1 a (List.mem_map.2 ⟨a - 3, List.mem_range.2 (by omega), by omega⟩)
  by_cases h3 : a < 9
  · exact List.all_eq_true.1 run2 a (List.mem_map.2 ⟨a - 6, List.mem_range.2 (by omega), by omega⟩)
  · exact List.all_eq_true.1 run3 a (List.mem_map.2 ⟨a - 9, List.mem_range.2 (by omega), by omega⟩)
end Go.Proofs.YtafignheedbnbaaGreatDoor.X.Pe
namespace Go.Proofs.YtafignheedbnbaaGreatDoor
open Go Go.RowKit

theorem eqv_small (p : Option Addr) (a b : Nat) (ha : a < 12) (hb : b < 12) (w : World) : Calls Tryz.prog 177 #[.pointer p, .int .u64 (4 * a + 1 : Nat), .int .u64 (4 * b + 1 : Nat)] w fun e w' => e = .returned (.bool (decide (a = b))) ∧ Below w.heap.size w w' := by
  have hr := List.all_eq_true.1 (X.Pe.runs a ha) b (List.mem_range.2 hb)
  obtain ⟨m, v, H, e, hq⟩ := X.answerP_spec (X.seOk X.Pe.fns_eq X.Pe.tab_ok) hr
  obtain rfl := X.Pe.boolQ_inv hq
  have hE := X.Pe.env_ok p
  refine (X.calls_of_exec X.Pe.mixed (X.Pe.sg_ok p) hE e (ρ := fun _ => none) (.cons (.sym 0) (.cons (.int .u64 _) (.cons (.int .u64 _) .nil))) w).2.mono ?_
  rintro e2 w' ⟨x, ρ', rfl, hv, hb2⟩
  rw [hv.bool_inv]
  refine ⟨?_, hb2⟩
  cases hh : Nat.beq a b with
  | true => rw [decide_eq_true (Nat.eq_of_beq_eq_true hh)]
  | false => rw [decide_eq_false (fun e => by subst e; simp at hh)]

end Go.Proofs.YtafignheedbnbaaGreatDoor
