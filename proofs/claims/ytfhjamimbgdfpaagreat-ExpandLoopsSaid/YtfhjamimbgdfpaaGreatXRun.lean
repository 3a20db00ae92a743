/- A verified executor, part XRun: laws of the executor; no condition. -/
import Derived.Test.YtfhjamimbgdfpaaGreatXDr6
namespace Go.Proofs.YtfhjamimbgdfpaaGreat.X
open Go
set_option linter.unusedSimpArgs false
set_option linter.unusedVariables false
section
variable {p : Program} {σ : Sg} {E : Env}
theorem exec_ok (hm : p.follows .mixedOrders = true) (hs : SgOk σ) (hE : EnvOk p σ E) : ∀ n, RunOk p σ n (exec E n)
  | 0 => ⟨fun _ _ _ _ _ _ _ _ _ _ h => by simp [exec] at h, fun _ _ _ _ _ _ _ _ _ _ h => by simp [exec] at h⟩
  | n + 1 =>
    have hR := exec_ok hm hs hE n
    have hc := code_step hs hE hR (draw_ok hm hs hE hR)
    ⟨hc, loop_step hR hc⟩
/-- what a call gives, from any memory -/
theorem calls_of_exec (hm : p.follows .mixedOrders = true) (hs : SgOk σ) (hE : EnvOk p σ E) {f : FuncId} {n : Nat} {args : List V} {v : V} {H' : Hp} (h : callX E (exec E n) (P.of f) args ⟨.lf, .h⟩ = some (v, H')) {ρ : Ren} {rargs : List Value}
    (ha : VRs σ (fun _ => none) args rargs) (w : World) : (∃ fn, p.funcs[f]? = some fn ∧ (fn.name == "runtime.NumGoroutine") = false ∧ fn.body.isNone = false) ∧ Calls p f ⟨rargs⟩ w fun e w' => ∃ x ρ', e = .returned x ∧ VR σ ρ' v x ∧ Go.RowKit.Below w.heap.size w w' := by
  obtain ⟨h1, h2⟩ := (callX_sound hE (exec_ok hm hs hE n)).2 f args ⟨.lf, .h⟩ v H' (fun _ => none) w rargs h ha ⟨fun p q x y b c hp => by simp [Hp.get] at hp, fun p x hp => by simp [Hp.get] at hp, fun p b hp => by cases hp⟩
  refine ⟨h1, h2.mono ?_⟩
  rintro e w' ⟨x, ρ', rfl, hv, hH, hS⟩
  exact ⟨x, ρ', rfl, hv, ⟨hS.os, hS.tape, hS.output, hS.size, fun r hr => hS.frame r hr (fun p x b hp => by simp [Hp.get] at hp)⟩⟩
theorem bool_of_exec (hm : p.follows .mixedOrders = true) (hs : SgOk σ) (hE : EnvOk p σ E) {f : FuncId} {n : Nat} {args : List V} {b : Bool} {H' : Hp} (h : callX E (exec E n) (P.of f) args ⟨.lf, .h⟩ = some (.bool b, H')) {rargs : List Value}
    (ha : VRs σ (fun _ => none) args rargs) (w : World) : Calls p f ⟨rargs⟩ w fun e w' => e = .returned (.bool b) ∧ Go.RowKit.Below w.heap.size w w' := by
  refine (calls_of_exec hm hs hE h (ρ := fun _ => none) ha w).2.mono ?_
  rintro e w' ⟨x, ρ', rfl, hv, hb⟩
  rw [hv.bool_inv]
  exact ⟨rfl, hb⟩
end
end Go.Proofs.YtfhjamimbgdfpaaGreat.X
