/- A verified executor of the program's code, part XRun; no condition. -/
import Derived.Test.YtafignheedbnbaaGreatDoorXDrP
import Derived.Test.YtafignheedbnbaaGreatDoorXW
namespace Go.Proofs.YtafignheedbnbaaGreatDoor.X
open Go
set_option linter.unusedSimpArgs false
set_option linter.unusedVariables false
section
variable {p : Program} {σ : Sg} {E : Env}
theorem exec_ok (hm : p.follows .mixedOrders = true) (hs : SgOk σ) (hE : EnvOk p σ E) : ∀ n, RunOk p σ n (exec E n)
  | 0 => ⟨fun _ _ _ _ _ _ _ _ _ _ h => by simp [exec] at h, fun _ _ _ _ _ _ _ _ _ _ h => by simp [exec] at h⟩
  | n + 1 =>
    have hR := exec_ok hm hs hE n
    have hc := code_step hs hE hR (draw_ok hm hs hE hR)
    ⟨hc, loop_step hR hc⟩
/-- what a call gives, from any memory -/
theorem calls_of_exec (hm : p.follows .mixedOrders = true) (hs : SgOk σ) (hE : EnvOk p σ E) {f : FuncId} {n : Nat} {args : List V} {v : V} {H' : Hp} (h : callX E (exec E n) (P.of f) args ⟨.lf, .h⟩ = some (v, H')) {ρ : Ren} {rargs : List Value}
    (ha : VRs σ (fun _ => none) args rargs) (w : World) : (∃ fn, p.funcs[f]? = some fn ∧ (fn.name == "runtime.NumGoroutine") = false ∧ fn.body.isNone = false) ∧ Calls p f ⟨rargs⟩ w fun e w' => ∃ x ρ', e = .returned x ∧ VR σ ρ' v x ∧ Go.RowKit.Below w.heap.size w w' := by
  obtain ⟨h1, h2⟩ := (callX_sound hE (exec_ok hm hs hE n)).2 f args ⟨.lf, .h⟩ v H' (fun _ => none) w rargs h ha ⟨fun p q x y b c hp => by simp [Hp.get] at hp, fun p x hp => by simp [Hp.get] at hp, fun p b hp => by cases hp⟩
  refine ⟨h1, h2.mono ?_⟩
  rintro e w' ⟨x, ρ', rfl, hv, hH, hS⟩
  exact ⟨x, ρ', rfl, hv, ⟨hS.os, hS.tape, hS.output, hS.size, fun r hr => hS.frame r hr (fun p x b hp => by simp [Hp.get] at hp)⟩⟩
theorem bool_of_exec (hm : p.follows .mixedOrders = true) (hs : SgOk σ) (hE : EnvOk p σ E) {f : FuncId} {n : Nat} {args : List V} {b : Bool} {H' : Hp} (h : callX E (exec E n) (P.of f) args ⟨.lf, .h⟩ = some (.bool b, H')) {rargs : List Value}
    (ha : VRs σ (fun _ => none) args rargs) (w : World) : Calls p f ⟨rargs⟩ w fun e w' => e = .returned (.bool b) ∧ Go.RowKit.Below w.heap.size w w' := by
  refine (calls_of_exec hm hs hE h (ρ := fun _ => none) ha w).2.mono ?_
  rintro e w' ⟨x, ρ', rfl, hv, hb⟩
  rw [hv.bool_inv]
  exact ⟨rfl, hb⟩
end
end Go.Proofs.YtafignheedbnbaaGreatDoor.X
namespace Go.Proofs.YtafignheedbnbaaGreatDoor.X
open Go
set_option linter.unusedSimpArgs false
set_option linter.unusedVariables false

/-! ## A table of compiled functions, and contracts that stand in for calls -/
def build : List (Nat × XFn) → Tr XFn
  | [] => .lf
  | (f, x) :: r => (build r).put (some x) (P.of f)
theorem get_build : ∀ {l : List (Nat × XFn)} {f : Nat} {x : XFn}, (build l).get (P.of f) = some x → (f, x) ∈ l
  | [], f, x, h => by simp [build] at h
  | (g, y) :: r, f, x, h => by
    unfold build at h
    rw [Tr.get_put] at h
    split at h
    · rename_i e
      have := P.of_inj e
      cases h; subst this; simp
    · exact List.mem_cons_of_mem _ (get_build h)
def FnOk (p : Program) (f : Nat) (x : XFn) : Prop := ∃ fn, p.funcs[f]? = some fn ∧ (fn.name == "runtime.NumGoroutine") = false ∧ cFunc p fn = some x
def HasBody (p : Program) (f : Nat) : Prop := ∃ fn, p.funcs[f]? = some fn ∧ (fn.name == "runtime.NumGoroutine") = false ∧ fn.body.isNone = false

noncomputable section
def sameP : P → P → Bool := @P.rec (fun _ => P → Bool) (@P.rec (fun _ => Bool) true (fun _ _ => false) (fun _ _ => false))
  (fun _ ih => @P.rec (fun _ => Bool) false (fun q _ => ih q) (fun _ _ => false)) (fun _ ih => @P.rec (fun _ => Bool) false (fun _ _ => false) (fun q _ => ih q))
theorem sameP_eq : ∀ {p q : P}, sameP p q = true → p = q
  | .h, .h, _ => rfl
  | .h, .o _, h => by cases h
  | .h, .i _, h => by cases h
  | .o _, .h, h => by cases h
  | .o p, .o q, h => by rw [sameP_eq (p := p) (q := q) h]
  | .o _, .i _, h => by cases h
  | .i _, .h, h => by cases h
  | .i _, .o _, h => by cases h
  | .i p, .i q, h => by rw [sameP_eq (p := p) (q := q) h]
theorem flatEq_eq : ∀ {a b : V}, flatEq a b = true → a = b := by
  intro a b h
  unfold flatEq at h
  split at h <;> first
    | (cases h; done)
    | (simp only [Bool.and_eq_true, beq_iff_eq, decide_eq_true_eq, Nat.beq_eq] at h; simp_all; done)
    | (rename_i j x k y
       simp only [Bool.and_eq_true, decide_eq_true_eq] at h
       obtain ⟨rfl, h⟩ := h
       cases x <;> cases y <;> simp_all [eqI])
    | rfl
theorem flatEqs_eq : ∀ {a b : List V}, flatEqs a b = true → a = b
  | [], [], _ => rfl
  | [], _ :: _, h => by cases h
  | _ :: _, [], h => by cases h
  | x :: r, y :: s, h => by
    unfold flatEqs at h
    simp only [Bool.and_eq_true] at h
    rw [flatEq_eq h.1, flatEqs_eq h.2]
structure Rule where
  p : P
  args : List V
  v : V
def orcOf : List Rule → P → List V → Option V := @List.rec Rule (fun _ => P → List V → Option V) (fun _ _ => none)
  (fun r _ ih f args => @Bool.rec (fun _ => Option V) (ih f args) (@Bool.rec (fun _ => Option V) (ih f args) (some r.v) (flatEqs r.args args)) (sameP r.p f))
theorem orcOf_mem : ∀ {l : List Rule} {f : P} {args : List V} {v : V}, orcOf l f args = some v → ∃ r ∈ l, r.p = f ∧ r.args = args ∧ r.v = v
  | [], _, _, _, h => by cases h
  | r :: l, f, args, v, h => by
    have h' : @Bool.rec (fun _ => Option V) (orcOf l f args) (@Bool.rec (fun _ => Option V) (orcOf l f args) (some r.v) (flatEqs r.args args)) (sameP r.p f) = some v := h
    cases e1 : sameP r.p f with
    | false => rw [e1] at h'; obtain ⟨q, hq, h2⟩ := orcOf_mem (show orcOf l f args = some v from h'); exact ⟨q, List.mem_cons_of_mem _ hq, h2⟩
    | true =>
      rw [e1] at h'
      cases e2 : flatEqs r.args args with
      | false => rw [e2] at h'; obtain ⟨q, hq, h2⟩ := orcOf_mem (show orcOf l f args = some v from h'); exact ⟨q, List.mem_cons_of_mem _ hq, h2⟩
      | true =>
        rw [e2] at h'
        have h3 : some r.v = some v := h'
        exact ⟨r, by simp, sameP_eq e1, flatEqs_eq e2, by cases h3; rfl⟩
def RuleOk (p : Program) (σ : Sg) (f : Nat) (args : List V) (v : V) : Prop := HasBody p f ∧
  ∀ (w : World) (ρ : Ren) (rargs : List Value), VRs σ ρ args rargs → Calls p f ⟨rargs⟩ w fun e w' => ∃ x, e = .returned x ∧ VR σ ρ v x ∧ Go.RowKit.Below w.heap.size w w'
def idleOf (fs : List (P × Nat)) (f : P) (k : Nat) : Bool := fs.any fun q => sameP q.1 f && Nat.beq q.2 k
def IdleOk (p : Program) (f k : Nat) : Prop := HasBody p f ∧ ∀ (w : World) (rargs : List Value), rargs.length = k → CallsD p f ⟨rargs⟩ .returning w fun e u w' => (∃ v, e = .returned v) ∧ u = .returning ∧ Go.RowKit.Below w.heap.size w w'
theorem envOk {p : Program} {σ : Sg} (hp : σ.prog = p) {tab : List (Nat × XFn)} {fns : Tr XFn} (hfns : fns = build tab) (htab : ∀ q ∈ tab, FnOk p q.1 q.2) {idles : List (P × Nat)} (hid : ∀ q ∈ idles, IdleOk p q.1.toNat q.2)
    {rules : List Rule} (hr : ∀ r ∈ rules, RuleOk p σ r.p.toNat r.args r.v) : EnvOk p σ { fns := fns, orc := orcOf rules, idle := idleOf idles } where
  prog := hp
  idle := fun f k h => by
    obtain ⟨q, hq, h2⟩ := List.any_eq_true.1 h
    simp only [Bool.and_eq_true, Nat.beq_eq] at h2
    obtain ⟨h3, rfl⟩ := h2
    have := hid q hq
    rw [sameP_eq h3, P.toNat_of] at this
    exact this
  fns := fun f xf h => by
    have h' : fns.get (P.of f) = some xf := h
    rw [hfns] at h'
    exact htab _ (get_build h')
  orc := fun f args v h => by
    obtain ⟨r, hr', e1, e2, e3⟩ := orcOf_mem (show orcOf rules (P.of f) args = some v from h)
    have := hr r hr'
    rw [e1, e2, e3, P.toNat_of] at this
    exact this
def flat0 : V → Bool | .bool _ => true | .int _ _ => true | .str _ _ => true | .sym _ => true | _ => false
theorem VR.flat {σ : Sg} {ρ ρ' : Ren} : ∀ {v : V} {x : Value}, VR σ ρ v x → flat0 v = true → VR σ ρ' v x
  | _, _, .bool b, _ => .bool b
  | _, _, .int k n, _ => .int k n
  | _, _, .str s, _ => .str s
  | _, _, .sym i, _ => .sym i
  | _, _, .ptrN, h => by cases h
  | _, _, .ptr i h', h => by cases h
  | _, _, .slcN, h => by cases h
  | _, _, .slc a b c d, h => by cases h
  | _, _, .slc0 a b, h => by cases h
  | _, _, .mapN, h => by cases h
  | _, _, .map a, h => by cases h
  | _, _, .func fn a b, h => by cases h
  | _, _, .meth a b c, h => by cases h
  | _, _, .nilFunc, h => by cases h
  | _, _, .iface t a, h => by cases h
  | _, _, .nilIface, h => by cases h
  | _, _, .agg a, h => by cases h
  | _, _, .tuple a, h => by cases h
theorem VRs.flat {σ : Sg} {ρ ρ' : Ren} : ∀ {v : List V} {x : List Value}, VRs σ ρ v x → v.all flat0 = true → VRs σ ρ' v x
  | _, _, .nil, _ => .nil
  | _, _, .cons h t, k => by
    simp only [List.all_cons, Bool.and_eq_true] at k
    exact .cons (h.flat k.1) (t.flat k.2)
/-! ## The closures' table -/
def FnW (p : Program) (f : Nat) (fw : FW) : Prop := ∃ fn xf, p.funcs[f]? = some fn ∧ (fn.name == "runtime.NumGoroutine") = false ∧ cFunc p fn = some xf ∧ okF xf = true ∧ fw = trF xf
theorem fnW_of {p : Program} {f : Nat} {fn : Func} {fw : FW} (h1 : p.funcs[f]? = some fn) (h2 : (fn.name == "runtime.NumGoroutine") = false) (h3 : (cFunc p fn).map (fun x => (okF x, trF x)) = some (true, fw)) : FnW p f fw := by
  simp only [Option.map_eq_some_iff, Prod.mk.injEq] at h3
  obtain ⟨x, h4, h5, h6⟩ := h3
  exact ⟨fn, x, h1, h2, h4, h5, h6.symm⟩
def buildW : List (Nat × FW) → Tr FW
  | [] => .lf
  | (f, x) :: r => (buildW r).put (some x) (P.of f)
theorem get_buildW : ∀ {l : List (Nat × FW)} {f : P} {x : FW}, (buildW l).get f = some x → ∃ n, f = P.of n ∧ (n, x) ∈ l
  | [], f, x, h => by simp [buildW] at h
  | (g, y) :: r, f, x, h => by
    unfold buildW at h
    rw [Tr.get_put] at h
    split at h
    · rename_i e
      cases h
      exact ⟨g, e, by simp⟩
    · obtain ⟨n, h1, h2⟩ := get_buildW h
      exact ⟨n, h1, List.mem_cons_of_mem _ h2⟩
def specF (p : Program) (f : Nat) : XFn := ((p.funcs[f]?).bind (cFunc p)).getD default
def specT (p : Program) (ids : List Nat) : List (Nat × XFn) := ids.map fun f => (f, specF p f)
theorem get_spec (p : Program) : ∀ {ids : List Nat} {f : Nat}, f ∈ ids → (build (specT p ids)).get (P.of f) = some (specF p f)
  | g :: r, f, h => by
    show ((build (specT p r)).put (some (specF p g)) (P.of g)).get (P.of f) = _
    rw [Tr.get_put]
    by_cases e : f = g
    · subst e; rw [if_pos rfl]
    · rw [if_neg (fun k => e (P.of_inj k))]
      rcases List.mem_cons.1 h with h | h
      · exact absurd h e
      · exact get_spec p h
theorem specF_eq {p : Program} {f : Nat} {fw : FW} (h : FnW p f fw) : FnOk p f (specF p f) ∧ okF (specF p f) = true ∧ fw = trF (specF p f) := by
  obtain ⟨fn, xf, h1, h2, h3, h4, h5⟩ := h
  have e : specF p f = xf := by unfold specF; rw [h1]; show (cFunc p fn).getD default = xf; rw [h3]; rfl
  rw [e]
  exact ⟨⟨fn, h1, h2, h3⟩, h4, h5⟩
/-- the environment that the closures stand for -/
def specE (p : Program) (tab : List (Nat × FW)) (idles : List (P × Nat)) (rules : List Rule) : Env := { fns := build (specT p (tab.map (·.1))), orc := orcOf rules, idle := idleOf idles }
def seOf (fns : Tr FW) (idles : List (P × Nat)) (rules : List Rule) : SE := { fns := fns, orc := orcOf rules, idle := idleOf idles }
theorem specE_ok {p : Program} {σ : Sg} (hp : σ.prog = p) {tab : List (Nat × FW)} (htab : ∀ q ∈ tab, FnW p q.1 q.2) {idles : List (P × Nat)} (hid : ∀ q ∈ idles, IdleOk p q.1.toNat q.2)
    {rules : List Rule} (hr : ∀ r ∈ rules, RuleOk p σ r.p.toNat r.args r.v) : EnvOk p σ (specE p tab idles rules) :=
  envOk hp (tab := specT p (tab.map (fun q : Nat × FW => q.1))) rfl (fun q hq => by
    obtain ⟨f, hf, rfl⟩ := List.mem_map.1 hq
    obtain ⟨x, hx, rfl⟩ := List.mem_map.1 hf
    exact (specF_eq (htab x hx)).1) hid hr
theorem seOk {p : Program} {tab : List (Nat × FW)} {fns : Tr FW} (hfns : fns = buildW tab) (htab : ∀ q ∈ tab, FnW p q.1 q.2) {idles : List (P × Nat)} {rules : List Rule} : SeOk (specE p tab idles rules) (seOf fns idles rules) where
  fns := fun f fw h => by
    have h' : fns.get f = some fw := h
    rw [hfns] at h'
    obtain ⟨n, rfl, hm⟩ := get_buildW h'
    obtain ⟨-, h4, h5⟩ := specF_eq (htab _ hm)
    exact ⟨specF p n, get_spec p (List.mem_map.2 ⟨_, hm, rfl⟩), h4, h5⟩
  orc := fun _ _ => rfl
  idle := fun _ _ => rfl
/-- a run that answers true is a contract -/
theorem rule_bool {p : Program} {σ : Sg} {E : Env} {S : SE} (hm : p.follows .mixedOrders = true) (hs : SgOk σ) (hE : EnvOk p σ E) (hS : SeOk E S) {f : Nat} {args : List V} {n : Nat} (hflat : args.all flat0 = true)
    (h : answer S n (P.of f) args = true) : RuleOk p σ f args (.bool true) := by
  obtain ⟨m, H', e⟩ := answer_spec hS h
  have hb : HasBody p f := by
    unfold callX at e
    split at e
    · rename_i u hu; exact (hE.orc f args u hu).1
    · split at e
      · cases e
      · rename_i xf hxf
        obtain ⟨fn, h1, h2, h3⟩ := hE.fns f xf hxf
        simp only [cFunc, Option.bind_eq_bind, Option.bind_eq_some_iff] at h3
        obtain ⟨b, hb, -⟩ := h3
        exact ⟨fn, h1, h2, by rw [hb]; rfl⟩
  have e' : callX E (exec E m) (P.of f) args ⟨.lf, .h⟩ = some (.bool true, H') := e
  refine ⟨hb, fun w ρ rargs ha => ?_⟩
  refine (bool_of_exec hm hs hE e' (ha.flat hflat) w).mono ?_
  rintro e w' ⟨rfl, hb⟩
  exact ⟨_, rfl, .bool true, hb⟩
end
end Go.Proofs.YtafignheedbnbaaGreatDoor.X
