/- A verified executor of the program's code, part XSound; no condition. -/
import Derived.Test.YtafignheedbnbaaGreatDoorXOps
import Derived.LoopN
import Derived.Scope
import Derived.Defers
namespace Go.Proofs.YtafignheedbnbaaGreatDoor.X
open Go
set_option linter.unusedVariables false
set_option linter.unusedSimpArgs false

def XE.toExit : XE → Exit | .nrm => .normal | .exit id => .exit id | .ret => .ret
/-- a deferred call that does nothing where nothing panics -/
def IdleD (p : Program) (d : Deferred) : Prop := ∃ fv cap f args, d.target = .fn fv cap ∧ (∀ w, (invoke d.target d.args).run p w = .ok (.enter f args) w) ∧
  ∀ w, CallsD p f args .returning w fun e u w' => (∃ v, e = .returned v) ∧ u = .returning ∧ Go.RowKit.Below w.heap.size w w'
def DfOk (p : Program) (l : List Deferred) : Prop := ∀ d ∈ l, IdleD p d
/-- what a run leaves -/
def Post (p : Program) (σ : Sg) (ρ : Ren) (H : Hp) (w : World) (nt : Nat) (ex : XE) (F' : Fr) (H' : Hp) (e : Exit) (a' : Act) (w' : World) : Prop :=
  e = ex.toExit ∧ ∃ ρ', FR σ ρ' F' a' ∧ nt ≤ a'.tmps.size ∧ DfOk p a'.defers ∧ HR σ ρ' H' w' ∧ Stp ρ H w ρ' H' w'
theorem Post.trans {p : Program} {σ : Sg} {ρ ρ1 : Ren} {H H1 H' : Hp} {w w1 : World} {nt : Nat} {ex : XE} {F' : Fr} {e : Exit} {a' : Act} {w' : World} (h : Stp ρ H w ρ1 H1 w1) (k : Post p σ ρ1 H1 w1 nt ex F' H' e a' w') : Post p σ ρ H w nt ex F' H' e a' w' := by
  obtain ⟨h1, ρ', h2, h3, h4, h5, h6⟩ := k
  exact ⟨h1, ρ', h2, h3, h4, h5, h.trans h6⟩
/-- what a call leaves -/
def Ret (σ : Sg) (ρ : Ren) (H : Hp) (w : World) (v : V) (H' : Hp) (e : Ending) (w' : World) : Prop :=
  ∃ x ρ', e = .returned x ∧ VR σ ρ' v x ∧ HR σ ρ' H' w' ∧ Stp ρ H w ρ' H' w'
structure EnvOk (p : Program) (σ : Sg) (E : Env) : Prop where
  prog : σ.prog = p
  idle : ∀ f k, E.idle (P.of f) k = true → (∃ fn, p.funcs[f]? = some fn ∧ (fn.name == "runtime.NumGoroutine") = false ∧ fn.body.isNone = false) ∧
    ∀ (w : World) (rargs : List Value), rargs.length = k → CallsD p f ⟨rargs⟩ .returning w fun e u w' => (∃ v, e = .returned v) ∧ u = .returning ∧ Go.RowKit.Below w.heap.size w w'
  fns : ∀ f xf, E.fns.get (P.of f) = some xf → ∃ fn, p.funcs[f]? = some fn ∧ (fn.name == "runtime.NumGoroutine") = false ∧ cFunc p fn = some xf
  orc : ∀ f args v, E.orc (P.of f) args = some v → (∃ fn, p.funcs[f]? = some fn ∧ (fn.name == "runtime.NumGoroutine") = false ∧ fn.body.isNone = false) ∧
    ∀ (w : World) (ρ : Ren) (rargs : List Value), VRs σ ρ args rargs → Calls p f ⟨rargs⟩ w fun e w' => ∃ x, e = .returned x ∧ VR σ ρ v x ∧ Go.RowKit.Below w.heap.size w w'
section
variable {p : Program} {σ : Sg} {E : Env}
def CodeOk (p : Program) (σ : Sg) (run : Run) : Prop := ∀ (nt : Nat) (c : Code) (F : Fr) (H : Hp) (ex : XE) (F' : Fr) (H' : Hp) (ρ : Ren) (a : Act) (w : World), run (cCode p nt c) F H = some (ex, F', H') →
  FR σ ρ F a → nt ≤ a.tmps.size → DfOk p a.defers → HR σ ρ H w → c.wp p (Post p σ ρ H w nt ex F' H') a w
def LoopOk (p : Program) (σ : Sg) (n : Nat) (run : Run) : Prop := ∀ (nt : Nat) (c : Code) (F : Fr) (H : Hp) (ex : XE) (F' : Fr) (H' : Hp) (ρ : Ren) (a : Act) (w : World), run (.loop (cCode p nt c)) F H = some (ex, F', H') →
  FR σ ρ F a → nt ≤ a.tmps.size → DfOk p a.defers → HR σ ρ H w → Code.rounds p c (Post p σ ρ H w nt ex F' H') n a w
structure RunOk (p : Program) (σ : Sg) (n : Nat) (run : Run) : Prop where
  code : CodeOk p σ run
  loop : LoopOk p σ n run

theorem rounds_mono {c : Code} {Q Q' : Exit → Act → World → Prop} (h : ∀ e a w, Q e a w → Q' e a w) : ∀ (n : Nat) (a : Act) (w : World), Code.rounds p c Q n a w → Code.rounds p c Q' n a w
  | 0, _, _, k => k
  | n + 1, a, w, k => wp_mono k fun e a' w' q => by
    cases e with
    | normal => exact rounds_mono h n a' w' q
    | exit id => exact h _ _ _ q
    | goto l => exact h _ _ _ q
    | ret => exact h _ _ _ q
    | panic ch => exact h _ _ _ q
    | outgrown => exact h _ _ _ q
theorem FR.put {ρ : Ren} {F : Fr} {a : Act} {v : V} {x : Value} {dst : Option Tmp} {nt : Nat} (hF : FR σ ρ F a) (hv : VR σ ρ v x) (hn : nt ≤ a.tmps.size) (hd : ∀ d, dst = some d → d < nt) : FR σ ρ (putD F (dst.map P.of) v) (a.put dst x) := by
  cases dst with
  | none => exact hF
  | some d =>
    have hlt : d < a.tmps.size := Nat.lt_of_lt_of_le (hd d rfl) hn
    intro t
    simp only [Option.map_some, putD, Act.put]
    rw [Tr.get_put]
    by_cases e : t = d
    · subst e; rw [if_pos rfl]; simpa [hlt] using hv
    · rw [if_neg (fun h => e (P.of_inj h))]
      have : ((a.tmps.setIfInBounds d x).getD t undef) = a.tmps.getD t undef := by
        simp [Array.getElem?_setIfInBounds_ne (fun h => e h.symm)]
      rw [this]; exact hF t
theorem put_size {a : Act} {dst : Option Tmp} {x : Value} : (a.put dst x).tmps.size = a.tmps.size := by cases dst <;> simp [Act.put]
theorem put_defers {a : Act} {dst : Option Tmp} {x : Value} : (a.put dst x).defers = a.defers := by cases dst <;> rfl
theorem cOper_bad {nt : Nat} {ops : Array Oper} {o : Oper} {why : String} (h : (cOper p nt ops o).op = .bad why) : (cOper p nt ops o).g = none := by
  unfold cOper at h ⊢
  split at h
  · rename_i g x hg hx
    split at h
    · exfalso
      simp only at h
      subst h
      unfold cOp at hx
      split at hx
      · split at hx
        · rw [Option.filter_eq_some_iff] at hx; simp [XO.plain] at hx
        · unfold cCall at hx
          split at hx
          · split at hx
            · split at hx
              · cases hx
              · simp at hx
            · cases hx
          · split at hx
            · simp at hx
            · cases hx
          · split at hx
            · simp at hx
            · cases hx
          · cases hx
      · unfold cDefer at hx
        split at hx
        · split at hx
          · simp at hx
          · cases hx
        · cases hx
      · rw [Option.filter_eq_some_iff] at hx; simp [XO.plain] at hx
    · rename_i hd
      rw [if_neg hd]
  · rfl
/-- the operation that stands behind a compiled one -/
theorem cOper_spec {nt : Nat} {ops : Array Oper} {o : Oper} (h : ∀ why, (cOper p nt ops o).op ≠ .bad why) : cOp p o = some (cOper p nt ops o).op ∧ (∀ d, o.dst = some d → d < nt) ∧ (cOper p nt ops o).dst = o.dst.map P.of ∧ gOf ops o = some (cOper p nt ops o).g := by
  unfold cOper at h ⊢
  split at h
  · rename_i g x hg hx
    rw [hg, hx]
    split at h
    · rename_i hd
      rw [if_pos hd]
      refine ⟨rfl, fun d hd' => ?_, rfl, rfl⟩
      unfold dOk at hd
      rw [hd'] at hd
      simpa using hd
    · exact absurd rfl (h _)
  · exact absurd rfl (h _)
theorem bool_sym {ρ : Ren} {v : V} {c : Bool} (h : VR σ ρ v (.bool c)) : v = .bool c ∨ ∃ i, v = .sym i := by
  generalize hy : Value.bool c = y at h
  cases h <;> first | (cases hy; done) | skip
  · cases hy; exact .inl rfl
  · exact .inr ⟨_, rfl⟩
theorem want_sound {ρ : Ren} {F : Fr} {a : Act} {ops : Array Oper} {o : Oper} {g : Option (P × Bool)} {r : Bool} (hF : FR σ ρ F a) (hg : gOf ops o = some g) (h : want F g = some r) : Region.wanted o (yielded ops a.tmps) = r := by
  unfold gOf at hg
  split at hg
  · rename_i h1
    simp at hg; subst hg
    simp [want] at h; subst h
    simp [Region.wanted, h1]
  · rename_i j b h1
    split at hg
    · rename_i d h2
      simp at hg; subst hg
      have hv := hF d
      simp only [Region.wanted, h1, yielded, h2, Option.bind_some]
      simp only [want] at h
      split at h
      · rename_i x hx
        simp at h; subst h
        rw [hx] at hv
        simp only [Option.getD_some] at hv
        have := hv.bool_inv
        have ht : a.tmps[d]? = some (.bool x) := by
          cases he : a.tmps[d]? with
          | none => simp [he, undef] at this
          | some y => simp [he] at this; rw [this]
        rw [ht]
        cases x <;> cases b <;> rfl
      · cases h
      · rename_i hn1 hn2
        simp at h; subst h
        cases he : a.tmps[d]? with
        | none => rfl
        | some y =>
          have hy : a.tmps.getD d undef = y := by simp [he]
          rw [hy] at hv
          cases y with
          | bool c =>
            exfalso
            rcases bool_sym hv with e | ⟨i, e⟩
            · cases hF' : F.get (P.of d) with
              | none => rw [hF'] at e; simp [V.undef] at e
              | some u => rw [hF'] at e; simp only [Option.getD_some] at e; subst e; exact hn1 _ hF'
            · cases hF' : F.get (P.of d) with
              | none => rw [hF'] at e; simp [V.undef] at e
              | some u => rw [hF'] at e; simp only [Option.getD_some] at e; subst e; exact hn2 _ hF'
          | _ => rfl
    · cases hg
/-- a call of an operation -/
def CallOk (p : Program) (σ : Sg) (E : Env) (run : Run) : Prop := EnvOk p σ E ∧ ∀ (f : FuncId) (args : List V) (H : Hp) (v : V) (H' : Hp) (ρ : Ren) (w : World) (rargs : List Value), callX E run (P.of f) args H = some (v, H') → VRs σ ρ args rargs → HR σ ρ H w →
  (∃ fn, p.funcs[f]? = some fn ∧ (fn.name == "runtime.NumGoroutine") = false ∧ fn.body.isNone = false) ∧ Calls p f ⟨rargs⟩ w (Ret σ ρ H w v H')
theorem frameOf_get : ∀ (l : List V) (k : Nat) (t : Fr) (j : Nat), (frameOf l (P.of k) t).get (P.of j) = if k ≤ j ∧ j < k + l.length then l[j - k]? else t.get (P.of j)
  | [], k, t, j => by rw [if_neg (by simp)]; rfl
  | v :: r, k, t, j => by
    have hs : (P.of k).succ = P.of (k + 1) := P.toNat_inj (by rw [P.toNat_succ, P.toNat_of, P.toNat_of])
    rw [show frameOf (v :: r) (P.of k) t = frameOf r (P.of k).succ (t.put (some v) (P.of k)) from rfl, hs, frameOf_get r (k + 1), Tr.get_put]
    by_cases h1 : k + 1 ≤ j ∧ j < k + 1 + r.length
    · rw [if_pos h1, if_pos (by simp; omega), show j - k = (j - (k + 1)) + 1 from by omega]; rfl
    · rw [if_neg h1]
      by_cases h2 : j = k
      · subst h2; rw [if_pos rfl, if_pos (by simp)]; simp
      · rw [if_neg (fun e => h2 (P.of_inj e)), if_neg (by simp; omega)]
theorem frame_start {ρ : Ren} {args : List V} {rargs : List Value} {n : Nat} (h : VRs σ ρ args rargs) : FR σ ρ (frameOf args .h .lf) ⟨(⟨rargs⟩ : Array Value) ++ Array.replicate n undef, []⟩ := by
  intro t
  have h0 : (P.h : P) = P.of 0 := rfl
  rw [h0, frameOf_get]
  have hl := h.length
  by_cases c : t < args.length
  · rw [if_pos (by omega)]
    simp only [Nat.sub_zero]
    obtain ⟨y, hy, hr⟩ := h.get (List.getElem?_eq_getElem c)
    have hy' := (List.getElem?_eq_some_iff.1 hy)
    rw [List.getElem?_eq_getElem c]
    have : ((⟨rargs⟩ : Array Value) ++ Array.replicate n undef).getD t undef = y := by
      obtain ⟨ht, he⟩ := hy'
      simp [Array.getElem?_append, ht, he]
    rw [this]; exact hr
  · rw [if_neg (by omega)]
    simp only [Tr.get_lf, Option.getD_none]
    have : ((⟨rargs⟩ : Array Value) ++ Array.replicate n undef).getD t undef = undef := by
      have ht : ¬ t < rargs.length := by omega
      simp [Array.getElem?_append, ht]
      by_cases h2 : t - rargs.length < n
      · simp [Array.getElem?_replicate, h2]
      · simp [Array.getElem?_replicate, h2]
    rw [this]; exact .undef σ ρ
theorem resOf_sound {ρ : Ren} {F : Fr} {a : Act} {H : Hp} {w : World} (hF : FR σ ρ F a) (hH : HR σ ρ H w) {r : ResultVar} {x : XR} {v : V} (hc : cRes p r = some x) (h : resOf F H x = some v) :
    ∃ y, ((match r with | .tmp t => pure (a.tmps.getD t undef) | .cell t ty => do loadVar ty (← asAddr (a.tmps.getD t undef))) : Sem Value).run p w = .ok y w ∧ VR σ ρ v y := by
  cases r with
  | tmp t =>
    simp [cRes] at hc; subst hc
    simp [resOf] at h; subst h
    exact ⟨_, by simp, hF t⟩
  | cell t ty =>
    simp only [cRes] at hc
    have hv := hF t
    split at hc
    · rename_i hg
      simp only [Option.map_eq_some_iff] at hc
      obtain ⟨n, hn, rfl⟩ := hc
      simp only [resOf] at h
      split at h
      · rename_i b i e
        rw [e] at hv
        obtain ⟨rb, hb, hax⟩ := hv.ptr_inv
        split at h
        · rename_i l hl
          simp at h; subst h
          obtain ⟨xs, g1, g2, g3⟩ := hH.loadn hl hb
          refine ⟨.agg ⟨xs⟩, ?_, .agg g1⟩
          simp only [hax]
          simpa [asAddr] using run_loadVarN hg hn g2 g3
        · cases h
      · cases h
    · rename_i hg
      simp at hc; subst hc
      simp only [resOf] at h
      split at h
      · rename_i b i e
        rw [e] at hv
        obtain ⟨rb, hb, hax⟩ := hv.ptr_inv
        obtain ⟨y, g1, g2⟩ := hH.load h hb
        refine ⟨y, ?_, g2⟩
        simp only [hax]
        simpa [asAddr] using run_loadVar1 hg g1
      · cases h
    · cases hc
theorem resAll_sound {ρ : Ren} {F : Fr} {a : Act} {H : Hp} {w : World} (hF : FR σ ρ F a) (hH : HR σ ρ H w) : ∀ {rs : List ResultVar} {xs : List XR} {l : List V}, rs.mapM (cRes p) = some xs → resAll F H xs = some l →
    ∃ ys, (rs.mapM (fun r => ((match r with | .tmp t => pure (a.tmps.getD t undef) | .cell t ty => do loadVar ty (← asAddr (a.tmps.getD t undef))) : Sem Value))).run p w = .ok ys w ∧ VRs σ ρ l ys
  | [], xs, l, hc, h => by
    simp at hc; subst hc
    simp [resAll] at h; subst h
    exact ⟨[], by simp, .nil⟩
  | r :: rs, xs, l, hc, h => by
    simp only [List.mapM_cons, Option.bind_eq_bind, Option.bind_eq_some_iff, Option.pure_def, Option.some.injEq] at hc
    obtain ⟨x, hx, xs', hxs, rfl⟩ := hc
    unfold resAll at h
    split at h
    · cases h
    · rename_i v hv
      split at h
      · cases h
      · rename_i l' hl'
        simp at h; subst h
        obtain ⟨y, g1, g2⟩ := resOf_sound (p := p) hF hH hx hv
        obtain ⟨ys, g3, g4⟩ := resAll_sound hF hH hxs hl'
        refine ⟨y :: ys, ?_, .cons g2 g4⟩
        rw [List.mapM_cons]
        simp only [Sem.run_bind, g1, g3, Result.andThen_ok, Sem.run_pure]
theorem results_sound {ρ : Ren} {F : Fr} {a : Act} {H : Hp} {w : World} {fn : Func} (hF : FR σ ρ F a) (hH : HR σ ρ H w) {xs : List XR} {l : List V} (hc : fn.results.toList.mapM (cRes p) = some xs) (h : resAll F H xs = some l) :
    ∃ y, (results fn a.tmps).run p w = .ok y w ∧ VR σ ρ (resV l) y := by
  obtain ⟨ys, g1, g2⟩ := resAll_sound hF hH hc h
  have hl := g2.length
  have hr : (results fn a.tmps).run p w = .ok (if h : (⟨ys⟩ : Array Value).size = 1 then (⟨ys⟩ : Array Value)[0] else .tuple ⟨ys⟩) w := by
    unfold results
    rw [Array.mapM_eq_mapM_toList]
    simp only [Sem.run_bind, Sem.run_map, g1, Result.andThen_ok]
    exact congrArg (fun r : Result (List Value) => (r.andThen fun a w' => Result.ok a.toArray w').andThen fun (a : Array Value) w' => Sem.run p (pure (if h : a.size = 1 then a[0] else Value.tuple a)) w') g1
  refine ⟨_, hr, ?_⟩
  cases g2 with
  | nil => exact .tuple .nil
  | cons h1 h2 =>
    cases h2 with
    | nil => exact h1
    | cons h3 h4 => exact .tuple (.cons h1 (.cons h3 h4))
theorem callFunc_run {f : FuncId} {fn : Func} {args : Array Value} {w : World} (hf : p.funcs[f]? = some fn) (hn : (fn.name == "runtime.NumGoroutine") = false) (hb : fn.body.isNone = false) : (callFunc f args).run p w = .ok (.enter f args) w := by
  simp [callFunc, Sem.run_bind, hf, hn, hb]
  have : ¬ (fn.name = "runtime.NumGoroutine") := by simpa using hn
  have h2 : fn.body ≠ none := by intro e; rw [e] at hb; simp at hb
  simp [this, h2]
theorem HR.below {ρ : Ren} {H : Hp} {w w' : World} (hH : HR σ ρ H w) (hb : Go.RowKit.Below w.heap.size w w') : HR σ ρ H w' ∧ Stp ρ H w ρ H w' := by
  have hblk : ∀ q y, H.get q = some y → ∀ b, ρ q = some b → w'.heap[b.r]? = w.heap[b.r]? := fun q y hq b hb' => by
    obtain ⟨b2, hb2, hr⟩ := hH.blk q y hq
    rw [hb'] at hb2; cases hb2
    exact hb.block _ hr.lt
  refine ⟨⟨hH.inj, fun q y hq => ?_, hH.fresh⟩, ⟨hb.os, hb.tape, hb.output, hb.size, .refl _, Nat.le_refl _, fun _ _ h => .inl h, fun q y b hq hb' => .inr ⟨q, y, b, hq, hb', rfl⟩, fun r hr _ => hb.block r hr⟩⟩
  obtain ⟨b, hb', hr⟩ := hH.blk q y hq
  exact ⟨b, hb', hr.mono (.refl _) (hblk q y hq b hb')⟩
theorem leaves_idle {fn : Func} {tmps : Array Value} {ρ : Ren} {H : Hp} {R : Ending → World → Prop} : ∀ (l : List Deferred) (w : World), DfOk p l → HR σ ρ H w →
    (∀ w', HR σ ρ H w' → Stp ρ H w ρ H w' → ∃ v, (results fn tmps).run p w' = .ok v w' ∧ R (.returned v) w') → Leaves p fn tmps R l .returning w
  | [], w, _, hH, h => h w hH (.refl _ _ _)
  | d :: ds, w, hd, hH, h => by
    obtain ⟨fv, cap, f, args, h1, h2, h3⟩ := hd d (by simp)
    refine ⟨by simp, fv, cap, f, args, h1, h2 w, (h3 w).mono ?_⟩
    rintro e u w' ⟨⟨v, rfl⟩, rfl, hb⟩
    obtain ⟨g1, g2⟩ := hH.below hb
    exact leaves_idle ds w' (fun d' hd' => hd d' (List.mem_cons_of_mem _ hd')) g1 fun w2 k1 k2 => h w2 k1 (g2.trans k2)
theorem func_parts {f : FuncId} {first cap : List V} {ax : Value} {ρ : Ren} (h : VR σ ρ (.func (.func f) first cap) ax) : (∃ a, VRs σ ρ first a) ∧ ∃ b, VRs σ ρ cap b := by
  cases h with
  | func _ h1 h2 => exact ⟨⟨_, h1⟩, _, h2⟩
  | meth hm hy h => exact ⟨⟨_, .cons h .nil⟩, _, .nil⟩
/-- what a function value comes to -/
theorem invoke_func {f0 : FuncId} {first cap args : List V} {ax : Value} {rargs : List Value} {ρ : Ren} (hp : σ.prog = p) (hv : VR σ ρ (.func (.func f0) first cap) ax) (ha : VRs σ ρ args rargs)
    (hf : ∃ fn, p.funcs[f0]? = some fn ∧ (fn.name == "runtime.NumGoroutine") = false ∧ fn.body.isNone = false) :
    ∃ (d : Deferred) (fv : Fn) (rc : Array Value) (rl : List Value), Deferred.ofValue ax ⟨rargs⟩ = pure d ∧ d.target = .fn fv rc ∧ VRs σ ρ (first ++ args ++ cap) rl ∧ ∀ w, (invoke d.target d.args).run p w = .ok (.enter f0 ⟨rl⟩) w := by
  obtain ⟨fn, q1, q2, q3⟩ := hf
  cases hv with
  | func _ h1 h2 =>
    rename_i rf rc
    refine ⟨_, _, _, rf ++ rargs ++ rc, rfl, rfl, (h1.append ha).append h2, fun w => ?_⟩
    simp [invoke, Sem.run_bind, callFunc_run q1 q2 q3]
  | meth hm hy h =>
    rename_i nm t n v x y
    refine ⟨_, _, _, x :: (rargs ++ []), rfl, rfl, .cons h (ha.append .nil), fun w => ?_⟩
    subst hp
    have h0 : 1 ≤ Made.depth := by decide
    have h1 : σ.prog.types.size + Made.depth = (σ.prog.types.size + (Made.depth - 1)) + 1 := by omega
    have hr := run_method (w := w) hm hy (σ.prog.types.size + (Made.depth - 1))
    rw [← h1] at hr
    have e1 : (⟨[Value.iface t y]⟩ ++ ⟨rargs⟩ : Array Value)[0]? = some (.iface t y) := by simp
    have e2 : (#[x] ++ (⟨[Value.iface t y]⟩ ++ ⟨rargs⟩ : Array Value).extract 1 (⟨[Value.iface t y]⟩ ++ ⟨rargs⟩ : Array Value).size) = ⟨x :: (rargs ++ [])⟩ := by apply Array.ext'; simp
    have hprog : (program).run σ.prog w = .ok σ.prog w := rfl
    simp only [invoke, e1, callMethod, Sem.run_bind, hprog, Result.andThen_ok, hr, List.size_toArray, e2, callFunc_run q1 q2 q3]
theorem callX_sound {n : Nat} {run : Run} (hE : EnvOk p σ E) (hR : RunOk p σ n run) : CallOk p σ E run := by
  refine ⟨hE, ?_⟩
  intro f args H v H' ρ w rargs h ha hH
  unfold callX at h
  split at h
  · rename_i u hu
    simp at h; obtain ⟨rfl, rfl⟩ := h
    obtain ⟨g1, g2⟩ := hE.orc f args u hu
    refine ⟨g1, (g2 w ρ rargs ha).mono ?_⟩
    rintro e w' ⟨x, rfl, hv, hb⟩
    obtain ⟨k1, k2⟩ := hH.below hb
    exact ⟨x, ρ, rfl, hv, k1, k2⟩
  · split at h
    · cases h
    · rename_i xf hxf
      obtain ⟨fn, hf, hname, hcf⟩ := hE.fns f xf hxf
      simp only [cFunc, Option.bind_eq_bind, Option.bind_eq_some_iff, Option.pure_def, Option.some.injEq] at hcf
      obtain ⟨b, hb, rs, hrs, rfl⟩ := hcf
      refine ⟨⟨fn, hf, hname, by rw [hb]; rfl⟩, ?_⟩
      have key : ∀ (ex : XE) (F' : Fr) (H1 : Hp) (l : List V), run (cCode p fn.ntmps b) (frameOf args .h .lf) H = some (ex, F', H1) → (∀ id, ex ≠ .exit id) → resAll F' H1 rs = some l → Calls p f ⟨rargs⟩ w (Ret σ ρ H w (resV l) H1) := by
        intro ex F' H1 l hrun hex hl
        refine calls_of_wp_defers hf hb ?_
        refine wp_mono (hR.code fn.ntmps b _ H ex F' H1 ρ _ w hrun (frame_start ha) (by simp; omega) (fun d hd => by simp at hd) hH) ?_
        rintro e a' w' ⟨rfl, ρ', h1, h2, h3, h4, h5⟩
        have fin : Leaves p fn a'.tmps (Ret σ ρ H w (resV l) H1) a'.defers .returning w' := leaves_idle a'.defers w' h3 h4 fun w2 k1 k2 => by
          obtain ⟨y, hy, hv⟩ := results_sound (p := p) h1 k1 hrs hl
          exact ⟨y, hy, y, ρ', rfl, hv, k1, h5.trans k2⟩
        cases ex with
        | nrm => exact fin
        | ret => exact fin
        | exit id => exact absurd rfl (hex id)
      split at h
      · cases h
      · rename_i ex F' H1 hne hrun
        split at h
        · rename_i l hl
          simp at h; obtain ⟨rfl, rfl⟩ := h
          exact key ex F' H1 l hrun (fun id e => by subst e; simp at hne) hl
        · cases h
      · cases h
/-- an operation, calls too -/
theorem opX_sound {run : Run} {nt : Nat} {ops : Array Oper} {o : Oper} {F : Fr} {H : Hp} {v : V} {H' : Hp} {ρ : Ren} {a : Act} {w : World} (hs : SgOk σ) (hC : CallOk p σ E run) (hc : cOp p o = some (cOper p nt ops o).op) (h : opX E run (cOper p nt ops o).op F H = some (v, H'))
    (hF : FR σ ρ F a) (hH : HR σ ρ H w) {a0 : Act} (he : execOp a0.eval o = execOp a.eval o) (hD : DfOk p a0.defers) {K : Act → World → Prop} {Q : Exit → Act → World → Prop} (hK1 : ∀ x w' ρ' (a1 : Act), VR σ ρ' v x → HR σ ρ' H' w' → Stp ρ H w ρ' H' w' → a1.tmps = a0.tmps → DfOk p a1.defers → K (a1.put o.dst x) w') : o.wp p a0 w K Q := by
  have hE := hC.1
  have hp := hE.prog
  have hK : ∀ x w' ρ', VR σ ρ' v x → HR σ ρ' H' w' → Stp ρ H w ρ' H' w' → K (a0.put o.dst x) w' := fun x w' ρ' h1 h2 h3 => hK1 x w' ρ' a0 h1 h2 h3 rfl hD
  generalize (cOper p nt ops o).op = xo at hc h
  have plain : cPlain p o = some xo → doX xo F H = some (v, H') → o.wp p a0 w K Q := fun hc hd => by
    obtain ⟨x, w', ρ', hr, hv, hH', hS⟩ := doX_sound hs hp hc hF hH hd
    unfold Oper.wp; rw [he]
    rcases hr with hr | ⟨hr, rfl⟩
    · rw [hr]; exact hK x w' ρ' hv hH' hS
    · rw [hr]; exact hK _ w' ρ' hv hH' hS
  have ret : ∀ f args rargs w, callX E run (P.of f) args H = some (v, H') → VRs σ ρ args rargs → HR σ ρ H w → (∀ x w' ρ', VR σ ρ' v x → HR σ ρ' H' w' → Stp ρ H w ρ' H' w' → K (a0.put o.dst x) w') →
      (∃ fn, p.funcs[f]? = some fn ∧ (fn.name == "runtime.NumGoroutine") = false ∧ fn.body.isNone = false) ∧ o.upon p a0 K Q (.ok (.enter f ⟨rargs⟩) w) := by
    intro f args rargs w hcx ha hH hK
    obtain ⟨g1, g2⟩ := hC.2 f args H v H' ρ w rargs hcx ha hH
    refine ⟨g1, ?_⟩
    rw [Oper.upon_enter]
    refine g2.mono ?_
    rintro e w' ⟨x, ρ', rfl, hv, hH', hS⟩
    exact hK x w' ρ' hv hH' hS
  have hcase : (∃ c, o.op = .call c ∧ isBuiltin c = false ∧ cCall p c = some xo) ∨ (∃ c, o.op = .defer c ∧ cDefer p c = some xo) ∨ (cPlain p o = some xo ∧ xo.plain = true) := by
    unfold cOp at hc
    split at hc
    · rename_i c ho
      split at hc
      · rw [Option.filter_eq_some_iff] at hc
        exact .inr (.inr hc)
      · rename_i hb
        exact .inl ⟨c, ho, by simpa using hb, hc⟩
    · rename_i c ho
      exact .inr (.inl ⟨c, ho, hc⟩)
    · rw [Option.filter_eq_some_iff] at hc
      exact .inr (.inr hc)
  rcases hcase with ⟨c, ho, hb, hcc⟩ | ⟨c, ho, hcc⟩ | ⟨hp, hpl⟩
  · have e2 : c.args.map a.eval = ⟨c.args.toList.map a.eval⟩ := by apply Array.ext'; simp
    unfold cCall at hcc
    split at hcc
    · rename_i f' e
      split at hcc
      · rename_i fn hfn
        split at hcc
        · cases hcc
        · simp only [Option.map_eq_some_iff] at hcc
          obtain ⟨l, hl, rfl⟩ := hcc
          simp only [opX] at h
          obtain ⟨⟨fn', q1, q2, q3⟩, q4⟩ := ret f' _ _ w h (cOpds_sound hF hl) hH hK
          unfold Oper.wp; rw [he]
          have hr : (execOp a.eval o).run p w = .ok (.enter f' ⟨c.args.toList.map a.eval⟩) w := by
            simp only [execOp, ho, resolve, e, e2]
            simp [Act.eval, Deferred.ofValue, invoke, Sem.run_bind, callFunc_run q1 q2 q3]
          rw [hr]; exact q4
      · cases hcc
    · rename_i fo hno e
      split at hcc
      · rename_i x l hx hl
        simp at hcc; subst hcc
        simp only [opX] at h
        split at h
        · rename_i f args hfa
          unfold fnArgs at hfa
          split at hfa
          · rename_i args0 f0 first cap e3
            simp at hfa; obtain ⟨rfl, rfl⟩ := hfa
            have hv := cOpd_sound hF hx
            rw [e3] at hv
            have hargs := cOpds_sound hF hl
            obtain ⟨⟨pa, hpa⟩, pb, hpb⟩ := func_parts hv
            obtain ⟨q4, -⟩ := hC.2 f0 _ H v H' ρ w _ h (by simpa using (hpa.append (hargs.append hpb))) hH
            obtain ⟨d, fv, rc, rl, k1, k2, k3, k4⟩ := invoke_func hp hv hargs q4
            obtain ⟨-, q5⟩ := ret f0 _ rl w h (by rw [← List.append_assoc]; exact k3) hH hK
            unfold Oper.wp; rw [he]
            have hr : (execOp a.eval o).run p w = .ok (.enter f0 ⟨rl⟩) w := by
              have := k4 w
              simp only [execOp, ho, resolve, e, e2, k1, Sem.run_bind, Sem.run_pure, Result.andThen_ok]
              exact this
            rw [hr]; exact q5
          · cases hfa
        · cases h
      · cases hcc
    · rename_i r nm e
      split at hcc
      · rename_i x l hx hl
        simp at hcc; subst hcc
        simp only [opX] at h
        split at h
        · rename_i t v00 e3
          split at h
          · rename_i f0 n0 hf0
            split at h
            case h_2 => cases h
            rename_i v0 hrv
            have hv := cOpd_sound hF hx
            rw [e3] at hv
            have hargs := cOpds_sound hF hl
            generalize hax : a.eval r = ax at hv
            cases hv with
            | iface _ h00 =>
              rename_i rx
              obtain ⟨x3, hr3, h1⟩ := recv_sound h00 hrv
              have hm : VR σ ρ (.func (.func f0) [v0] []) (.func (.method nm) ⟨[.iface t rx]⟩ ⟨[]⟩) := .meth (hp ▸ fitsOf_sound hf0) hr3 h1
              obtain ⟨q4, -⟩ := hC.2 f0 _ H v H' ρ w _ h (.cons h1 hargs) hH
              obtain ⟨d, fv, rc, rl, k1, k2, k3, k4⟩ := invoke_func hp hm hargs q4
              obtain ⟨-, q5⟩ := ret f0 _ rl w h (by simpa using k3) hH hK
              unfold Oper.wp; rw [he]
              have hr : (execOp a.eval o).run p w = .ok (.enter f0 ⟨rl⟩) w := by
                have h5 := k4 w
                have k5 := congrArg (fun s : Sem Deferred => s.run p w) k1
                simp only [Deferred.ofValue, Sem.run_pure, Result.ok.injEq, and_true] at k5
                simp only [execOp, ho, resolve, e, e2, hax, Sem.run_bind, Sem.run_pure, Result.andThen_ok]
                subst k5
                exact h5
              rw [hr]; exact q5
          · cases h
        · cases h
      · cases hcc
    · cases hcc
  · have e2 : c.args.map a.eval = ⟨c.args.toList.map a.eval⟩ := by apply Array.ext'; simp
    unfold cDefer at hcc
    split at hcc
    · rename_i fo e
      split at hcc
      · rename_i x l hx hl
        simp at hcc; subst hcc
        simp only [opX] at h
        split at h
        · rename_i g args hfa
          unfold fnArgs at hfa
          split at hfa
          · rename_i args0 f0 first cap e3
            simp at hfa; obtain ⟨rfl, rfl⟩ := hfa
            obtain ⟨hid, h⟩ := bif_some h
            simp at h; obtain ⟨rfl, rfl⟩ := h
            obtain ⟨q1, q2⟩ := hE.idle f0 _ hid
            have hv := cOpd_sound hF hx
            rw [e3] at hv
            obtain ⟨d, fv, rc, rl, k1, k2, k3, k4⟩ := invoke_func hp hv (cOpds_sound hF hl) q1
            unfold Oper.wp; rw [he]
            have hr : (execOp a.eval o).run p w = .ok (.defer d) w := by
              simp only [execOp, ho, resolve, e, e2, k1, Sem.run_bind, Sem.run_pure, Result.andThen_ok]
            rw [hr, Oper.upon_defer]
            have hid2 : IdleD p d := ⟨fv, rc, f0, ⟨rl⟩, k2, k4, fun w => q2 w rl (by rw [← k3.length]; simp)⟩
            refine hK1 undef w ρ { a0 with defers := d :: a0.defers } (VR.undef σ ρ) hH (.refl _ _ _) rfl (fun d' hd' => ?_)
            rcases List.mem_cons.1 hd' with rfl | hd'
            · exact hid2
            · exact hD d' hd'
          · cases hfa
        · cases h
      · cases hcc
    · cases hcc
  · refine plain hp ?_
    cases xo <;> first | (simp [XO.plain] at hpl; done) | exact h
end
end Go.Proofs.YtafignheedbnbaaGreatDoor.X
namespace Go.Proofs.YtafignheedbnbaaGreatDoor.X
open Go
set_option linter.unusedVariables false
set_option linter.unusedSimpArgs false
section
variable {p : Program} {σ : Sg} {E : Env}

def DrawOk (p : Program) (σ : Sg) (E : Env) (run : Run) : Prop := ∀ (nt : Nat) (id : Nat) (ops : Array Oper) (F : Fr) (H : Hp) (F' : Fr) (H' : Hp) (ρ : Ren) (a : Act) (w : World), drawX E run (plan p nt ops) F H H [] = some (F', H') →
  FR σ ρ F a → nt ≤ a.tmps.size → DfOk p a.defers → HR σ ρ H w → (Code.region id ops true).wp p (Post p σ ρ H w nt .nrm F' H') a w

theorem not_bad {run : Run} {xo : XO} {F : Fr} {H : Hp} {r : V × Hp} (h : opX E run xo F H = some r) : ∀ why, xo ≠ .bad why := by
  rintro why rfl
  simp [opX, doX] at h
theorem ops_ok {n : Nat} {run : Run} (hs : SgOk σ) (hE : EnvOk p σ E) (hR : RunOk p σ n run) (nt : Nat) (ops : Array Oper) : ∀ (l : List Oper) (F : Fr) (H : Hp) (F' : Fr) (H' : Hp) (ρ : Ren) (a : Act) (w : World), opsX E run (l.map (cOper p nt ops)) F H = some (F', H') →
    FR σ ρ F a → nt ≤ a.tmps.size → DfOk p a.defers → HR σ ρ H w → ∀ Q : Exit → Act → World → Prop, (∀ a' w', Post p σ ρ H w nt .nrm F' H' .normal a' w' → Q .normal a' w') → wpList p ops Q l a w := by
  intro l
  induction l with
  | nil =>
    intro F H F' H' ρ a w h hF hn hd hH Q hQ
    simp [opsX] at h
    obtain ⟨rfl, rfl⟩ := h
    exact wpList_nil (hQ a w ⟨rfl, ρ, hF, hn, hd, hH, .refl _ _ _⟩)
  | cons o l ih =>
    intro F H F' H' ρ a w h hF hn hd hH Q hQ
    simp only [List.map_cons, opsX] at h
    split at h
    · rename_i F1 H1 hst
      unfold stepX at hst
      split at hst
      · rename_i hw
        split at hst
        · rename_i v H2 hop
          simp at hst; obtain ⟨rfl, rfl⟩ := hst
          obtain ⟨k1, k2, k3, k4⟩ := cOper_spec (not_bad hop)
          have hwant := want_sound hF k4 hw
          rw [k3] at h
          unfold wpList
          rw [if_pos hwant]
          refine .inl (opX_sound hs (callX_sound hE hR) k1 hop hF hH rfl hd (fun x w' ρ' a1 hv hH' hS ht hd1 => ?_))
          have hF1 : FR σ ρ' F a1 := fun t => by rw [ht]; exact (hF.mono hS.le) t
          exact ih _ _ F' H' ρ' (a1.put o.dst x) w' h (hF1.put hv (by rw [ht]; exact hn) k2) (by rw [put_size, ht]; exact hn) (by rw [put_defers]; exact hd1) hH' Q (fun a' w'' hp => hQ a' w'' (hp.trans hS))
        · cases hst
      · rename_i hw
        simp at hst; obtain ⟨rfl, rfl⟩ := hst
        by_cases hb : ∃ why, (cOper p nt ops o).op = .bad why
        · obtain ⟨why, hb⟩ := hb
          rw [cOper_bad hb] at hw
          simp [want] at hw
        · obtain ⟨k1, k2, k3, k4⟩ := cOper_spec (p := p) (nt := nt) (ops := ops) (o := o) (fun why e => hb ⟨why, e⟩)
          rw [k3] at h
          unfold wpList
          rw [if_neg (by rw [want_sound hF k4 hw]; simp)]
          exact ih _ _ F' H' ρ (a.put o.dst undef) w h (hF.put (VR.undef σ ρ) hn k2) (by rw [put_size]; exact hn) (by rw [put_defers]; exact hd) hH Q hQ
      · cases hst
    · cases h
theorem loop_round {n : Nat} {run : Run} (hR : RunOk p σ n run) {nt : Nat} {c : Code} (ihb : ∀ (F : Fr) (H : Hp) (ex : XE) (F' : Fr) (H' : Hp) (ρ : Ren) (a : Act) (w : World), execBody E run (cCode p nt c) F H = some (ex, F', H') →
    FR σ ρ F a → nt ≤ a.tmps.size → DfOk p a.defers → HR σ ρ H w → c.wp p (Post p σ ρ H w nt ex F' H') a w) :
    ∀ (F : Fr) (H : Hp) (ex : XE) (F' : Fr) (H' : Hp) (ρ : Ren) (a : Act) (w : World), execBody E run (.loop (cCode p nt c)) F H = some (ex, F', H') →
    FR σ ρ F a → nt ≤ a.tmps.size → DfOk p a.defers → HR σ ρ H w → Code.rounds p c (Post p σ ρ H w nt ex F' H') (n + 1) a w := by
  intro F H ex F' H' ρ a w h hF hn hd hH
  simp only [execBody] at h
  rw [rounds_succ]
  split at h
  · rename_i F1 H1 hb
    refine wp_mono (ihb F H .nrm F1 H1 ρ a w hb hF hn hd hH) ?_
    rintro e a' w' ⟨rfl, ρ', h1, h2, h3, h4, h5⟩
    have := hR.loop nt c F1 H1 ex F' H' ρ' a' w' h h1 h2 h3 h4
    exact rounds_mono (fun e a2 w2 hp => hp.trans h5) n a' w' this
  · rename_i r hne
    refine wp_mono (ihb F H ex F' H' ρ a w h hF hn hd hH) ?_
    rintro e a' w' hp
    cases ex with
    | nrm => exact (hne _ _ h).elim
    | ret => obtain ⟨rfl, hp⟩ := hp; exact ⟨rfl, hp⟩
    | exit id => obtain ⟨rfl, hp⟩ := hp; exact ⟨rfl, hp⟩
theorem code_step {n : Nat} {run : Run} (hs : SgOk σ) (hE : EnvOk p σ E) (hR : RunOk p σ n run) (hD : DrawOk p σ E run) : CodeOk p σ (execBody E run) := by
  intro nt c
  induction c with
  | skip =>
    intro F H ex F' H' ρ a w h hF hn hd hH
    simp [cCode, execBody] at h
    obtain ⟨rfl, rfl, rfl⟩ := h
    exact wp_skip ⟨rfl, ρ, hF, hn, hd, hH, .refl _ _ _⟩
  | label l =>
    intro F H ex F' H' ρ a w h hF hn hd hH
    simp [cCode, execBody] at h
    obtain ⟨rfl, rfl, rfl⟩ := h
    exact wp_label ⟨rfl, ρ, hF, hn, hd, hH, .refl _ _ _⟩
  | region id ops draw =>
    intro F H ex F' H' ρ a w h hF hn hd hH
    cases draw with
    | false =>
      simp only [cCode, execBody] at h
      split at h
      · rename_i F1 H1 ho
        simp at h
        obtain ⟨rfl, rfl, rfl⟩ := h
        exact wp_region_list (ops_ok hs hE hR nt ops ops.toList F H F1 H1 ρ a w ho hF hn hd hH _ (fun a' w' hp => hp))
      · cases h
    | true =>
      simp only [cCode, execBody] at h
      split at h
      · rename_i F1 H1 hdr
        simp at h
        obtain ⟨rfl, rfl, rfl⟩ := h
        exact hD nt id ops F H F1 H1 ρ a w hdr hF hn hd hH
      · cases h
  | seq x y ihx ihy =>
    intro F H ex F' H' ρ a w h hF hn hd hH
    simp only [cCode, execBody] at h
    refine wp_seq ?_
    split at h
    · rename_i F1 H1 hx
      refine wp_mono (ihx F H .nrm F1 H1 ρ a w hx hF hn hd hH) ?_
      rintro e a' w' ⟨rfl, ρ', h1, h2, h3, h4, h5⟩
      exact wp_mono (ihy F1 H1 ex F' H' ρ' a' w' h h1 h2 h3 h4) (fun e a2 w2 hp => hp.trans h5)
    · rename_i r hne
      refine wp_mono (ihx F H ex F' H' ρ a w h hF hn hd hH) ?_
      rintro e a' w' hp
      cases ex with
      | nrm => exact (hne _ _ h).elim
      | ret => obtain ⟨rfl, hp⟩ := hp; exact ⟨rfl, hp⟩
      | exit id => obtain ⟨rfl, hp⟩ := hp; exact ⟨rfl, hp⟩
  | cond c x y ihx ihy =>
    intro F H ex F' H' ρ a w h hF hn hd hH
    simp only [cCode] at h
    split at h
    · rename_i cx hc
      have hv := cOpd_sound hF hc
      simp only [execBody] at h
      split at h
      · rename_i e
        rw [e] at hv
        exact wp_cond_true hv.bool_inv (ihx F H ex F' H' ρ a w h hF hn hd hH)
      · rename_i e
        rw [e] at hv
        exact wp_cond_false hv.bool_inv (ihy F H ex F' H' ρ a w h hF hn hd hH)
      · cases h
    · simp [execBody] at h
  | block id b ihb =>
    intro F H ex F' H' ρ a w h hF hn hd hH
    simp only [cCode, execBody] at h
    refine wp_block ?_
    split at h
    · rename_i j F1 H1 hb
      refine wp_mono (ihb F H (.exit j) F1 H1 ρ a w hb hF hn hd hH) ?_
      rintro e a' w' ⟨rfl, hp⟩
      rw [beq_iff] at h
      simp only [XE.toExit, Exit.inBlock]
      by_cases hj : j = id
      · rw [decide_eq_true hj, cond_true] at h
        simp at h; obtain ⟨rfl, rfl, rfl⟩ := h
        rw [if_pos hj]; exact ⟨rfl, hp⟩
      · rw [decide_eq_false hj, cond_false] at h
        simp at h; obtain ⟨rfl, rfl, rfl⟩ := h
        rw [if_neg hj]; exact ⟨rfl, hp⟩
    · rename_i r hne
      refine wp_mono (ihb F H ex F' H' ρ a w h hF hn hd hH) ?_
      rintro e a' w' hp
      cases ex with
      | nrm => obtain ⟨rfl, hp⟩ := hp; exact ⟨rfl, hp⟩
      | ret => obtain ⟨rfl, hp⟩ := hp; exact ⟨rfl, hp⟩
      | exit id' => exact (hne _ _ _ h).elim
  | loop b ihb =>
    intro F H ex F' H' ρ a w h hF hn hd hH
    simp only [cCode] at h
    exact wp_loop_rounds (n + 1) (loop_round hR ihb F H ex F' H' ρ a w h hF hn hd hH)
  | exit id =>
    intro F H ex F' H' ρ a w h hF hn hd hH
    simp [cCode, execBody] at h
    obtain ⟨rfl, rfl, rfl⟩ := h
    exact wp_exit ⟨rfl, ρ, hF, hn, hd, hH, .refl _ _ _⟩
  | ret =>
    intro F H ex F' H' ρ a w h hF hn hd hH
    simp [cCode, execBody] at h
    obtain ⟨rfl, rfl, rfl⟩ := h
    exact wp_ret ⟨rfl, ρ, hF, hn, hd, hH, .refl _ _ _⟩
  | scope b ih =>
    intro F H ex F' H' ρ a w h hF hn hd hH
    simp only [cCode] at h
    refine wp_scope_straight (wp_mono (ih F H ex F' H' ρ a w h hF hn hd hH) ?_)
    rintro e a' w' hp
    obtain ⟨rfl, hp⟩ := hp
    cases ex <;> exact ⟨rfl, hp⟩
  | goto l =>
    intro F H ex F' H' ρ a w h hF hn hd hH
    simp [cCode, execBody] at h
  | rangeFunc _ _ _ _ _ _ =>
    intro F H ex F' H' ρ a w h hF hn hd hH
    simp [cCode, execBody] at h
  | refuse why =>
    intro F H ex F' H' ρ a w h hF hn hd hH
    simp [cCode, execBody] at h
theorem loop_step {n : Nat} {run : Run} (hR : RunOk p σ n run) (hc : CodeOk p σ (execBody E run)) : LoopOk p σ (n + 1) (execBody E run) :=
  fun nt c => loop_round hR (hc nt c)
end
end Go.Proofs.YtafignheedbnbaaGreatDoor.X
