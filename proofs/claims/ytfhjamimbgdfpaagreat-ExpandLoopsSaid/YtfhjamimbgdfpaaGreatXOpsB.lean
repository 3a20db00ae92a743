/- A verified executor, part XOpsB: laws of the executor; no condition. -/
import Derived.Test.YtfhjamimbgdfpaaGreatXOpsA
namespace Go.Proofs.YtfhjamimbgdfpaaGreat.X
open Go
set_option linter.unusedVariables false
set_option linter.unusedSimpArgs false
section
variable {p : Program} {σ : Sg} {ρ : Ren} {F : Fr} {H H' : Hp} {a : Act} {w : World} {v : V} {xo : XO} {o : Oper}

theorem VR.ptr_inv {q : P} {i : Nat} {x : Value} (h : VR σ ρ (.ptr (some (q, i))) x) : ∃ b, ρ q = some b ∧ x = .pointer (some ⟨b.r, b.b + i, none⟩) := by
  cases h with | ptr i h => exact ⟨_, h, rfl⟩
theorem VR.int_inv {k : IntKind} {n : Int} {x : Value} (h : VR σ ρ (.int k n) x) : x = .int k n := by cases h; rfl
theorem VR.bool_inv {b : Bool} {x : Value} (h : VR σ ρ (.bool b) x) : x = .bool b := by cases h; rfl
theorem VR.str_inv {l n : Nat} {x : Value} (h : VR σ ρ (.str l n) x) : ∃ s : ByteArray, x = .string s ∧ l = s.size ∧ n = digits s.data.toList := by
  cases h with | str s => exact ⟨s, rfl, rfl, rfl⟩

theorem s_load {t : TypeId} {x : Operand} (ho : o.op = .load t x) (hc : cPlain p o = some xo) (hF : FR σ ρ F a) (hH : HR σ ρ H w) (hd : doX xo F H = some (v, H')) : GivesQ p σ (execOp a.eval o) ρ H w v H' := by
  simp [cPlain, ho, Option.bind_eq_some_iff] at hc
  obtain ⟨x', hx, hc⟩ := hc
  have h1 := cOpd_sound hF hx
  cases hg : aggT p t with
  | none => rw [hg] at hc; simp at hc
  | some g =>
    rw [hg] at hc
    cases g with
    | true =>
      simp [Option.bind_eq_some_iff] at hc
      obtain ⟨n, hn, rfl⟩ := hc
      simp only [doX] at hd
      split at hd
      · rename_i b i e
        rw [e] at h1
        obtain ⟨rb, hb, hax⟩ := h1.ptr_inv
        split at hd
        · rename_i l hl
          simp at hd; obtain ⟨rfl, rfl⟩ := hd
          obtain ⟨xs, g1, g2, g3⟩ := hH.loadn hl hb
          refine .same hH (x := .agg ⟨xs⟩) ?_ (.agg g1)
          simp only [execOp, ho, hax]
          exact run_v (by simpa [Instr.loadAt, Instr.sureAddr] using run_loadVarN hg hn g2 g3)
        · cases hd
      · cases hd
    | false =>
      simp at hc; subst hc
      simp only [doX] at hd
      split at hd
      · rename_i b i e
        rw [e] at h1
        obtain ⟨rb, hb, hax⟩ := h1.ptr_inv
        split at hd
        · rename_i u hl
          simp at hd; obtain ⟨rfl, rfl⟩ := hd
          obtain ⟨y, g1, g2⟩ := hH.load hl hb
          refine .same hH (x := y) ?_ g2
          simp only [execOp, ho, hax]
          exact run_v (by simpa [Instr.loadAt, Instr.sureAddr] using run_loadVar1 hg g1)
        · cases hd
      · cases hd
theorem s_store {t : TypeId} {x y : Operand} (hs : SgOk σ) (ho : o.op = .store t x y) (hc : cPlain p o = some xo) (hF : FR σ ρ F a) (hH : HR σ ρ H w) (hd : doX xo F H = some (v, H')) : Gives p σ (execOp a.eval o) ρ H w v H' := by
  simp [cPlain, ho, Option.bind_eq_some_iff] at hc
  obtain ⟨n, hn, x', hx, y', hy, rfl⟩ := hc
  have h1 := cOpd_sound hF hx
  have h2 := (cOpd_sound hF hy).cells hs
  simp only [doX] at hd
  obtain ⟨h0, hd⟩ := bif_some hd
  simp only [beq_iff, decide_eq_true_eq] at h0
  split at hd
  · rename_i b i e
    rw [e] at h1
    obtain ⟨rb, hb, hax⟩ := h1.ptr_inv
    split at hd
    · rename_i H1 hl
      simp at hd; obtain ⟨rfl, rfl⟩ := hd
      obtain ⟨g1, g2, g3, g4, g5⟩ := hH.storen hs hl hb h2
      refine ⟨Go.undef, _, ρ, .inr ⟨?_, rfl⟩, VR.undef σ ρ, g4, g5⟩
      simp only [execOp, ho, hax]
      refine run_u ?_
      have := run_storeVar' (p := p) (w := w) hn (by rw [← h2.length, h0]) g1 g2 g3
      simpa [Instr.storeAt, Instr.sureAddr] using this
    · cases hd
  · cases hd
theorem methFit_spec {t f : Nat} {nm : String} (h : methFit p t nm = some f) : ∃ (i : TypeInfo) (m : Method) (b : Bool) (u : TypeDesc), p.info? t = some i ∧ i.methods.find? (·.name == nm) = some m ∧ m.path = #[] ∧ m.func = some (f, b) ∧ p.underlying t = some u ∧ ((∃ e, u = .pointer e) ↔ b = true) := by
  unfold methFit at h
  split at h
  · rename_i i hi
    split at h
    · rename_i m hm
      split at h
      · rename_i hp
        have hp' : m.path = #[] := by simpa using hp
        split at h
        · rename_i f' e h1 h2
          simp at h; subst h
          exact ⟨i, m, true, _, hi, hm, hp', h1, h2, by simp⟩
        · cases h
        · cases h
        · rename_i f' u hn h1 h2
          simp at h; subst h
          exact ⟨i, m, false, u, hi, hm, hp', h1, h2, ⟨fun ⟨e, he⟩ => (hn e he).elim, fun e => by cases e⟩⟩
        · cases h
      · cases h
    · cases h
  · cases h
theorem run_method {t f : Nat} {nm : String} {v : Value} (h : methFit p t nm = some f) (k : Nat) : (method (k + 1) t v nm).run p w = .ok (f, v) w := by
  obtain ⟨i, m, b, u, h1, h2, h3, h4, h5, h6⟩ := methFit_spec h
  have ht : (typeInfo t).run p w = .ok i w := by simp [typeInfo, Sem.run_bind, h1]
  have hu : (underlying t).run p w = .ok u w := run_und h5
  simp only [method, Sem.run_bind, ht, Result.andThen_ok, h2, h3, h4]
  simp only [follow, Sem.run_bind, Sem.run_pure, Result.andThen_ok]
  cases b with
  | true =>
    obtain ⟨e, rfl⟩ := h6.2 rfl
    simp [receiverAt, Sem.run_bind, hu, Place.get]
  | false =>
    have hne : ∀ e, u ≠ .pointer e := fun e he => by have := h6.1 ⟨e, he⟩; cases this
    cases u <;> first | exact (hne _ rfl).elim | simp [receiverAt, Sem.run_bind, hu, Place.get]
theorem run_nilAhead {t f : Nat} {nm : String} {v : Value} (h : methFit p t nm = some f) (k : Nat) : (nilAhead (k + 1) t v nm).run p w = .ok (some false) w := by
  obtain ⟨i, m, b, u, h1, h2, h3, h4, h5, h6⟩ := methFit_spec h
  have ht : (typeInfo t).run p w = .ok i w := by simp [typeInfo, Sem.run_bind, h1]
  have hu : (underlying t).run p w = .ok u w := run_und h5
  simp only [nilAhead, Sem.run_bind, ht, Result.andThen_ok, h2, h3, h4]
  simp only [followBlind, Sem.run_bind, Sem.run_pure, Result.andThen_ok]
  cases b with
  | true => simp
  | false =>
    have hne : ∀ e, u ≠ .pointer e := fun e he => by have := h6.1 ⟨e, he⟩; cases this
    cases u <;> first | exact (hne _ rfl).elim | simp [Sem.run_bind, hu]
theorem run_nilck_meth {t f : Nat} {nm : String} {v : Value} {x : Operand} {ev : Operand → Value} (ho : o.op = .nilCheck x) (hx : ev x = .func (.method nm) ⟨[.iface t v]⟩ ⟨[]⟩) (h : methFit p t nm = some f) :
    (execOp ev o).run p w = .ok (.value (.func (.method nm) ⟨[.iface t v]⟩ ⟨[]⟩)) w := by
  have h0 : 1 ≤ Made.depth := by decide
  have h1 : p.types.size + Made.depth = (p.types.size + (Made.depth - 1)) + 1 := by omega
  have := run_nilAhead (w := w) (v := v) h (p.types.size + (Made.depth - 1))
  rw [← h1] at this
  simp [execOp, ho, hx, Sem.run_bind, this]
theorem s_nilck (hp : σ.prog = p) {x : Operand} (ho : o.op = .nilCheck x) (hc : cPlain p o = some xo) (hF : FR σ ρ F a) (hH : HR σ ρ H w) (hd : doX xo F H = some (v, H')) : GivesQ p σ (execOp a.eval o) ρ H w v H' := by
  simp [cPlain, ho] at hc
  obtain ⟨x', hx, rfl⟩ := hc
  have h1 := cOpd_sound hF hx
  simp only [doX] at hd
  split at hd
  · rename_i q e
    simp at hd; obtain ⟨rfl, rfl⟩ := hd
    rw [e] at h1
    refine .same hH (x := a.eval x) ?_ h1
    obtain ⟨rb, hb, hax⟩ := h1.ptr_inv
    simp [execOp, ho, hax]
  · rename_i t u e
    simp at hd; obtain ⟨rfl, rfl⟩ := hd
    rw [e] at h1
    refine .same hH (x := a.eval x) ?_ h1
    generalize hax : a.eval x = ax at h1
    cases h1
    simp [execOp, ho, hax]
  · rename_i f u1 u2 e
    simp at hd; obtain ⟨rfl, rfl⟩ := hd
    rw [e] at h1
    refine .same hH (x := a.eval x) ?_ h1
    generalize hax : a.eval x = ax at h1
    cases h1 with
    | func _ _ _ => simp [execOp, ho, hax]
    | meth hm h => exact run_nilck_meth ho hax (hp ▸ hm)
  · rename_i r e
    simp at hd; obtain ⟨rfl, rfl⟩ := hd
    rw [e] at h1
    refine .same hH (x := a.eval x) ?_ h1
    generalize hax : a.eval x = ax at h1
    cases h1 <;> simp [execOp, ho, hax]
  · cases hd
theorem s_un {op : UnOp} {t : TypeId} {x : Operand} (ho : o.op = .unOp op t x) (hc : cPlain p o = some xo) (hF : FR σ ρ F a) (hH : HR σ ρ H w) (hd : doX xo F H = some (v, H')) : GivesQ p σ (execOp a.eval o) ρ H w v H' := by
  simp [cPlain, ho, Option.bind_eq_some_iff] at hc
  obtain ⟨x', hx, rfl⟩ := hc
  have h1 := cOpd_sound hF hx
  simp only [doX] at hd
  split at hd
  · rename_i b e
    simp at hd; obtain ⟨rfl, rfl⟩ := hd
    rw [e] at h1
    refine .same hH (x := .bool (!b)) ?_ (.bool _)
    simp only [execOp, ho, h1.bool_inv]
    exact run_v (by simp [Op.unary])
  · rename_i k n e
    simp at hd; obtain ⟨rfl, rfl⟩ := hd
    rw [e] at h1
    refine .same hH (x := .int k (k.wrap (0 - n))) ?_ (by rw [wrapI_spec]; exact .int _ _)
    simp only [execOp, ho, h1.int_inv]
    exact run_v (by simp [Op.unary, Op.intArith])
  · rename_i k n e
    rw [e] at h1
    split at hd
    · rename_i u hu
      simp at hd; obtain ⟨rfl, rfl⟩ := hd
      obtain ⟨r, hr, hv⟩ := binI_sound (p := p) (w := w) 0 hu
      refine .same hH (x := r) ?_ (hv _ _)
      simp only [execOp, ho, h1.int_inv]
      refine run_v ?_
      rw [← hr]
      simp only [Op.unary, binOp]
      simp only [ne_eq, not_true_eq_false, if_false]
      cases k <;> rfl
    · cases hd
  · cases hd
theorem eqGuard_skip {op : BinOp} {t : TypeId} {x y : Operand} {ax ay : Value} (h : op = .eql ∨ op = .neq → (ax = .nilIface → ay = .nilIface → False) ∧ (∀ u w, ax = .agg u → ay = .agg w → False)) : (eqGuard op t x y ax ay).run p w = .ok () w := by
  unfold eqGuard
  cases op
  case eql =>
    obtain ⟨g1, g2⟩ := h (.inl rfl)
    cases ax <;> cases ay <;> first | (exact (g1 rfl rfl).elim) | (exact (g2 _ _ rfl rfl).elim) | simp
  case neq =>
    obtain ⟨g1, g2⟩ := h (.inr rfl)
    cases ax <;> cases ay <;> first | (exact (g1 rfl rfl).elim) | (exact (g2 _ _ rfl rfl).elim) | simp
  all_goals simp
theorem run_bin {op : BinOp} {t t' : TypeId} {x y : Operand} {r : Value} (ho : o.op = .binOp op t x y t') (hg : (eqGuard op t x y (a.eval x) (a.eval y)).run p w = .ok () w) (hr : (binOp op t (a.eval x) (a.eval y)).run p w = .ok r w) :
    (execOp a.eval o).run p w = .ok (.value r) w := by
  simp only [execOp, ho]
  exact run_v (by simp [Sem.run_bind, hg, hr])
theorem s_bin {op : BinOp} {t t' : TypeId} {x y : Operand} {x' y' : Opd} (ho : o.op = .binOp op t x y t') (hx : cOpd x = some x') (hy : cOpd y = some y') (hF : FR σ ρ F a) (hH : HR σ ρ H w) (hd : doX (.bin op x' y') F H = some (v, H')) : GivesQ p σ (execOp a.eval o) ρ H w v H' := by
  have h1 := cOpd_sound hF hx
  have h2 := cOpd_sound hF hy
  simp only [doX] at hd
  split at hd
  · rename_i k n j m e1 e2
    rw [e1] at h1; rw [e2] at h2
    split at hd
    · rename_i u hu
      simp at hd; obtain ⟨rfl, rfl⟩ := hd
      obtain ⟨r, hr, hv⟩ := shI_sound (p := p) (w := w) (j := j) t hu
      exact .same hH (run_bin ho (eqGuard_skip (by simp)) (by rw [h1.int_inv, h2.int_inv]; exact hr)) (hv _ _)
    · cases hd
  · rename_i k n j m e1 e2
    rw [e1] at h1; rw [e2] at h2
    split at hd
    · rename_i u hu
      simp at hd; obtain ⟨rfl, rfl⟩ := hd
      obtain ⟨r, hr, hv⟩ := shI_sound (p := p) (w := w) (j := j) t hu
      exact .same hH (run_bin ho (eqGuard_skip (by simp)) (by rw [h1.int_inv, h2.int_inv]; exact hr)) (hv _ _)
    · cases hd
  · rename_i k n j m e1 e2
    rw [e1] at h1; rw [e2] at h2
    obtain ⟨hkj, hd⟩ := bif_some hd
    simp at hkj; subst hkj
    split at hd
    · rename_i u hu
      simp at hd; obtain ⟨rfl, rfl⟩ := hd
      obtain ⟨r, hr, hv⟩ := binI_sound (p := p) (w := w) t hu
      exact .same hH (run_bin ho (eqGuard_skip (by rw [h1.int_inv]; simp)) (by rw [h1.int_inv, h2.int_inv]; exact hr)) (hv _ _)
    · simp at hd
  · rename_i la n lb m e1 e2
    rw [e1] at h1; rw [e2] at h2
    split at hd
    · rename_i u hu
      simp at hd; obtain ⟨rfl, rfl⟩ := hd
      obtain ⟨s1, q1, rfl, rfl⟩ := h1.str_inv
      obtain ⟨s2, q2, rfl, rfl⟩ := h2.str_inv
      obtain ⟨r, hr, hv⟩ := binS_sound (p := p) (w := w) t hu
      exact .same hH (run_bin ho (eqGuard_skip (by rw [q1]; simp)) (by rw [q1, q2]; exact hr)) (hv _ _)
    · cases hd
  · cases hd
theorem s_iface {t : TypeId} {x : Operand} (ho : o.op = .makeInterface t x) (hc : cPlain p o = some xo) (hF : FR σ ρ F a) (hH : HR σ ρ H w) (hd : doX xo F H = some (v, H')) : GivesQ p σ (execOp a.eval o) ρ H w v H' := by
  simp only [cPlain, ho] at hc
  split at hc
  · cases hc
  · rename_i d hne hu
    simp [Option.bind_eq_some_iff] at hc
    obtain ⟨x', hx, rfl⟩ := hc
    have h1 := cOpd_sound hF hx
    simp [doX] at hd
    obtain ⟨rfl, rfl⟩ := hd
    refine .same hH (x := .iface t (a.eval x)) ?_ (.iface t h1)
    simp only [execOp, ho]
    refine run_v ?_
    cases d <;> first | exact (hne _ rfl).elim | simp [Instr.makeInterface, Sem.run_bind, run_und hu]
  · cases hc
theorem fitOf_mem : ∀ {l : List (Nat × Nat)} {t f : Nat}, fitOf l t = some f → (t, f) ∈ l
  | [], _, _, h => by cases h
  | (a, g) :: r, t, f, h => by
    unfold fitOf at h
    rw [beq_iff] at h
    by_cases e : a = t
    · rw [decide_eq_true e, cond_true] at h; simp at h; subst h; subst e; simp
    · rw [decide_eq_false e, cond_false] at h; exact List.mem_cons_of_mem _ (fitOf_mem h)
theorem fitsOf_sound {nm : String} {t f : Nat} (h : fitOf (fitsOf p nm) t = some f) : methFit p t nm = some f := by
  have := fitOf_mem h
  unfold fitsOf at this
  rw [List.mem_filterMap] at this
  obtain ⟨⟨i, t'⟩, -, h2⟩ := this
  simp only at h2
  split at h2
  · simp only [Option.map_eq_some_iff, Prod.mk.injEq] at h2
    obtain ⟨g, h3, rfl, rfl⟩ := h2
    exact h3
  · cases h2
theorem s_func (hp : σ.prog = p) {fn : Fn} {x y : Array Operand} (ho : o.op = .makeFunc fn x y) (hc : cPlain p o = some xo) (hF : FR σ ρ F a) (hH : HR σ ρ H w) (hd : doX xo F H = some (v, H')) : GivesQ p σ (execOp a.eval o) ρ H w v H' := by
  have e1 : x.map a.eval = ⟨x.toList.map a.eval⟩ := by apply Array.ext'; simp
  have e2 : y.map a.eval = ⟨y.toList.map a.eval⟩ := by apply Array.ext'; simp
  have gen : (do pure (XO.mkfunc fn (← cOpds x.toList) (← cOpds y.toList)) : Option XO) = some xo → GivesQ p σ (execOp a.eval o) ρ H w v H' := fun hc => by
    simp [Option.bind_eq_some_iff] at hc
    obtain ⟨x', hx, y', hy, rfl⟩ := hc
    have h1 := cOpds_sound hF hx
    have h2 := cOpds_sound hF hy
    simp [doX] at hd
    obtain ⟨rfl, rfl⟩ := hd
    refine .same hH (x := .func fn (x.map a.eval) (y.map a.eval)) ?_ ?_
    · simp only [execOp, ho]
      exact run_v (by simp [Instr.makeFunc])
    · rw [e1, e2]; exact .func fn h1 h2
  cases fn with
  | method nm =>
    simp only [cPlain, ho] at hc
    split at hc
    · rename_i x1 hx1 hy1
      simp [Option.bind_eq_some_iff] at hc
      obtain ⟨x', hx, rfl⟩ := hc
      have h1 := cOpd_sound hF hx
      simp only [doX] at hd
      split at hd
      · rename_i t u e
        rw [e] at h1
        split at hd
        · rename_i f hf
          simp at hd; obtain ⟨rfl, rfl⟩ := hd
          have hm := fitsOf_sound hf
          generalize hax : a.eval x1 = ax at h1
          cases h1 with
          | iface _ h1 =>
            rename_i rx
            refine .same hH (x := .func (.method nm) ⟨[.iface t rx]⟩ ⟨[]⟩) ?_ (.meth (hp ▸ hm) h1)
            simp only [execOp, ho]
            refine run_v ?_
            rw [e1, e2, hx1, hy1]
            simp [Instr.makeFunc, hax]
        · cases hd
      · cases hd
    · cases hc
  | func f => exact gen (by simpa [cPlain, ho] using hc)
  | methodOf t nm => exact gen (by simpa [cPlain, ho] using hc)
  | via t pa f b => exact gen (by simpa [cPlain, ho] using hc)
  | yield l => exact gen (by simpa [cPlain, ho] using hc)
theorem s_ext {x : Operand} {n : Nat} (ho : o.op = .extract x n) (hc : cPlain p o = some xo) (hF : FR σ ρ F a) (hH : HR σ ρ H w) (hd : doX xo F H = some (v, H')) : GivesQ p σ (execOp a.eval o) ρ H w v H' := by
  simp [cPlain, ho, Option.bind_eq_some_iff] at hc
  obtain ⟨x', hx, rfl⟩ := hc
  have h1 := cOpd_sound hF hx
  simp only [doX] at hd
  split at hd
  · rename_i vs e
    rw [e] at h1
    generalize hax : a.eval x = ax at h1
    cases h1 with
    | tuple h1 =>
      split at hd
      · rename_i u hu
        simp at hd; obtain ⟨rfl, rfl⟩ := hd
        obtain ⟨y, hy, hr⟩ := h1.get hu
        refine .same hH (x := y) ?_ hr
        simp only [execOp, ho, hax]
        exact run_v (by simp [Instr.extract, hy])
      · cases hd
  · cases hd
end
end Go.Proofs.YtfhjamimbgdfpaaGreat.X
