/- A verified executor, part XKeys: laws of the executor; no condition. -/
import Derived.Test.YtfhjamimbgdfpaaGreatXOpsG
namespace Go.Proofs.YtfhjamimbgdfpaaGreat.X
open Go
set_option linter.unusedVariables false
set_option linter.unusedSimpArgs false
section
variable {p : Program} {σ : Sg} {ρ : Ren} {H : Hp} {w : World}
theorem forIn_ok {fs : List Field} {body : Field → PUnit → Sem (ForInStep PUnit)} (h : ∀ f ∈ fs, (body f ⟨⟩).run p w = .ok (.yield ⟨⟩) w) : (forIn fs PUnit.unit body : Sem PUnit).run p w = .ok ⟨⟩ w := by
  induction fs with
  | nil => simp
  | cons f r ih =>
    rw [List.forIn_cons]
    simp only [Sem.run_bind, h f (by simp), Result.andThen_ok]
    exact ih fun g hg => h g (by simp [hg])
/-- a basic kind's type -/
theorem key0_spec {d : Nat} {t : TypeId} {q : EqK} (h : eqK p d t = some q) (hk : q.key0 = true) : (q = .bool ∧ p.underlying t = some .bool) ∨ (q = .int ∧ ∃ k, p.underlying t = some (.int k)) ∨ (q = .str ∧ p.underlying t = some .string) := by
  cases d with
  | zero => simp [eqK] at h
  | succ d =>
    unfold eqK at h
    split at h <;> rename_i hu
    · simp at h; exact .inl ⟨h.symm, hu⟩
    · simp at h; exact .inr (.inl ⟨h.symm, _, hu⟩)
    · simp at h; exact .inr (.inr ⟨h.symm, hu⟩)
    · split at h
      · cases h
      · simp at h; subst h; simp [EqK.key0] at hk
      · cases h
    all_goals first | (simp at h; done) | (simp at h; subst h; simp [EqK.key0] at hk; done) | skip
    split at h
    · simp at h
    · simp at h; obtain ⟨_, _, rfl⟩ := h; simp [EqK.key0] at hk
theorem checkKey0 {n : Nat} {t : TypeId} {d : TypeDesc} {rk : Value} {em : Bool} (hu : p.underlying t = some d) (hd : d = .bool ∨ (∃ k, d = .int k) ∨ d = .string) : (Instr.checkKey em (n + 1) t rk).run p w = .ok () w := by
  unfold Instr.checkKey
  rcases hd with rfl | ⟨k, rfl⟩ | rfl <;> simp [Sem.run_bind, run_und hu]
theorem agg_of_key {t : TypeId} {q : EqK} (h : eqK p 20 t = some q) (hk : q.key = true) : q.key0 = true ∨ ∃ fs ps, p.underlying t = some (.struct fs) ∧ q = .agg ps ∧ p.stoodInHeld t = false ∧ (∀ x ∈ ps, x.2.1 = 0 ∧ x.2.2.key0 = true) ∧
    ((fs.toList.filter fun f : Field => decide (f.name ≠ "_")).mapM fun f : Field => do
          let k ← eqK p 19 f.type
          let s ← partSz p f.type
          pure (f.offset, s, k)) = some ps := by
  have h' := h
  unfold eqK at h
  split at h <;> rename_i hu
  all_goals first
    | (simp at h; done)
    | (simp at h; subst h; exact .inl rfl)
    | (simp at h; subst h; simp [EqK.key, EqK.key0] at hk; done)
    | skip
  · split at h
    · cases h
    · simp at h; subst h; simp [EqK.key, EqK.key0] at hk
    · cases h
  · split at h
    · cases h
    · rename_i hst
      simp only [Option.map_eq_some_iff] at h
      obtain ⟨ps, hps, rfl⟩ := h
      refine .inr ⟨_, ps, hu, rfl, by simpa using hst, fun x hx => ?_, hps⟩
      have := List.all_eq_true.1 hk x hx
      simp only [Bool.and_eq_true, beq_iff, decide_eq_true_eq] at this
      exact this
theorem mapM_mem {f : Field → Option (Nat × Nat × EqK)} : ∀ {l : List Field} {ps : List (Nat × Nat × EqK)}, l.mapM f = some ps → ∀ x ∈ l, ∃ q ∈ ps, f x = some q
  | [], ps, h, x, hx => by simp at hx
  | y :: l, ps, h, x, hx => by
    simp only [List.mapM_cons, Option.bind_eq_bind, Option.bind_eq_some_iff, Option.pure_def, Option.some.injEq] at h
    obtain ⟨q, hq, r, hr, rfl⟩ := h
    rcases List.mem_cons.1 hx with rfl | hx
    · exact ⟨q, by simp, hq⟩
    · obtain ⟨q', h1, h2⟩ := mapM_mem hr x hx
      exact ⟨q', by simp [h1], h2⟩
theorem checkKey_any {t : TypeId} {q : EqK} {v : V} {rk : Value} {em : Bool} (hq : eqK p 20 t = some q) (hk : q.key = true) (hs : keyShape q v = true) (hv : VR σ ρ v rk) : (Instr.checkKey em 10000 t rk).run p w = .ok () w := by
  rcases agg_of_key hq hk with h0 | ⟨fs, ps, hu, rfl, -, hps, hm⟩
  · show (Instr.checkKey em (9999 + 1) t rk).run p w = _
    rcases key0_spec hq h0 with ⟨-, h⟩ | ⟨-, k, h⟩ | ⟨-, h⟩
    · exact checkKey0 h (.inl rfl)
    · exact checkKey0 h (.inr (.inl ⟨k, rfl⟩))
    · exact checkKey0 h (.inr (.inr rfl))
  · unfold keyShape at hs
    split at hs
    · rename_i ps' cs e
      cases e
      simp only [Bool.and_eq_true] at hs
      cases hv with
      | agg hcs =>
        rename_i rcs
        show (Instr.checkKey em (9999 + 1) t _).run p w = _
        unfold Instr.checkKey
        simp only [Sem.run_bind, run_und hu, Result.andThen_ok]
        rw [← Array.forIn_toList]
        have := forIn_ok (p := p) (w := w) (fs := fs.toList) (body := fun f _ => (do
          if f.name ≠ "_" then Instr.checkKey em 9999 f.type (← part f.type ⟨rcs⟩ f.offset)
          pure (ForInStep.yield PUnit.unit) : Sem (ForInStep PUnit))) (fun f hf => by
            by_cases hn : f.name = "_"
            · simp [hn]
            · obtain ⟨q, hq1, hq2⟩ := mapM_mem hm f (List.mem_filter.2 ⟨hf, by simpa using hn⟩)
              simp only [Option.bind_eq_bind, Option.bind_eq_some_iff, Option.pure_def, Option.some.injEq] at hq2
              obtain ⟨k1, hk1, s1, hs1, rfl⟩ := hq2
              obtain ⟨rfl, hk0⟩ := hps _ hq1
              have hlt := List.all_eq_true.1 hs.1 _ hq1
              have hlt' : f.offset < cs.length := by simpa using hlt
              obtain ⟨y, hy, -⟩ := sub1_sound (p := p) (w := w) hs1 hcs (show sub1 cs f.offset 0 = some cs[f.offset] by simp [sub1, hlt'])
              have hc : (Instr.checkKey em 9999 f.type y).run p w = .ok () w := by
                show (Instr.checkKey em (9998 + 1) f.type y).run p w = _
                rcases key0_spec hk1 hk0 with ⟨-, h⟩ | ⟨-, k, h⟩ | ⟨-, h⟩
                · exact checkKey0 h (.inl rfl)
                · exact checkKey0 h (.inr (.inl ⟨k, rfl⟩))
                · exact checkKey0 h (.inr (.inr rfl))
              simp [hn, Sem.run_bind, hy, hc])
        simp at this ⊢
        rw [this]; rfl
    · cases hs
    · rename_i h1 h2
      exact absurd rfl (h1 ps)

theorem basic_same {v : V} {x y : Value} (h : v.basic = true) (h1 : VR σ ρ v x) (h2 : VR σ ρ v y) (n : Nat) : Instr.sameBits n x y = true := by
  cases v <;> first | (simp [V.basic] at h; done) | skip
  · rw [h1.bool_inv, h2.bool_inv]; simp [Instr.sameBits]
  · rw [h1.int_inv, h2.int_inv]; simp [Instr.sameBits]
  · obtain ⟨s1, rfl, e1, f1⟩ := h1.str_inv
    obtain ⟨s2, rfl, e2, f2⟩ := h2.str_inv
    have : (Nat.beq s1.size s2.size && Nat.beq (digits s1.data.toList) (digits s2.data.toList)) = true := by
      simp only [Bool.and_eq_true, beq_iff, decide_eq_true_eq]; omega
    rw [str_eq, ← beq_toListBytes] at this
    simp only [Instr.sameBits]
    exact this
theorem basics_same : ∀ {cs : List V} {xs ys : List Value}, cs.all V.basic = true → VRs σ ρ cs xs → VRs σ ρ cs ys → (xs.zip ys).all (fun (x, y) => Instr.sameBits 9999 x y) = true
  | _, _, _, _, .nil, .nil => rfl
  | _, _, _, h, .cons h1 t1, .cons h2 t2 => by
    simp only [List.all_cons, Bool.and_eq_true] at h
    simp only [List.zip_cons_cons, List.all_cons, Bool.and_eq_true]
    exact ⟨basic_same h.1 h1 h2 _, basics_same h.2 t1 t2⟩
end
end Go.Proofs.YtfhjamimbgdfpaaGreat.X
