/- A verified executor, part XDrP: laws of the executor; no condition. -/
import Derived.Test.YtfhjamimbgdfpaaGreatXDr4
namespace Go.Proofs.YtfhjamimbgdfpaaGreat.X
open Go
set_option linter.unusedVariables false
set_option linter.unusedSimpArgs false

theorem Tr.put_comm {α : Type} (v u : Option α) : ∀ (p q : P) (t : Tr α), p ≠ q → (t.put v p).put u q = (t.put u q).put v p
  | .h, .h, _, h => absurd rfl h
  | .h, .o q, .lf, _ => by simp
  | .h, .o q, .nd _ _ _, _ => by simp
  | .h, .i q, .lf, _ => by simp
  | .h, .i q, .nd _ _ _, _ => by simp
  | .o p, .h, .lf, _ => by simp
  | .o p, .h, .nd _ _ _, _ => by simp
  | .i p, .h, .lf, _ => by simp
  | .i p, .h, .nd _ _ _, _ => by simp
  | .o p, .i q, .lf, _ => by simp
  | .o p, .i q, .nd _ _ _, _ => by simp
  | .i p, .o q, .lf, _ => by simp
  | .i p, .o q, .nd _ _ _, _ => by simp
  | .o p, .o q, .lf, h => by simp [Tr.put_comm v u p q .lf (fun e => h (by rw [e]))]
  | .o p, .o q, .nd l _ _, h => by simp [Tr.put_comm v u p q l (fun e => h (by rw [e]))]
  | .i p, .i q, .lf, h => by simp [Tr.put_comm v u p q .lf (fun e => h (by rw [e]))]
  | .i p, .i q, .nd _ _ r, h => by simp [Tr.put_comm v u p q r (fun e => h (by rw [e]))]
theorem storen_spec {H H' : Hp} {b : P} {i : Nat} {vs : List V} (h : H.storen b i vs = some H') : ∃ c n pl, H.get b = some (.cells c n pl) ∧ H' = H.set b (.cells (rowOf vs i c) n pl) ∧ ∀ G : Hp, G.get b = some (.cells c n pl) → G.storen b i vs = some (G.set b (.cells (rowOf vs i c) n pl)) := by
  unfold Hp.storen at h
  split at h
  · rename_i c n pl hg
    rw [cond_eq_ite] at h
    split at h
    · rename_i hc
      simp at h; subst h
      refine ⟨c, n, pl, hg, rfl, fun G hG => ?_⟩
      unfold Hp.storen
      rw [hG]
      simp only [hc, cond_true]
    · cases h
  · cases h
theorem store_spec {F : Fr} {H H' : Hp} {n : Nat} {x y : Opd} {v : V} (h : doX (.store n x y) F H = some (v, H')) : ∃ b i, ev F x = .ptr (some (b, i)) ∧ v = V.undef ∧ H.storen b i (ev F y).cells = some H' ∧
    ∀ G G', G.storen b i (ev F y).cells = some G' → doX (.store n x y) F G = some (V.undef, G') := by
  simp only [doX, cond_eq_ite] at h
  split at h
  · rename_i hc
    split at h
    · rename_i b i e
      split at h
      · rename_i H1 hs
        simp at h; obtain ⟨rfl, rfl⟩ := h
        refine ⟨b, i, e, rfl, hs, fun G G' hG => ?_⟩
        simp only [doX, cond_eq_ite]
        rw [if_pos hc, e]
        simp only [hG]
      · cases h
    · cases h
  · cases h
/-- two stores into two blocks, the other way round -/
theorem store_comm {F : Fr} {H H1 H2 : Hp} {n m : Nat} {x y x' y' : Opd} {v v' : V} (h1 : doX (.store n x y) F H = some (v, H1)) (h2 : doX (.store m x' y') F H1 = some (v', H2))
    (hne : ∀ b i c j, ev F x = .ptr (some (b, i)) → ev F x' = .ptr (some (c, j)) → b ≠ c) :
    v = V.undef ∧ v' = V.undef ∧ ∃ G, G.next = H.next ∧ H2.next = H.next ∧ H1.next = H.next ∧ doX (.store m x' y') F H = some (V.undef, G) ∧ doX (.store n x y) F G = some (V.undef, H2) := by
  obtain ⟨b, i, e1, rfl, s1, k1⟩ := store_spec h1
  obtain ⟨c, j, e2, rfl, s2, k2⟩ := store_spec h2
  have hbc := hne b i c j e1 e2
  obtain ⟨cc, cn, cp, g1, rfl, z1⟩ := storen_spec s1
  obtain ⟨dc, dn, dp, g2, rfl, z2⟩ := storen_spec s2
  have g2' : H.get c = some (.cells dc dn dp) := by
    rw [Hp.get_set, if_neg (fun e => hbc e.symm)] at g2; exact g2
  refine ⟨rfl, rfl, H.set c (.cells (rowOf (ev F y').cells j dc) dn dp), rfl, rfl, rfl, k2 _ _ (z2 H g2'), k1 _ _ ?_⟩
  rw [z1 _ (by rw [Hp.get_set, if_neg hbc]; exact g1)]
  unfold Hp.set
  simp only [Option.some.injEq, Hp.mk.injEq, and_true]
  exact Tr.put_comm _ _ _ _ _ (fun e => hbc e.symm)

section
variable {p : Program} {σ : Sg} {E : Env} {run : Run} {nt : Nat} {ops : Array Oper} {A : Nat → List Nat} {FF : Nat → Fr} {vv : Nat → V}
variable {o1 o2 : Nat → Nat} {A1 A2 : Nat → List Nat} {HH1 HH2 : Nat → Hp} {exc1 exc2 : Nat → Nat → Prop}
variable {ρ0 ρ : Ren} {w0 w w' : World} {S : Nat → Prop} {c k0 : Nat} {a : Act} {x : Value}

theorem Inv.swap (ho : ∀ k, k ≠ k0 → k ≠ k0 + 1 → o1 k = o2 k) (hH : ∀ k, k ≠ k0 + 1 → HH1 k = HH2 k) (hw : (XOf p nt ops (o1 k0)).op.isW = true)
    (I : Inv σ p nt ops o1 FF HH1 vv ρ0 w0 S c ρ a w) (h1 : ¬ S k0) (h2 : ¬ S (k0 + 1)) : Inv σ p nt ops o2 FF HH2 vv ρ0 w0 S c ρ a w := by
  have hc : c ≤ k0 := Nat.le_of_not_lt fun h => (I.low k0 h).elim h1 fun e => by rw [notW_of0 e] at hw; cases hw
  have hS : ∀ k, S k → o1 k = o2 k ∧ HH1 k = HH2 k ∧ HH1 (k + 1) = HH2 (k + 1) := fun k hk => by
    have n1 : k ≠ k0 := fun e => h1 (e ▸ hk)
    have n2 : k ≠ k0 + 1 := fun e => h2 (e ▸ hk)
    exact ⟨ho k n1 n2, hH k n2, hH (k + 1) (by omega)⟩
  have hHc := hH c (by omega)
  have hH0 := hH 0 (by omega)
  refine ⟨I.cle, ?_, fun k hk => ?_, fun k q1 q2 q3 => ?_, by rw [← hHc]; exact I.hr, by rw [← hHc, ← hH0]; exact I.st, fun k y q1 q2 q3 q4 => ?_, fun k y b q1 q2 q3 q4 q5 => ?_, fun j k y z b d q1 q2 q3 q4 q5 q6 q7 q8 q9 q10 q11 => ?_, fun q b hq => ?_, fun j q1 q2 t q3 => ?_, fun t q => ?_, I.siz, I.dfr⟩
  · rcases I.base with h | ⟨b, hb, hb'⟩
    · exact .inl h
    · exact .inr ⟨b, hb, by rw [← ho b (by omega) (by omega)]; exact hb'⟩
  · rw [← ho k (by omega) (by omega)]; exact I.low k hk
  · rw [← (hS k q3).1]; exact I.noW k q1 q2 q3
  · obtain ⟨e1, e2, e3⟩ := hS k q3
    rw [← e2, ← e3] at q4
    rw [← e2, ← e3]; exact I.ex k y q1 q2 q3 q4
  · obtain ⟨e1, e2, e3⟩ := hS k q3
    rw [← e2, ← e3] at q4
    rw [← e2] at q5
    rw [← hHc]; exact I.exd k y b q1 q2 q3 q4 q5
  · obtain ⟨e1, e2, e3⟩ := hS j q3
    obtain ⟨f1, f2, f3⟩ := hS k q7
    rw [← e2, ← e3] at q4
    rw [← f2, ← f3] at q8
    rw [← e2] at q9
    rw [← f2] at q10
    exact I.exx j k y z b d q1 q2 q3 q4 q5 q6 q7 q8 q9 q10 q11
  · rcases I.dom q b hq with h | ⟨k, y, q1, q2, q3, q4, q5⟩
    · exact .inl (by rw [← hHc]; exact h)
    · obtain ⟨e1, e2, e3⟩ := hS k q3
      exact .inr ⟨k, y, q1, q2, q3, by rw [← e2, ← e3]; exact q4, by rw [← e2]; exact q5⟩
  · obtain ⟨e1, e2, e3⟩ := hS j q2
    rw [← e3]; exact I.fr1 j q1 q2 t (by rw [e1]; exact q3)
  · rw [← hH0]
    exact I.fr0 t fun j q1 q2 => by rw [(hS j q2).1]; exact q j q1 q2

theorem any_pair (hs : SgOk σ) (hC : CallOk p σ E run) (C1 : Cn p E run nt ops o1 A1 FF HH1 vv exc1) (C2 : Cn p E run nt ops o2 A2 FF HH2 vv exc2) (hk0 : k0 + 1 < ops.size)
    (ho : ∀ k, k ≠ k0 → k ≠ k0 + 1 → o1 k = o2 k) (hab : o1 k0 = o2 (k0 + 1)) (hba : o1 (k0 + 1) = o2 k0) (hH : ∀ k, k ≠ k0 + 1 → HH1 k = HH2 k) (hw : (XOf p nt ops (o1 k0)).op.isW = true)
    (hx1 : ∀ i x, exc1 i x → i = o1 (k0 + 1) ∧ x = o1 k0) (hx2 : ∀ i x, exc2 i x → i = o2 (k0 + 1) ∧ x = o2 k0) (hA12 : ∀ i, i ≠ o1 k0 → i ≠ o1 (k0 + 1) → A1 i = A2 i) {Q : Exit → Act → World → Prop}
    (hQ : ∀ a w ρ, FR σ ρ (FF ops.size) a → nt ≤ a.tmps.size → DfOk p a.defers → HR σ ρ (HH1 ops.size) w → Stp ρ0 (HH1 0) w0 ρ (HH1 ops.size) w → Q .normal a w) :
    ∀ (fuel : Nat) (listed : Array Bool) (a : Act) (w : World) (S : Nat → Prop) (c : Nat) (ρ : Ren), Inv σ p nt ops o1 FF HH1 vv ρ0 w0 S c ρ a w → ¬ S k0 → ¬ S (k0 + 1) → Lst ops o1 A1 S listed → unl ops.size listed ≤ fuel → wpAny p .any ops Q fuel listed a w := by
  have e0 := hH 0 (by omega)
  have en := hH ops.size (by omega)
  intro fuel
  induction fuel with
  | zero =>
    intro listed a w S c ρ I n1 n2 L hf
    exact absurd (L.rdy C1 (unl_zero hf) k0 (by omega)) n1
  | succ fuel ih =>
    intro listed a w S c ρ I n1 n2 L hf
    refine ⟨fun hr => absurd (L.rdy C1 hr k0 (by omega)) n1, fun i hi => ?_⟩
    obtain ⟨k, hk, rfl⟩ := C1.surj i (ready_iff.1 hi).1
    by_cases e : k = k0 + 1
    · subst e
      have hS12 : ∀ j, j < ops.size → S j → j ≠ k0 ∧ j ≠ k0 + 1 := fun j hj h => ⟨fun e => n1 (e ▸ h), fun e => n2 (e ▸ h)⟩
      have I2 := I.swap ho hH hw n1 n2
      have L2 : Lst ops o2 A2 S listed := by
        refine ⟨L.size, fun j hj => ?_, fun i j hi' hj hSj hm => ?_⟩
        · by_cases e1 : j = k0
          · subst e1
            rw [← hba, ← L.iff (j + 1) (by omega)]
            exact ⟨fun h => absurd h n1, fun h => absurd h n2⟩
          · by_cases e2 : j = k0 + 1
            · subst e2
              rw [← hab, ← L.iff k0 (by omega)]
              exact ⟨fun h => absurd h n2, fun h => absurd h n1⟩
            · rw [← ho j e1 e2]; exact L.iff j hj
        · obtain ⟨j1, j2⟩ := hS12 j hj hSj
          have d1 : o1 j ≠ o1 k0 := fun e => j1 (C1.inj j k0 hj (by omega) e)
          have d2 : o1 j ≠ o1 (k0 + 1) := fun e => j2 (C1.inj j _ hj hk e)
          rw [← ho j j1 j2, ← hA12 _ d1 d2] at hm
          by_cases e1 : i = k0
          · subst e1
            rw [← hba] at hm
            exact absurd (L.cl _ j hk hj hSj hm) n2
          · by_cases e2 : i = k0 + 1
            · subst e2
              rw [← hab] at hm
              exact absurd (L.cl _ j (by omega) hj hSj hm) n1
            · rw [← ho i e1 e2] at hm
              exact L.cl i j hi' hj hSj hm
      rw [hba] at hi ⊢
      obtain ⟨hnS, hA⟩ := L2.anc C2 (by omega) hi (fun x h => by
        have := C2.inj k0 (k0 + 1) (by omega) hk (hx2 _ _ h).1
        omega)
      exact I2.step hs hC C2 (by omega) hnS hA L2.cl fun c' ρ' a' w' I' =>
        any_order hs hC C2 (fun a w ρ k1 k2 k3 k4 k5 => hQ a w ρ k1 k2 k3 (by rw [en]; exact k4) (by rw [e0, en]; exact k5)) fuel _ a' w' _ c' ρ' I' (L2.add C2 (by omega) hA)
          (fun i x h => ⟨k0, by omega, (hx2 i x h).2.symm, .inr rfl⟩) (unl_add L.size hi hf)
    · obtain ⟨hnS, hA⟩ := L.anc C1 hk hi (fun x h => by
        have := C1.inj k (k0 + 1) hk hk0 (hx1 _ _ h).1
        exact absurd this e)
      refine I.step hs hC C1 hk hnS hA L.cl fun c' ρ' a' w' I' => ?_
      by_cases e1 : k = k0
      · exact any_order hs hC C1 hQ fuel _ a' w' _ c' ρ' I' (L.add C1 hk hA) (fun i x h => ⟨k0, by omega, (hx1 i x h).2.symm, .inr e1.symm⟩) (unl_add L.size hi hf)
      · exact ih _ a' w' _ c' ρ' I' (by rintro (h | h); exact n1 h; exact e1 h.symm) (by rintro (h | h); exact n2 h; exact e h.symm) (L.add C1 hk hA) (unl_add L.size hi hf)
end
end Go.Proofs.YtfhjamimbgdfpaaGreat.X
