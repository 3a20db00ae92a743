/- A verified executor of the program's code, part XDrP; no condition. -/
import Derived.Test.YtafignheedbnbaaGreatDoorXDr1
import Derived.Test.YtafignheedbnbaaGreatDoorXSound
namespace Go.Proofs.YtafignheedbnbaaGreatDoor.X
open Go
set_option linter.unusedVariables false
set_option linter.unusedSimpArgs false

theorem Tr.put_comm {α : Type} (v u : Option α) : ∀ (p q : P) (t : Tr α), p ≠ q → (t.put v p).put u q = (t.put u q).put v p
  | .h, .h, _, h => absurd rfl h
  | .h, .o q, .lf, _ => by simp
  | .h, .o q, .nd _ _ _, _ => by simp
  | .h, .i q, .lf, _ => by simp
  | .h, .i q, .nd _ _ _, _ => by simp
  | .o p, .h, .lf, _ => by simp
  | .o p, .h, .nd _ _ _, _ => by simp
  | .i p, .h, .lf, _ => by simp
  | .i p, .h, .nd _ _ _, _ => by simp
  | .o p, .i q, .lf, _ => by simp
  | .o p, .i q, .nd _ _ _, _ => by simp
  | .i p, .o q, .lf, _ => by simp
  | .i p, .o q, .nd _ _ _, _ => by simp
  | .o p, .o q, .lf, h => by simp [Tr.put_comm v u p q .lf (fun e => h (by rw [e]))]
  | .o p, .o q, .nd l _ _, h => by simp [Tr.put_comm v u p q l (fun e => h (by rw [e]))]
  | .i p, .i q, .lf, h => by simp [Tr.put_comm v u p q .lf (fun e => h (by rw [e]))]
  | .i p, .i q, .nd _ _ r, h => by simp [Tr.put_comm v u p q r (fun e => h (by rw [e]))]
theorem storen_spec {H H' : Hp} {b : P} {i : Nat} {vs : List V} (h : H.storen b i vs = some H') : ∃ c n pl, H.get b = some (.cells c n pl) ∧ H' = H.set b (.cells (rowOf vs i c) n pl) ∧ ∀ G : Hp, G.get b = some (.cells c n pl) → G.storen b i vs = some (G.set b (.cells (rowOf vs i c) n pl)) := by
  unfold Hp.storen at h
  split at h
  · rename_i c n pl hg
    rw [cond_eq_ite] at h
    split at h
    · rename_i hc
      simp at h; subst h
      refine ⟨c, n, pl, hg, rfl, fun G hG => ?_⟩
      unfold Hp.storen
      rw [hG]
      simp only [hc, cond_true]
    · cases h
  · cases h
theorem store_spec {F : Fr} {H H' : Hp} {n : Nat} {x y : Opd} {v : V} (h : doX (.store n x y) F H = some (v, H')) : ∃ b i, ev F x = .ptr (some (b, i)) ∧ v = V.undef ∧ H.storen b i (ev F y).cells = some H' ∧
    ∀ G G', G.storen b i (ev F y).cells = some G' → doX (.store n x y) F G = some (V.undef, G') := by
  simp only [doX, cond_eq_ite] at h
  split at h
  · rename_i hc
    split at h
    · rename_i b i e
      split at h
      · rename_i H1 hs
        simp at h; obtain ⟨rfl, rfl⟩ := h
        refine ⟨b, i, e, rfl, hs, fun G G' hG => ?_⟩
        simp only [doX, cond_eq_ite]
        rw [if_pos hc, e]
        simp only [hG]
      · cases h
    · cases h
  · cases h
/-- two stores into two blocks, the other way round -/
theorem store_comm {F : Fr} {H H1 H2 : Hp} {n m : Nat} {x y x' y' : Opd} {v v' : V} (h1 : doX (.store n x y) F H = some (v, H1)) (h2 : doX (.store m x' y') F H1 = some (v', H2))
    (hne : ∀ b i c j, ev F x = .ptr (some (b, i)) → ev F x' = .ptr (some (c, j)) → b ≠ c) :
    v = V.undef ∧ v' = V.undef ∧ ∃ G, G.next = H.next ∧ H2.next = H.next ∧ H1.next = H.next ∧ doX (.store m x' y') F H = some (V.undef, G) ∧ doX (.store n x y) F G = some (V.undef, H2) := by
  obtain ⟨b, i, e1, rfl, s1, k1⟩ := store_spec h1
  obtain ⟨c, j, e2, rfl, s2, k2⟩ := store_spec h2
  have hbc := hne b i c j e1 e2
  obtain ⟨cc, cn, cp, g1, rfl, z1⟩ := storen_spec s1
  obtain ⟨dc, dn, dp, g2, rfl, z2⟩ := storen_spec s2
  have g2' : H.get c = some (.cells dc dn dp) := by
    rw [Hp.get_set, if_neg (fun e => hbc e.symm)] at g2; exact g2
  refine ⟨rfl, rfl, H.set c (.cells (rowOf (ev F y').cells j dc) dn dp), rfl, rfl, rfl, k2 _ _ (z2 H g2'), k1 _ _ ?_⟩
  rw [z1 _ (by rw [Hp.get_set, if_neg hbc]; exact g1)]
  unfold Hp.set
  simp only [Option.some.injEq, Hp.mk.injEq, and_true]
  exact Tr.put_comm _ _ _ _ _ (fun e => hbc e.symm)

section
variable {p : Program} {σ : Sg} {E : Env} {run : Run} {nt : Nat} {ops : Array Oper} {A : Nat → List Nat} {FF : Nat → Fr} {vv : Nat → V}
variable {o1 o2 : Nat → Nat} {A1 A2 : Nat → List Nat} {HH1 HH2 : Nat → Hp} {exc1 exc2 : Nat → Nat → Prop}
variable {ρ0 ρ : Ren} {w0 w w' : World} {S : Nat → Prop} {c k0 : Nat} {a : Act} {x : Value}

theorem Inv.swap (ho : ∀ k, k ≠ k0 → k ≠ k0 + 1 → o1 k = o2 k) (hH : ∀ k, k ≠ k0 + 1 → HH1 k = HH2 k) (hw : (XOf p nt ops (o1 k0)).op.isW = true)
    (I : Inv σ p nt ops o1 FF HH1 vv ρ0 w0 S c ρ a w) (h1 : ¬ S k0) (h2 : ¬ S (k0 + 1)) : Inv σ p nt ops o2 FF HH2 vv ρ0 w0 S c ρ a w := by
  have hc : c ≤ k0 := Nat.le_of_not_lt fun h => (I.low k0 h).elim h1 fun e => by rw [notW_of0 e] at hw; cases hw
  have hS : ∀ k, S k → o1 k = o2 k ∧ HH1 k = HH2 k ∧ HH1 (k + 1) = HH2 (k + 1) := fun k hk => by
    have n1 : k ≠ k0 := fun e => h1 (e ▸ hk)
    have n2 : k ≠ k0 + 1 := fun e => h2 (e ▸ hk)
    exact ⟨ho k n1 n2, hH k n2, hH (k + 1) (by omega)⟩
  have hHc := hH c (by omega)
  have hH0 := hH 0 (by omega)
  refine ⟨I.cle, ?_, fun k hk => ?_, fun k q1 q2 q3 => ?_, by rw [← hHc]; exact I.hr, by rw [← hHc, ← hH0]; exact I.st, fun k y q1 q2 q3 q4 => ?_, fun k y b q1 q2 q3 q4 q5 => ?_, fun j k y z b d q1 q2 q3 q4 q5 q6 q7 q8 q9 q10 q11 => ?_, fun q b hq => ?_, fun j q1 q2 t q3 => ?_, fun t q => ?_, I.siz, I.dfr⟩
  · rcases I.base with h | ⟨b, hb, hb'⟩
    · exact .inl h
    · exact .inr ⟨b, hb, by rw [← ho b (by omega) (by omega)]; exact hb'⟩
  · rw [← ho k (by omega) (by omega)]; exact I.low k hk
  · rw [← (hS k q3).1]; exact I.noW k q1 q2 q3
  · obtain ⟨e1, e2, e3⟩ := hS k q3
    rw [← e2, ← e3] at q4
    rw [← e2, ← e3]; exact I.ex k y q1 q2 q3 q4
  · obtain ⟨e1, e2, e3⟩ := hS k q3
    rw [← e2, ← e3] at q4
    rw [← e2] at q5
    rw [← hHc]; exact I.exd k y b q1 q2 q3 q4 q5
  · obtain ⟨e1, e2, e3⟩ := hS j q3
    obtain ⟨f1, f2, f3⟩ := hS k q7
    rw [← e2, ← e3] at q4
    rw [← f2, ← f3] at q8
    rw [← e2] at q9
    rw [← f2] at q10
    exact I.exx j k y z b d q1 q2 q3 q4 q5 q6 q7 q8 q9 q10 q11
  · rcases I.dom q b hq with h | ⟨k, y, q1, q2, q3, q4, q5⟩
    · exact .inl (by rw [← hHc]; exact h)
    · obtain ⟨e1, e2, e3⟩ := hS k q3
      exact .inr ⟨k, y, q1, q2, q3, by rw [← e2, ← e3]; exact q4, by rw [← e2]; exact q5⟩
  · obtain ⟨e1, e2, e3⟩ := hS j q2
    rw [← e3]; exact I.fr1 j q1 q2 t (by rw [e1]; exact q3)
  · rw [← hH0]
    exact I.fr0 t fun j q1 q2 => by rw [(hS j q2).1]; exact q j q1 q2

theorem any_pair (hs : SgOk σ) (hC : CallOk p σ E run) (C1 : Cn p E run nt ops o1 A1 FF HH1 vv exc1) (C2 : Cn p E run nt ops o2 A2 FF HH2 vv exc2) (hk0 : k0 + 1 < ops.size)
    (ho : ∀ k, k ≠ k0 → k ≠ k0 + 1 → o1 k = o2 k) (hab : o1 k0 = o2 (k0 + 1)) (hba : o1 (k0 + 1) = o2 k0) (hH : ∀ k, k ≠ k0 + 1 → HH1 k = HH2 k) (hw : (XOf p nt ops (o1 k0)).op.isW = true)
    (hx1 : ∀ i x, exc1 i x → i = o1 (k0 + 1) ∧ x = o1 k0) (hx2 : ∀ i x, exc2 i x → i = o2 (k0 + 1) ∧ x = o2 k0) (hA12 : ∀ i, i ≠ o1 k0 → i ≠ o1 (k0 + 1) → A1 i = A2 i) {Q : Exit → Act → World → Prop}
    (hQ : ∀ a w ρ, FR σ ρ (FF ops.size) a → nt ≤ a.tmps.size → DfOk p a.defers → HR σ ρ (HH1 ops.size) w → Stp ρ0 (HH1 0) w0 ρ (HH1 ops.size) w → Q .normal a w) :
    ∀ (fuel : Nat) (listed : Array Bool) (a : Act) (w : World) (S : Nat → Prop) (c : Nat) (ρ : Ren), Inv σ p nt ops o1 FF HH1 vv ρ0 w0 S c ρ a w → ¬ S k0 → ¬ S (k0 + 1) → Lst ops o1 A1 S listed → unl ops.size listed ≤ fuel → wpAny p .any ops Q fuel listed a w := by
  have e0 := hH 0 (by omega)
  have en := hH ops.size (by omega)
  intro fuel
  induction fuel with
  | zero =>
    intro listed a w S c ρ I n1 n2 L hf
    exact absurd (L.rdy C1 (unl_zero hf) k0 (by omega)) n1
  | succ fuel ih =>
    intro listed a w S c ρ I n1 n2 L hf
    refine ⟨fun hr => absurd (L.rdy C1 hr k0 (by omega)) n1, fun i hi => ?_⟩
    obtain ⟨k, hk, rfl⟩ := C1.surj i (ready_iff.1 hi).1
    by_cases e : k = k0 + 1
    · subst e
      have hS12 : ∀ j, j < ops.size → S j → j ≠ k0 ∧ j ≠ k0 + 1 := fun j hj h => ⟨fun e => n1 (e ▸ h), fun e => n2 (e ▸ h)⟩
      have I2 := I.swap ho hH hw n1 n2
      have L2 : Lst ops o2 A2 S listed := by
        refine ⟨L.size, fun j hj => ?_, fun i j hi' hj hSj hm => ?_⟩
        · by_cases e1 : j = k0
          · subst e1
            rw [← hba, ← L.iff (j + 1) (by omega)]
            exact ⟨fun h => absurd h n1, fun h => absurd h n2⟩
          · by_cases e2 : j = k0 + 1
            · subst e2
              rw [← hab, ← L.iff k0 (by omega)]
              exact ⟨fun h => absurd h n2, fun h => absurd h n1⟩
            · rw [← ho j e1 e2]; exact L.iff j hj
        · obtain ⟨j1, j2⟩ := hS12 j hj hSj
          have d1 : o1 j ≠ o1 k0 := fun e => j1 (C1.inj j k0 hj (by omega) e)
          have d2 : o1 j ≠ o1 (k0 + 1) := fun e => j2 (C1.inj j _ hj hk e)
          rw [← ho j j1 j2, ← hA12 _ d1 d2] at hm
          by_cases e1 : i = k0
          · subst e1
            rw [← hba] at hm
            exact absurd (L.cl _ j hk hj hSj hm) n2
          · by_cases e2 : i = k0 + 1
            · subst e2
              rw [← hab] at hm
              exact absurd (L.cl _ j (by omega) hj hSj hm) n1
            · rw [← ho i e1 e2] at hm
              exact L.cl i j hi' hj hSj hm
      rw [hba] at hi ⊢
      obtain ⟨hnS, hA⟩ := L2.anc C2 (by omega) hi (fun x h => by
        have := C2.inj k0 (k0 + 1) (by omega) hk (hx2 _ _ h).1
        omega)
      exact I2.step hs hC C2 (by omega) hnS hA L2.cl fun c' ρ' a' w' I' =>
        any_order hs hC C2 (fun a w ρ k1 k2 k3 k4 k5 => hQ a w ρ k1 k2 k3 (by rw [en]; exact k4) (by rw [e0, en]; exact k5)) fuel _ a' w' _ c' ρ' I' (L2.add C2 (by omega) hA)
          (fun i x h => ⟨k0, by omega, (hx2 i x h).2.symm, .inr rfl⟩) (unl_add L.size hi hf)
    · obtain ⟨hnS, hA⟩ := L.anc C1 hk hi (fun x h => by
        have := C1.inj k (k0 + 1) hk hk0 (hx1 _ _ h).1
        exact absurd this e)
      refine I.step hs hC C1 hk hnS hA L.cl fun c' ρ' a' w' I' => ?_
      by_cases e1 : k = k0
      · exact any_order hs hC C1 hQ fuel _ a' w' _ c' ρ' I' (L.add C1 hk hA) (fun i x h => ⟨k0, by omega, (hx1 i x h).2.symm, .inr e1.symm⟩) (unl_add L.size hi hf)
      · exact ih _ a' w' _ c' ρ' I' (by rintro (h | h); exact n1 h; exact e1 h.symm) (by rintro (h | h); exact n2 h; exact e h.symm) (L.add C1 hk hA) (unl_add L.size hi hf)
end
end Go.Proofs.YtafignheedbnbaaGreatDoor.X
namespace Go.Proofs.YtafignheedbnbaaGreatDoor.X
open Go
set_option linter.unusedVariables false
set_option linter.unusedSimpArgs false
section
variable {p : Program} {σ : Sg} {E : Env} {run : Run} {nt : Nat} {ops : Array Oper} {A : Nat → List Nat} {o : Nat → Nat} {FF : Nat → Fr} {HH : Nat → Hp} {vv : Nat → V} {k0 : Nat} {exc1 : Nat → Nat → Prop}

def sw (k0 k : Nat) : Nat := if k = k0 then k0 + 1 else if k = k0 + 1 then k0 else k
theorem sw_sw (k0 k : Nat) : sw k0 (sw k0 k) = k := by unfold sw; split <;> (try split) <;> (try split) <;> omega
theorem sw_lt {k0 k n : Nat} (h : k < n) (h0 : k0 + 1 < n) : sw k0 k < n := by unfold sw; split <;> (try split) <;> omega
theorem sw_far {k0 k : Nat} (h : k ≠ k0) (h' : k ≠ k0 + 1) : sw k0 k = k := by unfold sw; rw [if_neg h, if_neg h']
theorem sw_0 (k0 : Nat) : sw k0 k0 = k0 + 1 := by unfold sw; rw [if_pos rfl]
theorem sw_1 (k0 : Nat) : sw k0 (k0 + 1) = k0 := by unfold sw; rw [if_neg (by omega), if_pos rfl]
/-- one more ancestor -/
def more (A : Nat → List Nat) (i x : Nat) : Nat → List Nat := fun j => if j = i then x :: A j else A j
theorem more_sub {A : Nat → List Nat} {i x j y : Nat} (h : y ∈ A j) : y ∈ more A i x j := by unfold more; split; exact List.mem_cons_of_mem _ h; exact h
theorem more_ne {A : Nat → List Nat} {i x j : Nat} (h : j ≠ i) : more A i x j = A j := by unfold more; rw [if_neg h]
theorem more_eq {A : Nat → List Nat} {i x : Nat} : more A i x i = x :: A i := by unfold more; rw [if_pos rfl]

theorem Cn.swap (C : Cn p E run nt ops o (more A (o (k0 + 1)) (o k0)) FF HH vv exc1) (hk0 : k0 + 1 < ops.size)
    (bindA : ∀ i, i < ops.size → ∀ e ∈ (ops.getD i default).after, Region.binds .any e = true → e.on ∈ A i)
    (ancA : ∀ i, i < ops.size → ∀ x ∈ A i, ∃ e ∈ (ops.getD i default).after, Region.binds .any e = true ∧ (e.on = x ∨ x ∈ A e.on))
    {n m : Nat} {x y x' y' : Opd} (hs1 : (XOf p nt ops (o k0)).op = .store n x y) (hs2 : (XOf p nt ops (o (k0 + 1))).op = .store m x' y') (hg1 : (XOf p nt ops (o k0)).g = none) (hg2 : (XOf p nt ops (o (k0 + 1))).g = none)
    (hd1 : (ops.getD (o k0) default).dst = none) (hd2 : (ops.getD (o (k0 + 1)) default).dst = none) (hna : o k0 ∉ A (o (k0 + 1)))
    (hap : ∀ b i c j, ev (FF k0) x = .ptr (some (b, i)) → ev (FF k0) x' = .ptr (some (c, j)) → b ≠ c)
    (hQ : ∀ k, k0 + 1 < k → k < ops.size → (XOf p nt ops (o k)).op.isQ = true → o k0 ∈ A (o k)) :
    ∃ HH2, (∀ k, k ≠ k0 + 1 → HH k = HH2 k) ∧ Cn p E run nt ops (fun k => o (sw k0 k)) (more A (o k0) (o (k0 + 1))) FF HH2 vv (fun i x => i = o k0 ∧ x = o (k0 + 1)) := by
  have hW : ∀ k, k = k0 ∨ k = k0 + 1 → (XOf p nt ops (o k)).op.isW = true ∧ (XOf p nt ops (o k)).op.isQ = false := by
    rintro k (rfl | rfl)
    · rw [hs1]; exact ⟨rfl, rfl⟩
    · rw [hs2]; exact ⟨rfl, rfl⟩
  have hne : o k0 ≠ o (k0 + 1) := fun e => by have := C.inj _ _ (by omega) hk0 e; omega
  have st1 : opX E run (.store n x y) (FF k0) (HH k0) = some (vv k0, HH (k0 + 1)) := by
    rcases C.step k0 (by omega) with ⟨-, h⟩ | ⟨h, -⟩
    · rw [hs1] at h; exact h
    · rw [hg1] at h; simp [want] at h
  have st2 : opX E run (.store m x' y') (FF (k0 + 1)) (HH (k0 + 1)) = some (vv (k0 + 1), HH (k0 + 1 + 1)) := by
    rcases C.step (k0 + 1) hk0 with ⟨-, h⟩ | ⟨h, -⟩
    · rw [hs2] at h; exact h
    · rw [hg2] at h; simp [want] at h
  have f1 : FF (k0 + 1) = FF k0 := by rw [C.fs k0 (by omega), (C.spec (by omega)).2.2.1, hd1]; rfl
  have f2 : FF (k0 + 1 + 1) = FF (k0 + 1) := by rw [C.fs (k0 + 1) hk0, (C.spec hk0).2.2.1, hd2]; rfl
  rw [f1] at st2
  obtain ⟨v1, v2, G, g1, g2, g3, d1, d2⟩ := store_comm (F := FF k0) st1 st2 hap
  have hfar : ∀ k, k < ops.size → k ≠ k0 → k ≠ k0 + 1 → o k ≠ o k0 ∧ o k ≠ o (k0 + 1) := fun k hk h1 h2 => ⟨fun e => h1 (C.inj _ _ hk (by omega) e), fun e => h2 (C.inj _ _ hk hk0 e)⟩
  have A1far : ∀ k, k ≠ k0 + 1 → k < ops.size → more A (o (k0 + 1)) (o k0) (o k) = A (o k) := fun k h hk => more_ne fun e => h (C.inj _ _ hk hk0 e)
  have A2far : ∀ k, k ≠ k0 → k < ops.size → more A (o k0) (o (k0 + 1)) (o k) = A (o k) := fun k h hk => more_ne fun e => h (C.inj _ _ hk (by omega) e)
  obtain ⟨HH2, H2, H2e⟩ : ∃ HH2 : Nat → Hp, (∀ k, k ≠ k0 + 1 → HH2 k = HH k) ∧ HH2 (k0 + 1) = G := ⟨fun k => if k = k0 + 1 then G else HH k, fun k h => if_neg h, if_pos rfl⟩
  refine ⟨HH2, fun k h => (H2 k h).symm, ?_⟩
  refine { lt := fun k hk => C.lt _ (sw_lt hk hk0), surj := fun i hi => ?_, inj := fun j k hj hk e => ?_, bind := fun k hk e he hb => more_sub (bindA _ (C.lt _ (sw_lt hk hk0)) e he hb), anc := fun k hk z hz => ?_, ancE := fun k hk z hz => ?_, wall := fun k hk hw j hj => ?_, looks := fun j k hj hk hjk d hd1' hd2' => ?_, dsts := fun j k hj hk hjk d hd => ?_, opds := fun k hk => C.opds _ (sw_lt hk hk0), step := fun k hk => ?_, fs := fun k hk => ?_, mono := fun k hk hw => ?_, q := fun k hk hq hwn c hck hb hno => ?_, qn := fun k hk hq c hck hno j hj1 hj2 hN => ?_ }
  · obtain ⟨k, hk, e⟩ := C.surj i hi
    exact ⟨sw k0 k, sw_lt hk hk0, by rw [sw_sw]; exact e⟩
  · have := C.inj _ _ (sw_lt hj hk0) (sw_lt hk hk0) e
    rw [← sw_sw k0 j, this, sw_sw]
  · by_cases e1 : k = k0
    · subst e1
      simp only [sw_0] at hz
      rw [A2far _ (by omega) hk0] at hz
      obtain ⟨j, hj, e⟩ := C.anc _ hk0 z (more_sub hz)
      have : j ≠ k := fun e' => hna (by rw [e'] at e; rw [e]; exact hz)
      exact ⟨j, by omega, by rw [sw_far this (by omega)]; exact e⟩
    · by_cases e2 : k = k0 + 1
      · subst e2
        simp only [sw_1] at hz
        rw [more_eq] at hz
        rcases List.mem_cons.1 hz with rfl | hz
        · exact ⟨k0, by omega, by rw [sw_0]⟩
        · obtain ⟨j, hj, e⟩ := C.anc k0 (by omega) z (more_sub hz)
          exact ⟨j, by omega, by rw [sw_far (by omega) (by omega)]; exact e⟩
      · simp only [sw_far e1 e2] at hz
        rw [A2far _ e1 hk] at hz
        obtain ⟨j, hj, e⟩ := C.anc k hk z (more_sub hz)
        refine ⟨sw k0 j, ?_, by rw [sw_sw]; exact e⟩
        unfold sw; split <;> (try split) <;> omega
  · have base : ∀ i, i < ops.size → z ∈ A i → ∃ e ∈ (ops.getD i default).after, Region.binds .any e = true ∧ (e.on = z ∨ z ∈ more A (o k0) (o (k0 + 1)) e.on) := fun i hi h => by
      obtain ⟨e, he, hb, h'⟩ := ancA i hi z h
      exact ⟨e, he, hb, h'.imp id more_sub⟩
    by_cases e2 : k = k0 + 1
    · subst e2
      simp only [sw_1] at hz ⊢
      rw [more_eq] at hz
      rcases List.mem_cons.1 hz with rfl | hz
      · exact .inl (by simp)
      · exact .inr (base _ (C.lt _ (by omega)) hz)
    · have : sw k0 k ≠ k0 := fun e => e2 (by rw [← sw_sw k0 k, e, sw_0])
      rw [A2far _ this (sw_lt hk hk0)] at hz
      exact .inr (base _ (C.lt _ (sw_lt hk hk0)) hz)
  · by_cases e1 : k = k0
    · subst e1
      simp only [sw_0]
      rw [A2far _ (by omega) hk0, sw_far (by omega) (by omega)]
      rcases C.wall (k + 1) hk0 (hW _ (.inr rfl)).1 j (by omega) with h | h
      · rw [more_eq] at h
        rcases List.mem_cons.1 h with h | h
        · have := C.inj _ _ (by omega) (by omega) h; omega
        · exact .inl h
      · exact .inr h
    · by_cases e2 : k = k0 + 1
      · subst e2
        simp only [sw_1]
        rw [more_eq]
        by_cases e3 : j = k0
        · subst e3; rw [sw_0]; exact .inl (by simp)
        · rw [sw_far e3 (by omega)]
          rcases C.wall k0 (by omega) (hW _ (.inl rfl)).1 j (by omega) with h | h
          · rw [A1far k0 (by omega) (by omega)] at h
            exact .inl (List.mem_cons_of_mem _ h)
          · exact .inr h
      · simp only [sw_far e1 e2] at hw ⊢
        rw [A2far _ e1 hk]
        have hsj : sw k0 j < k := by unfold sw; split <;> (try split) <;> omega
        rcases C.wall k hk hw (sw k0 j) hsj with h | h
        · rw [A1far k e2 hk] at h; exact .inl h
        · exact .inr h
  · have hjw : sw k0 j ≠ k0 ∧ sw k0 j ≠ k0 + 1 := ⟨fun e => (by rw [e, hd1] at hd1'; cases hd1'), fun e => (by rw [e, hd2] at hd1'; cases hd1')⟩
    rcases C.looks (sw k0 j) (sw k0 k) (sw_lt hj hk0) (sw_lt hk hk0) (fun e => hjk (by rw [← sw_sw k0 j, e, sw_sw])) d hd1' hd2' with h | h
    · left
      by_cases e : sw k0 k = k0 + 1
      · rw [e, more_eq] at h
        rcases List.mem_cons.1 h with h | h
        · exact absurd (C.inj _ _ (sw_lt hj hk0) (by omega) h) hjw.1
        · rw [e]; exact more_sub h
      · rw [A1far _ e (sw_lt hk hk0)] at h; exact more_sub h
    · right
      rw [A1far _ hjw.2 (sw_lt hj hk0)] at h; exact more_sub h
  · exact C.dsts _ _ (sw_lt hj hk0) (sw_lt hk hk0) (fun e => hjk (by rw [← sw_sw k0 j, e, sw_sw])) d hd
  · by_cases e1 : k = k0
    · subst e1
      simp only [sw_0]
      rw [H2 k (by omega), H2e, hs2, hg2, v1]
      exact .inl ⟨rfl, d1⟩
    · by_cases e2 : k = k0 + 1
      · subst e2
        simp only [sw_1]
        rw [H2e, H2 (k0 + 1 + 1) (by omega), hs1, hg1, v2, f1]
        exact .inl ⟨rfl, d2⟩
      · simp only [sw_far e1 e2]
        rw [H2 k e2, H2 (k + 1) (by omega)]
        exact C.step k hk
  · by_cases e1 : k = k0
    · subst e1
      simp only [sw_0]
      rw [(C.spec hk0).2.2.1, hd2]; exact f1
    · by_cases e2 : k = k0 + 1
      · subst e2
        simp only [sw_1]
        rw [(C.spec (by omega)).2.2.1, hd1]; exact f2
      · simp only [sw_far e1 e2]; exact C.fs k hk
  · by_cases e1 : k = k0
    · subst e1
      rw [H2 k (by omega), H2e, g1]; exact Nat.le_refl _
    · by_cases e2 : k = k0 + 1
      · subst e2
        rw [H2e, H2 (k0 + 1 + 1) (by omega), g1, g2]; exact Nat.le_refl _
      · simp only [sw_far e1 e2] at hw ⊢
        rw [H2 k e2, H2 (k + 1) (by omega)]
        exact C.mono k hk hw
  · by_cases e1 : k = k0
    · subst e1
      simp only [sw_0] at hq
      rw [(hW _ (.inr rfl)).2] at hq; cases hq
    · by_cases e2 : k = k0 + 1
      · subst e2
        simp only [sw_1] at hq
        rw [(hW _ (.inl rfl)).2] at hq; cases hq
      · simp only [sw_far e1 e2] at hq hwn hno ⊢
        rw [A2far _ e1 hk] at hno
        have hcc : c ≠ k0 + 1 ∧ (k0 + 1 < k → k0 + 1 < c) := by
          have key : k0 + 1 < k → k0 + 1 < c := fun h => Nat.lt_of_not_le fun h' => hno (k0 + 1) h' h (by rw [sw_1]; exact (hW _ (.inl rfl)).1) (by rw [sw_1]; exact hQ k h hk hq)
          exact ⟨by omega, key⟩
        have hjf : ∀ j, c ≤ j → j < k → j ≠ k0 ∧ j ≠ k0 + 1 ∨ k < k0 := fun j h1 h2 => by omega
        have hj' : ∀ j, c ≤ j → j < k → sw k0 j = j := fun j h1 h2 => by
          rcases hjf j h1 h2 with ⟨a, b⟩ | h
          · exact sw_far a b
          · exact sw_far (by omega) (by omega)
        rw [H2 c hcc.1]
        have hb' : c = 0 ∨ ∃ b, c = b + 1 ∧ (XOf p nt ops (o b)).op.isW = true := by
          rcases hb with hb | ⟨b, hb, hbw⟩
          · exact .inl hb
          · refine .inr ⟨b, hb, ?_⟩
            by_cases eb : b = k0 + 1
            · subst eb; exact (hW _ (.inr rfl)).1
            · rw [sw_far (by omega) eb] at hbw; exact hbw
        rcases C.q k hk hq hwn c hck hb' (fun j h1 h2 h3 => by
          rw [A1far k e2 hk]
          have := hno j h1 h2
          rw [hj' j h1 h2] at this
          exact this h3) with h | h
        · exact .inl fun j h1 h2 => by rw [hj' j h1 h2]; exact h j h1 h2
        · exact .inr h
  · by_cases e1 : k = k0
    · subst e1
      simp only [sw_0] at hq
      rw [(hW _ (.inr rfl)).2] at hq; cases hq
    · by_cases e2 : k = k0 + 1
      · subst e2
        simp only [sw_1] at hq
        rw [(hW _ (.inl rfl)).2] at hq; cases hq
      · simp only [sw_far e1 e2] at hq ⊢
        rw [A2far _ e1 hk]
        have hcc : k0 + 1 < k → k0 + 1 < c := fun h => Nat.lt_of_not_le fun h' => by
          have := hno (k0 + 1) h' h
          simp only [sw_1] at this
          rw [(hW _ (.inl rfl)).1] at this; cases this
        have hj' : ∀ j, c ≤ j → j < k → sw k0 j = j := fun j h1 h2 => by
          by_cases h : k < k0
          · exact sw_far (by omega) (by omega)
          · have := hcc (by omega); exact sw_far (by omega) (by omega)
        rw [hj' j hj1 hj2] at hN ⊢
        have := C.qn k hk hq c hck (fun j h1 h2 => by have := hno j h1 h2; simp only [hj' j h1 h2] at this; exact this) j hj1 hj2 hN
        rwa [A1far k e2 hk] at this
end
end Go.Proofs.YtafignheedbnbaaGreatDoor.X
namespace Go.Proofs.YtafignheedbnbaaGreatDoor.X
open Go
set_option linter.unusedVariables false
set_option linter.unusedSimpArgs false
section
variable {p : Program} {σ : Sg} {E : Env} {run : Run} {nt : Nat} {ops : Array Oper}

theorem inL_iff {i : Nat} {l : List Nat} : inL i l = true ↔ i ∈ l := by
  unfold inL
  rw [List.any_eq_true]
  constructor
  · rintro ⟨x, hx, h⟩
    rw [beq_iff, decide_eq_true_eq] at h
    subst h; exact hx
  · intro h
    exact ⟨i, h, by rw [beq_iff]; simp⟩
/-- the chks of one of them -/
def chkOf (A : List (List Nat)) (x : XOp) (i : Nat) (dw : List Nat) : Nat := bif x.op.isQ then (dw.takeWhile fun w => !inL w (A.getD i [])).length else 0
theorem chks_cons (A : List (List Nat)) (xs : List XOp) (pa : Option Nat) (dw : List Nat) (i : Nat) (r : List Nat) : chks A xs pa dw (i :: r) =
    ⟨i, bif (xs.getD i default).op.isW then (bif pa == some i then 1 else 0) else chkOf A (xs.getD i default) i dw, (xs.getD i default).op.isW⟩ :: chks A xs pa (bif (xs.getD i default).op.isW then i :: dw else dw) r := by
  simp only [chks, chkOf]
  cases (xs.getD i default).op.isW <;> rfl
/-- what one step of a run in order does -/
structure St1 (p : Program) (E : Env) (run : Run) (nt : Nat) (ops : Array Oper) (A : List (List Nat)) (i : Nat) (F F' : Fr) (H H' B B' : Hp) (Hs Hs' : List Hp) (dw dw' : List Nat) (v : V) : Prop where
  fs : F' = putD F (XOf p nt ops i).dst v
  step : (want F (XOf p nt ops i).g = some true ∧ opX E run (XOf p nt ops i).op F H = some (v, H') ∧ ((XOf p nt ops i).op.isW = true → H.next.toNat ≤ H'.next.toNat) ∧
      ((XOf p nt ops i).op.isW = false → recheck (XOf p nt ops i).op F v Hs (chkOf A (XOf p nt ops i) i dw) = true)) ∨ (want F (XOf p nt ops i).g = some false ∧ v = V.undef ∧ H' = H)
  w : (XOf p nt ops i).op.isW = true → B' = H' ∧ Hs' = B :: Hs ∧ dw' = i :: dw
  nw : (XOf p nt ops i).op.isW = false → B' = B ∧ Hs' = Hs ∧ dw' = dw
def Sts (p : Program) (E : Env) (run : Run) (nt : Nat) (ops : Array Oper) (A : List (List Nat)) (pa : Option Nat) (r : List Nat) (dw : List Nat) (F : Fr) (H B : Hp) (Hs : List Hp) (F' : Fr) (H' : Hp) : Prop :=
  ∃ (FF : Nat → Fr) (HH BB : Nat → Hp) (HS : Nat → List Hp) (DW : Nat → List Nat) (vv : Nat → V), FF 0 = F ∧ HH 0 = H ∧ BB 0 = B ∧ HS 0 = Hs ∧ DW 0 = dw ∧ FF r.length = F' ∧ HH r.length = H' ∧
      ∀ k i, r[k]? = some i → St1 p E run nt ops A i (FF k) (FF (k + 1)) (HH k) (HH (k + 1)) (BB k) (BB (k + 1)) (HS k) (HS (k + 1)) (DW k) (DW (k + 1)) (vv k) ∧
        ((XOf p nt ops i).op.isW = true → want (FF k) (XOf p nt ops i).g = some true → pa = some i → ∀ i', r[k + 1]? = some i' → apart2 (FF k) (XOf p nt ops i).op (XOf p nt ops i').op = true)
theorem Sts.cons {A : List (List Nat)} {pa : Option Nat} {i : Nat} {r dw dw1 : List Nat} {F F1 F' : Fr} {H H1 H' B B1 : Hp} {Hs Hs1 : List Hp} {v : V} (hst : St1 p E run nt ops A i F F1 H H1 B B1 Hs Hs1 dw dw1 v) (hap : (XOf p nt ops i).op.isW = true → want F (XOf p nt ops i).g = some true → pa = some i → ∀ i', r[0]? = some i' → apart2 F (XOf p nt ops i).op (XOf p nt ops i').op = true) (h : Sts p E run nt ops A pa r dw1 F1 H1 B1 Hs1 F' H') : Sts p E run nt ops A pa (i :: r) dw F H B Hs F' H' := by
  obtain ⟨FF, HH, BB, HS, DW, vv, e1, e2, e3, e4, e5, e6, e7, e8⟩ := h
  refine ⟨fun k => match k with | 0 => F | k + 1 => FF k, fun k => match k with | 0 => H | k + 1 => HH k, fun k => match k with | 0 => B | k + 1 => BB k, fun k => match k with | 0 => Hs | k + 1 => HS k, fun k => match k with | 0 => dw | k + 1 => DW k, fun k => match k with | 0 => v | k + 1 => vv k,
        rfl, rfl, rfl, rfl, rfl, e6, e7, fun k j hk => ?_⟩
  cases k with
  | zero =>
    simp at hk; subst hk
    simp only [e1, e2, e3, e4, e5]; exact ⟨hst, fun q1 q2 q3 i' q4 => hap q1 q2 q3 i' (by simpa using q4)⟩
  | succ k => simp at hk; exact ⟨(e8 k j hk).1, fun q1 q2 q3 i' q4 => (e8 k j hk).2 q1 q2 q3 i' (by simpa using q4)⟩
theorem draw_states (A : List (List Nat)) (xs : List XOp) (pa : Option Nat) : ∀ (r : List Nat) (dw : List Nat) (F : Fr) (H B : Hp) (Hs : List Hp) (F' : Fr) (H' : Hp), (∀ i ∈ r, xs.getD i default = XOf p nt ops i) →
    drawX E run ((chks A xs pa dw r).map fun q => (q.chk, q.w, cOper p nt ops (ops.getD q.i default))) F H B Hs = some (F', H') → Sts p E run nt ops A pa r dw F H B Hs F' H' := by
  intro r
  induction r with
  | nil =>
    intro dw F H B Hs F' H' _ h
    simp [chks, drawX] at h
    obtain ⟨rfl, rfl⟩ := h
    exact ⟨fun _ => F, fun _ => H, fun _ => B, fun _ => Hs, fun _ => dw, fun _ => V.undef, rfl, rfl, rfl, rfl, rfl, rfl, rfl, fun k i h => by simp at h⟩
  | cons i r ih =>
    intro dw F H B Hs F' H' hx h
    have hxi := hx i (by simp)
    have hx' : ∀ j ∈ r, xs.getD j default = XOf p nt ops j := fun j hj => hx j (by simp [hj])
    rw [chks_cons, hxi] at h
    simp only [List.map_cons, drawX] at h
    cases hW : (XOf p nt ops i).op.isW with
    | true =>
      simp only [hW, cond_true] at h
      split at h
      · rename_i hw
        split at h
        · rename_i v H1 hop
          rw [cond_eq_ite] at h
          split at h
          · rename_i hle
            rw [Bool.and_eq_true] at hle
            refine Sts.cons (v := v) ⟨rfl, .inl ⟨hw, hop, fun _ => by simpa using hle.1, fun e => (by rw [hW] at e; cases e)⟩, fun _ => ⟨rfl, rfl, rfl⟩, fun e => (by rw [hW] at e; cases e)⟩ (fun _ _ q3 i' q4 => ?_) (ih _ _ _ _ _ _ _ hx' h)
            have hle2 := hle.2
            rw [q3] at hle2
            cases r with
            | nil => simp at q4
            | cons i2 r2 =>
              simp at q4; subst q4
              rw [chks_cons, hx' i2 (by simp)] at hle2
              simpa [apartB, XOf] using hle2
          · cases h
        · cases h
      · rename_i hw
        refine Sts.cons (v := V.undef) ⟨rfl, .inr ⟨hw, rfl, rfl⟩, fun _ => ⟨rfl, rfl, rfl⟩, fun e => (by rw [hW] at e; cases e)⟩ (fun _ q2 => (by rw [hw] at q2; cases q2)) (ih _ _ _ _ _ _ _ hx' h)
      · cases h
    | false =>
      simp only [hW, cond_false] at h
      split at h
      · rename_i hw
        split at h
        · rename_i v H1 hop
          rw [cond_eq_ite] at h
          split at h
          · rename_i hle
            refine Sts.cons (v := v) ⟨rfl, .inl ⟨hw, hop, fun e => (by rw [hW] at e; cases e), fun _ => hle⟩, fun e => (by rw [hW] at e; cases e), fun _ => ⟨rfl, rfl, rfl⟩⟩ (fun q1 => (by rw [hW] at q1; cases q1)) (ih _ _ _ _ _ _ _ hx' h)
          · cases h
        · cases h
      · rename_i hw
        refine Sts.cons (v := V.undef) ⟨rfl, .inr ⟨hw, rfl, rfl⟩, fun e => (by rw [hW] at e; cases e), fun _ => ⟨rfl, rfl, rfl⟩⟩ (fun q1 => (by rw [hW] at q1; cases q1)) (ih _ _ _ _ _ _ _ hx' h)
      · cases h

theorem recheck_get {x : XO} {F : Fr} {v : V} : ∀ {Hs : List Hp} {n r : Nat} {H : Hp}, recheck x F v Hs n = true → r < n → Hs[r]? = some H → ∃ m, doX x F H = some (v, m)
  | [], n, r, H, _, _, h => by simp at h
  | G :: Hs, 0, r, H, _, hr, _ => by omega
  | G :: Hs, n + 1, r, H, h, hr, hg => by
    simp only [recheck, Bool.and_eq_true] at h
    obtain ⟨h1, h2⟩ := h
    cases r with
    | zero =>
      simp at hg; subst hg
      split at h1
      · rename_i u m hd
        rw [sameV_eq h1]; exact ⟨m, hd⟩
      · cases h1
    | succ r => exact recheck_get (r := r) h2 (by omega) (by simpa using hg)

/-! ## What the plan's checks say -/
theorem orderOk_spec {A : List (List Nat)} {xs : List XOp} : ∀ (r done : List Nat), orderOk A xs done r = true → ∀ k i, r[k]? = some i →
    (∀ x ∈ A.getD i [], x ∈ (r.take k).reverse ++ done) ∧ i ∉ (r.take k).reverse ++ done ∧
    ((xs.getD i default).op.isW = true → ∀ x ∈ (r.take k).reverse ++ done, x ∈ A.getD i [] ∨ (xs.getD x default).op.kind = 0) ∧
    ((xs.getD i default).op.isW = false → (xs.getD i default).op.isQ = true → ∀ x ∈ ((r.take k).reverse ++ done).takeWhile (fun j => !(xs.getD j default).op.isW), (xs.getD x default).op.isN = true → x ∈ A.getD i [])
  | [], done, _, k, i, h => by simp at h
  | j :: r, done, h, k, i, hk => by
    simp only [orderOk, Bool.and_eq_true] at h
    obtain ⟨⟨⟨h1, h2⟩, h3⟩, h4⟩ := h
    cases k with
    | zero =>
      simp at hk; subst hk
      simp only [List.take_zero, List.reverse_nil, List.nil_append]
      refine ⟨fun x hx => inL_iff.1 (List.all_eq_true.1 h1 x hx), fun hm => ?_, fun hw x hx => ?_, fun hw hq x hx hn => ?_⟩
      · rw [inL_iff.2 hm] at h2; cases h2
      · rw [hw] at h3
        have := List.all_eq_true.1 h3 x hx
        rw [Bool.or_eq_true, beq_iff, decide_eq_true_eq] at this
        exact this.imp inL_iff.1 id
      · rw [hw, hq] at h3
        have := List.all_eq_true.1 h3 x hx
        rw [hn] at this
        exact inL_iff.1 (by simpa using this)
    | succ k =>
      have := orderOk_spec r (j :: done) h4 k i (by simpa using hk)
      simpa using this
theorem mem_take_rev {r : List Nat} {k x : Nat} : x ∈ (r.take k).reverse ↔ ∃ j, j < k ∧ r[j]? = some x := by
  rw [List.mem_reverse, List.mem_iff_getElem?]
  constructor
  · rintro ⟨j, hj⟩
    rw [List.getElem?_take] at hj
    split at hj
    · rename_i h; exact ⟨j, h, hj⟩
    · cases hj
  · rintro ⟨j, h, hj⟩
    exact ⟨j, by rw [List.getElem?_take, if_pos h]; exact hj⟩
theorem take_succ_rev {r : List Nat} {k i : Nat} (h : r[k]? = some i) : (r.take (k + 1)).reverse = i :: (r.take k).reverse := by
  rw [List.take_add_one, h]; simp
theorem mem_takeWhile {r : List Nat} {f : Nat → Bool} {c : Nat} : ∀ k, k ≤ r.length → (∀ j i, c ≤ j → j < k → r[j]? = some i → f i = true) → ∀ j i, c ≤ j → j < k → r[j]? = some i → i ∈ ((r.take k).reverse).takeWhile f := by
  intro k
  induction k with
  | zero => intro _ _ j i _ hj; omega
  | succ k ih =>
    intro hk hf j i h1 h2 h3
    have hk' : k < r.length := by omega
    have e : r[k]? = some r[k] := by simp [hk']
    rw [take_succ_rev e]
    by_cases e' : j = k
    · subst e'
      rw [h3] at e; cases e
      rw [List.takeWhile_cons, if_pos (hf j _ h1 h2 h3)]; simp
    · rw [List.takeWhile_cons, if_pos (hf k _ (by omega) (by omega) e)]
      exact List.mem_cons_of_mem _ (ih (by omega) (fun j i a b => hf j i a (by omega)) j i h1 (by omega) h3)
end
end Go.Proofs.YtafignheedbnbaaGreatDoor.X
namespace Go.Proofs.YtafignheedbnbaaGreatDoor.X
open Go
set_option linter.unusedVariables false
set_option linter.unusedSimpArgs false
section
variable {p : Program} {σ : Sg} {E : Env} {run : Run} {nt : Nat} {ops : Array Oper}

theorem elder {A : List (List Nat)} {order : List Nat} {FF : Nat → Fr} {HH BB : Nat → Hp} {HS : Nat → List Hp} {DW : Nat → List Nat} {vv : Nat → V} (h0 : BB 0 = HH 0)
    (hst : ∀ k i, order[k]? = some i → St1 p E run nt ops A i (FF k) (FF (k + 1)) (HH k) (HH (k + 1)) (BB k) (BB (k + 1)) (HS k) (HS (k + 1)) (DW k) (DW (k + 1)) (vv k)) (f : Nat → Bool) {c : Nat}
    (hc : c = 0 ∨ ∃ b, c = b + 1 ∧ (XOf p nt ops (order.getD b 0)).op.isW = true) : ∀ k, c ≤ k → k ≤ order.length → (∀ j, c ≤ j → j < k → (XOf p nt ops (order.getD j 0)).op.isW = true → f (order.getD j 0) = true) →
    ((∀ j, c ≤ j → j < k → (XOf p nt ops (order.getD j 0)).op.isW = false) ∧ BB k = HH c) ∨ ∃ r, r < ((DW k).takeWhile f).length ∧ (HS k)[r]? = some (HH c) := by
  intro k
  induction k with
  | zero =>
    intro h1 _ _
    have : c = 0 := by omega
    subst this
    exact .inl ⟨fun j _ h => by omega, h0⟩
  | succ k ih =>
    intro h1 h2 h3
    have hk : k < order.length := by omega
    have he : order[k]? = some (order.getD k 0) := by simp [hk]
    have s := hst k _ he
    by_cases e : c = k + 1
    · subst e
      obtain ⟨b, hb, hw⟩ := hc.resolve_left (by omega)
      have : b = k := by omega
      subst this
      exact .inl ⟨fun j h h' => by omega, (s.w hw).1⟩
    · have ih' := ih (by omega) (by omega) (fun j a b => h3 j a (by omega))
      cases hw : (XOf p nt ops (order.getD k 0)).op.isW with
      | true =>
        obtain ⟨s1, s2, s3⟩ := s.w hw
        have hf := h3 k (by omega) (by omega) hw
        rw [s2, s3, List.takeWhile_cons, if_pos hf]
        rcases ih' with ⟨i1, i2⟩ | ⟨r, i1, i2⟩
        · exact .inr ⟨0, by simp, by simp [i2]⟩
        · exact .inr ⟨r + 1, by simpa using i1, by simpa using i2⟩
      | false =>
        obtain ⟨s1, s2, s3⟩ := s.nw hw
        rw [s1, s2, s3]
        rcases ih' with ⟨i1, i2⟩ | ih'
        · refine .inl ⟨fun j a b => ?_, i2⟩
          by_cases e' : j = k
          · rw [e']; exact hw
          · exact i1 j a (by omega)
        · exact .inr ih'
def PlanSpec (p : Program) (nt : Nat) (ops : Array Oper) (pl : List PlanOp) : Prop := ∃ (A A1 : List (List Nat)) (order : List Nat) (ab : Option (Nat × Nat)), pl = chks A1 (ops.toList.map (cOper p nt ops)) (ab.map (·.1)) [] order ∧ ancOk ops.toList A = true ∧ looksOk ops A = true ∧
    orderOk A1 (ops.toList.map (cOper p nt ops)) [] order = true ∧ order.length = ops.size ∧ (∀ i ∈ order, i < ops.size) ∧ opdsOk ops (ops.toList.map (cOper p nt ops)) = true ∧ (∀ i, i < ops.size → i ∈ order) ∧
    ((ab = none ∧ A1 = A) ∨ ∃ a b, ab = some (a, b) ∧ A1 = A.set b (a :: A.getD b []) ∧ pairOk ops A (ops.toList.map (cOper p nt ops)) order a b = true)
theorem planOf_spec {pl : List PlanOp} (h : planOf p nt ops = some pl) : PlanSpec p nt ops pl := by
  have key : ∀ (A A1 An : List (List Nat)) (ws : List Nat) (ab : Option (Nat × Nat)), planTry ops (ops.toList.map (cOper p nt ops)) A A1 An ws ab = some pl → ((ab = none ∧ A1 = A) ∨ ∃ a b, ab = some (a, b) ∧ A1 = A.set b (a :: A.getD b [])) → PlanSpec p nt ops pl := by
    intro A A1 An ws ab h hab
    simp only [planTry] at h
    split at h
    · rename_i hc
      simp only [Bool.and_eq_true] at hc
      obtain ⟨⟨⟨⟨⟨⟨⟨h1, h2⟩, h3⟩, h4⟩, h5⟩, h6⟩, h7⟩, h8⟩ := hc
      refine ⟨A, A1, _, ab, (Option.some.inj h).symm, h1, h2, h3, by simpa using h4, fun i hi => ?_, h6, fun i hi => ?_, ?_⟩
      · have := List.all_eq_true.1 h5 i hi
        simpa using this
      · exact inL_iff.1 (List.all_eq_true.1 h7 i (List.mem_range.2 hi))
      · rcases hab with h | ⟨a, b, rfl, e⟩
        · exact .inl h
        · exact .inr ⟨a, b, rfl, e, h8⟩
    · cases h
  simp only [planOf] at h
  split at h
  · exact key _ _ _ _ _ h (.inl ⟨rfl, rfl⟩)
  · exact key _ _ _ _ _ h (.inr ⟨_, _, rfl, rfl⟩)
theorem zip_mem {i : Nat} (h : i < ops.size) : (ops.getD i default, i) ∈ ops.toList.zipIdx := by
  rw [List.mem_zipIdx_iff_getElem?]; simp [h]
theorem cn_of_plan {A A0 : List (List Nat)} {order : List Nat} {pa : Option Nat} {F F' : Fr} {H H' : Hp} {exc : Nat → Nat → Prop} (c1 : ancOk ops.toList A0 = true) (c2 : looksOk ops A0 = true)
    (c3 : orderOk A (ops.toList.map (cOper p nt ops)) [] order = true) (c4 : order.length = ops.size) (c5 : ∀ i ∈ order, i < ops.size) (c6 : opdsOk ops (ops.toList.map (cOper p nt ops)) = true) (c7 : ∀ i, i < ops.size → i ∈ order)
    (hsub : ∀ i x, x ∈ A0.getD i [] → x ∈ A.getD i []) (hexc : ∀ i x, x ∈ A.getD i [] → exc i x ∨ x ∈ A0.getD i [])
    (hd : drawX E run ((chks A (ops.toList.map (cOper p nt ops)) pa [] order).map fun q => (q.chk, q.w, cOper p nt ops (ops.getD q.i default))) F H H [] = some (F', H')) :
    ∃ (FF : Nat → Fr) (HH : Nat → Hp) (vv : Nat → V), Cn p E run nt ops (fun k => order.getD k 0) (fun i => A.getD i []) FF HH vv exc ∧ FF 0 = F ∧ HH 0 = H ∧ FF ops.size = F' ∧ HH ops.size = H' ∧
      ∀ k i i', order[k]? = some i → order[k + 1]? = some i' → pa = some i → (XOf p nt ops i).op.isW = true → want (FF k) (XOf p nt ops i).g = some true → apart2 (FF k) (XOf p nt ops i).op (XOf p nt ops i').op = true := by
  have hx : ∀ i, i < ops.size → (ops.toList.map (cOper p nt ops)).getD i default = XOf p nt ops i := fun i hi => by simp [XOf, hi]
  obtain ⟨FF, HH, BB, HS, DW, vv, e1, e2, e3, e4, e5, e6, e7, e89⟩ := draw_states A _ pa order [] F H H [] F' H' (fun i hi => hx i (c5 i hi)) hd
  have e8 := fun k i h => (e89 k i h).1
  have hget : ∀ k, k < ops.size → order[k]? = some (order.getD k 0) := fun k hk => by
    have : k < order.length := by omega
    simp [this]
  have hlt : ∀ k, k < ops.size → order.getD k 0 < ops.size := fun k hk => c5 _ (List.mem_of_getElem? (hget k hk))
  have hord := fun k hk => orderOk_spec order [] c3 k _ (hget k hk)
  have hinj : ∀ j k, j < k → k < ops.size → order.getD j 0 ≠ order.getD k 0 := fun j k hjk hk e => by
    have := (hord k hk).2.1
    rw [List.append_nil, mem_take_rev] at this
    exact this ⟨j, hjk, by rw [hget j (by omega), e]⟩
  have hanc := fun i hi => List.all_eq_true.1 c1 _ (zip_mem (ops := ops) (i := i) hi)
  simp only [Bool.and_eq_true] at hanc
  have hlook : ∀ i j, i < ops.size → j < ops.size → j ≠ i → ∀ d, (ops.getD j default).dst = some d → (ops.getD i default).dst ≠ some d ∧ (d ∈ (ops.getD i default).looksAt ops → j ∈ A0.getD i [] ∨ i ∈ A0.getD j []) := by
    intro i j hi hj hne d hdd
    have := List.all_eq_true.1 (List.all_eq_true.1 c2 _ (zip_mem hi)) _ (zip_mem hj)
    simp only [hdd, Bool.or_eq_true, Bool.and_eq_true, bne_iff_ne, beq_iff_eq, Bool.not_eq_true', inL_iff] at this
    rcases this with h | ⟨h1, h2⟩
    · exact absurd h.symm hne
    · refine ⟨h1, fun hm => ?_⟩
      rcases h2 with (h2 | h2) | h2
      · rw [← Bool.not_eq_true, List.contains_iff_mem] at h2; exact absurd hm h2
      · exact .inl h2
      · exact .inr h2
  refine ⟨FF, HH, vv, ?_, e1, e2, by rw [← c4]; exact e6, by rw [← c4]; exact e7, fun k i i' q1 q2 q3 q4 q5 => (e89 k i q1).2 q4 q5 q3 i' q2⟩
  refine { lt := hlt, surj := fun i hi => ?_, inj := fun j k hj hk e => ?_, bind := fun k hk e he hb => ?_, anc := fun k hk x hx' => ?_, ancE := fun k hk x hx' => ?_, wall := fun k hk hw j hj => ?_, looks := fun j k hj hk hne d hd1 hd2 => ?_, dsts := fun j k hj hk hne d hd1 => ?_, opds := fun k hk q hq => ?_, step := fun k hk => ?_, fs := fun k hk => (e8 k _ (hget k hk)).fs, mono := fun k hk hw => ?_, q := fun k hk hq hw c hck hbase hno => ?_, qn := fun k hk hq c hck hno j hj1 hj2 hN => ?_ }
  · obtain ⟨k, hk⟩ := List.mem_iff_getElem?.1 (c7 i hi)
    have hk' : k < order.length := (List.getElem?_eq_some_iff.1 hk).1
    exact ⟨k, by omega, by simp [hk]⟩
  · rcases Nat.lt_trichotomy j k with h | h | h
    · exact absurd e (hinj j k h hk)
    · exact h
    · exact absurd e.symm (hinj k j h hj)
  · have := List.all_eq_true.1 (Array.all_toList ▸ (hanc _ (hlt k hk)).2) e (by simpa using he)
    rw [hb] at this
    exact hsub _ _ (inL_iff.1 (by simpa using this))
  · have := (hord k hk).1 x hx'
    rw [List.append_nil, mem_take_rev] at this
    obtain ⟨j, hj, he⟩ := this
    exact ⟨j, hj, by simp [he]⟩
  · refine (hexc _ _ hx').imp id fun hx' => ?_
    have := List.all_eq_true.1 (hanc _ (hlt k hk)).1 x hx'
    rw [Array.any_eq_true'] at this
    obtain ⟨e, he, hb⟩ := this
    simp only [Bool.and_eq_true, Bool.or_eq_true, beq_iff_eq, inL_iff] at hb
    exact ⟨e, he, hb.1, hb.2.imp id (hsub _ _)⟩
  · have := (hord k hk).2.2.1 (by rw [hx _ (hlt k hk)]; exact hw) (order.getD j 0) (by
      rw [List.append_nil, mem_take_rev]
      exact ⟨j, hj, hget j (by omega)⟩)
    rwa [hx _ (hlt j (by omega))] at this
  · exact (hlook _ _ (hlt k hk) (hlt j hj) (fun e => hne (by
      rcases Nat.lt_trichotomy j k with h | h | h
      · exact absurd e (hinj j k h hk)
      · exact h
      · exact absurd e.symm (hinj k j h hj))) d hd1).2 hd2 |>.imp (hsub _ _) (hsub _ _)
  · exact (hlook _ _ (hlt k hk) (hlt j hj) (fun e => hne (by
      rcases Nat.lt_trichotomy j k with h | h | h
      · exact absurd e (hinj j k h hk)
      · exact h
      · exact absurd e.symm (hinj k j h hj))) d hd1).1
  · have := List.all_eq_true.1 (List.all_eq_true.1 c6 _ (zip_mem (hlt k hk))) (.t q) (by simp only; rw [hx _ (hlt k hk)]; exact hq)
    simp only [List.any_eq_true, decide_eq_true_eq] at this
    exact this
  · rcases (e8 k _ (hget k hk)).step with ⟨s1, s2, -, -⟩ | s
    · exact .inl ⟨s1, s2⟩
    · exact .inr s
  · rcases (e8 k _ (hget k hk)).step with ⟨s1, s2, s3, -⟩ | ⟨-, -, s⟩
    · exact s3 hw
    · rw [s]; exact Nat.le_refl _
  · have hnw : (XOf p nt ops (order.getD k 0)).op.isW = false := by
      cases hw' : (XOf p nt ops (order.getD k 0)).op.isW with
      | false => rfl
      | true =>
        simp only [XO.isW, XO.isQ, ble_iff, beq_iff, decide_eq_true_eq] at hw' hq
        omega
    rcases elder (by rw [e3, e2]) e8 (fun w => !inL w (A.getD (order.getD k 0) [])) hbase k hck (by omega) (fun j a b hj => by
      have := hno j a b hj
      simpa [← Bool.not_eq_true, inL_iff] using this) with ⟨i1, -⟩ | ⟨r, i1, i2⟩
    · exact .inl i1
    · rcases (e8 k _ (hget k hk)).step with ⟨s1, s2, -, s4⟩ | ⟨s1, -⟩
      · refine .inr (recheck_get (r := r) (s4 hnw) ?_ i2)
        unfold chkOf
        rw [hq]; exact i1
      · rw [hw] at s1; cases s1
  · have hnw : (XOf p nt ops (order.getD k 0)).op.isW = false := by
      cases hw' : (XOf p nt ops (order.getD k 0)).op.isW with
      | false => rfl
      | true =>
        simp only [XO.isW, XO.isQ, ble_iff, beq_iff, decide_eq_true_eq] at hw' hq
        omega
    have hmem := mem_takeWhile (r := order) (f := fun j => !((ops.toList.map (cOper p nt ops)).getD j default).op.isW) (c := c) k (by omega) (fun j i a b he => by
      have hjn : j < ops.size := by omega
      have : i = order.getD j 0 := by rw [hget j hjn] at he; exact (Option.some.inj he).symm
      subst this
      rw [hx _ (hlt j hjn), hno j a b]; rfl) j _ hj1 hj2 (hget j (by omega))
    refine (hord k hk).2.2.2 (by rw [hx _ (hlt k hk)]; exact hnw) (by rw [hx _ (hlt k hk)]; exact hq) _ (by rw [List.append_nil]; exact hmem) ?_
    rw [hx _ (hlt j (by omega))]; exact hN

theorem more_of_set {A : List (List Nat)} {a b : Nat} (h : b < A.length) : (fun i => (A.set b (a :: A.getD b [])).getD i []) = more (fun i => A.getD i []) b a := by
  funext i
  unfold more
  by_cases e : i = b
  · subst e; rw [if_pos rfl]; simp [h]
  · rw [if_neg e]; simp [List.getElem?_set_ne (fun e' => e e'.symm)]
theorem isStore_spec {x : XO} (h : x.isStore = true) : ∃ n y z, x = .store n y z := by
  cases x <;> first | exact ⟨_, _, _, rfl⟩ | (simp [XO.isStore] at h)
/-- every order of a region's operations leaves what the one order leaves -/
theorem draw_ok {n : Nat} (hm : p.follows .mixedOrders = true) (hs : SgOk σ) (hE : EnvOk p σ E) (hR : RunOk p σ n run) : DrawOk p σ E run := by
  intro nt id ops F H F' H' ρ a w hd hF hn hdf hH
  unfold plan at hd
  cases hp : planOf p nt ops with
  | none => rw [hp] at hd; simp [drawX, want, opX, doX] at hd
  | some pl =>
    rw [hp] at hd
    obtain ⟨A0, A1, order, ab, rfl, c1, c2, c3, c4, c5, c6, c7, c8⟩ := planOf_spec hp
    refine wp_region_any hm ?_
    have hcut : ρ.cut H.next.toNat = ρ := by
      funext q
      unfold Ren.cut
      split
      · rfl
      · cases e : ρ q with
        | none => rfl
        | some b => exact absurd (hH.fresh _ _ e) (by assumption)
    have start : ∀ {o : Nat → Nat} {FF : Nat → Fr} {HH : Nat → Hp} {vv : Nat → V}, FF 0 = F → HH 0 = H → Inv σ p nt ops o FF HH vv ρ w (fun _ => False) 0 ρ a { w with drawn := w.drawn + 1 } := by
      intro o FF HH vv e1 e2
      refine ⟨Nat.zero_le _, .inl rfl, fun k h => by omega, fun k _ _ h => h.elim, by rw [e2, hcut]; exact hH.drew, by rw [e2, hcut]; exact (Stp.refl ρ H w).drew, fun k x _ _ h => h.elim, fun k x b _ _ h => h.elim, fun j k x y b d _ _ h => h.elim, fun q b h => .inl (by rw [e2]; exact hH.fresh q b h), fun j _ h => h.elim, fun t _ => by rw [e1, e2, hcut]; exact hF t, hn, hdf⟩
    have lst : ∀ {o : Nat → Nat} {A : Nat → List Nat}, (∀ k, k < ops.size → o k < ops.size) → Lst ops o A (fun _ => False) (Array.replicate ops.size false) := by
      intro o A hlt
      exact ⟨by simp, fun j hj => by simp [hlt j hj], fun i j _ _ h => h.elim⟩
    have hunl : unl ops.size (Array.replicate ops.size false) ≤ ops.size := by
      unfold unl
      exact Nat.le_trans (List.length_filter_le _ _) (by simp)
    have post : ∀ {FF : Nat → Fr} {HH : Nat → Hp}, FF ops.size = F' → HH ops.size = H' → HH 0 = H → ∀ a' w' ρ', FR σ ρ' (FF ops.size) a' → nt ≤ a'.tmps.size → DfOk p a'.defers → HR σ ρ' (HH ops.size) w' → Stp ρ (HH 0) w ρ' (HH ops.size) w' → Post p σ ρ H w nt .nrm F' H' .normal a' w' := by
      intro FF HH e3 e4 e2 a' w' ρ' k1 k2 k3 k4 k5
      rw [e3] at k1
      rw [e4] at k4 k5
      rw [e2] at k5
      exact ⟨rfl, ρ', k1, k2, k3, k4, k5⟩
    rcases c8 with ⟨rfl, rfl⟩ | ⟨ia, ib, rfl, rfl, c8⟩
    · obtain ⟨FF, HH, vv, C, e1, e2, e3, e4, -⟩ := cn_of_plan (exc := fun _ _ => False) c1 c2 c3 c4 c5 c6 c7 (fun _ _ h => h) (fun _ _ h => .inr h) hd
      exact any_order hs (callX_sound hE hR) C (post e3 e4 e2) ops.size _ a _ _ 0 ρ (start e1 e2) (lst C.lt) (fun i x h => h.elim) hunl
    · simp only [pairOk, Bool.and_eq_true, Bool.not_eq_true', Option.isNone_iff_eq_none, beq_iff_eq] at c8
      obtain ⟨⟨⟨⟨⟨⟨⟨⟨⟨⟨p1, p2⟩, p3⟩, p4⟩, p5⟩, p6⟩, p7⟩, p8⟩, p9⟩, p10⟩, p11⟩ := c8
      have hbl : ib < A0.length := by simpa using p8
      have hms := more_of_set (a := ia) hbl
      have hfun : ∀ i, (A0.set ib (ia :: A0.getD ib [])).getD i [] = more (fun i => A0.getD i []) ib ia i := fun i => congrFun hms i
      obtain ⟨FF, HH, vv, C, e1, e2, e3, e4, e5⟩ := cn_of_plan (exc := fun i x => i = ib ∧ x = ia) c1 c2 c3 c4 c5 c6 c7 (fun i x h => by rw [hfun]; exact more_sub h) (fun i x h => by
        rw [hfun] at h
        unfold more at h
        split at h
        · rename_i e
          rcases List.mem_cons.1 h with h | h
          · exact .inl ⟨e, h⟩
          · exact .inr (e ▸ h)
        · exact .inr h) hd
      generalize hk0 : order.findIdx (Nat.beq ia) = k0 at p9 p10 p11
      have hk1 : k0 + 1 < ops.size := by
        have := (List.getElem?_eq_some_iff.1 p10).1
        omega
      have oa : order.getD k0 0 = ia := by simp [p9]
      have ob : order.getD (k0 + 1) 0 = ib := by simp [p10]
      have hia : ia < ops.size := c5 _ (List.mem_of_getElem? p9)
      have hib : ib < ops.size := c5 _ (List.mem_of_getElem? p10)
      have hx : ∀ i, i < ops.size → (ops.toList.map (cOper p nt ops)).getD i default = XOf p nt ops i := fun i hi => by simp [XOf, hi]
      rw [hx _ hia] at p1 p3
      rw [hx _ hib] at p2 p4
      obtain ⟨n1, x1, y1, s1⟩ := isStore_spec p1
      obtain ⟨n2, x2, y2, s2⟩ := isStore_spec p2
      have hwa : (XOf p nt ops ia).op.isW = true := by rw [s1]; rfl
      have hap := e5 k0 ia ib p9 p10 rfl hwa (by rw [p3]; rfl)
      rw [hms, ← oa, ← ob] at C
      have hanc := fun i hi => List.all_eq_true.1 c1 _ (zip_mem (ops := ops) (i := i) hi)
      simp only [Bool.and_eq_true] at hanc
      obtain ⟨HH2, hH2, C2⟩ := C.swap (k0 := k0) hk1 (fun i hi e he hb => by
          have := List.all_eq_true.1 (Array.all_toList ▸ (hanc i hi).2) e (by simpa using he)
          rw [hb] at this
          exact inL_iff.1 (by simpa using this)) (fun i hi x hx' => by
          have := List.all_eq_true.1 (hanc i hi).1 x hx'
          rw [Array.any_eq_true'] at this
          obtain ⟨e, he, hb⟩ := this
          simp only [Bool.and_eq_true, Bool.or_eq_true, beq_iff_eq, inL_iff] at hb
          exact ⟨e, he, hb.1, hb.2⟩) (by rw [oa]; exact s1) (by rw [ob]; exact s2) (by rw [oa]; exact p3) (by rw [ob]; exact p4) (by rw [oa]; exact p5) (by rw [ob]; exact p6)
        (by rw [oa, ob]; intro h; rw [inL_iff.2 h] at p7; cases p7) (fun b i c j q1 q2 => by
          rw [s1, s2] at hap
          simp only [apart2, q1, q2, Bool.not_eq_true', decide_eq_false_iff_not] at hap
          exact hap) (fun k hk hk' hq => by
          have hkl : k < order.length := by omega
          have hm : order.getD k 0 ∈ order.drop (k0 + 2) := by
            rw [List.mem_iff_getElem?]
            refine ⟨k - (k0 + 2), ?_⟩
            rw [List.getElem?_drop, show k0 + 2 + (k - (k0 + 2)) = k from by omega]
            simp [hkl]
          have := List.all_eq_true.1 p11 _ hm
          rw [hx _ (C.lt k hk'), hq] at this
          rw [oa]
          exact inL_iff.1 (by simpa using this))
      refine any_pair (o2 := fun k => order.getD (sw k0 k) 0) hs (callX_sound hE hR) C C2 hk1 (fun k q1 q2 => by simp only [sw_far q1 q2]) (by simp only [sw_1]) (by simp only [sw_0]) hH2 (by rw [oa]; exact hwa) (fun i x h => h) (fun i x h => by
          simp only [sw_1, sw_0]; exact h) (fun i q1 q2 => by rw [more_ne q2, more_ne q1]) (post e3 e4 e2) ops.size _ a _ _ 0 ρ (start e1 e2) (fun h => h) (fun h => h) (lst C.lt) hunl
end
end Go.Proofs.YtafignheedbnbaaGreatDoor.X
