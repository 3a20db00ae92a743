/- A verified executor, part XDrQ: laws of the executor; no condition. -/
import Derived.Test.YtfhjamimbgdfpaaGreatXDrP
namespace Go.Proofs.YtfhjamimbgdfpaaGreat.X
open Go
set_option linter.unusedVariables false
set_option linter.unusedSimpArgs false
section
variable {p : Program} {σ : Sg} {E : Env} {run : Run} {nt : Nat} {ops : Array Oper} {A : Nat → List Nat} {o : Nat → Nat} {FF : Nat → Fr} {HH : Nat → Hp} {vv : Nat → V} {k0 : Nat} {exc1 : Nat → Nat → Prop}

def sw (k0 k : Nat) : Nat := if k = k0 then k0 + 1 else if k = k0 + 1 then k0 else k
theorem sw_sw (k0 k : Nat) : sw k0 (sw k0 k) = k := by unfold sw; split <;> (try split) <;> (try split) <;> omega
theorem sw_lt {k0 k n : Nat} (h : k < n) (h0 : k0 + 1 < n) : sw k0 k < n := by unfold sw; split <;> (try split) <;> omega
theorem sw_far {k0 k : Nat} (h : k ≠ k0) (h' : k ≠ k0 + 1) : sw k0 k = k := by unfold sw; rw [if_neg h, if_neg h']
theorem sw_0 (k0 : Nat) : sw k0 k0 = k0 + 1 := by unfold sw; rw [if_pos rfl]
theorem sw_1 (k0 : Nat) : sw k0 (k0 + 1) = k0 := by unfold sw; rw [if_neg (by omega), if_pos rfl]
/-- one more ancestor -/
def more (A : Nat → List Nat) (i x : Nat) : Nat → List Nat := fun j => if j = i then x :: A j else A j
theorem more_sub {A : Nat → List Nat} {i x j y : Nat} (h : y ∈ A j) : y ∈ more A i x j := by unfold more; split; exact List.mem_cons_of_mem _ h; exact h
theorem more_ne {A : Nat → List Nat} {i x j : Nat} (h : j ≠ i) : more A i x j = A j := by unfold more; rw [if_neg h]
theorem more_eq {A : Nat → List Nat} {i x : Nat} : more A i x i = x :: A i := by unfold more; rw [if_pos rfl]

theorem Cn.swap (C : Cn p E run nt ops o (more A (o (k0 + 1)) (o k0)) FF HH vv exc1) (hk0 : k0 + 1 < ops.size)
    (bindA : ∀ i, i < ops.size → ∀ e ∈ (ops.getD i default).after, Region.binds .any e = true → e.on ∈ A i)
    (ancA : ∀ i, i < ops.size → ∀ x ∈ A i, ∃ e ∈ (ops.getD i default).after, Region.binds .any e = true ∧ (e.on = x ∨ x ∈ A e.on))
    {n m : Nat} {x y x' y' : Opd} (hs1 : (XOf p nt ops (o k0)).op = .store n x y) (hs2 : (XOf p nt ops (o (k0 + 1))).op = .store m x' y') (hg1 : (XOf p nt ops (o k0)).g = none) (hg2 : (XOf p nt ops (o (k0 + 1))).g = none)
    (hd1 : (ops.getD (o k0) default).dst = none) (hd2 : (ops.getD (o (k0 + 1)) default).dst = none) (hna : o k0 ∉ A (o (k0 + 1)))
    (hap : ∀ b i c j, ev (FF k0) x = .ptr (some (b, i)) → ev (FF k0) x' = .ptr (some (c, j)) → b ≠ c)
    (hQ : ∀ k, k0 + 1 < k → k < ops.size → (XOf p nt ops (o k)).op.isQ = true → o k0 ∈ A (o k)) :
    ∃ HH2, (∀ k, k ≠ k0 + 1 → HH k = HH2 k) ∧ Cn p E run nt ops (fun k => o (sw k0 k)) (more A (o k0) (o (k0 + 1))) FF HH2 vv (fun i x => i = o k0 ∧ x = o (k0 + 1)) := by
  have hW : ∀ k, k = k0 ∨ k = k0 + 1 → (XOf p nt ops (o k)).op.isW = true ∧ (XOf p nt ops (o k)).op.isQ = false := by
    rintro k (rfl | rfl)
    · rw [hs1]; exact ⟨rfl, rfl⟩
    · rw [hs2]; exact ⟨rfl, rfl⟩
  have hne : o k0 ≠ o (k0 + 1) := fun e => by have := C.inj _ _ (by omega) hk0 e; omega
  have st1 : opX E run (.store n x y) (FF k0) (HH k0) = some (vv k0, HH (k0 + 1)) := by
    rcases C.step k0 (by omega) with ⟨-, h⟩ | ⟨h, -⟩
    · rw [hs1] at h; exact h
    · rw [hg1] at h; simp [want] at h
  have st2 : opX E run (.store m x' y') (FF (k0 + 1)) (HH (k0 + 1)) = some (vv (k0 + 1), HH (k0 + 1 + 1)) := by
    rcases C.step (k0 + 1) hk0 with ⟨-, h⟩ | ⟨h, -⟩
    · rw [hs2] at h; exact h
    · rw [hg2] at h; simp [want] at h
  have f1 : FF (k0 + 1) = FF k0 := by rw [C.fs k0 (by omega), (C.spec (by omega)).2.2.1, hd1]; rfl
  have f2 : FF (k0 + 1 + 1) = FF (k0 + 1) := by rw [C.fs (k0 + 1) hk0, (C.spec hk0).2.2.1, hd2]; rfl
  rw [f1] at st2
  obtain ⟨v1, v2, G, g1, g2, g3, d1, d2⟩ := store_comm (F := FF k0) st1 st2 hap
  have hfar : ∀ k, k < ops.size → k ≠ k0 → k ≠ k0 + 1 → o k ≠ o k0 ∧ o k ≠ o (k0 + 1) := fun k hk h1 h2 => ⟨fun e => h1 (C.inj _ _ hk (by omega) e), fun e => h2 (C.inj _ _ hk hk0 e)⟩
  have A1far : ∀ k, k ≠ k0 + 1 → k < ops.size → more A (o (k0 + 1)) (o k0) (o k) = A (o k) := fun k h hk => more_ne fun e => h (C.inj _ _ hk hk0 e)
  have A2far : ∀ k, k ≠ k0 → k < ops.size → more A (o k0) (o (k0 + 1)) (o k) = A (o k) := fun k h hk => more_ne fun e => h (C.inj _ _ hk (by omega) e)
  obtain ⟨HH2, H2, H2e⟩ : ∃ HH2 : Nat → Hp, (∀ k, k ≠ k0 + 1 → HH2 k = HH k) ∧ HH2 (k0 + 1) = G := ⟨fun k => if k = k0 + 1 then G else HH k, fun k h => if_neg h, if_pos rfl⟩
  refine ⟨HH2, fun k h => (H2 k h).symm, ?_⟩
  refine { lt := fun k hk => C.lt _ (sw_lt hk hk0), surj := fun i hi => ?_, inj := fun j k hj hk e => ?_, bind := fun k hk e he hb => more_sub (bindA _ (C.lt _ (sw_lt hk hk0)) e he hb), anc := fun k hk z hz => ?_, ancE := fun k hk z hz => ?_, wall := fun k hk hw j hj => ?_, looks := fun j k hj hk hjk d hd1' hd2' => ?_, dsts := fun j k hj hk hjk d hd => ?_, opds := fun k hk => C.opds _ (sw_lt hk hk0), step := fun k hk => ?_, fs := fun k hk => ?_, mono := fun k hk hw => ?_, q := fun k hk hq hwn c hck hb hno => ?_, qn := fun k hk hq c hck hno j hj1 hj2 hN => ?_ }
  · obtain ⟨k, hk, e⟩ := C.surj i hi
    exact ⟨sw k0 k, sw_lt hk hk0, by rw [sw_sw]; exact e⟩
  · have := C.inj _ _ (sw_lt hj hk0) (sw_lt hk hk0) e
    rw [← sw_sw k0 j, this, sw_sw]
  · by_cases e1 : k = k0
    · subst e1
      simp only [sw_0] at hz
      rw [A2far _ (by omega) hk0] at hz
      obtain ⟨j, hj, e⟩ := C.anc _ hk0 z (more_sub hz)
      have : j ≠ k := fun e' => hna (by rw [e'] at e; rw [e]; exact hz)
      exact ⟨j, by omega, by rw [sw_far this (by omega)]; exact e⟩
    · by_cases e2 : k = k0 + 1
      · subst e2
        simp only [sw_1] at hz
        rw [more_eq] at hz
        rcases List.mem_cons.1 hz with rfl | hz
        · exact ⟨k0, by omega, by rw [sw_0]⟩
        · obtain ⟨j, hj, e⟩ := C.anc k0 (by omega) z (more_sub hz)
          exact ⟨j, by omega, by rw [sw_far (by omega) (by omega)]; exact e⟩
      · simp only [sw_far e1 e2] at hz
        rw [A2far _ e1 hk] at hz
        obtain ⟨j, hj, e⟩ := C.anc k hk z (more_sub hz)
        refine ⟨sw k0 j, ?_, by rw [sw_sw]; exact e⟩
        unfold sw; split <;> (try split) <;> omega
  · have base : ∀ i, i < ops.size → z ∈ A i → ∃ e ∈ (ops.getD i default).after, Region.binds .any e = true ∧ (e.on = z ∨ z ∈ more A (o k0) (o (k0 + 1)) e.on) := fun i hi h => by
      obtain ⟨e, he, hb, h'⟩ := ancA i hi z h
      exact ⟨e, he, hb, h'.imp id more_sub⟩
    by_cases e2 : k = k0 + 1
    · subst e2
      simp only [sw_1] at hz ⊢
      rw [more_eq] at hz
      rcases List.mem_cons.1 hz with rfl | hz
      · exact .inl (by simp)
      · exact .inr (base _ (C.lt _ (by omega)) hz)
    · have : sw k0 k ≠ k0 := fun e => e2 (by rw [← sw_sw k0 k, e, sw_0])
      rw [A2far _ this (sw_lt hk hk0)] at hz
      exact .inr (base _ (C.lt _ (sw_lt hk hk0)) hz)
  · by_cases e1 : k = k0
    · subst e1
      simp only [sw_0]
      rw [A2far _ (by omega) hk0, sw_far (by omega) (by omega)]
      rcases C.wall (k + 1) hk0 (hW _ (.inr rfl)).1 j (by omega) with h | h
      · rw [more_eq] at h
        rcases List.mem_cons.1 h with h | h
        · have := C.inj _ _ (by omega) (by omega) h; omega
        · exact .inl h
      · exact .inr h
    · by_cases e2 : k = k0 + 1
      · subst e2
        simp only [sw_1]
        rw [more_eq]
        by_cases e3 : j = k0
        · subst e3; rw [sw_0]; exact .inl (by simp)
        · rw [sw_far e3 (by omega)]
          rcases C.wall k0 (by omega) (hW _ (.inl rfl)).1 j (by omega) with h | h
          · rw [A1far k0 (by omega) (by omega)] at h
            exact .inl (List.mem_cons_of_mem _ h)
          · exact .inr h
      · simp only [sw_far e1 e2] at hw ⊢
        rw [A2far _ e1 hk]
        have hsj : sw k0 j < k := by unfold sw; split <;> (try split) <;> omega
        rcases C.wall k hk hw (sw k0 j) hsj with h | h
        · rw [A1far k e2 hk] at h; exact .inl h
        · exact .inr h
  · have hjw : sw k0 j ≠ k0 ∧ sw k0 j ≠ k0 + 1 := ⟨fun e => (by rw [e, hd1] at hd1'; cases hd1'), fun e => (by rw [e, hd2] at hd1'; cases hd1')⟩
    rcases C.looks (sw k0 j) (sw k0 k) (sw_lt hj hk0) (sw_lt hk hk0) (fun e => hjk (by rw [← sw_sw k0 j, e, sw_sw])) d hd1' hd2' with h | h
    · left
      by_cases e : sw k0 k = k0 + 1
      · rw [e, more_eq] at h
        rcases List.mem_cons.1 h with h | h
        · exact absurd (C.inj _ _ (sw_lt hj hk0) (by omega) h) hjw.1
        · rw [e]; exact more_sub h
      · rw [A1far _ e (sw_lt hk hk0)] at h; exact more_sub h
    · right
      rw [A1far _ hjw.2 (sw_lt hj hk0)] at h; exact more_sub h
  · exact C.dsts _ _ (sw_lt hj hk0) (sw_lt hk hk0) (fun e => hjk (by rw [← sw_sw k0 j, e, sw_sw])) d hd
  · by_cases e1 : k = k0
    · subst e1
      simp only [sw_0]
      rw [H2 k (by omega), H2e, hs2, hg2, v1]
      exact .inl ⟨rfl, d1⟩
    · by_cases e2 : k = k0 + 1
      · subst e2
        simp only [sw_1]
        rw [H2e, H2 (k0 + 1 + 1) (by omega), hs1, hg1, v2, f1]
        exact .inl ⟨rfl, d2⟩
      · simp only [sw_far e1 e2]
        rw [H2 k e2, H2 (k + 1) (by omega)]
        exact C.step k hk
  · by_cases e1 : k = k0
    · subst e1
      simp only [sw_0]
      rw [(C.spec hk0).2.2.1, hd2]; exact f1
    · by_cases e2 : k = k0 + 1
      · subst e2
        simp only [sw_1]
        rw [(C.spec (by omega)).2.2.1, hd1]; exact f2
      · simp only [sw_far e1 e2]; exact C.fs k hk
  · by_cases e1 : k = k0
    · subst e1
      rw [H2 k (by omega), H2e, g1]; exact Nat.le_refl _
    · by_cases e2 : k = k0 + 1
      · subst e2
        rw [H2e, H2 (k0 + 1 + 1) (by omega), g1, g2]; exact Nat.le_refl _
      · simp only [sw_far e1 e2] at hw ⊢
        rw [H2 k e2, H2 (k + 1) (by omega)]
        exact C.mono k hk hw
  · by_cases e1 : k = k0
    · subst e1
      simp only [sw_0] at hq
      rw [(hW _ (.inr rfl)).2] at hq; cases hq
    · by_cases e2 : k = k0 + 1
      · subst e2
        simp only [sw_1] at hq
        rw [(hW _ (.inl rfl)).2] at hq; cases hq
      · simp only [sw_far e1 e2] at hq hwn hno ⊢
        rw [A2far _ e1 hk] at hno
        have hcc : c ≠ k0 + 1 ∧ (k0 + 1 < k → k0 + 1 < c) := by
          have key : k0 + 1 < k → k0 + 1 < c := fun h => Nat.lt_of_not_le fun h' => hno (k0 + 1) h' h (by rw [sw_1]; exact (hW _ (.inl rfl)).1) (by rw [sw_1]; exact hQ k h hk hq)
          exact ⟨by omega, key⟩
        have hjf : ∀ j, c ≤ j → j < k → j ≠ k0 ∧ j ≠ k0 + 1 ∨ k < k0 := fun j h1 h2 => by omega
        have hj' : ∀ j, c ≤ j → j < k → sw k0 j = j := fun j h1 h2 => by
          rcases hjf j h1 h2 with ⟨a, b⟩ | h
          · exact sw_far a b
          · exact sw_far (by omega) (by omega)
        rw [H2 c hcc.1]
        have hb' : c = 0 ∨ ∃ b, c = b + 1 ∧ (XOf p nt ops (o b)).op.isW = true := by
          rcases hb with hb | ⟨b, hb, hbw⟩
          · exact .inl hb
          · refine .inr ⟨b, hb, ?_⟩
            by_cases eb : b = k0 + 1
            · subst eb; exact (hW _ (.inr rfl)).1
            · rw [sw_far (by omega) eb] at hbw; exact hbw
        rcases C.q k hk hq hwn c hck hb' (fun j h1 h2 h3 => by
          rw [A1far k e2 hk]
          have := hno j h1 h2
          rw [hj' j h1 h2] at this
          exact this h3) with h | h
        · exact .inl fun j h1 h2 => by rw [hj' j h1 h2]; exact h j h1 h2
        · exact .inr h
  · by_cases e1 : k = k0
    · subst e1
      simp only [sw_0] at hq
      rw [(hW _ (.inr rfl)).2] at hq; cases hq
    · by_cases e2 : k = k0 + 1
      · subst e2
        simp only [sw_1] at hq
        rw [(hW _ (.inl rfl)).2] at hq; cases hq
      · simp only [sw_far e1 e2] at hq ⊢
        rw [A2far _ e1 hk]
        have hcc : k0 + 1 < k → k0 + 1 < c := fun h => Nat.lt_of_not_le fun h' => by
          have := hno (k0 + 1) h' h
          simp only [sw_1] at this
          rw [(hW _ (.inl rfl)).1] at this; cases this
        have hj' : ∀ j, c ≤ j → j < k → sw k0 j = j := fun j h1 h2 => by
          by_cases h : k < k0
          · exact sw_far (by omega) (by omega)
          · have := hcc (by omega); exact sw_far (by omega) (by omega)
        rw [hj' j hj1 hj2] at hN ⊢
        have := C.qn k hk hq c hck (fun j h1 h2 => by have := hno j h1 h2; simp only [hj' j h1 h2] at this; exact this) j hj1 hj2 hN
        rwa [A1far k e2 hk] at this
end
end Go.Proofs.YtfhjamimbgdfpaaGreat.X
