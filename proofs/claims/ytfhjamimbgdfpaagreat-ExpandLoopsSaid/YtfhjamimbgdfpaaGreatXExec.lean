/- A verified executor, part XExec: laws of the executor; no condition. -/
import Derived.Test.YtfhjamimbgdfpaaGreatXSound
namespace Go.Proofs.YtfhjamimbgdfpaaGreat.X
open Go
set_option linter.unusedVariables false
set_option linter.unusedSimpArgs false
section
variable {p : Program} {σ : Sg} {E : Env}

def DrawOk (p : Program) (σ : Sg) (E : Env) (run : Run) : Prop := ∀ (nt : Nat) (id : Nat) (ops : Array Oper) (F : Fr) (H : Hp) (F' : Fr) (H' : Hp) (ρ : Ren) (a : Act) (w : World), drawX E run (plan p nt ops) F H H [] = some (F', H') →
  FR σ ρ F a → nt ≤ a.tmps.size → DfOk p a.defers → HR σ ρ H w → (Code.region id ops true).wp p (Post p σ ρ H w nt .nrm F' H') a w

theorem not_bad {run : Run} {xo : XO} {F : Fr} {H : Hp} {r : V × Hp} (h : opX E run xo F H = some r) : ∀ why, xo ≠ .bad why := by
  rintro why rfl
  simp [opX, doX] at h
theorem nrm_step {run : Run} (h : NrmOk run) : NrmOk (execBody E run) := by
  intro l F H ex F' H' hr
  cases l with
  | nil => simp [execBody] at hr; exact hr.1.symm
  | cons o l =>
    simp only [execBody] at hr
    split at hr
    · exact h _ _ _ _ _ _ hr
    · cases hr
theorem ops_step {n : Nat} {run : Run} (hs : SgOk σ) (hE : EnvOk p σ E) (hR : RunOk p σ n run) : OpsOk p σ (execBody E run) := by
  intro nt ops l F H ex F' H' ρ a w h hF hn hd hH Q hQ
  cases l with
  | nil =>
    simp [execBody] at h
    obtain ⟨rfl, rfl, rfl⟩ := h
    exact wpList_nil (hQ a w ⟨rfl, ρ, hF, hn, hd, hH, .refl _ _ _⟩)
  | cons o l =>
    simp only [List.map_cons, execBody] at h
    split at h
    · rename_i F1 H1 hst
      unfold stepX at hst
      split at hst
      · rename_i hw
        split at hst
        · rename_i v H2 hop
          simp at hst; obtain ⟨rfl, rfl⟩ := hst
          obtain ⟨k1, k2, k3, k4⟩ := cOper_spec (not_bad hop)
          have hwant := want_sound hF k4 hw
          rw [k3] at h
          unfold wpList
          rw [if_pos hwant]
          refine .inl (opX_sound hs (callX_sound hE hR) k1 hop hF hH rfl hd (fun x w' ρ' a1 hv hH' hS ht hd1 => ?_))
          have hF1 : FR σ ρ' F a1 := fun t => by rw [ht]; exact (hF.mono hS.le) t
          exact hR.ops nt ops l _ _ ex F' H' ρ' (a1.put o.dst x) w' h (hF1.put hv (by rw [ht]; exact hn) k2) (by rw [put_size, ht]; exact hn) (by rw [put_defers]; exact hd1) hH' Q (fun a' w'' hp => hQ a' w'' (hp.trans hS))
        · cases hst
      · rename_i hw
        simp at hst; obtain ⟨rfl, rfl⟩ := hst
        by_cases hb : ∃ why, (cOper p nt ops o).op = .bad why
        · obtain ⟨why, hb⟩ := hb
          rw [cOper_bad hb] at hw
          simp [want] at hw
        · obtain ⟨k1, k2, k3, k4⟩ := cOper_spec (p := p) (nt := nt) (ops := ops) (o := o) (fun why e => hb ⟨why, e⟩)
          rw [k3] at h
          unfold wpList
          rw [if_neg (by rw [want_sound hF k4 hw]; simp)]
          exact hR.ops nt ops l _ _ ex F' H' ρ (a.put o.dst undef) w h (hF.put (VR.undef σ ρ) hn k2) (by rw [put_size]; exact hn) (by rw [put_defers]; exact hd) hH Q hQ
      · cases hst
    · cases h
theorem loop_step {n : Nat} {run : Run} (hR : RunOk p σ n run) : LoopOk p σ (n + 1) (execBody E run) := by
  intro nt c F H ex F' H' ρ a w h hF hn hd hH
  simp only [execBody] at h
  rw [rounds_succ]
  split at h
  · rename_i F1 H1 hb
    refine wp_mono (hR.code nt c F H .nrm F1 H1 ρ a w hb hF hn hd hH) ?_
    rintro e a' w' ⟨rfl, ρ', h1, h2, h3, h4, h5⟩
    have := hR.loop nt c F1 H1 ex F' H' ρ' a' w' h h1 h2 h3 h4
    exact rounds_mono (fun e a2 w2 hp => hp.trans h5) n a' w' this
  · rename_i r hne
    refine wp_mono (hR.code nt c F H ex F' H' ρ a w h hF hn hd hH) ?_
    rintro e a' w' hp
    cases ex with
    | nrm => exact (hne _ _ h).elim
    | ret => obtain ⟨rfl, hp⟩ := hp; exact ⟨rfl, hp⟩
    | exit id => obtain ⟨rfl, hp⟩ := hp; exact ⟨rfl, hp⟩
theorem code_step {n : Nat} {run : Run} (hs : SgOk σ) (hE : EnvOk p σ E) (hR : RunOk p σ n run) (hD : DrawOk p σ E run) : CodeOk p σ (execBody E run) := by
  intro nt c
  induction c with
  | skip =>
    intro F H ex F' H' ρ a w h hF hn hd hH
    simp [cCode, execBody] at h
    obtain ⟨rfl, rfl, rfl⟩ := h
    exact wp_skip ⟨rfl, ρ, hF, hn, hd, hH, .refl _ _ _⟩
  | label l =>
    intro F H ex F' H' ρ a w h hF hn hd hH
    simp [cCode, execBody] at h
    obtain ⟨rfl, rfl, rfl⟩ := h
    exact wp_label ⟨rfl, ρ, hF, hn, hd, hH, .refl _ _ _⟩
  | region id ops draw =>
    intro F H ex F' H' ρ a w h hF hn hd hH
    cases draw with
    | false =>
      simp only [cCode] at h
      have hx := nrm_step hR.nrm _ _ _ _ _ _ h
      subst hx
      exact wp_region_list (ops_step hs hE hR nt ops ops.toList F H .nrm F' H' ρ a w h hF hn hd hH _ (fun a' w' hp => hp))
    | true =>
      simp only [cCode, execBody] at h
      split at h
      · rename_i F1 H1 hdr
        simp at h
        obtain ⟨rfl, rfl, rfl⟩ := h
        exact hD nt id ops F H F1 H1 ρ a w hdr hF hn hd hH
      · cases h
  | seq x y _ _ =>
    intro F H ex F' H' ρ a w h hF hn hd hH
    simp only [cCode, execBody] at h
    refine wp_seq ?_
    split at h
    · rename_i F1 H1 hx
      refine wp_mono (hR.code nt x F H .nrm F1 H1 ρ a w hx hF hn hd hH) ?_
      rintro e a' w' ⟨rfl, ρ', h1, h2, h3, h4, h5⟩
      exact wp_mono (hR.code nt y F1 H1 ex F' H' ρ' a' w' h h1 h2 h3 h4) (fun e a2 w2 hp => hp.trans h5)
    · rename_i r hne
      refine wp_mono (hR.code nt x F H ex F' H' ρ a w h hF hn hd hH) ?_
      rintro e a' w' hp
      cases ex with
      | nrm => exact (hne _ _ h).elim
      | ret => obtain ⟨rfl, hp⟩ := hp; exact ⟨rfl, hp⟩
      | exit id => obtain ⟨rfl, hp⟩ := hp; exact ⟨rfl, hp⟩
  | cond c x y _ _ =>
    intro F H ex F' H' ρ a w h hF hn hd hH
    simp only [cCode] at h
    split at h
    · rename_i cx hc
      have hv := cOpd_sound hF hc
      simp only [execBody] at h
      split at h
      · rename_i e
        rw [e] at hv
        exact wp_cond_true hv.bool_inv (hR.code nt x F H ex F' H' ρ a w h hF hn hd hH)
      · rename_i e
        rw [e] at hv
        exact wp_cond_false hv.bool_inv (hR.code nt y F H ex F' H' ρ a w h hF hn hd hH)
      · cases h
    · simp [execBody] at h
  | block id b _ =>
    intro F H ex F' H' ρ a w h hF hn hd hH
    simp only [cCode, execBody] at h
    refine wp_block ?_
    split at h
    · rename_i j F1 H1 hb
      refine wp_mono (hR.code nt b F H (.exit j) F1 H1 ρ a w hb hF hn hd hH) ?_
      rintro e a' w' ⟨rfl, hp⟩
      rw [beq_iff] at h
      simp only [XE.toExit, Exit.inBlock]
      by_cases hj : j = id
      · rw [decide_eq_true hj, cond_true] at h
        simp at h; obtain ⟨rfl, rfl, rfl⟩ := h
        rw [if_pos hj]; exact ⟨rfl, hp⟩
      · rw [decide_eq_false hj, cond_false] at h
        simp at h; obtain ⟨rfl, rfl, rfl⟩ := h
        rw [if_neg hj]; exact ⟨rfl, hp⟩
    · rename_i r hne
      refine wp_mono (hR.code nt b F H ex F' H' ρ a w h hF hn hd hH) ?_
      rintro e a' w' hp
      cases ex with
      | nrm => obtain ⟨rfl, hp⟩ := hp; exact ⟨rfl, hp⟩
      | ret => obtain ⟨rfl, hp⟩ := hp; exact ⟨rfl, hp⟩
      | exit id' => exact (hne _ _ _ h).elim
  | loop b _ =>
    intro F H ex F' H' ρ a w h hF hn hd hH
    simp only [cCode] at h
    exact wp_loop_rounds (n + 1) (loop_step hR nt b F H ex F' H' ρ a w h hF hn hd hH)
  | exit id =>
    intro F H ex F' H' ρ a w h hF hn hd hH
    simp [cCode, execBody] at h
    obtain ⟨rfl, rfl, rfl⟩ := h
    exact wp_exit ⟨rfl, ρ, hF, hn, hd, hH, .refl _ _ _⟩
  | ret =>
    intro F H ex F' H' ρ a w h hF hn hd hH
    simp [cCode, execBody] at h
    obtain ⟨rfl, rfl, rfl⟩ := h
    exact wp_ret ⟨rfl, ρ, hF, hn, hd, hH, .refl _ _ _⟩
  | scope b ih =>
    intro F H ex F' H' ρ a w h hF hn hd hH
    simp only [cCode] at h
    refine wp_scope_straight (wp_mono (ih F H ex F' H' ρ a w h hF hn hd hH) ?_)
    rintro e a' w' hp
    obtain ⟨rfl, hp⟩ := hp
    cases ex <;> exact ⟨rfl, hp⟩
  | goto l =>
    intro F H ex F' H' ρ a w h hF hn hd hH
    simp [cCode, execBody] at h
  | rangeFunc _ _ _ _ _ _ =>
    intro F H ex F' H' ρ a w h hF hn hd hH
    simp [cCode, execBody] at h
  | refuse why =>
    intro F H ex F' H' ρ a w h hF hn hd hH
    simp [cCode, execBody] at h
end
end Go.Proofs.YtfhjamimbgdfpaaGreat.X
