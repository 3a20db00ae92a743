/- A verified executor, part XExec: laws of the executor; no condition. -/
import Derived.Test.YtfhjamimbgdfpaaGreatXSound
namespace Go.Proofs.YtfhjamimbgdfpaaGreat.X
open Go
set_option linter.unusedVariables false
set_option linter.unusedSimpArgs false
section
variable {p : Program} {σ : Sg} {E : Env}

def DrawOk (p : Program) (σ : Sg) (E : Env) (run : Run) : Prop := ∀ (nt : Nat) (id : Nat) (ops : Array Oper) (F : Fr) (H : Hp) (F' : Fr) (H' : Hp) (ρ : Ren) (a : Act) (w : World), drawX E run (plan p nt ops) F H H [] = some (F', H') →
  FR σ ρ F a → nt ≤ a.tmps.size → DfOk p a.defers → HR σ ρ H w → (Code.region id ops true).wp p (Post p σ ρ H w nt .nrm F' H') a w

theorem not_bad {run : Run} {xo : XO} {F : Fr} {H : Hp} {r : V × Hp} (h : opX E run xo F H = some r) : ∀ why, xo ≠ .bad why := by
  rintro why rfl
  simp [opX, doX] at h
theorem ops_ok {n : Nat} {run : Run} (hs : SgOk σ) (hE : EnvOk p σ E) (hR : RunOk p σ n run) (nt : Nat) (ops : Array Oper) : ∀ (l : List Oper) (F : Fr) (H : Hp) (F' : Fr) (H' : Hp) (ρ : Ren) (a : Act) (w : World), opsX E run (l.map (cOper p nt ops)) F H = some (F', H') →
    FR σ ρ F a → nt ≤ a.tmps.size → DfOk p a.defers → HR σ ρ H w → ∀ Q : Exit → Act → World → Prop, (∀ a' w', Post p σ ρ H w nt .nrm F' H' .normal a' w' → Q .normal a' w') → wpList p ops Q l a w := by
  intro l
  induction l with
  | nil =>
    intro F H F' H' ρ a w h hF hn hd hH Q hQ
    simp [opsX] at h
    obtain ⟨rfl, rfl⟩ := h
    exact wpList_nil (hQ a w ⟨rfl, ρ, hF, hn, hd, hH, .refl _ _ _⟩)
  | cons o l ih =>
    intro F H F' H' ρ a w h hF hn hd hH Q hQ
    simp only [List.map_cons, opsX] at h
    split at h
    · rename_i F1 H1 hst
      unfold stepX at hst
      split at hst
      · rename_i hw
        split at hst
        · rename_i v H2 hop
          simp at hst; obtain ⟨rfl, rfl⟩ := hst
          obtain ⟨k1, k2, k3, k4⟩ := cOper_spec (not_bad hop)
          have hwant := want_sound hF k4 hw
          rw [k3] at h
          unfold wpList
          rw [if_pos hwant]
          refine .inl (opX_sound hs (callX_sound hE hR) k1 hop hF hH rfl hd (fun x w' ρ' a1 hv hH' hS ht hd1 => ?_))
          have hF1 : FR σ ρ' F a1 := fun t => by rw [ht]; exact (hF.mono hS.le) t
          exact ih _ _ F' H' ρ' (a1.put o.dst x) w' h (hF1.put hv (by rw [ht]; exact hn) k2) (by rw [put_size, ht]; exact hn) (by rw [put_defers]; exact hd1) hH' Q (fun a' w'' hp => hQ a' w'' (hp.trans hS))
        · cases hst
      · rename_i hw
        simp at hst; obtain ⟨rfl, rfl⟩ := hst
        by_cases hb : ∃ why, (cOper p nt ops o).op = .bad why
        · obtain ⟨why, hb⟩ := hb
          rw [cOper_bad hb] at hw
          simp [want] at hw
        · obtain ⟨k1, k2, k3, k4⟩ := cOper_spec (p := p) (nt := nt) (ops := ops) (o := o) (fun why e => hb ⟨why, e⟩)
          rw [k3] at h
          unfold wpList
          rw [if_neg (by rw [want_sound hF k4 hw]; simp)]
          exact ih _ _ F' H' ρ (a.put o.dst undef) w h (hF.put (VR.undef σ ρ) hn k2) (by rw [put_size]; exact hn) (by rw [put_defers]; exact hd) hH Q hQ
      · cases hst
    · cases h
theorem loop_round {n : Nat} {run : Run} (hR : RunOk p σ n run) {nt : Nat} {c : Code} (ihb : ∀ (F : Fr) (H : Hp) (ex : XE) (F' : Fr) (H' : Hp) (ρ : Ren) (a : Act) (w : World), execBody E run (cCode p nt c) F H = some (ex, F', H') →
    FR σ ρ F a → nt ≤ a.tmps.size → DfOk p a.defers → HR σ ρ H w → c.wp p (Post p σ ρ H w nt ex F' H') a w) :
    ∀ (F : Fr) (H : Hp) (ex : XE) (F' : Fr) (H' : Hp) (ρ : Ren) (a : Act) (w : World), execBody E run (.loop (cCode p nt c)) F H = some (ex, F', H') →
    FR σ ρ F a → nt ≤ a.tmps.size → DfOk p a.defers → HR σ ρ H w → Code.rounds p c (Post p σ ρ H w nt ex F' H') (n + 1) a w := by
  intro F H ex F' H' ρ a w h hF hn hd hH
  simp only [execBody] at h
  rw [rounds_succ]
  split at h
  · rename_i F1 H1 hb
    refine wp_mono (ihb F H .nrm F1 H1 ρ a w hb hF hn hd hH) ?_
    rintro e a' w' ⟨rfl, ρ', h1, h2, h3, h4, h5⟩
    have := hR.loop nt c F1 H1 ex F' H' ρ' a' w' h h1 h2 h3 h4
    exact rounds_mono (fun e a2 w2 hp => hp.trans h5) n a' w' this
  · rename_i r hne
    refine wp_mono (ihb F H ex F' H' ρ a w h hF hn hd hH) ?_
    rintro e a' w' hp
    cases ex with
    | nrm => exact (hne _ _ h).elim
    | ret => obtain ⟨rfl, hp⟩ := hp; exact ⟨rfl, hp⟩
    | exit id => obtain ⟨rfl, hp⟩ := hp; exact ⟨rfl, hp⟩
theorem code_step {n : Nat} {run : Run} (hs : SgOk σ) (hE : EnvOk p σ E) (hR : RunOk p σ n run) (hD : DrawOk p σ E run) : CodeOk p σ (execBody E run) := by
  intro nt c
  induction c with
  | skip =>
    intro F H ex F' H' ρ a w h hF hn hd hH
    simp [cCode, execBody] at h
    obtain ⟨rfl, rfl, rfl⟩ := h
    exact wp_skip ⟨rfl, ρ, hF, hn, hd, hH, .refl _ _ _⟩
  | label l =>
    intro F H ex F' H' ρ a w h hF hn hd hH
    simp [cCode, execBody] at h
    obtain ⟨rfl, rfl, rfl⟩ := h
    exact wp_label ⟨rfl, ρ, hF, hn, hd, hH, .refl _ _ _⟩
  | region id ops draw =>
    intro F H ex F' H' ρ a w h hF hn hd hH
    cases draw with
    | false =>
      simp only [cCode, execBody] at h
      split at h
      · rename_i F1 H1 ho
        simp at h
        obtain ⟨rfl, rfl, rfl⟩ := h
        exact wp_region_list (ops_ok hs hE hR nt ops ops.toList F H F1 H1 ρ a w ho hF hn hd hH _ (fun a' w' hp => hp))
      · cases h
    | true =>
      simp only [cCode, execBody] at h
      split at h
      · rename_i F1 H1 hdr
        simp at h
        obtain ⟨rfl, rfl, rfl⟩ := h
        exact hD nt id ops F H F1 H1 ρ a w hdr hF hn hd hH
      · cases h
  | seq x y ihx ihy =>
    intro F H ex F' H' ρ a w h hF hn hd hH
    simp only [cCode, execBody] at h
    refine wp_seq ?_
    split at h
    · rename_i F1 H1 hx
      refine wp_mono (ihx F H .nrm F1 H1 ρ a w hx hF hn hd hH) ?_
      rintro e a' w' ⟨rfl, ρ', h1, h2, h3, h4, h5⟩
      exact wp_mono (ihy F1 H1 ex F' H' ρ' a' w' h h1 h2 h3 h4) (fun e a2 w2 hp => hp.trans h5)
    · rename_i r hne
      refine wp_mono (ihx F H ex F' H' ρ a w h hF hn hd hH) ?_
      rintro e a' w' hp
      cases ex with
      | nrm => exact (hne _ _ h).elim
      | ret => obtain ⟨rfl, hp⟩ := hp; exact ⟨rfl, hp⟩
      | exit id => obtain ⟨rfl, hp⟩ := hp; exact ⟨rfl, hp⟩
  | cond c x y ihx ihy =>
    intro F H ex F' H' ρ a w h hF hn hd hH
    simp only [cCode] at h
    split at h
    · rename_i cx hc
      have hv := cOpd_sound hF hc
      simp only [execBody] at h
      split at h
      · rename_i e
        rw [e] at hv
        exact wp_cond_true hv.bool_inv (ihx F H ex F' H' ρ a w h hF hn hd hH)
      · rename_i e
        rw [e] at hv
        exact wp_cond_false hv.bool_inv (ihy F H ex F' H' ρ a w h hF hn hd hH)
      · cases h
    · simp [execBody] at h
  | block id b ihb =>
    intro F H ex F' H' ρ a w h hF hn hd hH
    simp only [cCode, execBody] at h
    refine wp_block ?_
    split at h
    · rename_i j F1 H1 hb
      refine wp_mono (ihb F H (.exit j) F1 H1 ρ a w hb hF hn hd hH) ?_
      rintro e a' w' ⟨rfl, hp⟩
      rw [beq_iff] at h
      simp only [XE.toExit, Exit.inBlock]
      by_cases hj : j = id
      · rw [decide_eq_true hj, cond_true] at h
        simp at h; obtain ⟨rfl, rfl, rfl⟩ := h
        rw [if_pos hj]; exact ⟨rfl, hp⟩
      · rw [decide_eq_false hj, cond_false] at h
        simp at h; obtain ⟨rfl, rfl, rfl⟩ := h
        rw [if_neg hj]; exact ⟨rfl, hp⟩
    · rename_i r hne
      refine wp_mono (ihb F H ex F' H' ρ a w h hF hn hd hH) ?_
      rintro e a' w' hp
      cases ex with
      | nrm => obtain ⟨rfl, hp⟩ := hp; exact ⟨rfl, hp⟩
      | ret => obtain ⟨rfl, hp⟩ := hp; exact ⟨rfl, hp⟩
      | exit id' => exact (hne _ _ _ h).elim
  | loop b ihb =>
    intro F H ex F' H' ρ a w h hF hn hd hH
    simp only [cCode] at h
    exact wp_loop_rounds (n + 1) (loop_round hR ihb F H ex F' H' ρ a w h hF hn hd hH)
  | exit id =>
    intro F H ex F' H' ρ a w h hF hn hd hH
    simp [cCode, execBody] at h
    obtain ⟨rfl, rfl, rfl⟩ := h
    exact wp_exit ⟨rfl, ρ, hF, hn, hd, hH, .refl _ _ _⟩
  | ret =>
    intro F H ex F' H' ρ a w h hF hn hd hH
    simp [cCode, execBody] at h
    obtain ⟨rfl, rfl, rfl⟩ := h
    exact wp_ret ⟨rfl, ρ, hF, hn, hd, hH, .refl _ _ _⟩
  | scope b ih =>
    intro F H ex F' H' ρ a w h hF hn hd hH
    simp only [cCode] at h
    refine wp_scope_straight (wp_mono (ih F H ex F' H' ρ a w h hF hn hd hH) ?_)
    rintro e a' w' hp
    obtain ⟨rfl, hp⟩ := hp
    cases ex <;> exact ⟨rfl, hp⟩
  | goto l =>
    intro F H ex F' H' ρ a w h hF hn hd hH
    simp [cCode, execBody] at h
  | rangeFunc _ _ _ _ _ _ =>
    intro F H ex F' H' ρ a w h hF hn hd hH
    simp [cCode, execBody] at h
  | refuse why =>
    intro F H ex F' H' ρ a w h hF hn hd hH
    simp [cCode, execBody] at h
theorem loop_step {n : Nat} {run : Run} (hR : RunOk p σ n run) (hc : CodeOk p σ (execBody E run)) : LoopOk p σ (n + 1) (execBody E run) :=
  fun nt c => loop_round hR (hc nt c)
end
end Go.Proofs.YtfhjamimbgdfpaaGreat.X
