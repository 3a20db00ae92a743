/- A verified executor, part XDr4: laws of the executor; no condition. -/
import Derived.Test.YtfhjamimbgdfpaaGreatXDr3
namespace Go.Proofs.YtfhjamimbgdfpaaGreat.X
open Go
set_option linter.unusedVariables false
set_option linter.unusedSimpArgs false
section
variable {p : Program} {σ : Sg} {E : Env} {run : Run} {nt : Nat} {ops : Array Oper} {o : Nat → Nat} {A : Nat → List Nat} {FF : Nat → Fr} {HH : Nat → Hp} {vv : Nat → V} {exc : Nat → Nat → Prop}
variable {ρ0 ρ : Ren} {w0 w w' : World} {S : Nat → Prop} {c k : Nat} {a : Act} {x : Value}

theorem Inv.done (C : Cn p E run nt ops o A FF HH vv exc) (I : Inv σ p nt ops o FF HH vv ρ0 w0 S c ρ a w) (hall : ∀ k, k < ops.size → S k) :
    ∃ ρ', FR σ ρ' (FF ops.size) a ∧ HR σ ρ' (HH ops.size) w ∧ Stp ρ0 (HH 0) w0 ρ' (HH ops.size) w := by
  obtain ⟨g1, g2, -⟩ := I.absorb C ops.size I.cle (Nat.le_refl _) (fun i h1 h2 => I.noW i h1 h2 (hall i h2)) (fun i h1 h2 => .inl (hall i h2))
  refine ⟨_, fun t => ?_, g1, g2⟩
  by_cases h : ∃ j, j < ops.size ∧ (ops.getD (o j) default).dst = some t
  · obtain ⟨j, hj, hd⟩ := h
    rw [C.ff1 hd ops.size (Nat.le_refl _) hj]
    exact (I.fr1 j hj (hall j hj) t hd).mono (Ren.cut_mono (.refl _) (C.next (Nat.le_refl _) hj))
  · rw [C.ff0 ops.size (Nat.le_refl _) (fun j hj e => h ⟨j, hj, e⟩)]
    exact (I.fr0 t (fun j hj _ e => h ⟨j, hj, e⟩)).mono (Ren.cut_mono (.refl _) (C.next (Nat.le_refl _) (Nat.zero_le _)))
theorem cnt_lt {f g : Nat → Bool} (h : ∀ x, g x = true → f x = true) : ∀ l : List Nat, (l.filter g).length ≤ (l.filter f).length ∧ ∀ x ∈ l, f x = true → g x = false → (l.filter g).length < (l.filter f).length
  | [] => ⟨Nat.le_refl _, fun x hx => by simp at hx⟩
  | y :: r => by
    obtain ⟨h1, h2⟩ := cnt_lt h r
    simp only [List.filter_cons]
    refine ⟨?_, fun x hx hf hg => ?_⟩
    · by_cases e : g y = true
      · rw [if_pos e, if_pos (h y e)]; simpa using h1
      · rw [if_neg e]; split
        · simp; omega
        · exact h1
    · rcases List.mem_cons.1 hx with rfl | hx
      · rw [if_neg (by rw [hg]; simp), if_pos hf]; simp; omega
      · have := h2 x hx hf hg
        by_cases e : g y = true
        · rw [if_pos e, if_pos (h y e)]; simpa using this
        · rw [if_neg e]; split
          · simp; omega
          · exact this
def unl (n : Nat) (listed : Array Bool) : Nat := ((List.range n).filter fun i => !listed.getD i true).length

theorem ready_iff {listed : Array Bool} {i : Nat} : i ∈ Region.ready .any ops listed ↔ i < ops.size ∧ listed.getD i true = false ∧ ∀ e ∈ (ops.getD i default).after, Region.binds .any e = true → listed.getD e.on false = true := by
  unfold Region.ready
  rw [List.mem_filter, List.mem_range]
  constructor
  · rintro ⟨h1, h2⟩
    refine ⟨h1, ?_⟩
    simp only [Array.getElem?_eq_getElem h1, Option.map_some, Option.getD_some, Bool.and_eq_true, Bool.not_eq_true', Array.all_eq_true', Bool.or_eq_true] at h2
    refine ⟨h2.1, fun e he hb => ?_⟩
    simp [h1] at he
    rcases h2.2 e he with h | h
    · rw [hb] at h; simp at h
    · exact h
  · rintro ⟨h1, h2, h3⟩
    refine ⟨h1, ?_⟩
    simp only [Array.getElem?_eq_getElem h1, Option.map_some, Option.getD_some, Bool.and_eq_true, Bool.not_eq_true', Array.all_eq_true', Bool.or_eq_true]
    refine ⟨h2, fun e he => ?_⟩
    by_cases hb : Region.binds .any e = true
    · exact .inr (h3 e (by simpa [h1] using he) hb)
    · exact .inl (by simpa using hb)
theorem getT {listed : Array Bool} {i : Nat} (h1 : listed.size = ops.size) (h2 : i < ops.size) : listed.getD i true = listed.getD i false := by
  have : i < listed.size := by omega
  simp [this]
/-- which are done -/
structure Lst (ops : Array Oper) (o : Nat → Nat) (A : Nat → List Nat) (S : Nat → Prop) (listed : Array Bool) : Prop where
  size : listed.size = ops.size
  iff : ∀ j, j < ops.size → (S j ↔ listed.getD (o j) false = true)
  cl : ∀ i j, i < ops.size → j < ops.size → S j → o i ∈ A (o j) → S i
theorem Lst.rdy (C : Cn p E run nt ops o A FF HH vv exc) {listed : Array Bool} (L : Lst ops o A S listed) (hr : Region.ready .any ops listed = []) : ∀ k, k < ops.size → S k := by
  intro k
  induction k using Nat.strongRecOn with
  | ind k ih =>
    intro hk
    refine Classical.byContradiction fun hn => ?_
    have : o k ∈ Region.ready .any ops listed := by
      rw [ready_iff]
      refine ⟨C.lt k hk, ?_, fun e he hb => ?_⟩
      · rw [getT L.size (C.lt k hk)]
        simpa using fun h => hn ((L.iff k hk).2 h)
      · obtain ⟨j, hj, e'⟩ := C.anc k hk _ (C.bind k hk e he hb)
        rw [← e']
        exact (L.iff j (by omega)).1 (ih j hj (by omega))
    rw [hr] at this; simp at this
theorem Lst.anc (C : Cn p E run nt ops o A FF HH vv exc) {listed : Array Bool} (L : Lst ops o A S listed) (hk : k < ops.size) (hi : o k ∈ Region.ready .any ops listed) (hexc : ∀ x, exc (o k) x → ∃ j, j < ops.size ∧ o j = x ∧ S j) :
    ¬ S k ∧ ∀ j, j < ops.size → o j ∈ A (o k) → S j := by
  obtain ⟨hin, hi2, hi3⟩ := ready_iff.1 hi
  refine ⟨fun h => ?_, fun j hj hjA => ?_⟩
  · have := (L.iff k hk).1 h
    rw [← getT L.size hin, hi2] at this; cases this
  · rcases C.ancE k hk _ hjA with h | ⟨e, he, hb, h⟩
    · obtain ⟨m, hm, e', hm'⟩ := hexc _ h
      have := C.inj m j hm hj e'
      subst this; exact hm'
    · have hl := hi3 e he hb
      rcases h with h | h
      · rw [h] at hl; exact (L.iff j hj).2 hl
      · obtain ⟨m, hm, e'⟩ := C.anc k hk _ (C.bind k hk e he hb)
        rw [← e'] at hl h
        exact L.cl j m hj (by omega) ((L.iff m (by omega)).2 hl) h
theorem Lst.add (C : Cn p E run nt ops o A FF HH vv exc) {listed : Array Bool} (L : Lst ops o A S listed) (hk : k < ops.size) (hA : ∀ j, j < ops.size → o j ∈ A (o k) → S j) :
    Lst ops o A (fun j => S j ∨ j = k) (listed.setIfInBounds (o k) true) := by
  refine ⟨by simpa using L.size, fun j hj => ?_, fun i j hi hj hSj hm => ?_⟩
  · by_cases e : j = k
    · subst e
      have := L.size
      have : o j < listed.size := by have := C.lt j hk; omega
      simp [this]
    · have hne : o k ≠ o j := fun e' => e (C.inj j k hj hk e'.symm)
      simp only [e, or_false]
      rw [L.iff j hj]
      simp [Array.getElem?_setIfInBounds_ne hne]
  · rcases hSj with hSj | rfl
    · exact .inl (L.cl i j hi hj hSj hm)
    · exact .inl (hA i hi hm)
theorem unl_add {listed : Array Bool} {i fuel : Nat} (hsz : listed.size = ops.size) (hi : i ∈ Region.ready .any ops listed) (hf : unl ops.size listed ≤ fuel + 1) : unl ops.size (listed.setIfInBounds i true) ≤ fuel := by
  obtain ⟨hin, hi2, -⟩ := ready_iff.1 hi
  have hlt := (cnt_lt (f := fun i => !listed.getD i true) (g := fun j => !(listed.setIfInBounds i true).getD j true) (fun x hx => by
    by_cases e : i = x
    · subst e
      have : i < listed.size := by omega
      simp [this] at hx
    · simpa [Array.getElem?_setIfInBounds_ne e] using hx) (List.range ops.size)).2 i (List.mem_range.2 hin) (by simp only [hi2]; rfl) (by
      have : i < listed.size := by omega
      simp [this])
  unfold unl at hf ⊢
  omega
theorem unl_zero {listed : Array Bool} (hf : unl ops.size listed ≤ 0) : Region.ready .any ops listed = [] := by
  have hempty : (List.range ops.size).filter (fun i => !listed.getD i true) = [] := List.length_eq_zero_iff.1 (by unfold unl at hf; omega)
  rw [List.eq_nil_iff_forall_not_mem]
  intro i hi
  obtain ⟨h1, h2, -⟩ := ready_iff.1 hi
  have : i ∈ (List.range ops.size).filter (fun i => !listed.getD i true) := List.mem_filter.2 ⟨List.mem_range.2 h1, by rw [h2]; rfl⟩
  rw [hempty] at this; simp at this

theorem any_order (hs : SgOk σ) (hC : CallOk p σ E run) (C : Cn p E run nt ops o A FF HH vv exc) {Q : Exit → Act → World → Prop}
    (hQ : ∀ a w ρ, FR σ ρ (FF ops.size) a → nt ≤ a.tmps.size → DfOk p a.defers → HR σ ρ (HH ops.size) w → Stp ρ0 (HH 0) w0 ρ (HH ops.size) w → Q .normal a w) :
    ∀ (fuel : Nat) (listed : Array Bool) (a : Act) (w : World) (S : Nat → Prop) (c : Nat) (ρ : Ren), Inv σ p nt ops o FF HH vv ρ0 w0 S c ρ a w → Lst ops o A S listed → (∀ i x, exc i x → ∃ j, j < ops.size ∧ o j = x ∧ S j) → unl ops.size listed ≤ fuel → wpAny p .any ops Q fuel listed a w := by
  have fin : ∀ (a : Act) (w : World) (S : Nat → Prop) (c : Nat) (ρ : Ren), Inv σ p nt ops o FF HH vv ρ0 w0 S c ρ a w → (∀ k, k < ops.size → S k) → Q .normal a w := by
    intro a w S c ρ I hall
    obtain ⟨ρ', h1, h2, h3⟩ := I.done C hall
    exact hQ a w ρ' h1 I.siz I.dfr h2 h3
  intro fuel
  induction fuel with
  | zero =>
    intro listed a w S c ρ I L hexc hf
    have hr := unl_zero hf
    exact ⟨hr, fin a w S c ρ I (L.rdy C hr)⟩
  | succ fuel ih =>
    intro listed a w S c ρ I L hexc hf
    refine ⟨fun hr => fin a w S c ρ I (L.rdy C hr), fun i hi => ?_⟩
    obtain ⟨k, hk, rfl⟩ := C.surj i (ready_iff.1 hi).1
    obtain ⟨hnS, hA⟩ := L.anc C hk hi (fun x => hexc _ x)
    exact I.step hs hC C hk hnS hA L.cl fun c' ρ' a' w' I' => ih _ a' w' _ c' ρ' I' (L.add C hk hA) (fun i x h => let ⟨j, h1, h2, h3⟩ := hexc i x h; ⟨j, h1, h2, .inl h3⟩) (unl_add L.size hi hf)
end
end Go.Proofs.YtfhjamimbgdfpaaGreat.X
