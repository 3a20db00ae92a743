/-
  Straight code: each instruction goes on to the next one: the depths that check finds, or where it stops. No program in sight; no condition.
-/
import Derived.Test.YtmlmepbnjlepnaaChkStep
namespace Go.Proofs.Ytmlmepbnjlepnaa

/-- The state at place j of straight code whose depths are g. -/
def lineS (g : Nat → Int) (N j : Nat) : St := ⟨(List.range N).map fun i => if i ≤ j then g i else -1, (List.range N).map fun i => decide (i = j), j⟩

theorem getD_range {α : Type} (f : Nat → α) {N i : Nat} (d : α) (h : i < N) : ((List.range N).map f).getD i d = f i := by
  simp [List.getD, h]
theorem set_range {α : Type} {f f' : Nat → α} {N i : Nat} {v : α} (h : ∀ k, k < N → f' k = if k = i then v else f k) : ((List.range N).map f).set i v = (List.range N).map f' := by
  refine List.ext_getElem (by simp) fun k h1 h2 => ?_
  have hk : k < N := by simpa using h2
  rw [List.getElem_set]
  simp only [List.getElem_map, List.getElem_range]
  rw [h k hk]
  by_cases e : i = k
  · rw [if_pos e, if_pos e.symm]
  · rw [if_neg e, if_neg (fun e' => e e'.symm)]

theorem rep_range {α : Type} (N : Nat) (x : α) : List.replicate N x = (List.range N).map fun _ => x := List.ext_getElem (by simp) (fun i h1 h2 => by simp)

section
variable {ps : List Pr} {p : Pr} {N : Nat} {g : Nat → Int}
theorem line_ds {j : Nat} (h : j < N) : (lineS g N j).ds.getD j 0 = g j := by
  unfold lineS; dsimp only
  rw [getD_range _ _ h, if_pos (Nat.le_refl _)]
theorem line_op {j : Nat} (h : j < N) : (lineS g N j).op.getD j false = true := by
  unfold lineS; dsimp only
  rw [getD_range _ _ h]; simp
theorem line_step {j : Nat} (hN : p.code.length = N) (hj : j + 1 < N) (h1 : opsE ps p (insAt p j) = 0) (h2 : stackE (insAt p j) (g j) = (g (j + 1), 0)) (h3 : goesL (insAt p j) j = [(j : Int) + 1]) :
    step ps p (lineS g N j) = .go (lineS g N (j + 1)) := by
  have ho := line_op (g := g) (N := N) (j := j) (by omega)
  have hd := line_ds (g := g) (N := N) (j := j) (by omega)
  have hpc : (lineS g N j).pc = j := rfl
  unfold step
  rw [hpc, ho, if_neg (by decide)]
  unfold work
  dsimp only
  rw [hpc, hd, h1, h2, h3, if_neg (by simp), if_neg (by simp), if_neg (by simp [inB]; omega)]
  have ht : ((j : Int) + 1).toNat = j + 1 := by omega
  have hneg : (lineS g N j).ds.getD (j + 1) 0 < 0 := by
    unfold lineS; dsimp only
    rw [getD_range _ _ hj, if_neg (by omega)]; decide
  have hl : land (g (j + 1)) [(j : Int) + 1] ((lineS g N j).ds, (lineS g N j).op.set j false, (j : Int) + 1) = some ((lineS g N (j + 1)).ds, (lineS g N (j + 1)).op, (j : Int) + 1) := by
    unfold land
    rw [ht, if_pos hneg]
    unfold land
    have e1 : (lineS g N j).ds.set (j + 1) (g (j + 1)) = (lineS g N (j + 1)).ds := set_range fun k hk => by
      by_cases e : k = j + 1
      · subst e; rw [if_pos (Nat.le_refl _), if_pos rfl]
      · rw [if_neg e]
        by_cases e2 : k ≤ j
        · rw [if_pos (by omega), if_pos e2]
        · rw [if_neg (by omega), if_neg e2]
    have e2 : ((lineS g N j).op.set j false).set (j + 1) true = (lineS g N (j + 1)).op := by
      have : (lineS g N j).op.set j false = (List.range N).map fun _ => false := set_range fun k hk => by
        by_cases e : k = j
        · rw [if_pos e]
        · rw [if_neg e]; simp [e]
      rw [this]
      exact set_range fun k hk => by
        by_cases e : k = j + 1
        · rw [if_pos e]; simp [e]
        · rw [if_neg e]; simp [e]
    rw [e1, e2, Int.min_self]
  rw [hl]
  show Out.go ⟨(lineS g N (j + 1)).ds, (lineS g N (j + 1)).op, ((j : Int) + 1).toNat⟩ = _
  rw [ht]; rfl
theorem line_run (hN : p.code.length = N) : ∀ (M j f : Nat), j + M < N → (∀ i, j ≤ i → i < j + M → opsE ps p (insAt p i) = 0 ∧ stackE (insAt p i) (g i) = (g (i + 1), 0) ∧ goesL (insAt p i) i = [(i : Int) + 1]) →
    runP ps p (M + f) (lineS g N j) = runP ps p f (lineS g N (j + M))
  | 0, j, f, _, _ => by rw [Nat.zero_add]; rfl
  | M + 1, j, f, hM, h => by
    obtain ⟨h1, h2, h3⟩ := h j (Nat.le_refl _) (by omega)
    rw [show M + 1 + f = (M + f) + 1 from by omega]
    conv => lhs; unfold runP
    rw [if_pos (show (lineS g N j).pc < p.code.length by show j < _; omega), line_step hN (by omega) h1 h2 h3]
    show runP ps p (M + f) (lineS g N (j + 1)) = _
    rw [line_run hN M (j + 1) f (by omega) (fun i a b => h i (by omega) (by omega)), show j + 1 + M = j + (M + 1) from by omega]
/-- the last one ends the code -/
theorem line_end {j f : Nat} (hN : p.code.length = N) (hj : j + 1 = N) (h1 : opsE ps p (insAt p j) = 0) (h2 : (stackE (insAt p j) (g j)).2 = 0) (h3 : goesL (insAt p j) j = []) :
    runP ps p (f + 2) (lineS g N j) = some (.ok ((List.range N).map g)) := by
  have ho := line_op (g := g) (N := N) (j := j) (by omega)
  have hd := line_ds (g := g) (N := N) (j := j) (by omega)
  have hpc : (lineS g N j).pc = j := rfl
  have hs : step ps p (lineS g N j) = .go ⟨(lineS g N j).ds, (lineS g N j).op.set j false, j + 1⟩ := by
    unfold step
    rw [hpc, ho, if_neg (by decide)]
    unfold work
    dsimp only
    rw [hpc, hd, h1, h3, if_neg (by simp), if_neg (by simp [h2]), if_neg (by simp)]
    show Out.go ⟨(lineS g N j).ds, (lineS g N j).op.set j false, ((j : Int) + 1).toNat⟩ = _
    rw [show ((j : Int) + 1).toNat = j + 1 from by omega]
  conv => lhs; unfold runP
  rw [if_pos (show (lineS g N j).pc < p.code.length by show j < _; omega), hs]
  show runP ps p (f + 1) ⟨(lineS g N j).ds, (lineS g N j).op.set j false, j + 1⟩ = _
  unfold runP
  rw [if_neg (by show ¬ (j + 1 < p.code.length); omega)]
  have e : (lineS g N j).ds = (List.range N).map g := by
    unfold lineS; dsimp only
    exact List.map_congr_left fun i hi => by rw [if_pos (by have := List.mem_range.1 hi; omega)]
  rw [e]
/-- too little is there -/
theorem line_bad {j f : Nat} {er : Int} (hN : p.code.length = N) (hj : j < N) (h1 : opsE ps p (insAt p j) = 0) (h2 : (stackE (insAt p j) (g j)).2 = er) (he : er ≠ 0) :
    runP ps p (f + 1) (lineS g N j) = some (.bad j er) := by
  have ho := line_op (g := g) (N := N) (j := j) hj
  have hd := line_ds (g := g) (N := N) (j := j) hj
  have hpc : (lineS g N j).pc = j := rfl
  have hs : step ps p (lineS g N j) = .bad j er := by
    unfold step
    rw [hpc, ho, if_neg (by decide)]
    unfold work
    dsimp only
    rw [hpc, hd, h1, if_neg (by simp), if_pos (by rw [h2]; exact he), h2]
  unfold runP
  rw [if_pos (show (lineS g N j).pc < p.code.length by show j < _; omega), hs]
theorem line_start (hN : p.code.length = N) (_h0 : 0 < N) (hr : p.rest = false) (ha : p.args = g 0) : start p = lineS g N 0 := by
  unfold start lineS
  rw [hN, hr]
  simp only [Bool.false_eq_true, if_false]
  congr 1
  · rw [ha, rep_range]
    exact set_range fun k hk => by
      by_cases e : k = 0
      · subst e; rw [if_pos (Nat.le_refl _), if_pos rfl]
      · rw [if_neg (by omega), if_neg e]
  · rw [rep_range]
    exact set_range fun k hk => by
      by_cases e : k = 0
      · rw [if_pos e]; simp [e]
      · rw [if_neg e]; simp [e]
theorem protoR_of {F : Nat} {r : Res} (h : 1 ≤ p.code.length) (ha : 0 ≤ p.args) (ha2 : p.args ≤ 64) (hr : runP ps p F (start p) = some r) : protoR ps p = r := by
  have h1 := runP_more F (max F (fuel p)) _ _ (Nat.le_max_left _ _) hr
  have h2 := runP_more (fuel p) (max F (fuel p)) _ _ (Nat.le_max_right _ _) (protoR_run (ps := ps) h ha ha2)
  rw [h1] at h2
  exact (Option.some.inj h2).symm
end

/-! ### constants, pops, a return -/
def stk (n k : Nat) : List Ins := List.replicate n ⟨1, 0, 0⟩ ++ List.replicate k ⟨17, 0, 0⟩ ++ [⟨13, 0, 0⟩]
def stkP (n k : Nat) : Pr := ⟨0, 0, false, stk n k, 1, 0⟩
def stkG (n : Nat) (i : Nat) : Int := if i ≤ n then i else 2 * n - i
theorem stk_len (n k : Nat) : (stk n k).length = n + k + 1 := by simp [stk]; omega
theorem stk_at {n k i : Nat} : insAt (stkP n k) i = if i < n then ⟨1, 0, 0⟩ else if i < n + k then ⟨17, 0, 0⟩ else if i = n + k then ⟨13, 0, 0⟩ else ⟨0, 0, 0⟩ := by
  unfold insAt stkP stk
  simp only [List.getD]
  by_cases h1 : i < n
  · rw [if_pos h1, List.getElem?_append_left (by simp; omega), List.getElem?_append_left (by simpa using h1), List.getElem?_replicate, if_pos h1]; rfl
  · rw [if_neg h1]
    by_cases h2 : i < n + k
    · rw [if_pos h2, List.getElem?_append_left (by simp; omega), List.getElem?_append_right (by simp; omega), List.getElem?_replicate, if_pos (by simp; omega)]; rfl
    · rw [if_neg h2, List.getElem?_append_right (by simp; omega)]
      by_cases h3 : i = n + k
      · rw [if_pos h3]; subst h3; simp
      · rw [if_neg h3, List.getElem?_eq_none (by simp; omega)]; rfl
theorem stk_const (n k : Nat) (d : Int) (hd : 0 ≤ d) (hd2 : d < 4096) (i : Nat) : opsE [stkP n k] (stkP n k) ⟨1, 0, 0⟩ = 0 ∧ stackE ⟨1, 0, 0⟩ d = (d + 1, 0) ∧ goesL ⟨1, 0, 0⟩ i = [(i : Int) + 1] := by
  refine ⟨by rfl, ?_, rfl⟩
  have hn : needOf ⟨1, 0, 0⟩ = 0 := by decide
  have hm : moreOf ⟨1, 0, 0⟩ = 1 := by decide
  unfold stackE
  rw [hn, hm, if_neg (by omega), if_neg (by simp), if_neg (by omega)]
theorem stk_pop (n k : Nat) (d : Int) (hd2 : d < 4096) (i : Nat) : opsE [stkP n k] (stkP n k) ⟨17, 0, 0⟩ = 0 ∧ stackE ⟨17, 0, 0⟩ d = (if d < 1 then (0, 31) else (d - 1, 0)) ∧ goesL ⟨17, 0, 0⟩ i = [(i : Int) + 1] := by
  refine ⟨by rfl, ?_, rfl⟩
  have hn : needOf ⟨17, 0, 0⟩ = 1 := by decide
  have hm : moreOf ⟨17, 0, 0⟩ = -1 := by decide
  unfold stackE
  rw [hn, hm]
  by_cases h : d < 1
  · rw [if_pos h, if_pos h]
  · rw [if_neg h, if_neg h, if_neg (by simp), if_neg (by omega)]; rfl
theorem stk_ret (n k : Nat) (d : Int) (hd2 : d < 4096) (i : Nat) : opsE [stkP n k] (stkP n k) ⟨13, 0, 0⟩ = 0 ∧ stackE ⟨13, 0, 0⟩ d = (if d < 1 then (0, 31) else (d - 1, 0)) ∧ goesL ⟨13, 0, 0⟩ i = [] := by
  refine ⟨by rfl, ?_, rfl⟩
  have hn : needOf ⟨13, 0, 0⟩ = 1 := by decide
  have hm : moreOf ⟨13, 0, 0⟩ = -1 := by decide
  unfold stackE
  rw [hn, hm]
  by_cases h : d < 1
  · rw [if_pos h, if_pos h]
  · rw [if_neg h, if_neg h, if_neg (by simp), if_neg (by omega)]; rfl
theorem stk_line {n k i : Nat} (hn : n < 40) (hi : i < n + k) (hi2 : i < 2 * n) : opsE [stkP n k] (stkP n k) (insAt (stkP n k) i) = 0 ∧ stackE (insAt (stkP n k) i) (stkG n i) = (stkG n (i + 1), 0) ∧ goesL (insAt (stkP n k) i) i = [(i : Int) + 1] := by
  rw [stk_at]
  by_cases h1 : i < n
  · rw [if_pos h1]
    obtain ⟨a, b, c⟩ := stk_const n k (stkG n i) (by unfold stkG; split <;> omega) (by unfold stkG; split <;> omega) i
    refine ⟨a, ?_, c⟩
    rw [b]
    unfold stkG
    rw [if_pos (by omega), if_pos (by omega)]
    rfl
  · rw [if_neg h1, if_pos hi]
    obtain ⟨a, b, c⟩ := stk_pop n k (stkG n i) (by unfold stkG; split <;> omega) i
    refine ⟨a, ?_, c⟩
    have hg : stkG n i = 2 * (n : Int) - i := by unfold stkG; split <;> omega
    have hg2 : stkG n (i + 1) = 2 * (n : Int) - i - 1 := by unfold stkG; rw [if_neg (by omega)]; omega
    rw [b, hg, if_neg (by omega), hg2]
theorem stk_bad {n k : Nat} (hn : n < 40) (hk : n ≤ k) : protoR [stkP n k] (stkP n k) = .bad (2 * n) 31 := by
  have hN : (stkP n k).code.length = n + k + 1 := stk_len n k
  refine protoR_of (F := 2 * n + 1) (by rw [hN]; omega) (show (0 : Int) ≤ 0 by decide) (show (0 : Int) ≤ 64 by decide) ?_
  rw [line_start (g := stkG n) hN (by omega) rfl (by unfold stkG; simp [stkP])]
  rw [line_run hN (2 * n) 0 1 (by omega) (fun i _ hi => stk_line hn (by omega) (by omega))]
  rw [Nat.zero_add]
  have hg : stkG n (2 * n) = 0 := by unfold stkG; split <;> omega
  refine line_bad hN (by omega) ?_ ?_ (by decide)
  · rw [stk_at, if_neg (by omega)]
    split
    · exact (stk_pop n k 0 (by decide) 0).1
    · rw [if_pos (by omega)]; exact (stk_ret n k 0 (by decide) 0).1
  · rw [hg, stk_at, if_neg (by omega)]
    split
    · rw [(stk_pop n k 0 (by decide) 0).2.1]; rfl
    · rw [if_pos (by omega), (stk_ret n k 0 (by decide) 0).2.1]; rfl
theorem stk_ok {n k : Nat} (hn : n < 40) (hk : k < n) : protoR [stkP n k] (stkP n k) = .ok ((List.range (n + k + 1)).map (stkG n)) := by
  have hN : (stkP n k).code.length = n + k + 1 := stk_len n k
  refine protoR_of (F := (n + k) + (0 + 2)) (by rw [hN]; omega) (show (0 : Int) ≤ 0 by decide) (show (0 : Int) ≤ 64 by decide) ?_
  rw [line_start (g := stkG n) hN (by omega) rfl (by unfold stkG; simp [stkP])]
  rw [line_run hN (n + k) 0 (0 + 2) (by omega) (fun i _ hi => stk_line hn (by omega) (by omega))]
  rw [show 0 + (n + k) = n + k from Nat.zero_add _]
  have hr := stk_ret n k (stkG n (n + k)) (by unfold stkG; split <;> omega) (n + k)
  have hat : insAt (stkP n k) (n + k) = ⟨13, 0, 0⟩ := by rw [stk_at, if_neg (by omega), if_neg (by omega), if_pos rfl]
  have hg : ¬ stkG n (n + k) < 1 := by unfold stkG; split <;> omega
  refine line_end hN rfl (by rw [hat]; exact hr.1) (by rw [hat, hr.2.1, if_neg hg]) (by rw [hat]; exact hr.2.2)

end Go.Proofs.Ytmlmepbnjlepnaa
