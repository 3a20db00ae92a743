/-
  The document's way through a proto, in plain Lean: it takes the lowest open place; it comes to what check's way comes to. No program in sight.
-/
import Derived.Test.YtmlmepbnjlepnaaChkStep
namespace Go.Proofs.Ytmlmepbnjlepnaa

/-- Closed places are passed. -/
theorem runP_skip {ps : List Pr} {p : Pr} {r : Res} : ∀ (m : Nat) (s : St) (f at' : Nat), at' = s.pc + m → at' ≤ p.code.length → (∀ j, s.pc ≤ j → j < at' → s.op.getD j false = false) → runP ps p f s = some r → ∃ f', runP ps p f' ⟨s.ds, s.op, at'⟩ = some r
  | 0, s, f, at', he, _, _, h => ⟨f, by rw [he]; exact h⟩
  | m + 1, s, 0, at', _, _, _, h => by cases h
  | m + 1, s, f + 1, at', he, hn, hcl, h => by
    unfold runP at h
    rw [if_pos (by omega)] at h
    unfold step at h
    rw [if_pos (hcl s.pc (Nat.le_refl _) (by omega))] at h
    exact runP_skip m ⟨s.ds, s.op, s.pc + 1⟩ f at' (by dsimp only; omega) hn (fun j h1 h2 => hcl j (by dsimp only at h1; omega) h2) h

/-- Depths and which places are done: what the document's walk has, and that check's run from there comes to the end. -/
structure RI (ps : List Pr) (p : Pr) (D : List Int) (dn : List Bool) (s : St) (f : Nat) : Prop where
  ds : s.ds = D
  dl : dn.length = p.code.length
  fine : Fine p s
  op : ∀ i, i < p.code.length → s.op.getD i false = (decide (0 ≤ D.getD i 0) && !dn.getD i false)
  low : ∀ i, i < s.pc → i < p.code.length → s.op.getD i false = false
  dn : ∀ i, i < p.code.length → dn.getD i false = true → 0 ≤ D.getD i 0
  top : ∀ i, i < p.code.length → D.getD i 0 ≤ 4096
  run : runP ps p f s = some (protoR ps p)

def RInv (ps : List Pr) (p : Pr) (D : List Int) (dn : List Bool) : Prop := ∃ s f, RI ps p D dn s f

def openAt (D : List Int) (dn : List Bool) (i : Nat) : Prop := 0 ≤ D.getD i 0 ∧ dn.getD i false = false

theorem RI.len {ps : List Pr} {p : Pr} {D : List Int} {dn : List Bool} {s : St} {f : Nat} (h : RI ps p D dn s f) : D.length = p.code.length := by rw [← h.ds]; exact h.fine.1
theorem RInv.len {ps : List Pr} {p : Pr} {D : List Int} {dn : List Bool} (h : RInv ps p D dn) : D.length = p.code.length ∧ dn.length = p.code.length := by
  obtain ⟨s, f, h⟩ := h
  exact ⟨h.len, h.dl⟩
theorem RInv.top {ps : List Pr} {p : Pr} {D : List Int} {dn : List Bool} (h : RInv ps p D dn) : ∀ i, i < p.code.length → D.getD i 0 ≤ 4096 := by
  obtain ⟨s, f, h⟩ := h
  exact h.top

theorem RI.op_iff {ps : List Pr} {p : Pr} {D : List Int} {dn : List Bool} {s : St} {f : Nat} (h : RI ps p D dn s f) {i : Nat} (hi : i < p.code.length) : s.op.getD i false = true ↔ openAt D dn i := by
  rw [h.op i hi, Bool.and_eq_true, decide_eq_true_eq, Bool.not_eq_true']
  rfl

/-- None is open: that is the end. -/
theorem RInv.none {ps : List Pr} {p : Pr} {D : List Int} {dn : List Bool} (h : RInv ps p D dn) (hno : ∀ i, i < p.code.length → ¬ openAt D dn i) : protoR ps p = .ok D := by
  obtain ⟨s, f, h⟩ := h
  have hcl : ∀ i, i < p.code.length → s.op.getD i false = false := fun i hi => by
    cases e : s.op.getD i false
    · rfl
    · exact absurd ((h.op_iff hi).1 e) (hno i hi)
  have hr := h.run
  have hend : ∀ (f : Nat) (s : St), s.ds = D → ¬ s.pc < p.code.length → runP ps p f s = some (protoR ps p) → protoR ps p = .ok D := by
    intro f s hds hpc hr
    cases f with
    | zero => cases hr
    | succ f =>
      unfold runP at hr
      rw [if_neg hpc, hds] at hr
      exact (Option.some.inj hr).symm
  by_cases hpc : s.pc < p.code.length
  · obtain ⟨f', hr'⟩ := runP_skip (p.code.length - s.pc) s f p.code.length (by omega) (Nat.le_refl _) (fun j _ h2 => hcl j h2) hr
    exact hend f' ⟨s.ds, s.op, p.code.length⟩ h.ds (Nat.lt_irrefl _) hr'
  · exact hend f s h.ds hpc hr

/-- The lowest open place's work. -/
theorem RInv.worked {ps : List Pr} {p : Pr} {D : List Int} {dn : List Bool} (h : RInv ps p D dn) {k : Nat} (hk : k < p.code.length) (ho : openAt D dn k) (hlow : ∀ i, i < k → ¬ openAt D dn i) :
    ∃ op f, Fine p ⟨D, op, k⟩ ∧ dn.length = p.code.length ∧ (∀ i, i < p.code.length → op.getD i false = (decide (0 ≤ D.getD i 0) && !dn.getD i false)) ∧ (∀ i, i < p.code.length → dn.getD i false = true → 0 ≤ D.getD i 0) ∧ (∀ i, i < p.code.length → D.getD i 0 ≤ 4096) ∧
      (match work ps p ⟨D, op, k⟩ with | .bad pc e => some (Res.bad pc e) | .go s' => runP ps p f s') = some (protoR ps p) := by
  obtain ⟨s, f, h⟩ := h
  have hop := (h.op_iff hk).2 ho
  have hle : s.pc ≤ k := by
    rcases Nat.lt_or_ge k s.pc with h1 | h1
    · have := h.low k h1 hk; rw [hop] at this; cases this
    · exact h1
  obtain ⟨f', hr⟩ := runP_skip (k - s.pc) s f k (by omega) (Nat.le_of_lt hk) (fun j _ h2 => by
    cases e : s.op.getD j false
    · rfl
    · exact absurd ((h.op_iff (by omega)).1 e) (hlow j h2)) h.run
  rw [h.ds] at hr
  have hfine : Fine p ⟨D, s.op, k⟩ := by
    obtain ⟨a, b, c⟩ := h.fine
    rw [h.ds] at a c
    exact ⟨a, b, c⟩
  cases f' with
  | zero => cases hr
  | succ f' =>
    refine ⟨s.op, f', hfine, h.dl, h.op, h.dn, h.top, ?_⟩
    unfold runP at hr
    rw [if_pos hk] at hr
    unfold step at hr
    rw [if_neg (by rw [hop]; decide)] at hr
    exact hr

/-! ### landing, as the document does it -/
def landR (d : Int) : List Int → List Int → Option (List Int)
  | [], D => some D
  | t :: r, D => if 0 ≤ D.getD t.toNat 0 ∧ D.getD t.toNat 0 ≠ d then none else landR d r (D.set t.toNat d)

theorem set_same (D : List Int) (i : Nat) (d : Int) (hi : i < D.length) (h : D.getD i 0 = d) : D.set i d = D := by
  refine List.ext_getElem (by simp) fun j h1 h2 => ?_
  rw [List.getElem_set]
  split
  · rename_i e; subst e
    rw [← h]; simp [List.getD, hi]
  · rfl

theorem land_map {d : Int} (hd : 0 ≤ d) : ∀ (l D : List Int) (op : List Bool) (m : Int), (∀ t ∈ l, inB t D.length = true) → (land d l (D, op, m)).map (·.1) = landR d l D
  | [], D, op, m, _ => rfl
  | t :: r, D, op, m, hin => by
    have ht := hin t (List.mem_cons_self ..)
    simp only [inB, Bool.and_eq_true, decide_eq_true_eq] at ht
    unfold land landR
    dsimp only
    by_cases h1 : D.getD t.toNat 0 < 0
    · rw [if_pos h1, if_neg (by omega)]
      exact land_map hd r _ _ _ fun t' h' => by rw [List.length_set]; exact hin t' (List.mem_cons_of_mem _ h')
    · by_cases h2 : D.getD t.toNat 0 = d
      · rw [if_neg h1, if_pos h2, if_neg (by omega), set_same D t.toNat d (by omega) h2]
        exact land_map hd r _ _ _ fun t' h' => hin t' (List.mem_cons_of_mem _ h')
      · rw [if_neg h1, if_neg h2, if_pos (by omega)]
        rfl

theorem landR_swap {d : Int} (a b : Int) (D : List Int) (ha : inB a D.length = true) (hb : inB b D.length = true) : landR d [a, b] D = landR d [b, a] D := by
  simp only [inB, Bool.and_eq_true, decide_eq_true_eq] at ha hb
  simp only [landR]
  by_cases e : a.toNat = b.toNat
  · rw [e]
  · have g1 : (D.set a.toNat d).getD b.toNat 0 = D.getD b.toNat 0 := by rw [getD_set _ _ _ _ _ (by omega), if_neg (fun h => e h.symm)]
    have g2 : (D.set b.toNat d).getD a.toNat 0 = D.getD a.toNat 0 := by rw [getD_set _ _ _ _ _ (by omega), if_neg e]
    rw [g1, g2, List.set_comm _ _ e]
    by_cases c1 : 0 ≤ D.getD a.toNat 0 ∧ D.getD a.toNat 0 ≠ d
    · by_cases c2 : 0 ≤ D.getD b.toNat 0 ∧ D.getD b.toNat 0 ≠ d
      · rw [if_pos c1, if_pos c2]
      · rw [if_pos c1, if_neg c2, if_pos c1]
    · by_cases c2 : 0 ≤ D.getD b.toNat 0 ∧ D.getD b.toNat 0 ≠ d
      · rw [if_neg c1, if_pos c2, if_pos c2]
      · rw [if_neg c1, if_neg c2, if_neg c2, if_neg c1]

/-- Where the document goes. -/
def nextR (x : Ins) (k : Int) : List Int := if x.op = 13 ∨ x.op = 12 then [] else if x.op = 14 then [x.a] else if x.op = 15 then [k + 1, x.a] else [k + 1]

/-- What landing leaves of the open places. -/
theorem land_op {n : Nat} {d : Int} (hd : 0 ≤ d) : ∀ (l : List Int) (s r : List Int × List Bool × Int) (dn : List Bool), s.1.length = n → s.2.1.length = n → (∀ t ∈ l, inB t n = true) →
    (∀ i, i < n → s.2.1.getD i false = (decide (0 ≤ s.1.getD i 0) && !dn.getD i false)) → (∀ i, i < n → dn.getD i false = true → 0 ≤ s.1.getD i 0) → land d l s = some r →
    (∀ i, i < n → r.2.1.getD i false = (decide (0 ≤ r.1.getD i 0) && !dn.getD i false)) ∧ (∀ i, i < n → dn.getD i false = true → 0 ≤ r.1.getD i 0) ∧ (∀ i : Nat, i < n → (i : Int) < r.2.2 → s.2.1.getD i false = false → r.2.1.getD i false = false) ∧ r.2.2 ≤ s.2.2 ∧ (d ≤ 4096 → (∀ i, i < n → s.1.getD i 0 ≤ 4096) → ∀ i, i < n → r.1.getD i 0 ≤ 4096)
  | [], s, r, dn, _, _, _, h1, h2, h => by
    simp only [land, Option.some.injEq] at h
    subst h
    exact ⟨h1, h2, fun _ _ _ h => h, Int.le_refl _, fun _ h => h⟩
  | t :: l, s, r, dn, hl1, hl2, hin, h1, h2, h => by
    have ht := hin t (List.mem_cons_self ..)
    simp only [inB, Bool.and_eq_true, decide_eq_true_eq] at ht
    unfold land at h
    split at h
    · rename_i hneg
      obtain ⟨a1, a2, a3, a4, a5⟩ := land_op hd l _ r dn (by simpa using hl1) (by simpa using hl2) (fun t' h' => hin t' (List.mem_cons_of_mem _ h')) (fun i hi => by
        dsimp only
        rw [getD_set _ _ _ _ _ (by omega), getD_set _ _ _ _ _ (by omega)]
        by_cases e : i = t.toNat
        · subst e
          rw [if_pos rfl, if_pos rfl]
          have hdn : dn.getD t.toNat false = false := by
            cases e2 : dn.getD t.toNat false
            · rfl
            · have := h2 t.toNat hi e2; omega
          rw [hdn]; simp [hd]
        · rw [if_neg e, if_neg e]; exact h1 i hi) (fun i hi hdn => by
        dsimp only
        rw [getD_set _ _ _ _ _ (by omega)]
        split
        · exact hd
        · exact h2 i hi hdn) h
      refine ⟨a1, a2, fun i hi hlt hs => a3 i hi hlt ?_, by dsimp only at a4; omega, fun hd4 hs => a5 hd4 fun i hi => ?_⟩
      · dsimp only
        rw [getD_set _ _ _ _ _ (by omega), if_neg]
        · exact hs
        · rintro rfl
          dsimp only at a4
          omega
      · dsimp only
        rw [getD_set _ _ _ _ _ (by omega)]
        split
        · exact hd4
        · exact hs i hi
    · split at h
      · exact land_op hd l s r dn hl1 hl2 (fun t' h' => hin t' (List.mem_cons_of_mem _ h')) h1 h2 h
      · cases h

/-- One round of the document's walk. -/
theorem goes_next (x : Ins) (k : Int) (hx : 1 ≤ x.op ∧ x.op ≤ 21) : goesL x k = nextR x k ∨ (goesL x k = [x.a, k + 1] ∧ nextR x k = [k + 1, x.a]) := by
  obtain ⟨op, a, b⟩ := x
  dsimp only at hx
  have h : op = 1 ∨ op = 2 ∨ op = 3 ∨ op = 4 ∨ op = 5 ∨ op = 6 ∨ op = 7 ∨ op = 8 ∨ op = 9 ∨ op = 10 ∨ op = 11 ∨ op = 12 ∨ op = 13 ∨ op = 14 ∨ op = 15 ∨ op = 16 ∨ op = 17 ∨ op = 18 ∨ op = 19 ∨ op = 20 ∨ op = 21 := by omega
  rcases h with h | h | h | h | h | h | h | h | h | h | h | h | h | h | h | h | h | h | h | h | h <;> subst h <;> first
  | exact .inl rfl
  | exact .inr ⟨rfl, rfl⟩

theorem known_op {x : Ins} (h : (inB x.op 22 && (wantT x.op.toNat).known) = true) : 1 ≤ x.op ∧ x.op ≤ 21 := by
  rw [Bool.and_eq_true] at h
  obtain ⟨h1, h2⟩ := h
  simp only [inB, Bool.and_eq_true, decide_eq_true_eq] at h1
  refine ⟨?_, by omega⟩
  rcases (show x.op = 0 ∨ 1 ≤ x.op by omega) with e | e
  · rw [e] at h2; cases h2
  · exact e

theorem opsE_known {ps : List Pr} {p : Pr} {x : Ins} (h : opsE ps p x = 0) : 1 ≤ x.op ∧ x.op ≤ 21 := by
  unfold opsE at h
  split at h
  · cases h
  · rename_i h1
    exact known_op (by simpa using h1)

structure Round (ps : List Pr) (p : Pr) (D : List Int) (dn : List Bool) (k : Nat) (x : Ins) : Prop where
  own : opsE ps p x ≠ 0 → protoR ps p = .bad k (opsE ps p x)
  stack : opsE ps p x = 0 → (stackE x (D.getD k 0)).2 ≠ 0 → protoR ps p = .bad k (stackE x (D.getD k 0)).2
  jump : opsE ps p x = 0 → (stackE x (D.getD k 0)).2 = 0 → (∃ t ∈ nextR x k, inB t p.code.length = false) → protoR ps p = .bad k 32
  land : opsE ps p x = 0 → (stackE x (D.getD k 0)).2 = 0 → (∀ t ∈ nextR x k, inB t p.code.length = true) → landR (D.getD k 0 + moreOf x) (nextR x k) D = none → protoR ps p = .bad k 31
  next : ∀ D', opsE ps p x = 0 → (stackE x (D.getD k 0)).2 = 0 → (∀ t ∈ nextR x k, inB t p.code.length = true) → landR (D.getD k 0 + moreOf x) (nextR x k) D = some D' → RInv ps p D' (dn.set k true)

theorem RInv.round {ps : List Pr} {p : Pr} {D : List Int} {dn : List Bool} (h : RInv ps p D dn) {k : Nat} (hk : k < p.code.length) (ho : openAt D dn k) (hlow : ∀ i, i < k → ¬ openAt D dn i) : Round ps p D dn k (insAt p k) := by
  obtain ⟨op, f, hfine, hdl, hop, hdn, htop, hw⟩ := h.worked hk ho hlow
  have hDl : D.length = p.code.length := hfine.1
  have hol : op.length = p.code.length := hfine.2.1
  have hgo := goes_next (insAt p k) k
  generalize hx : insAt p k = x at *
  unfold work at hw
  dsimp only at hw
  rw [hx] at hw
  by_cases h1 : opsE ps p x ≠ 0
  · rw [if_pos h1] at hw
    exact ⟨fun _ => (Option.some.inj hw).symm, fun h => absurd h h1, fun h => absurd h h1, fun h => absurd h h1, fun _ h => absurd h h1⟩
  rw [if_neg h1] at hw
  have h1 : opsE ps p x = 0 := Classical.not_not.1 h1
  by_cases h2 : (stackE x (D.getD k 0)).2 ≠ 0
  · rw [if_pos h2] at hw
    exact ⟨fun h => absurd h1 h, fun _ _ => (Option.some.inj hw).symm, fun _ h => absurd h h2, fun _ h => absurd h h2, fun _ _ h => absurd h h2⟩
  rw [if_neg h2] at hw
  have h2 : (stackE x (D.getD k 0)).2 = 0 := Classical.not_not.1 h2
  obtain ⟨k1, k2, k3, k4⟩ := stackE_ok h2
  have hgo := hgo (opsE_known h1)
  have hmem : ∀ t, t ∈ goesL x k ↔ t ∈ nextR x k := by
    intro t
    rcases hgo with e | ⟨e1, e2⟩
    · rw [e]
    · rw [e1, e2]; simp [or_comm]
  by_cases h3 : (goesL x k).all (fun t => inB t p.code.length) = false
  · rw [if_pos h3] at hw
    have hbad : ∃ t ∈ nextR x k, inB t p.code.length = false := by
      rw [List.all_eq_false] at h3
      obtain ⟨t, ht, hb⟩ := h3
      exact ⟨t, (hmem t).1 ht, by simpa using hb⟩
    refine ⟨fun h => absurd h1 h, fun _ h => absurd h2 h, fun _ _ _ => (Option.some.inj hw).symm, fun _ _ hall => ?_, fun _ _ _ hall => ?_⟩ <;>
    · obtain ⟨t, ht, hb⟩ := hbad
      rw [hall t ht] at hb; cases hb
  rw [if_neg h3] at hw
  have h3 : ∀ t ∈ goesL x k, inB t p.code.length = true := by simpa using h3
  rw [k2] at hw
  have hmap := land_map k4 (goesL x k) D (op.set k false) ((k : Int) + 1) (by rw [hDl]; exact h3)
  have hsw : landR (D.getD k 0 + moreOf x) (goesL x k) D = landR (D.getD k 0 + moreOf x) (nextR x k) D := by
    rcases hgo with e | ⟨e1, e2⟩
    · rw [e]
    · rw [e1, e2]
      exact landR_swap _ _ _ (by rw [hDl]; exact h3 _ (by rw [e1]; simp)) (by rw [hDl]; exact h3 _ (by rw [e1]; simp))
  rw [hsw] at hmap
  have hno : ∀ {Q : Prop}, (∃ t ∈ nextR x k, inB t p.code.length = false) → Q := fun ⟨t, ht, hb⟩ => by
    rw [h3 t ((hmem t).2 ht)] at hb; cases hb
  cases hl : land (D.getD k 0 + moreOf x) (goesL x k) (D, op.set k false, (k : Int) + 1) with
  | none =>
    rw [hl] at hw hmap
    refine ⟨fun h => absurd h1 h, fun _ h => absurd h2 h, fun _ _ h => hno h, fun _ _ _ _ => (Option.some.inj hw).symm, fun D' _ _ _ hD' => ?_⟩
    rw [hD'] at hmap; cases hmap
  | some r =>
    rw [hl] at hw hmap
    refine ⟨fun h => absurd h1 h, fun _ h => absurd h2 h, fun _ _ h => hno h, fun _ _ _ hD' => ?_, fun D' _ _ _ hD' => ?_⟩
    · rw [hD'] at hmap; cases hmap
    · rw [hD'] at hmap
      have hr1 : r.1 = D' := Option.some.inj hmap
      subst hr1
      have hst : step ps p ⟨D, op, k⟩ = .go ⟨r.1, r.2.1, r.2.2.toNat⟩ := by
        unfold step
        rw [if_neg (by dsimp only; rw [hop k hk, ho.2, decide_eq_true ho.1]; simp)]
        unfold work
        dsimp only
        rw [hx, if_neg (by rw [h1]; simp), if_neg (by rw [h2]; simp), if_neg (by simpa using h3), k2, hl]
      obtain ⟨hf', -⟩ := step_fine hfine hk hst
      have hsetk : ∀ i, i < p.code.length → (dn.set k true).getD i false = if i = k then true else dn.getD i false := fun i _ => getD_set _ _ _ _ _ (by omega)
      have hop0 : ∀ i, i < p.code.length → (op.set k false).getD i false = (decide (0 ≤ D.getD i 0) && !(dn.set k true).getD i false) := fun i hi => by
        rw [getD_set _ _ _ _ _ (by omega), hsetk i hi]
        by_cases e : i = k
        · rw [if_pos e, if_pos e]; simp
        · rw [if_neg e, if_neg e]; exact hop i hi
      obtain ⟨a1, a2, a3, a4, a5⟩ := land_op k4 (goesL x k) (D, op.set k false, (k : Int) + 1) r (dn.set k true) hDl (by dsimp only; rw [List.length_set]; exact hol) h3 hop0 (fun i hi hd => by
        rw [hsetk i hi] at hd
        by_cases e : i = k
        · rw [e]; exact ho.1
        · rw [if_neg e] at hd; exact hdn i hi hd) hl
      refine ⟨⟨r.1, r.2.1, r.2.2.toNat⟩, f, rfl, by rw [List.length_set]; exact hdl, hf', a1, fun i hi hin => ?_, a2, a5 k3 htop, hw⟩
      dsimp only at hi a4
      refine a3 i hin (by omega) ?_
      dsimp only
      rw [getD_set _ _ _ _ _ (by omega)]
      by_cases e : i = k
      · rw [if_pos e]
      · rw [if_neg e]
        cases e2 : op.getD i false
        · rfl
        · exfalso
          rw [hop i hin, Bool.and_eq_true, decide_eq_true_eq, Bool.not_eq_true'] at e2
          exact hlow i (by omega) e2

/-- Where it begins. -/
theorem rinv_start {ps : List Pr} {p : Pr} (h : 1 ≤ p.code.length) (ha : 0 ≤ p.args) (ha2 : p.args ≤ 64) : RInv ps p (start p).ds (List.replicate p.code.length false) := by
  have hf : ∀ i, (List.replicate p.code.length false).getD i false = false := fun i => by
    simp only [List.getD, List.getElem?_replicate]
    split <;> rfl
  have hds : ∀ i, i < p.code.length → (start p).ds.getD i 0 = if i = 0 then (if p.rest then p.args + 1 else p.args) else -1 := fun i hi => by
    unfold start
    dsimp only
    rw [getD_set _ _ _ _ _ (by simp; omega)]
    split
    · rfl
    · simp [List.getD, hi]
  refine ⟨start p, fuel p, rfl, by simp, start_fine h ha ha2, fun i hi => ?_, fun i hi _ => by unfold start at hi; dsimp only at hi; omega, fun i hi hd => ?_, fun i hi => ?_, protoR_run h ha ha2⟩
  · rw [hds i hi, hf i]
    unfold start
    dsimp only
    rw [getD_set _ _ _ _ _ (by simp; omega)]
    by_cases e : i = 0
    · rw [if_pos e, if_pos e]
      have : (0 : Int) ≤ (if p.rest then p.args + 1 else p.args) := by split <;> omega
      simp [this]
    · rw [if_neg e, if_neg e]
      simp [List.getD, hi]
  · rw [hf i] at hd; cases hd
  · rw [hds i hi]
    split
    · split <;> omega
    · omega

end Go.Proofs.Ytmlmepbnjlepnaa
