/-
  CHECK's WAY THROUGH A PROTO, IN PLAIN LEAN: the state, one step, so many steps; it always ends.
-/
import Derived.Test.YtmlmepbnjlepnaaChkPlain
namespace Go.Proofs.Ytmlmepbnjlepnaa

/-- Depths (-1: not reached), which places are open, where it is. -/
structure St where
  ds : List Int
  op : List Bool
  pc : Nat

/-- The places an instruction goes to get its depth; none: another depth was found ahead. -/
def land (d : Int) : List Int → List Int × List Bool × Int → Option (List Int × List Bool × Int)
  | [], s => some s
  | t :: r, s =>
    if s.1.getD t.toNat 0 < 0 then land d r (s.1.set t.toNat d, s.2.1.set t.toNat true, min s.2.2 t)
    else if s.1.getD t.toNat 0 = d then land d r s
    else none

inductive Out where
  | bad (pc : Nat) (e : Int)
  | go (s : St)

def insAt (p : Pr) (k : Nat) : Ins := p.code.getD k ⟨0, 0, 0⟩

/-- What comes of an open place. -/
def work (ps : List Pr) (p : Pr) (s : St) : Out :=
  let x := insAt p s.pc
  if opsE ps p x ≠ 0 then .bad s.pc (opsE ps p x)
  else if (stackE x (s.ds.getD s.pc 0)).2 ≠ 0 then .bad s.pc (stackE x (s.ds.getD s.pc 0)).2
  else if (goesL x s.pc).all (fun t => inB t p.code.length) = false then .bad s.pc 32
  else match land (stackE x (s.ds.getD s.pc 0)).1 (goesL x s.pc) (s.ds, s.op.set s.pc false, (s.pc : Int) + 1) with
    | none => .bad s.pc 31
    | some r => .go ⟨r.1, r.2.1, r.2.2.toNat⟩

def step (ps : List Pr) (p : Pr) (s : St) : Out :=
  if s.op.getD s.pc false = false then .go ⟨s.ds, s.op, s.pc + 1⟩ else work ps p s

inductive Res where
  | bad (pc : Nat) (e : Int)
  | ok (ds : List Int)

def runP (ps : List Pr) (p : Pr) : Nat → St → Option Res
  | 0, _ => none
  | f + 1, s => if s.pc < p.code.length then
      match step ps p s with
      | .bad pc e => some (.bad pc e)
      | .go s' => runP ps p f s'
    else some (.ok s.ds)

def start (p : Pr) : St :=
  ⟨(List.replicate p.code.length (-1)).set 0 (if p.rest then p.args + 1 else p.args), (List.replicate p.code.length false).set 0 true, 0⟩

/-! ### it ends -/
def undef (ds : List Int) : Nat := (ds.filter fun d => decide (d < 0)).length
def opens (op : List Bool) : Nat := (op.filter id).length

theorem filter_set_len {α : Type} (p : α → Bool) : ∀ (l : List α) (i : Nat) (v : α), i < l.length → ((l.set i v).filter p).length + (if p (l[i]?.getD v) then 1 else 0) = (l.filter p).length + (if p v then 1 else 0)
  | [], i, v, h => by simp at h
  | x :: l, 0, v, _ => by
    simp only [List.set_cons_zero, List.filter_cons, List.getElem?_cons_zero, Option.getD_some]
    by_cases h1 : p x = true <;> by_cases h2 : p v = true <;> simp [h1, h2]
  | x :: l, i + 1, v, h => by
    have ih := filter_set_len p l i v (by simpa using h)
    simp only [List.set_cons_succ, List.filter_cons, List.getElem?_cons_succ]
    by_cases h1 : p x = true <;> simp [h1] <;> omega

theorem undef_set {ds : List Int} {i : Nat} {d : Int} (h : i < ds.length) (h1 : ds.getD i 0 < 0) (h2 : 0 ≤ d) : undef (ds.set i d) + 1 = undef ds := by
  have := filter_set_len (fun d => decide (d < 0)) ds i d h
  unfold undef
  have e1 : ds[i]?.getD d < 0 := by
    rw [List.getElem?_eq_getElem h]
    simpa [List.getD, h] using h1
  rw [if_pos (by simpa using e1), if_neg (by simpa using h2)] at this
  omega

theorem opens_set_true (op : List Bool) (i : Nat) (h : i < op.length) : opens (op.set i true) ≤ opens op + 1 := by
  have := filter_set_len id op i true h
  unfold opens
  simp only [id, if_true] at this
  split at this <;> omega

theorem opens_set_false (op : List Bool) (i : Nat) (h : i < op.length) (h1 : op.getD i false = true) : opens (op.set i false) + 1 = opens op := by
  have := filter_set_len id op i false h
  unfold opens
  have e : op[i]?.getD false = true := by simpa [List.getD] using h1
  simp only [id, e, if_true, Bool.false_eq_true, if_false] at this
  omega

theorem land_ok {d : Int} (hd : 0 ≤ d) : ∀ (l : List Int) (s r : List Int × List Bool × Int), (∀ t ∈ l, inB t s.1.length = true) → s.2.1.length = s.1.length → land d l s = some r →
    r.1.length = s.1.length ∧ r.2.1.length = s.2.1.length ∧ 2 * undef r.1 + opens r.2.1 ≤ 2 * undef s.1 + opens s.2.1 ∧ r.2.2 ≤ s.2.2 ∧ (0 ≤ s.2.2 → 0 ≤ r.2.2)
  | [], s, r, _, _, h => by
    simp only [land, Option.some.injEq] at h
    subst h
    exact ⟨rfl, rfl, Nat.le_refl _, Int.le_refl _, id⟩
  | t :: l, s, r, hin, hl, h => by
    have ht := hin t (List.mem_cons_self ..)
    simp only [inB, Bool.and_eq_true, decide_eq_true_eq] at ht
    have hlt : t.toNat < s.1.length := by omega
    unfold land at h
    split at h
    · rename_i hneg
      obtain ⟨h1, h2, h3, h4, h5⟩ := land_ok hd l _ r (fun t' ht' => by simpa using hin t' (List.mem_cons_of_mem _ ht')) (by simpa using hl) h
      have u := undef_set (d := d) hlt hneg hd
      have o := opens_set_true s.2.1 t.toNat (by omega)
      simp only [List.length_set] at h1 h2
      dsimp only at h3 h4 h5
      exact ⟨h1, h2, by omega, by omega, fun h0 => h5 (by omega)⟩
    · split at h
      · exact land_ok hd l s r (fun t' ht' => hin t' (List.mem_cons_of_mem _ ht')) hl h
      · cases h

/-- What is left to do, in steps. -/
def weight (n : Nat) (s : St) : Nat := (2 * undef s.ds + opens s.op) * (n + 2) + (n + 1 - s.pc)

/-- The depths that a right proto's places may have. -/
def Fine (p : Pr) (s : St) : Prop := s.ds.length = p.code.length ∧ s.op.length = p.code.length ∧ ∀ i, i < p.code.length → s.op.getD i false = true → 0 ≤ s.ds.getD i 0 ∧ s.ds.getD i 0 ≤ 4096

theorem wants_table : ∀ k, k < 22 → 0 ≤ (wantT k).wants ∧ (wantT k).wants ≤ 2 ∧ -1 ≤ (wantT k).more ∧ (wantT k).more ≤ 1 ∧ 0 ≤ (wantT k).wants + (wantT k).more := by
  intro k hk
  rcases k with _ | _ | _ | _ | _ | _ | _ | _ | _ | _ | _ | _ | _ | _ | _ | _ | _ | _ | _ | _ | _ | _ | k
  all_goals first | decide | omega

theorem wants_any' (k : Nat) : 0 ≤ (wantT k).wants + (wantT k).more := by
  by_cases h : k < 22
  · exact (wants_table k h).2.2.2.2
  · have : wantT k = ⟨false, 0, 0, false, false, false, false, false, false⟩ := by
      unfold wantT
      split <;> first | omega | rfl
    rw [this]; decide

theorem stackE_ok {x : Ins} {d : Int} (h : (stackE x d).2 = 0) : needOf x ≤ d ∧ (stackE x d).1 = d + moreOf x ∧ d + moreOf x ≤ 4096 ∧ 0 ≤ d + moreOf x := by
  have nm : 0 ≤ needOf x + moreOf x := by
    have := wants_any' x.op.toNat
    unfold needOf moreOf
    omega
  unfold stackE at h ⊢
  by_cases h1 : d < needOf x
  · rw [if_pos h1] at h; simp at h
  by_cases h2 : (x.op = 2 ∨ x.op = 21 ∨ x.op = 19) ∧ inB x.a (if x.op = 19 then d - 1 else d) = false
  · rw [if_neg h1, if_pos h2] at h; simp at h
  by_cases h3 : 4096 < d + moreOf x
  · rw [if_neg h1, if_neg h2, if_pos h3] at h; simp at h
  rw [if_neg h1, if_neg h2, if_neg h3]
  exact ⟨by omega, rfl, by omega, by omega⟩

theorem getD_set {α : Type} (l : List α) (i j : Nat) (v d : α) (h : i < l.length) : (l.set i v).getD j d = if j = i then v else l.getD j d := by
  simp only [List.getD, List.getElem?_set]
  by_cases e : j = i
  · subst e; simp [h]
  · rw [if_neg (fun h => e h.symm), if_neg e]

/-- Behind landing: what is open has a depth that may be. -/
theorem land_fine {n : Nat} {d : Int} (hd : 0 ≤ d) (hd2 : d ≤ 4096) : ∀ (l : List Int) (s r : List Int × List Bool × Int), s.1.length = n → s.2.1.length = n → (∀ t ∈ l, inB t n = true) →
    (∀ i, i < n → s.2.1.getD i false = true → 0 ≤ s.1.getD i 0 ∧ s.1.getD i 0 ≤ 4096) → land d l s = some r → (∀ i, i < n → r.2.1.getD i false = true → 0 ≤ r.1.getD i 0 ∧ r.1.getD i 0 ≤ 4096)
  | [], s, r, _, _, _, hf, h => by
    simp only [land, Option.some.injEq] at h
    subst h
    exact hf
  | t :: l, s, r, h1, h2, hin, hf, h => by
    have ht := hin t (List.mem_cons_self ..)
    simp only [inB, Bool.and_eq_true, decide_eq_true_eq] at ht
    unfold land at h
    split at h
    · refine land_fine hd hd2 l _ r (by simpa using h1) (by simpa using h2) (fun t' ht' => hin t' (List.mem_cons_of_mem _ ht')) (fun i hi ho => ?_) h
      dsimp only at ho ⊢
      rw [getD_set _ _ _ _ _ (by omega)] at ho ⊢
      by_cases e : i = t.toNat
      · rw [if_pos e]; exact ⟨hd, hd2⟩
      · rw [if_neg e] at ho ⊢; exact hf i hi ho
    · split at h
      · exact land_fine hd hd2 l s r h1 h2 (fun t' ht' => hin t' (List.mem_cons_of_mem _ ht')) hf h
      · cases h

theorem step_fine {ps : List Pr} {p : Pr} {s s' : St} (hs : Fine p s) (hpc : s.pc < p.code.length) (h : step ps p s = .go s') : Fine p s' ∧ weight p.code.length s' < weight p.code.length s := by
  obtain ⟨h1, h2, h3⟩ := hs
  unfold step at h
  split at h
  · simp only [Out.go.injEq] at h
    subst h
    refine ⟨⟨h1, h2, h3⟩, ?_⟩
    unfold weight
    dsimp only
    omega
  · rename_i ho
    have ho : s.op.getD s.pc false = true := by simpa using ho
    unfold work at h
    dsimp only at h
    split at h
    · cases h
    · split at h
      · cases h
      · rename_i hst
        split at h
        · cases h
        · rename_i hall
          have hall : ∀ t ∈ goesL (insAt p s.pc) s.pc, inB t p.code.length = true := by simpa using hall
          split at h
          · cases h
          · rename_i r hr
            simp only [Out.go.injEq] at h
            subst h
            obtain ⟨k1, k2, k3, k4⟩ := stackE_ok (Classical.not_not.1 hst)
            rw [k2] at hr
            have L := land_ok k4 _ _ _ (by dsimp only; rw [h1]; exact hall) (by simp [h1, h2]) hr
            obtain ⟨l1, l2, l3, l4, l5⟩ := L
            have o := opens_set_false s.op s.pc (by omega) ho
            dsimp only [List.length_set] at l1 l2 l3 l4 l5
            simp only [List.length_set] at l2
            refine ⟨⟨by dsimp only; omega, by dsimp only; omega, ?_⟩, ?_⟩
            · refine land_fine k4 k3 _ _ _ h1 (by simpa using h2) hall (fun i hi hi2 => ?_) hr
              dsimp only at hi2 ⊢
              rw [getD_set _ _ _ _ _ (by omega)] at hi2
              by_cases e : i = s.pc
              · rw [if_pos e] at hi2; cases hi2
              · rw [if_neg e] at hi2; exact h3 i hi hi2
            · unfold weight
              dsimp only
              have : (2 * undef r.1 + opens r.2.1 + 1) * (p.code.length + 2) ≤ (2 * undef s.ds + opens s.op) * (p.code.length + 2) := Nat.mul_le_mul_right _ (by omega)
              rw [Nat.add_mul] at this
              omega

theorem runP_ends {ps : List Pr} {p : Pr} : ∀ (f : Nat) (s : St), Fine p s → weight p.code.length s < f → ∃ r, runP ps p f s = some r
  | 0, s, _, h => by omega
  | f + 1, s, hs, h => by
    unfold runP
    split
    · rename_i hpc
      cases hst : step ps p s with
      | bad pc e => exact ⟨_, rfl⟩
      | go s' =>
        obtain ⟨h1, h2⟩ := step_fine hs hpc hst
        exact runP_ends f s' h1 (by omega)
    · exact ⟨_, rfl⟩

theorem start_fine {p : Pr} (h : 1 ≤ p.code.length) (ha : 0 ≤ p.args) (ha2 : p.args ≤ 64) : Fine p (start p) := by
  refine ⟨by simp [start], by simp [start], fun i hi ho => ?_⟩
  unfold start at ho ⊢
  dsimp only at ho ⊢
  rw [getD_set _ _ _ _ _ (by simp; omega)] at ho ⊢
  by_cases e : i = 0
  · rw [if_pos e]; split <;> omega
  · rw [if_neg e] at ho; simp [List.getD, hi] at ho

/-- So many steps are enough. -/
def fuel (p : Pr) : Nat := weight p.code.length (start p) + 1

def protoR (ps : List Pr) (p : Pr) : Res := (runP ps p (fuel p) (start p)).getD (.ok [])

theorem runP_more {ps : List Pr} {p : Pr} : ∀ (f g : Nat) (s : St) (r : Res), f ≤ g → runP ps p f s = some r → runP ps p g s = some r
  | 0, _, _, _, _, h => by cases h
  | f + 1, 0, _, _, hfg, _ => by omega
  | f + 1, g + 1, s, r, hfg, h => by
    unfold runP at h ⊢
    split at h
    · rename_i hpc
      rw [if_pos hpc]
      cases hst : step ps p s with
      | bad pc e => rw [hst] at h; exact h
      | go s' => rw [hst] at h; exact runP_more f g s' r (by omega) h
    · rename_i hpc
      rw [if_neg hpc]; exact h

theorem protoR_run {ps : List Pr} {p : Pr} (h : 1 ≤ p.code.length) (ha : 0 ≤ p.args) (ha2 : p.args ≤ 64) : runP ps p (fuel p) (start p) = some (protoR ps p) := by
  obtain ⟨r, hr⟩ := runP_ends (ps := ps) (fuel p) (start p) (start_fine h ha ha2) (by unfold fuel; omega)
  unfold protoR
  rw [hr]; rfl

/-- check.Program. -/
def progL (ps : List Pr) : List Pr → Nat → Nat × Nat × Int
  | [], _ => (0, 0, 0)
  | p :: r, i => if headB p i = false then (i, 0, 33) else
    match protoR ps p with
    | .bad pc e => (i, pc, e)
    | .ok _ => progL ps r (i + 1)

def progR (ps : List Pr) : Nat × Nat × Int := if ps.isEmpty then (0, 0, 30) else progL ps ps 0

def depthsR (ps : List Pr) (n : Int) : List Int :=
  if (progR ps).2.2 ≠ 0 ∨ inB n ps.length = false then [] else
    match ps[n.toNat]? with
    | some p => match protoR ps p with
      | .ok ds => ds
      | .bad _ _ => []
    | none => []

end Go.Proofs.Ytmlmepbnjlepnaa
