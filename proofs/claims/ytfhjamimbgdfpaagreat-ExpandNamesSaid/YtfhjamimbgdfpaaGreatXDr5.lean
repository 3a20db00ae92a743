/- A verified executor, part XDr5: laws of the executor; no condition. -/
import Derived.Test.YtfhjamimbgdfpaaGreatXDr4
import Derived.Test.YtfhjamimbgdfpaaGreatXExec
namespace Go.Proofs.YtfhjamimbgdfpaaGreat.X
open Go
set_option linter.unusedVariables false
set_option linter.unusedSimpArgs false
section
variable {p : Program} {σ : Sg} {E : Env} {run : Run} {nt : Nat} {ops : Array Oper}

theorem inL_iff {i : Nat} {l : List Nat} : inL i l = true ↔ i ∈ l := by
  unfold inL
  rw [List.any_eq_true]
  constructor
  · rintro ⟨x, hx, h⟩
    rw [beq_iff, decide_eq_true_eq] at h
    subst h; exact hx
  · intro h
    exact ⟨i, h, by rw [beq_iff]; simp⟩
/-- the chks of one of them -/
def chkOf (A : List (List Nat)) (x : XOp) (i : Nat) (dw : List Nat) : Nat := bif x.op.isQ then (dw.takeWhile fun w => !inL w (A.getD i [])).length else 0
theorem chks_cons (A : List (List Nat)) (xs : List XOp) (pa : Option Nat) (dw : List Nat) (i : Nat) (r : List Nat) : chks A xs pa dw (i :: r) =
    ⟨i, bif (xs.getD i default).op.isW then (bif pa == some i then 1 else 0) else chkOf A (xs.getD i default) i dw, (xs.getD i default).op.isW⟩ :: chks A xs pa (bif (xs.getD i default).op.isW then i :: dw else dw) r := by
  simp only [chks, chkOf]
  cases (xs.getD i default).op.isW <;> rfl
/-- what one step of a run in order does -/
structure St1 (p : Program) (E : Env) (run : Run) (nt : Nat) (ops : Array Oper) (A : List (List Nat)) (i : Nat) (F F' : Fr) (H H' B B' : Hp) (Hs Hs' : List Hp) (dw dw' : List Nat) (v : V) : Prop where
  fs : F' = putD F (XOf p nt ops i).dst v
  step : (want F (XOf p nt ops i).g = some true ∧ opX E run (XOf p nt ops i).op F H = some (v, H') ∧ ((XOf p nt ops i).op.isW = true → H.next.toNat ≤ H'.next.toNat) ∧
      ((XOf p nt ops i).op.isW = false → recheck (XOf p nt ops i).op F v Hs (chkOf A (XOf p nt ops i) i dw) = true)) ∨ (want F (XOf p nt ops i).g = some false ∧ v = V.undef ∧ H' = H)
  w : (XOf p nt ops i).op.isW = true → B' = H' ∧ Hs' = B :: Hs ∧ dw' = i :: dw
  nw : (XOf p nt ops i).op.isW = false → B' = B ∧ Hs' = Hs ∧ dw' = dw
def Sts (p : Program) (E : Env) (run : Run) (nt : Nat) (ops : Array Oper) (A : List (List Nat)) (pa : Option Nat) (r : List Nat) (dw : List Nat) (F : Fr) (H B : Hp) (Hs : List Hp) (F' : Fr) (H' : Hp) : Prop :=
  ∃ (FF : Nat → Fr) (HH BB : Nat → Hp) (HS : Nat → List Hp) (DW : Nat → List Nat) (vv : Nat → V), FF 0 = F ∧ HH 0 = H ∧ BB 0 = B ∧ HS 0 = Hs ∧ DW 0 = dw ∧ FF r.length = F' ∧ HH r.length = H' ∧
      ∀ k i, r[k]? = some i → St1 p E run nt ops A i (FF k) (FF (k + 1)) (HH k) (HH (k + 1)) (BB k) (BB (k + 1)) (HS k) (HS (k + 1)) (DW k) (DW (k + 1)) (vv k) ∧
        ((XOf p nt ops i).op.isW = true → want (FF k) (XOf p nt ops i).g = some true → pa = some i → ∀ i', r[k + 1]? = some i' → apart2 (FF k) (XOf p nt ops i).op (XOf p nt ops i').op = true)
theorem Sts.cons {A : List (List Nat)} {pa : Option Nat} {i : Nat} {r dw dw1 : List Nat} {F F1 F' : Fr} {H H1 H' B B1 : Hp} {Hs Hs1 : List Hp} {v : V} (hst : St1 p E run nt ops A i F F1 H H1 B B1 Hs Hs1 dw dw1 v) (hap : (XOf p nt ops i).op.isW = true → want F (XOf p nt ops i).g = some true → pa = some i → ∀ i', r[0]? = some i' → apart2 F (XOf p nt ops i).op (XOf p nt ops i').op = true) (h : Sts p E run nt ops A pa r dw1 F1 H1 B1 Hs1 F' H') : Sts p E run nt ops A pa (i :: r) dw F H B Hs F' H' := by
  obtain ⟨FF, HH, BB, HS, DW, vv, e1, e2, e3, e4, e5, e6, e7, e8⟩ := h
  refine ⟨fun k => match k with | 0 => F | k + 1 => FF k, fun k => match k with | 0 => H | k + 1 => HH k, fun k => match k with | 0 => B | k + 1 => BB k, fun k => match k with | 0 => Hs | k + 1 => HS k, fun k => match k with | 0 => dw | k + 1 => DW k, fun k => match k with | 0 => v | k + 1 => vv k,
        rfl, rfl, rfl, rfl, rfl, e6, e7, fun k j hk => ?_⟩
  cases k with
  | zero =>
    simp at hk; subst hk
    simp only [e1, e2, e3, e4, e5]; exact ⟨hst, fun q1 q2 q3 i' q4 => hap q1 q2 q3 i' (by simpa using q4)⟩
  | succ k => simp at hk; exact ⟨(e8 k j hk).1, fun q1 q2 q3 i' q4 => (e8 k j hk).2 q1 q2 q3 i' (by simpa using q4)⟩
theorem draw_states (A : List (List Nat)) (xs : List XOp) (pa : Option Nat) : ∀ (r : List Nat) (dw : List Nat) (F : Fr) (H B : Hp) (Hs : List Hp) (F' : Fr) (H' : Hp), (∀ i ∈ r, xs.getD i default = XOf p nt ops i) →
    drawX E run ((chks A xs pa dw r).map fun q => (q.chk, q.w, cOper p nt ops (ops.getD q.i default))) F H B Hs = some (F', H') → Sts p E run nt ops A pa r dw F H B Hs F' H' := by
  intro r
  induction r with
  | nil =>
    intro dw F H B Hs F' H' _ h
    simp [chks, drawX] at h
    obtain ⟨rfl, rfl⟩ := h
    exact ⟨fun _ => F, fun _ => H, fun _ => B, fun _ => Hs, fun _ => dw, fun _ => V.undef, rfl, rfl, rfl, rfl, rfl, rfl, rfl, fun k i h => by simp at h⟩
  | cons i r ih =>
    intro dw F H B Hs F' H' hx h
    have hxi := hx i (by simp)
    have hx' : ∀ j ∈ r, xs.getD j default = XOf p nt ops j := fun j hj => hx j (by simp [hj])
    rw [chks_cons, hxi] at h
    simp only [List.map_cons, drawX] at h
    cases hW : (XOf p nt ops i).op.isW with
    | true =>
      simp only [hW, cond_true] at h
      split at h
      · rename_i hw
        split at h
        · rename_i v H1 hop
          rw [cond_eq_ite] at h
          split at h
          · rename_i hle
            rw [Bool.and_eq_true] at hle
            refine Sts.cons (v := v) ⟨rfl, .inl ⟨hw, hop, fun _ => by simpa using hle.1, fun e => (by rw [hW] at e; cases e)⟩, fun _ => ⟨rfl, rfl, rfl⟩, fun e => (by rw [hW] at e; cases e)⟩ (fun _ _ q3 i' q4 => ?_) (ih _ _ _ _ _ _ _ hx' h)
            have hle2 := hle.2
            rw [q3] at hle2
            cases r with
            | nil => simp at q4
            | cons i2 r2 =>
              simp at q4; subst q4
              rw [chks_cons, hx' i2 (by simp)] at hle2
              simpa [apartB, XOf] using hle2
          · cases h
        · cases h
      · rename_i hw
        refine Sts.cons (v := V.undef) ⟨rfl, .inr ⟨hw, rfl, rfl⟩, fun _ => ⟨rfl, rfl, rfl⟩, fun e => (by rw [hW] at e; cases e)⟩ (fun _ q2 => (by rw [hw] at q2; cases q2)) (ih _ _ _ _ _ _ _ hx' h)
      · cases h
    | false =>
      simp only [hW, cond_false] at h
      split at h
      · rename_i hw
        split at h
        · rename_i v H1 hop
          rw [cond_eq_ite] at h
          split at h
          · rename_i hle
            refine Sts.cons (v := v) ⟨rfl, .inl ⟨hw, hop, fun e => (by rw [hW] at e; cases e), fun _ => hle⟩, fun e => (by rw [hW] at e; cases e), fun _ => ⟨rfl, rfl, rfl⟩⟩ (fun q1 => (by rw [hW] at q1; cases q1)) (ih _ _ _ _ _ _ _ hx' h)
          · cases h
        · cases h
      · rename_i hw
        refine Sts.cons (v := V.undef) ⟨rfl, .inr ⟨hw, rfl, rfl⟩, fun e => (by rw [hW] at e; cases e), fun _ => ⟨rfl, rfl, rfl⟩⟩ (fun q1 => (by rw [hW] at q1; cases q1)) (ih _ _ _ _ _ _ _ hx' h)
      · cases h

theorem recheck_get {x : XO} {F : Fr} {v : V} : ∀ {Hs : List Hp} {n r : Nat} {H : Hp}, recheck x F v Hs n = true → r < n → Hs[r]? = some H → ∃ m, doX x F H = some (v, m)
  | [], n, r, H, _, _, h => by simp at h
  | G :: Hs, 0, r, H, _, hr, _ => by omega
  | G :: Hs, n + 1, r, H, h, hr, hg => by
    simp only [recheck, Bool.and_eq_true] at h
    obtain ⟨h1, h2⟩ := h
    cases r with
    | zero =>
      simp at hg; subst hg
      split at h1
      · rename_i u m hd
        rw [sameV_eq h1]; exact ⟨m, hd⟩
      · cases h1
    | succ r => exact recheck_get (r := r) h2 (by omega) (by simpa using hg)

/-! ## What the plan's checks say -/
theorem orderOk_spec {A : List (List Nat)} {xs : List XOp} : ∀ (r done : List Nat), orderOk A xs done r = true → ∀ k i, r[k]? = some i →
    (∀ x ∈ A.getD i [], x ∈ (r.take k).reverse ++ done) ∧ i ∉ (r.take k).reverse ++ done ∧
    ((xs.getD i default).op.isW = true → ∀ x ∈ (r.take k).reverse ++ done, x ∈ A.getD i [] ∨ (xs.getD x default).op.kind = 0) ∧
    ((xs.getD i default).op.isW = false → (xs.getD i default).op.isQ = true → ∀ x ∈ ((r.take k).reverse ++ done).takeWhile (fun j => !(xs.getD j default).op.isW), (xs.getD x default).op.isN = true → x ∈ A.getD i [])
  | [], done, _, k, i, h => by simp at h
  | j :: r, done, h, k, i, hk => by
    simp only [orderOk, Bool.and_eq_true] at h
    obtain ⟨⟨⟨h1, h2⟩, h3⟩, h4⟩ := h
    cases k with
    | zero =>
      simp at hk; subst hk
      simp only [List.take_zero, List.reverse_nil, List.nil_append]
      refine ⟨fun x hx => inL_iff.1 (List.all_eq_true.1 h1 x hx), fun hm => ?_, fun hw x hx => ?_, fun hw hq x hx hn => ?_⟩
      · rw [inL_iff.2 hm] at h2; cases h2
      · rw [hw] at h3
        have := List.all_eq_true.1 h3 x hx
        rw [Bool.or_eq_true, beq_iff, decide_eq_true_eq] at this
        exact this.imp inL_iff.1 id
      · rw [hw, hq] at h3
        have := List.all_eq_true.1 h3 x hx
        rw [hn] at this
        exact inL_iff.1 (by simpa using this)
    | succ k =>
      have := orderOk_spec r (j :: done) h4 k i (by simpa using hk)
      simpa using this
theorem mem_take_rev {r : List Nat} {k x : Nat} : x ∈ (r.take k).reverse ↔ ∃ j, j < k ∧ r[j]? = some x := by
  rw [List.mem_reverse, List.mem_iff_getElem?]
  constructor
  · rintro ⟨j, hj⟩
    rw [List.getElem?_take] at hj
    split at hj
    · rename_i h; exact ⟨j, h, hj⟩
    · cases hj
  · rintro ⟨j, h, hj⟩
    exact ⟨j, by rw [List.getElem?_take, if_pos h]; exact hj⟩
theorem take_succ_rev {r : List Nat} {k i : Nat} (h : r[k]? = some i) : (r.take (k + 1)).reverse = i :: (r.take k).reverse := by
  rw [List.take_add_one, h]; simp
theorem mem_takeWhile {r : List Nat} {f : Nat → Bool} {c : Nat} : ∀ k, k ≤ r.length → (∀ j i, c ≤ j → j < k → r[j]? = some i → f i = true) → ∀ j i, c ≤ j → j < k → r[j]? = some i → i ∈ ((r.take k).reverse).takeWhile f := by
  intro k
  induction k with
  | zero => intro _ _ j i _ hj; omega
  | succ k ih =>
    intro hk hf j i h1 h2 h3
    have hk' : k < r.length := by omega
    have e : r[k]? = some r[k] := by simp [hk']
    rw [take_succ_rev e]
    by_cases e' : j = k
    · subst e'
      rw [h3] at e; cases e
      rw [List.takeWhile_cons, if_pos (hf j _ h1 h2 h3)]; simp
    · rw [List.takeWhile_cons, if_pos (hf k _ (by omega) (by omega) e)]
      exact List.mem_cons_of_mem _ (ih (by omega) (fun j i a b => hf j i a (by omega)) j i h1 (by omega) h3)
end
end Go.Proofs.YtfhjamimbgdfpaaGreat.X
