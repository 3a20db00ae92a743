/- A verified executor of the program's code, part XDr1; no condition. -/
import Derived.Test.YtafignheedbnbaaGreatDoorXDrA
import Derived.Test.YtafignheedbnbaaGreatDoorXSound
import Derived.Orders
namespace Go.Proofs.YtafignheedbnbaaGreatDoor.X
open Go
set_option linter.unusedVariables false
set_option linter.unusedSimpArgs false

/-! ## Cuts -/
def Ren.cut (ρ : Ren) (n : Nat) : Ren := fun p => if p.toNat < n then ρ p else none
theorem Ren.cut_some {ρ : Ren} {n : Nat} {p : P} {b : RB} : ρ.cut n p = some b ↔ p.toNat < n ∧ ρ p = some b := by
  unfold Ren.cut
  by_cases h : p.toNat < n
  · rw [if_pos h]; exact ⟨fun e => ⟨h, e⟩, fun e => e.2⟩
  · rw [if_neg h]; exact ⟨fun e => (by cases e), fun e => absurd e.1 h⟩
theorem Ren.cut_le (ρ : Ren) (n : Nat) : (ρ.cut n).le ρ := fun p b h => (Ren.cut_some.1 h).2
theorem Ren.cut_mono {ρ ρ' : Ren} (h : ρ.le ρ') {m n : Nat} (hm : m ≤ n) : (ρ.cut m).le (ρ'.cut n) := fun p b hp => by
  obtain ⟨h1, h2⟩ := Ren.cut_some.1 hp
  exact Ren.cut_some.2 ⟨by omega, h _ _ h2⟩
theorem Ren.add_cut {ρ : Ren} {q : P} {b : RB} {n : Nat} (h : n ≤ q.toNat) : (ρ.add q b).cut n = ρ.cut n := by
  funext p
  unfold Ren.cut Ren.add
  split
  · rw [if_neg (by rintro rfl; omega)]
  · rfl
/-- below n as the one says, from there on as the other -/
def Ren.over (ρ1 ρ : Ren) (n : Nat) : Ren := fun p => if p.toNat < n then ρ1 p else ρ p
theorem Ren.over_cut {ρ1 ρ : Ren} {n : Nat} (h : ∀ p b, ρ1 p = some b → p.toNat < n) : (Ren.over ρ1 ρ n).cut n = ρ1 := by
  funext p
  unfold Ren.cut Ren.over
  split
  · rfl
  · cases e : ρ1 p with
    | none => rfl
    | some b => exact absurd (h _ _ e) (by assumption)
/-- memory that only grew -/
structure Grew (w w' : World) : Prop where
  os : w'.os = w.os
  tape : w'.tape = w.tape
  output : w'.output = w.output
  size : w.heap.size ≤ w'.heap.size
  same : ∀ r, r < w.heap.size → w'.heap[r]? = w.heap[r]?
theorem Grew.refl (w : World) : Grew w w := ⟨rfl, rfl, rfl, Nat.le_refl _, fun _ _ => rfl⟩
theorem HR.keep {σ : Sg} {ρ : Ren} {H : Hp} {w w' : World} (h : HR σ ρ H w) (g : Grew w w') : HR σ ρ H w' :=
  ⟨h.inj, fun p x hp => let ⟨b, hb, hr⟩ := h.blk p x hp; ⟨b, hb, hr.mono (.refl _) (g.same _ hr.lt)⟩, h.fresh⟩
theorem Stp.keep {ρ0 ρ : Ren} {H0 H : Hp} {w0 w w' : World} (h : Stp ρ0 H0 w0 ρ H w) (g : Grew w w') : Stp ρ0 H0 w0 ρ H w' where
  os := g.os.trans h.os
  tape := g.tape.trans h.tape
  output := g.output.trans h.output
  size := Nat.le_trans h.size g.size
  le := h.le
  next := h.next
  old := h.old
  own := h.own
  frame := fun r hr hf => (g.same r (Nat.lt_of_lt_of_le hr h.size)).trans (h.frame r hr hf)

/-! ## A region in one order -/
abbrev XOf (p : Program) (nt : Nat) (ops : Array Oper) (i : Nat) : XOp := cOper p nt ops (ops.getD i default)
/-- a run in one order, by the place in it -/
structure Cn (p : Program) (E : Env) (run : Run) (nt : Nat) (ops : Array Oper) (o : Nat → Nat) (A : Nat → List Nat) (FF : Nat → Fr) (HH : Nat → Hp) (vv : Nat → V) (exc : Nat → Nat → Prop) : Prop where
  lt : ∀ k, k < ops.size → o k < ops.size
  surj : ∀ i, i < ops.size → ∃ k, k < ops.size ∧ o k = i
  inj : ∀ j k, j < ops.size → k < ops.size → o j = o k → j = k
  bind : ∀ k, k < ops.size → ∀ e ∈ (ops.getD (o k) default).after, Region.binds .any e = true → e.on ∈ A (o k)
  anc : ∀ k, k < ops.size → ∀ x ∈ A (o k), ∃ j, j < k ∧ o j = x
  ancE : ∀ k, k < ops.size → ∀ x ∈ A (o k), exc (o k) x ∨ ∃ e ∈ (ops.getD (o k) default).after, Region.binds .any e = true ∧ (e.on = x ∨ x ∈ A e.on)
  wall : ∀ k, k < ops.size → (XOf p nt ops (o k)).op.isW = true → ∀ j, j < k → o j ∈ A (o k) ∨ (XOf p nt ops (o j)).op.kind = 0
  looks : ∀ j k, j < ops.size → k < ops.size → j ≠ k → ∀ d, (ops.getD (o j) default).dst = some d → d ∈ (ops.getD (o k) default).looksAt ops → o j ∈ A (o k) ∨ o k ∈ A (o j)
  dsts : ∀ j k, j < ops.size → k < ops.size → j ≠ k → ∀ d, (ops.getD (o j) default).dst = some d → (ops.getD (o k) default).dst ≠ some d
  opds : ∀ k, k < ops.size → ∀ q, Opd.t q ∈ (XOf p nt ops (o k)).op.opds → ∃ t ∈ (ops.getD (o k) default).looksAt ops, P.of t = q
  step : ∀ k, k < ops.size → (want (FF k) (XOf p nt ops (o k)).g = some true ∧ opX E run (XOf p nt ops (o k)).op (FF k) (HH k) = some (vv k, HH (k + 1))) ∨ (want (FF k) (XOf p nt ops (o k)).g = some false ∧ vv k = V.undef ∧ HH (k + 1) = HH k)
  fs : ∀ k, k < ops.size → FF (k + 1) = putD (FF k) (XOf p nt ops (o k)).dst (vv k)
  mono : ∀ k, k < ops.size → (XOf p nt ops (o k)).op.isW = true → (HH k).next.toNat ≤ (HH (k + 1)).next.toNat
  q : ∀ k, k < ops.size → (XOf p nt ops (o k)).op.isQ = true → want (FF k) (XOf p nt ops (o k)).g = some true → ∀ c, c ≤ k → (c = 0 ∨ ∃ b, c = b + 1 ∧ (XOf p nt ops (o b)).op.isW = true) →
    (∀ j, c ≤ j → j < k → (XOf p nt ops (o j)).op.isW = true → o j ∉ A (o k)) →
    (∀ j, c ≤ j → j < k → (XOf p nt ops (o j)).op.isW = false) ∨ ∃ m, doX (XOf p nt ops (o k)).op (FF k) (HH c) = some (vv k, m)
  qn : ∀ k, k < ops.size → (XOf p nt ops (o k)).op.isQ = true → ∀ c, c ≤ k → (∀ j, c ≤ j → j < k → (XOf p nt ops (o j)).op.isW = false) → ∀ j, c ≤ j → j < k → (XOf p nt ops (o j)).op.isN = true → o j ∈ A (o k)

section
variable {p : Program} {σ : Sg} {E : Env} {run : Run} {nt : Nat} {ops : Array Oper} {o : Nat → Nat} {A : Nat → List Nat} {FF : Nat → Fr} {HH : Nat → Hp} {vv : Nat → V} {exc : Nat → Nat → Prop}

theorem Cn.spec (C : Cn p E run nt ops o A FF HH vv exc) {k : Nat} (hk : k < ops.size) : cOp p (ops.getD (o k) default) = some (XOf p nt ops (o k)).op ∧ (∀ d, (ops.getD (o k) default).dst = some d → d < nt) ∧ (XOf p nt ops (o k)).dst = (ops.getD (o k) default).dst.map P.of ∧ gOf ops (ops.getD (o k) default) = some (XOf p nt ops (o k)).g := by
  apply cOper_spec
  rintro why hb
  rcases C.step k hk with ⟨h1, h2⟩ | ⟨h1, h2⟩
  · simp only [XOf] at h2; rw [hb] at h2; simp [opX, doX] at h2
  · rw [show (XOf p nt ops (o k)).g = none from cOper_bad hb] at h1
    simp [want] at h1
theorem notW_of0 {x : XO} (h : x.kind = 0) : x.isW = false := by unfold XO.isW; rw [h]; rfl
theorem notN_of0 {x : XO} (h : x.kind = 0) : x.isN = false := by unfold XO.isN; rw [h]; rfl
theorem kind_of_notW {x : XO} (h : x.isW = false) : x.kind = 0 ∨ x.isQ = true ∨ x.isN = true := by
  simp only [XO.isW, XO.isQ, XO.isN, beq_iff, ble_iff, decide_eq_true_eq, decide_eq_false_iff_not] at h ⊢
  omega
theorem Cn.stepN (C : Cn p E run nt ops o A FF HH vv exc) {k : Nat} (hk : k < ops.size) (hw : (XOf p nt ops (o k)).op.isW = false) : HH (k + 1) = HH k ∨ ((XOf p nt ops (o k)).op.isN = true ∧ ∃ x, HH (k + 1) = (HH k).new x) := by
  rcases C.step k hk with ⟨h1, h2⟩ | ⟨h1, h2, h3⟩
  · rcases kind_of_notW hw with h | h | h
    · rw [opX_plain (by omega)] at h2
      exact .inl (doX_P h h2).1
    · have h' : (XOf p nt ops (o k)).op.kind = 1 := by simpa [XO.isQ, beq_iff, eq_comm] using h
      rw [opX_plain (by omega)] at h2
      exact .inl (doX_Q (t := (HH k).t) (m := (HH k).next) h' h2).1
    · have h' : (XOf p nt ops (o k)).op.kind = 2 := by simpa [XO.isN, beq_iff, eq_comm] using h
      rw [opX_plain (by omega)] at h2
      obtain ⟨x, hx, -⟩ := doX_N h' h2
      exact .inr ⟨h, x, hx⟩
  · exact .inl h3
theorem Cn.step0 (C : Cn p E run nt ops o A FF HH vv exc) {k : Nat} (hk : k < ops.size) (h0 : (XOf p nt ops (o k)).op.kind = 0) : HH (k + 1) = HH k := by
  rcases C.stepN hk (notW_of0 h0) with h | ⟨h, -⟩
  · exact h
  · rw [notN_of0 h0] at h; cases h
theorem new_next (H : Hp) (x : Blk) : (H.new x).next.toNat = H.next.toNat + 1 := P.toNat_succ _
theorem Cn.next1 (C : Cn p E run nt ops o A FF HH vv exc) {k : Nat} (hk : k < ops.size) : (HH k).next.toNat ≤ (HH (k + 1)).next.toNat := by
  cases hw : (XOf p nt ops (o k)).op.isW with
  | true => exact C.mono k hk hw
  | false =>
    rcases C.stepN hk hw with h | ⟨-, x, h⟩
    · rw [h]; exact Nat.le_refl _
    · rw [h, new_next]; omega
theorem Cn.next (C : Cn p E run nt ops o A FF HH vv exc) {j k : Nat} (hk : k ≤ ops.size) (h : j ≤ k) : (HH j).next.toNat ≤ (HH k).next.toNat := by
  induction k with
  | zero => have : j = 0 := by omega
            subst this; exact Nat.le_refl _
  | succ k ih =>
    by_cases e : j = k + 1
    · subst e; exact Nat.le_refl _
    · exact Nat.le_trans (ih (by omega) (by omega)) (C.next1 (by omega))
/-- two that make memory give their blocks two names -/
theorem Cn.two (C : Cn p E run nt ops o A FF HH vv exc) {i j : Nat} {x y : Blk} (hi : i < ops.size) (hj : j < ops.size) (h1 : HH (i + 1) = (HH i).new x) (h2 : HH (j + 1) = (HH j).new y) (h : (HH i).next.toNat = (HH j).next.toNat) : i = j := by
  have e1 := new_next (HH i) x
  have e2 := new_next (HH j) y
  rw [← h1] at e1
  rw [← h2] at e2
  rcases Nat.lt_trichotomy i j with c | c | c
  · have := C.next (j := i + 1) (k := j) (by omega) (by omega); omega
  · exact c
  · have := C.next (j := j + 1) (k := i) (by omega) (by omega); omega
theorem Cn.ff1 (C : Cn p E run nt ops o A FF HH vv exc) {t : Nat} {j : Nat} (hd : (ops.getD (o j) default).dst = some t) : ∀ k, k ≤ ops.size → j < k → (FF k).get (P.of t) = some (vv j) := by
  intro k
  induction k with
  | zero => omega
  | succ k ih =>
    intro hk hj
    rw [C.fs k (by omega), (C.spec (by omega : k < ops.size)).2.2.1]
    by_cases e : j = k
    · subst e
      rw [hd]; simp only [Option.map_some, putD, Tr.get_put_same]
    · have := ih (by omega) (by omega)
      cases h : (ops.getD (o k) default).dst with
      | none => simpa [putD] using this
      | some d =>
        have hne : d ≠ t := fun e' => C.dsts j k (by omega) (by omega) e t hd (e' ▸ h)
        simp only [Option.map_some, putD]
        rw [Tr.get_put_ne _ _ (fun e' => hne (P.of_inj e').symm)]
        exact this
theorem Cn.ff0 (C : Cn p E run nt ops o A FF HH vv exc) {t : Nat} : ∀ k, k ≤ ops.size → (∀ j, j < k → (ops.getD (o j) default).dst ≠ some t) → (FF k).get (P.of t) = (FF 0).get (P.of t) := by
  intro k
  induction k with
  | zero => intro _ _; rfl
  | succ k ih =>
    intro hk hd
    rw [C.fs k (by omega), (C.spec (by omega : k < ops.size)).2.2.1]
    have := ih (by omega) (fun j hj => hd j (by omega))
    cases h : (ops.getD (o k) default).dst with
    | none => simpa [putD] using this
    | some d =>
      have hne : d ≠ t := fun e' => hd k (by omega) (e' ▸ h)
      simp only [Option.map_some, putD]
      rw [Tr.get_put_ne _ _ (fun e' => hne (P.of_inj e').symm)]
      exact this

/-- what holds when the operations of S are done -/
structure Inv (σ : Sg) (p : Program) (nt : Nat) (ops : Array Oper) (o : Nat → Nat) (FF : Nat → Fr) (HH : Nat → Hp) (vv : Nat → V) (ρ0 : Ren) (w0 : World) (S : Nat → Prop) (c : Nat) (ρ : Ren) (a : Act) (w : World) : Prop where
  cle : c ≤ ops.size
  base : c = 0 ∨ ∃ b, c = b + 1 ∧ (XOf p nt ops (o b)).op.isW = true
  low : ∀ k, k < c → S k ∨ (XOf p nt ops (o k)).op.kind = 0
  noW : ∀ k, c ≤ k → k < ops.size → S k → (XOf p nt ops (o k)).op.isW = false
  hr : HR σ (ρ.cut (HH c).next.toNat) (HH c) w
  st : Stp ρ0 (HH 0) w0 (ρ.cut (HH c).next.toNat) (HH c) w
  ex : ∀ k x, c ≤ k → k < ops.size → S k → HH (k + 1) = (HH k).new x → ∃ b, ρ (HH k).next = some b ∧ BlkR σ (ρ.cut (HH (k + 1)).next.toNat) w b x ∧ w0.heap.size ≤ b.r
  exd : ∀ k x b, c ≤ k → k < ops.size → S k → HH (k + 1) = (HH k).new x → ρ (HH k).next = some b → ∀ q y d, (HH c).get q = some y → ρ q = some d → d.r ≠ b.r
  exx : ∀ j k x y b d, c ≤ j → j < ops.size → S j → HH (j + 1) = (HH j).new x → c ≤ k → k < ops.size → S k → HH (k + 1) = (HH k).new y → ρ (HH j).next = some b → ρ (HH k).next = some d → b.r = d.r → j = k
  dom : ∀ q b, ρ q = some b → q.toNat < (HH c).next.toNat ∨ ∃ k x, c ≤ k ∧ k < ops.size ∧ S k ∧ HH (k + 1) = (HH k).new x ∧ q = (HH k).next
  fr1 : ∀ j, j < ops.size → S j → ∀ t, (ops.getD (o j) default).dst = some t → VR σ (ρ.cut (HH (j + 1)).next.toNat) (vv j) (a.tmps.getD t undef)
  fr0 : ∀ t, (∀ j, j < ops.size → S j → (ops.getD (o j) default).dst ≠ some t) → VR σ (ρ.cut (HH 0).next.toNat) (((FF 0).get (P.of t)).getD V.undef) (a.tmps.getD t undef)
  siz : nt ≤ a.tmps.size
  dfr : DfOk p a.defers

variable {ρ0 ρ : Ren} {w0 w : World} {S : Nat → Prop} {c : Nat} {a : Act}
theorem Inv.act {a1 : Act} (I : Inv σ p nt ops o FF HH vv ρ0 w0 S c ρ a w) (ht : a1.tmps = a.tmps) (hd : DfOk p a1.defers) : Inv σ p nt ops o FF HH vv ρ0 w0 S c ρ a1 w :=
  ⟨I.cle, I.base, I.low, I.noW, I.hr, I.st, I.ex, I.exd, I.exx, I.dom, fun j h1 h2 t h3 => by rw [ht]; exact I.fr1 j h1 h2 t h3, fun t h => by rw [ht]; exact I.fr0 t h, by rw [ht]; exact I.siz, hd⟩
theorem Inv.absorb (C : Cn p E run nt ops o A FF HH vv exc) (I : Inv σ p nt ops o FF HH vv ρ0 w0 S c ρ a w) : ∀ j, c ≤ j → j ≤ ops.size → (∀ i, c ≤ i → i < j → (XOf p nt ops (o i)).op.isW = false) → (∀ i, c ≤ i → i < j → S i ∨ HH (i + 1) = HH i) →
    HR σ (ρ.cut (HH j).next.toNat) (HH j) w ∧ Stp ρ0 (HH 0) w0 (ρ.cut (HH j).next.toNat) (HH j) w ∧
    (∀ q y, (HH j).get q = some y → (HH c).get q = some y ∨ ∃ i x, c ≤ i ∧ i < j ∧ S i ∧ HH (i + 1) = (HH i).new x ∧ q = (HH i).next) := by
  intro j
  induction j with
  | zero =>
    intro h1 _ _ _
    have : c = 0 := by omega
    subst this
    exact ⟨I.hr, I.st, fun q y h => .inl h⟩
  | succ j ih =>
    intro h1 h2 h3 h4
    by_cases e : c = j + 1
    · subst e; exact ⟨I.hr, I.st, fun q y h => .inl h⟩
    · obtain ⟨g1, g2, g3⟩ := ih (by omega) (by omega) (fun i a b => h3 i a (by omega)) (fun i a b => h4 i a (by omega))
      have mono3 : ∀ q y, (HH j).get q = some y → (HH c).get q = some y ∨ ∃ i x, c ≤ i ∧ i < j + 1 ∧ S i ∧ HH (i + 1) = (HH i).new x ∧ q = (HH i).next := fun q y hq => by
        rcases g3 q y hq with h | ⟨i, x, k1, k2, k3, k4, k5⟩
        · exact .inl h
        · exact .inr ⟨i, x, k1, by omega, k3, k4, k5⟩
      rcases C.stepN (by omega : j < ops.size) (h3 j (by omega) (by omega)) with hs | ⟨-, x, hs⟩
      · rw [hs]; exact ⟨g1, g2, mono3⟩
      · have hS : S j := by
          rcases h4 j (by omega) (by omega) with h | h
          · exact h
          · exfalso
            have := new_next (HH j) x
            rw [← hs, h] at this; omega
        obtain ⟨b, hb, hblk, hsz⟩ := I.ex j x (by omega) (by omega) hS hs
        have hnx : (HH (j + 1)).next.toNat = (HH j).next.toNat + 1 := by rw [hs, new_next]
        have hle : (ρ.cut (HH j).next.toNat).le (ρ.cut (HH (j + 1)).next.toNat) := Ren.cut_mono (.refl _) (by omega)
        have hget : ∀ q, (HH (j + 1)).get q = if q = (HH j).next then some x else (HH j).get q := fun q => by rw [hs, Hp.get_new]
        have hcut : ρ.cut (HH (j + 1)).next.toNat (HH j).next = some b := Ren.cut_some.2 ⟨by omega, hb⟩
        have hne : ∀ q y d, (HH j).get q = some y → ρ q = some d → d.r ≠ b.r := fun q y d hq hd => by
          rcases g3 q y hq with h | ⟨i, x', k1, k2, k3, k4, k5⟩
          · exact I.exd j x b (by omega) (by omega) hS hs hb q y d h hd
          · subst k5
            intro e'
            have := I.exx i j x' x d b k1 (by omega) k3 k4 (by omega) (by omega) hS hs hd hb e'
            omega
        refine ⟨⟨?_, ?_, ?_⟩, ⟨g2.os, g2.tape, g2.output, g2.size, g2.le.trans hle, by have := g2.next; omega, ?_, ?_, g2.frame⟩, ?_⟩
        · intro q1 q2 y z b1 b2 hq1 hq2 hb1 hb2 hbb
          rw [hget] at hq1 hq2
          have hb1' := (Ren.cut_some.1 hb1).2
          have hb2' := (Ren.cut_some.1 hb2).2
          by_cases e1 : q1 = (HH j).next <;> by_cases e2 : q2 = (HH j).next
          · rw [e1, e2]
          · rw [if_neg e2] at hq2
            rw [e1, hb] at hb1'; cases hb1'
            exact absurd hbb.symm (hne q2 z b2 hq2 hb2')
          · rw [if_neg e1] at hq1
            rw [e2, hb] at hb2'; cases hb2'
            exact absurd hbb (hne q1 y b1 hq1 hb1')
          · rw [if_neg e1] at hq1
            rw [if_neg e2] at hq2
            exact g1.inj q1 q2 y z b1 b2 hq1 hq2 (Ren.cut_some.2 ⟨g1.live hq1, hb1'⟩) (Ren.cut_some.2 ⟨g1.live hq2, hb2'⟩) hbb
        · intro q y hq
          rw [hget] at hq
          by_cases e1 : q = (HH j).next
          · rw [if_pos e1] at hq; cases hq
            rw [e1]; exact ⟨b, hcut, hblk⟩
          · rw [if_neg e1] at hq
            obtain ⟨d, hd, hr⟩ := g1.blk q y hq
            exact ⟨d, hle _ _ hd, hr.mono hle rfl⟩
        · intro q d hq; exact (Ren.cut_some.1 hq).1
        · intro q d hq
          obtain ⟨k1, k2⟩ := Ren.cut_some.1 hq
          by_cases e1 : q.toNat < (HH j).next.toNat
          · rcases g2.old q d (Ren.cut_some.2 ⟨e1, k2⟩) with h | h
            · exact .inl h
            · exact .inr (by omega)
          · have := g2.next
            exact .inr (by omega)
        · intro q y d hq hd
          rw [hget] at hq
          have hd' := (Ren.cut_some.1 hd).2
          by_cases e1 : q = (HH j).next
          · rw [e1, hb] at hd'; cases hd'; exact .inl hsz
          · rw [if_neg e1] at hq
            exact g2.own q y d hq (Ren.cut_some.2 ⟨g1.live hq, hd'⟩)
        · intro q y hq
          rw [hget] at hq
          by_cases e1 : q = (HH j).next
          · exact .inr ⟨j, x, by omega, by omega, hS, hs, e1⟩
          · rw [if_neg e1] at hq; exact mono3 q y hq
end
end Go.Proofs.YtafignheedbnbaaGreatDoor.X
namespace Go.Proofs.YtafignheedbnbaaGreatDoor.X
open Go
set_option linter.unusedVariables false
set_option linter.unusedSimpArgs false
section
variable {p : Program} {σ : Sg} {E : Env} {run : Run} {nt : Nat} {ops : Array Oper} {o : Nat → Nat} {A : Nat → List Nat} {FF : Nat → Fr} {HH : Nat → Hp} {vv : Nat → V} {exc : Nat → Nat → Prop}
variable {ρ0 ρ : Ren} {w0 w w' : World} {S : Nat → Prop} {c k : Nat} {a : Act} {x : Value}

theorem getD_put {a : Act} {dst : Option Tmp} {v : Value} {t : Tmp} (h : dst ≠ some t) : (a.put dst v).tmps.getD t undef = a.tmps.getD t undef := by
  cases dst with
  | none => rfl
  | some d =>
    have : d ≠ t := fun e => h (e ▸ rfl)
    simp [Act.put, Array.getElem?_setIfInBounds_ne this]
theorem getD_put_same {a : Act} {v : Value} {t : Tmp} (h : t < a.tmps.size) : (a.put (some t) v).tmps.getD t undef = v := by
  simp [Act.put, h]
/-- the slots, when k is done -/
theorem Inv.slots (C : Cn p E run nt ops o A FF HH vv exc) (I : Inv σ p nt ops o FF HH vv ρ0 w0 S c ρ a w) (hk : k < ops.size) {ρ' : Ren} (hle : ρ.le ρ') (hv : VR σ (ρ'.cut (HH (k + 1)).next.toNat) (vv k) x) :
    (∀ j, j < ops.size → (S j ∨ j = k) → ∀ t, (ops.getD (o j) default).dst = some t → VR σ (ρ'.cut (HH (j + 1)).next.toNat) (vv j) ((a.put (ops.getD (o k) default).dst x).tmps.getD t undef)) ∧
    (∀ t, (∀ j, j < ops.size → (S j ∨ j = k) → (ops.getD (o j) default).dst ≠ some t) → VR σ (ρ'.cut (HH 0).next.toNat) (((FF 0).get (P.of t)).getD V.undef) ((a.put (ops.getD (o k) default).dst x).tmps.getD t undef)) := by
  refine ⟨fun j hj hS t ht => ?_, fun t ht => ?_⟩
  · by_cases e : j = k
    · subst e
      rw [ht, getD_put_same (Nat.lt_of_lt_of_le ((C.spec hj).2.1 t ht) I.siz)]
      exact hv
    · rw [getD_put (C.dsts j k hj hk e t ht)]
      exact (I.fr1 j hj (hS.resolve_right e) t ht).mono (Ren.cut_mono hle (Nat.le_refl _))
  · rw [getD_put (ht k hk (.inr rfl))]
    exact (I.fr0 t (fun j hj hS => ht j hj (.inl hS))).mono (Ren.cut_mono hle (Nat.le_refl _))
/-- an operation that leaves memory alone -/
theorem Inv.advQ (C : Cn p E run nt ops o A FF HH vv exc) (I : Inv σ p nt ops o FF HH vv ρ0 w0 S c ρ a w) (hk : k < ops.size) (hS : ¬ S k) (hw : (XOf p nt ops (o k)).op.isW = false) (hH : HH (k + 1) = HH k)
    (hv : VR σ (ρ.cut (HH k).next.toNat) (vv k) x) : Inv σ p nt ops o FF HH vv ρ0 w0 (fun j => S j ∨ j = k) c ρ (a.put (ops.getD (o k) default).dst x) w := by
  have hno : ∀ y, HH (k + 1) ≠ (HH k).new y := fun y e => by
    have := new_next (HH k) y
    rw [← e, hH] at this; omega
  have hsl := I.slots C hk (x := x) (.refl ρ) (by rw [hH]; exact hv)
  refine ⟨I.cle, I.base, fun j hj => (I.low j hj).imp .inl id, fun j h1 h2 h3 => ?_, I.hr, I.st, fun j y h1 h2 h3 h4 => ?_, fun j y b h1 h2 h3 h4 => ?_, fun j i y z b d h1 h2 h3 h4 h5 h6 h7 h8 => ?_, fun q b h => ?_, hsl.1, hsl.2, by rw [put_size]; exact I.siz, by rw [put_defers]; exact I.dfr⟩
  · rcases h3 with h3 | rfl
    · exact I.noW j h1 h2 h3
    · exact hw
  · rcases h3 with h3 | rfl
    · exact I.ex j y h1 h2 h3 h4
    · exact absurd h4 (hno y)
  · rcases h3 with h3 | rfl
    · exact I.exd j y b h1 h2 h3 h4
    · exact absurd h4 (hno y)
  · rcases h3 with h3 | rfl
    · rcases h7 with h7 | rfl
      · exact I.exx j i y z b d h1 h2 h3 h4 h5 h6 h7 h8
      · exact absurd h8 (hno z)
    · exact absurd h4 (hno y)
  · rcases I.dom q b h with h | ⟨j, y, h1, h2, h3, h4⟩
    · exact .inl h
    · exact .inr ⟨j, y, h1, h2, .inl h3, h4⟩
/-- an operation that makes memory -/
theorem Inv.advN (C : Cn p E run nt ops o A FF HH vv exc) (I : Inv σ p nt ops o FF HH vv ρ0 w0 S c ρ a w) (hk : k < ops.size) (hc : c ≤ k) (hS : ¬ S k) (hw : (XOf p nt ops (o k)).op.isW = false) {y : Blk} (hH : HH (k + 1) = (HH k).new y) {b : RB}
    (g : Grew w w') (hb : w.heap.size ≤ b.r) (hblk : BlkR σ ((ρ.add (HH k).next b).cut (HH (k + 1)).next.toNat) w' b y)
    (hv : VR σ ((ρ.add (HH k).next b).cut (HH (k + 1)).next.toNat) (vv k) x) : Inv σ p nt ops o FF HH vv ρ0 w0 (fun j => S j ∨ j = k) c (ρ.add (HH k).next b) (a.put (ops.getD (o k) default).dst x) w' := by
  have hfree : ρ (HH k).next = none := by
    cases e : ρ (HH k).next with
    | none => rfl
    | some d =>
      rcases I.dom _ _ e with h | ⟨j, z, h1, h2, h3, h4, h5⟩
      · have := C.next (j := c) (k := k) (by omega) hc; omega
      · have := C.two hk h2 hH h4 (by rw [h5])
        subst this; exact absurd h3 hS
  have hle : ρ.le (ρ.add (HH k).next b) := fun q d hq => by
    unfold Ren.add
    rw [if_neg (by rintro rfl; rw [hfree] at hq; cases hq)]
    exact hq
  have hold : ∀ j z, j < ops.size → S j → HH (j + 1) = (HH j).new z → (HH j).next ≠ (HH k).next := fun j z hj hSj h e => by
    have := C.two hk hj hH h (by rw [e])
    subst this; exact absurd hSj hS
  have hsame : ∀ q, q ≠ (HH k).next → (ρ.add (HH k).next b) q = ρ q := fun q hq => by unfold Ren.add; rw [if_neg hq]
  have hself : (ρ.add (HH k).next b) (HH k).next = some b := Ren.add_same _ _ _
  have hcn := C.next (j := c) (k := k) (by omega) hc
  have hcut : (ρ.add (HH k).next b).cut (HH c).next.toNat = ρ.cut (HH c).next.toNat := Ren.add_cut hcn
  have hlt : ∀ q z d, (HH c).get q = some z → (ρ.add (HH k).next b) q = some d → ρ q = some d ∧ d.r < w.heap.size := fun q z d hq hd => by
    have hq' := I.hr.live hq
    rw [hsame q (by rintro rfl; omega)] at hd
    refine ⟨hd, ?_⟩
    obtain ⟨d', hd', hr⟩ := I.hr.blk q z hq
    have := (Ren.cut_some.1 hd').2
    rw [hd] at this; cases this
    exact hr.lt
  have hsl := I.slots C hk (x := x) hle hv
  refine ⟨I.cle, I.base, fun j hj => (I.low j hj).imp .inl id, fun j h1 h2 h3 => ?_, by rw [hcut]; exact I.hr.keep g, by rw [hcut]; exact I.st.keep g, fun j z h1 h2 h3 h4 => ?_, fun j z d h1 h2 h3 h4 h5 q u e hq he => ?_, fun j i z u d e h1 h2 h3 h4 h5 h6 h7 h8 h9 h10 h11 => ?_, fun q d h => ?_, hsl.1, hsl.2, by rw [put_size]; exact I.siz, by rw [put_defers]; exact I.dfr⟩
  · rcases h3 with h3 | rfl
    · exact I.noW j h1 h2 h3
    · exact hw
  · rcases h3 with h3 | rfl
    · obtain ⟨d, k1, k2, k3⟩ := I.ex j z h1 h2 h3 h4
      exact ⟨d, hle _ _ k1, k2.mono (Ren.cut_mono hle (Nat.le_refl _)) (g.same _ k2.lt), k3⟩
    · rw [hH] at h4
      have hz : y = z := by
        have e1 := Hp.get_new (HH j) y (HH j).next
        have e2 := Hp.get_new (HH j) z (HH j).next
        rw [if_pos rfl] at e1 e2
        rw [h4, e2] at e1; exact (Option.some.inj e1).symm
      subst hz
      exact ⟨b, hself, hblk, Nat.le_trans I.st.size hb⟩
  · obtain ⟨he', hlt'⟩ := hlt q u e hq he
    rcases h3 with h3 | rfl
    · rw [hsame _ (hold j z h2 h3 h4)] at h5
      exact I.exd j z d h1 h2 h3 h4 h5 q u e hq he'
    · rw [hself] at h5; cases h5; omega
  · have hexlt : ∀ i u d, c ≤ i → i < ops.size → S i → HH (i + 1) = (HH i).new u → ρ (HH i).next = some d → d.r < w.heap.size := fun i u d k1 k2 k3 k4 k5 => by
      obtain ⟨d', q1, q2, -⟩ := I.ex i u k1 k2 k3 k4
      rw [k5] at q1; cases q1
      exact q2.lt
    rcases h3 with h3 | rfl
    · rw [hsame _ (hold j z h2 h3 h4)] at h9
      rcases h7 with h7 | rfl
      · rw [hsame _ (hold i u h6 h7 h8)] at h10
        exact I.exx j i z u d e h1 h2 h3 h4 h5 h6 h7 h8 h9 h10 h11
      · rw [hself] at h10; cases h10
        have := hexlt j z d h1 h2 h3 h4 h9
        omega
    · rcases h7 with h7 | rfl
      · rw [hsame _ (hold i u h6 h7 h8)] at h10
        rw [hself] at h9; cases h9
        have := hexlt i u e h5 h6 h7 h8 h10
        omega
      · rfl
  · by_cases e : q = (HH k).next
    · exact .inr ⟨k, y, hc, hk, .inr rfl, hH, e⟩
    · rw [hsame q e] at h
      rcases I.dom q d h with h | ⟨j, z, h1, h2, h3, h4⟩
      · exact .inl h
      · exact .inr ⟨j, z, h1, h2, .inl h3, h4⟩
/-- an operation that may turn memory -/
theorem Inv.advW (C : Cn p E run nt ops o A FF HH vv exc) (I : Inv σ p nt ops o FF HH vv ρ0 w0 S c ρ a w) (hk : k < ops.size) (hc : c ≤ k) (hS : ¬ S k) (hw : (XOf p nt ops (o k)).op.isW = true) (hall : ∀ j, j < k → S j ∨ (XOf p nt ops (o j)).op.kind = 0) {ρ1 : Ren}
    (hH : HR σ ρ1 (HH (k + 1)) w') (hst : Stp (ρ.cut (HH k).next.toNat) (HH k) w ρ1 (HH (k + 1)) w')
    (hv : VR σ ρ1 (vv k) x) : Inv σ p nt ops o FF HH vv ρ0 w0 (fun j => S j ∨ j = k) (k + 1) (Ren.over ρ1 ρ (HH (k + 1)).next.toNat) (a.put (ops.getD (o k) default).dst x) w' := by
  obtain ⟨g1, g2, g3⟩ := I.absorb C k hc (by omega) (fun i h1 h2 => by
    rcases hall i h2 with h | h
    · exact I.noW i h1 (by omega) h
    · exact notW_of0 h) (fun i h1 h2 => (hall i h2).imp id (C.step0 (by omega)))
  have hcut : (Ren.over ρ1 ρ (HH (k + 1)).next.toNat).cut (HH (k + 1)).next.toNat = ρ1 := Ren.over_cut hH.fresh
  have hover : ∀ q, (HH (k + 1)).next.toNat ≤ q.toNat → Ren.over ρ1 ρ (HH (k + 1)).next.toNat q = ρ q := fun q hq => by unfold Ren.over; rw [if_neg (by omega)]
  have hunder : ∀ q, q.toNat < (HH (k + 1)).next.toNat → Ren.over ρ1 ρ (HH (k + 1)).next.toNat q = ρ1 q := fun q hq => by unfold Ren.over; rw [if_pos hq]
  have hck := C.next (j := c) (k := k) (by omega) hc
  have hk1 := C.next1 hk
  have far : ∀ i z, i < ops.size → S i → HH (i + 1) = (HH i).new z → (HH k).next.toNat ≤ (HH i).next.toNat → k + 1 ≤ i := fun i z h1 h2 h3 h4 => by
    rcases Nat.lt_trichotomy i k with h | h | h
    · have e1 := new_next (HH i) z
      rw [← h3] at e1
      have := C.next (j := i + 1) (k := k) (by omega) (by omega)
      omega
    · subst h; exact absurd h2 hS
    · exact h
  have hle : ρ.le (Ren.over ρ1 ρ (HH (k + 1)).next.toNat) := fun q d hq => by
    by_cases e : q.toNat < (HH (k + 1)).next.toNat
    · rw [hunder q e]
      apply hst.le
      refine Ren.cut_some.2 ⟨?_, hq⟩
      rcases I.dom q d hq with h | ⟨i, z, h1, h2, h3, h4, h5⟩
      · omega
      · subst h5
        apply Nat.lt_of_not_le
        intro hge
        have := far i z h2 h3 h4 hge
        have := C.next (j := k + 1) (k := i) (by omega) this
        omega
    · rw [hover q (by omega)]; exact hq
  have hsl := I.slots C hk (x := x) hle (by rw [hcut]; exact hv)
  have idx : ∀ i z, k + 1 ≤ i → i < ops.size → S i → HH (i + 1) = (HH i).new z → Ren.over ρ1 ρ (HH (k + 1)).next.toNat (HH i).next = ρ (HH i).next := fun i z h1 h2 h3 h4 => hover _ (C.next (by omega) h1)
  have sep : ∀ i z b, k + 1 ≤ i → i < ops.size → S i → HH (i + 1) = (HH i).new z → ρ (HH i).next = some b → ∀ q y d, (HH k).get q = some y → (ρ.cut (HH k).next.toNat) q = some d → d.r ≠ b.r := fun i z b h1 h2 h3 h4 h5 q y d hq hd => by
    have hd' := (Ren.cut_some.1 hd).2
    rcases g3 q y hq with h | ⟨j, u, k1, k2, k3, k4, k5⟩
    · exact I.exd i z b (by omega) h2 h3 h4 h5 q y d h hd'
    · subst k5
      intro e
      have := I.exx j i u z d b k1 (by omega) k3 k4 (by omega) h2 h3 h4 hd' h5 e
      omega
  have sepW : ∀ i z b, k + 1 ≤ i → i < ops.size → S i → HH (i + 1) = (HH i).new z → ρ (HH i).next = some b → b.r < w.heap.size := fun i z b h1 h2 h3 h4 h5 => by
    obtain ⟨d', q1, q2, -⟩ := I.ex i z (by omega) h2 h3 h4
    rw [h5] at q1; cases q1
    exact q2.lt
  have old : ∀ j, k + 1 ≤ j → (S j ∨ j = k) → S j := fun j h1 h2 => h2.resolve_right (by omega)
  refine ⟨hk, .inr ⟨k, rfl, hw⟩, fun j hj => ?_, fun j h1 h2 h3 => I.noW j (by omega) h2 (old j h1 h3), by rw [hcut]; exact hH, by rw [hcut]; exact g2.trans hst, fun j z h1 h2 h3 h4 => ?_, fun j z d h1 h2 h3 h4 h5 q u e hq he => ?_, fun j i z u d e h1 h2 h3 h4 h5 h6 h7 h8 h9 h10 h11 => ?_, fun q d h => ?_, hsl.1, hsl.2, by rw [put_size]; exact I.siz, by rw [put_defers]; exact I.dfr⟩
  · by_cases e : j = k
    · exact .inl (.inr e)
    · exact (hall j (by omega)).imp .inl id
  · have h3' := old j h1 h3
    obtain ⟨b, k1, k2, k3⟩ := I.ex j z (by omega) h2 h3' h4
    refine ⟨b, hle _ _ k1, k2.mono (Ren.cut_mono hle (Nat.le_refl _)) (hst.frame b.r k2.lt (sep j z b h1 h2 h3' h4 k1)), k3⟩
  · have h3' := old j h1 h3
    rw [idx j z h1 h2 h3' h4] at h5
    rw [hunder q (hH.live hq)] at he
    rcases hst.own q u e hq he with h | ⟨q', u', e', k1, k2, k3⟩
    · have := sepW j z d h1 h2 h3' h4 h5; omega
    · rw [← k3]; exact sep j z d h1 h2 h3' h4 h5 q' u' e' k1 k2
  · have h3' := old j h1 h3
    have h7' := old i h5 h7
    rw [idx j z h1 h2 h3' h4] at h9
    rw [idx i u h5 h6 h7' h8] at h10
    exact I.exx j i z u d e (by omega) h2 h3' h4 (by omega) h6 h7' h8 h9 h10 h11
  · by_cases e : q.toNat < (HH (k + 1)).next.toNat
    · exact .inl e
    · rw [hover q (by omega)] at h
      rcases I.dom q d h with h | ⟨j, z, h1, h2, h3, h4, h5⟩
      · omega
      · refine .inr ⟨j, z, ?_, h2, .inl h3, h4, h5⟩
        subst h5
        exact far j z h2 h3 h4 (by omega)
end
end Go.Proofs.YtafignheedbnbaaGreatDoor.X
namespace Go.Proofs.YtafignheedbnbaaGreatDoor.X
open Go
set_option linter.unusedVariables false
set_option linter.unusedSimpArgs false

def keepF (F : Fr) : List Nat → Fr
  | [] => .lf
  | t :: r => (keepF F r).put (F.get (P.of t)) (P.of t)
theorem keepF_get (F : Fr) (t : Nat) : ∀ l : List Nat, (keepF F l).get (P.of t) = if t ∈ l then F.get (P.of t) else none
  | [] => by simp [keepF]
  | u :: r => by
    simp only [keepF]
    rw [Tr.get_put]
    by_cases e : t = u
    · subst e; simp
    · rw [if_neg (fun h => e (P.of_inj h)), keepF_get F t r]; simp [e]
def keepA (a : Act) (l : List Nat) : Act := ⟨Array.ofFn (n := a.tmps.size) fun i => if i.val ∈ l then a.tmps[i] else undef, []⟩
theorem keepA_get? (a : Act) (l : List Nat) (t : Nat) (h : t ∈ l) : (keepA a l).tmps[t]? = a.tmps[t]? := by
  by_cases c : t < a.tmps.size
  · simp [keepA, c, h]
  · simp [keepA, c]
theorem keepA_get (a : Act) (l : List Nat) (t : Nat) : (keepA a l).tmps.getD t undef = if t ∈ l then a.tmps.getD t undef else undef := by
  by_cases c : t < a.tmps.size
  · by_cases h : t ∈ l <;> simp [keepA, c, h]
  · simp [keepA, c]
theorem HR.widen {σ : Sg} {ρ : Ren} {H : Hp} {w : World} {m : Nat} {n : P} (h : HR σ (ρ.cut m) H w) (hm : m ≤ n.toNat) : HR σ (ρ.cut n.toNat) ⟨H.t, n⟩ w := by
  have hle : (ρ.cut m).le (ρ.cut n.toNat) := Ren.cut_mono (.refl _) hm
  refine ⟨fun p q x y b c hp hq hb hc hbc => ?_, fun p x hp => ?_, fun p b hp => (Ren.cut_some.1 hp).1⟩
  · obtain ⟨b', hb', -⟩ := h.blk p x hp
    obtain ⟨c', hc', -⟩ := h.blk q y hq
    have e1 := hle _ _ hb'
    have e2 := hle _ _ hc'
    rw [hb] at e1; cases e1
    rw [hc] at e2; cases e2
    exact h.inj p q x y b c hp hq hb' hc' hbc
  · obtain ⟨b', hb', hr⟩ := h.blk p x hp
    exact ⟨b', hle _ _ hb', hr.mono hle rfl⟩
theorem HR.bare {σ : Sg} {ρ : Ren} {w : World} (n : P) : HR σ (ρ.cut n.toNat) ⟨.lf, n⟩ w :=
  ⟨fun p q x y b c hp => by simp [Hp.get] at hp, fun p x hp => by simp [Hp.get] at hp, fun p b hp => (Ren.cut_some.1 hp).1⟩
section
variable {p : Program} {σ : Sg} {E : Env} {run : Run} {nt : Nat} {ops : Array Oper} {o : Nat → Nat} {A : Nat → List Nat} {FF : Nat → Fr} {HH : Nat → Hp} {vv : Nat → V} {exc : Nat → Nat → Prop}
variable {ρ0 ρ : Ren} {w0 w w' : World} {S : Nat → Prop} {c k : Nat} {a : Act} {x : Value}

theorem not_select {op : Oper} {xo : XO} (h : cOp p op = some xo) : ∀ cs b, op.op ≠ .select cs b := by
  intro cs b e
  simp [cOp, cPlain, e] at h
theorem wanted_congr {op : Oper} {a b : Act} (h : ∀ t ∈ op.looksAt ops, a.tmps[t]? = b.tmps[t]?) : Region.wanted op (yielded ops a.tmps) = Region.wanted op (yielded ops b.tmps) := by
  unfold Region.wanted
  split
  · rfl
  · rename_i j b' hg
    unfold yielded
    cases hd : (ops[j]?).bind (·.dst) with
    | none => rfl
    | some d =>
      have := h d (by unfold Oper.looksAt; rw [hg]; simp [hd])
      simp only [Option.bind_some, this]
theorem want_congr {op : Oper} {F G : Fr} {g : Option (P × Bool)} (hg : gOf ops op = some g) (h : ∀ t ∈ op.looksAt ops, F.get (P.of t) = G.get (P.of t)) : want F g = want G g := by
  unfold gOf at hg
  split at hg
  · simp at hg; subst hg; rfl
  · rename_i j b hgd
    split at hg
    · rename_i d hd
      simp at hg; subst hg
      have := h d (by unfold Oper.looksAt; rw [hgd]; simp [hd])
      simp only [want, this]
    · cases hg

theorem Inv.step (hs : SgOk σ) (hC : CallOk p σ E run) (C : Cn p E run nt ops o A FF HH vv exc) (I : Inv σ p nt ops o FF HH vv ρ0 w0 S c ρ a w) (hk : k < ops.size) (hS : ¬ S k) (hA : ∀ j, j < ops.size → o j ∈ A (o k) → S j)
    (hcl : ∀ i j, i < ops.size → j < ops.size → S j → o i ∈ A (o j) → S i) {Q : Exit → Act → World → Prop} {K : Act → World → Prop} (hK : ∀ c' ρ' a' w', Inv σ p nt ops o FF HH vv ρ0 w0 (fun j => S j ∨ j = k) c' ρ' a' w' → K a' w') : wpOp p ops Q (o k) K a w := by
  have hck : (XOf p nt ops (o k)).op.kind ≠ 0 → c ≤ k := fun h0 => Nat.le_of_not_lt fun h => (I.low k h).elim hS h0
  have hW0 : (XOf p nt ops (o k)).op.isW = true → (XOf p nt ops (o k)).op.kind ≠ 0 := fun h e => by rw [notW_of0 e] at h; cases h
  have hop : ops[o k]? = some (ops.getD (o k) default) := by simp [C.lt k hk]
  obtain ⟨s1, s2, s3, s4⟩ := C.spec hk
  have hlk : ∀ t ∈ (ops.getD (o k) default).looksAt ops, VR σ (ρ.cut (HH k).next.toNat) (((FF k).get (P.of t)).getD V.undef) (a.tmps.getD t undef) := by
    intro t ht
    by_cases hw : ∃ j, j < ops.size ∧ j ≠ k ∧ (ops.getD (o j) default).dst = some t
    · obtain ⟨j, hj, hjk, hd⟩ := hw
      rcases C.looks j k hj hk hjk t hd ht with h | h
      · obtain ⟨i, hi, hij⟩ := C.anc k hk _ h
        have := C.inj i j (by omega) hj hij
        subst this
        rw [C.ff1 hd k (by omega) hi]
        exact (I.fr1 i hj (hA i hj h) t hd).mono (Ren.cut_mono (.refl _) (C.next (by omega) (by omega)))
      · have hjS : ¬ S j := fun h' => hS (hcl k j hk hj h' h)
        obtain ⟨i, hi, hij⟩ := C.anc j hj _ h
        have := C.inj i k (by omega) hk hij
        subst this
        rw [C.ff0 i (by omega) (fun m hm e => by
          have := C.dsts m j (by omega) hj (by omega) t e
          exact this hd)]
        refine (I.fr0 t (fun m hm hSm e => ?_)).mono (Ren.cut_mono (.refl _) (C.next (by omega) (by omega)))
        by_cases e' : m = j
        · subst e'; exact hjS hSm
        · exact C.dsts m j hm hj e' t e hd
    · rw [C.ff0 k (by omega) (fun m hm e => hw ⟨m, by omega, by omega, e⟩)]
      refine (I.fr0 t (fun m hm hSm e => ?_)).mono (Ren.cut_mono (.refl _) (C.next (by omega) (by omega)))
      by_cases e' : m = k
      · subst e'; exact hS hSm
      · exact hw ⟨m, hm, e', e⟩
  have hF : FR σ (ρ.cut (HH k).next.toNat) (keepF (FF k) ((ops.getD (o k) default).looksAt ops)) (keepA a ((ops.getD (o k) default).looksAt ops)) := by
    intro t
    rw [keepF_get, keepA_get]
    by_cases h : t ∈ (ops.getD (o k) default).looksAt ops
    · rw [if_pos h, if_pos h]; exact hlk t h
    · rw [if_neg h, if_neg h]; exact VR.undef _ _
  have hev : ∀ x ∈ (XOf p nt ops (o k)).op.opds, ev (FF k) x = ev (keepF (FF k) ((ops.getD (o k) default).looksAt ops)) x := by
    intro x hx
    cases x with
    | c v => rfl
    | t q =>
      obtain ⟨t, ht, rfl⟩ := C.opds k hk q hx
      simp only [ev]
      rw [keepF_get, if_pos ht]
  have hex : execOp a.eval (ops.getD (o k) default) = execOp (keepA a ((ops.getD (o k) default).looksAt ops)).eval (ops.getD (o k) default) := by
    refine execOp_congr _ (not_select s1) fun x hx => ?_
    cases x with
    | tmp t =>
      have ht : t ∈ (ops.getD (o k) default).looksAt ops := by
        unfold Oper.looksAt
        refine List.mem_append_left _ (List.mem_filterMap.2 ⟨.tmp t, by simpa using hx, rfl⟩)
      have := keepA_get a _ t ▸ if_pos ht
      simp only [Act.eval]
      rw [keepA_get, if_pos ht]
    | _ => rfl
  have hwn : want (keepF (FF k) ((ops.getD (o k) default).looksAt ops)) (XOf p nt ops (o k)).g = want (FF k) (XOf p nt ops (o k)).g :=
    want_congr s4 fun t ht => by rw [keepF_get, if_pos ht]
  have hwd : Region.wanted (ops.getD (o k) default) (yielded ops a.tmps) = Region.wanted (ops.getD (o k) default) (yielded ops (keepA a ((ops.getD (o k) default).looksAt ops)).tmps) :=
    wanted_congr fun t ht => (keepA_get? a _ t ht).symm
  unfold wpOp
  rw [hop]
  simp only
  rcases C.step k hk with ⟨h1, h2⟩ | ⟨h1, h2, h3⟩
  · rw [hwd, want_sound hF s4 (hwn.trans h1), if_pos rfl]
    refine .inl ?_
    rw [opX_congr hev] at h2
    cases hw : (XOf p nt ops (o k)).op.isW with
    | true =>
      have hck := hck (hW0 hw)
      have hall : ∀ j, j < k → S j ∨ (XOf p nt ops (o j)).op.kind = 0 := fun j hj => (C.wall k hk hw j hj).imp (hA j (by omega)) id
      obtain ⟨g1, g2, g3⟩ := I.absorb C k hck (by omega) (fun i q1 q2 => by
        rcases hall i q2 with h | h
        · exact I.noW i q1 (by omega) h
        · exact notW_of0 h) (fun i q1 q2 => (hall i q2).imp id (C.step0 (by omega)))
      exact opX_sound hs hC s1 h2 hF g1 hex I.dfr fun x w' ρ1 a1 hv hH' hS' ht hd1 => hK _ _ _ _ ((I.act ht hd1).advW C hk hck hS hw hall hH' hS' hv)
    | false =>
      have hpl : cPlain p (ops.getD (o k) default) = some (XOf p nt ops (o k)).op := by
        have s1' := s1
        unfold cOp at s1'
        split at s1'
        · split at s1'
          · exact (Option.filter_eq_some_iff.1 s1').1
          · unfold cCall at s1'
            exfalso
            revert hw
            split at s1'
            · split at s1'
              · split at s1'
                · cases s1'
                · simp only [Option.map_eq_some_iff] at s1'
                  obtain ⟨l, -, e⟩ := s1'
                  rw [← e]; simp [XO.isW, XO.kind]
              · cases s1'
            · split at s1'
              · simp at s1'; rw [← s1']; simp [XO.isW, XO.kind]
              · cases s1'
            · split at s1'
              · simp at s1'; rw [← s1']; simp [XO.isW, XO.kind]
              · cases s1'
            · cases s1'
        · unfold cDefer at s1'
          exfalso
          revert hw
          split at s1'
          · split at s1'
            · simp at s1'; rw [← s1']; simp [XO.isW, XO.kind]
            · cases s1'
          · cases s1'
        · exact (Option.filter_eq_some_iff.1 s1').1
      have quiet : ∀ G : Hp, HR σ (ρ.cut (HH k).next.toNat) G w → ∀ G', doX (XOf p nt ops (o k)).op (keepF (FF k) ((ops.getD (o k) default).looksAt ops)) G = some (vv k, G') → (XOf p nt ops (o k)).op.kind ≤ 1 → HH (k + 1) = HH k →
          Oper.wp p (ops.getD (o k) default) a w K Q := by
        intro G hG G' hd hk1 hHk
        obtain ⟨x, hr, hv, -, -⟩ := doX_quiet hs hC.1.prog hpl hF hG hd hk1
        unfold Oper.wp
        rw [hex, hr]
        exact hK _ _ _ _ (I.advQ C hk hS hw hHk hv)
      rcases kind_of_notW hw with h | h | h
      · rw [opX_plain (by omega)] at h2
        obtain ⟨e1, e2⟩ := doX_P h h2
        exact quiet ⟨.lf, (HH k).next⟩ (.bare _) _ (e2 _) (by omega) e1
      · have h' : (XOf p nt ops (o k)).op.kind = 1 := by simpa [XO.isQ, beq_iff, eq_comm] using h
        have hck := hck (by omega)
        rw [opX_plain (by omega)] at h2
        obtain ⟨e1, -⟩ := doX_Q (t := (HH k).t) (m := (HH k).next) h' h2
        rcases C.q k hk h h1 c hck I.base (fun j q1 q2 q3 q4 => by
          have := I.noW j q1 (by omega) (hA j (by omega) q4)
          rw [q3] at this; cases this) with hn | ⟨m, hm⟩
        · obtain ⟨g1, -, -⟩ := I.absorb C k hck (by omega) hn (fun i q1 q2 => by
            rcases C.stepN (by omega : i < ops.size) (hn i q1 q2) with e | ⟨e, -⟩
            · exact .inr e
            · exact .inl (hA i (by omega) (C.qn k hk h c hck hn i q1 q2 e)))
          exact quiet _ g1 _ h2 (by omega) e1
        · rw [doX_congr hev] at hm
          obtain ⟨-, e3⟩ := doX_Q (t := (HH c).t) (m := (HH c).next) h' hm
          exact quiet _ (I.hr.widen (C.next (by omega) hck)) _ (e3 _) (by omega) e1
      · have h' : (XOf p nt ops (o k)).op.kind = 2 := by simpa [XO.isN, beq_iff, eq_comm] using h
        have hck := hck (by omega)
        rw [opX_plain (by omega)] at h2
        obtain ⟨y, hy, e2⟩ := doX_N h' h2
        obtain ⟨x, w', ρ1, hr, hv, hH', hst⟩ := doX_sound hs hC.1.prog hpl hF (HR.bare (ρ := ρ) (w := w) (HH k).next) (e2 ⟨.lf, (HH k).next⟩ rfl)
        have hget : (Hp.new ⟨.lf, (HH k).next⟩ y).get (HH k).next = some y := by rw [Hp.get_new]; exact if_pos rfl
        obtain ⟨b, hb, hblk⟩ := hH'.blk _ _ hget
        have hnx : (HH (k + 1)).next.toNat = (HH k).next.toNat + 1 := by rw [hy, new_next]
        have hbr : w.heap.size ≤ b.r := by
          rcases hst.own _ _ _ hget hb with h | ⟨q, z, d, q1, -⟩
          · exact h
          · simp [Hp.get] at q1
        have gr : Grew w w' := ⟨hst.os, hst.tape, hst.output, hst.size, fun r hr => hst.frame r hr (fun q z d q1 => by simp [Hp.get] at q1)⟩
        have hle : ρ1.le ((ρ.add (HH k).next b).cut (HH (k + 1)).next.toNat) := by
          intro q d hq
          have hfr := hH'.fresh q d hq
          have e3 : (Hp.new ⟨.lf, (HH k).next⟩ y).next.toNat = (HH k).next.toNat + 1 := new_next _ _
          refine Ren.cut_some.2 ⟨by omega, ?_⟩
          unfold Ren.add
          rcases hst.old q d hq with h | ⟨q1, q2⟩
          · obtain ⟨r1, r2⟩ := Ren.cut_some.1 h
            rw [if_neg (by rintro rfl; omega)]; exact r2
          · have : q = (HH k).next := P.toNat_inj (by simp only at q1; omega)
            subst this
            rw [if_pos rfl]; rw [hb] at hq; exact hq
        have fin := I.advN C hk hck hS hw hy gr hbr (hblk.mono hle rfl) (hv.mono hle)
        unfold Oper.wp
        rw [hex]
        rcases hr with hr | ⟨hr, rfl⟩
        · rw [hr]; exact hK _ _ _ _ fin
        · rw [hr]; exact hK _ _ _ _ fin
  · rw [hwd, want_sound hF s4 (hwn.trans h1), if_neg (by simp)]
    have hu : VR σ (ρ.cut (HH k).next.toNat) (vv k) undef := by rw [h2]; exact VR.undef _ _
    cases hw : (XOf p nt ops (o k)).op.isW with
    | true =>
      have hck := hck (hW0 hw)
      have hall : ∀ j, j < k → S j ∨ (XOf p nt ops (o j)).op.kind = 0 := fun j hj => (C.wall k hk hw j hj).imp (hA j (by omega)) id
      obtain ⟨g1, g2, g3⟩ := I.absorb C k hck (by omega) (fun i q1 q2 => by
        rcases hall i q2 with h | h
        · exact I.noW i q1 (by omega) h
        · exact notW_of0 h) (fun i q1 q2 => (hall i q2).imp id (C.step0 (by omega)))
      exact hK _ _ _ _ (I.advW C hk hck hS hw hall (ρ1 := ρ.cut (HH k).next.toNat) (by rw [h3]; exact g1) (by rw [h3]; exact .refl _ _ _) hu)
    | false => exact hK _ _ _ _ (I.advQ C hk hS hw h3 hu)
end
end Go.Proofs.YtafignheedbnbaaGreatDoor.X
namespace Go.Proofs.YtafignheedbnbaaGreatDoor.X
open Go
set_option linter.unusedVariables false
set_option linter.unusedSimpArgs false
section
variable {p : Program} {σ : Sg} {E : Env} {run : Run} {nt : Nat} {ops : Array Oper} {o : Nat → Nat} {A : Nat → List Nat} {FF : Nat → Fr} {HH : Nat → Hp} {vv : Nat → V} {exc : Nat → Nat → Prop}
variable {ρ0 ρ : Ren} {w0 w w' : World} {S : Nat → Prop} {c k : Nat} {a : Act} {x : Value}

theorem Inv.done (C : Cn p E run nt ops o A FF HH vv exc) (I : Inv σ p nt ops o FF HH vv ρ0 w0 S c ρ a w) (hall : ∀ k, k < ops.size → S k) :
    ∃ ρ', FR σ ρ' (FF ops.size) a ∧ HR σ ρ' (HH ops.size) w ∧ Stp ρ0 (HH 0) w0 ρ' (HH ops.size) w := by
  obtain ⟨g1, g2, -⟩ := I.absorb C ops.size I.cle (Nat.le_refl _) (fun i h1 h2 => I.noW i h1 h2 (hall i h2)) (fun i h1 h2 => .inl (hall i h2))
  refine ⟨_, fun t => ?_, g1, g2⟩
  by_cases h : ∃ j, j < ops.size ∧ (ops.getD (o j) default).dst = some t
  · obtain ⟨j, hj, hd⟩ := h
    rw [C.ff1 hd ops.size (Nat.le_refl _) hj]
    exact (I.fr1 j hj (hall j hj) t hd).mono (Ren.cut_mono (.refl _) (C.next (Nat.le_refl _) hj))
  · rw [C.ff0 ops.size (Nat.le_refl _) (fun j hj e => h ⟨j, hj, e⟩)]
    exact (I.fr0 t (fun j hj _ e => h ⟨j, hj, e⟩)).mono (Ren.cut_mono (.refl _) (C.next (Nat.le_refl _) (Nat.zero_le _)))
theorem cnt_lt {f g : Nat → Bool} (h : ∀ x, g x = true → f x = true) : ∀ l : List Nat, (l.filter g).length ≤ (l.filter f).length ∧ ∀ x ∈ l, f x = true → g x = false → (l.filter g).length < (l.filter f).length
  | [] => ⟨Nat.le_refl _, fun x hx => by simp at hx⟩
  | y :: r => by
    obtain ⟨h1, h2⟩ := cnt_lt h r
    simp only [List.filter_cons]
    refine ⟨?_, fun x hx hf hg => ?_⟩
    · by_cases e : g y = true
      · rw [if_pos e, if_pos (h y e)]; simpa using h1
      · rw [if_neg e]; split
        · simp; omega
        · exact h1
    · rcases List.mem_cons.1 hx with rfl | hx
      · rw [if_neg (by rw [hg]; simp), if_pos hf]; simp; omega
      · have := h2 x hx hf hg
        by_cases e : g y = true
        · rw [if_pos e, if_pos (h y e)]; simpa using this
        · rw [if_neg e]; split
          · simp; omega
          · exact this
def unl (n : Nat) (listed : Array Bool) : Nat := ((List.range n).filter fun i => !listed.getD i true).length

theorem ready_iff {listed : Array Bool} {i : Nat} : i ∈ Region.ready .any ops listed ↔ i < ops.size ∧ listed.getD i true = false ∧ ∀ e ∈ (ops.getD i default).after, Region.binds .any e = true → listed.getD e.on false = true := by
  unfold Region.ready
  rw [List.mem_filter, List.mem_range]
  constructor
  · rintro ⟨h1, h2⟩
    refine ⟨h1, ?_⟩
    simp only [Array.getElem?_eq_getElem h1, Option.map_some, Option.getD_some, Bool.and_eq_true, Bool.not_eq_true', Array.all_eq_true', Bool.or_eq_true] at h2
    refine ⟨h2.1, fun e he hb => ?_⟩
    simp [h1] at he
    rcases h2.2 e he with h | h
    · rw [hb] at h; simp at h
    · exact h
  · rintro ⟨h1, h2, h3⟩
    refine ⟨h1, ?_⟩
    simp only [Array.getElem?_eq_getElem h1, Option.map_some, Option.getD_some, Bool.and_eq_true, Bool.not_eq_true', Array.all_eq_true', Bool.or_eq_true]
    refine ⟨h2, fun e he => ?_⟩
    by_cases hb : Region.binds .any e = true
    · exact .inr (h3 e (by simpa [h1] using he) hb)
    · exact .inl (by simpa using hb)
theorem getT {listed : Array Bool} {i : Nat} (h1 : listed.size = ops.size) (h2 : i < ops.size) : listed.getD i true = listed.getD i false := by
  have : i < listed.size := by omega
  simp [this]
/-- which are done -/
structure Lst (ops : Array Oper) (o : Nat → Nat) (A : Nat → List Nat) (S : Nat → Prop) (listed : Array Bool) : Prop where
  size : listed.size = ops.size
  iff : ∀ j, j < ops.size → (S j ↔ listed.getD (o j) false = true)
  cl : ∀ i j, i < ops.size → j < ops.size → S j → o i ∈ A (o j) → S i
theorem Lst.rdy (C : Cn p E run nt ops o A FF HH vv exc) {listed : Array Bool} (L : Lst ops o A S listed) (hr : Region.ready .any ops listed = []) : ∀ k, k < ops.size → S k := by
  intro k
  induction k using Nat.strongRecOn with
  | ind k ih =>
    intro hk
    refine Classical.byContradiction fun hn => ?_
    have : o k ∈ Region.ready .any ops listed := by
      rw [ready_iff]
      refine ⟨C.lt k hk, ?_, fun e he hb => ?_⟩
      · rw [getT L.size (C.lt k hk)]
        simpa using fun h => hn ((L.iff k hk).2 h)
      · obtain ⟨j, hj, e'⟩ := C.anc k hk _ (C.bind k hk e he hb)
        rw [← e']
        exact (L.iff j (by omega)).1 (ih j hj (by omega))
    rw [hr] at this; simp at this
theorem Lst.anc (C : Cn p E run nt ops o A FF HH vv exc) {listed : Array Bool} (L : Lst ops o A S listed) (hk : k < ops.size) (hi : o k ∈ Region.ready .any ops listed) (hexc : ∀ x, exc (o k) x → ∃ j, j < ops.size ∧ o j = x ∧ S j) :
    ¬ S k ∧ ∀ j, j < ops.size → o j ∈ A (o k) → S j := by
  obtain ⟨hin, hi2, hi3⟩ := ready_iff.1 hi
  refine ⟨fun h => ?_, fun j hj hjA => ?_⟩
  · have := (L.iff k hk).1 h
    rw [← getT L.size hin, hi2] at this; cases this
  · rcases C.ancE k hk _ hjA with h | ⟨e, he, hb, h⟩
    · obtain ⟨m, hm, e', hm'⟩ := hexc _ h
      have := C.inj m j hm hj e'
      subst this; exact hm'
    · have hl := hi3 e he hb
      rcases h with h | h
      · rw [h] at hl; exact (L.iff j hj).2 hl
      · obtain ⟨m, hm, e'⟩ := C.anc k hk _ (C.bind k hk e he hb)
        rw [← e'] at hl h
        exact L.cl j m hj (by omega) ((L.iff m (by omega)).2 hl) h
theorem Lst.add (C : Cn p E run nt ops o A FF HH vv exc) {listed : Array Bool} (L : Lst ops o A S listed) (hk : k < ops.size) (hA : ∀ j, j < ops.size → o j ∈ A (o k) → S j) :
    Lst ops o A (fun j => S j ∨ j = k) (listed.setIfInBounds (o k) true) := by
  refine ⟨by simpa using L.size, fun j hj => ?_, fun i j hi hj hSj hm => ?_⟩
  · by_cases e : j = k
    · subst e
      have := L.size
      have : o j < listed.size := by have := C.lt j hk; omega
      simp [this]
    · have hne : o k ≠ o j := fun e' => e (C.inj j k hj hk e'.symm)
      simp only [e, or_false]
      rw [L.iff j hj]
      simp [Array.getElem?_setIfInBounds_ne hne]
  · rcases hSj with hSj | rfl
    · exact .inl (L.cl i j hi hj hSj hm)
    · exact .inl (hA i hi hm)
theorem unl_add {listed : Array Bool} {i fuel : Nat} (hsz : listed.size = ops.size) (hi : i ∈ Region.ready .any ops listed) (hf : unl ops.size listed ≤ fuel + 1) : unl ops.size (listed.setIfInBounds i true) ≤ fuel := by
  obtain ⟨hin, hi2, -⟩ := ready_iff.1 hi
  have hlt := (cnt_lt (f := fun i => !listed.getD i true) (g := fun j => !(listed.setIfInBounds i true).getD j true) (fun x hx => by
    by_cases e : i = x
    · subst e
      have : i < listed.size := by omega
      simp [this] at hx
    · simpa [Array.getElem?_setIfInBounds_ne e] using hx) (List.range ops.size)).2 i (List.mem_range.2 hin) (by simp only [hi2]; rfl) (by
      have : i < listed.size := by omega
      simp [this])
  unfold unl at hf ⊢
  omega
theorem unl_zero {listed : Array Bool} (hf : unl ops.size listed ≤ 0) : Region.ready .any ops listed = [] := by
  have hempty : (List.range ops.size).filter (fun i => !listed.getD i true) = [] := List.length_eq_zero_iff.1 (by unfold unl at hf; omega)
  rw [List.eq_nil_iff_forall_not_mem]
  intro i hi
  obtain ⟨h1, h2, -⟩ := ready_iff.1 hi
  have : i ∈ (List.range ops.size).filter (fun i => !listed.getD i true) := List.mem_filter.2 ⟨List.mem_range.2 h1, by rw [h2]; rfl⟩
  rw [hempty] at this; simp at this

theorem any_order (hs : SgOk σ) (hC : CallOk p σ E run) (C : Cn p E run nt ops o A FF HH vv exc) {Q : Exit → Act → World → Prop}
    (hQ : ∀ a w ρ, FR σ ρ (FF ops.size) a → nt ≤ a.tmps.size → DfOk p a.defers → HR σ ρ (HH ops.size) w → Stp ρ0 (HH 0) w0 ρ (HH ops.size) w → Q .normal a w) :
    ∀ (fuel : Nat) (listed : Array Bool) (a : Act) (w : World) (S : Nat → Prop) (c : Nat) (ρ : Ren), Inv σ p nt ops o FF HH vv ρ0 w0 S c ρ a w → Lst ops o A S listed → (∀ i x, exc i x → ∃ j, j < ops.size ∧ o j = x ∧ S j) → unl ops.size listed ≤ fuel → wpAny p .any ops Q fuel listed a w := by
  have fin : ∀ (a : Act) (w : World) (S : Nat → Prop) (c : Nat) (ρ : Ren), Inv σ p nt ops o FF HH vv ρ0 w0 S c ρ a w → (∀ k, k < ops.size → S k) → Q .normal a w := by
    intro a w S c ρ I hall
    obtain ⟨ρ', h1, h2, h3⟩ := I.done C hall
    exact hQ a w ρ' h1 I.siz I.dfr h2 h3
  intro fuel
  induction fuel with
  | zero =>
    intro listed a w S c ρ I L hexc hf
    have hr := unl_zero hf
    exact ⟨hr, fin a w S c ρ I (L.rdy C hr)⟩
  | succ fuel ih =>
    intro listed a w S c ρ I L hexc hf
    refine ⟨fun hr => fin a w S c ρ I (L.rdy C hr), fun i hi => ?_⟩
    obtain ⟨k, hk, rfl⟩ := C.surj i (ready_iff.1 hi).1
    obtain ⟨hnS, hA⟩ := L.anc C hk hi (fun x => hexc _ x)
    exact I.step hs hC C hk hnS hA L.cl fun c' ρ' a' w' I' => ih _ a' w' _ c' ρ' I' (L.add C hk hA) (fun i x h => let ⟨j, h1, h2, h3⟩ := hexc i x h; ⟨j, h1, h2, .inl h3⟩) (unl_add L.size hi hf)
end
end Go.Proofs.YtafignheedbnbaaGreatDoor.X
