/- A verified executor, part XDr1: laws of the executor; no condition. -/
import Derived.Test.YtfhjamimbgdfpaaGreatXDrA
import Derived.Test.YtfhjamimbgdfpaaGreatXSound
import Derived.Orders
namespace Go.Proofs.YtfhjamimbgdfpaaGreat.X
open Go
set_option linter.unusedVariables false
set_option linter.unusedSimpArgs false

/-! ## Cuts -/
def Ren.cut (ρ : Ren) (n : Nat) : Ren := fun p => if p.toNat < n then ρ p else none
theorem Ren.cut_some {ρ : Ren} {n : Nat} {p : P} {b : RB} : ρ.cut n p = some b ↔ p.toNat < n ∧ ρ p = some b := by
  unfold Ren.cut
  by_cases h : p.toNat < n
  · rw [if_pos h]; exact ⟨fun e => ⟨h, e⟩, fun e => e.2⟩
  · rw [if_neg h]; exact ⟨fun e => (by cases e), fun e => absurd e.1 h⟩
theorem Ren.cut_le (ρ : Ren) (n : Nat) : (ρ.cut n).le ρ := fun p b h => (Ren.cut_some.1 h).2
theorem Ren.cut_mono {ρ ρ' : Ren} (h : ρ.le ρ') {m n : Nat} (hm : m ≤ n) : (ρ.cut m).le (ρ'.cut n) := fun p b hp => by
  obtain ⟨h1, h2⟩ := Ren.cut_some.1 hp
  exact Ren.cut_some.2 ⟨by omega, h _ _ h2⟩
theorem Ren.add_cut {ρ : Ren} {q : P} {b : RB} {n : Nat} (h : n ≤ q.toNat) : (ρ.add q b).cut n = ρ.cut n := by
  funext p
  unfold Ren.cut Ren.add
  split
  · rw [if_neg (by rintro rfl; omega)]
  · rfl
/-- below n as the one says, from there on as the other -/
def Ren.over (ρ1 ρ : Ren) (n : Nat) : Ren := fun p => if p.toNat < n then ρ1 p else ρ p
theorem Ren.over_cut {ρ1 ρ : Ren} {n : Nat} (h : ∀ p b, ρ1 p = some b → p.toNat < n) : (Ren.over ρ1 ρ n).cut n = ρ1 := by
  funext p
  unfold Ren.cut Ren.over
  split
  · rfl
  · cases e : ρ1 p with
    | none => rfl
    | some b => exact absurd (h _ _ e) (by assumption)
/-- memory that only grew -/
structure Grew (w w' : World) : Prop where
  os : w'.os = w.os
  tape : w'.tape = w.tape
  output : w'.output = w.output
  size : w.heap.size ≤ w'.heap.size
  same : ∀ r, r < w.heap.size → w'.heap[r]? = w.heap[r]?
theorem Grew.refl (w : World) : Grew w w := ⟨rfl, rfl, rfl, Nat.le_refl _, fun _ _ => rfl⟩
theorem HR.keep {σ : Sg} {ρ : Ren} {H : Hp} {w w' : World} (h : HR σ ρ H w) (g : Grew w w') : HR σ ρ H w' :=
  ⟨h.inj, fun p x hp => let ⟨b, hb, hr⟩ := h.blk p x hp; ⟨b, hb, hr.mono (.refl _) (g.same _ hr.lt)⟩, h.fresh⟩
theorem Stp.keep {ρ0 ρ : Ren} {H0 H : Hp} {w0 w w' : World} (h : Stp ρ0 H0 w0 ρ H w) (g : Grew w w') : Stp ρ0 H0 w0 ρ H w' where
  os := g.os.trans h.os
  tape := g.tape.trans h.tape
  output := g.output.trans h.output
  size := Nat.le_trans h.size g.size
  le := h.le
  next := h.next
  old := h.old
  own := h.own
  frame := fun r hr hf => (g.same r (Nat.lt_of_lt_of_le hr h.size)).trans (h.frame r hr hf)

/-! ## A region in one order -/
abbrev XOf (p : Program) (nt : Nat) (ops : Array Oper) (i : Nat) : XOp := cOper p nt ops (ops.getD i default)
/-- a run in one order, by the place in it -/
structure Cn (p : Program) (E : Env) (run : Run) (nt : Nat) (ops : Array Oper) (o : Nat → Nat) (A : Nat → List Nat) (FF : Nat → Fr) (HH : Nat → Hp) (vv : Nat → V) (exc : Nat → Nat → Prop) : Prop where
  lt : ∀ k, k < ops.size → o k < ops.size
  surj : ∀ i, i < ops.size → ∃ k, k < ops.size ∧ o k = i
  inj : ∀ j k, j < ops.size → k < ops.size → o j = o k → j = k
  bind : ∀ k, k < ops.size → ∀ e ∈ (ops.getD (o k) default).after, Region.binds .any e = true → e.on ∈ A (o k)
  anc : ∀ k, k < ops.size → ∀ x ∈ A (o k), ∃ j, j < k ∧ o j = x
  ancE : ∀ k, k < ops.size → ∀ x ∈ A (o k), exc (o k) x ∨ ∃ e ∈ (ops.getD (o k) default).after, Region.binds .any e = true ∧ (e.on = x ∨ x ∈ A e.on)
  wall : ∀ k, k < ops.size → (XOf p nt ops (o k)).op.isW = true → ∀ j, j < k → o j ∈ A (o k) ∨ (XOf p nt ops (o j)).op.kind = 0
  looks : ∀ j k, j < ops.size → k < ops.size → j ≠ k → ∀ d, (ops.getD (o j) default).dst = some d → d ∈ (ops.getD (o k) default).looksAt ops → o j ∈ A (o k) ∨ o k ∈ A (o j)
  dsts : ∀ j k, j < ops.size → k < ops.size → j ≠ k → ∀ d, (ops.getD (o j) default).dst = some d → (ops.getD (o k) default).dst ≠ some d
  opds : ∀ k, k < ops.size → ∀ q, Opd.t q ∈ (XOf p nt ops (o k)).op.opds → ∃ t ∈ (ops.getD (o k) default).looksAt ops, P.of t = q
  step : ∀ k, k < ops.size → (want (FF k) (XOf p nt ops (o k)).g = some true ∧ opX E run (XOf p nt ops (o k)).op (FF k) (HH k) = some (vv k, HH (k + 1))) ∨ (want (FF k) (XOf p nt ops (o k)).g = some false ∧ vv k = V.undef ∧ HH (k + 1) = HH k)
  fs : ∀ k, k < ops.size → FF (k + 1) = putD (FF k) (XOf p nt ops (o k)).dst (vv k)
  mono : ∀ k, k < ops.size → (XOf p nt ops (o k)).op.isW = true → (HH k).next.toNat ≤ (HH (k + 1)).next.toNat
  q : ∀ k, k < ops.size → (XOf p nt ops (o k)).op.isQ = true → want (FF k) (XOf p nt ops (o k)).g = some true → ∀ c, c ≤ k → (c = 0 ∨ ∃ b, c = b + 1 ∧ (XOf p nt ops (o b)).op.isW = true) →
    (∀ j, c ≤ j → j < k → (XOf p nt ops (o j)).op.isW = true → o j ∉ A (o k)) →
    (∀ j, c ≤ j → j < k → (XOf p nt ops (o j)).op.isW = false) ∨ ∃ m, doX (XOf p nt ops (o k)).op (FF k) (HH c) = some (vv k, m)
  qn : ∀ k, k < ops.size → (XOf p nt ops (o k)).op.isQ = true → ∀ c, c ≤ k → (∀ j, c ≤ j → j < k → (XOf p nt ops (o j)).op.isW = false) → ∀ j, c ≤ j → j < k → (XOf p nt ops (o j)).op.isN = true → o j ∈ A (o k)

section
variable {p : Program} {σ : Sg} {E : Env} {run : Run} {nt : Nat} {ops : Array Oper} {o : Nat → Nat} {A : Nat → List Nat} {FF : Nat → Fr} {HH : Nat → Hp} {vv : Nat → V} {exc : Nat → Nat → Prop}

theorem Cn.spec (C : Cn p E run nt ops o A FF HH vv exc) {k : Nat} (hk : k < ops.size) : cOp p (ops.getD (o k) default) = some (XOf p nt ops (o k)).op ∧ (∀ d, (ops.getD (o k) default).dst = some d → d < nt) ∧ (XOf p nt ops (o k)).dst = (ops.getD (o k) default).dst.map P.of ∧ gOf ops (ops.getD (o k) default) = some (XOf p nt ops (o k)).g := by
  apply cOper_spec
  rintro why hb
  rcases C.step k hk with ⟨h1, h2⟩ | ⟨h1, h2⟩
  · simp only [XOf] at h2; rw [hb] at h2; simp [opX, doX] at h2
  · rw [show (XOf p nt ops (o k)).g = none from cOper_bad hb] at h1
    simp [want] at h1
theorem notW_of0 {x : XO} (h : x.kind = 0) : x.isW = false := by unfold XO.isW; rw [h]; rfl
theorem notN_of0 {x : XO} (h : x.kind = 0) : x.isN = false := by unfold XO.isN; rw [h]; rfl
theorem kind_of_notW {x : XO} (h : x.isW = false) : x.kind = 0 ∨ x.isQ = true ∨ x.isN = true := by
  simp only [XO.isW, XO.isQ, XO.isN, beq_iff, ble_iff, decide_eq_true_eq, decide_eq_false_iff_not] at h ⊢
  omega
theorem Cn.stepN (C : Cn p E run nt ops o A FF HH vv exc) {k : Nat} (hk : k < ops.size) (hw : (XOf p nt ops (o k)).op.isW = false) : HH (k + 1) = HH k ∨ ((XOf p nt ops (o k)).op.isN = true ∧ ∃ x, HH (k + 1) = (HH k).new x) := by
  rcases C.step k hk with ⟨h1, h2⟩ | ⟨h1, h2, h3⟩
  · rcases kind_of_notW hw with h | h | h
    · rw [opX_plain (by omega)] at h2
      exact .inl (doX_P h h2).1
    · have h' : (XOf p nt ops (o k)).op.kind = 1 := by simpa [XO.isQ, beq_iff, eq_comm] using h
      rw [opX_plain (by omega)] at h2
      exact .inl (doX_Q (t := (HH k).t) (m := (HH k).next) h' h2).1
    · have h' : (XOf p nt ops (o k)).op.kind = 2 := by simpa [XO.isN, beq_iff, eq_comm] using h
      rw [opX_plain (by omega)] at h2
      obtain ⟨x, hx, -⟩ := doX_N h' h2
      exact .inr ⟨h, x, hx⟩
  · exact .inl h3
theorem Cn.step0 (C : Cn p E run nt ops o A FF HH vv exc) {k : Nat} (hk : k < ops.size) (h0 : (XOf p nt ops (o k)).op.kind = 0) : HH (k + 1) = HH k := by
  rcases C.stepN hk (notW_of0 h0) with h | ⟨h, -⟩
  · exact h
  · rw [notN_of0 h0] at h; cases h
theorem new_next (H : Hp) (x : Blk) : (H.new x).next.toNat = H.next.toNat + 1 := P.toNat_succ _
theorem Cn.next1 (C : Cn p E run nt ops o A FF HH vv exc) {k : Nat} (hk : k < ops.size) : (HH k).next.toNat ≤ (HH (k + 1)).next.toNat := by
  cases hw : (XOf p nt ops (o k)).op.isW with
  | true => exact C.mono k hk hw
  | false =>
    rcases C.stepN hk hw with h | ⟨-, x, h⟩
    · rw [h]; exact Nat.le_refl _
    · rw [h, new_next]; omega
theorem Cn.next (C : Cn p E run nt ops o A FF HH vv exc) {j k : Nat} (hk : k ≤ ops.size) (h : j ≤ k) : (HH j).next.toNat ≤ (HH k).next.toNat := by
  induction k with
  | zero => have : j = 0 := by omega
            subst this; exact Nat.le_refl _
  | succ k ih =>
    by_cases e : j = k + 1
    · subst e; exact Nat.le_refl _
    · exact Nat.le_trans (ih (by omega) (by omega)) (C.next1 (by omega))
/-- two that make memory give their blocks two names -/
theorem Cn.two (C : Cn p E run nt ops o A FF HH vv exc) {i j : Nat} {x y : Blk} (hi : i < ops.size) (hj : j < ops.size) (h1 : HH (i + 1) = (HH i).new x) (h2 : HH (j + 1) = (HH j).new y) (h : (HH i).next.toNat = (HH j).next.toNat) : i = j := by
  have e1 := new_next (HH i) x
  have e2 := new_next (HH j) y
  rw [← h1] at e1
  rw [← h2] at e2
  rcases Nat.lt_trichotomy i j with c | c | c
  · have := C.next (j := i + 1) (k := j) (by omega) (by omega); omega
  · exact c
  · have := C.next (j := j + 1) (k := i) (by omega) (by omega); omega
theorem Cn.ff1 (C : Cn p E run nt ops o A FF HH vv exc) {t : Nat} {j : Nat} (hd : (ops.getD (o j) default).dst = some t) : ∀ k, k ≤ ops.size → j < k → (FF k).get (P.of t) = some (vv j) := by
  intro k
  induction k with
  | zero => omega
  | succ k ih =>
    intro hk hj
    rw [C.fs k (by omega), (C.spec (by omega : k < ops.size)).2.2.1]
    by_cases e : j = k
    · subst e
      rw [hd]; simp only [Option.map_some, putD, Tr.get_put_same]
    · have := ih (by omega) (by omega)
      cases h : (ops.getD (o k) default).dst with
      | none => simpa [putD] using this
      | some d =>
        have hne : d ≠ t := fun e' => C.dsts j k (by omega) (by omega) e t hd (e' ▸ h)
        simp only [Option.map_some, putD]
        rw [Tr.get_put_ne _ _ (fun e' => hne (P.of_inj e').symm)]
        exact this
theorem Cn.ff0 (C : Cn p E run nt ops o A FF HH vv exc) {t : Nat} : ∀ k, k ≤ ops.size → (∀ j, j < k → (ops.getD (o j) default).dst ≠ some t) → (FF k).get (P.of t) = (FF 0).get (P.of t) := by
  intro k
  induction k with
  | zero => intro _ _; rfl
  | succ k ih =>
    intro hk hd
    rw [C.fs k (by omega), (C.spec (by omega : k < ops.size)).2.2.1]
    have := ih (by omega) (fun j hj => hd j (by omega))
    cases h : (ops.getD (o k) default).dst with
    | none => simpa [putD] using this
    | some d =>
      have hne : d ≠ t := fun e' => hd k (by omega) (e' ▸ h)
      simp only [Option.map_some, putD]
      rw [Tr.get_put_ne _ _ (fun e' => hne (P.of_inj e').symm)]
      exact this

/-- what holds when the operations of S are done -/
structure Inv (σ : Sg) (p : Program) (nt : Nat) (ops : Array Oper) (o : Nat → Nat) (FF : Nat → Fr) (HH : Nat → Hp) (vv : Nat → V) (ρ0 : Ren) (w0 : World) (S : Nat → Prop) (c : Nat) (ρ : Ren) (a : Act) (w : World) : Prop where
  cle : c ≤ ops.size
  base : c = 0 ∨ ∃ b, c = b + 1 ∧ (XOf p nt ops (o b)).op.isW = true
  low : ∀ k, k < c → S k ∨ (XOf p nt ops (o k)).op.kind = 0
  noW : ∀ k, c ≤ k → k < ops.size → S k → (XOf p nt ops (o k)).op.isW = false
  hr : HR σ (ρ.cut (HH c).next.toNat) (HH c) w
  st : Stp ρ0 (HH 0) w0 (ρ.cut (HH c).next.toNat) (HH c) w
  ex : ∀ k x, c ≤ k → k < ops.size → S k → HH (k + 1) = (HH k).new x → ∃ b, ρ (HH k).next = some b ∧ BlkR σ (ρ.cut (HH (k + 1)).next.toNat) w b x ∧ w0.heap.size ≤ b.r
  exd : ∀ k x b, c ≤ k → k < ops.size → S k → HH (k + 1) = (HH k).new x → ρ (HH k).next = some b → ∀ q y d, (HH c).get q = some y → ρ q = some d → d.r ≠ b.r
  exx : ∀ j k x y b d, c ≤ j → j < ops.size → S j → HH (j + 1) = (HH j).new x → c ≤ k → k < ops.size → S k → HH (k + 1) = (HH k).new y → ρ (HH j).next = some b → ρ (HH k).next = some d → b.r = d.r → j = k
  dom : ∀ q b, ρ q = some b → q.toNat < (HH c).next.toNat ∨ ∃ k x, c ≤ k ∧ k < ops.size ∧ S k ∧ HH (k + 1) = (HH k).new x ∧ q = (HH k).next
  fr1 : ∀ j, j < ops.size → S j → ∀ t, (ops.getD (o j) default).dst = some t → VR σ (ρ.cut (HH (j + 1)).next.toNat) (vv j) (a.tmps.getD t undef)
  fr0 : ∀ t, (∀ j, j < ops.size → S j → (ops.getD (o j) default).dst ≠ some t) → VR σ (ρ.cut (HH 0).next.toNat) (((FF 0).get (P.of t)).getD V.undef) (a.tmps.getD t undef)
  siz : nt ≤ a.tmps.size
  dfr : DfOk p a.defers

variable {ρ0 ρ : Ren} {w0 w : World} {S : Nat → Prop} {c : Nat} {a : Act}
theorem Inv.act {a1 : Act} (I : Inv σ p nt ops o FF HH vv ρ0 w0 S c ρ a w) (ht : a1.tmps = a.tmps) (hd : DfOk p a1.defers) : Inv σ p nt ops o FF HH vv ρ0 w0 S c ρ a1 w :=
  ⟨I.cle, I.base, I.low, I.noW, I.hr, I.st, I.ex, I.exd, I.exx, I.dom, fun j h1 h2 t h3 => by rw [ht]; exact I.fr1 j h1 h2 t h3, fun t h => by rw [ht]; exact I.fr0 t h, by rw [ht]; exact I.siz, hd⟩
theorem Inv.absorb (C : Cn p E run nt ops o A FF HH vv exc) (I : Inv σ p nt ops o FF HH vv ρ0 w0 S c ρ a w) : ∀ j, c ≤ j → j ≤ ops.size → (∀ i, c ≤ i → i < j → (XOf p nt ops (o i)).op.isW = false) → (∀ i, c ≤ i → i < j → S i ∨ HH (i + 1) = HH i) →
    HR σ (ρ.cut (HH j).next.toNat) (HH j) w ∧ Stp ρ0 (HH 0) w0 (ρ.cut (HH j).next.toNat) (HH j) w ∧
    (∀ q y, (HH j).get q = some y → (HH c).get q = some y ∨ ∃ i x, c ≤ i ∧ i < j ∧ S i ∧ HH (i + 1) = (HH i).new x ∧ q = (HH i).next) := by
  intro j
  induction j with
  | zero =>
    intro h1 _ _ _
    have : c = 0 := by omega
    subst this
    exact ⟨I.hr, I.st, fun q y h => .inl h⟩
  | succ j ih =>
    intro h1 h2 h3 h4
    by_cases e : c = j + 1
    · subst e; exact ⟨I.hr, I.st, fun q y h => .inl h⟩
    · obtain ⟨g1, g2, g3⟩ := ih (by omega) (by omega) (fun i a b => h3 i a (by omega)) (fun i a b => h4 i a (by omega))
      have mono3 : ∀ q y, (HH j).get q = some y → (HH c).get q = some y ∨ ∃ i x, c ≤ i ∧ i < j + 1 ∧ S i ∧ HH (i + 1) = (HH i).new x ∧ q = (HH i).next := fun q y hq => by
        rcases g3 q y hq with h | ⟨i, x, k1, k2, k3, k4, k5⟩
        · exact .inl h
        · exact .inr ⟨i, x, k1, by omega, k3, k4, k5⟩
      rcases C.stepN (by omega : j < ops.size) (h3 j (by omega) (by omega)) with hs | ⟨-, x, hs⟩
      · rw [hs]; exact ⟨g1, g2, mono3⟩
      · have hS : S j := by
          rcases h4 j (by omega) (by omega) with h | h
          · exact h
          · exfalso
            have := new_next (HH j) x
            rw [← hs, h] at this; omega
        obtain ⟨b, hb, hblk, hsz⟩ := I.ex j x (by omega) (by omega) hS hs
        have hnx : (HH (j + 1)).next.toNat = (HH j).next.toNat + 1 := by rw [hs, new_next]
        have hle : (ρ.cut (HH j).next.toNat).le (ρ.cut (HH (j + 1)).next.toNat) := Ren.cut_mono (.refl _) (by omega)
        have hget : ∀ q, (HH (j + 1)).get q = if q = (HH j).next then some x else (HH j).get q := fun q => by rw [hs, Hp.get_new]
        have hcut : ρ.cut (HH (j + 1)).next.toNat (HH j).next = some b := Ren.cut_some.2 ⟨by omega, hb⟩
        have hne : ∀ q y d, (HH j).get q = some y → ρ q = some d → d.r ≠ b.r := fun q y d hq hd => by
          rcases g3 q y hq with h | ⟨i, x', k1, k2, k3, k4, k5⟩
          · exact I.exd j x b (by omega) (by omega) hS hs hb q y d h hd
          · subst k5
            intro e'
            have := I.exx i j x' x d b k1 (by omega) k3 k4 (by omega) (by omega) hS hs hd hb e'
            omega
        refine ⟨⟨?_, ?_, ?_⟩, ⟨g2.os, g2.tape, g2.output, g2.size, g2.le.trans hle, by have := g2.next; omega, ?_, ?_, g2.frame⟩, ?_⟩
        · intro q1 q2 y z b1 b2 hq1 hq2 hb1 hb2 hbb
          rw [hget] at hq1 hq2
          have hb1' := (Ren.cut_some.1 hb1).2
          have hb2' := (Ren.cut_some.1 hb2).2
          by_cases e1 : q1 = (HH j).next <;> by_cases e2 : q2 = (HH j).next
          · rw [e1, e2]
          · rw [if_neg e2] at hq2
            rw [e1, hb] at hb1'; cases hb1'
            exact absurd hbb.symm (hne q2 z b2 hq2 hb2')
          · rw [if_neg e1] at hq1
            rw [e2, hb] at hb2'; cases hb2'
            exact absurd hbb (hne q1 y b1 hq1 hb1')
          · rw [if_neg e1] at hq1
            rw [if_neg e2] at hq2
            exact g1.inj q1 q2 y z b1 b2 hq1 hq2 (Ren.cut_some.2 ⟨g1.live hq1, hb1'⟩) (Ren.cut_some.2 ⟨g1.live hq2, hb2'⟩) hbb
        · intro q y hq
          rw [hget] at hq
          by_cases e1 : q = (HH j).next
          · rw [if_pos e1] at hq; cases hq
            rw [e1]; exact ⟨b, hcut, hblk⟩
          · rw [if_neg e1] at hq
            obtain ⟨d, hd, hr⟩ := g1.blk q y hq
            exact ⟨d, hle _ _ hd, hr.mono hle rfl⟩
        · intro q d hq; exact (Ren.cut_some.1 hq).1
        · intro q d hq
          obtain ⟨k1, k2⟩ := Ren.cut_some.1 hq
          by_cases e1 : q.toNat < (HH j).next.toNat
          · rcases g2.old q d (Ren.cut_some.2 ⟨e1, k2⟩) with h | h
            · exact .inl h
            · exact .inr (by omega)
          · have := g2.next
            exact .inr (by omega)
        · intro q y d hq hd
          rw [hget] at hq
          have hd' := (Ren.cut_some.1 hd).2
          by_cases e1 : q = (HH j).next
          · rw [e1, hb] at hd'; cases hd'; exact .inl hsz
          · rw [if_neg e1] at hq
            exact g2.own q y d hq (Ren.cut_some.2 ⟨g1.live hq, hd'⟩)
        · intro q y hq
          rw [hget] at hq
          by_cases e1 : q = (HH j).next
          · exact .inr ⟨j, x, by omega, by omega, hS, hs, e1⟩
          · rw [if_neg e1] at hq; exact mono3 q y hq
end
end Go.Proofs.YtfhjamimbgdfpaaGreat.X
