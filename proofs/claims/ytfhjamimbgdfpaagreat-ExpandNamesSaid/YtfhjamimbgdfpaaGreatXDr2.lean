/- A verified executor, part XDr2: laws of the executor; no condition. -/
import Derived.Test.YtfhjamimbgdfpaaGreatXDr1
namespace Go.Proofs.YtfhjamimbgdfpaaGreat.X
open Go
set_option linter.unusedVariables false
set_option linter.unusedSimpArgs false
section
variable {p : Program} {σ : Sg} {E : Env} {run : Run} {nt : Nat} {ops : Array Oper} {o : Nat → Nat} {A : Nat → List Nat} {FF : Nat → Fr} {HH : Nat → Hp} {vv : Nat → V} {exc : Nat → Nat → Prop}
variable {ρ0 ρ : Ren} {w0 w w' : World} {S : Nat → Prop} {c k : Nat} {a : Act} {x : Value}

theorem getD_put {a : Act} {dst : Option Tmp} {v : Value} {t : Tmp} (h : dst ≠ some t) : (a.put dst v).tmps.getD t undef = a.tmps.getD t undef := by
  cases dst with
  | none => rfl
  | some d =>
    have : d ≠ t := fun e => h (e ▸ rfl)
    simp [Act.put, Array.getElem?_setIfInBounds_ne this]
theorem getD_put_same {a : Act} {v : Value} {t : Tmp} (h : t < a.tmps.size) : (a.put (some t) v).tmps.getD t undef = v := by
  simp [Act.put, h]
/-- the slots, when k is done -/
theorem Inv.slots (C : Cn p E run nt ops o A FF HH vv exc) (I : Inv σ p nt ops o FF HH vv ρ0 w0 S c ρ a w) (hk : k < ops.size) {ρ' : Ren} (hle : ρ.le ρ') (hv : VR σ (ρ'.cut (HH (k + 1)).next.toNat) (vv k) x) :
    (∀ j, j < ops.size → (S j ∨ j = k) → ∀ t, (ops.getD (o j) default).dst = some t → VR σ (ρ'.cut (HH (j + 1)).next.toNat) (vv j) ((a.put (ops.getD (o k) default).dst x).tmps.getD t undef)) ∧
    (∀ t, (∀ j, j < ops.size → (S j ∨ j = k) → (ops.getD (o j) default).dst ≠ some t) → VR σ (ρ'.cut (HH 0).next.toNat) (((FF 0).get (P.of t)).getD V.undef) ((a.put (ops.getD (o k) default).dst x).tmps.getD t undef)) := by
  refine ⟨fun j hj hS t ht => ?_, fun t ht => ?_⟩
  · by_cases e : j = k
    · subst e
      rw [ht, getD_put_same (Nat.lt_of_lt_of_le ((C.spec hj).2.1 t ht) I.siz)]
      exact hv
    · rw [getD_put (C.dsts j k hj hk e t ht)]
      exact (I.fr1 j hj (hS.resolve_right e) t ht).mono (Ren.cut_mono hle (Nat.le_refl _))
  · rw [getD_put (ht k hk (.inr rfl))]
    exact (I.fr0 t (fun j hj hS => ht j hj (.inl hS))).mono (Ren.cut_mono hle (Nat.le_refl _))
/-- an operation that leaves memory alone -/
theorem Inv.advQ (C : Cn p E run nt ops o A FF HH vv exc) (I : Inv σ p nt ops o FF HH vv ρ0 w0 S c ρ a w) (hk : k < ops.size) (hS : ¬ S k) (hw : (XOf p nt ops (o k)).op.isW = false) (hH : HH (k + 1) = HH k)
    (hv : VR σ (ρ.cut (HH k).next.toNat) (vv k) x) : Inv σ p nt ops o FF HH vv ρ0 w0 (fun j => S j ∨ j = k) c ρ (a.put (ops.getD (o k) default).dst x) w := by
  have hno : ∀ y, HH (k + 1) ≠ (HH k).new y := fun y e => by
    have := new_next (HH k) y
    rw [← e, hH] at this; omega
  have hsl := I.slots C hk (x := x) (.refl ρ) (by rw [hH]; exact hv)
  refine ⟨I.cle, I.base, fun j hj => (I.low j hj).imp .inl id, fun j h1 h2 h3 => ?_, I.hr, I.st, fun j y h1 h2 h3 h4 => ?_, fun j y b h1 h2 h3 h4 => ?_, fun j i y z b d h1 h2 h3 h4 h5 h6 h7 h8 => ?_, fun q b h => ?_, hsl.1, hsl.2, by rw [put_size]; exact I.siz, by rw [put_defers]; exact I.dfr⟩
  · rcases h3 with h3 | rfl
    · exact I.noW j h1 h2 h3
    · exact hw
  · rcases h3 with h3 | rfl
    · exact I.ex j y h1 h2 h3 h4
    · exact absurd h4 (hno y)
  · rcases h3 with h3 | rfl
    · exact I.exd j y b h1 h2 h3 h4
    · exact absurd h4 (hno y)
  · rcases h3 with h3 | rfl
    · rcases h7 with h7 | rfl
      · exact I.exx j i y z b d h1 h2 h3 h4 h5 h6 h7 h8
      · exact absurd h8 (hno z)
    · exact absurd h4 (hno y)
  · rcases I.dom q b h with h | ⟨j, y, h1, h2, h3, h4⟩
    · exact .inl h
    · exact .inr ⟨j, y, h1, h2, .inl h3, h4⟩
/-- an operation that makes memory -/
theorem Inv.advN (C : Cn p E run nt ops o A FF HH vv exc) (I : Inv σ p nt ops o FF HH vv ρ0 w0 S c ρ a w) (hk : k < ops.size) (hc : c ≤ k) (hS : ¬ S k) (hw : (XOf p nt ops (o k)).op.isW = false) {y : Blk} (hH : HH (k + 1) = (HH k).new y) {b : RB}
    (g : Grew w w') (hb : w.heap.size ≤ b.r) (hblk : BlkR σ ((ρ.add (HH k).next b).cut (HH (k + 1)).next.toNat) w' b y)
    (hv : VR σ ((ρ.add (HH k).next b).cut (HH (k + 1)).next.toNat) (vv k) x) : Inv σ p nt ops o FF HH vv ρ0 w0 (fun j => S j ∨ j = k) c (ρ.add (HH k).next b) (a.put (ops.getD (o k) default).dst x) w' := by
  have hfree : ρ (HH k).next = none := by
    cases e : ρ (HH k).next with
    | none => rfl
    | some d =>
      rcases I.dom _ _ e with h | ⟨j, z, h1, h2, h3, h4, h5⟩
      · have := C.next (j := c) (k := k) (by omega) hc; omega
      · have := C.two hk h2 hH h4 (by rw [h5])
        subst this; exact absurd h3 hS
  have hle : ρ.le (ρ.add (HH k).next b) := fun q d hq => by
    unfold Ren.add
    rw [if_neg (by rintro rfl; rw [hfree] at hq; cases hq)]
    exact hq
  have hold : ∀ j z, j < ops.size → S j → HH (j + 1) = (HH j).new z → (HH j).next ≠ (HH k).next := fun j z hj hSj h e => by
    have := C.two hk hj hH h (by rw [e])
    subst this; exact absurd hSj hS
  have hsame : ∀ q, q ≠ (HH k).next → (ρ.add (HH k).next b) q = ρ q := fun q hq => by unfold Ren.add; rw [if_neg hq]
  have hself : (ρ.add (HH k).next b) (HH k).next = some b := Ren.add_same _ _ _
  have hcn := C.next (j := c) (k := k) (by omega) hc
  have hcut : (ρ.add (HH k).next b).cut (HH c).next.toNat = ρ.cut (HH c).next.toNat := Ren.add_cut hcn
  have hlt : ∀ q z d, (HH c).get q = some z → (ρ.add (HH k).next b) q = some d → ρ q = some d ∧ d.r < w.heap.size := fun q z d hq hd => by
    have hq' := I.hr.live hq
    rw [hsame q (by rintro rfl; omega)] at hd
    refine ⟨hd, ?_⟩
    obtain ⟨d', hd', hr⟩ := I.hr.blk q z hq
    have := (Ren.cut_some.1 hd').2
    rw [hd] at this; cases this
    exact hr.lt
  have hsl := I.slots C hk (x := x) hle hv
  refine ⟨I.cle, I.base, fun j hj => (I.low j hj).imp .inl id, fun j h1 h2 h3 => ?_, by rw [hcut]; exact I.hr.keep g, by rw [hcut]; exact I.st.keep g, fun j z h1 h2 h3 h4 => ?_, fun j z d h1 h2 h3 h4 h5 q u e hq he => ?_, fun j i z u d e h1 h2 h3 h4 h5 h6 h7 h8 h9 h10 h11 => ?_, fun q d h => ?_, hsl.1, hsl.2, by rw [put_size]; exact I.siz, by rw [put_defers]; exact I.dfr⟩
  · rcases h3 with h3 | rfl
    · exact I.noW j h1 h2 h3
    · exact hw
  · rcases h3 with h3 | rfl
    · obtain ⟨d, k1, k2, k3⟩ := I.ex j z h1 h2 h3 h4
      exact ⟨d, hle _ _ k1, k2.mono (Ren.cut_mono hle (Nat.le_refl _)) (g.same _ k2.lt), k3⟩
    · rw [hH] at h4
      have hz : y = z := by
        have e1 := Hp.get_new (HH j) y (HH j).next
        have e2 := Hp.get_new (HH j) z (HH j).next
        rw [if_pos rfl] at e1 e2
        rw [h4, e2] at e1; exact (Option.some.inj e1).symm
      subst hz
      exact ⟨b, hself, hblk, Nat.le_trans I.st.size hb⟩
  · obtain ⟨he', hlt'⟩ := hlt q u e hq he
    rcases h3 with h3 | rfl
    · rw [hsame _ (hold j z h2 h3 h4)] at h5
      exact I.exd j z d h1 h2 h3 h4 h5 q u e hq he'
    · rw [hself] at h5; cases h5; omega
  · have hexlt : ∀ i u d, c ≤ i → i < ops.size → S i → HH (i + 1) = (HH i).new u → ρ (HH i).next = some d → d.r < w.heap.size := fun i u d k1 k2 k3 k4 k5 => by
      obtain ⟨d', q1, q2, -⟩ := I.ex i u k1 k2 k3 k4
      rw [k5] at q1; cases q1
      exact q2.lt
    rcases h3 with h3 | rfl
    · rw [hsame _ (hold j z h2 h3 h4)] at h9
      rcases h7 with h7 | rfl
      · rw [hsame _ (hold i u h6 h7 h8)] at h10
        exact I.exx j i z u d e h1 h2 h3 h4 h5 h6 h7 h8 h9 h10 h11
      · rw [hself] at h10; cases h10
        have := hexlt j z d h1 h2 h3 h4 h9
        omega
    · rcases h7 with h7 | rfl
      · rw [hsame _ (hold i u h6 h7 h8)] at h10
        rw [hself] at h9; cases h9
        have := hexlt i u e h5 h6 h7 h8 h10
        omega
      · rfl
  · by_cases e : q = (HH k).next
    · exact .inr ⟨k, y, hc, hk, .inr rfl, hH, e⟩
    · rw [hsame q e] at h
      rcases I.dom q d h with h | ⟨j, z, h1, h2, h3, h4⟩
      · exact .inl h
      · exact .inr ⟨j, z, h1, h2, .inl h3, h4⟩
/-- an operation that may turn memory -/
theorem Inv.advW (C : Cn p E run nt ops o A FF HH vv exc) (I : Inv σ p nt ops o FF HH vv ρ0 w0 S c ρ a w) (hk : k < ops.size) (hc : c ≤ k) (hS : ¬ S k) (hw : (XOf p nt ops (o k)).op.isW = true) (hall : ∀ j, j < k → S j ∨ (XOf p nt ops (o j)).op.kind = 0) {ρ1 : Ren}
    (hH : HR σ ρ1 (HH (k + 1)) w') (hst : Stp (ρ.cut (HH k).next.toNat) (HH k) w ρ1 (HH (k + 1)) w')
    (hv : VR σ ρ1 (vv k) x) : Inv σ p nt ops o FF HH vv ρ0 w0 (fun j => S j ∨ j = k) (k + 1) (Ren.over ρ1 ρ (HH (k + 1)).next.toNat) (a.put (ops.getD (o k) default).dst x) w' := by
  obtain ⟨g1, g2, g3⟩ := I.absorb C k hc (by omega) (fun i h1 h2 => by
    rcases hall i h2 with h | h
    · exact I.noW i h1 (by omega) h
    · exact notW_of0 h) (fun i h1 h2 => (hall i h2).imp id (C.step0 (by omega)))
  have hcut : (Ren.over ρ1 ρ (HH (k + 1)).next.toNat).cut (HH (k + 1)).next.toNat = ρ1 := Ren.over_cut hH.fresh
  have hover : ∀ q, (HH (k + 1)).next.toNat ≤ q.toNat → Ren.over ρ1 ρ (HH (k + 1)).next.toNat q = ρ q := fun q hq => by unfold Ren.over; rw [if_neg (by omega)]
  have hunder : ∀ q, q.toNat < (HH (k + 1)).next.toNat → Ren.over ρ1 ρ (HH (k + 1)).next.toNat q = ρ1 q := fun q hq => by unfold Ren.over; rw [if_pos hq]
  have hck := C.next (j := c) (k := k) (by omega) hc
  have hk1 := C.next1 hk
  have far : ∀ i z, i < ops.size → S i → HH (i + 1) = (HH i).new z → (HH k).next.toNat ≤ (HH i).next.toNat → k + 1 ≤ i := fun i z h1 h2 h3 h4 => by
    rcases Nat.lt_trichotomy i k with h | h | h
    · have e1 := new_next (HH i) z
      rw [← h3] at e1
      have := C.next (j := i + 1) (k := k) (by omega) (by omega)
      omega
    · subst h; exact absurd h2 hS
    · exact h
  have hle : ρ.le (Ren.over ρ1 ρ (HH (k + 1)).next.toNat) := fun q d hq => by
    by_cases e : q.toNat < (HH (k + 1)).next.toNat
    · rw [hunder q e]
      apply hst.le
      refine Ren.cut_some.2 ⟨?_, hq⟩
      rcases I.dom q d hq with h | ⟨i, z, h1, h2, h3, h4, h5⟩
      · omega
      · subst h5
        apply Nat.lt_of_not_le
        intro hge
        have := far i z h2 h3 h4 hge
        have := C.next (j := k + 1) (k := i) (by omega) this
        omega
    · rw [hover q (by omega)]; exact hq
  have hsl := I.slots C hk (x := x) hle (by rw [hcut]; exact hv)
  have idx : ∀ i z, k + 1 ≤ i → i < ops.size → S i → HH (i + 1) = (HH i).new z → Ren.over ρ1 ρ (HH (k + 1)).next.toNat (HH i).next = ρ (HH i).next := fun i z h1 h2 h3 h4 => hover _ (C.next (by omega) h1)
  have sep : ∀ i z b, k + 1 ≤ i → i < ops.size → S i → HH (i + 1) = (HH i).new z → ρ (HH i).next = some b → ∀ q y d, (HH k).get q = some y → (ρ.cut (HH k).next.toNat) q = some d → d.r ≠ b.r := fun i z b h1 h2 h3 h4 h5 q y d hq hd => by
    have hd' := (Ren.cut_some.1 hd).2
    rcases g3 q y hq with h | ⟨j, u, k1, k2, k3, k4, k5⟩
    · exact I.exd i z b (by omega) h2 h3 h4 h5 q y d h hd'
    · subst k5
      intro e
      have := I.exx j i u z d b k1 (by omega) k3 k4 (by omega) h2 h3 h4 hd' h5 e
      omega
  have sepW : ∀ i z b, k + 1 ≤ i → i < ops.size → S i → HH (i + 1) = (HH i).new z → ρ (HH i).next = some b → b.r < w.heap.size := fun i z b h1 h2 h3 h4 h5 => by
    obtain ⟨d', q1, q2, -⟩ := I.ex i z (by omega) h2 h3 h4
    rw [h5] at q1; cases q1
    exact q2.lt
  have old : ∀ j, k + 1 ≤ j → (S j ∨ j = k) → S j := fun j h1 h2 => h2.resolve_right (by omega)
  refine ⟨hk, .inr ⟨k, rfl, hw⟩, fun j hj => ?_, fun j h1 h2 h3 => I.noW j (by omega) h2 (old j h1 h3), by rw [hcut]; exact hH, by rw [hcut]; exact g2.trans hst, fun j z h1 h2 h3 h4 => ?_, fun j z d h1 h2 h3 h4 h5 q u e hq he => ?_, fun j i z u d e h1 h2 h3 h4 h5 h6 h7 h8 h9 h10 h11 => ?_, fun q d h => ?_, hsl.1, hsl.2, by rw [put_size]; exact I.siz, by rw [put_defers]; exact I.dfr⟩
  · by_cases e : j = k
    · exact .inl (.inr e)
    · exact (hall j (by omega)).imp .inl id
  · have h3' := old j h1 h3
    obtain ⟨b, k1, k2, k3⟩ := I.ex j z (by omega) h2 h3' h4
    refine ⟨b, hle _ _ k1, k2.mono (Ren.cut_mono hle (Nat.le_refl _)) (hst.frame b.r k2.lt (sep j z b h1 h2 h3' h4 k1)), k3⟩
  · have h3' := old j h1 h3
    rw [idx j z h1 h2 h3' h4] at h5
    rw [hunder q (hH.live hq)] at he
    rcases hst.own q u e hq he with h | ⟨q', u', e', k1, k2, k3⟩
    · have := sepW j z d h1 h2 h3' h4 h5; omega
    · rw [← k3]; exact sep j z d h1 h2 h3' h4 h5 q' u' e' k1 k2
  · have h3' := old j h1 h3
    have h7' := old i h5 h7
    rw [idx j z h1 h2 h3' h4] at h9
    rw [idx i u h5 h6 h7' h8] at h10
    exact I.exx j i z u d e (by omega) h2 h3' h4 (by omega) h6 h7' h8 h9 h10 h11
  · by_cases e : q.toNat < (HH (k + 1)).next.toNat
    · exact .inl e
    · rw [hover q (by omega)] at h
      rcases I.dom q d h with h | ⟨j, z, h1, h2, h3, h4, h5⟩
      · omega
      · refine .inr ⟨j, z, ?_, h2, .inl h3, h4, h5⟩
        subst h5
        exact far j z h2 h3 h4 (by omega)
end
end Go.Proofs.YtfhjamimbgdfpaaGreat.X
