/- A verified executor, part XDr3: laws of the executor; no condition. -/
import Derived.Test.YtfhjamimbgdfpaaGreatXDr2
namespace Go.Proofs.YtfhjamimbgdfpaaGreat.X
open Go
set_option linter.unusedVariables false
set_option linter.unusedSimpArgs false

def keepF (F : Fr) : List Nat → Fr
  | [] => .lf
  | t :: r => (keepF F r).put (F.get (P.of t)) (P.of t)
theorem keepF_get (F : Fr) (t : Nat) : ∀ l : List Nat, (keepF F l).get (P.of t) = if t ∈ l then F.get (P.of t) else none
  | [] => by simp [keepF]
  | u :: r => by
    simp only [keepF]
    rw [Tr.get_put]
    by_cases e : t = u
    · subst e; simp
    · rw [if_neg (fun h => e (P.of_inj h)), keepF_get F t r]; simp [e]
def keepA (a : Act) (l : List Nat) : Act := ⟨Array.ofFn (n := a.tmps.size) fun i => if i.val ∈ l then a.tmps[i] else undef, []⟩
theorem keepA_get? (a : Act) (l : List Nat) (t : Nat) (h : t ∈ l) : (keepA a l).tmps[t]? = a.tmps[t]? := by
  by_cases c : t < a.tmps.size
  · simp [keepA, c, h]
  · simp [keepA, c]
theorem keepA_get (a : Act) (l : List Nat) (t : Nat) : (keepA a l).tmps.getD t undef = if t ∈ l then a.tmps.getD t undef else undef := by
  by_cases c : t < a.tmps.size
  · by_cases h : t ∈ l <;> simp [keepA, c, h]
  · simp [keepA, c]
theorem HR.widen {σ : Sg} {ρ : Ren} {H : Hp} {w : World} {m : Nat} {n : P} (h : HR σ (ρ.cut m) H w) (hm : m ≤ n.toNat) : HR σ (ρ.cut n.toNat) ⟨H.t, n⟩ w := by
  have hle : (ρ.cut m).le (ρ.cut n.toNat) := Ren.cut_mono (.refl _) hm
  refine ⟨fun p q x y b c hp hq hb hc hbc => ?_, fun p x hp => ?_, fun p b hp => (Ren.cut_some.1 hp).1⟩
  · obtain ⟨b', hb', -⟩ := h.blk p x hp
    obtain ⟨c', hc', -⟩ := h.blk q y hq
    have e1 := hle _ _ hb'
    have e2 := hle _ _ hc'
    rw [hb] at e1; cases e1
    rw [hc] at e2; cases e2
    exact h.inj p q x y b c hp hq hb' hc' hbc
  · obtain ⟨b', hb', hr⟩ := h.blk p x hp
    exact ⟨b', hle _ _ hb', hr.mono hle rfl⟩
theorem HR.bare {σ : Sg} {ρ : Ren} {w : World} (n : P) : HR σ (ρ.cut n.toNat) ⟨.lf, n⟩ w :=
  ⟨fun p q x y b c hp => by simp [Hp.get] at hp, fun p x hp => by simp [Hp.get] at hp, fun p b hp => (Ren.cut_some.1 hp).1⟩
section
variable {p : Program} {σ : Sg} {E : Env} {run : Run} {nt : Nat} {ops : Array Oper} {o : Nat → Nat} {A : Nat → List Nat} {FF : Nat → Fr} {HH : Nat → Hp} {vv : Nat → V} {exc : Nat → Nat → Prop}
variable {ρ0 ρ : Ren} {w0 w w' : World} {S : Nat → Prop} {c k : Nat} {a : Act} {x : Value}

theorem not_select {op : Oper} {xo : XO} (h : cOp p op = some xo) : ∀ cs b, op.op ≠ .select cs b := by
  intro cs b e
  simp [cOp, cPlain, e] at h
theorem wanted_congr {op : Oper} {a b : Act} (h : ∀ t ∈ op.looksAt ops, a.tmps[t]? = b.tmps[t]?) : Region.wanted op (yielded ops a.tmps) = Region.wanted op (yielded ops b.tmps) := by
  unfold Region.wanted
  split
  · rfl
  · rename_i j b' hg
    unfold yielded
    cases hd : (ops[j]?).bind (·.dst) with
    | none => rfl
    | some d =>
      have := h d (by unfold Oper.looksAt; rw [hg]; simp [hd])
      simp only [Option.bind_some, this]
theorem want_congr {op : Oper} {F G : Fr} {g : Option (P × Bool)} (hg : gOf ops op = some g) (h : ∀ t ∈ op.looksAt ops, F.get (P.of t) = G.get (P.of t)) : want F g = want G g := by
  unfold gOf at hg
  split at hg
  · simp at hg; subst hg; rfl
  · rename_i j b hgd
    split at hg
    · rename_i d hd
      simp at hg; subst hg
      have := h d (by unfold Oper.looksAt; rw [hgd]; simp [hd])
      simp only [want, this]
    · cases hg

theorem Inv.step (hs : SgOk σ) (hC : CallOk p σ E run) (C : Cn p E run nt ops o A FF HH vv exc) (I : Inv σ p nt ops o FF HH vv ρ0 w0 S c ρ a w) (hk : k < ops.size) (hS : ¬ S k) (hA : ∀ j, j < ops.size → o j ∈ A (o k) → S j)
    (hcl : ∀ i j, i < ops.size → j < ops.size → S j → o i ∈ A (o j) → S i) {Q : Exit → Act → World → Prop} {K : Act → World → Prop} (hK : ∀ c' ρ' a' w', Inv σ p nt ops o FF HH vv ρ0 w0 (fun j => S j ∨ j = k) c' ρ' a' w' → K a' w') : wpOp p ops Q (o k) K a w := by
  have hck : (XOf p nt ops (o k)).op.kind ≠ 0 → c ≤ k := fun h0 => Nat.le_of_not_lt fun h => (I.low k h).elim hS h0
  have hW0 : (XOf p nt ops (o k)).op.isW = true → (XOf p nt ops (o k)).op.kind ≠ 0 := fun h e => by rw [notW_of0 e] at h; cases h
  have hop : ops[o k]? = some (ops.getD (o k) default) := by simp [C.lt k hk]
  obtain ⟨s1, s2, s3, s4⟩ := C.spec hk
  have hlk : ∀ t ∈ (ops.getD (o k) default).looksAt ops, VR σ (ρ.cut (HH k).next.toNat) (((FF k).get (P.of t)).getD V.undef) (a.tmps.getD t undef) := by
    intro t ht
    by_cases hw : ∃ j, j < ops.size ∧ j ≠ k ∧ (ops.getD (o j) default).dst = some t
    · obtain ⟨j, hj, hjk, hd⟩ := hw
      rcases C.looks j k hj hk hjk t hd ht with h | h
      · obtain ⟨i, hi, hij⟩ := C.anc k hk _ h
        have := C.inj i j (by omega) hj hij
        subst this
        rw [C.ff1 hd k (by omega) hi]
        exact (I.fr1 i hj (hA i hj h) t hd).mono (Ren.cut_mono (.refl _) (C.next (by omega) (by omega)))
      · have hjS : ¬ S j := fun h' => hS (hcl k j hk hj h' h)
        obtain ⟨i, hi, hij⟩ := C.anc j hj _ h
        have := C.inj i k (by omega) hk hij
        subst this
        rw [C.ff0 i (by omega) (fun m hm e => by
          have := C.dsts m j (by omega) hj (by omega) t e
          exact this hd)]
        refine (I.fr0 t (fun m hm hSm e => ?_)).mono (Ren.cut_mono (.refl _) (C.next (by omega) (by omega)))
        by_cases e' : m = j
        · subst e'; exact hjS hSm
        · exact C.dsts m j hm hj e' t e hd
    · rw [C.ff0 k (by omega) (fun m hm e => hw ⟨m, by omega, by omega, e⟩)]
      refine (I.fr0 t (fun m hm hSm e => ?_)).mono (Ren.cut_mono (.refl _) (C.next (by omega) (by omega)))
      by_cases e' : m = k
      · subst e'; exact hS hSm
      · exact hw ⟨m, hm, e', e⟩
  have hF : FR σ (ρ.cut (HH k).next.toNat) (keepF (FF k) ((ops.getD (o k) default).looksAt ops)) (keepA a ((ops.getD (o k) default).looksAt ops)) := by
    intro t
    rw [keepF_get, keepA_get]
    by_cases h : t ∈ (ops.getD (o k) default).looksAt ops
    · rw [if_pos h, if_pos h]; exact hlk t h
    · rw [if_neg h, if_neg h]; exact VR.undef _ _
  have hev : ∀ x ∈ (XOf p nt ops (o k)).op.opds, ev (FF k) x = ev (keepF (FF k) ((ops.getD (o k) default).looksAt ops)) x := by
    intro x hx
    cases x with
    | c v => rfl
    | t q =>
      obtain ⟨t, ht, rfl⟩ := C.opds k hk q hx
      simp only [ev]
      rw [keepF_get, if_pos ht]
  have hex : execOp a.eval (ops.getD (o k) default) = execOp (keepA a ((ops.getD (o k) default).looksAt ops)).eval (ops.getD (o k) default) := by
    refine execOp_congr _ (not_select s1) fun x hx => ?_
    cases x with
    | tmp t =>
      have ht : t ∈ (ops.getD (o k) default).looksAt ops := by
        unfold Oper.looksAt
        refine List.mem_append_left _ (List.mem_filterMap.2 ⟨.tmp t, by simpa using hx, rfl⟩)
      have := keepA_get a _ t ▸ if_pos ht
      simp only [Act.eval]
      rw [keepA_get, if_pos ht]
    | _ => rfl
  have hwn : want (keepF (FF k) ((ops.getD (o k) default).looksAt ops)) (XOf p nt ops (o k)).g = want (FF k) (XOf p nt ops (o k)).g :=
    want_congr s4 fun t ht => by rw [keepF_get, if_pos ht]
  have hwd : Region.wanted (ops.getD (o k) default) (yielded ops a.tmps) = Region.wanted (ops.getD (o k) default) (yielded ops (keepA a ((ops.getD (o k) default).looksAt ops)).tmps) :=
    wanted_congr fun t ht => (keepA_get? a _ t ht).symm
  unfold wpOp
  rw [hop]
  simp only
  rcases C.step k hk with ⟨h1, h2⟩ | ⟨h1, h2, h3⟩
  · rw [hwd, want_sound hF s4 (hwn.trans h1), if_pos rfl]
    refine .inl ?_
    rw [opX_congr hev] at h2
    cases hw : (XOf p nt ops (o k)).op.isW with
    | true =>
      have hck := hck (hW0 hw)
      have hall : ∀ j, j < k → S j ∨ (XOf p nt ops (o j)).op.kind = 0 := fun j hj => (C.wall k hk hw j hj).imp (hA j (by omega)) id
      obtain ⟨g1, g2, g3⟩ := I.absorb C k hck (by omega) (fun i q1 q2 => by
        rcases hall i q2 with h | h
        · exact I.noW i q1 (by omega) h
        · exact notW_of0 h) (fun i q1 q2 => (hall i q2).imp id (C.step0 (by omega)))
      exact opX_sound hs hC s1 h2 hF g1 hex I.dfr fun x w' ρ1 a1 hv hH' hS' ht hd1 => hK _ _ _ _ ((I.act ht hd1).advW C hk hck hS hw hall hH' hS' hv)
    | false =>
      have hpl : cPlain p (ops.getD (o k) default) = some (XOf p nt ops (o k)).op := by
        have s1' := s1
        unfold cOp at s1'
        split at s1'
        · split at s1'
          · exact (Option.filter_eq_some_iff.1 s1').1
          · unfold cCall at s1'
            exfalso
            revert hw
            split at s1'
            · split at s1'
              · split at s1'
                · cases s1'
                · simp only [Option.map_eq_some_iff] at s1'
                  obtain ⟨l, -, e⟩ := s1'
                  rw [← e]; simp [XO.isW, XO.kind]
              · cases s1'
            · split at s1'
              · simp at s1'; rw [← s1']; simp [XO.isW, XO.kind]
              · cases s1'
            · split at s1'
              · simp at s1'; rw [← s1']; simp [XO.isW, XO.kind]
              · cases s1'
            · cases s1'
        · unfold cDefer at s1'
          exfalso
          revert hw
          split at s1'
          · split at s1'
            · simp at s1'; rw [← s1']; simp [XO.isW, XO.kind]
            · cases s1'
          · cases s1'
        · exact (Option.filter_eq_some_iff.1 s1').1
      have quiet : ∀ G : Hp, HR σ (ρ.cut (HH k).next.toNat) G w → ∀ G', doX (XOf p nt ops (o k)).op (keepF (FF k) ((ops.getD (o k) default).looksAt ops)) G = some (vv k, G') → (XOf p nt ops (o k)).op.kind ≤ 1 → HH (k + 1) = HH k →
          Oper.wp p (ops.getD (o k) default) a w K Q := by
        intro G hG G' hd hk1 hHk
        obtain ⟨x, hr, hv, -, -⟩ := doX_quiet hs hC.1.prog hpl hF hG hd hk1
        unfold Oper.wp
        rw [hex, hr]
        exact hK _ _ _ _ (I.advQ C hk hS hw hHk hv)
      rcases kind_of_notW hw with h | h | h
      · rw [opX_plain (by omega)] at h2
        obtain ⟨e1, e2⟩ := doX_P h h2
        exact quiet ⟨.lf, (HH k).next⟩ (.bare _) _ (e2 _) (by omega) e1
      · have h' : (XOf p nt ops (o k)).op.kind = 1 := by simpa [XO.isQ, beq_iff, eq_comm] using h
        have hck := hck (by omega)
        rw [opX_plain (by omega)] at h2
        obtain ⟨e1, -⟩ := doX_Q (t := (HH k).t) (m := (HH k).next) h' h2
        rcases C.q k hk h h1 c hck I.base (fun j q1 q2 q3 q4 => by
          have := I.noW j q1 (by omega) (hA j (by omega) q4)
          rw [q3] at this; cases this) with hn | ⟨m, hm⟩
        · obtain ⟨g1, -, -⟩ := I.absorb C k hck (by omega) hn (fun i q1 q2 => by
            rcases C.stepN (by omega : i < ops.size) (hn i q1 q2) with e | ⟨e, -⟩
            · exact .inr e
            · exact .inl (hA i (by omega) (C.qn k hk h c hck hn i q1 q2 e)))
          exact quiet _ g1 _ h2 (by omega) e1
        · rw [doX_congr hev] at hm
          obtain ⟨-, e3⟩ := doX_Q (t := (HH c).t) (m := (HH c).next) h' hm
          exact quiet _ (I.hr.widen (C.next (by omega) hck)) _ (e3 _) (by omega) e1
      · have h' : (XOf p nt ops (o k)).op.kind = 2 := by simpa [XO.isN, beq_iff, eq_comm] using h
        have hck := hck (by omega)
        rw [opX_plain (by omega)] at h2
        obtain ⟨y, hy, e2⟩ := doX_N h' h2
        obtain ⟨x, w', ρ1, hr, hv, hH', hst⟩ := doX_sound hs hC.1.prog hpl hF (HR.bare (ρ := ρ) (w := w) (HH k).next) (e2 ⟨.lf, (HH k).next⟩ rfl)
        have hget : (Hp.new ⟨.lf, (HH k).next⟩ y).get (HH k).next = some y := by rw [Hp.get_new]; exact if_pos rfl
        obtain ⟨b, hb, hblk⟩ := hH'.blk _ _ hget
        have hnx : (HH (k + 1)).next.toNat = (HH k).next.toNat + 1 := by rw [hy, new_next]
        have hbr : w.heap.size ≤ b.r := by
          rcases hst.own _ _ _ hget hb with h | ⟨q, z, d, q1, -⟩
          · exact h
          · simp [Hp.get] at q1
        have gr : Grew w w' := ⟨hst.os, hst.tape, hst.output, hst.size, fun r hr => hst.frame r hr (fun q z d q1 => by simp [Hp.get] at q1)⟩
        have hle : ρ1.le ((ρ.add (HH k).next b).cut (HH (k + 1)).next.toNat) := by
          intro q d hq
          have hfr := hH'.fresh q d hq
          have e3 : (Hp.new ⟨.lf, (HH k).next⟩ y).next.toNat = (HH k).next.toNat + 1 := new_next _ _
          refine Ren.cut_some.2 ⟨by omega, ?_⟩
          unfold Ren.add
          rcases hst.old q d hq with h | ⟨q1, q2⟩
          · obtain ⟨r1, r2⟩ := Ren.cut_some.1 h
            rw [if_neg (by rintro rfl; omega)]; exact r2
          · have : q = (HH k).next := P.toNat_inj (by simp only at q1; omega)
            subst this
            rw [if_pos rfl]; rw [hb] at hq; exact hq
        have fin := I.advN C hk hck hS hw hy gr hbr (hblk.mono hle rfl) (hv.mono hle)
        unfold Oper.wp
        rw [hex]
        rcases hr with hr | ⟨hr, rfl⟩
        · rw [hr]; exact hK _ _ _ _ fin
        · rw [hr]; exact hK _ _ _ _ fin
  · rw [hwd, want_sound hF s4 (hwn.trans h1), if_neg (by simp)]
    have hu : VR σ (ρ.cut (HH k).next.toNat) (vv k) undef := by rw [h2]; exact VR.undef _ _
    cases hw : (XOf p nt ops (o k)).op.isW with
    | true =>
      have hck := hck (hW0 hw)
      have hall : ∀ j, j < k → S j ∨ (XOf p nt ops (o j)).op.kind = 0 := fun j hj => (C.wall k hk hw j hj).imp (hA j (by omega)) id
      obtain ⟨g1, g2, g3⟩ := I.absorb C k hck (by omega) (fun i q1 q2 => by
        rcases hall i q2 with h | h
        · exact I.noW i q1 (by omega) h
        · exact notW_of0 h) (fun i q1 q2 => (hall i q2).imp id (C.step0 (by omega)))
      exact hK _ _ _ _ (I.advW C hk hck hS hw hall (ρ1 := ρ.cut (HH k).next.toNat) (by rw [h3]; exact g1) (by rw [h3]; exact .refl _ _ _) hu)
    | false => exact hK _ _ _ _ (I.advQ C hk hS hw h3 hu)
end
end Go.Proofs.YtfhjamimbgdfpaaGreat.X
