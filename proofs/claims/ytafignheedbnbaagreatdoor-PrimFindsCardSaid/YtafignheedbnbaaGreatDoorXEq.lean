/- A verified executor of the program's code, part XEq; no condition. -/
import Derived.Test.YtafignheedbnbaaGreatDoorXOpsC
import Derived.Laws.StructEq
namespace Go.Proofs.YtafignheedbnbaaGreatDoor.X
open Go
set_option linter.unusedVariables false
set_option linter.unusedSimpArgs false
section
variable {p : Program} {σ : Sg} {ρ : Ren} {F : Fr} {H H' : Hp} {a : Act} {w : World} {v : V} {xo : XO} {o : Oper}

theorem sameAddr_run (hH : HR σ ρ H w) {q1 q2 : P} {i j : Nat} {b c : RB} {x1 x2 : Tr V} {n1 n2 : Nat} (h1 : H.get q1 = some (.cells x1 n1 true)) (h2 : H.get q2 = some (.cells x2 n2 true)) (hb : ρ q1 = some b) (hc : ρ q2 = some c) :
    (sameAddr ⟨b.r, b.b + i, none⟩ ⟨c.r, c.b + j, none⟩).run p w = .ok (bif decide (q1 = q2) then Nat.beq i j else false) w := by
  by_cases e : q1 = q2
  · subst e
    rw [hb] at hc; cases hc
    rw [decide_eq_true rfl, cond_true, beq_iff]
    simp only [sameAddr, beq_self_eq_true, if_true]
    have : ((⟨b.r, b.b + i, none⟩ : Addr) == ⟨b.r, b.b + j, none⟩) = decide (i = j) := by
      rw [Bool.eq_iff_iff]; simp
    rw [this]; simp
  · rw [decide_eq_false e, cond_false]
    have hne : b.r ≠ c.r := fun h => e (hH.inj q1 q2 _ _ b c h1 h2 hb hc h)
    obtain ⟨b', hb', cs, et, lo, hi, g1, g2, g3, g4, g5⟩ := hH.blk q1 _ h1
    rw [hb] at hb'; cases hb'
    obtain ⟨c', hc', cs', et', lo', hi', k1, k2, k3, k4, k5⟩ := hH.blk q2 _ h2
    rw [hc] at hc'; cases hc'
    obtain ⟨rfl, rfl, -⟩ := g5 rfl
    obtain ⟨rfl, rfl, -⟩ := k5 rfl
    have hbne : (b.r == c.r) = false := by simp [hne]
    simp [sameAddr, hbne, frozen, Sem.run, Sem.run_bind, World.frozen?, g1, k1, noView, viewAt, shape, World.shape?, mayBeOne, stringish]
theorem run_equalIn {d : Nat} {t : TypeId} {rx ry : Value} {td : TypeDesc} (hu : p.underlying t = some td) : True := trivial
theorem eqB_sound {d : Nat} {t : TypeId} {x y : V} {b : Bool} {rx ry : Value} (hu : p.underlying t = some .bool) (he : eqB x y = some b) (hx : VR σ ρ x rx) (hy : VR σ ρ y ry) : (Op.equalIn (d + 1) t rx ry).run p w = .ok b w := by
  unfold eqB at he
  split at he
  · simp at he; subst he
    rw [hx.bool_inv, hy.bool_inv]
    simp [Op.equalIn, Sem.run_bind, run_und hu]
  · cases he
theorem eqN_sound {d : Nat} {t : TypeId} {kk : IntKind} {x y : V} {b : Bool} {rx ry : Value} (hu : p.underlying t = some (.int kk)) (he : eqN x y = some b) (hx : VR σ ρ x rx) (hy : VR σ ρ y ry) : (Op.equalIn (d + 1) t rx ry).run p w = .ok b w := by
  unfold eqN at he
  split at he
  · obtain ⟨h0, he'⟩ := bif_some he
    clear he
    simp at h0 he'; subst h0; subst he'
    rw [hx.int_inv, hy.int_inv, eqI_spec]
    simp [Op.equalIn, Sem.run_bind, run_und hu]
  · cases he
theorem eqT_sound {d : Nat} {t : TypeId} {x y : V} {b : Bool} {rx ry : Value} (hu : p.underlying t = some .string) (he : eqT x y = some b) (hx : VR σ ρ x rx) (hy : VR σ ρ y ry) : (Op.equalIn (d + 1) t rx ry).run p w = .ok b w := by
  unfold eqT at he
  split at he
  · obtain ⟨s1, q1, rfl, rfl⟩ := hx.str_inv
    obtain ⟨s2, q2, rfl, rfl⟩ := hy.str_inv
    simp only [Option.some.injEq] at he
    rw [q1, q2, ← he, str_eq, ← beq_toListBytes]
    simp [Op.equalIn, Sem.run_bind, run_und hu]
  · cases he
theorem eqPt_sound (hH : HR σ ρ H w) {d : Nat} {t el : TypeId} {n : Nat} {x y : V} {b : Bool} {rx ry : Value} (hu : p.underlying t = some (.pointer el)) (hn : szOf p el = some n) (hn0 : n ≠ 0) (he : eqPt H x y = some b) (hx : VR σ ρ x rx) (hy : VR σ ρ y ry) : (Op.equalIn (d + 1) t rx ry).run p w = .ok b w := by
  unfold eqPt at he
  split at he
  · unfold ptrEq at he
    split at he
    · simp at he; subst he
      cases hx; cases hy
      simp [Op.equalIn, Sem.run_bind, run_und hu]
    · simp at he; subst he
      cases hx; cases hy
      simp [Op.equalIn, Sem.run_bind, run_und hu]
    · simp at he; subst he
      cases hx; cases hy
      simp [Op.equalIn, Sem.run_bind, run_und hu]
    · rename_i q1 i1 q2 i2
      split at he
      · rename_i c1 n1 c2 n2 h1 h2
        simp only [Option.some.injEq] at he
        obtain ⟨b1, hb1, rfl⟩ := hx.ptr_inv
        obtain ⟨b2, hb2, rfl⟩ := hy.ptr_inv
        have := sameAddr_run (p := p) (i := i1) (j := i2) hH h1 h2 hb1 hb2
        rw [he] at this
        simp [Op.equalIn, Sem.run_bind, run_und hu, run_size hn, hn0, this]
      · cases he
  · cases he
theorem eqSl_sound {d : Nat} {t el : TypeId} {x y : V} {b : Bool} {rx ry : Value} (hu : p.underlying t = some (.slice el)) (he : eqSl x y = some b) (hx : VR σ ρ x rx) (hy : VR σ ρ y ry) : (Op.equalIn (d + 1) t rx ry).run p w = .ok b w := by
  unfold eqSl at he
  split at he
  · simp at he; subst he
    cases hx
    cases hy <;> simp [Op.equalIn, Sem.run_bind, run_und hu]
  · simp at he; subst he
    cases hy
    cases hx <;> simp [Op.equalIn, Sem.run_bind, run_und hu]
  · cases he
theorem eqMp_sound {d : Nat} {t q el : TypeId} {x y : V} {b : Bool} {rx ry : Value} (hu : p.underlying t = some (.map q el)) (he : eqMp x y = some b) (hx : VR σ ρ x rx) (hy : VR σ ρ y ry) : (Op.equalIn (d + 1) t rx ry).run p w = .ok b w := by
  unfold eqMp at he
  split at he
  · simp at he; subst he
    cases hx
    cases hy <;> simp [Op.equalIn, Sem.run_bind, run_und hu]
  · simp at he; subst he
    cases hy
    cases hx <;> simp [Op.equalIn, Sem.run_bind, run_und hu]
  · cases he
theorem eqFn_sound {d : Nat} {t : TypeId} {f1 f2 : Array TypeId} {f3 : Bool} {x y : V} {b : Bool} {rx ry : Value} (hu : p.underlying t = some (.func f1 f2 f3)) (he : eqFn x y = some b) (hx : VR σ ρ x rx) (hy : VR σ ρ y ry) : (Op.equalIn (d + 1) t rx ry).run p w = .ok b w := by
  unfold eqFn at he
  split at he
  · simp at he; subst he
    cases hx <;> cases hy <;> simp [Op.equalIn, Sem.run_bind, run_und hu]
  · simp at he; subst he
    cases hx <;> cases hy <;> simp [Op.equalIn, Sem.run_bind, run_und hu]
  · simp at he; subst he
    cases hx <;> cases hy <;> simp [Op.equalIn, Sem.run_bind, run_und hu]
  · cases he
theorem eqIf_sound {d : Nat} {t : TypeId} {ms : Array (String × TypeId)} {x y : V} {b : Bool} {rx ry : Value} (hu : p.underlying t = some (.interface ms)) (he : eqIf x y = some b) (hx : VR σ ρ x rx) (hy : VR σ ρ y ry) : (Op.equalIn (d + 1) t rx ry).run p w = .ok b w := by
  unfold eqIf at he
  split at he
  · simp at he; subst he
    cases hx; cases hy
    simp [Op.equalIn, Sem.run_bind, run_und hu]
  · simp at he; subst he
    cases hx; cases hy
    simp [Op.equalIn, Sem.run_bind, run_und hu]
  · cases he
theorem partSz_spec {t : TypeId} {s : Nat} (h : partSz p t = some s) : (s = 0 ∧ aggT p t = some false) ∨ (s ≠ 0 ∧ aggT p t = some true ∧ szOf p t = some s) := by
  unfold partSz at h
  split at h
  · rename_i hg
    split at h
    · rename_i n hn; simp at h; subst h; exact .inr ⟨by omega, hg, hn⟩
    · cases h
  · rename_i hg; simp at h; exact .inl ⟨h.symm, hg⟩
  · cases h
theorem sub1_sound {t : TypeId} {s off : Nat} {cs : List V} {rc : List Value} {x : V} (hs : partSz p t = some s) (hv : VRs σ ρ cs rc) (h : sub1 cs off s = some x) : ∃ y, (part t ⟨rc⟩ off).run p w = .ok y w ∧ VR σ ρ x y := by
  rcases partSz_spec hs with ⟨rfl, hg⟩ | ⟨h0, hg, hn⟩
  · simp only [sub1] at h
    obtain ⟨y, hy, hr⟩ := hv.get h
    exact ⟨y, part_run1 hg (by simpa using hy), hr⟩
  · obtain ⟨n, rfl⟩ : ∃ n, s = n + 1 := ⟨s - 1, by omega⟩
    simp only [sub1, Option.some.injEq] at h
    subst h
    exact ⟨_, part_runN hg hn, by rw [extract_list]; exact .agg ((hv.drop _).take _)⟩
theorem eqV_sound (hH : HR σ ρ H w) : ∀ (d d' : Nat) (t : TypeId) (k : EqK) (x y : V) (b : Bool) (rx ry : Value), d ≤ d' → eqK p d t = some k → eqV H k x y = some b → VR σ ρ x rx → VR σ ρ y ry →
    (Op.equalIn d' t rx ry).run p w = .ok b w
  | 0, _, _, _, _, _, _, _, _, _, hk, _, _, _ => by simp [eqK] at hk
  | d + 1, 0, _, _, _, _, _, _, _, hd, _, _, _, _ => by omega
  | d + 1, d' + 1, t, k, x, y, b, rx, ry, hd, hk, he, hx, hy => by
    unfold eqK at hk
    split at hk
    · rename_i hu; simp at hk; subst hk; exact eqB_sound hu he hx hy
    · rename_i kk hu; simp at hk; subst hk; exact eqN_sound hu he hx hy
    · rename_i hu; simp at hk; subst hk; exact eqT_sound hu he hx hy
    · rename_i el hu
      split at hk
      · cases hk
      · rename_i n hn hs; simp at hk; subst hk; exact eqPt_sound hH hu hs (fun e => hn (by rw [e])) he hx hy
      · cases hk
    · rename_i el hu; simp at hk; subst hk; exact eqSl_sound hu he hx hy
    · rename_i k1 el hu; simp at hk; subst hk; exact eqMp_sound hu he hx hy
    · rename_i f1 f2 f3 hu; simp at hk; subst hk; exact eqFn_sound hu he hx hy
    · rename_i ms hu; simp at hk; subst hk; exact eqIf_sound hu he hx hy
    · rename_i fs hu
      split at hk
      · cases hk
      rename_i hst
      simp only [Option.map_eq_some_iff] at hk
      obtain ⟨ps, hps, rfl⟩ := hk
      unfold eqV at he
      split at he
      · rename_i xs ys hpo
        have hxy : x = .agg xs ∧ y = .agg ys := by
          unfold partsOf at hpo
          split at hpo
          · simp at hpo; obtain ⟨rfl, rfl⟩ := hpo; exact ⟨rfl, rfl⟩
          · cases hpo
        obtain ⟨rfl, rfl⟩ := hxy
        cases hx with
        | agg hx =>
          cases hy with
          | agg hy =>
            rename_i rxs rys
            have hfo : p.fieldsOf t = fs := by unfold Program.fieldsOf; rw [hu]
            rw [run_equalIn_struct w d' t _ _ (by rw [hfo]; exact hu) (by simpa using hst), hfo]
            have key : ∀ (l : List Field) (ps : List (Nat × Nat × EqK)), ((l.filter fun f : Field => decide (f.name ≠ "_")).mapM fun f : Field => do
                let k ← eqK p d f.type
                let s ← partSz p f.type
                pure (f.offset, s, k)) = some ps → eqP H ps xs ys = some b → (Op.eqFields d' ⟨rxs⟩ ⟨rys⟩ l).run p w = .ok b w := by
              intro l
              induction l with
              | nil =>
                intro ps hps he
                simp at hps; subst hps
                simp [eqP] at he; subst he
                simp [Op.eqFields]
              | cons f l ih =>
                intro ps hps he
                by_cases hn : f.name = "_"
                · rw [List.filter_cons, if_neg (by simp [hn])] at hps
                  have := ih ps hps he
                  simp only [Op.eqFields]
                  rw [if_neg (by simp [hn])]
                  exact this
                · rw [List.filter_cons, if_pos (by simp [hn])] at hps
                  simp only [List.mapM_cons, Option.bind_eq_bind, Option.bind_eq_some_iff, Option.pure_def, Option.some.injEq] at hps
                  obtain ⟨q, ⟨k1, hk1, s1, hs1, rfl⟩, r, hr, rfl⟩ := hps
                  simp only [eqP] at he
                  split at he
                  · rename_i x1 y1 hx1 hy1
                    obtain ⟨rx1, g1, g2⟩ := sub1_sound (p := p) (w := w) hs1 hx hx1
                    obtain ⟨ry1, g3, g4⟩ := sub1_sound (p := p) (w := w) hs1 hy hy1
                    simp only [Op.eqFields]
                    rw [if_pos (by simpa using hn)]
                    split at he
                    · rename_i e1
                      have := eqV_sound hH d d' f.type k1 x1 y1 true rx1 ry1 (by omega) hk1 e1 g2 g4
                      simp [Sem.run_bind, g1, g3, this]
                      exact ih r hr he
                    · rename_i e1
                      simp at he; subst he
                      have := eqV_sound hH d d' f.type k1 x1 y1 false rx1 ry1 (by omega) hk1 e1 g2 g4
                      simp [Sem.run_bind, g1, g3, this]
                    · cases he
                  · cases he
            exact key _ _ hps he
      · cases he
    · cases hk
end
end Go.Proofs.YtafignheedbnbaaGreatDoor.X
