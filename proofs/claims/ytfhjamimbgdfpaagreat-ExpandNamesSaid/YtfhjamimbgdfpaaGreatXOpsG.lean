/- A verified executor, part XOpsG: laws of the executor; no condition. -/
import Derived.Test.YtfhjamimbgdfpaaGreatXOpsF
namespace Go.Proofs.YtfhjamimbgdfpaaGreat.X
open Go
set_option linter.unusedVariables false
set_option linter.unusedSimpArgs false
section
variable {p : Program} {σ : Sg} {ρ : Ren} {F : Fr} {H H' : Hp} {a : Act} {w : World} {v : V} {xo : XO} {o : Oper}

theorem digitsOf_sound : ∀ {vs : List V} {xs : List Value} {n : Nat}, VRs σ ρ vs xs → digitsOf vs = some n → ∃ ns : List Int, xs = ns.map (Value.int .u8) ∧ ∃ bs : List UInt8, ns.map (fun n => UInt8.ofNat n.toNat) = bs ∧ digits bs = n
  | [], _, n, .nil, h => by simp [digitsOf] at h; subst h; exact ⟨[], rfl, [], rfl, rfl⟩
  | v :: r, _, n, .cons hv ht, h => by
    unfold digitsOf at h
    split at h
    · rename_i e; cases e
    · rename_i a r' e
      cases e
      obtain ⟨h0, h'⟩ := bif_some h
      clear h
      simp only [blt_iff, decide_eq_true_eq] at h0
      split at h'
      · rename_i m hm
        simp at h'; subst h'
        obtain ⟨ns, rfl, bs, hb, hd⟩ := digitsOf_sound ht hm
        refine ⟨(a : Int) :: ns, by rw [hv.int_inv]; rfl, UInt8.ofNat a :: bs, by simp [hb], ?_⟩
        simp only [digits, hd]
        have : (UInt8.ofNat a).toNat = a := by simp; omega
        rw [this]
      · cases h'
    · cases h
theorem foldl_push : ∀ (ns : List Int) (s : ByteArray), (ns.foldl (fun r n => r.push (UInt8.ofNat n.toNat)) s).data.toList = s.data.toList ++ ns.map (fun n => UInt8.ofNat n.toNat)
  | [], s => by simp
  | n :: ns, s => by
    rw [List.foldl_cons, foldl_push ns]
    show (s.data.push _).toList ++ _ = _
    simp
theorem s_toStr {src dst e : TypeId} {x : Operand} {x' : Opd} (ho : o.op = .convert src dst x) (h1 : p.underlying src = some (.slice e)) (h2 : p.underlying dst = some .string) (h3 : p.underlying e = some (.int .u8)) (hx : cOpd x = some x') (hF : FR σ ρ F a) (hH : HR σ ρ H w) (hd : doX (.toStr x') F H = some (v, H')) : GivesQ p σ (execOp a.eval o) ρ H w v H' := by
  have hx' := cOpd_sound hF hx
  have hex : ∀ r, (Conv.bytesToString (a.eval x)).run p w = .ok r w → (∃ ra l cap, a.eval x = .slice ra l cap) → (execOp a.eval o).run p w = .ok (.value r) w := fun r hr ⟨ra, l, cap, hax⟩ => by
    simp only [execOp, ho]
    refine run_v ?_
    rw [hax] at hr ⊢
    simp [convert, Sem.run_bind, run_und h1, run_und h2, run_und h3, hr]
  simp only [doX] at hd
  split at hd
  · rename_i e1
    rw [e1] at hx'
    simp only [Option.some.injEq, Prod.mk.injEq] at hd; obtain ⟨rfl, rfl⟩ := hd
    generalize hax : a.eval x = ax at hx'
    cases hx'
    exact .same hH (hex (.string .empty) (by rw [hax]; simp [Conv.bytesToString]) ⟨_, _, _, hax⟩) (.str .empty)
  · rename_i b i sz l c e1
    rw [e1] at hx'
    split at hd
    · rename_i vs hl
      split at hd
      · rename_i n hn
        simp only [Option.some.injEq, Prod.mk.injEq] at hd; obtain ⟨rfl, rfl⟩ := hd
        have key : ∀ (rb : RB) (xa : Addr) (cap : Nat), ρ b = some rb → a.eval x = .slice (some xa) l cap → (l = 0 ∨ xa = ⟨rb.r, rb.b + i, none⟩) → GivesQ p σ (execOp a.eval o) ρ H w (.str l n) H := by
          intro rb xa cap hb hax hxa
          obtain ⟨xs, g1, g2, g3⟩ := hH.loadn hl hb
          obtain ⟨ns, rfl, bs, hbs, hdg⟩ := digitsOf_sound g1 hn
          have hlen : ns.length = l := by simpa using g2
          have hload : (loadCells xa l).run p w = .ok (ns.map (Value.int .u8)).toArray w := by
            rcases hxa with rfl | rfl
            · obtain rfl : ns = [] := List.length_eq_zero_iff.1 hlen
              have := run_loadCells_list (P := p) w xa [] (by simp)
              simpa using this
            · have := run_loadCells_list (P := p) w ⟨rb.r, rb.b + i, none⟩ (ns.map (Value.int .u8)) g3
              rw [g2] at this
              exact this
          have hr := run_bytesToString (P := p) w xa l cap ns hload
          have hdat := foldl_push ns ByteArray.empty
          generalize hS : ns.foldl (fun r n => r.push (UInt8.ofNat n.toNat)) ByteArray.empty = S at hr hdat
          have hd2 : S.data.toList = bs := by rw [hdat, hbs]; simp
          have hsz : S.size = l := by rw [size_data, hd2, ← hbs]; simp [hlen]
          refine .same hH (hex (.string S) (by rw [hax]; exact hr) ⟨_, _, _, hax⟩) ?_
          rw [← hdg, ← hd2, ← hsz]
          exact .str S
        generalize hax : a.eval x = ax at hx'
        cases hx' with
        | slc hb hl' hcc hnn => exact key _ _ _ hb hax (.inr rfl)
        | slc0 hb hcc => exact key _ _ _ hb hax (.inl rfl)
      · cases hd
    · cases hd
  · cases hd
theorem s_min {c : Call} {l : List Opd} (ho : o.op = .call c) (hb : c.callee = .builtin .min) (hl : cOpds c.args.toList = some l) (hF : FR σ ρ F a) (hH : HR σ ρ H w) (hd : doX (.min l) F H = some (v, H')) : GivesQ p σ (execOp a.eval o) ρ H w v H' := by
  have hls := cOpds_sound hF hl
  have key : ∀ (r : List Opd) (rr : List Value) (u : V) (ru : Value) (out : V), VRs σ ρ (r.map (ev F)) rr → VR σ ρ u ru → mm false F r u = some out → ∃ y, (rr.foldlM Builtin.min2 ru : Sem Value).run p w = .ok y w ∧ VR σ ρ out y := by
    intro r
    induction r with
    | nil =>
      intro rr u ru out hr hu h
      cases hr
      simp [mm] at h; subst h
      exact ⟨ru, by simp, hu⟩
    | cons x r ih =>
      intro rr u ru out hr hu h
      cases hr with
      | cons h1 h2 =>
        rename_i y ry
        unfold mm at h
        split at h
        · rename_i e; cases e
        · rename_i x2 r2 k n e
          cases e
          split at h
          · rename_i k2 m e2
            rw [e2] at h1
            obtain ⟨z, hz1, hz2⟩ := ih ry _ (.int k (if m < n then m else n)) out h2 (by
              have : (bif (bif false then ltI n m else ltI m n) then m else n) = if m < n then m else n := by
                simp only [cond_false, ltI_spec]
                by_cases hh : m < n <;> simp [hh]
              rw [this]; exact .int _ _) h
            refine ⟨z, ?_, hz2⟩
            rw [List.foldlM_cons, hu.int_inv, h1.int_inv]
            simp [Sem.run_bind, Builtin.min2, hz1]
          · cases h
        · cases h
  simp only [doX] at hd
  split at hd
  · cases hd
  · rename_i x r
    split at hd
    · rename_i u hu
      simp only [Option.some.injEq, Prod.mk.injEq] at hd; obtain ⟨rfl, rfl⟩ := hd
      generalize hal : c.args.toList.map a.eval = al at hls
      cases hls with
      | cons h1 h2 =>
        rename_i ry rr
        obtain ⟨y, hy, hv⟩ := key r rr _ _ _ h2 h1 hu
        refine .same hH (x := y) ?_ hv
        rw [exec_builtin ho hb]
        refine run_v ?_
        simp [Builtin.min_, hal, hy]
    · cases hd
theorem s_max {c : Call} {l : List Opd} (ho : o.op = .call c) (hb : c.callee = .builtin .max) (hl : cOpds c.args.toList = some l) (hF : FR σ ρ F a) (hH : HR σ ρ H w) (hd : doX (.max l) F H = some (v, H')) : GivesQ p σ (execOp a.eval o) ρ H w v H' := by
  have hls := cOpds_sound hF hl
  have key : ∀ (r : List Opd) (rr : List Value) (u : V) (ru : Value) (out : V), VRs σ ρ (r.map (ev F)) rr → VR σ ρ u ru → mm true F r u = some out → ∃ y, (rr.foldlM Builtin.max2 ru : Sem Value).run p w = .ok y w ∧ VR σ ρ out y := by
    intro r
    induction r with
    | nil =>
      intro rr u ru out hr hu h
      cases hr
      simp [mm] at h; subst h
      exact ⟨ru, by simp, hu⟩
    | cons x r ih =>
      intro rr u ru out hr hu h
      cases hr with
      | cons h1 h2 =>
        rename_i y ry
        unfold mm at h
        split at h
        · rename_i e; cases e
        · rename_i x2 r2 k n e
          cases e
          split at h
          · rename_i k2 m e2
            rw [e2] at h1
            obtain ⟨z, hz1, hz2⟩ := ih ry _ (.int k (if n < m then m else n)) out h2 (by
              have : (bif (bif true then ltI n m else ltI m n) then m else n) = if n < m then m else n := by
                simp only [cond_true, ltI_spec]
                by_cases hh : n < m <;> simp [hh]
              rw [this]; exact .int _ _) h
            refine ⟨z, ?_, hz2⟩
            rw [List.foldlM_cons, hu.int_inv, h1.int_inv]
            simp [Sem.run_bind, Builtin.max2, hz1]
          · cases h
        · cases h
  simp only [doX] at hd
  split at hd
  · cases hd
  · rename_i x r
    split at hd
    · rename_i u hu
      simp only [Option.some.injEq, Prod.mk.injEq] at hd; obtain ⟨rfl, rfl⟩ := hd
      generalize hal : c.args.toList.map a.eval = al at hls
      cases hls with
      | cons h1 h2 =>
        rename_i ry rr
        obtain ⟨y, hy, hv⟩ := key r rr _ _ _ h2 h1 hu
        refine .same hH (x := y) ?_ hv
        rw [exec_builtin ho hb]
        refine run_v ?_
        simp [Builtin.max_, hal, hy]
    · cases hd
/-- an object set -/
theorem HR.setObj (hH : HR σ ρ H w) {q : P} {x : Blk} (hq : H.get q = some x) {b : RB} (hb : ρ q = some b) (o : Obj) (y : Blk) (hy : BlkR σ ρ { w with heap := w.heap.setIfInBounds b.r o } b y) :
    HR σ ρ (H.set q y) { w with heap := w.heap.setIfInBounds b.r o } ∧ Stp ρ H w ρ (H.set q y) { w with heap := w.heap.setIfInBounds b.r o } := by
  have hoth : ∀ r, r ≠ b.r → (w.heap.setIfInBounds b.r o)[r]? = w.heap[r]? := fun r hr => Array.getElem?_setIfInBounds_ne (fun e => hr e.symm)
  have hex : ∀ q' x', (H.set q y).get q' = some x' → ∃ z, H.get q' = some z := fun q' x' h => by
    rw [Hp.get_set] at h
    by_cases e : q' = q
    · exact ⟨x, e ▸ hq⟩
    · rw [if_neg e] at h; exact ⟨_, h⟩
  refine ⟨⟨?_, ?_, hH.fresh⟩, ⟨rfl, rfl, rfl, by simp, .refl _, Nat.le_refl _, fun _ _ h => .inl h, ?_, ?_⟩⟩
  · intro q1 q2 x1 x2 c1 c2 h1 h2 hc1 hc2 e
    obtain ⟨z1, hz1⟩ := hex _ _ h1
    obtain ⟨z2, hz2⟩ := hex _ _ h2
    exact hH.inj q1 q2 z1 z2 c1 c2 hz1 hz2 hc1 hc2 e
  · intro q1 x1 h1
    rw [Hp.get_set] at h1
    by_cases e : q1 = q
    · rw [if_pos e] at h1; cases h1; subst e; exact ⟨b, hb, hy⟩
    · rw [if_neg e] at h1
      obtain ⟨c, hc, hr⟩ := hH.blk q1 x1 h1
      exact ⟨c, hc, hr.mono (.refl _) (hoth _ (fun e' => e (hH.inj q1 q x1 x c b h1 hq hc hb e')))⟩
  · intro q1 x1 c h1 hc
    obtain ⟨z1, hz1⟩ := hex _ _ h1
    exact .inr ⟨q1, z1, c, hz1, hc, rfl⟩
  · intro r hr hf
    exact hoth r (fun e => hf q x b hq hb e.symm)
end
end Go.Proofs.YtfhjamimbgdfpaaGreat.X
