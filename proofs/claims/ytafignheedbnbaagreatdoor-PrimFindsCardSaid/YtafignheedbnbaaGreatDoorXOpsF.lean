/- A verified executor of the program's code, part XOpsF; no condition. -/
import Derived.Test.YtafignheedbnbaaGreatDoorXEq
import Derived.Laws.BytesString
namespace Go.Proofs.YtafignheedbnbaaGreatDoor.X
open Go
set_option linter.unusedVariables false
set_option linter.unusedSimpArgs false
section
variable {p : Program} {σ : Sg} {ρ : Ren} {F : Fr} {H H' : Hp} {a : Act} {w : World} {v : V} {xo : XO} {o : Oper}

theorem modify_push (h : Array Obj) (o : Obj) (f : Obj → Obj) : (h.push o).modify h.size f = h.push (f o) := by
  apply Array.ext
  · simp
  · intro i h1 h2
    rw [Array.getElem_modify]
    simp only [Array.getElem_push]
    by_cases e : i = h.size
    · subst e; simp
    · rw [if_neg (fun e' => e e'.symm)]
      simp at h2
      have : i < h.size := by omega
      simp [this]
theorem markStringish_run (w : World) (cs : Array Value) (e : TypeId) : (markStringish ⟨w.heap.size, 0, none⟩).run p (w.alloc (.cells cs e)) = .ok () (w.alloc (.cells cs e (cs.size, cs.size + 1))) := by
  have hs : (w.alloc (.cells cs e)).shape? w.heap.size = some (e, cs.size) := by
    show (match (w.heap.push (.cells cs e))[w.heap.size]? with | some (.cells c elem _) => some (elem, c.size) | _ => none) = _
    rw [Array.getElem?_push, if_pos rfl]
  have hf : (w.alloc (.cells cs e)).freeze ⟨w.heap.size, cs.size, none⟩ 1 = w.alloc (.cells cs e (cs.size, cs.size + 1)) := by
    unfold World.freeze
    rw [if_neg (by omega)]
    show ({ w with heap := (w.heap.push (.cells cs e)).modify w.heap.size _ } : World) = { w with heap := w.heap.push _ }
    rw [modify_push]
    simp
  simp only [markStringish, shape, Sem.run_bind, Sem.run, hs, Result.andThen_ok, freeze]
  rw [hf]
def eqable : Value → Prop | .int .. | .float .. | .complex .. | .string .. => False | _ => True
theorem binOp_eqable {t : TypeId} {rx ry : Value} (h : eqable rx) : binOp .eql t rx ry = (do pure (.bool (← Op.equal t rx ry))) ∧ binOp .neq t rx ry = (do pure (.bool (!(← Op.equal t rx ry)))) := by
  cases rx <;> first | exact h.elim | exact ⟨rfl, rfl⟩
theorem eqV_shape {k : EqK} {x y : V} {b : Bool} {rx ry : Value} (he : eqV H k x y = some b) (h1 : k ≠ .int) (h2 : k ≠ .str) (hx : VR σ ρ x rx) (hy : VR σ ρ y ry) :
    eqable rx ∧ (rx = .nilIface → ry = .nilIface → False) ∧ (∀ u u', rx = .agg u → ry = .agg u' → ∃ ps, k = .agg ps) := by
  unfold eqV at he
  split at he
  · unfold eqB at he; split at he
    · rw [hx.bool_inv]; exact ⟨trivial, by simp, by simp⟩
    · cases he
  · exact absurd rfl h1
  · exact absurd rfl h2
  · unfold eqPt at he; split at he
    · cases hx <;> exact ⟨trivial, by simp, by simp⟩
    · cases he
  · unfold eqSl at he; split at he
    · cases hx; exact ⟨trivial, by simp, by simp⟩
    · cases hx <;> exact ⟨trivial, by simp, by simp⟩
    · cases he
  · unfold eqMp at he; split at he
    · cases hx; exact ⟨trivial, by simp, by simp⟩
    · cases hx; exact ⟨trivial, by simp, by simp⟩
    · cases he
  · unfold eqFn at he; split at he
    · cases hx <;> exact ⟨trivial, by simp, by simp⟩
    · cases hx <;> exact ⟨trivial, by simp, by simp⟩
    · cases hx <;> exact ⟨trivial, by simp, by simp⟩
    · cases he
  · unfold eqIf at he; split at he
    · cases hx; cases hy; exact ⟨trivial, by simp, by simp⟩
    · cases hx; exact ⟨trivial, by simp, by simp⟩
    · cases he
  · rename_i ps
    split at he
    · rename_i xs ys hpo
      unfold partsOf at hpo
      split at hpo
      · simp at hpo; obtain ⟨rfl, rfl⟩ := hpo
        cases hx
        exact ⟨trivial, by simp, fun _ _ _ _ => ⟨ps, rfl⟩⟩
      · cases hpo
    · cases he
theorem eqK_agg {d : Nat} {t : TypeId} {ps : List (Nat × Nat × EqK)} (h : eqK p d t = some (.agg ps)) : aggT p t = some true := by
  cases d with
  | zero => simp [eqK] at h
  | succ d =>
    unfold eqK at h
    unfold aggT
    split at h <;> rename_i hu <;> first | (simp at h; done) | skip
    · split at h <;> simp at h
    · rw [hu]
theorem eqK_basic {d : Nat} {t : TypeId} : (eqK p d t = some .int → ∃ k, p.underlying t = some (.int k)) ∧ (eqK p d t = some .str → p.underlying t = some .string) := by
  cases d with
  | zero => simp [eqK]
  | succ d =>
    refine ⟨fun h => ?_, fun h => ?_⟩
    · unfold eqK at h
      split at h <;> rename_i hu <;> first | exact ⟨_, hu⟩ | (simp at h; done) | skip
      · split at h <;> simp at h
    · unfold eqK at h
      split at h <;> rename_i hu <;> first | exact hu | (simp at h; done) | skip
      · split at h <;> simp at h
theorem s_eq {op : BinOp} {neg : Bool} {t t' : TypeId} {x y : Operand} {x' y' : Opd} {k : EqK} (hop : (op = .eql ∧ neg = false) ∨ (op = .neq ∧ neg = true)) (ho : o.op = .binOp op t x y t') (hk : eqK p 20 t = some k) (hni : ∀ k, p.underlying t ≠ some (.int k)) (hns : p.underlying t ≠ some .string)
    (hg : ¬ (p.eqGuardType p.depth t = true ∧ aggT p t ≠ some false)) (hx : cOpd x = some x') (hy : cOpd y = some y') (hF : FR σ ρ F a) (hH : HR σ ρ H w) (hd : doX (.eq neg k x' y') F H = some (v, H')) : GivesQ p σ (execOp a.eval o) ρ H w v H' := by
  have hx' := cOpd_sound hF hx
  have hy' := cOpd_sound hF hy
  simp only [doX] at hd
  split at hd
  · rename_i b he
    simp only [Option.some.injEq, Prod.mk.injEq] at hd; obtain ⟨rfl, rfl⟩ := hd
    have hk1 : k ≠ .int := fun e => by subst e; obtain ⟨q, hq⟩ := eqK_basic.1 hk; exact hni q hq
    have hk2 : k ≠ .str := fun e => by subst e; exact hns (eqK_basic.2 hk)
    obtain ⟨g1, g2, g3⟩ := eqV_shape he hk1 hk2 hx' hy'
    have heq : (Op.equal t (a.eval x) (a.eval y)).run p w = .ok b w := eqV_sound hH 20 10000 t k _ _ b _ _ (by omega) hk he hx' hy'
    have hgu : (eqGuard op t x y (a.eval x) (a.eval y)).run p w = .ok () w := by
      by_cases ha : ∃ u u', a.eval x = .agg u ∧ a.eval y = .agg u'
      · obtain ⟨u, u', e1, e2⟩ := ha
        obtain ⟨ps, rfl⟩ := g3 u u' e1 e2
        have hag := eqK_agg hk
        have : p.eqGuardType p.depth t = false := by
          cases hgt : p.eqGuardType p.depth t with
          | false => rfl
          | true => exact absurd ⟨hgt, by rw [hag]; simp⟩ hg
        rw [e1, e2]
        exact run_eqGuard_agg w op t x y u u' this
      · exact eqGuard_skip (fun _ => ⟨g2, fun u u' e1 e2 => ha ⟨u, u', e1, e2⟩⟩)
    rcases hop with ⟨rfl, rfl⟩ | ⟨rfl, rfl⟩
    · refine .same hH (run_bin ho hgu (r := .bool b) ?_) (.bool _)
      rw [(binOp_eqable g1).1]
      simp [Sem.run_bind, heq]
    · refine .same hH (run_bin ho hgu (r := .bool (!b)) ?_) (.bool _)
      rw [(binOp_eqable g1).2]
      simp [Sem.run_bind, heq]
  · cases hd
theorem s_toBytes {src dst e : TypeId} {x : Operand} {x' : Opd} (ho : o.op = .convert src dst x) (h1 : p.underlying src = some .string) (h2 : p.underlying dst = some (.slice e)) (h3 : p.underlying e = some (.int .u8)) (hx : cOpd x = some x') (hF : FR σ ρ F a) (hH : HR σ ρ H w) (hd : doX (.toBytes x') F H = some (v, H')) : Gives p σ (execOp a.eval o) ρ H w v H' := by
  have hx' := cOpd_sound hF hx
  simp only [doX] at hd
  split at hd
  · rename_i l n e1
    rw [e1] at hx'
    obtain ⟨h0, hd'⟩ := bif_some hd
    clear hd
    simp only [Option.some.injEq, Prod.mk.injEq] at hd'; obtain ⟨rfl, rfl⟩ := hd'
    obtain ⟨s, hax, rfl, rfl⟩ := hx'.str_inv
    have hv := asBytes_spec (σ := σ) (ρ := ρ) s.size s.data.toList 0 (by rw [size_data]; omega)
    simp only [List.drop_zero] at hv
    have hfc : (Question.appendCap s.size 0 e).forced = false := rfl
    obtain ⟨cap, hcap⟩ : ∃ cap, cap = Question.cut (.appendCap s.size 0 e) (w.tape w.drawn (.appendCap s.size 0 e)) := ⟨_, rfl⟩
    have hle : s.size ≤ cap := by rw [hcap]; simp [Question.cut]
    obtain ⟨g1, g2⟩ := hH.drew.newRow (w := w.drew) hv (sp := List.replicate (cap - s.size) (.int .u8 0)) e false (by simp) cap (cap + 1) (fun j hj => by
      simp [← size_data] at hj; omega) (by simp)
    have hn : (s.data.toList.map fun b => Value.int .u8 b.toNat).length + (List.replicate (cap - s.size) (Value.int .u8 0)).length = cap := by
      simp [← size_data]; omega
    rw [hn] at g1 g2
    refine ⟨.slice (some ⟨w.heap.size, 0, none⟩) s.size cap, _, _, .inl ?_, ?_, g1, Stp.of_drew g2⟩
    · simp only [execOp, ho, hax]
      refine run_v ?_
      have hdat : (s.data.map fun b => Value.int .u8 b.toNat) ++ Array.replicate (cap - s.size) (.int .u8 0) = ⟨(s.data.toList.map fun b => Value.int .u8 b.toNat) ++ List.replicate (cap - s.size) (.int .u8 0)⟩ := by
        apply Array.ext'; simp
      have hsz : (⟨(s.data.toList.map fun b => Value.int .u8 b.toNat) ++ List.replicate (cap - s.size) (.int .u8 0)⟩ : Array Value).size = cap := by
        simp [← size_data]; omega
      have hm := markStringish_run (p := p) w.drew ⟨(s.data.toList.map fun b => Value.int .u8 b.toNat) ++ List.replicate (cap - s.size) (.int .u8 0)⟩ e
      rw [hsz] at hm
      have hsb : (Conv.stringToBytes e s).run p w = .ok (.slice (some ⟨w.heap.size, 0, none⟩) s.size cap) (w.drew.alloc (.cells ⟨(s.data.toList.map fun b => Value.int .u8 b.toNat) ++ List.replicate (cap - s.size) (.int .u8 0)⟩ e (cap, cap + 1))) := by
        unfold Conv.stringToBytes
        simp only [Sem.run_bind, choose, Sem.run, hfc, Bool.false_eq_true, if_false, ← hcap, Result.andThen_ok, hdat, newRow, newObj, Sem.run_pure]
        have hm' : (markStringish ⟨w.heap.size, 0, none⟩).run p (w.drew.alloc (.cells ⟨(s.data.toList.map fun b => Value.int .u8 b.toNat) ++ List.replicate (cap - s.size) (.int .u8 0)⟩ e)) = _ := hm
        erw [hm']
        rfl
      simp [convert, Sem.run_bind, run_und h1, run_und h2, run_und h3, hsb]
      rfl
    · have := VR.slc (σ := σ) (ρ := ρ.add H.next ⟨w.heap.size, 0, cap⟩) (p := H.next) (b := ⟨w.heap.size, 0, cap⟩) (i := 0) (sz := 1) (l := s.size) (cap := cap) (c := none) (Ren.add_same _ _ _) hle (by simp) (by simp)
      simpa using this
  · cases hd
end
end Go.Proofs.YtafignheedbnbaaGreatDoor.X
namespace Go.Proofs.YtafignheedbnbaaGreatDoor.X
open Go
set_option linter.unusedVariables false
set_option linter.unusedSimpArgs false
section
variable {p : Program} {σ : Sg} {ρ : Ren} {F : Fr} {H H' : Hp} {a : Act} {w : World} {v : V} {xo : XO} {o : Oper}

theorem digitsOf_sound : ∀ {vs : List V} {xs : List Value} {n : Nat}, VRs σ ρ vs xs → digitsOf vs = some n → ∃ ns : List Int, xs = ns.map (Value.int .u8) ∧ ∃ bs : List UInt8, ns.map (fun n => UInt8.ofNat n.toNat) = bs ∧ digits bs = n
  | [], _, n, .nil, h => by simp [digitsOf] at h; subst h; exact ⟨[], rfl, [], rfl, rfl⟩
  | v :: r, _, n, .cons hv ht, h => by
    unfold digitsOf at h
    split at h
    · rename_i e; cases e
    · rename_i a r' e
      cases e
      obtain ⟨h0, h'⟩ := bif_some h
      clear h
      simp only [blt_iff, decide_eq_true_eq] at h0
      split at h'
      · rename_i m hm
        simp at h'; subst h'
        obtain ⟨ns, rfl, bs, hb, hd⟩ := digitsOf_sound ht hm
        refine ⟨(a : Int) :: ns, by rw [hv.int_inv]; rfl, UInt8.ofNat a :: bs, by simp [hb], ?_⟩
        simp only [digits, hd]
        have : (UInt8.ofNat a).toNat = a := by simp; omega
        rw [this]
      · cases h'
    · cases h
theorem foldl_push : ∀ (ns : List Int) (s : ByteArray), (ns.foldl (fun r n => r.push (UInt8.ofNat n.toNat)) s).data.toList = s.data.toList ++ ns.map (fun n => UInt8.ofNat n.toNat)
  | [], s => by simp
  | n :: ns, s => by
    rw [List.foldl_cons, foldl_push ns]
    show (s.data.push _).toList ++ _ = _
    simp
theorem s_toStr {src dst e : TypeId} {x : Operand} {x' : Opd} (ho : o.op = .convert src dst x) (h1 : p.underlying src = some (.slice e)) (h2 : p.underlying dst = some .string) (h3 : p.underlying e = some (.int .u8)) (hx : cOpd x = some x') (hF : FR σ ρ F a) (hH : HR σ ρ H w) (hd : doX (.toStr x') F H = some (v, H')) : GivesQ p σ (execOp a.eval o) ρ H w v H' := by
  have hx' := cOpd_sound hF hx
  have hex : ∀ r, (Conv.bytesToString (a.eval x)).run p w = .ok r w → (∃ ra l cap, a.eval x = .slice ra l cap) → (execOp a.eval o).run p w = .ok (.value r) w := fun r hr ⟨ra, l, cap, hax⟩ => by
    simp only [execOp, ho]
    refine run_v ?_
    rw [hax] at hr ⊢
    simp [convert, Sem.run_bind, run_und h1, run_und h2, run_und h3, hr]
  simp only [doX] at hd
  split at hd
  · rename_i e1
    rw [e1] at hx'
    simp only [Option.some.injEq, Prod.mk.injEq] at hd; obtain ⟨rfl, rfl⟩ := hd
    generalize hax : a.eval x = ax at hx'
    cases hx'
    exact .same hH (hex (.string .empty) (by rw [hax]; simp [Conv.bytesToString]) ⟨_, _, _, hax⟩) (.str .empty)
  · rename_i b i sz l c e1
    rw [e1] at hx'
    split at hd
    · rename_i vs hl
      split at hd
      · rename_i n hn
        simp only [Option.some.injEq, Prod.mk.injEq] at hd; obtain ⟨rfl, rfl⟩ := hd
        have key : ∀ (rb : RB) (xa : Addr) (cap : Nat), ρ b = some rb → a.eval x = .slice (some xa) l cap → (l = 0 ∨ xa = ⟨rb.r, rb.b + i, none⟩) → GivesQ p σ (execOp a.eval o) ρ H w (.str l n) H := by
          intro rb xa cap hb hax hxa
          obtain ⟨xs, g1, g2, g3⟩ := hH.loadn hl hb
          obtain ⟨ns, rfl, bs, hbs, hdg⟩ := digitsOf_sound g1 hn
          have hlen : ns.length = l := by simpa using g2
          have hload : (loadCells xa l).run p w = .ok (ns.map (Value.int .u8)).toArray w := by
            rcases hxa with rfl | rfl
            · obtain rfl : ns = [] := List.length_eq_zero_iff.1 hlen
              have := run_loadCells_list (P := p) w xa [] (by simp)
              simpa using this
            · have := run_loadCells_list (P := p) w ⟨rb.r, rb.b + i, none⟩ (ns.map (Value.int .u8)) g3
              rw [g2] at this
              exact this
          have hr := run_bytesToString (P := p) w xa l cap ns hload
          have hdat := foldl_push ns ByteArray.empty
          generalize hS : ns.foldl (fun r n => r.push (UInt8.ofNat n.toNat)) ByteArray.empty = S at hr hdat
          have hd2 : S.data.toList = bs := by rw [hdat, hbs]; simp
          have hsz : S.size = l := by rw [size_data, hd2, ← hbs]; simp [hlen]
          refine .same hH (hex (.string S) (by rw [hax]; exact hr) ⟨_, _, _, hax⟩) ?_
          rw [← hdg, ← hd2, ← hsz]
          exact .str S
        generalize hax : a.eval x = ax at hx'
        cases hx' with
        | slc hb hl' hcc hnn => exact key _ _ _ hb hax (.inr rfl)
        | slc0 hb hcc => exact key _ _ _ hb hax (.inl rfl)
      · cases hd
    · cases hd
  · cases hd
theorem s_min {c : Call} {l : List Opd} (ho : o.op = .call c) (hb : c.callee = .builtin .min) (hl : cOpds c.args.toList = some l) (hF : FR σ ρ F a) (hH : HR σ ρ H w) (hd : doX (.min l) F H = some (v, H')) : GivesQ p σ (execOp a.eval o) ρ H w v H' := by
  have hls := cOpds_sound hF hl
  have key : ∀ (r : List Opd) (rr : List Value) (u : V) (ru : Value) (out : V), VRs σ ρ (r.map (ev F)) rr → VR σ ρ u ru → mm false F r u = some out → ∃ y, (rr.foldlM Builtin.min2 ru : Sem Value).run p w = .ok y w ∧ VR σ ρ out y := by
    intro r
    induction r with
    | nil =>
      intro rr u ru out hr hu h
      cases hr
      simp [mm] at h; subst h
      exact ⟨ru, by simp, hu⟩
    | cons x r ih =>
      intro rr u ru out hr hu h
      cases hr with
      | cons h1 h2 =>
        rename_i y ry
        unfold mm at h
        split at h
        · rename_i e; cases e
        · rename_i x2 r2 k n e
          cases e
          split at h
          · rename_i k2 m e2
            rw [e2] at h1
            obtain ⟨z, hz1, hz2⟩ := ih ry _ (.int k (if m < n then m else n)) out h2 (by
              have : (bif (bif false then ltI n m else ltI m n) then m else n) = if m < n then m else n := by
                simp only [cond_false, ltI_spec]
                by_cases hh : m < n <;> simp [hh]
              rw [this]; exact .int _ _) h
            refine ⟨z, ?_, hz2⟩
            rw [List.foldlM_cons, hu.int_inv, h1.int_inv]
            simp [Sem.run_bind, Builtin.min2, hz1]
          · cases h
        · cases h
  simp only [doX] at hd
  split at hd
  · cases hd
  · rename_i x r
    split at hd
    · rename_i u hu
      simp only [Option.some.injEq, Prod.mk.injEq] at hd; obtain ⟨rfl, rfl⟩ := hd
      generalize hal : c.args.toList.map a.eval = al at hls
      cases hls with
      | cons h1 h2 =>
        rename_i ry rr
        obtain ⟨y, hy, hv⟩ := key r rr _ _ _ h2 h1 hu
        refine .same hH (x := y) ?_ hv
        rw [exec_builtin ho hb]
        refine run_v ?_
        simp [Builtin.min_, hal, hy]
    · cases hd
theorem s_max {c : Call} {l : List Opd} (ho : o.op = .call c) (hb : c.callee = .builtin .max) (hl : cOpds c.args.toList = some l) (hF : FR σ ρ F a) (hH : HR σ ρ H w) (hd : doX (.max l) F H = some (v, H')) : GivesQ p σ (execOp a.eval o) ρ H w v H' := by
  have hls := cOpds_sound hF hl
  have key : ∀ (r : List Opd) (rr : List Value) (u : V) (ru : Value) (out : V), VRs σ ρ (r.map (ev F)) rr → VR σ ρ u ru → mm true F r u = some out → ∃ y, (rr.foldlM Builtin.max2 ru : Sem Value).run p w = .ok y w ∧ VR σ ρ out y := by
    intro r
    induction r with
    | nil =>
      intro rr u ru out hr hu h
      cases hr
      simp [mm] at h; subst h
      exact ⟨ru, by simp, hu⟩
    | cons x r ih =>
      intro rr u ru out hr hu h
      cases hr with
      | cons h1 h2 =>
        rename_i y ry
        unfold mm at h
        split at h
        · rename_i e; cases e
        · rename_i x2 r2 k n e
          cases e
          split at h
          · rename_i k2 m e2
            rw [e2] at h1
            obtain ⟨z, hz1, hz2⟩ := ih ry _ (.int k (if n < m then m else n)) out h2 (by
              have : (bif (bif true then ltI n m else ltI m n) then m else n) = if n < m then m else n := by
                simp only [cond_true, ltI_spec]
                by_cases hh : n < m <;> simp [hh]
              rw [this]; exact .int _ _) h
            refine ⟨z, ?_, hz2⟩
            rw [List.foldlM_cons, hu.int_inv, h1.int_inv]
            simp [Sem.run_bind, Builtin.max2, hz1]
          · cases h
        · cases h
  simp only [doX] at hd
  split at hd
  · cases hd
  · rename_i x r
    split at hd
    · rename_i u hu
      simp only [Option.some.injEq, Prod.mk.injEq] at hd; obtain ⟨rfl, rfl⟩ := hd
      generalize hal : c.args.toList.map a.eval = al at hls
      cases hls with
      | cons h1 h2 =>
        rename_i ry rr
        obtain ⟨y, hy, hv⟩ := key r rr _ _ _ h2 h1 hu
        refine .same hH (x := y) ?_ hv
        rw [exec_builtin ho hb]
        refine run_v ?_
        simp [Builtin.max_, hal, hy]
    · cases hd
/-- an object set -/
theorem HR.setObj (hH : HR σ ρ H w) {q : P} {x : Blk} (hq : H.get q = some x) {b : RB} (hb : ρ q = some b) (o : Obj) (y : Blk) (hy : BlkR σ ρ { w with heap := w.heap.setIfInBounds b.r o } b y) :
    HR σ ρ (H.set q y) { w with heap := w.heap.setIfInBounds b.r o } ∧ Stp ρ H w ρ (H.set q y) { w with heap := w.heap.setIfInBounds b.r o } := by
  have hoth : ∀ r, r ≠ b.r → (w.heap.setIfInBounds b.r o)[r]? = w.heap[r]? := fun r hr => Array.getElem?_setIfInBounds_ne (fun e => hr e.symm)
  have hex : ∀ q' x', (H.set q y).get q' = some x' → ∃ z, H.get q' = some z := fun q' x' h => by
    rw [Hp.get_set] at h
    by_cases e : q' = q
    · exact ⟨x, e ▸ hq⟩
    · rw [if_neg e] at h; exact ⟨_, h⟩
  refine ⟨⟨?_, ?_, hH.fresh⟩, ⟨rfl, rfl, rfl, by simp, .refl _, Nat.le_refl _, fun _ _ h => .inl h, ?_, ?_⟩⟩
  · intro q1 q2 x1 x2 c1 c2 h1 h2 hc1 hc2 e
    obtain ⟨z1, hz1⟩ := hex _ _ h1
    obtain ⟨z2, hz2⟩ := hex _ _ h2
    exact hH.inj q1 q2 z1 z2 c1 c2 hz1 hz2 hc1 hc2 e
  · intro q1 x1 h1
    rw [Hp.get_set] at h1
    by_cases e : q1 = q
    · rw [if_pos e] at h1; cases h1; subst e; exact ⟨b, hb, hy⟩
    · rw [if_neg e] at h1
      obtain ⟨c, hc, hr⟩ := hH.blk q1 x1 h1
      exact ⟨c, hc, hr.mono (.refl _) (hoth _ (fun e' => e (hH.inj q1 q x1 x c b h1 hq hc hb e')))⟩
  · intro q1 x1 c h1 hc
    obtain ⟨z1, hz1⟩ := hex _ _ h1
    exact .inr ⟨q1, z1, c, hz1, hc, rfl⟩
  · intro r hr hf
    exact hoth r (fun e => hf q x b hq hb e.symm)
end
end Go.Proofs.YtafignheedbnbaaGreatDoor.X
namespace Go.Proofs.YtafignheedbnbaaGreatDoor.X
open Go
set_option linter.unusedVariables false
set_option linter.unusedSimpArgs false
section
variable {p : Program} {σ : Sg} {ρ : Ren} {H : Hp} {w : World}
theorem forIn_ok {fs : List Field} {body : Field → PUnit → Sem (ForInStep PUnit)} (h : ∀ f ∈ fs, (body f ⟨⟩).run p w = .ok (.yield ⟨⟩) w) : (forIn fs PUnit.unit body : Sem PUnit).run p w = .ok ⟨⟩ w := by
  induction fs with
  | nil => simp
  | cons f r ih =>
    rw [List.forIn_cons]
    simp only [Sem.run_bind, h f (by simp), Result.andThen_ok]
    exact ih fun g hg => h g (by simp [hg])
/-- a basic kind's type -/
theorem key0_spec {d : Nat} {t : TypeId} {q : EqK} (h : eqK p d t = some q) (hk : q.key0 = true) : (q = .bool ∧ p.underlying t = some .bool) ∨ (q = .int ∧ ∃ k, p.underlying t = some (.int k)) ∨ (q = .str ∧ p.underlying t = some .string) := by
  cases d with
  | zero => simp [eqK] at h
  | succ d =>
    unfold eqK at h
    split at h <;> rename_i hu
    · simp at h; exact .inl ⟨h.symm, hu⟩
    · simp at h; exact .inr (.inl ⟨h.symm, _, hu⟩)
    · simp at h; exact .inr (.inr ⟨h.symm, hu⟩)
    · split at h
      · cases h
      · simp at h; subst h; simp [EqK.key0] at hk
      · cases h
    all_goals first | (simp at h; done) | (simp at h; subst h; simp [EqK.key0] at hk; done) | skip
    split at h
    · simp at h
    · simp at h; obtain ⟨_, _, rfl⟩ := h; simp [EqK.key0] at hk
theorem checkKey0 {n : Nat} {t : TypeId} {d : TypeDesc} {rk : Value} {em : Bool} (hu : p.underlying t = some d) (hd : d = .bool ∨ (∃ k, d = .int k) ∨ d = .string) : (Instr.checkKey em (n + 1) t rk).run p w = .ok () w := by
  unfold Instr.checkKey
  rcases hd with rfl | ⟨k, rfl⟩ | rfl <;> simp [Sem.run_bind, run_und hu]
theorem agg_of_key {t : TypeId} {q : EqK} (h : eqK p 20 t = some q) (hk : q.key = true) : q.key0 = true ∨ ∃ fs ps, p.underlying t = some (.struct fs) ∧ q = .agg ps ∧ p.stoodInHeld t = false ∧ (∀ x ∈ ps, x.2.1 = 0 ∧ x.2.2.key0 = true) ∧
    ((fs.toList.filter fun f : Field => decide (f.name ≠ "_")).mapM fun f : Field => do
          let k ← eqK p 19 f.type
          let s ← partSz p f.type
          pure (f.offset, s, k)) = some ps := by
  have h' := h
  unfold eqK at h
  split at h <;> rename_i hu
  all_goals first
    | (simp at h; done)
    | (simp at h; subst h; exact .inl rfl)
    | (simp at h; subst h; simp [EqK.key, EqK.key0] at hk; done)
    | skip
  · split at h
    · cases h
    · simp at h; subst h; simp [EqK.key, EqK.key0] at hk
    · cases h
  · split at h
    · cases h
    · rename_i hst
      simp only [Option.map_eq_some_iff] at h
      obtain ⟨ps, hps, rfl⟩ := h
      refine .inr ⟨_, ps, hu, rfl, by simpa using hst, fun x hx => ?_, hps⟩
      have := List.all_eq_true.1 hk x hx
      simp only [Bool.and_eq_true, beq_iff, decide_eq_true_eq] at this
      exact this
theorem mapM_mem {f : Field → Option (Nat × Nat × EqK)} : ∀ {l : List Field} {ps : List (Nat × Nat × EqK)}, l.mapM f = some ps → ∀ x ∈ l, ∃ q ∈ ps, f x = some q
  | [], ps, h, x, hx => by simp at hx
  | y :: l, ps, h, x, hx => by
    simp only [List.mapM_cons, Option.bind_eq_bind, Option.bind_eq_some_iff, Option.pure_def, Option.some.injEq] at h
    obtain ⟨q, hq, r, hr, rfl⟩ := h
    rcases List.mem_cons.1 hx with rfl | hx
    · exact ⟨q, by simp, hq⟩
    · obtain ⟨q', h1, h2⟩ := mapM_mem hr x hx
      exact ⟨q', by simp [h1], h2⟩
theorem checkKey_any {t : TypeId} {q : EqK} {v : V} {rk : Value} {em : Bool} (hq : eqK p 20 t = some q) (hk : q.key = true) (hs : keyShape q v = true) (hv : VR σ ρ v rk) : (Instr.checkKey em 10000 t rk).run p w = .ok () w := by
  rcases agg_of_key hq hk with h0 | ⟨fs, ps, hu, rfl, -, hps, hm⟩
  · show (Instr.checkKey em (9999 + 1) t rk).run p w = _
    rcases key0_spec hq h0 with ⟨-, h⟩ | ⟨-, k, h⟩ | ⟨-, h⟩
    · exact checkKey0 h (.inl rfl)
    · exact checkKey0 h (.inr (.inl ⟨k, rfl⟩))
    · exact checkKey0 h (.inr (.inr rfl))
  · unfold keyShape at hs
    split at hs
    · rename_i ps' cs e
      cases e
      simp only [Bool.and_eq_true] at hs
      cases hv with
      | agg hcs =>
        rename_i rcs
        show (Instr.checkKey em (9999 + 1) t _).run p w = _
        unfold Instr.checkKey
        simp only [Sem.run_bind, run_und hu, Result.andThen_ok]
        rw [← Array.forIn_toList]
        have := forIn_ok (p := p) (w := w) (fs := fs.toList) (body := fun f _ => (do
          if f.name ≠ "_" then Instr.checkKey em 9999 f.type (← part f.type ⟨rcs⟩ f.offset)
          pure (ForInStep.yield PUnit.unit) : Sem (ForInStep PUnit))) (fun f hf => by
            by_cases hn : f.name = "_"
            · simp [hn]
            · obtain ⟨q, hq1, hq2⟩ := mapM_mem hm f (List.mem_filter.2 ⟨hf, by simpa using hn⟩)
              simp only [Option.bind_eq_bind, Option.bind_eq_some_iff, Option.pure_def, Option.some.injEq] at hq2
              obtain ⟨k1, hk1, s1, hs1, rfl⟩ := hq2
              obtain ⟨rfl, hk0⟩ := hps _ hq1
              have hlt := List.all_eq_true.1 hs.1 _ hq1
              have hlt' : f.offset < cs.length := by simpa using hlt
              obtain ⟨y, hy, -⟩ := sub1_sound (p := p) (w := w) hs1 hcs (show sub1 cs f.offset 0 = some cs[f.offset] by simp [sub1, hlt'])
              have hc : (Instr.checkKey em 9999 f.type y).run p w = .ok () w := by
                show (Instr.checkKey em (9998 + 1) f.type y).run p w = _
                rcases key0_spec hk1 hk0 with ⟨-, h⟩ | ⟨-, k, h⟩ | ⟨-, h⟩
                · exact checkKey0 h (.inl rfl)
                · exact checkKey0 h (.inr (.inl ⟨k, rfl⟩))
                · exact checkKey0 h (.inr (.inr rfl))
              simp [hn, Sem.run_bind, hy, hc])
        simp at this ⊢
        rw [this]; rfl
    · cases hs
    · rename_i h1 h2
      exact absurd rfl (h1 ps)

theorem basic_same {v : V} {x y : Value} (h : v.basic = true) (h1 : VR σ ρ v x) (h2 : VR σ ρ v y) (n : Nat) : Instr.sameBits n x y = true := by
  cases v <;> first | (simp [V.basic] at h; done) | skip
  · rw [h1.bool_inv, h2.bool_inv]; simp [Instr.sameBits]
  · rw [h1.int_inv, h2.int_inv]; simp [Instr.sameBits]
  · obtain ⟨s1, rfl, e1, f1⟩ := h1.str_inv
    obtain ⟨s2, rfl, e2, f2⟩ := h2.str_inv
    have : (Nat.beq s1.size s2.size && Nat.beq (digits s1.data.toList) (digits s2.data.toList)) = true := by
      simp only [Bool.and_eq_true, beq_iff, decide_eq_true_eq]; omega
    rw [str_eq, ← beq_toListBytes] at this
    simp only [Instr.sameBits]
    exact this
theorem basics_same : ∀ {cs : List V} {xs ys : List Value}, cs.all V.basic = true → VRs σ ρ cs xs → VRs σ ρ cs ys → (xs.zip ys).all (fun (x, y) => Instr.sameBits 9999 x y) = true
  | _, _, _, _, .nil, .nil => rfl
  | _, _, _, h, .cons h1 t1, .cons h2 t2 => by
    simp only [List.all_cons, Bool.and_eq_true] at h
    simp only [List.zip_cons_cons, List.all_cons, Bool.and_eq_true]
    exact ⟨basic_same h.1 h1 h2 _, basics_same h.2 t1 t2⟩
end
end Go.Proofs.YtafignheedbnbaaGreatDoor.X
namespace Go.Proofs.YtafignheedbnbaaGreatDoor.X
open Go
set_option linter.unusedVariables false
set_option linter.unusedSimpArgs false
section
variable {p : Program} {σ : Sg} {ρ : Ren} {F : Fr} {H H' : Hp} {a : Act} {w : World} {v : V} {xo : XO} {o : Oper}

theorem sameV_eq {v u : V} (h : sameV v u = true) : v = u := by
  have flat : ∀ a b : V, flatEq a b = true → a = b := by
    intro a b h
    unfold flatEq at h
    split at h <;> simp_all [beq_iff, eqI_spec]
  have flats : ∀ a b : List V, flatEqs a b = true → a = b := by
    intro a
    induction a with
    | nil => intro b h; cases b <;> simp_all [flatEqs]
    | cons x r ih => intro b h; cases b with
      | nil => simp [flatEqs] at h
      | cons y s => simp [flatEqs] at h; rw [flat _ _ h.1, ih _ h.2]
  unfold sameV at h
  split at h
  · rw [flats _ _ h]
  · exact flat _ _ h

/-- one key against another -/
theorem eqV_now {q : EqK} {t : TypeId} {d : TypeDesc} {x y : V} {rx ry : Value} {b : Bool} (hq : (q = .bool ∧ d = .bool) ∨ (q = .int ∧ ∃ k, d = .int k) ∨ (q = .str ∧ d = .string)) (he : eqV H q x y = some b) (hx : VR σ ρ x rx) (hy : VR σ ρ y ry) :
    Instr.sameNow d rx ry = some b ∧ (b = true → Instr.sameBits 10000 ry rx = true) := by
  rcases hq with ⟨rfl, rfl⟩ | ⟨rfl, k, rfl⟩ | ⟨rfl, rfl⟩ <;> simp only [eqV] at he
  · unfold eqB at he
    split at he
    · simp at he; subst he
      rw [hx.bool_inv, hy.bool_inv]
      exact ⟨rfl, fun h => by simp at h; subst h; simp [Instr.sameBits]⟩
    · cases he
  · unfold eqN at he
    split at he
    · obtain ⟨h0, he'⟩ := bif_some he
      clear he
      simp at h0 he'; subst h0
      rw [hx.int_inv, hy.int_inv]
      rw [eqI_spec] at he'
      exact ⟨by simp [Instr.sameNow, he'], fun h => by subst h; simp at he'; subst he'; simp [Instr.sameBits]⟩
    · cases he
  · unfold eqT at he
    split at he
    · obtain ⟨s1, q1, rfl, rfl⟩ := hx.str_inv
      obtain ⟨s2, q2, rfl, rfl⟩ := hy.str_inv
      simp only [Option.some.injEq] at he
      rw [str_eq, ← beq_toListBytes] at he
      rw [q1, q2]
      refine ⟨by simp [Instr.sameNow, he], fun h => ?_⟩
      subst h
      rw [beq_toListBytes] at he
      simp only [Instr.sameBits]
      rw [beq_toListBytes]
      simp at he ⊢
      exact he.symm
    · cases he
theorem findK_sound {q : EqK} {d : TypeDesc} {key : V} {rk : Value} (hq : (q = .bool ∧ d = .bool) ∨ (q = .int ∧ ∃ k, d = .int k) ∨ (q = .str ∧ d = .string)) (hk : VR σ ρ key rk) : ∀ (es : List (V × V × Nat)) (rs : List MapEntry) (i : Nat) (r : Option (Nat × V × Nat)),
    VRs σ ρ (es.map (·.1)) (rs.map (·.key)) → VRs σ ρ (es.map (·.2.1)) (rs.map (·.val)) → es.map (·.2.2) = rs.map (·.born) → findK H q key es i = some r →
    (r = none ∧ Instr.findNow d rk rs i = some none) ∨ (∃ j u b rv, r = some (j, u, b) ∧ Instr.findNow d rk rs i = some (some (j, rv)) ∧ VR σ ρ u rv ∧ i ≤ j ∧ j - i < es.length ∧ (∃ e, rs[j - i]? = some e ∧ Instr.sameBits 10000 e.key rk = true ∧ e.born = b))
  | [], rs, i, r, h1, h2, h3, h => by
    cases rs with
    | nil => simp [findK] at h; subst h; exact .inl ⟨rfl, rfl⟩
    | cons e rs => simp at h3
  | (k, u, b) :: es, rs, i, r, h1, h2, h3, h => by
    cases rs with
    | nil => simp at h3
    | cons e rs =>
      simp only [List.map_cons] at h1 h2 h3
      cases h1 with
      | cons g1 g2 =>
        cases h2 with
        | cons g3 g4 =>
          simp only [List.cons.injEq] at h3
          unfold findK at h
          split at h
          · rename_i he
            simp at h; subst h
            obtain ⟨z1, z2⟩ := eqV_now (t := 0) hq he hk g1
            exact .inr ⟨i, u, b, e.val, rfl, by simp [Instr.findNow, z1], g3, Nat.le_refl _, by simp, e, by simp, z2 rfl, h3.1.symm⟩
          · rename_i he
            obtain ⟨z1, -⟩ := eqV_now (t := 0) hq he hk g1
            rcases findK_sound hq hk es rs (i + 1) r g2 g4 h3.2 h with ⟨rfl, hn⟩ | ⟨j, u', b', rv, rfl, hn, hv, hle, hlt, e', he', hs, hb⟩
            · exact .inl ⟨rfl, by simp [Instr.findNow, z1, hn]⟩
            · refine .inr ⟨j, u', b', rv, rfl, by simp [Instr.findNow, z1, hn], hv, by omega, by simp; omega, e', ?_, hs, hb⟩
              rw [show j - i = (j - (i + 1)) + 1 from by omega]
              simpa using he'
          · cases h
theorem checkKey_run {t : TypeId} {d : TypeDesc} {rk : Value} {em : Bool} (hu : p.underlying t = some d) (hd : d = .bool ∨ (∃ k, d = .int k) ∨ d = .string) : (Instr.checkKey em 10000 t rk).run p w = .ok () w := by
  show (Instr.checkKey em (9999 + 1) t rk).run p w = _
  unfold Instr.checkKey
  rcases hd with rfl | ⟨k, rfl⟩ | rfl <;> simp [Sem.run_bind, run_und hu]
theorem findKey_run {t : TypeId} {d : TypeDesc} {rk : Value} {rs : List MapEntry} {r : Option (Nat × Value)} (hu : p.underlying t = some d) (h : Instr.findNow d rk rs 0 = some r) : (Instr.findKey t rk rs).run p w = .ok r w := by
  unfold Instr.findKey
  simp [Sem.run_bind, run_und hu, h]
theorem findAsking_sound {t : TypeId} {q : EqK} {key : V} {rk : Value} (hH : HR σ ρ H w) (hq : eqK p 20 t = some q) (hk : VR σ ρ key rk) : ∀ (es : List (V × V × Nat)) (rs : List MapEntry) (i : Nat) (r : Option (Nat × V × Nat)),
    VRs σ ρ (es.map (·.1)) (rs.map (·.key)) → VRs σ ρ (es.map (·.2.1)) (rs.map (·.val)) → es.map (·.2.2) = rs.map (·.born) → findK H q key es i = some r →
    (r = none ∧ (Instr.findAsking t rk rs i).run p w = .ok none w) ∨ (∃ j u b rv, r = some (j, u, b) ∧ (Instr.findAsking t rk rs i).run p w = .ok (some (j, rv)) w ∧ VR σ ρ u rv ∧ i ≤ j ∧ j - i < es.length ∧ (∃ e x, rs[j - i]? = some e ∧ es[j - i]? = some x ∧ VR σ ρ x.1 e.key ∧ e.born = b))
  | [], rs, i, r, h1, h2, h3, h => by
    cases rs with
    | nil => simp [findK] at h; subst h; exact .inl ⟨rfl, by simp [Instr.findAsking]⟩
    | cons e rs => simp at h3
  | (k, u, b) :: es, rs, i, r, h1, h2, h3, h => by
    cases rs with
    | nil => simp at h3
    | cons e rs =>
      simp only [List.map_cons] at h1 h2 h3
      cases h1 with
      | cons g1 g2 =>
        cases h2 with
        | cons g3 g4 =>
          simp only [List.cons.injEq] at h3
          unfold findK at h
          split at h
          · rename_i he
            simp at h; subst h
            have := eqV_sound hH 20 Op.maxDepth t q key k true rk e.key (by decide) hq he hk g1
            exact .inr ⟨i, u, b, e.val, rfl, by simp [Instr.findAsking, Op.equal, Sem.run_bind, this], g3, Nat.le_refl _, by simp, e, (k, u, b), by simp, by simp, g1, h3.1.symm⟩
          · rename_i he
            have := eqV_sound hH 20 Op.maxDepth t q key k false rk e.key (by decide) hq he hk g1
            rcases findAsking_sound hH hq hk es rs (i + 1) r g2 g4 h3.2 h with ⟨rfl, hn⟩ | ⟨j, u', b', rv, rfl, hn, hv, hle, hlt, e', x', he', hx', hs, hb⟩
            · exact .inl ⟨rfl, by simp [Instr.findAsking, Op.equal, Sem.run_bind, this, hn]⟩
            · refine .inr ⟨j, u', b', rv, rfl, by simp [Instr.findAsking, Op.equal, Sem.run_bind, this, hn], hv, by omega, by simp; omega, e', x', ?_, ?_, hs, hb⟩
              · rw [show j - i = (j - (i + 1)) + 1 from by omega]
                simpa using he'
              · rw [show j - i = (j - (i + 1)) + 1 from by omega]
                simpa using hx'
          · cases h
theorem find_any {t : TypeId} {q : EqK} {key : V} {rk : Value} (hH : HR σ ρ H w) (hq : eqK p 20 t = some q) (hkk : q.key = true) (hs : keyShape q key = true) (hk : VR σ ρ key rk) {es : List (V × V × Nat)} {rs : List MapEntry} {r : Option (Nat × V × Nat)}
    (h1 : VRs σ ρ (es.map (·.1)) (rs.map (·.key))) (h2 : VRs σ ρ (es.map (·.2.1)) (rs.map (·.val))) (h3 : es.map (·.2.2) = rs.map (·.born)) (h : findK H q key es 0 = some r) :
    (r = none ∧ (Instr.findKey t rk rs).run p w = .ok none w) ∨ (∃ j u b rv, r = some (j, u, b) ∧ (Instr.findKey t rk rs).run p w = .ok (some (j, rv)) w ∧ VR σ ρ u rv ∧ j < es.length ∧ (∃ e, rs[j]? = some e ∧ (keySame q key es j = true → Instr.sameBits 10000 e.key rk = true) ∧ e.born = b)) := by
  rcases agg_of_key hq hkk with h0 | ⟨fs, ps, hu, rfl, -, hps, -⟩
  · obtain ⟨d, hd, hqd, -⟩ : ∃ d, p.underlying t = some d ∧ ((q = .bool ∧ d = .bool) ∨ (q = .int ∧ ∃ k, d = .int k) ∨ (q = .str ∧ d = .string)) ∧ True := by
      rcases key0_spec hq h0 with ⟨rfl, hh⟩ | ⟨rfl, k, hh⟩ | ⟨rfl, hh⟩
      · exact ⟨_, hh, .inl ⟨rfl, rfl⟩, trivial⟩
      · exact ⟨_, hh, .inr (.inl ⟨rfl, k, rfl⟩), trivial⟩
      · exact ⟨_, hh, .inr (.inr ⟨rfl, rfl⟩), trivial⟩
    rcases findK_sound (H := H) hqd hk es rs 0 _ h1 h2 h3 h with ⟨e, hn⟩ | ⟨j, u, b, rv, e, hn, hv, -, hjl, e', he', hsb, hbn⟩
    · exact .inl ⟨e, findKey_run hd hn⟩
    · exact .inr ⟨j, u, b, rv, e, findKey_run hd hn, hv, by omega, e', by simpa using he', fun _ => hsb, hbn⟩
  · have hfk : rs ≠ [] → Instr.findKey t rk rs = Instr.findKey t rk rs := fun _ => rfl
    have hrun : ∀ x, (Instr.findAsking t rk rs 0).run p w = .ok x w → (Instr.findKey t rk rs).run p w = .ok x w := by
      intro x hx
      unfold Instr.findKey
      simp only [Sem.run_bind, run_und hu, Result.andThen_ok]
      cases rs with
      | nil =>
        simp [Instr.findAsking] at hx
        subst hx
        simp [Instr.findNow]
      | cons e rs => simpa [Instr.findNow, Instr.sameNow] using hx
    rcases findAsking_sound (p := p) (w := w) hH hq hk es rs 0 r h1 h2 h3 h with ⟨e, hn⟩ | ⟨j, u, b, rv, e, hn, hv, -, hjl, e', x', he', hx', hsk, hbn⟩
    · exact .inl ⟨e, hrun _ hn⟩
    · refine .inr ⟨j, u, b, rv, e, hrun _ hn, hv, by omega, e', by simpa using he', fun hsm => ?_, hbn⟩
      simp only [Nat.sub_zero] at hx'
      simp only [keySame, hx'] at hsm
      have hkx := sameV_eq hsm
      rw [← hkx] at hsk
      unfold keyShape at hs
      split at hs
      · simp only [Bool.and_eq_true] at hs
        cases hk with
        | agg a1 =>
          generalize e'.key = ek at hsk
          cases hsk with
          | agg a2 =>
            have l1 := a1.length
            have l2 := a2.length
            show Instr.sameBits (9999 + 1) _ _ = true
            simp only [Instr.sameBits, Bool.and_eq_true]
            exact ⟨by simp; omega, basics_same hs.2 a2 a1⟩
      · cases hs
      · rename_i z1 z2
        exact absurd rfl (z1 ps)
theorem key_cases {q : EqK} {t : TypeId} (h : (q = .bool ∧ p.underlying t = some .bool) ∨ (q = .int ∧ ∃ k, p.underlying t = some (.int k)) ∨ (q = .str ∧ p.underlying t = some .string)) :
    ∃ d, p.underlying t = some d ∧ ((q = .bool ∧ d = .bool) ∨ (q = .int ∧ ∃ k, d = .int k) ∨ (q = .str ∧ d = .string)) ∧ (d = .bool ∨ (∃ k, d = .int k) ∨ d = .string) := by
  rcases h with ⟨rfl, h⟩ | ⟨rfl, k, h⟩ | ⟨rfl, h⟩
  · exact ⟨_, h, .inl ⟨rfl, rfl⟩, .inl rfl⟩
  · exact ⟨_, h, .inr (.inl ⟨rfl, k, rfl⟩), .inr (.inl ⟨k, rfl⟩)⟩
  · exact ⟨_, h, .inr (.inr ⟨rfl, rfl⟩), .inr (.inr rfl)⟩
theorem s_lookup {t kt e : TypeId} {m key : Operand} {ok : Bool} {m' key' : Opd} {q : EqK} {z : V} (ho : o.op = .lookup t m key ok) (hu : p.underlying t = some (.map kt e)) (hq : eqK p 20 kt = some q) (hk : q.key = true) (hz : zeroOf p e = some z) (hm : cOpd m = some m') (hkey : cOpd key = some key') (hF : FR σ ρ F a) (hH : HR σ ρ H w)
    (hd : doX (.lookup z q m' key' ok) F H = some (v, H')) : GivesQ p σ (execOp a.eval o) ρ H w v H' := by
  have hm' := cOpd_sound hF hm
  have hk' := cOpd_sound hF hkey
  obtain ⟨rz, hrz, hvz⟩ := run_zero (σ := σ) (ρ := ρ) (w := w) hz
  have fin : ∀ (y : V) (ry : Value) (b : Bool), VR σ ρ y ry → some ((bif ok then V.tuple [y, .bool b] else y), H) = some (v, H') → (Instr.lookup t (a.eval m) (a.eval key) ok).run p w = .ok (if ok then .tuple #[ry, .bool b] else ry) w → GivesQ p σ (execOp a.eval o) ρ H w v H' := by
    intro y ry b hy he hr
    simp only [Option.some.injEq, Prod.mk.injEq] at he
    obtain ⟨rfl, rfl⟩ := he
    refine .same hH (x := if ok then .tuple #[ry, .bool b] else ry) ?_ ?_
    · simp only [execOp, ho]
      exact run_v hr
    · cases ok
      · exact hy
      · exact .tuple (.cons hy (.cons (.bool b) .nil))
  simp only [doX, cond_eq_ite] at hd
  split at hd
  · cases hd
  rename_i hks
  have hks : keyShape q (ev F key') = true := by simpa using hks
  have hfin : ∀ b : Bool, ∀ y : V, (if ok = true then V.tuple [y, .bool b] else y) = (bif ok then V.tuple [y, .bool b] else y) := fun b y => by cases ok <;> rfl
  simp only [hfin] at hd
  have hck : ∀ em, (Instr.checkKey em 10000 kt (a.eval key)).run p w = .ok () w := fun em => checkKey_any hq hk hks hk'
  split at hd
  · rename_i e1
    rw [e1] at hm'
    generalize hax : a.eval m = ax at hm'
    cases hm'
    refine fin z rz false hvz hd ?_
    rw [hax]
    rcases find_any (rs := []) (es := []) (r := none) hH hq hk hks hk' .nil .nil rfl rfl with ⟨-, hn⟩ | ⟨j, u', b', rv, h, -⟩
    · simp [Instr.lookup, Sem.run_bind, run_und hu, hck, hn, hrz]
    · cases h
  · rename_i r e1
    rw [e1] at hm'
    generalize hax : a.eval m = ax at hm'
    cases hm' with
    | map hb =>
      rename_i rb
      split at hd
      · rename_i es cl hr
        obtain ⟨b', hb', es', g1, g2, g3, g4⟩ := hH.blk r _ hr
        rw [hb] at hb'; cases hb'
        split at hd
        · rename_i i u bn hf
          rcases find_any hH hq hk hks hk' g2 g3 g4 hf with ⟨h, -⟩ | ⟨j, u', b', rv, h, hn, hv, -⟩
          · cases h
          · cases h
            refine fin u rv true hv hd ?_
            rw [hax]
            simp [Instr.lookup, Sem.run_bind, run_und hu, getObj, Sem.run, g1, hck, hn]
        · rename_i hf
          rcases find_any hH hq hk hks hk' g2 g3 g4 hf with ⟨-, hn⟩ | ⟨j, u', b', rv, h, -⟩
          · refine fin z rz false hvz hd ?_
            rw [hax]
            simp [Instr.lookup, Sem.run_bind, run_und hu, getObj, Sem.run, g1, hck, hn, hrz]
          · cases h
        · cases hd
      · cases hd
  · cases hd
theorem listSet_spec {α : Type} (x : α) : ∀ (i : Nat) (l : List α), listSet x i l = l.set i x
  | _, [] => by cases ‹Nat› <;> rfl
  | 0, _ :: _ => rfl
  | i + 1, y :: r => by simp [listSet, listSet_spec x i r]
theorem VRs.set {a : List V} {x : List Value} (h : VRs σ ρ a x) : ∀ (i : Nat) {u : V} {y : Value}, VR σ ρ u y → VRs σ ρ (a.set i u) (x.set i y) := by
  intro i
  induction i generalizing a x with
  | zero => intro u y hu; cases h with | nil => exact .nil | cons h t => exact .cons hu t
  | succ i ih => intro u y hu; cases h with | nil => exact .nil | cons h t => exact .cons h (ih t hu)
theorem map_modify {β : Type} (g : MapEntry → β) (f : MapEntry → MapEntry) (es : Array MapEntry) (i : Nat) {e : MapEntry} (h : MapEntry → β) (hg : ∀ y, g (f y) = h y) (he : es[i]? = some e) : (es.modify i f).toList.map g = (es.toList.map g).set i (h e) := by
  apply List.ext_getElem?
  intro n
  rw [List.getElem?_map, List.getElem?_set, Array.getElem?_toList, Array.getElem?_modify, List.getElem?_map, Array.getElem?_toList]
  by_cases hn : i = n
  · subst hn
    obtain ⟨hi, he'⟩ := Array.getElem?_eq_some_iff.1 he
    simp [he, hg, hi, he']
  · simp [hn]
theorem s_mapset {t kt e : TypeId} {m key x : Operand} {m' key' x' : Opd} {q : EqK} (ho : o.op = .mapUpdate t m key x ∨ o.op = .insert t m key x) (hu : p.underlying t = some (.map kt e)) (hq : eqK p 20 kt = some q) (hk : q.key = true) (hm : cOpd m = some m') (hkey : cOpd key = some key') (hx : cOpd x = some x') (hF : FR σ ρ F a) (hH : HR σ ρ H w)
    (hd : doX (.mapset q m' key' x') F H = some (v, H')) : Gives p σ (execOp a.eval o) ρ H w v H' := by
  have hm' := cOpd_sound hF hm
  have hk' := cOpd_sound hF hkey
  have hx' := cOpd_sound hF hx
  have hex : ∀ w', (Instr.mapUpdate t (a.eval m) (a.eval key) (a.eval x)).run p w = .ok () w' → (execOp a.eval o).run p w = .ok .skip w' := fun w' hr => by
    rcases ho with ho | ho <;> simp only [execOp, ho] <;> exact run_u hr
  simp only [doX, cond_eq_ite] at hd
  split at hd
  · cases hd
  rename_i hks
  have hks : keyShape q (ev F key') = true := by simpa using hks
  have hck : ∀ em, (Instr.checkKey em 10000 kt (a.eval key)).run p w = .ok () w := fun em => checkKey_any hq hk hks hk'
  split at hd
  · rename_i r e1
    rw [e1] at hm'
    generalize hax : a.eval m = ax at hm'
    cases hm' with
    | map hb =>
      rename_i rb
      split at hd
      · rename_i es cl hr
        obtain ⟨b', hb', es', g1, g2, g3, g4⟩ := hH.blk r _ hr
        rw [hb] at hb'; cases hb'
        have hlt : rb.r < w.heap.size := (Array.getElem?_eq_some_iff.1 g1).1
        have hel : es.length = es'.size := by have := g2.length; simpa using this
        split at hd
        · rename_i i u bn hf
          split at hd
          case isFalse => cases hd
          rename_i hsame
          simp only [Option.some.injEq, Prod.mk.injEq] at hd; obtain ⟨rfl, rfl⟩ := hd
          rcases find_any hH hq hk hks hk' g2 g3 g4 hf with ⟨h, -⟩ | ⟨j, u', b', rv, h, hn, hv, hjl, e', he', hs, hbn⟩
          · cases h
          · cases h
            have hs := hs hsame
            have he2 : es'[i]? = some e' := by simpa using he'
            obtain ⟨z1, z2⟩ := hH.setObj hr hb (.map (es'.modify i fun y => { y with key := a.eval key, val := a.eval x }) cl) (.map (listSet (ev F key', ev F x', bn) i es) cl) (by
              refine ⟨es'.modify i fun y => { y with key := a.eval key, val := a.eval x }, by simp [hlt], ?_, ?_, ?_⟩
              · rw [listSet_spec, List.map_set, map_modify _ _ _ _ (fun y => a.eval key) (fun _ => rfl) he2]
                exact g2.set i hk'
              · rw [listSet_spec, List.map_set, map_modify _ _ _ _ (fun y => a.eval x) (fun _ => rfl) he2]
                exact g3.set i hx'
              · rw [listSet_spec, List.map_set, map_modify (·.born) (fun y => { y with key := a.eval key, val := a.eval x }) _ _ (fun y => y.born) (fun _ => rfl) he2, g4, hbn])
            refine ⟨Go.undef, _, ρ, .inr ⟨hex _ ?_, rfl⟩, VR.undef σ ρ, z1, z2⟩
            rw [hax]
            simp [Instr.mapUpdate, Sem.run_bind, run_und hu, getObj, Sem.run, g1, hck, hn, Instr.keyThatStays, he2, hs, setObj]
        · rename_i hf
          simp only [Option.some.injEq, Prod.mk.injEq] at hd; obtain ⟨rfl, rfl⟩ := hd
          rcases find_any hH hq hk hks hk' g2 g3 g4 hf with ⟨-, hn⟩ | ⟨j, u', b', rv, h, -⟩
          · obtain ⟨z1, z2⟩ := hH.setObj hr hb (.map (es'.push { key := a.eval key, val := a.eval x, born := cl }) (cl + 1)) (.map (es ++ [(ev F key', ev F x', cl)]) (cl + 1)) (by
              refine ⟨es'.push { key := a.eval key, val := a.eval x, born := cl }, by simp [hlt], ?_, ?_, ?_⟩
              · simpa using g2.append (.cons hk' .nil)
              · simpa using g3.append (.cons hx' .nil)
              · simp [g4])
            refine ⟨Go.undef, _, ρ, .inr ⟨hex _ ?_, rfl⟩, VR.undef σ ρ, z1, z2⟩
            rw [hax]
            simp [Instr.mapUpdate, Sem.run_bind, run_und hu, getObj, Sem.run, g1, hck, hn, setObj]
          · cases h
        · cases hd
      · cases hd
  · cases hd
end
end Go.Proofs.YtafignheedbnbaaGreatDoor.X
