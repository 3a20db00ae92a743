/- A verified executor, part XOpsF: laws of the executor; no condition. -/
import Derived.Test.YtfhjamimbgdfpaaGreatXEq
import Derived.Laws.BytesString
namespace Go.Proofs.YtfhjamimbgdfpaaGreat.X
open Go
set_option linter.unusedVariables false
set_option linter.unusedSimpArgs false
section
variable {p : Program} {σ : Sg} {ρ : Ren} {F : Fr} {H H' : Hp} {a : Act} {w : World} {v : V} {xo : XO} {o : Oper}

theorem modify_push (h : Array Obj) (o : Obj) (f : Obj → Obj) : (h.push o).modify h.size f = h.push (f o) := by
  apply Array.ext
  · simp
  · intro i h1 h2
    rw [Array.getElem_modify]
    simp only [Array.getElem_push]
    by_cases e : i = h.size
    · subst e; simp
    · rw [if_neg (fun e' => e e'.symm)]
      simp at h2
      have : i < h.size := by omega
      simp [this]
theorem markStringish_run (w : World) (cs : Array Value) (e : TypeId) : (markStringish ⟨w.heap.size, 0, none⟩).run p (w.alloc (.cells cs e)) = .ok () (w.alloc (.cells cs e (cs.size, cs.size + 1))) := by
  have hs : (w.alloc (.cells cs e)).shape? w.heap.size = some (e, cs.size) := by
    show (match (w.heap.push (.cells cs e))[w.heap.size]? with | some (.cells c elem _) => some (elem, c.size) | _ => none) = _
    rw [Array.getElem?_push, if_pos rfl]
  have hf : (w.alloc (.cells cs e)).freeze ⟨w.heap.size, cs.size, none⟩ 1 = w.alloc (.cells cs e (cs.size, cs.size + 1)) := by
    unfold World.freeze
    rw [if_neg (by omega)]
    show ({ w with heap := (w.heap.push (.cells cs e)).modify w.heap.size _ } : World) = { w with heap := w.heap.push _ }
    rw [modify_push]
    simp
  simp only [markStringish, shape, Sem.run_bind, Sem.run, hs, Result.andThen_ok, freeze]
  rw [hf]
def eqable : Value → Prop | .int .. | .float .. | .complex .. | .string .. => False | _ => True
theorem binOp_eqable {t : TypeId} {rx ry : Value} (h : eqable rx) : binOp .eql t rx ry = (do pure (.bool (← Op.equal t rx ry))) ∧ binOp .neq t rx ry = (do pure (.bool (!(← Op.equal t rx ry)))) := by
  cases rx <;> first | exact h.elim | exact ⟨rfl, rfl⟩
theorem eqV_shape {k : EqK} {x y : V} {b : Bool} {rx ry : Value} (he : eqV H k x y = some b) (h1 : k ≠ .int) (h2 : k ≠ .str) (hx : VR σ ρ x rx) (hy : VR σ ρ y ry) :
    eqable rx ∧ (rx = .nilIface → ry = .nilIface → False) ∧ (∀ u u', rx = .agg u → ry = .agg u' → ∃ ps, k = .agg ps) := by
  unfold eqV at he
  split at he
  · unfold eqB at he; split at he
    · rw [hx.bool_inv]; exact ⟨trivial, by simp, by simp⟩
    · cases he
  · exact absurd rfl h1
  · exact absurd rfl h2
  · unfold eqPt at he; split at he
    · cases hx <;> exact ⟨trivial, by simp, by simp⟩
    · cases he
  · unfold eqSl at he; split at he
    · cases hx; exact ⟨trivial, by simp, by simp⟩
    · cases hx <;> exact ⟨trivial, by simp, by simp⟩
    · cases he
  · unfold eqMp at he; split at he
    · cases hx; exact ⟨trivial, by simp, by simp⟩
    · cases hx; exact ⟨trivial, by simp, by simp⟩
    · cases he
  · unfold eqFn at he; split at he
    · cases hx <;> exact ⟨trivial, by simp, by simp⟩
    · cases hx <;> exact ⟨trivial, by simp, by simp⟩
    · cases hx <;> exact ⟨trivial, by simp, by simp⟩
    · cases he
  · unfold eqIf at he; split at he
    · cases hx; cases hy; exact ⟨trivial, by simp, by simp⟩
    · cases hx; exact ⟨trivial, by simp, by simp⟩
    · cases he
  · rename_i ps
    split at he
    · rename_i xs ys hpo
      unfold partsOf at hpo
      split at hpo
      · simp at hpo; obtain ⟨rfl, rfl⟩ := hpo
        cases hx
        exact ⟨trivial, by simp, fun _ _ _ _ => ⟨ps, rfl⟩⟩
      · cases hpo
    · cases he
theorem eqK_agg {d : Nat} {t : TypeId} {ps : List (Nat × Nat × EqK)} (h : eqK p d t = some (.agg ps)) : aggT p t = some true := by
  cases d with
  | zero => simp [eqK] at h
  | succ d =>
    unfold eqK at h
    unfold aggT
    split at h <;> rename_i hu <;> first | (simp at h; done) | skip
    · split at h <;> simp at h
    · rw [hu]
theorem eqK_basic {d : Nat} {t : TypeId} : (eqK p d t = some .int → ∃ k, p.underlying t = some (.int k)) ∧ (eqK p d t = some .str → p.underlying t = some .string) := by
  cases d with
  | zero => simp [eqK]
  | succ d =>
    refine ⟨fun h => ?_, fun h => ?_⟩
    · unfold eqK at h
      split at h <;> rename_i hu <;> first | exact ⟨_, hu⟩ | (simp at h; done) | skip
      · split at h <;> simp at h
    · unfold eqK at h
      split at h <;> rename_i hu <;> first | exact hu | (simp at h; done) | skip
      · split at h <;> simp at h
theorem s_eq {op : BinOp} {neg : Bool} {t t' : TypeId} {x y : Operand} {x' y' : Opd} {k : EqK} (hop : (op = .eql ∧ neg = false) ∨ (op = .neq ∧ neg = true)) (ho : o.op = .binOp op t x y t') (hk : eqK p 20 t = some k) (hni : ∀ k, p.underlying t ≠ some (.int k)) (hns : p.underlying t ≠ some .string)
    (hg : ¬ (p.eqGuardType p.depth t = true ∧ aggT p t ≠ some false)) (hx : cOpd x = some x') (hy : cOpd y = some y') (hF : FR σ ρ F a) (hH : HR σ ρ H w) (hd : doX (.eq neg k x' y') F H = some (v, H')) : GivesQ p σ (execOp a.eval o) ρ H w v H' := by
  have hx' := cOpd_sound hF hx
  have hy' := cOpd_sound hF hy
  simp only [doX] at hd
  split at hd
  · rename_i b he
    simp only [Option.some.injEq, Prod.mk.injEq] at hd; obtain ⟨rfl, rfl⟩ := hd
    have hk1 : k ≠ .int := fun e => by subst e; obtain ⟨q, hq⟩ := eqK_basic.1 hk; exact hni q hq
    have hk2 : k ≠ .str := fun e => by subst e; exact hns (eqK_basic.2 hk)
    obtain ⟨g1, g2, g3⟩ := eqV_shape he hk1 hk2 hx' hy'
    have heq : (Op.equal t (a.eval x) (a.eval y)).run p w = .ok b w := eqV_sound hH 20 10000 t k _ _ b _ _ (by omega) hk he hx' hy'
    have hgu : (eqGuard op t x y (a.eval x) (a.eval y)).run p w = .ok () w := by
      by_cases ha : ∃ u u', a.eval x = .agg u ∧ a.eval y = .agg u'
      · obtain ⟨u, u', e1, e2⟩ := ha
        obtain ⟨ps, rfl⟩ := g3 u u' e1 e2
        have hag := eqK_agg hk
        have : p.eqGuardType p.depth t = false := by
          cases hgt : p.eqGuardType p.depth t with
          | false => rfl
          | true => exact absurd ⟨hgt, by rw [hag]; simp⟩ hg
        rw [e1, e2]
        exact run_eqGuard_agg w op t x y u u' this
      · exact eqGuard_skip (fun _ => ⟨g2, fun u u' e1 e2 => ha ⟨u, u', e1, e2⟩⟩)
    rcases hop with ⟨rfl, rfl⟩ | ⟨rfl, rfl⟩
    · refine .same hH (run_bin ho hgu (r := .bool b) ?_) (.bool _)
      rw [(binOp_eqable g1).1]
      simp [Sem.run_bind, heq]
    · refine .same hH (run_bin ho hgu (r := .bool (!b)) ?_) (.bool _)
      rw [(binOp_eqable g1).2]
      simp [Sem.run_bind, heq]
  · cases hd
theorem s_toBytes {src dst e : TypeId} {x : Operand} {x' : Opd} (ho : o.op = .convert src dst x) (h1 : p.underlying src = some .string) (h2 : p.underlying dst = some (.slice e)) (h3 : p.underlying e = some (.int .u8)) (hx : cOpd x = some x') (hF : FR σ ρ F a) (hH : HR σ ρ H w) (hd : doX (.toBytes x') F H = some (v, H')) : Gives p σ (execOp a.eval o) ρ H w v H' := by
  have hx' := cOpd_sound hF hx
  simp only [doX] at hd
  split at hd
  · rename_i l n e1
    rw [e1] at hx'
    obtain ⟨h0, hd'⟩ := bif_some hd
    clear hd
    simp only [Option.some.injEq, Prod.mk.injEq] at hd'; obtain ⟨rfl, rfl⟩ := hd'
    obtain ⟨s, hax, rfl, rfl⟩ := hx'.str_inv
    have hv := asBytes_spec (σ := σ) (ρ := ρ) s.size s.data.toList 0 (by rw [size_data]; omega)
    simp only [List.drop_zero] at hv
    have hfc : (Question.appendCap s.size 0 e).forced = false := rfl
    obtain ⟨cap, hcap⟩ : ∃ cap, cap = Question.cut (.appendCap s.size 0 e) (w.tape w.drawn (.appendCap s.size 0 e)) := ⟨_, rfl⟩
    have hle : s.size ≤ cap := by rw [hcap]; simp [Question.cut]
    obtain ⟨g1, g2⟩ := hH.drew.newRow (w := w.drew) hv (sp := List.replicate (cap - s.size) (.int .u8 0)) e false (by simp) cap (cap + 1) (fun j hj => by
      simp [← size_data] at hj; omega) (by simp)
    have hn : (s.data.toList.map fun b => Value.int .u8 b.toNat).length + (List.replicate (cap - s.size) (Value.int .u8 0)).length = cap := by
      simp [← size_data]; omega
    rw [hn] at g1 g2
    refine ⟨.slice (some ⟨w.heap.size, 0, none⟩) s.size cap, _, _, .inl ?_, ?_, g1, Stp.of_drew g2⟩
    · simp only [execOp, ho, hax]
      refine run_v ?_
      have hdat : (s.data.map fun b => Value.int .u8 b.toNat) ++ Array.replicate (cap - s.size) (.int .u8 0) = ⟨(s.data.toList.map fun b => Value.int .u8 b.toNat) ++ List.replicate (cap - s.size) (.int .u8 0)⟩ := by
        apply Array.ext'; simp
      have hsz : (⟨(s.data.toList.map fun b => Value.int .u8 b.toNat) ++ List.replicate (cap - s.size) (.int .u8 0)⟩ : Array Value).size = cap := by
        simp [← size_data]; omega
      have hm := markStringish_run (p := p) w.drew ⟨(s.data.toList.map fun b => Value.int .u8 b.toNat) ++ List.replicate (cap - s.size) (.int .u8 0)⟩ e
      rw [hsz] at hm
      have hsb : (Conv.stringToBytes e s).run p w = .ok (.slice (some ⟨w.heap.size, 0, none⟩) s.size cap) (w.drew.alloc (.cells ⟨(s.data.toList.map fun b => Value.int .u8 b.toNat) ++ List.replicate (cap - s.size) (.int .u8 0)⟩ e (cap, cap + 1))) := by
        unfold Conv.stringToBytes
        simp only [Sem.run_bind, choose, Sem.run, hfc, Bool.false_eq_true, if_false, ← hcap, Result.andThen_ok, hdat, newRow, newObj, Sem.run_pure]
        have hm' : (markStringish ⟨w.heap.size, 0, none⟩).run p (w.drew.alloc (.cells ⟨(s.data.toList.map fun b => Value.int .u8 b.toNat) ++ List.replicate (cap - s.size) (.int .u8 0)⟩ e)) = _ := hm
        erw [hm']
        rfl
      simp [convert, Sem.run_bind, run_und h1, run_und h2, run_und h3, hsb]
      rfl
    · have := VR.slc (σ := σ) (ρ := ρ.add H.next ⟨w.heap.size, 0, cap⟩) (p := H.next) (b := ⟨w.heap.size, 0, cap⟩) (i := 0) (sz := 1) (l := s.size) (cap := cap) (c := none) (Ren.add_same _ _ _) hle (by simp) (by simp)
      simpa using this
  · cases hd
end
end Go.Proofs.YtfhjamimbgdfpaaGreat.X
