/- A verified executor, part XOpsA: laws of the executor; no condition. -/
import Derived.Test.YtfhjamimbgdfpaaGreatXStr
import Derived.Great.BuildSlice
namespace Go.Proofs.YtfhjamimbgdfpaaGreat.X
open Go
set_option linter.unusedVariables false
set_option linter.unusedSimpArgs false

/-- the frame -/
def FR (σ : Sg) (ρ : Ren) (F : Fr) (a : Act) : Prop := ∀ t, VR σ ρ ((F.get (P.of t)).getD V.undef) (a.tmps.getD t undef)
theorem FR.mono {σ : Sg} {ρ ρ' : Ren} {F : Fr} {a : Act} (h : FR σ ρ F a) (hr : ρ.le ρ') : FR σ ρ' F a := fun t => (h t).mono hr

section
variable {p : Program} {σ : Sg} {ρ : Ren} {F : Fr} {H H' : Hp} {a : Act} {w : World} {v : V} {xo : XO} {o : Oper}

theorem cOpd_sound (hF : FR σ ρ F a) {x : Operand} {y : Opd} (h : cOpd x = some y) : VR σ ρ (ev F y) (a.eval x) := by
  cases x with
  | tmp t => simp [cOpd] at h; subst h; exact hF t
  | const c =>
    simp only [cOpd, Option.map_eq_some_iff] at h
    obtain ⟨u, hu, rfl⟩ := h
    exact absV_sound σ ρ hu
  | global g => simp [cOpd] at h
  | func f => simp [cOpd] at h; subst h; exact .func _ .nil .nil
theorem cOpds_sound (hF : FR σ ρ F a) : ∀ {l : List Operand} {l' : List Opd}, cOpds l = some l' → VRs σ ρ (l'.map (ev F)) (l.map a.eval)
  | [], l', h => by simp [cOpds] at h; subst h; exact .nil
  | x :: r, l', h => by
    unfold cOpds at h
    split at h
    · rename_i y t hy ht
      simp at h; subst h
      exact .cons (cOpd_sound hF hy) (cOpds_sound hF ht)
    · cases h

/-- An operation yields. -/
def Gives (p : Program) (σ : Sg) (s : Sem Next) (ρ : Ren) (H : Hp) (w : World) (v : V) (H' : Hp) : Prop :=
  ∃ x w' ρ', (s.run p w = .ok (.value x) w' ∨ (s.run p w = .ok .skip w' ∧ x = undef)) ∧ VR σ ρ' v x ∧ HR σ ρ' H' w' ∧ Stp ρ H w ρ' H' w'
theorem Gives.same {s : Sem Next} {x : Value} (hH : HR σ ρ H w) (hr : s.run p w = .ok (.value x) w) (hv : VR σ ρ v x) : Gives p σ s ρ H w v H := ⟨x, w, ρ, .inl hr, hv, hH, .refl _ _ _⟩
/-- An operation yields, and leaves memory alone. -/
def GivesQ (p : Program) (σ : Sg) (s : Sem Next) (ρ : Ren) (H : Hp) (w : World) (v : V) (H' : Hp) : Prop :=
  ∃ x, s.run p w = .ok (.value x) w ∧ VR σ ρ v x ∧ HR σ ρ H w ∧ H' = H
theorem GivesQ.same {s : Sem Next} {x : Value} (hH : HR σ ρ H w) (hr : s.run p w = .ok (.value x) w) (hv : VR σ ρ v x) : GivesQ p σ s ρ H w v H := ⟨x, hr, hv, hH, rfl⟩
theorem GivesQ.gives {s : Sem Next} (h : GivesQ p σ s ρ H w v H') : Gives p σ s ρ H w v H' := by
  obtain ⟨x, hr, hv, hH, rfl⟩ := h
  exact .same hH hr hv
theorem run_v {s : Sem Value} {x : Value} {w' : World} (h : s.run p w = .ok x w') : Sem.run p (do pure (Next.value (← s))) w = .ok (.value x) w' := by
  simp [Sem.run_bind, h]
theorem run_u {s : Sem Unit} {w' : World} (h : s.run p w = .ok () w') : Sem.run p (do s; pure Next.skip) w = .ok .skip w' := by
  simp [Sem.run_bind, h]
theorem run_und {t : TypeId} {d : TypeDesc} (h : p.underlying t = some d) : (underlying t).run p w = .ok d w := by
  simp [underlying, program, Sem.run_bind, Sem.run, h]
theorem szOf_spec {t : TypeId} {n : Nat} (h : szOf p t = some n) : ∃ i, p.info? t = some i ∧ i.size = n := by
  simpa [szOf] using h
theorem run_size {t : TypeId} {n : Nat} (h : szOf p t = some n) : (sizeOf t).run p w = .ok n w := by
  obtain ⟨i, hi, rfl⟩ := szOf_spec h
  simp [sizeOf, typeInfo, program, Sem.run_bind, Sem.run, hi]
theorem aggT_spec {t : TypeId} {b : Bool} (h : aggT p t = some b) : ∃ d, p.underlying t = some d ∧ (match d with | .struct _ | .array _ _ => true | _ => false) = b := by
  unfold aggT at h
  split at h <;> simp_all
theorem run_agg {t : TypeId} {b : Bool} (h : aggT p t = some b) : (isAgg t).run p w = .ok b w := by
  obtain ⟨d, hd, rfl⟩ := aggT_spec h
  cases d <;> simp [isAgg, Sem.run_bind, run_und hd]
theorem run_zero {t : TypeId} {z : V} (h : zeroOf p t = some z) : ∃ x, (zeroValue t).run p w = .ok x w ∧ VR σ ρ z x := by
  simp only [zeroOf, Option.bind_eq_some_iff] at h
  obtain ⟨i, hi, x, hx, hz⟩ := h
  exact ⟨x, by simp [zeroValue, typeInfo, program, Sem.run_bind, Sem.run, hi, hx], absV_sound σ ρ hz⟩
theorem zeroOf_spec {t : TypeId} {z : V} (h : zeroOf p t = some z) : ∃ it rz, p.info? t = some it ∧ it.zero = some rz ∧ absV rz = some z := by
  simp only [zeroOf, Option.bind_eq_some_iff] at h
  obtain ⟨it, hit, rz, hrz, hz⟩ := h
  exact ⟨it, rz, hit, hrz, hz⟩
theorem run_loadVar1 {t : TypeId} {x : Addr} {y : Value} (h : aggT p t = some false) (hc : w.cell? x = some y) : (loadVar t x).run p w = .ok y w := by
  simp [loadVar, Sem.run_bind, run_agg h, load, Sem.run, hc]
theorem run_loadVarN {t : TypeId} {x : Addr} {l : List Value} {n : Nat} (h : aggT p t = some true) (hn : szOf p t = some n) (hl : l.length = n) (hc : ∀ j y, l[j]? = some y → w.cell? (x.add j) = some y) :
    (loadVar t x).run p w = .ok (.agg ⟨l⟩) w := by
  have := run_loadCells_list (P := p) w x l hc
  rw [hl] at this
  simp [loadVar, Sem.run_bind, run_agg h, run_size hn, this]
theorem run_storeVar' {t : TypeId} {r b : Nat} {y : Value} {n : Nat} (hn : szOf p t = some n) (hl : y.cells.toList.length = n)
    (hc : ∀ j, j < y.cells.toList.length → (w.cell? ⟨r, b + j, none⟩).isSome = true) (hf : ∀ j, j < y.cells.toList.length → w.frozen? ⟨r, b + j, none⟩ = false) (h1 : ∀ v ∈ y.cells.toList, v.oneCell' = true) :
    (storeVar t ⟨r, b, none⟩ y).run p w = .ok () (w.setCells r b y.cells.toList) := by
  have := run_storeCells_cells (P := p) r b y.cells.toList 0 w (by simpa using hc) (by simpa using hf) h1
  simp only [Nat.add_zero] at this
  have hz : y.cells.size = n := by simpa using hl
  simp [storeVar, Sem.run_bind, run_size hn, hz, this]
theorem newVar_run (t : TypeId) (y : Value) : (newVar t y).run p w = .ok ⟨w.heap.size, 0, none⟩ { w with heap := w.heap.push (.cells y.cells t) } := by
  simp [newVar, newRow, newObj, Sem.run_bind, Sem.run]

/-- a row of cells of the call's own -/
theorem Gives.row {vs : List V} {e : TypeId} {cs : Array Value} {s : Sem Next} {x : Value} {pl : Bool} (hH : HR σ ρ H w) (hx : VRs σ ρ vs cs.toList) (hp : pl = true → 0 < vs.length) (hr : s.run p w = .ok (.value x) { w with heap := w.heap.push (.cells cs e) })
    (hv : VR σ (ρ.add H.next ⟨w.heap.size, 0, vs.length⟩) v x) : Gives p σ s ρ H w v (H.newRow vs pl) := by
  have hl := hx.length
  obtain ⟨h1, h2⟩ := hH.newRow (sp := []) hx e pl (fun h => by have := hp h; simp at hl ⊢; omega) 0 0 (fun j _ => by omega) (fun _ => ⟨rfl, rfl⟩)
  simp only [List.append_nil, List.length_nil, Nat.add_zero, ← hl] at h1 h2
  exact ⟨x, _, _, .inl hr, hv, h1, h2⟩
theorem Ren.add_same (ρ : Ren) (q : P) (b : RB) : (ρ.add q b) q = some b := by unfold Ren.add; rw [if_pos rfl]

theorem s_mv {x : Operand} {y : Opd} (he : execOp a.eval o = pure (.value (a.eval x))) (hy : cOpd x = some y) (hF : FR σ ρ F a) (hH : HR σ ρ H w) (hd : doX (.mv y) F H = some (v, H')) : GivesQ p σ (execOp a.eval o) ρ H w v H' := by
  simp [doX] at hd
  obtain ⟨rfl, rfl⟩ := hd
  exact .same hH (x := a.eval x) (by rw [he]; simp) (cOpd_sound hF hy)
theorem s_pick {c x y : Operand} (ho : o.op = .pick c x y) (hc : cPlain p o = some xo) (hF : FR σ ρ F a) (hH : HR σ ρ H w) (hd : doX xo F H = some (v, H')) : GivesQ p σ (execOp a.eval o) ρ H w v H' := by
  simp [cPlain, ho, Option.bind_eq_some_iff] at hc
  obtain ⟨c', hc, x', hx, y', hy, rfl⟩ := hc
  have h1 := cOpd_sound hF hc
  have h2 := cOpd_sound hF hx
  have h3 := cOpd_sound hF hy
  simp only [doX] at hd
  split at hd
  · rename_i e
    rw [e] at h1
    generalize hce : a.eval c = cv at h1
    cases h1
    simp at hd; obtain ⟨rfl, rfl⟩ := hd
    exact .same hH (x := a.eval x) (by simp [execOp, ho, asBool, hce]) h2
  · rename_i e
    rw [e] at h1
    generalize hce : a.eval c = cv at h1
    cases h1
    simp at hd; obtain ⟨rfl, rfl⟩ := hd
    exact .same hH (x := a.eval y) (by simp [execOp, ho, asBool, hce]) h3
  · cases hd

theorem s_alloc {e : TypeId} (hs : SgOk σ) (ho : o.op = .alloc e) (hc : cPlain p o = some xo) (hH : HR σ ρ H w) (hd : doX xo F H = some (v, H')) : Gives p σ (execOp a.eval o) ρ H w v H' := by
  simp [cPlain, ho, absZ, Option.bind_eq_some_iff] at hc
  obtain ⟨_, ⟨z, hz, rfl⟩, rfl⟩ := hc
  simp only [doX] at hd
  obtain ⟨h0, hd⟩ := bif_some hd
  simp at h0 hd
  obtain ⟨rfl, rfl⟩ := hd
  obtain ⟨x, hx, hr⟩ := run_zero (σ := σ) (ρ := ρ) (w := w) hz
  refine Gives.row (pl := true) hH (hr.cells hs) (fun _ => by omega) (x := .pointer (some ⟨w.heap.size, 0, none⟩)) (e := e) ?_ (.ptr 0 (Ren.add_same _ _ _))
  simp only [execOp, ho]
  exact run_v (by simp [Instr.alloc, Sem.run_bind, hx, newVar_run])
theorem s_box {e : TypeId} {x : Operand} (hs : SgOk σ) (ho : o.op = .box e x) (hc : cPlain p o = some xo) (hF : FR σ ρ F a) (hH : HR σ ρ H w) (hd : doX xo F H = some (v, H')) : Gives p σ (execOp a.eval o) ρ H w v H' := by
  simp [cPlain, ho, Option.bind_eq_some_iff] at hc
  obtain ⟨n, hn, x', hx, rfl⟩ := hc
  have h1 := cOpd_sound hF hx
  simp only [doX] at hd
  obtain ⟨h0, hd⟩ := bif_some hd
  simp at h0 hd
  obtain ⟨rfl, rfl⟩ := hd
  refine Gives.row (pl := true) hH (h1.cells hs) (fun _ => by omega) (x := .pointer (some ⟨w.heap.size, 0, none⟩)) (e := e) ?_ (.ptr 0 (Ren.add_same _ _ _))
  simp only [execOp, ho]
  exact run_v (by simp [Instr.box, Sem.run_bind, newVar_run])

/-! parts of an aggregate -/
theorem foldl_fill (off : Nat) : ∀ (vs : List Value) (k : Nat) (cs : Array Value), off + k + vs.length ≤ cs.size →
    ((vs.zipIdx k).foldl (fun cs (x : Value × Nat) => cs.setIfInBounds (off + x.2) x.1) cs).toList = cs.toList.take (off + k) ++ vs ++ cs.toList.drop (off + k + vs.length)
  | [], k, cs, h => by simp
  | v :: r, k, cs, h => by
    simp only [List.length_cons] at h
    rw [List.zipIdx_cons, List.foldl_cons, foldl_fill off r (k + 1) _ (by simp; omega)]
    simp only [Array.toList_setIfInBounds, List.length_cons]
    have h1 : off + k < cs.toList.length := by simp; omega
    rw [show off + (k + 1) = off + k + 1 from by omega]
    rw [List.drop_set_of_lt (by omega), List.take_set, List.take_succ_eq_append_getElem h1]
    rw [List.set_append_right _ _ (by simp; omega)]
    simp [show min (off + k) cs.size = off + k from by omega, show off + k + 1 + r.length = off + k + (r.length + 1) from by omega]
theorem fillP_sound (hs : SgOk σ) (hF : FR σ ρ F a) {place : Nat → Option (Nat × Nat)} : ∀ {ps : List (Nat × Operand)} {qs : List (Nat × Nat × Opd)} {z cs : List V} {rz : Array Value}, cParts p place ps = some qs → fillP (ev F) qs z = some cs → VRs σ ρ z rz.toList →
    ∃ rc : Array Value, Instr.fill place rz (ps.map fun (i, x) => (i, a.eval x)) = some rc ∧ VRs σ ρ cs rc.toList
  | [], qs, z, cs, rz, h, hf, hz => by
    simp [cParts] at h; subst h
    simp [fillP] at hf; subst hf
    exact ⟨rz, rfl, hz⟩
  | (i, x) :: r, qs, z, cs, rz, h, hf, hz => by
    unfold cParts at h
    split at h
    · rename_i off sz y l hpl hy hl
      simp at h; subst h
      simp only [fillP] at hf
      obtain ⟨h0, hf⟩ := bif_some hf
      simp only [Bool.and_eq_true, beq_iff, ble_iff, decide_eq_true_eq] at h0
      have h1 := (cOpd_sound hF hy).cells hs
      have hlen := h1.length
      have hzl := hz.length
      have hn : Nat.add off sz = off + sz := rfl
      rw [hn] at h0
      have hsz : (a.eval x).cells.size = sz := by rw [← Array.length_toList, ← hlen, h0.1]
      have hfold := foldl_fill off (a.eval x).cells.toList 0 rz (by simp only [Array.length_toList] at *; omega)
      simp only [Nat.add_zero, Array.length_toList, hsz] at hfold
      have hnew : VRs σ ρ (z.take off ++ (ev F y).cells ++ z.drop (off + sz)) ((((a.eval x).cells.toList.zipIdx 0).foldl (fun cs (x : Value × Nat) => cs.setIfInBounds (off + x.2) x.1) rz).toList) := by
        rw [hfold]
        exact ((hz.take off).append h1).append (hz.drop (off + sz))
      obtain ⟨rc, hrc, hv⟩ := fillP_sound hs hF hl hf hnew
      refine ⟨rc, ?_, hv⟩
      rw [List.map_cons]
      show Instr.fill place rz ((i, a.eval x) :: _) = _
      unfold Instr.fill
      rw [hpl]
      simp only
      rw [if_neg (by simp only [Array.length_toList] at *; simp [hsz]; omega)]
      rw [← hrc]
      congr 1
      rw [← Array.foldl_toList]
      congr 1
      simp [Array.toList_zipIdx]
    · cases h
theorem s_build {t : TypeId} {ps : Array (Nat × Operand)} (hs : SgOk σ) (ho : o.op = .build t ps) (hc : cPlain p o = some xo) (hF : FR σ ρ F a) (hH : HR σ ρ H w) (hd : doX xo F H = some (v, H')) : GivesQ p σ (execOp a.eval o) ρ H w v H' := by
  have fin : ∀ (z : V) (qs : List (Nat × Nat × Opd)) (place : Nat → Option (Nat × Nat)) (it : TypeInfo) (rz : Value), p.info? t = some it → it.zero = some rz → absV rz = some z → cParts p place ps.toList = some qs → doX (.build z.cells qs) F H = some (v, H') →
      (∀ l, Instr.fill place rz.cells l = p.built t l) → GivesQ p σ (execOp a.eval o) ρ H w v H' := by
    intro z qs place it rz hit hrz hz hq hd hb
    simp only [doX] at hd
    split at hd
    · rename_i cs hcs
      simp at hd; obtain ⟨rfl, rfl⟩ := hd
      obtain ⟨rc, hrc, hv⟩ := fillP_sound hs hF hq hcs ((absV_sound σ ρ hz).cells hs)
      refine .same hH (x := .agg rc) ?_ (.agg hv)
      simp only [execOp, ho]
      refine run_v (run_build w t _ rc ?_)
      rw [← hb, ← hrc]
      simp
    · cases hd
  simp only [cPlain, ho] at hc
  split at hc
  · rename_i fs hu
    simp [absZ, Option.bind_eq_some_iff] at hc
    obtain ⟨_, ⟨z, hz, rfl⟩, pl, hpl, qs, hq, rfl⟩ := hc
    obtain ⟨it, rz, hit, hrz, hz⟩ := zeroOf_spec hz
    refine fin z qs _ it rz hit hrz hz hq hd (fun l => ?_)
    unfold Program.built
    rw [hit, hu]
    simp only [hrz, hpl]
    simp
  · rename_i n e hu
    simp [absZ, szOf, Option.bind_eq_some_iff] at hc
    obtain ⟨_, ⟨z, hz, rfl⟩, s, ⟨ie, hie, rfl⟩, qs, hq, rfl⟩ := hc
    obtain ⟨it, rz, hit, hrz, hz⟩ := zeroOf_spec hz
    refine fin z qs _ it rz hit hrz hz hq hd (fun l => ?_)
    unfold Program.built
    rw [hit, hu]
    simp only [hrz, hie]
  · cases hc
end
end Go.Proofs.YtfhjamimbgdfpaaGreat.X
