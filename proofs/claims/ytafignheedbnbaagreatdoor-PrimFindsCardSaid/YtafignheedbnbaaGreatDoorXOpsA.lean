/- A verified executor of the program's code, part XOpsA; no condition. -/
import Derived.Test.YtafignheedbnbaaGreatDoorXRel
import Derived.Great.BuildSlice
namespace Go.Proofs.YtafignheedbnbaaGreatDoor.X
open Go
set_option linter.unusedVariables false
set_option linter.unusedSimpArgs false

/-- the frame -/
def FR (σ : Sg) (ρ : Ren) (F : Fr) (a : Act) : Prop := ∀ t, VR σ ρ ((F.get (P.of t)).getD V.undef) (a.tmps.getD t undef)
theorem FR.mono {σ : Sg} {ρ ρ' : Ren} {F : Fr} {a : Act} (h : FR σ ρ F a) (hr : ρ.le ρ') : FR σ ρ' F a := fun t => (h t).mono hr

section
variable {p : Program} {σ : Sg} {ρ : Ren} {F : Fr} {H H' : Hp} {a : Act} {w : World} {v : V} {xo : XO} {o : Oper}

theorem cOpd_sound (hF : FR σ ρ F a) {x : Operand} {y : Opd} (h : cOpd x = some y) : VR σ ρ (ev F y) (a.eval x) := by
  cases x with
  | tmp t => simp [cOpd] at h; subst h; exact hF t
  | const c =>
    simp only [cOpd, Option.map_eq_some_iff] at h
    obtain ⟨u, hu, rfl⟩ := h
    exact absV_sound σ ρ hu
  | global g => simp [cOpd] at h
  | func f => simp [cOpd] at h; subst h; exact .func _ .nil .nil
theorem cOpds_sound (hF : FR σ ρ F a) : ∀ {l : List Operand} {l' : List Opd}, cOpds l = some l' → VRs σ ρ (l'.map (ev F)) (l.map a.eval)
  | [], l', h => by simp [cOpds] at h; subst h; exact .nil
  | x :: r, l', h => by
    unfold cOpds at h
    split at h
    · rename_i y t hy ht
      simp at h; subst h
      exact .cons (cOpd_sound hF hy) (cOpds_sound hF ht)
    · cases h

/-- An operation yields. -/
def Gives (p : Program) (σ : Sg) (s : Sem Next) (ρ : Ren) (H : Hp) (w : World) (v : V) (H' : Hp) : Prop :=
  ∃ x w' ρ', (s.run p w = .ok (.value x) w' ∨ (s.run p w = .ok .skip w' ∧ x = undef)) ∧ VR σ ρ' v x ∧ HR σ ρ' H' w' ∧ Stp ρ H w ρ' H' w'
theorem Gives.same {s : Sem Next} {x : Value} (hH : HR σ ρ H w) (hr : s.run p w = .ok (.value x) w) (hv : VR σ ρ v x) : Gives p σ s ρ H w v H := ⟨x, w, ρ, .inl hr, hv, hH, .refl _ _ _⟩
/-- An operation yields, and leaves memory alone. -/
def GivesQ (p : Program) (σ : Sg) (s : Sem Next) (ρ : Ren) (H : Hp) (w : World) (v : V) (H' : Hp) : Prop :=
  ∃ x, s.run p w = .ok (.value x) w ∧ VR σ ρ v x ∧ HR σ ρ H w ∧ H' = H
theorem GivesQ.same {s : Sem Next} {x : Value} (hH : HR σ ρ H w) (hr : s.run p w = .ok (.value x) w) (hv : VR σ ρ v x) : GivesQ p σ s ρ H w v H := ⟨x, hr, hv, hH, rfl⟩
theorem GivesQ.gives {s : Sem Next} (h : GivesQ p σ s ρ H w v H') : Gives p σ s ρ H w v H' := by
  obtain ⟨x, hr, hv, hH, rfl⟩ := h
  exact .same hH hr hv
theorem run_v {s : Sem Value} {x : Value} {w' : World} (h : s.run p w = .ok x w') : Sem.run p (do pure (Next.value (← s))) w = .ok (.value x) w' := by
  simp [Sem.run_bind, h]
theorem run_u {s : Sem Unit} {w' : World} (h : s.run p w = .ok () w') : Sem.run p (do s; pure Next.skip) w = .ok .skip w' := by
  simp [Sem.run_bind, h]
theorem run_und {t : TypeId} {d : TypeDesc} (h : p.underlying t = some d) : (underlying t).run p w = .ok d w := by
  simp [underlying, program, Sem.run_bind, Sem.run, h]
theorem szOf_spec {t : TypeId} {n : Nat} (h : szOf p t = some n) : ∃ i, p.info? t = some i ∧ i.size = n := by
  simpa [szOf] using h
theorem run_size {t : TypeId} {n : Nat} (h : szOf p t = some n) : (sizeOf t).run p w = .ok n w := by
  obtain ⟨i, hi, rfl⟩ := szOf_spec h
  simp [sizeOf, typeInfo, program, Sem.run_bind, Sem.run, hi]
theorem aggT_spec {t : TypeId} {b : Bool} (h : aggT p t = some b) : ∃ d, p.underlying t = some d ∧ (match d with | .struct _ | .array _ _ => true | _ => false) = b := by
  unfold aggT at h
  split at h <;> simp_all
theorem run_agg {t : TypeId} {b : Bool} (h : aggT p t = some b) : (isAgg t).run p w = .ok b w := by
  obtain ⟨d, hd, rfl⟩ := aggT_spec h
  cases d <;> simp [isAgg, Sem.run_bind, run_und hd]
theorem run_zero {t : TypeId} {z : V} (h : zeroOf p t = some z) : ∃ x, (zeroValue t).run p w = .ok x w ∧ VR σ ρ z x := by
  simp only [zeroOf, Option.bind_eq_some_iff] at h
  obtain ⟨i, hi, x, hx, hz⟩ := h
  exact ⟨x, by simp [zeroValue, typeInfo, program, Sem.run_bind, Sem.run, hi, hx], absV_sound σ ρ hz⟩
theorem zeroOf_spec {t : TypeId} {z : V} (h : zeroOf p t = some z) : ∃ it rz, p.info? t = some it ∧ it.zero = some rz ∧ absV rz = some z := by
  simp only [zeroOf, Option.bind_eq_some_iff] at h
  obtain ⟨it, hit, rz, hrz, hz⟩ := h
  exact ⟨it, rz, hit, hrz, hz⟩
theorem run_loadVar1 {t : TypeId} {x : Addr} {y : Value} (h : aggT p t = some false) (hc : w.cell? x = some y) : (loadVar t x).run p w = .ok y w := by
  simp [loadVar, Sem.run_bind, run_agg h, load, Sem.run, hc]
theorem run_loadVarN {t : TypeId} {x : Addr} {l : List Value} {n : Nat} (h : aggT p t = some true) (hn : szOf p t = some n) (hl : l.length = n) (hc : ∀ j y, l[j]? = some y → w.cell? (x.add j) = some y) :
    (loadVar t x).run p w = .ok (.agg ⟨l⟩) w := by
  have := run_loadCells_list (P := p) w x l hc
  rw [hl] at this
  simp [loadVar, Sem.run_bind, run_agg h, run_size hn, this]
theorem run_storeVar' {t : TypeId} {r b : Nat} {y : Value} {n : Nat} (hn : szOf p t = some n) (hl : y.cells.toList.length = n)
    (hc : ∀ j, j < y.cells.toList.length → (w.cell? ⟨r, b + j, none⟩).isSome = true) (hf : ∀ j, j < y.cells.toList.length → w.frozen? ⟨r, b + j, none⟩ = false) (h1 : ∀ v ∈ y.cells.toList, v.oneCell' = true) :
    (storeVar t ⟨r, b, none⟩ y).run p w = .ok () (w.setCells r b y.cells.toList) := by
  have := run_storeCells_cells (P := p) r b y.cells.toList 0 w (by simpa using hc) (by simpa using hf) h1
  simp only [Nat.add_zero] at this
  have hz : y.cells.size = n := by simpa using hl
  simp [storeVar, Sem.run_bind, run_size hn, hz, this]
theorem newVar_run (t : TypeId) (y : Value) : (newVar t y).run p w = .ok ⟨w.heap.size, 0, none⟩ { w with heap := w.heap.push (.cells y.cells t) } := by
  simp [newVar, newRow, newObj, Sem.run_bind, Sem.run]

/-- a row of cells of the call's own -/
theorem Gives.row {vs : List V} {e : TypeId} {cs : Array Value} {s : Sem Next} {x : Value} {pl : Bool} (hH : HR σ ρ H w) (hx : VRs σ ρ vs cs.toList) (hp : pl = true → 0 < vs.length) (hr : s.run p w = .ok (.value x) { w with heap := w.heap.push (.cells cs e) })
    (hv : VR σ (ρ.add H.next ⟨w.heap.size, 0, vs.length⟩) v x) : Gives p σ s ρ H w v (H.newRow vs pl) := by
  have hl := hx.length
  obtain ⟨h1, h2⟩ := hH.newRow (sp := []) hx e pl (fun h => by have := hp h; simp at hl ⊢; omega) 0 0 (fun j _ => by omega) (fun _ => ⟨rfl, rfl⟩)
  simp only [List.append_nil, List.length_nil, Nat.add_zero, ← hl] at h1 h2
  exact ⟨x, _, _, .inl hr, hv, h1, h2⟩
theorem Ren.add_same (ρ : Ren) (q : P) (b : RB) : (ρ.add q b) q = some b := by unfold Ren.add; rw [if_pos rfl]

theorem s_mv {x : Operand} {y : Opd} (he : execOp a.eval o = pure (.value (a.eval x))) (hy : cOpd x = some y) (hF : FR σ ρ F a) (hH : HR σ ρ H w) (hd : doX (.mv y) F H = some (v, H')) : GivesQ p σ (execOp a.eval o) ρ H w v H' := by
  simp [doX] at hd
  obtain ⟨rfl, rfl⟩ := hd
  exact .same hH (x := a.eval x) (by rw [he]; simp) (cOpd_sound hF hy)
theorem s_pick {c x y : Operand} (ho : o.op = .pick c x y) (hc : cPlain p o = some xo) (hF : FR σ ρ F a) (hH : HR σ ρ H w) (hd : doX xo F H = some (v, H')) : GivesQ p σ (execOp a.eval o) ρ H w v H' := by
  simp [cPlain, ho, Option.bind_eq_some_iff] at hc
  obtain ⟨c', hc, x', hx, y', hy, rfl⟩ := hc
  have h1 := cOpd_sound hF hc
  have h2 := cOpd_sound hF hx
  have h3 := cOpd_sound hF hy
  simp only [doX] at hd
  split at hd
  · rename_i e
    rw [e] at h1
    generalize hce : a.eval c = cv at h1
    cases h1
    simp at hd; obtain ⟨rfl, rfl⟩ := hd
    exact .same hH (x := a.eval x) (by simp [execOp, ho, asBool, hce]) h2
  · rename_i e
    rw [e] at h1
    generalize hce : a.eval c = cv at h1
    cases h1
    simp at hd; obtain ⟨rfl, rfl⟩ := hd
    exact .same hH (x := a.eval y) (by simp [execOp, ho, asBool, hce]) h3
  · cases hd

theorem s_alloc {e : TypeId} (hs : SgOk σ) (ho : o.op = .alloc e) (hc : cPlain p o = some xo) (hH : HR σ ρ H w) (hd : doX xo F H = some (v, H')) : Gives p σ (execOp a.eval o) ρ H w v H' := by
  simp [cPlain, ho, absZ, Option.bind_eq_some_iff] at hc
  obtain ⟨_, ⟨z, hz, rfl⟩, rfl⟩ := hc
  simp only [doX] at hd
  obtain ⟨h0, hd⟩ := bif_some hd
  simp at h0 hd
  obtain ⟨rfl, rfl⟩ := hd
  obtain ⟨x, hx, hr⟩ := run_zero (σ := σ) (ρ := ρ) (w := w) hz
  refine Gives.row (pl := true) hH (hr.cells hs) (fun _ => by omega) (x := .pointer (some ⟨w.heap.size, 0, none⟩)) (e := e) ?_ (.ptr 0 (Ren.add_same _ _ _))
  simp only [execOp, ho]
  exact run_v (by simp [Instr.alloc, Sem.run_bind, hx, newVar_run])
theorem s_box {e : TypeId} {x : Operand} (hs : SgOk σ) (ho : o.op = .box e x) (hc : cPlain p o = some xo) (hF : FR σ ρ F a) (hH : HR σ ρ H w) (hd : doX xo F H = some (v, H')) : Gives p σ (execOp a.eval o) ρ H w v H' := by
  simp [cPlain, ho, Option.bind_eq_some_iff] at hc
  obtain ⟨n, hn, x', hx, rfl⟩ := hc
  have h1 := cOpd_sound hF hx
  simp only [doX] at hd
  obtain ⟨h0, hd⟩ := bif_some hd
  simp at h0 hd
  obtain ⟨rfl, rfl⟩ := hd
  refine Gives.row (pl := true) hH (h1.cells hs) (fun _ => by omega) (x := .pointer (some ⟨w.heap.size, 0, none⟩)) (e := e) ?_ (.ptr 0 (Ren.add_same _ _ _))
  simp only [execOp, ho]
  exact run_v (by simp [Instr.box, Sem.run_bind, newVar_run])

/-! parts of an aggregate -/
theorem foldl_fill (off : Nat) : ∀ (vs : List Value) (k : Nat) (cs : Array Value), off + k + vs.length ≤ cs.size →
    ((vs.zipIdx k).foldl (fun cs (x : Value × Nat) => cs.setIfInBounds (off + x.2) x.1) cs).toList = cs.toList.take (off + k) ++ vs ++ cs.toList.drop (off + k + vs.length)
  | [], k, cs, h => by simp
  | v :: r, k, cs, h => by
    simp only [List.length_cons] at h
    rw [List.zipIdx_cons, List.foldl_cons, foldl_fill off r (k + 1) _ (by simp; omega)]
    simp only [Array.toList_setIfInBounds, List.length_cons]
    have h1 : off + k < cs.toList.length := by simp; omega
    rw [show off + (k + 1) = off + k + 1 from by omega]
    rw [List.drop_set_of_lt (by omega), List.take_set, List.take_succ_eq_append_getElem h1]
    rw [List.set_append_right _ _ (by simp; omega)]
    simp [show min (off + k) cs.size = off + k from by omega, show off + k + 1 + r.length = off + k + (r.length + 1) from by omega]
theorem fillP_sound (hs : SgOk σ) (hF : FR σ ρ F a) {place : Nat → Option (Nat × Nat)} : ∀ {ps : List (Nat × Operand)} {qs : List (Nat × Nat × Opd)} {z cs : List V} {rz : Array Value}, cParts p place ps = some qs → fillP (ev F) qs z = some cs → VRs σ ρ z rz.toList →
    ∃ rc : Array Value, Instr.fill place rz (ps.map fun (i, x) => (i, a.eval x)) = some rc ∧ VRs σ ρ cs rc.toList
  | [], qs, z, cs, rz, h, hf, hz => by
    simp [cParts] at h; subst h
    simp [fillP] at hf; subst hf
    exact ⟨rz, rfl, hz⟩
  | (i, x) :: r, qs, z, cs, rz, h, hf, hz => by
    unfold cParts at h
    split at h
    · rename_i off sz y l hpl hy hl
      simp at h; subst h
      simp only [fillP] at hf
      obtain ⟨h0, hf⟩ := bif_some hf
      simp only [Bool.and_eq_true, beq_iff, ble_iff, decide_eq_true_eq] at h0
      have h1 := (cOpd_sound hF hy).cells hs
      have hlen := h1.length
      have hzl := hz.length
      have hn : Nat.add off sz = off + sz := rfl
      rw [hn] at h0
      have hsz : (a.eval x).cells.size = sz := by rw [← Array.length_toList, ← hlen, h0.1]
      have hfold := foldl_fill off (a.eval x).cells.toList 0 rz (by simp only [Array.length_toList] at *; omega)
      simp only [Nat.add_zero, Array.length_toList, hsz] at hfold
      have hnew : VRs σ ρ (z.take off ++ (ev F y).cells ++ z.drop (off + sz)) ((((a.eval x).cells.toList.zipIdx 0).foldl (fun cs (x : Value × Nat) => cs.setIfInBounds (off + x.2) x.1) rz).toList) := by
        rw [hfold]
        exact ((hz.take off).append h1).append (hz.drop (off + sz))
      obtain ⟨rc, hrc, hv⟩ := fillP_sound hs hF hl hf hnew
      refine ⟨rc, ?_, hv⟩
      rw [List.map_cons]
      show Instr.fill place rz ((i, a.eval x) :: _) = _
      unfold Instr.fill
      rw [hpl]
      simp only
      rw [if_neg (by simp only [Array.length_toList] at *; simp [hsz]; omega)]
      rw [← hrc]
      congr 1
      rw [← Array.foldl_toList]
      congr 1
      simp [Array.toList_zipIdx]
    · cases h
theorem s_build {t : TypeId} {ps : Array (Nat × Operand)} (hs : SgOk σ) (ho : o.op = .build t ps) (hc : cPlain p o = some xo) (hF : FR σ ρ F a) (hH : HR σ ρ H w) (hd : doX xo F H = some (v, H')) : GivesQ p σ (execOp a.eval o) ρ H w v H' := by
  have fin : ∀ (z : V) (qs : List (Nat × Nat × Opd)) (place : Nat → Option (Nat × Nat)) (it : TypeInfo) (rz : Value), p.info? t = some it → it.zero = some rz → absV rz = some z → cParts p place ps.toList = some qs → doX (.build z.cells qs) F H = some (v, H') →
      (∀ l, Instr.fill place rz.cells l = p.built t l) → GivesQ p σ (execOp a.eval o) ρ H w v H' := by
    intro z qs place it rz hit hrz hz hq hd hb
    simp only [doX] at hd
    split at hd
    · rename_i cs hcs
      simp at hd; obtain ⟨rfl, rfl⟩ := hd
      obtain ⟨rc, hrc, hv⟩ := fillP_sound hs hF hq hcs ((absV_sound σ ρ hz).cells hs)
      refine .same hH (x := .agg rc) ?_ (.agg hv)
      simp only [execOp, ho]
      refine run_v (run_build w t _ rc ?_)
      rw [← hb, ← hrc]
      simp
    · cases hd
  simp only [cPlain, ho] at hc
  split at hc
  · rename_i fs hu
    simp [absZ, Option.bind_eq_some_iff] at hc
    obtain ⟨_, ⟨z, hz, rfl⟩, pl, hpl, qs, hq, rfl⟩ := hc
    obtain ⟨it, rz, hit, hrz, hz⟩ := zeroOf_spec hz
    refine fin z qs _ it rz hit hrz hz hq hd (fun l => ?_)
    unfold Program.built
    rw [hit, hu]
    simp only [hrz, hpl]
    simp
  · rename_i n e hu
    simp [absZ, szOf, Option.bind_eq_some_iff] at hc
    obtain ⟨_, ⟨z, hz, rfl⟩, s, ⟨ie, hie, rfl⟩, qs, hq, rfl⟩ := hc
    obtain ⟨it, rz, hit, hrz, hz⟩ := zeroOf_spec hz
    refine fin z qs _ it rz hit hrz hz hq hd (fun l => ?_)
    unfold Program.built
    rw [hit, hu]
    simp only [hrz, hie]
  · cases hc
end
end Go.Proofs.YtafignheedbnbaaGreatDoor.X
namespace Go.Proofs.YtafignheedbnbaaGreatDoor.X
open Go
set_option linter.unusedVariables false
set_option linter.unusedSimpArgs false
section
variable {p : Program} {σ : Sg} {ρ : Ren} {F : Fr} {H H' : Hp} {a : Act} {w : World} {v : V} {xo : XO} {o : Oper}

theorem VR.ptr_inv {q : P} {i : Nat} {x : Value} (h : VR σ ρ (.ptr (some (q, i))) x) : ∃ b, ρ q = some b ∧ x = .pointer (some ⟨b.r, b.b + i, none⟩) := by
  cases h with | ptr i h => exact ⟨_, h, rfl⟩
theorem VR.int_inv {k : IntKind} {n : Int} {x : Value} (h : VR σ ρ (.int k n) x) : x = .int k n := by cases h; rfl
theorem VR.bool_inv {b : Bool} {x : Value} (h : VR σ ρ (.bool b) x) : x = .bool b := by cases h; rfl
theorem VR.str_inv {l n : Nat} {x : Value} (h : VR σ ρ (.str l n) x) : ∃ s : ByteArray, x = .string s ∧ l = s.size ∧ n = digits s.data.toList := by
  cases h with | str s => exact ⟨s, rfl, rfl, rfl⟩

theorem s_load {t : TypeId} {x : Operand} (ho : o.op = .load t x) (hc : cPlain p o = some xo) (hF : FR σ ρ F a) (hH : HR σ ρ H w) (hd : doX xo F H = some (v, H')) : GivesQ p σ (execOp a.eval o) ρ H w v H' := by
  simp [cPlain, ho, Option.bind_eq_some_iff] at hc
  obtain ⟨x', hx, hc⟩ := hc
  have h1 := cOpd_sound hF hx
  cases hg : aggT p t with
  | none => rw [hg] at hc; simp at hc
  | some g =>
    rw [hg] at hc
    cases g with
    | true =>
      simp [Option.bind_eq_some_iff] at hc
      obtain ⟨n, hn, rfl⟩ := hc
      simp only [doX] at hd
      split at hd
      · rename_i b i e
        rw [e] at h1
        obtain ⟨rb, hb, hax⟩ := h1.ptr_inv
        split at hd
        · rename_i l hl
          simp at hd; obtain ⟨rfl, rfl⟩ := hd
          obtain ⟨xs, g1, g2, g3⟩ := hH.loadn hl hb
          refine .same hH (x := .agg ⟨xs⟩) ?_ (.agg g1)
          simp only [execOp, ho, hax]
          exact run_v (by simpa [Instr.loadAt, Instr.sureAddr] using run_loadVarN hg hn g2 g3)
        · cases hd
      · cases hd
    | false =>
      simp at hc; subst hc
      simp only [doX] at hd
      split at hd
      · rename_i b i e
        rw [e] at h1
        obtain ⟨rb, hb, hax⟩ := h1.ptr_inv
        split at hd
        · rename_i u hl
          simp at hd; obtain ⟨rfl, rfl⟩ := hd
          obtain ⟨y, g1, g2⟩ := hH.load hl hb
          refine .same hH (x := y) ?_ g2
          simp only [execOp, ho, hax]
          exact run_v (by simpa [Instr.loadAt, Instr.sureAddr] using run_loadVar1 hg g1)
        · cases hd
      · cases hd
theorem s_store {t : TypeId} {x y : Operand} (hs : SgOk σ) (ho : o.op = .store t x y) (hc : cPlain p o = some xo) (hF : FR σ ρ F a) (hH : HR σ ρ H w) (hd : doX xo F H = some (v, H')) : Gives p σ (execOp a.eval o) ρ H w v H' := by
  simp [cPlain, ho, Option.bind_eq_some_iff] at hc
  obtain ⟨n, hn, x', hx, y', hy, rfl⟩ := hc
  have h1 := cOpd_sound hF hx
  have h2 := (cOpd_sound hF hy).cells hs
  simp only [doX] at hd
  obtain ⟨h0, hd⟩ := bif_some hd
  simp only [beq_iff, decide_eq_true_eq] at h0
  split at hd
  · rename_i b i e
    rw [e] at h1
    obtain ⟨rb, hb, hax⟩ := h1.ptr_inv
    split at hd
    · rename_i H1 hl
      simp at hd; obtain ⟨rfl, rfl⟩ := hd
      obtain ⟨g1, g2, g3, g4, g5⟩ := hH.storen hs hl hb h2
      refine ⟨Go.undef, _, ρ, .inr ⟨?_, rfl⟩, VR.undef σ ρ, g4, g5⟩
      simp only [execOp, ho, hax]
      refine run_u ?_
      have := run_storeVar' (p := p) (w := w) hn (by rw [← h2.length, h0]) g1 g2 g3
      simpa [Instr.storeAt, Instr.sureAddr] using this
    · cases hd
  · cases hd
theorem part_ptr {t e : TypeId} {cs : Array Value} {off : Nat} {y : Value} (h : p.underlying t = some (.pointer e)) (hy : cs[off]? = some y) : (part t cs off).run p w = .ok y w := by
  have ha : aggT p t = some false := by unfold aggT; rw [h]
  simp [part, Sem.run_bind, run_agg ha, hy]
theorem run_method {t f : Nat} {n : Option Nat} {nm : String} {v x : Value} (h : methFit p t nm = some (f, n)) (hv : recvAt n v x) (k : Nat) : (method (k + 1) t v nm).run p w = .ok (f, x) w := by
  unfold methFit at h
  split at h
  · rename_i i hi
    have ht : (typeInfo t).run p w = .ok i w := by simp [typeInfo, Sem.run_bind, hi]
    split at h
    · rename_i m hm
      split at h
      · rename_i hp
        split at h
        · rename_i g e h1 h2
          simp at h; obtain ⟨rfl, rfl⟩ := h
          have hvx : v = x := hv
          subst hvx
          simp only [method, Sem.run_bind, ht, Result.andThen_ok, hm, hp, h1, follow, Sem.run_pure]
          simp [receiverAt, Sem.run_bind, run_und h2, Place.get]
        · cases h
        · cases h
        · rename_i g u hn h1 h2
          simp at h; obtain ⟨rfl, rfl⟩ := h
          have hvx : v = x := hv
          subst hvx
          simp only [method, Sem.run_bind, ht, Result.andThen_ok, hm, hp, h1, follow, Sem.run_pure]
          cases u <;> first | exact (hn _ rfl).elim | simp [receiverAt, Sem.run_bind, run_und h2, Place.get]
        · cases h
      · rename_i s hp
        split at h
        · cases h
        · rename_i hd
          have hd' : s.deref = false := by simpa using hd
          split at h
          · rename_i fs hs
            split at h
            · rename_i fd hf
              split at h
              · rename_i g e h1 h2
                simp at h; obtain ⟨rfl, rfl⟩ := h
                obtain ⟨cs, rfl, hc⟩ := hv
                have hpt := part_ptr (p := p) (w := w) h2 hc
                have hpe : m.path.isEmpty = false := by
                  have : m.path ≠ #[] := fun e => by rw [e] at hp; simp at hp
                  simpa using this
                simp only [method, Sem.run_bind, ht, Result.andThen_ok, hm, hp, h1, follow, run_und hs, hf, hd', Bool.false_eq_true, if_false, hpt, Sem.run_pure, hpe]
                simp [receiverAt, Sem.run_bind, run_und h2, Place.get]
              · cases h
            · cases h
          · cases h
      · cases h
    · cases h
  · cases h
theorem run_nilAhead {t f : Nat} {n : Option Nat} {nm : String} {v x : Value} (h : methFit p t nm = some (f, n)) (hv : recvAt n v x) (k : Nat) : (nilAhead (k + 1) t v nm).run p w = .ok (some false) w := by
  unfold methFit at h
  split at h
  · rename_i i hi
    have ht : (typeInfo t).run p w = .ok i w := by simp [typeInfo, Sem.run_bind, hi]
    split at h
    · rename_i m hm
      split at h
      · rename_i hp
        split at h
        · rename_i g e h1 h2
          simp only [nilAhead, Sem.run_bind, ht, Result.andThen_ok, hm, hp, h1, followBlind, Sem.run_pure]
        · cases h
        · cases h
        · rename_i g u hn h1 h2
          simp only [nilAhead, Sem.run_bind, ht, Result.andThen_ok, hm, hp, h1, followBlind, Sem.run_pure]
          cases u <;> first | exact (hn _ rfl).elim | simp [Sem.run_bind, run_und h2]
        · cases h
      · rename_i s hp
        split at h
        · cases h
        · rename_i hd
          have hd' : s.deref = false := by simpa using hd
          split at h
          · rename_i fs hs
            split at h
            · rename_i fd hf
              split at h
              · rename_i g e h1 h2
                simp at h; obtain ⟨rfl, rfl⟩ := h
                obtain ⟨cs, rfl, hc⟩ := hv
                have hpt := part_ptr (p := p) (w := w) h2 hc
                simp [nilAhead, Sem.run_bind, ht, hm, hp, h1, followBlind, run_und hs, hf, hd', hpt]
              · cases h
            · cases h
          · cases h
      · cases h
    · cases h
  · cases h
theorem recv_sound {n : Option Nat} {v u : V} {y : Value} (h : VR σ ρ v y) (hr : recvX n v = some u) : ∃ x, recvAt n y x ∧ VR σ ρ u x := by
  cases n with
  | none => cases hr; exact ⟨y, rfl, h⟩
  | some n =>
    simp only [recvX] at hr
    split at hr
    · cases h with
      | agg h =>
        obtain ⟨x, hx, hv⟩ := h.get hr
        exact ⟨x, ⟨_, rfl, by simpa using hx⟩, hv⟩
    · cases hr
theorem run_nilck_meth {t f : Nat} {n : Option Nat} {nm : String} {v u : Value} {x : Operand} {ev : Operand → Value} (ho : o.op = .nilCheck x) (hx : ev x = .func (.method nm) ⟨[.iface t v]⟩ ⟨[]⟩) (h : methFit p t nm = some (f, n)) (hv : recvAt n v u) :
    (execOp ev o).run p w = .ok (.value (.func (.method nm) ⟨[.iface t v]⟩ ⟨[]⟩)) w := by
  have h0 : 1 ≤ Made.depth := by decide
  have h1 : p.types.size + Made.depth = (p.types.size + (Made.depth - 1)) + 1 := by omega
  have := run_nilAhead (w := w) h hv (p.types.size + (Made.depth - 1))
  rw [← h1] at this
  simp [execOp, ho, hx, Sem.run_bind, this]
theorem s_nilck (hp : σ.prog = p) {x : Operand} (ho : o.op = .nilCheck x) (hc : cPlain p o = some xo) (hF : FR σ ρ F a) (hH : HR σ ρ H w) (hd : doX xo F H = some (v, H')) : GivesQ p σ (execOp a.eval o) ρ H w v H' := by
  simp [cPlain, ho] at hc
  obtain ⟨x', hx, rfl⟩ := hc
  have h1 := cOpd_sound hF hx
  simp only [doX] at hd
  split at hd
  · rename_i q e
    simp at hd; obtain ⟨rfl, rfl⟩ := hd
    rw [e] at h1
    refine .same hH (x := a.eval x) ?_ h1
    obtain ⟨rb, hb, hax⟩ := h1.ptr_inv
    simp [execOp, ho, hax]
  · rename_i t u e
    simp at hd; obtain ⟨rfl, rfl⟩ := hd
    rw [e] at h1
    refine .same hH (x := a.eval x) ?_ h1
    generalize hax : a.eval x = ax at h1
    cases h1
    simp [execOp, ho, hax]
  · rename_i f u1 u2 e
    simp at hd; obtain ⟨rfl, rfl⟩ := hd
    rw [e] at h1
    refine .same hH (x := a.eval x) ?_ h1
    generalize hax : a.eval x = ax at h1
    cases h1 with
    | func _ _ _ => simp [execOp, ho, hax]
    | meth hm hy h => exact run_nilck_meth ho hax (hp ▸ hm) hy
  · rename_i r e
    simp at hd; obtain ⟨rfl, rfl⟩ := hd
    rw [e] at h1
    refine .same hH (x := a.eval x) ?_ h1
    generalize hax : a.eval x = ax at h1
    cases h1 <;> simp [execOp, ho, hax]
  · cases hd
theorem s_un {op : UnOp} {t : TypeId} {x : Operand} (ho : o.op = .unOp op t x) (hc : cPlain p o = some xo) (hF : FR σ ρ F a) (hH : HR σ ρ H w) (hd : doX xo F H = some (v, H')) : GivesQ p σ (execOp a.eval o) ρ H w v H' := by
  simp [cPlain, ho, Option.bind_eq_some_iff] at hc
  obtain ⟨x', hx, rfl⟩ := hc
  have h1 := cOpd_sound hF hx
  simp only [doX] at hd
  split at hd
  · rename_i b e
    simp at hd; obtain ⟨rfl, rfl⟩ := hd
    rw [e] at h1
    refine .same hH (x := .bool (!b)) ?_ (.bool _)
    simp only [execOp, ho, h1.bool_inv]
    exact run_v (by simp [Op.unary])
  · rename_i k n e
    simp at hd; obtain ⟨rfl, rfl⟩ := hd
    rw [e] at h1
    refine .same hH (x := .int k (k.wrap (0 - n))) ?_ (by rw [wrapI_spec]; exact .int _ _)
    simp only [execOp, ho, h1.int_inv]
    exact run_v (by simp [Op.unary, Op.intArith])
  · rename_i k n e
    rw [e] at h1
    split at hd
    · rename_i u hu
      simp at hd; obtain ⟨rfl, rfl⟩ := hd
      obtain ⟨r, hr, hv⟩ := binI_sound (p := p) (w := w) 0 hu
      refine .same hH (x := r) ?_ (hv _ _)
      simp only [execOp, ho, h1.int_inv]
      refine run_v ?_
      rw [← hr]
      simp only [Op.unary, binOp]
      simp only [ne_eq, not_true_eq_false, if_false]
      cases k <;> rfl
    · cases hd
  · cases hd
theorem eqGuard_skip {op : BinOp} {t : TypeId} {x y : Operand} {ax ay : Value} (h : op = .eql ∨ op = .neq → (ax = .nilIface → ay = .nilIface → False) ∧ (∀ u w, ax = .agg u → ay = .agg w → False)) : (eqGuard op t x y ax ay).run p w = .ok () w := by
  unfold eqGuard
  cases op
  case eql =>
    obtain ⟨g1, g2⟩ := h (.inl rfl)
    cases ax <;> cases ay <;> first | (exact (g1 rfl rfl).elim) | (exact (g2 _ _ rfl rfl).elim) | simp
  case neq =>
    obtain ⟨g1, g2⟩ := h (.inr rfl)
    cases ax <;> cases ay <;> first | (exact (g1 rfl rfl).elim) | (exact (g2 _ _ rfl rfl).elim) | simp
  all_goals simp
theorem run_bin {op : BinOp} {t t' : TypeId} {x y : Operand} {r : Value} (ho : o.op = .binOp op t x y t') (hg : (eqGuard op t x y (a.eval x) (a.eval y)).run p w = .ok () w) (hr : (binOp op t (a.eval x) (a.eval y)).run p w = .ok r w) :
    (execOp a.eval o).run p w = .ok (.value r) w := by
  simp only [execOp, ho]
  exact run_v (by simp [Sem.run_bind, hg, hr])
theorem s_bin {op : BinOp} {t t' : TypeId} {x y : Operand} {x' y' : Opd} (ho : o.op = .binOp op t x y t') (hx : cOpd x = some x') (hy : cOpd y = some y') (hF : FR σ ρ F a) (hH : HR σ ρ H w) (hd : doX (.bin op x' y') F H = some (v, H')) : GivesQ p σ (execOp a.eval o) ρ H w v H' := by
  have h1 := cOpd_sound hF hx
  have h2 := cOpd_sound hF hy
  simp only [doX] at hd
  split at hd
  · rename_i k n j m e1 e2
    rw [e1] at h1; rw [e2] at h2
    split at hd
    · rename_i u hu
      simp at hd; obtain ⟨rfl, rfl⟩ := hd
      obtain ⟨r, hr, hv⟩ := shI_sound (p := p) (w := w) (j := j) t hu
      exact .same hH (run_bin ho (eqGuard_skip (by simp)) (by rw [h1.int_inv, h2.int_inv]; exact hr)) (hv _ _)
    · cases hd
  · rename_i k n j m e1 e2
    rw [e1] at h1; rw [e2] at h2
    split at hd
    · rename_i u hu
      simp at hd; obtain ⟨rfl, rfl⟩ := hd
      obtain ⟨r, hr, hv⟩ := shI_sound (p := p) (w := w) (j := j) t hu
      exact .same hH (run_bin ho (eqGuard_skip (by simp)) (by rw [h1.int_inv, h2.int_inv]; exact hr)) (hv _ _)
    · cases hd
  · rename_i k n j m e1 e2
    rw [e1] at h1; rw [e2] at h2
    obtain ⟨hkj, hd⟩ := bif_some hd
    simp at hkj; subst hkj
    split at hd
    · rename_i u hu
      simp at hd; obtain ⟨rfl, rfl⟩ := hd
      obtain ⟨r, hr, hv⟩ := binI_sound (p := p) (w := w) t hu
      exact .same hH (run_bin ho (eqGuard_skip (by rw [h1.int_inv]; simp)) (by rw [h1.int_inv, h2.int_inv]; exact hr)) (hv _ _)
    · simp at hd
  · rename_i la n lb m e1 e2
    rw [e1] at h1; rw [e2] at h2
    split at hd
    · rename_i u hu
      simp at hd; obtain ⟨rfl, rfl⟩ := hd
      obtain ⟨s1, q1, rfl, rfl⟩ := h1.str_inv
      obtain ⟨s2, q2, rfl, rfl⟩ := h2.str_inv
      obtain ⟨r, hr, hv⟩ := binS_sound (p := p) (w := w) t hu
      exact .same hH (run_bin ho (eqGuard_skip (by rw [q1]; simp)) (by rw [q1, q2]; exact hr)) (hv _ _)
    · cases hd
  · cases hd
theorem s_iface {t : TypeId} {x : Operand} (ho : o.op = .makeInterface t x) (hc : cPlain p o = some xo) (hF : FR σ ρ F a) (hH : HR σ ρ H w) (hd : doX xo F H = some (v, H')) : GivesQ p σ (execOp a.eval o) ρ H w v H' := by
  simp only [cPlain, ho] at hc
  split at hc
  · cases hc
  · rename_i d hne hu
    simp [Option.bind_eq_some_iff] at hc
    obtain ⟨x', hx, rfl⟩ := hc
    have h1 := cOpd_sound hF hx
    simp [doX] at hd
    obtain ⟨rfl, rfl⟩ := hd
    refine .same hH (x := .iface t (a.eval x)) ?_ (.iface t h1)
    simp only [execOp, ho]
    refine run_v ?_
    cases d <;> first | exact (hne _ rfl).elim | simp [Instr.makeInterface, Sem.run_bind, run_und hu]
  · cases hc
theorem fitOf_mem : ∀ {l : List (Nat × Nat × Option Nat)} {t : Nat} {f : Nat × Option Nat}, fitOf l t = some f → (t, f) ∈ l
  | [], _, _, h => by cases h
  | (a, g) :: r, t, f, h => by
    unfold fitOf at h
    rw [beq_iff] at h
    by_cases e : a = t
    · rw [decide_eq_true e, cond_true] at h; simp at h; subst h; subst e; simp
    · rw [decide_eq_false e, cond_false] at h; exact List.mem_cons_of_mem _ (fitOf_mem h)
theorem fitsOf_sound {nm : String} {t : Nat} {f : Nat × Option Nat} (h : fitOf (fitsOf p nm) t = some f) : methFit p t nm = some f := by
  have := fitOf_mem h
  unfold fitsOf at this
  rw [List.mem_filterMap] at this
  obtain ⟨⟨i, t'⟩, -, h2⟩ := this
  simp only at h2
  split at h2
  · simp only [Option.map_eq_some_iff, Prod.mk.injEq] at h2
    obtain ⟨g, h3, rfl, rfl⟩ := h2
    exact h3
  · cases h2
theorem s_func (hp : σ.prog = p) {fn : Fn} {x y : Array Operand} (ho : o.op = .makeFunc fn x y) (hc : cPlain p o = some xo) (hF : FR σ ρ F a) (hH : HR σ ρ H w) (hd : doX xo F H = some (v, H')) : GivesQ p σ (execOp a.eval o) ρ H w v H' := by
  have e1 : x.map a.eval = ⟨x.toList.map a.eval⟩ := by apply Array.ext'; simp
  have e2 : y.map a.eval = ⟨y.toList.map a.eval⟩ := by apply Array.ext'; simp
  have gen : (do pure (XO.mkfunc fn (← cOpds x.toList) (← cOpds y.toList)) : Option XO) = some xo → GivesQ p σ (execOp a.eval o) ρ H w v H' := fun hc => by
    simp [Option.bind_eq_some_iff] at hc
    obtain ⟨x', hx, y', hy, rfl⟩ := hc
    have h1 := cOpds_sound hF hx
    have h2 := cOpds_sound hF hy
    simp [doX] at hd
    obtain ⟨rfl, rfl⟩ := hd
    refine .same hH (x := .func fn (x.map a.eval) (y.map a.eval)) ?_ ?_
    · simp only [execOp, ho]
      exact run_v (by simp [Instr.makeFunc])
    · rw [e1, e2]; exact .func fn h1 h2
  cases fn with
  | method nm =>
    simp only [cPlain, ho] at hc
    split at hc
    · rename_i x1 hx1 hy1
      simp [Option.bind_eq_some_iff] at hc
      obtain ⟨x', hx, rfl⟩ := hc
      have h1 := cOpd_sound hF hx
      simp only [doX] at hd
      split at hd
      · rename_i t u e
        rw [e] at h1
        split at hd
        · rename_i f n hf
          split at hd
          · rename_i u2 hu2
            simp at hd; obtain ⟨rfl, rfl⟩ := hd
            have hm := fitsOf_sound hf
            generalize hax : a.eval x1 = ax at h1
            cases h1 with
            | iface _ h1 =>
              rename_i rx
              obtain ⟨x3, hr3, hv3⟩ := recv_sound h1 hu2
              refine .same hH (x := .func (.method nm) ⟨[.iface t rx]⟩ ⟨[]⟩) ?_ (.meth (hp ▸ hm) hr3 hv3)
              simp only [execOp, ho]
              refine run_v ?_
              rw [e1, e2, hx1, hy1]
              simp [Instr.makeFunc, hax]
          · cases hd
        · cases hd
      · cases hd
    · cases hc
  | func f => exact gen (by simpa [cPlain, ho] using hc)
  | methodOf t nm => exact gen (by simpa [cPlain, ho] using hc)
  | via t pa f b => exact gen (by simpa [cPlain, ho] using hc)
  | yield l => exact gen (by simpa [cPlain, ho] using hc)
theorem s_ext {x : Operand} {n : Nat} (ho : o.op = .extract x n) (hc : cPlain p o = some xo) (hF : FR σ ρ F a) (hH : HR σ ρ H w) (hd : doX xo F H = some (v, H')) : GivesQ p σ (execOp a.eval o) ρ H w v H' := by
  simp [cPlain, ho, Option.bind_eq_some_iff] at hc
  obtain ⟨x', hx, rfl⟩ := hc
  have h1 := cOpd_sound hF hx
  simp only [doX] at hd
  split at hd
  · rename_i vs e
    rw [e] at h1
    generalize hax : a.eval x = ax at h1
    cases h1 with
    | tuple h1 =>
      split at hd
      · rename_i u hu
        simp at hd; obtain ⟨rfl, rfl⟩ := hd
        obtain ⟨y, hy, hr⟩ := h1.get hu
        refine .same hH (x := y) ?_ hr
        simp only [execOp, ho, hax]
        exact run_v (by simp [Instr.extract, hy])
      · cases hd
  · cases hd
end
end Go.Proofs.YtafignheedbnbaaGreatDoor.X
