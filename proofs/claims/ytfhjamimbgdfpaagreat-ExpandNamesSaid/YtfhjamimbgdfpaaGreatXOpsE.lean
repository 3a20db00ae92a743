/- A verified executor, part XOpsE: laws of the executor; no condition. -/
import Derived.Test.YtfhjamimbgdfpaaGreatXOpsD
import Derived.Lib.ConvBytes
namespace Go.Proofs.YtfhjamimbgdfpaaGreat.X
open Go
set_option linter.unusedVariables false
set_option linter.unusedSimpArgs false
section
variable {p : Program} {σ : Sg} {ρ : Ren} {F : Fr} {H H' : Hp} {a : Act} {w : World} {v : V} {xo : XO} {o : Oper}

theorem s_copy {c : Call} {x y : Operand} {t u e : TypeId} {x' y' : Opd} {sz : Nat} (hs : SgOk σ) (ho : o.op = .call c) (hb : c.callee = .builtin .copy) (ha : c.args.toList = [x, y]) (ht : c.argTypes.toList = [t, u])
    (hu : p.underlying t = some (.slice e)) (hsz : szOf p e = some sz)
    (hx : cOpd x = some x') (hy : cOpd y = some y') (hF : FR σ ρ F a) (hH : HR σ ρ H w) (hd : doX (.copy sz x' y') F H = some (v, H')) : Gives p σ (execOp a.eval o) ρ H w v H' := by
  have hx' := cOpd_sound hF hx
  have hy' := cOpd_sound hF hy
  have hex : ∀ r w', (Builtin.copy_ #[t, u] o.type #[a.eval x, a.eval y]).run p w = .ok r w' → (execOp a.eval o).run p w = .ok (.value r) w' := fun r w' hr => by
    rw [exec_builtin ho hb, args_two ha, types_two ht]
    exact run_v hr
  simp only [doX, copyX] at hd
  split at hd
  · rename_i sz0 l0 c0 vs m e0 e1 e2
    rw [e0] at hx'
    obtain ⟨news, g1, g2, g3, g4⟩ := appended_sound (p := p) hH hy' e1 e2
    generalize hax : a.eval x = ax at hx'
    cases hx' with
    | slcN =>
      simp at hd; obtain ⟨rfl, rfl⟩ := hd
      refine .same hH (x := .int .i64 0) (hex _ _ ?_) (.int _ _)
      have := g4 w rfl 0 (Nat.zero_le _)
      simp at this
      simp [Builtin.copy_, Sem.run_bind, run_und hu, run_size hsz, g3, hax, this, goInt, show Nat.min m 0 = 0 from Nat.min_zero m]
  · rename_i b i szx l c0 vs m e0 e1 e2
    rw [e0] at hx'
    obtain ⟨news, g1, g2, g3, g4⟩ := appended_sound (p := p) hH hy' e1 e2
    split at hd
    · rename_i H1 hst
      simp at hd; obtain ⟨rfl, rfl⟩ := hd
      have hmin : Nat.min m l ≤ m := Nat.min_le_left _ _
      have hfc := g4 w rfl (Nat.min m l) hmin
      have key : ∀ (rb : RB) (xa : Addr) (cap : Nat), ρ b = some rb → a.eval x = .slice (some xa) l cap → (l = 0 ∨ xa = ⟨rb.r, rb.b + i, none⟩) → Gives p σ (execOp a.eval o) ρ H w (.int .i64 (Nat.min m l : Nat)) H1 := by
        intro rb xa cap hrb hax hxa
        obtain ⟨k1, k2, k3, k4, k5⟩ := hH.storen hs hst hrb (g1.take _)
        have hst' : (storeCells xa (news.take (Nat.min m l * sz))).run p w = .ok () (w.setCells rb.r (rb.b + i) (news.take (Nat.min m l * sz))) := by
          rcases hxa with rfl | rfl
          · simp [storeCells, World.setCells]
          · have := run_storeCells_cells (P := p) rb.r (rb.b + i) (news.take (Nat.min m l * sz)) 0 w (by simpa using k1) (by simpa using k2) k3
            simpa using this
        refine ⟨.int .i64 (Nat.min m l : Nat), _, ρ, .inl (hex _ _ ?_), .int _ _, k4, k5⟩
        simp [Builtin.copy_, Sem.run_bind, run_und hu, run_size hsz, g3, hax, hfc, hst', goInt]
      generalize hax : a.eval x = ax at hx'
      cases hx' with
      | slc hrb hl hcc hn => exact key _ _ _ hrb hax (.inr rfl)
      | slc0 hrb hcc => exact key _ _ _ hrb hax (.inl rfl)
    · cases hd
  · cases hd
theorem s_len {c : Call} {x : Operand} {t : TypeId} {x' : Opd} {k : Nat} (ho : o.op = .call c) (hb : c.callee = .builtin .len) (ha : c.args.toList = [x]) (ht : c.argTypes.toList = [t]) (h0 : k = 0 → p.underlying t = some .string) (h1 : k = 1 → ∃ e, p.underlying t = some (.slice e)) (h2 : k = 2 → ∃ q e, p.underlying t = some (.map q e))
    (hx : cOpd x = some x') (hF : FR σ ρ F a) (hH : HR σ ρ H w) (hd : doX (.len k x') F H = some (v, H')) : GivesQ p σ (execOp a.eval o) ρ H w v H' := by
  have hx' := cOpd_sound hF hx
  have hex : ∀ r, (Builtin.len_ #[t] o.type #[a.eval x]).run p w = .ok r w → (execOp a.eval o).run p w = .ok (.value r) w := fun r hr => by
    rw [exec_builtin ho hb, args_one ha, types_one ht]
    exact run_v hr
  simp only [doX] at hd
  split at hd
  · rename_i ad sz l c0 e
    rw [e] at hx'
    simp at hd; obtain ⟨rfl, rfl⟩ := hd
    obtain ⟨el, hu⟩ := h1 rfl
    generalize hax : a.eval x = ax at hx'
    have key : ∀ (ra : Option Addr) (cap : Nat), ax = .slice ra l cap → GivesQ p σ (execOp a.eval o) ρ H w (.int .i64 (l : Nat)) H := fun ra cap hr => by
      refine .same hH (x := .int .i64 l) (hex _ ?_) (.int _ _)
      rw [hax, hr]
      simp [Builtin.len_, Sem.run_bind, run_und hu, goInt]
    cases hx' with
    | slcN => exact key _ _ rfl
    | slc hb hl hcc hn => exact key _ _ rfl
    | slc0 hb hcc => exact key _ _ rfl
  · rename_i l n e
    rw [e] at hx'
    simp at hd; obtain ⟨rfl, rfl⟩ := hd
    obtain ⟨s, hax, rfl, rfl⟩ := hx'.str_inv
    refine .same hH (x := .int .i64 s.size) (hex _ ?_) (.int _ _)
    rw [hax]
    simp [Builtin.len_, Sem.run_bind, run_und (h0 rfl), goInt]
  · rename_i e
    rw [e] at hx'
    obtain ⟨q, el, hu⟩ := h2 rfl
    simp only [Option.some.injEq, Prod.mk.injEq] at hd; obtain ⟨rfl, rfl⟩ := hd
    generalize hax : a.eval x = ax at hx'
    cases hx'
    refine .same hH (x := .int .i64 (Int.ofNat 0)) (hex _ ?_) (.int _ _)
    rw [hax]
    simp [Builtin.len_, Sem.run_bind, run_und hu, goInt]
  · rename_i r e
    rw [e] at hx'
    obtain ⟨q, el, hu⟩ := h2 rfl
    split at hd
    · rename_i es cl hr
      simp only [Option.some.injEq, Prod.mk.injEq] at hd; obtain ⟨rfl, rfl⟩ := hd
      generalize hax : a.eval x = ax at hx'
      cases hx' with
      | map hb' =>
        rename_i rb
        obtain ⟨b2, hb2, es', g1, g2, g3, g4⟩ := hH.blk r _ hr
        rw [hb'] at hb2; cases hb2
        have hl : es.length = es'.size := by have := g2.length; simpa using this
        refine .same hH (x := .int .i64 (Int.ofNat es.length)) (hex _ ?_) (.int _ _)
        rw [hax]
        simp [Builtin.len_, Sem.run_bind, run_und hu, goInt, getObj, Sem.run, g1, hl]
    · cases hd
  · cases hd
theorem s_toInt {src dst : TypeId} {x : Operand} {x' : Opd} {j k : IntKind} (ho : o.op = .convert src dst x) (h1 : p.underlying src = some (.int j)) (h2 : p.underlying dst = some (.int k)) (hx : cOpd x = some x') (hF : FR σ ρ F a) (hH : HR σ ρ H w) (hd : doX (.toInt k x') F H = some (v, H')) : GivesQ p σ (execOp a.eval o) ρ H w v H' := by
  have hx' := cOpd_sound hF hx
  simp only [doX] at hd
  split at hd
  · rename_i k' n e
    rw [e] at hx'
    simp at hd; obtain ⟨rfl, rfl⟩ := hd
    rw [wrapI_spec]
    refine .same hH (x := .int k (k.wrap n)) ?_ (.int _ _)
    simp only [execOp, ho, hx'.int_inv]
    refine run_v ?_
    simp [convert, Sem.run_bind, run_und h1, run_und h2, Conv.intToInt]
  · cases hd
theorem s_same {src dst : TypeId} {x : Operand} {x' : Opd} (ho : o.op = .convert src dst x) (h1 : p.underlying src = some .string) (h2 : p.underlying dst = some .string) (hx : cOpd x = some x') (hF : FR σ ρ F a) (hH : HR σ ρ H w) (hd : doX (.same x') F H = some (v, H')) : GivesQ p σ (execOp a.eval o) ρ H w v H' := by
  have hx' := cOpd_sound hF hx
  simp only [doX] at hd
  split at hd
  · rename_i l n e
    rw [e] at hx'
    simp at hd; obtain ⟨rfl, rfl⟩ := hd
    obtain ⟨s, hax, rfl, rfl⟩ := hx'.str_inv
    refine .same hH (x := .string s) ?_ (.str s)
    simp only [execOp, ho, hax]
    refine run_v ?_
    simp [convert, Sem.run_bind, run_und h1, run_und h2]
  · cases hd
theorem s_mkmap {t : TypeId} {r : Option Operand} (ho : o.op = .makeMap t r) (hr : r = none ∨ (∃ j n k e, r = some (.const (.int j n)) ∧ p.underlying t = some (.map k e))) (hH : HR σ ρ H w) (hd : doX .mkmap F H = some (v, H')) : Gives p σ (execOp a.eval o) ρ H w v H' := by
  simp [doX] at hd
  obtain ⟨rfl, rfl⟩ := hd
  obtain ⟨g1, g2⟩ := hH.new (.map #[] 0) (.map [] 0) 0 ⟨#[], by simp, .nil, .nil, rfl⟩
  refine ⟨.map (some w.heap.size), _, _, .inl ?_, .map (b := ⟨w.heap.size, 0, 0⟩) (Ren.add_same _ _ _), g1, g2⟩
  simp only [execOp, ho]
  refine run_v ?_
  rcases hr with rfl | ⟨j, n, k, e, rfl, hu⟩
  · simp [Instr.makeMap, newObj, Sem.run_bind, Sem.run]
  · simp [Instr.makeMap, newObj, Sem.run_bind, run_und hu, asInt, asIntOf, Act.eval, Sem.run]
theorem s_mkslice {t e : TypeId} {l c : Operand} {l' c' : Opd} {sz : Nat} {z : List V} (hs : SgOk σ) (ho : o.op = .makeSlice t l c) (hu : p.underlying t = some (.slice e)) (hsz : szOf p e = some sz) (hz : absZ p e = some z) (h0 : sz ≠ 0) (h1 : z.length = sz) (h2 : p.bytesOf e ≤ 100000)
    (hl : cOpd l = some l') (hc : cOpd c = some c') (hF : FR σ ρ F a) (hH : HR σ ρ H w) (hd : doX (.mkslice z l' c') F H = some (v, H')) : Gives p σ (execOp a.eval o) ρ H w v H' := by
  obtain ⟨uz, it, rz, i1, i2, i3, rfl⟩ := absZ_spec hz
  obtain ⟨it', j1, j2⟩ := szOf_spec hsz
  rw [i1] at j1; cases j1
  have hl' := cOpd_sound hF hl
  have hc' := cOpd_sound hF hc
  simp only [doX] at hd
  split at hd
  · rename_i k m k2 n e1 e2
    rw [e1] at hl'; rw [e2] at hc'
    obtain ⟨q0, hd'⟩ := bif_some hd
    clear hd
    simp only [Bool.and_eq_true, ble_iff, decide_eq_true_eq] at q0
    unfold most at q0
    simp at hd'; obtain ⟨rfl, rfl⟩ := hd'
    have hzr := (absV_sound σ ρ i3).cells hs
    have hzs : rz.cells.size = sz := by rw [← h1, ← Array.length_toList]; exact hzr.length.symm
    have hby : it.bytes ≤ 100000 := by rw [← bytesOf_spec i1]; exact h2
    have hbb : (it.bytes : Int) * (n : Int) ≤ 281474976710656 := by
      have : it.bytes * n ≤ 100000 * 1000000000 := Nat.mul_le_mul hby q0.2
      have h3 : ((it.bytes : Int) * n) = ((it.bytes * n : Nat) : Int) := by simp
      rw [h3]; omega
    have hr := run_make (P := p) w t e it rz hu i1 i2 k k2 m n (by omega) (by omega) hbb (by omega)
    have hcells : madeCells rz.cells (n * it.size) = ⟨(List.replicate n rz.cells.toList).flatten⟩ := by
      apply Array.ext'
      have := range_map_arr rz.cells (by omega) n
      rw [hzs] at this
      rw [j2]
      simp only [madeCells, hzs]
      exact this
    simp only [Int.toNat_natCast] at hr
    rw [hcells] at hr
    have hlen : (List.replicate n uz.cells).flatten.length = n * sz := by rw [flatten_replicate_length, h1]
    have hvs := hzr.flatten n
    refine Gives.row (pl := Nat.ble 1 n) (cs := ⟨(List.replicate n rz.cells.toList).flatten⟩) (e := e) hH hvs (fun hp => ?_) (x := .slice (some ⟨w.heap.size, 0, none⟩) m n) ?_ ?_
    · rw [ble_iff] at hp
      simp at hp
      rw [hlen]
      exact Nat.mul_pos (by omega) (by omega)
    · simp only [execOp, ho, hl'.int_inv, hc'.int_inv]
      exact run_v hr
    · rw [h1]
      have := VR.slc (σ := σ) (ρ := ρ.add H.next ⟨w.heap.size, 0, (List.replicate n uz.cells).flatten.length⟩) (p := H.next) (b := ⟨w.heap.size, 0, (List.replicate n uz.cells).flatten.length⟩) (i := 0) (sz := sz) (l := m) (cap := n) (c := some n) (Ren.add_same _ _ _) (by omega) (by simp) (by simp only [Nat.zero_add]; omega)
      simpa using this
  · cases hd
theorem s_bslice {t e : TypeId} {n : Nat} {ps : Array (Nat × Operand)} {qs : List (Nat × Nat × Opd)} {sz : Nat} {z : List V} (hs : SgOk σ) (ho : o.op = .buildSlice t n ps) (hu : p.underlying t = some (.slice e)) (hsz : szOf p e = some sz) (hz : absZ p e = some z) (h0 : sz ≠ 0) (h1 : z.length = sz) (h2 : n * sz ≤ 2 ^ 20)
    (hq : cParts p (fun i => some (i * sz, sz)) ps.toList = some qs) (hF : FR σ ρ F a) (hH : HR σ ρ H w) (hd : doX (.bslice sz (repeatV z n) n qs) F H = some (v, H')) : Gives p σ (execOp a.eval o) ρ H w v H' := by
  obtain ⟨uz, it, rz, i1, i2, i3, rfl⟩ := absZ_spec hz
  obtain ⟨it', j1, j2⟩ := szOf_spec hsz
  rw [i1] at j1; cases j1
  have hzr := (absV_sound σ ρ i3).cells hs
  have hzs : rz.cells.size = sz := by rw [← h1, ← Array.length_toList]; exact hzr.length.symm
  simp only [doX] at hd
  split at hd
  · rename_i cs hcs
    obtain ⟨q0, hd'⟩ := bif_some hd
    clear hd
    simp at hd'; obtain ⟨rfl, rfl⟩ := hd'
    have hzz : VRs σ ρ (repeatV uz.cells n) (⟨(List.replicate n rz.cells.toList).flatten⟩ : Array Value).toList := hzr.flatten n
    obtain ⟨rc, hrc, hv⟩ := fillP_sound hs hF hq hcs hzz
    have hfl : ∀ (l : List (Nat × Opd)), True := fun _ => trivial
    have hlen : cs.length = n * sz := by
      have key : ∀ (l : List (Nat × Nat × Opd)) (c c' : List V), fillP (ev F) l c = some c' → c'.length = c.length := by
        intro l
        induction l with
        | nil => intro c c' h; simp [fillP] at h; rw [h]
        | cons x l ih =>
          intro c c' h
          obtain ⟨off, s, y⟩ := x
          simp only [fillP] at h
          obtain ⟨g0, h⟩ := bif_some h
          simp only [Bool.and_eq_true, beq_iff, ble_iff, decide_eq_true_eq] at g0
          have e : Nat.add off s = off + s := rfl
          rw [e] at g0
          rw [ih _ _ h]
          simp; omega
      rw [key _ _ _ hcs]
      unfold repeatV
      rw [flatten_replicate_length, h1]
    have hrun : (Instr.buildSlice t n (ps.map fun (i, x) => (i, a.eval x))).run p w = .ok (.slice (some ⟨w.heap.size, 0, none⟩) n n) { w with heap := w.heap.push (.cells rc e) } := by
      by_cases hn : n * it.size = 0
      · have hn0 : n = 0 := by rcases Nat.mul_eq_zero.1 hn with h | h <;> omega
        subst hn0
        have hrc0 : Instr.fill (fun i => some (i * it.size, it.size)) #[] (ps.toList.map fun (i, x) => (i, a.eval x)) = some rc := by rw [j2]; simpa using hrc
        simp [Instr.buildSlice, run_underlying hu, sizeOf, typeInfo, i1, newRow, hrc0, Array.range_zero']
      · have hcc : ((Array.range (n * it.size)).map (rz.cells[· % rz.cells.size]!)) = ⟨(List.replicate n rz.cells.toList).flatten⟩ := by
          apply Array.ext'
          have := range_map_arr rz.cells (by omega) n
          rw [hzs] at this
          rw [j2]
          simp only [hzs]
          exact this
        have hsm : ¬ n * it.size > 2 ^ 24 := by
          have e1 : (2:Nat)^24 = 16777216 := by decide
          have e2 : (2:Nat)^20 = 1048576 := by decide
          rw [j2]; omega
        have := run_buildSlice (P := p) w t e n (ps.map fun (i, x) => (i, a.eval x)) rc it rz hu i1 i2 hsm hn (by rw [hcc, ← hrc, j2]; simp)
        exact this
    refine Gives.row (pl := Nat.ble 1 cs.length) (cs := rc) (e := e) hH hv (fun hp => by rw [ble_iff] at hp; simp at hp; omega) (x := .slice (some ⟨w.heap.size, 0, none⟩) n n) ?_ ?_
    · simp only [execOp, ho]
      exact run_v hrun
    · have := VR.slc (σ := σ) (ρ := ρ.add H.next ⟨w.heap.size, 0, cs.length⟩) (p := H.next) (b := ⟨w.heap.size, 0, cs.length⟩) (i := 0) (sz := sz) (l := n) (cap := n) (c := some n) (Ren.add_same _ _ _) (by omega) (by simp) (by simp; omega)
      simpa using this
  · cases hd
end
end Go.Proofs.YtfhjamimbgdfpaaGreat.X
