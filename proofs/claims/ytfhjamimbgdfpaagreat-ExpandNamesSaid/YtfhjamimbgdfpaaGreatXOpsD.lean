/- A verified executor, part XOpsD: laws of the executor; no condition. -/
import Derived.Test.YtfhjamimbgdfpaaGreatXApp
import Derived.Laws.MakeOwn
namespace Go.Proofs.YtfhjamimbgdfpaaGreat.X
open Go
set_option linter.unusedVariables false
set_option linter.unusedSimpArgs false
section
variable {p : Program} {σ : Sg} {ρ : Ren} {F : Fr} {H H' : Hp} {a : Act} {w : World} {v : V} {xo : XO} {o : Oper}

theorem exec_builtin {c : Call} {b : Builtin} (ho : o.op = .call c) (hb : c.callee = .builtin b) : execOp a.eval o = builtin b c.argTypes o.type (c.args.map fun | .const _ => true | _ => false) (c.args.map a.eval) := by
  simp only [execOp, ho, resolve, hb, pure_bind, invoke]
  rfl
theorem args_two {c : Call} {x y : Operand} (h : c.args.toList = [x, y]) : c.args.map a.eval = #[a.eval x, a.eval y] := by
  apply Array.ext'; simp [h]
theorem args_one {c : Call} {x : Operand} (h : c.args.toList = [x]) : c.args.map a.eval = #[a.eval x] := by
  apply Array.ext'; simp [h]
theorem types_two {c : Call} {x y : TypeId} (h : c.argTypes.toList = [x, y]) : c.argTypes = #[x, y] := by
  apply Array.ext'; simp [h]
theorem types_one {c : Call} {x : TypeId} (h : c.argTypes.toList = [x]) : c.argTypes = #[x] := by
  apply Array.ext'; simp [h]
theorem absZ_spec {t : TypeId} {z : List V} (h : absZ p t = some z) : ∃ u it rz, p.info? t = some it ∧ it.zero = some rz ∧ absV rz = some u ∧ z = u.cells := by
  simp only [absZ, Option.map_eq_some_iff] at h
  obtain ⟨u, hu, rfl⟩ := h
  obtain ⟨it, rz, h1, h2, h3⟩ := zeroOf_spec hu
  exact ⟨u, it, rz, h1, h2, h3, rfl⟩
theorem bytesOf_spec {t : TypeId} {it : TypeInfo} (h : p.info? t = some it) : p.bytesOf t = it.bytes := by simp [Program.bytesOf, h]

theorem s_append {c : Call} {x y : Operand} {t u e : TypeId} {x' y' : Opd} {sz : Nat} {z : List V} (hs : SgOk σ) (ho : o.op = .call c) (hb : c.callee = .builtin .append) (ha : c.args.toList = [x, y]) (ht : c.argTypes.toList = [t, u])
    (hu : p.underlying t = some (.slice e)) {du : TypeDesc} (hdu : p.underlying u = some du) (hni : ∀ k, du ≠ .int k) (hsz : szOf p e = some sz) (hz : absZ p e = some z) (h0 : sz ≠ 0) (h1 : z.length = sz) (h2 : p.bytesOf e ≤ 100000)
    (hx : cOpd x = some x') (hy : cOpd y = some y') (hF : FR σ ρ F a) (hH : HR σ ρ H w) (hd : doX (.append sz x' y') F H = some (v, H')) : Gives p σ (execOp a.eval o) ρ H w v H' := by
  obtain ⟨uz, it, rz, i1, i2, i3, rfl⟩ := absZ_spec hz
  obtain ⟨it', j1, j2⟩ := szOf_spec hsz
  rw [i1] at j1; cases j1
  have hx' := cOpd_sound hF hx
  have hy' := cOpd_sound hF hy
  simp only [doX, appendX] at hd
  split at hd
  · rename_i vs m e1 e2
    obtain ⟨news, g1, g2, g3, g4⟩ := appended_sound (p := p) hH hy' e1 e2
    have hfc : ∀ w', w'.heap = w.heap → (Builtin.firstCells sz m (a.eval y)).run p w' = .ok ⟨news⟩ w' := fun w' hw => by
      have := g4 w' hw m (Nat.le_refl _)
      rwa [← g2, List.take_length] at this
    have hzs : rz.cells.size = sz := by rw [← h1, ← Array.length_toList]; exact ((absV_sound σ ρ i3).cells hs).length.symm
    have hby : it.bytes ≤ 100000 := by rw [← bytesOf_spec i1]; exact h2
    refine s_append_core (p := p) (ap := fun rx => Builtin.append_ #[t, u] o.type #[rx, a.eval y]) (e := e) (rz := rz) hs hH hzs (by omega) hx' news g1 g2
      (fun base l cap w' hr hst hn => run_append_room hu hsz hdu hni g3 (hfc w rfl) hr hst hn)
      (fun base l cap olds ho hc hm hl => run_append_new hu i1 j2 i2 hzs (by omega) hby hdu hni g3 hfc ho hc hm hl) (fun r w' hr => ?_) hd
    rw [exec_builtin ho hb, args_two ha, types_two ht]
    exact run_v hr
  · cases hd
/-- 'append(x, make([]T, n)...)' -/
theorem run_appendz_room {sT xT ty e : TypeId} {sz m l cap : Nat} {base : Option Addr} {j k0 : IntKind} {rz : Value} {w' : World} {ie : TypeInfo} (hu : p.underlying sT = some (.slice e)) (hie : p.info? e = some ie) (hsz : ie.size = sz) (hz0 : ie.zero = some rz) (hz1 : rz.cells.size = sz) (hpos : 0 < sz) (hby : ie.bytes ≤ 100000) (hx : p.underlying xT = some (.int k0)) (hm : m ≤ 1000000000)
    (hroom : l + m ≤ cap)
    (hst : ∀ x, base = some x → (storeCells (x.add (l * sz)) (List.replicate m rz.cells.toList).flatten).run p w = .ok () w') (hn : base = none → w' = w) :
    (Builtin.append_ #[sT, xT] ty #[.slice base l cap, .int j m]).run p w = .ok (.slice base (l + m) cap) w' := by
  have hsz' : (sizeOf e).run p w = .ok sz w := run_size (by simp [szOf, hie, hsz])
  have hti : ∀ w, (typeInfo e).run p w = .ok ie w := fun w => by simp [typeInfo, program, Sem.run_bind, Sem.run, hie]
  have hzv : ∀ w, (zeroValue e).run p w = .ok rz w := fun w => by simp [zeroValue, Sem.run_bind, hti, hz0]
  have hzc : (Builtin.zeroCells rz.cells m).toList = (List.replicate m rz.cells.toList).flatten := range_map_arr rz.cells (by omega) _
  have hw : IntKind.i64.wrap (m : Int) = m := by rw [IntKind.wrap_i64]; omega
  have hb : ¬ (281474976710656 < (m : Int) * ie.bytes) := by
    have : m * ie.bytes ≤ 1000000000 * 100000 := Nat.mul_le_mul hm hby
    have h2 : ((m : Int) * ie.bytes) = ((m * ie.bytes : Nat) : Int) := by simp
    rw [h2]
    omega
  have hneg : ¬ ((m : Int) < 0) := by omega
  have hzc' : Builtin.zeroCells rz.cells m = ⟨(List.replicate m rz.cells.toList).flatten⟩ := by apply Array.ext'; exact hzc
  by_cases h0 : m = 0
  · subst h0
    simp only [List.replicate_zero, List.flatten_nil] at hst
    cases base with
    | none =>
      rw [hn rfl]
      simp only [Builtin.append_, List.getElem?_toArray, List.getElem?_cons_zero, List.getElem?_cons_succ]
      simp at hw hroom
      simp [Sem.run_bind, run_und hu, run_und hx, hsz', asInt, asIntOf, hw, hti, hroom]
    | some x =>
      simp only [Builtin.append_, List.getElem?_toArray, List.getElem?_cons_zero, List.getElem?_cons_succ]
      simp at hw hroom
      simp [Sem.run_bind, run_und hu, run_und hx, hsz', asInt, asIntOf, hw, hti, hroom, hst x rfl]
  · have h0' : ¬ (m * sz = 0) := by
      intro e
      rcases Nat.mul_eq_zero.1 e with h | h <;> omega
    have h0'' : ¬ (m = 0 ∨ sz = 0) := by omega
    cases base with
    | none =>
      rw [hn rfl]
      simp only [Builtin.append_, List.getElem?_toArray, List.getElem?_cons_zero, List.getElem?_cons_succ]
      simp [Sem.run_bind, run_und hu, run_und hx, hsz', asInt, asIntOf, hw, hneg, hti, hb, hroom, h0', h0'', hzv]
    | some x =>
      simp only [Builtin.append_, List.getElem?_toArray, List.getElem?_cons_zero, List.getElem?_cons_succ]
      simp [Sem.run_bind, run_und hu, run_und hx, hsz', asInt, asIntOf, hw, hneg, hti, hb, hroom, h0', h0'', hzv, hzc', hst x rfl]
theorem run_appendz_new {sT xT ty e : TypeId} {sz m l cap : Nat} {base : Option Addr} {j k0 : IntKind} {rz : Value} {olds : List Value} {ie : TypeInfo} (hu : p.underlying sT = some (.slice e)) (hie : p.info? e = some ie) (hsz : ie.size = sz) (hz0 : ie.zero = some rz) (hz1 : rz.cells.size = sz) (hpos : 0 < sz) (hby : ie.bytes ≤ 100000) (hx : p.underlying xT = some (.int k0)) (hm : m ≤ 1000000000)
    (ho : ∀ w', w'.heap = w.heap → (Builtin.firstCells sz l (.slice base l cap)).run p w' = .ok ⟨olds⟩ w') (hroom : cap < l + m) (hmost : l + m ≤ 1000000000) :
    ∃ k, l + m ≤ k ∧ (Builtin.append_ #[sT, xT] ty #[.slice base l cap, .int j m]).run p w = .ok (.slice (some ⟨w.heap.size, 0, none⟩) (l + m) k) (w.drew.alloc (.cells ⟨(olds ++ (List.replicate m rz.cells.toList).flatten) ++ (List.replicate (k - (l + m)) rz.cells.toList).flatten⟩ e)) := by
  have hfc : (Question.appendCap (l + m) cap e).forced = false := rfl
  have hsz' : (sizeOf e).run p w = .ok sz w := run_size (by simp [szOf, hie, hsz])
  have hti : ∀ w, (typeInfo e).run p w = .ok ie w := fun w => by simp [typeInfo, program, Sem.run_bind, Sem.run, hie]
  have hzv : ∀ w, (zeroValue e).run p w = .ok rz w := fun w => by simp [zeroValue, Sem.run_bind, hti, hz0]
  have hw : IntKind.i64.wrap (m : Int) = m := by rw [IntKind.wrap_i64]; omega
  have hb : ¬ (281474976710656 < (m : Int) * ie.bytes) := by
    have : m * ie.bytes ≤ 1000000000 * 100000 := Nat.mul_le_mul hm hby
    have h2 : ((m : Int) * ie.bytes) = ((m * ie.bytes : Nat) : Int) := by simp
    rw [h2]
    omega
  have hneg : ¬ ((m : Int) < 0) := by omega
  have hnc := nextslicecap_le hroom
  have hbig : ¬ (281474976710656 < Builtin.nextslicecap (l + m) cap * ie.bytes) := by
    have : Builtin.nextslicecap (l + m) cap * ie.bytes ≤ (2 * (l + m) + 768) * 100000 := Nat.mul_le_mul hnc hby
    omega
  have hmax : ¬ (9223372036854775807 < (l : Int) + (m : Int)) := by omega
  refine ⟨Question.cut (.appendCap (l + m) cap e) (w.tape w.drawn (.appendCap (l + m) cap e)), by simp [Question.cut], ?_⟩
  generalize hk : Question.cut (.appendCap (l + m) cap e) (w.tape w.drawn (.appendCap (l + m) cap e)) = k
  have hzc' : ∀ q, Builtin.zeroCells rz.cells q = ⟨(List.replicate q rz.cells.toList).flatten⟩ := fun q => by apply Array.ext'; exact range_map_arr rz.cells (by omega) _
  have ho' := ho w.drew rfl
  simp only [Builtin.append_, List.getElem?_toArray, List.getElem?_cons_zero, List.getElem?_cons_succ]
  have hroom' : ¬ (l + m ≤ cap) := by omega
  by_cases h0 : m = 0
  · subst h0
    have a1 : ¬ (l ≤ cap) := by omega
    have a2 : ¬ (9223372036854775807 < (l : Int)) := by omega
    have a3 : ¬ (281474976710656 < Builtin.nextslicecap l cap * ie.bytes) := by simpa using hbig
    simp at hw ho' hk hfc
    simp [Sem.run_bind, run_und hu, run_und hx, hsz', asInt, asIntOf, hw, hti, a1, hzv, hfc, hk, askRoom_run, a2, a3, ho', hzc', newRow]
  · have h0' : ¬ (m * sz = 0) := by
      intro e
      rcases Nat.mul_eq_zero.1 e with h | h <;> omega
    have h0'' : ¬ (m = 0 ∨ sz = 0) := by omega
    simp [Sem.run_bind, run_und hu, run_und hx, hsz', asInt, asIntOf, hw, hneg, hb, hti, hroom', h0', h0'', hzv, hfc, hk, askRoom_run, hmax, hbig, ho', hzc', newRow]
theorem s_appendz {c : Call} {x y : Operand} {t u e : TypeId} {x' y' : Opd} {sz : Nat} {k0 : IntKind} {z : List V} (hs : SgOk σ) (ho : o.op = .call c) (hb : c.callee = .builtin .append) (ha : c.args.toList = [x, y]) (ht : c.argTypes.toList = [t, u])
    (hu : p.underlying t = some (.slice e)) (hdu : p.underlying u = some (.int k0)) (hsz : szOf p e = some sz) (hz : absZ p e = some z) (h0 : sz ≠ 0) (h1 : z.length = sz) (h2 : p.bytesOf e ≤ 100000)
    (hx : cOpd x = some x') (hy : cOpd y = some y') (hF : FR σ ρ F a) (hH : HR σ ρ H w) (hd : doX (.appendz z x' y') F H = some (v, H')) : Gives p σ (execOp a.eval o) ρ H w v H' := by
  obtain ⟨uz, it, rz, i1, i2, i3, rfl⟩ := absZ_spec hz
  obtain ⟨it', j1, j2⟩ := szOf_spec hsz
  rw [i1] at j1; cases j1
  have hx' := cOpd_sound hF hx
  have hy' := cOpd_sound hF hy
  simp only [doX] at hd
  split at hd
  · rename_i k m e1
    rw [e1] at hy'
    obtain ⟨hm, hd'⟩ := bif_some hd
    clear hd
    simp only [ble_iff, decide_eq_true_eq] at hm
    have hzr := (absV_sound σ ρ i3).cells hs
    have hzs : rz.cells.size = sz := by rw [← h1, ← Array.length_toList]; exact hzr.length.symm
    have hby : it.bytes ≤ 100000 := by rw [← bytesOf_spec i1]; exact h2
    rw [h1] at hd'
    refine s_append_core (p := p) (ap := fun rx => Builtin.append_ #[t, u] o.type #[rx, .int k m]) (e := e) (rz := rz) hs hH hzs (by omega) hx' (List.replicate m rz.cells.toList).flatten (hzr.flatten m) (by rw [flatten_replicate_length, Array.length_toList, hzs])
      (fun base l cap w' hr hst hn => run_appendz_room hu i1 j2 i2 hzs (by omega) hby hdu hm hr hst hn)
      (fun base l cap olds ho hc hmo hl => run_appendz_new hu i1 j2 i2 hzs (by omega) hby hdu hm ho hc hmo) (fun r w' hr => ?_) hd'
    rw [exec_builtin ho hb, args_two ha, types_two ht, hy'.int_inv]
    exact run_v hr
  · cases hd
end
end Go.Proofs.YtfhjamimbgdfpaaGreat.X
