/- A verified executor, part XOpsC: laws of the executor; no condition. -/
import Derived.Test.YtfhjamimbgdfpaaGreatXOpsB
namespace Go.Proofs.YtfhjamimbgdfpaaGreat.X
open Go
set_option linter.unusedVariables false
set_option linter.unusedSimpArgs false
section
variable {p : Program} {σ : Sg} {ρ : Ren} {F : Fr} {H H' : Hp} {a : Act} {w : World} {v : V} {xo : XO} {o : Oper}

theorem addr_add (r b n : Nat) : (⟨r, b, none⟩ : Addr).add n = ⟨r, b + n, none⟩ := by unfold Addr.add; split <;> simp_all
theorem fieldsOf_spec {t : TypeId} {l : List Field} (h : fieldsOf p t = some l) : ∃ fs, p.underlying t = some (.struct fs) ∧ fs.toList = l := by
  unfold fieldsOf at h
  split at h
  · rename_i fs hu; simp at h; exact ⟨fs, hu, h⟩
  · cases h
theorem s_faddr {t : TypeId} {x : Operand} {i : Nat} (ho : o.op = .fieldAddr t x i) (hc : cPlain p o = some xo) (hF : FR σ ρ F a) (hH : HR σ ρ H w) (hd : doX xo F H = some (v, H')) : GivesQ p σ (execOp a.eval o) ρ H w v H' := by
  simp [cPlain, ho, Option.bind_eq_some_iff] at hc
  obtain ⟨fl, hfl, f, hf, n, hn, hn0, x', hx, rfl⟩ := hc
  obtain ⟨fs, hu, rfl⟩ := fieldsOf_spec hfl
  have h1 := cOpd_sound hF hx
  simp only [doX] at hd
  split at hd
  · rename_i b j e
    simp at hd; obtain ⟨rfl, rfl⟩ := hd
    rw [e] at h1
    obtain ⟨rb, hb, hax⟩ := h1.ptr_inv
    refine .same hH (x := .pointer (some ⟨rb.r, rb.b + (j + f.offset), none⟩)) ?_ (.ptr _ hb)
    simp only [execOp, ho, hax]
    refine run_v ?_
    have hf' : fs[i]? = some f := by simpa using hf
    simp [Instr.fieldAt, Instr.sureAddr, Sem.run_bind, run_und hu, hf', fieldPlace, run_size hn, hn0, addr_add, Nat.add_assoc]
  · cases hd
theorem part_run1 {t : TypeId} {cs : Array Value} {off : Nat} {y : Value} (h : aggT p t = some false) (hy : cs[off]? = some y) : (part t cs off).run p w = .ok y w := by
  simp [part, Sem.run_bind, run_agg h, hy]
theorem part_runN {t : TypeId} {cs : Array Value} {off n : Nat} (h : aggT p t = some true) (hn : szOf p t = some n) : (part t cs off).run p w = .ok (.agg (cs.extract off (off + n))) w := by
  simp [part, Sem.run_bind, run_agg h, run_size hn]
theorem extract_list (x : List Value) (off n : Nat) : (⟨x⟩ : Array Value).extract off (off + n) = ⟨(x.drop off).take n⟩ := by
  apply Array.ext'
  simp [List.extract_eq_take_drop]
theorem s_field {t : TypeId} {x : Operand} {i : Nat} (ho : o.op = .field t x i) (hc : cPlain p o = some xo) (hF : FR σ ρ F a) (hH : HR σ ρ H w) (hd : doX xo F H = some (v, H')) : GivesQ p σ (execOp a.eval o) ρ H w v H' := by
  simp [cPlain, ho, Option.bind_eq_some_iff] at hc
  obtain ⟨fl, hfl, f, hf, hc⟩ := hc
  obtain ⟨fs, hu, rfl⟩ := fieldsOf_spec hfl
  have hf' : fs[i]? = some f := by simpa using hf
  cases hg : aggT p f.type with
  | none => rw [hg] at hc; simp at hc
  | some g =>
    rw [hg] at hc
    cases g with
    | true =>
      simp [Option.bind_eq_some_iff] at hc
      obtain ⟨n, hn, x', hx, rfl⟩ := hc
      have h1 := cOpd_sound hF hx
      simp only [doX] at hd
      split at hd
      · rename_i cs e
        rw [e] at h1
        generalize hax : a.eval x = ax at h1
        cases h1 with
        | agg h1 =>
          rename_i y
          simp at hd; obtain ⟨rfl, rfl⟩ := hd
          refine .same hH (x := .agg ⟨(y.drop f.offset).take n⟩) ?_ (.agg ((h1.drop _).take _))
          simp only [execOp, ho, hax]
          refine run_v ?_
          simp [Instr.field, Sem.run_bind, run_und hu, hf', asAgg, part_runN hg hn, extract_list]
      · cases hd
    | false =>
      simp [Option.bind_eq_some_iff] at hc
      obtain ⟨x', hx, rfl⟩ := hc
      have h1 := cOpd_sound hF hx
      simp only [doX] at hd
      split at hd
      · rename_i cs e
        rw [e] at h1
        generalize hax : a.eval x = ax at h1
        cases h1 with
        | agg h1 =>
          split at hd
          · rename_i u hu'
            simp at hd; obtain ⟨rfl, rfl⟩ := hd
            obtain ⟨y, hy, hr⟩ := h1.get hu'
            refine .same hH (x := y) ?_ hr
            simp only [execOp, ho, hax]
            refine run_v ?_
            simp [Instr.field, Sem.run_bind, run_und hu, hf', asAgg]
            exact part_run1 hg (by simpa using hy)
          · cases hd
      · cases hd
theorem s_iaddr {t : TypeId} {x i : Operand} (ho : o.op = .indexAddr t x i) (hc : cPlain p o = some xo) (hF : FR σ ρ F a) (hH : HR σ ρ H w) (hd : doX xo F H = some (v, H')) : GivesQ p σ (execOp a.eval o) ρ H w v H' := by
  simp only [cPlain, ho] at hc
  split at hc
  · rename_i n e hu
    simp [Option.bind_eq_some_iff] at hc
    obtain ⟨sz, hsz, x', hx, i', hi, rfl⟩ := hc
    have h1 := cOpd_sound hF hx
    have h2 := cOpd_sound hF hi
    simp only [doX] at hd
    split at hd
    · rename_i b j k m e1 e2
      rw [e1] at h1; rw [e2] at h2
      obtain ⟨h0, hd⟩ := bif_some hd
      simp only [blt_iff, decide_eq_true_eq] at h0
      simp at hd; obtain ⟨rfl, rfl⟩ := hd
      obtain ⟨rb, hb, hax⟩ := h1.ptr_inv
      refine .same hH (x := .pointer (some ⟨rb.r, rb.b + (j + m * sz), none⟩)) ?_ (.ptr _ hb)
      simp only [execOp, ho, hax, h2.int_inv]
      refine run_v ?_
      simp [Instr.indexAt, asIntOf, Instr.sureAddr, Sem.run_bind, run_und hu, run_size hsz, addr_add, h0, Nat.add_assoc]
    · cases hd
  · rename_i e hu
    simp [Option.bind_eq_some_iff] at hc
    obtain ⟨sz, hsz, hz0, x', hx, i', hi, rfl⟩ := hc
    have h1 := cOpd_sound hF hx
    have h2 := cOpd_sound hF hi
    simp only [doX] at hd
    split at hd
    · rename_i b j sz' l c k m e1 e2
      rw [e1] at h1; rw [e2] at h2
      obtain ⟨h0, hd⟩ := bif_some hd
      simp only [blt_iff, decide_eq_true_eq] at h0
      simp at hd; obtain ⟨rfl, rfl⟩ := hd
      generalize hax : a.eval x = ax at h1
      cases h1 with
      | slc hb hl hcc hn =>
        rename_i rb cap
        refine .same hH (x := .pointer (some ⟨rb.r, rb.b + (j + m * sz), none⟩)) ?_ (.ptr _ hb)
        simp only [execOp, ho, hax, h2.int_inv]
        refine run_v ?_
        simp [Instr.indexAt, asIntOf, Sem.run_bind, run_und hu, run_size hsz, addr_add, h0, Nat.add_assoc]
      | slc0 hb hcc => omega
    · cases hd
  · cases hc
theorem s_index {t : TypeId} {x i : Operand} (ho : o.op = .index t x i) (hc : cPlain p o = some xo) (hF : FR σ ρ F a) (hH : HR σ ρ H w) (hd : doX xo F H = some (v, H')) : GivesQ p σ (execOp a.eval o) ρ H w v H' := by
  simp only [cPlain, ho] at hc
  split at hc
  · rename_i hu
    simp [Option.bind_eq_some_iff] at hc
    obtain ⟨x', hx, i', hi, rfl⟩ := hc
    have h1 := cOpd_sound hF hx
    have h2 := cOpd_sound hF hi
    simp only [doX] at hd
    split at hd
    · rename_i l n k m e1 e2
      rw [e1] at h1; rw [e2] at h2
      obtain ⟨h0, hd⟩ := bif_some hd
      simp only [blt_iff, decide_eq_true_eq] at h0
      simp at hd; obtain ⟨rfl, rfl⟩ := hd
      obtain ⟨s, hax, rfl, rfl⟩ := h1.str_inv
      have hl : m < s.data.toList.length := by rw [← size_data]; exact h0
      rw [strAt_spec (List.getElem?_eq_getElem hl)]
      refine .same hH (x := .int .u8 (s.data.toList[m]).toNat) ?_ (.int _ _)
      simp only [execOp, ho, hax, h2.int_inv]
      refine run_v ?_
      have hg : s[m]? = some s.data.toList[m] := by
        rw [getElem?_pos s m h0]; rfl
      simp [Instr.index, asIntOf, Sem.run_bind, run_und hu, hg]
    · cases hd
  · rename_i n e hu
    simp only [Option.bind_eq_bind, Option.bind_eq_some_iff, Option.pure_def, Option.some.injEq] at hc
    obtain ⟨sz, hsz, g, hg, x', hx, i', hi, rfl⟩ := hc
    have h1 := cOpd_sound hF hx
    have h2 := cOpd_sound hF hi
    simp only [doX] at hd
    split at hd
    · rename_i cs k m e1 e2
      rw [e1] at h1; rw [e2] at h2
      obtain ⟨h0, hd⟩ := bif_some hd
      simp only [blt_iff, decide_eq_true_eq] at h0
      generalize hax : a.eval x = ax at h1
      cases h1 with
      | agg h1 =>
        rename_i y
        cases g with
        | true =>
          simp at hd; obtain ⟨rfl, rfl⟩ := hd
          refine .same hH (x := .agg ⟨(y.drop (m * sz)).take sz⟩) ?_ (.agg ((h1.drop _).take _))
          simp only [execOp, ho, hax, h2.int_inv]
          refine run_v ?_
          simp [Instr.index, asIntOf, Sem.run_bind, run_und hu, run_size hsz, h0, part_runN hg hsz, extract_list]
        | false =>
          simp only [cond_false] at hd
          split at hd
          · rename_i u hu'
            simp at hd; obtain ⟨rfl, rfl⟩ := hd
            obtain ⟨z, hz, hr⟩ := h1.get hu'
            refine .same hH (x := z) ?_ hr
            simp only [execOp, ho, hax, h2.int_inv]
            refine run_v ?_
            have := part_run1 (p := p) (w := w) (cs := ⟨y⟩) (off := m * sz) hg (by simpa using hz)
            simp [Instr.index, asIntOf, Sem.run_bind, run_und hu, run_size hsz, h0, this]
          · cases hd
    · cases hd
  · cases hc
theorem bnd_spec {x : V} {y : Value} {top n : Nat} (h : bnd x top = some n) (hv : VR σ ρ x y) : n ≤ top ∧ ∃ k, y = .int k n := by
  unfold bnd at h
  split at h
  · rename_i k m
    obtain ⟨h0, h1⟩ := bif_some h
    simp only [ble_iff, decide_eq_true_eq, Option.some.injEq] at h0 h1
    subst h1
    exact ⟨h0, k, hv.int_inv⟩
  · cases h
theorem bound_run {y : Value} {k : IntKind} {n top : Nat} (c : BoundsCode) (hy : y = .int k n) (h : n ≤ top) : (Instr.sliceBound y top c).run p w = .ok n w := by
  subst hy
  simp [Instr.sliceBound, asIntOf, Sem.run_bind, h]
theorem cOpt_spec {x : Option Operand} {y : Option Opd} (h : cOpt x = some y) : (x = none ∧ y = none) ∨ ∃ u z, x = some u ∧ y = some z ∧ cOpd u = some z := by
  cases x with
  | none => simp [cOpt] at h; exact .inl ⟨rfl, h.symm⟩
  | some u =>
    simp only [cOpt, Option.map_eq_some_iff] at h
    obtain ⟨z, hz, rfl⟩ := h
    exact .inr ⟨u, z, rfl, rfl, hz⟩
/-- the three bounds -/
theorem bounds_run (hF : FR σ ρ F a) {sl : Bool} {len cap : Nat} {lo hi mx : Option Operand} {lo' hi' mx' : Option Opd} {top m h b : Nat} (hlo : cOpt lo = some lo') (hhi : cOpt hi = some hi') (hmx : cOpt mx = some mx')
    (ht : top ≤ cap) (e1 : bndO F mx' top top = some m) (e2 : bndO F hi' (bif mx'.isSome then m else top) len = some h) (e3 : bndO F lo' h 0 = some b) (hno : mx' = none ∨ hi' ≠ none) :
    (Instr.sliceBounds sl len cap (lo.map a.eval) (hi.map a.eval) (mx.map a.eval)).run p w = .ok (b, h, if mx = none then cap else m) w ∧ b ≤ h ∧ (mx' ≠ none → m ≤ top ∧ h ≤ m) ∧ (hi' ≠ none → mx' = none → h ≤ top) ∧ (hi' = none → h = len) := by
  have L : b ≤ h ∧ ((lo = none ∧ b = 0) ∨ ∃ u k, lo = some u ∧ a.eval u = .int k b) := by
    rcases cOpt_spec hlo with ⟨rfl, rfl⟩ | ⟨u, z, rfl, rfl, hz⟩
    · simp only [bndO, Option.some.injEq] at e3
      subst e3
      exact ⟨Nat.zero_le _, .inl ⟨rfl, rfl⟩⟩
    · simp only [bndO] at e3
      obtain ⟨g1, k, g2⟩ := bnd_spec e3 (cOpd_sound hF hz)
      exact ⟨g1, .inr ⟨u, k, rfl, g2⟩⟩
  obtain ⟨Lb, L⟩ := L
  rcases cOpt_spec hmx with ⟨rfl, rfl⟩ | ⟨u, z, rfl, rfl, hz⟩
  · simp only [bndO, Option.some.injEq] at e1
    subst e1
    rcases cOpt_spec hhi with ⟨rfl, rfl⟩ | ⟨u, z, rfl, rfl, hz⟩
    · simp only [bndO, Option.some.injEq] at e2
      subst e2
      refine ⟨?_, Lb, by simp, by simp, fun _ => rfl⟩
      rcases L with ⟨rfl, rfl⟩ | ⟨u1, k1, rfl, q1⟩
      · simp [Instr.sliceBounds, Sem.run_bind]
      · simp [Instr.sliceBounds, Sem.run_bind, fun c => bound_run (p := p) (w := w) c q1 Lb]
    · simp only [bndO, Option.isSome_none, cond_false] at e2
      obtain ⟨g1, k, g2⟩ := bnd_spec e2 (cOpd_sound hF hz)
      refine ⟨?_, Lb, by simp, fun _ _ => g1, by simp⟩
      have h2 := fun c => bound_run (p := p) (w := w) c g2 (Nat.le_trans g1 ht)
      rcases L with ⟨rfl, rfl⟩ | ⟨u1, k1, rfl, q1⟩
      · simp [Instr.sliceBounds, Sem.run_bind, h2]
      · simp [Instr.sliceBounds, Sem.run_bind, h2, fun c => bound_run (p := p) (w := w) c q1 Lb]
  · simp only [bndO] at e1
    obtain ⟨g1, k, g2⟩ := bnd_spec e1 (cOpd_sound hF hz)
    rcases cOpt_spec hhi with ⟨rfl, rfl⟩ | ⟨u', z', rfl, rfl, hz'⟩
    · simp at hno
    · simp only [bndO, Option.isSome_some, cond_true] at e2
      obtain ⟨g3, k', g4⟩ := bnd_spec e2 (cOpd_sound hF hz')
      refine ⟨?_, Lb, fun _ => ⟨g1, g3⟩, by simp, by simp⟩
      have h1 := fun c => bound_run (p := p) (w := w) c g2 (Nat.le_trans g1 ht)
      have h2 := fun c => bound_run (p := p) (w := w) c g4 g3
      rcases L with ⟨rfl, rfl⟩ | ⟨u1, k1, rfl, q1⟩
      · simp [Instr.sliceBounds, Sem.run_bind, h1, h2]
      · simp [Instr.sliceBounds, Sem.run_bind, h1, h2, fun c => bound_run (p := p) (w := w) c q1 Lb]
theorem s_slice {t : TypeId} {x : Operand} {lo hi mx : Option Operand} (ho : o.op = .slice t x lo hi mx) (hc : cPlain p o = some xo) (hF : FR σ ρ F a) (hH : HR σ ρ H w) (hd : doX xo F H = some (v, H')) : GivesQ p σ (execOp a.eval o) ρ H w v H' := by
  simp only [cPlain, ho] at hc
  split at hc
  · rename_i hu
    split at hc
    · cases hc
    rename_i hmx
    simp [Option.bind_eq_some_iff] at hc
    obtain ⟨x', hx, lo', hlo, hi', hhi, rfl⟩ := hc
    have h1 := cOpd_sound hF hx
    simp only [doX] at hd
    split at hd
    · rename_i l n e
      rw [e] at h1
      obtain ⟨s, hax, rfl, rfl⟩ := h1.str_inv
      split at hd
      · rename_i h e2
        split at hd
        · rename_i b e3
          simp at hd; obtain ⟨rfl, rfl⟩ := hd
          obtain rfl : mx = none := by simpa using hmx
          obtain ⟨g1, g2, -, g3, g4⟩ := bounds_run (p := p) (w := w) (sl := false) (len := s.size) (cap := s.size) (mx := none) (mx' := none) (top := s.size) (m := s.size) hF hlo hhi rfl (Nat.le_refl _) rfl e2 e3 (.inl rfl)
          have hh : h ≤ s.size := by
            cases hi' with
            | none => rw [g4 rfl]; exact Nat.le_refl _
            | some q => exact g3 (by simp) rfl
          have hsz : h - b = (s.extract b h).size := by rw [ByteArray.size_extract]; omega
          rw [strCut_spec, ← Lib.extract_data, hsz]
          refine .same hH (x := .string (s.extract b h)) ?_ (.str _)
          simp only [execOp, ho, hax]
          refine run_v ?_
          simp at g1
          simp [Instr.sliceAt, Instr.slice, Sem.run_bind, run_und hu, g1]
        · cases hd
      · cases hd
    · cases hd
  · rename_i e hu
    simp only [Option.bind_eq_bind, Option.bind_eq_some_iff, Option.pure_def, Option.some.injEq] at hc
    obtain ⟨sz, hsz, hc⟩ := hc
    split at hc
    · simp at hc
    rename_i hz
    simp [Option.bind_eq_some_iff] at hc hz
    obtain ⟨x', hx, lo', hlo, hi', hhi, mx', hmx, rfl⟩ := hc
    have hno : mx' = none ∨ hi' ≠ none := by
      rcases cOpt_spec hmx with ⟨-, rfl⟩ | ⟨u, z, rfl, rfl, -⟩
      · exact .inl rfl
      · rcases cOpt_spec hhi with ⟨rfl, -⟩ | ⟨u', z', -, rfl, -⟩
        · simp at hz
        · exact .inr (by simp)
    have hmn : mx = none ↔ mx' = none := by
      rcases cOpt_spec hmx with ⟨rfl, rfl⟩ | ⟨u, z, rfl, rfl, -⟩ <;> simp
    have h1 := cOpd_sound hF hx
    simp only [doX] at hd
    split at hd
    case h_2 => cases hd
    rename_i ad sz' l c e
    have hb0 := bif_none hd
    clear hd
    obtain ⟨h0, hd⟩ := hb0
    rw [e] at h1
    split at hd
    case h_2 => cases hd
    rename_i m e1
    split at hd
    case h_2 => cases hd
    rename_i h e2
    split at hd
    case h_2 => cases hd
    rename_i b e3
    generalize hax : a.eval x = ax at h1
    have fin : ∀ (ra : Option Addr) (cap : Nat), ax = .slice ra l cap → c.getD l ≤ cap → (c = none → l ≤ cap) →
        (execOp a.eval o).run p w = .ok (.value (.slice (if (if mx = none then cap else m) = b then ra else ra.map (·.add (b * sz))) (h - b) ((if mx = none then cap else m) - b))) w ∧ b ≤ h ∧ h ≤ (if mx = none then cap else m) ∧ (if mx = none then cap else m) ≤ cap := by
      intro ra cap hr ht hl
      obtain ⟨g1, g2, g3, g4, g5⟩ := bounds_run (p := p) (w := w) (sl := true) (cap := cap) hF hlo hhi hmx ht e1 e2 e3 hno
      refine ⟨?_, g2, ?_, ?_⟩
      · simp only [execOp, ho, hax, hr]
        refine run_v ?_
        simp [Instr.sliceAt, Instr.slice, Sem.run_bind, run_und hu, g1, run_size hsz]
      · by_cases q : mx = none
        · rw [if_pos q]
          have q' := hmn.1 q
          cases hh : hi' with
          | none =>
            rw [g5 hh]
            cases c with
            | none => exact hl rfl
            | some c =>
              cases h1 with
              | slcN => exact Nat.zero_le _
              | slc hb hl' hc' hn => cases hr; exact hl'
              | slc0 hb hc' => exact Nat.zero_le _
          | some z => exact Nat.le_trans (g4 (by rw [hh]; simp) q') ht
        · rw [if_neg q]
          exact (g3 (fun q' => q (hmn.2 q'))).2
      · by_cases q : mx = none
        · rw [if_pos q]; exact Nat.le_refl _
        · rw [if_neg q]; exact Nat.le_trans (g3 (fun q' => q (hmn.2 q'))).1 ht
    cases h1 with
    | slcN =>
      obtain ⟨r1, r2, r3, r4⟩ := fin none 0 rfl (Nat.le_refl _) (by simp)
      simp at hd; obtain ⟨rfl, rfl⟩ := hd
      refine .same hH (x := .slice none 0 0) ?_ .slcN
      rw [r1]
      have : (if mx = none then 0 else m) = 0 := by omega
      rw [this] at r3 ⊢
      obtain rfl : h = 0 := by omega
      obtain rfl : b = 0 := by omega
      simp
    | slc hb hl hcc hn =>
      rename_i q rb i cap
      simp only [Option.isNone_some, Bool.or_false, Bool.not_eq_eq_eq_not, Bool.not_false, beq_iff, decide_eq_true_eq] at h0
      subst h0
      simp only [Option.some.injEq, Prod.mk.injEq] at hd
      obtain ⟨rfl, rfl⟩ := hd
      obtain ⟨r1, r2, r3, r4⟩ := fin (some ⟨rb.r, rb.b + i, none⟩) cap rfl (by cases c with
        | none => exact hl
        | some k => rw [hcc k rfl]; exact Nat.le_refl _) (fun _ => hl)
      have hc' : ∀ k, newCap mx'.isSome m b c = some k → (if mx = none then cap else m) - b = k := by
        intro k hk
        unfold newCap at hk
        cases hm' : mx' with
        | some z => rw [hm'] at hk; simp at hk; rw [if_neg (fun q => by have := hmn.1 q; rw [hm'] at this; cases this)]; exact hk
        | none =>
          rw [hm'] at hk
          rw [if_pos (hmn.2 hm')]
          cases c with
          | none => simp at hk
          | some c => simp at hk; rw [hcc c rfl]; exact hk
      by_cases hm : (if mx = none then cap else m) = b
      · rw [if_pos hm] at r1
        have hz1 : h - b = 0 := by omega
        have hz2 : (if mx = none then cap else m) - b = 0 := by omega
        rw [hz1, hz2] at r1
        rw [hz1]
        refine .same hH r1 (.slc0 hb (fun k hk => ?_))
        have := hc' k hk
        omega
      · rw [if_neg hm] at r1
        simp only [Option.map_some, addr_add] at r1
        refine .same hH r1 ?_
        rw [Nat.add_assoc]
        refine .slc hb (by omega) hc' ?_
        generalize (if mx = none then cap else m) = M at *
        have e1 : b * sz + (M - b) * sz = M * sz := by rw [← Nat.add_mul]; congr 1; omega
        have e2 : M * sz ≤ cap * sz := Nat.mul_le_mul_right _ r4
        omega
    | slc0 hb hcc =>
      rename_i q i rb xa
      simp only [Option.isNone_some, Bool.or_false, Bool.not_eq_eq_eq_not, Bool.not_false, beq_iff, decide_eq_true_eq] at h0
      subst h0
      simp only [Option.some.injEq, Prod.mk.injEq] at hd
      obtain ⟨rfl, rfl⟩ := hd
      obtain ⟨r1, r2, r3, r4⟩ := fin (some xa) 0 rfl (by cases c with
        | none => exact Nat.le_refl _
        | some k => rw [← hcc k rfl]; exact Nat.le_refl _) (fun _ => Nat.le_refl _)
      have hM : (if mx = none then 0 else m) = 0 := by omega
      rw [hM] at r1 r3
      obtain rfl : h = 0 := by omega
      obtain rfl : b = 0 := by omega
      simp only [if_true, Nat.sub_self] at r1 ⊢
      refine .same hH r1 (.slc0 hb (fun k hk => ?_))
      unfold newCap at hk
      cases hm' : mx' with
      | some z =>
        rw [hm'] at hk; simp at hk
        rw [if_neg (fun q => by have := hmn.1 q; rw [hm'] at this; cases this)] at hM
        omega
      | none =>
        rw [hm'] at hk
        cases c with
        | none => simp at hk
        | some c => simp at hk; have := hcc c rfl; omega
  · rename_i n e hu
    simp only [Option.bind_eq_bind, Option.bind_eq_some_iff, Option.pure_def, Option.some.injEq] at hc
    obtain ⟨sz, hsz, hc⟩ := hc
    split at hc
    · simp at hc
    rename_i hz
    simp [Option.bind_eq_some_iff] at hc hz
    obtain ⟨x', hx, lo', hlo, hi', hhi, mx', hmx, rfl⟩ := hc
    have hno : mx' = none ∨ hi' ≠ none := by
      rcases cOpt_spec hmx with ⟨-, rfl⟩ | ⟨u, z, rfl, rfl, -⟩
      · exact .inl rfl
      · rcases cOpt_spec hhi with ⟨rfl, -⟩ | ⟨u', z', -, rfl, -⟩
        · simp at hz
        · exact .inr (by simp)
    have hmn : mx = none ↔ mx' = none := by
      rcases cOpt_spec hmx with ⟨rfl, rfl⟩ | ⟨u, z, rfl, rfl, -⟩ <;> simp
    have h1 := cOpd_sound hF hx
    simp only [doX] at hd
    split at hd
    case h_2 => cases hd
    rename_i q i e
    rw [e] at h1
    obtain ⟨rb, hb, hax⟩ := h1.ptr_inv
    split at hd
    case h_2 => cases hd
    rename_i c cn pl hq
    have hb0 := bif_some hd
    clear hd
    obtain ⟨h0, hd⟩ := hb0
    split at hd
    case h_2 => cases hd
    rename_i m e1
    split at hd
    case h_2 => cases hd
    rename_i h e2
    split at hd
    case h_2 => cases hd
    rename_i b e3
    simp at hd; obtain ⟨rfl, rfl⟩ := hd
    obtain ⟨g1, g2, g3, g4, g5⟩ := bounds_run (p := p) (w := w) (sl := false) (cap := n) hF hlo hhi hmx (Nat.le_refl n) e1 e2 e3 hno
    have hmle : m ≤ n ∧ h ≤ m ∧ (if mx = none then n else m) = m := by
      by_cases q1 : mx = none
      · have q' := hmn.1 q1
        subst q'
        simp only [bndO, Option.some.injEq] at e1
        subst e1
        rw [if_pos q1]
        refine ⟨Nat.le_refl _, ?_, rfl⟩
        cases hh : hi' with
        | none => rw [g5 hh]; exact Nat.le_refl _
        | some z => exact g4 (by rw [hh]; simp) rfl
      · have := g3 (fun q' => q1 (hmn.2 q'))
        rw [if_neg q1]
        exact ⟨this.1, this.2, rfl⟩
    rw [hmle.2.2] at g1
    have hin := allIn_spec _ _ _ h0
    have hpos : 0 < n * sz := Nat.mul_pos (by omega) (by omega)
    obtain ⟨v0, hv0⟩ := hin (n * sz - 1) (by omega)
    obtain ⟨-, -, -, -, hlast⟩ := hH.cell hq hb hv0
    have hrun : (execOp a.eval o).run p w = .ok (.value (.slice (some (if m = b then ⟨rb.r, rb.b + i, none⟩ else (⟨rb.r, rb.b + i, none⟩ : Addr).add (b * sz))) (h - b) (m - b))) w := by
      simp only [execOp, ho, hax]
      refine run_v ?_
      simp [Instr.sliceAt, Instr.sureAddr, Sem.run_bind, run_und hu, g1, run_size hsz]
    by_cases hm : m = b
    · rw [if_pos hm] at hrun
      have hz1 : h - b = 0 := by omega
      have hz2 : m - b = 0 := by omega
      rw [hz1, hz2] at hrun
      rw [hz1, hz2]
      exact .same hH hrun (.slc0 hb (fun k hk => by simpa using hk))
    · rw [if_neg hm, addr_add] at hrun
      refine .same hH hrun ?_
      rw [Nat.add_assoc]
      refine .slc hb (by omega) (fun k hk => by simpa using hk) ?_
      have e1 : b * sz + (m - b) * sz = m * sz := by rw [← Nat.add_mul]; congr 1; omega
      have e2 : m * sz ≤ n * sz := Nat.mul_le_mul_right _ hmle.1
      omega
  · cases hc
end
end Go.Proofs.YtfhjamimbgdfpaaGreat.X
