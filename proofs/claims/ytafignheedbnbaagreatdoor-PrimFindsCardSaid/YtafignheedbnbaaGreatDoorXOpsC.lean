/- A verified executor of the program's code, part XOpsC; no condition. -/
import Derived.Test.YtafignheedbnbaaGreatDoorXOpsA
import Derived.Laws.MakeOwn
import Derived.Lib.ConvBytes
namespace Go.Proofs.YtafignheedbnbaaGreatDoor.X
open Go
set_option linter.unusedVariables false
set_option linter.unusedSimpArgs false
section
variable {p : Program} {σ : Sg} {ρ : Ren} {F : Fr} {H H' : Hp} {a : Act} {w : World} {v : V} {xo : XO} {o : Oper}

theorem addr_add (r b n : Nat) : (⟨r, b, none⟩ : Addr).add n = ⟨r, b + n, none⟩ := by unfold Addr.add; split <;> simp_all
theorem fieldsOf_spec {t : TypeId} {l : List Field} (h : fieldsOf p t = some l) : ∃ fs, p.underlying t = some (.struct fs) ∧ fs.toList = l := by
  unfold fieldsOf at h
  split at h
  · rename_i fs hu; simp at h; exact ⟨fs, hu, h⟩
  · cases h
theorem s_faddr {t : TypeId} {x : Operand} {i : Nat} (ho : o.op = .fieldAddr t x i) (hc : cPlain p o = some xo) (hF : FR σ ρ F a) (hH : HR σ ρ H w) (hd : doX xo F H = some (v, H')) : GivesQ p σ (execOp a.eval o) ρ H w v H' := by
  simp [cPlain, ho, Option.bind_eq_some_iff] at hc
  obtain ⟨fl, hfl, f, hf, n, hn, hn0, x', hx, rfl⟩ := hc
  obtain ⟨fs, hu, rfl⟩ := fieldsOf_spec hfl
  have h1 := cOpd_sound hF hx
  simp only [doX] at hd
  split at hd
  · rename_i b j e
    simp at hd; obtain ⟨rfl, rfl⟩ := hd
    rw [e] at h1
    obtain ⟨rb, hb, hax⟩ := h1.ptr_inv
    refine .same hH (x := .pointer (some ⟨rb.r, rb.b + (j + f.offset), none⟩)) ?_ (.ptr _ hb)
    simp only [execOp, ho, hax]
    refine run_v ?_
    have hf' : fs[i]? = some f := by simpa using hf
    simp [Instr.fieldAt, Instr.sureAddr, Sem.run_bind, run_und hu, hf', fieldPlace, run_size hn, hn0, addr_add, Nat.add_assoc]
  · cases hd
theorem part_run1 {t : TypeId} {cs : Array Value} {off : Nat} {y : Value} (h : aggT p t = some false) (hy : cs[off]? = some y) : (part t cs off).run p w = .ok y w := by
  simp [part, Sem.run_bind, run_agg h, hy]
theorem part_runN {t : TypeId} {cs : Array Value} {off n : Nat} (h : aggT p t = some true) (hn : szOf p t = some n) : (part t cs off).run p w = .ok (.agg (cs.extract off (off + n))) w := by
  simp [part, Sem.run_bind, run_agg h, run_size hn]
theorem extract_list (x : List Value) (off n : Nat) : (⟨x⟩ : Array Value).extract off (off + n) = ⟨(x.drop off).take n⟩ := by
  apply Array.ext'
  simp [List.extract_eq_take_drop]
theorem s_field {t : TypeId} {x : Operand} {i : Nat} (ho : o.op = .field t x i) (hc : cPlain p o = some xo) (hF : FR σ ρ F a) (hH : HR σ ρ H w) (hd : doX xo F H = some (v, H')) : GivesQ p σ (execOp a.eval o) ρ H w v H' := by
  simp [cPlain, ho, Option.bind_eq_some_iff] at hc
  obtain ⟨fl, hfl, f, hf, hc⟩ := hc
  obtain ⟨fs, hu, rfl⟩ := fieldsOf_spec hfl
  have hf' : fs[i]? = some f := by simpa using hf
  cases hg : aggT p f.type with
  | none => rw [hg] at hc; simp at hc
  | some g =>
    rw [hg] at hc
    cases g with
    | true =>
      simp [Option.bind_eq_some_iff] at hc
      obtain ⟨n, hn, x', hx, rfl⟩ := hc
      have h1 := cOpd_sound hF hx
      simp only [doX] at hd
      split at hd
      · rename_i cs e
        rw [e] at h1
        generalize hax : a.eval x = ax at h1
        cases h1 with
        | agg h1 =>
          rename_i y
          simp at hd; obtain ⟨rfl, rfl⟩ := hd
          refine .same hH (x := .agg ⟨(y.drop f.offset).take n⟩) ?_ (.agg ((h1.drop _).take _))
          simp only [execOp, ho, hax]
          refine run_v ?_
          simp [Instr.field, Sem.run_bind, run_und hu, hf', asAgg, part_runN hg hn, extract_list]
      · cases hd
    | false =>
      simp [Option.bind_eq_some_iff] at hc
      obtain ⟨x', hx, rfl⟩ := hc
      have h1 := cOpd_sound hF hx
      simp only [doX] at hd
      split at hd
      · rename_i cs e
        rw [e] at h1
        generalize hax : a.eval x = ax at h1
        cases h1 with
        | agg h1 =>
          split at hd
          · rename_i u hu'
            simp at hd; obtain ⟨rfl, rfl⟩ := hd
            obtain ⟨y, hy, hr⟩ := h1.get hu'
            refine .same hH (x := y) ?_ hr
            simp only [execOp, ho, hax]
            refine run_v ?_
            simp [Instr.field, Sem.run_bind, run_und hu, hf', asAgg]
            exact part_run1 hg (by simpa using hy)
          · cases hd
      · cases hd
theorem s_iaddr {t : TypeId} {x i : Operand} (ho : o.op = .indexAddr t x i) (hc : cPlain p o = some xo) (hF : FR σ ρ F a) (hH : HR σ ρ H w) (hd : doX xo F H = some (v, H')) : GivesQ p σ (execOp a.eval o) ρ H w v H' := by
  simp only [cPlain, ho] at hc
  split at hc
  · rename_i n e hu
    simp [Option.bind_eq_some_iff] at hc
    obtain ⟨sz, hsz, x', hx, i', hi, rfl⟩ := hc
    have h1 := cOpd_sound hF hx
    have h2 := cOpd_sound hF hi
    simp only [doX] at hd
    split at hd
    · rename_i b j k m e1 e2
      rw [e1] at h1; rw [e2] at h2
      obtain ⟨h0, hd⟩ := bif_some hd
      simp only [blt_iff, decide_eq_true_eq] at h0
      simp at hd; obtain ⟨rfl, rfl⟩ := hd
      obtain ⟨rb, hb, hax⟩ := h1.ptr_inv
      refine .same hH (x := .pointer (some ⟨rb.r, rb.b + (j + m * sz), none⟩)) ?_ (.ptr _ hb)
      simp only [execOp, ho, hax, h2.int_inv]
      refine run_v ?_
      simp [Instr.indexAt, asIntOf, Instr.sureAddr, Sem.run_bind, run_und hu, run_size hsz, addr_add, h0, Nat.add_assoc]
    · cases hd
  · rename_i e hu
    simp [Option.bind_eq_some_iff] at hc
    obtain ⟨sz, hsz, hz0, x', hx, i', hi, rfl⟩ := hc
    have h1 := cOpd_sound hF hx
    have h2 := cOpd_sound hF hi
    simp only [doX] at hd
    split at hd
    · rename_i b j sz' l c k m e1 e2
      rw [e1] at h1; rw [e2] at h2
      obtain ⟨h0, hd⟩ := bif_some hd
      simp only [blt_iff, decide_eq_true_eq] at h0
      simp at hd; obtain ⟨rfl, rfl⟩ := hd
      generalize hax : a.eval x = ax at h1
      cases h1 with
      | slc hb hl hcc hn =>
        rename_i rb cap
        refine .same hH (x := .pointer (some ⟨rb.r, rb.b + (j + m * sz), none⟩)) ?_ (.ptr _ hb)
        simp only [execOp, ho, hax, h2.int_inv]
        refine run_v ?_
        simp [Instr.indexAt, asIntOf, Sem.run_bind, run_und hu, run_size hsz, addr_add, h0, Nat.add_assoc]
      | slc0 hb hcc => omega
    · cases hd
  · cases hc
theorem s_index {t : TypeId} {x i : Operand} (ho : o.op = .index t x i) (hc : cPlain p o = some xo) (hF : FR σ ρ F a) (hH : HR σ ρ H w) (hd : doX xo F H = some (v, H')) : GivesQ p σ (execOp a.eval o) ρ H w v H' := by
  simp only [cPlain, ho] at hc
  split at hc
  · rename_i hu
    simp [Option.bind_eq_some_iff] at hc
    obtain ⟨x', hx, i', hi, rfl⟩ := hc
    have h1 := cOpd_sound hF hx
    have h2 := cOpd_sound hF hi
    simp only [doX] at hd
    split at hd
    · rename_i l n k m e1 e2
      rw [e1] at h1; rw [e2] at h2
      obtain ⟨h0, hd⟩ := bif_some hd
      simp only [blt_iff, decide_eq_true_eq] at h0
      simp at hd; obtain ⟨rfl, rfl⟩ := hd
      obtain ⟨s, hax, rfl, rfl⟩ := h1.str_inv
      have hl : m < s.data.toList.length := by rw [← size_data]; exact h0
      rw [strAt_spec (List.getElem?_eq_getElem hl)]
      refine .same hH (x := .int .u8 (s.data.toList[m]).toNat) ?_ (.int _ _)
      simp only [execOp, ho, hax, h2.int_inv]
      refine run_v ?_
      have hg : s[m]? = some s.data.toList[m] := by
        rw [getElem?_pos s m h0]; rfl
      simp [Instr.index, asIntOf, Sem.run_bind, run_und hu, hg]
    · cases hd
  · rename_i n e hu
    simp only [Option.bind_eq_bind, Option.bind_eq_some_iff, Option.pure_def, Option.some.injEq] at hc
    obtain ⟨sz, hsz, g, hg, x', hx, i', hi, rfl⟩ := hc
    have h1 := cOpd_sound hF hx
    have h2 := cOpd_sound hF hi
    simp only [doX] at hd
    split at hd
    · rename_i cs k m e1 e2
      rw [e1] at h1; rw [e2] at h2
      obtain ⟨h0, hd⟩ := bif_some hd
      simp only [blt_iff, decide_eq_true_eq] at h0
      generalize hax : a.eval x = ax at h1
      cases h1 with
      | agg h1 =>
        rename_i y
        cases g with
        | true =>
          simp at hd; obtain ⟨rfl, rfl⟩ := hd
          refine .same hH (x := .agg ⟨(y.drop (m * sz)).take sz⟩) ?_ (.agg ((h1.drop _).take _))
          simp only [execOp, ho, hax, h2.int_inv]
          refine run_v ?_
          simp [Instr.index, asIntOf, Sem.run_bind, run_und hu, run_size hsz, h0, part_runN hg hsz, extract_list]
        | false =>
          simp only [cond_false] at hd
          split at hd
          · rename_i u hu'
            simp at hd; obtain ⟨rfl, rfl⟩ := hd
            obtain ⟨z, hz, hr⟩ := h1.get hu'
            refine .same hH (x := z) ?_ hr
            simp only [execOp, ho, hax, h2.int_inv]
            refine run_v ?_
            have := part_run1 (p := p) (w := w) (cs := ⟨y⟩) (off := m * sz) hg (by simpa using hz)
            simp [Instr.index, asIntOf, Sem.run_bind, run_und hu, run_size hsz, h0, this]
          · cases hd
    · cases hd
  · cases hc
theorem bnd_spec {x : V} {y : Value} {top n : Nat} (h : bnd x top = some n) (hv : VR σ ρ x y) : n ≤ top ∧ ∃ k, y = .int k n := by
  unfold bnd at h
  split at h
  · rename_i k m
    obtain ⟨h0, h1⟩ := bif_some h
    simp only [ble_iff, decide_eq_true_eq, Option.some.injEq] at h0 h1
    subst h1
    exact ⟨h0, k, hv.int_inv⟩
  · cases h
theorem bound_run {y : Value} {k : IntKind} {n top : Nat} (c : BoundsCode) (hy : y = .int k n) (h : n ≤ top) : (Instr.sliceBound y top c).run p w = .ok n w := by
  subst hy
  simp [Instr.sliceBound, asIntOf, Sem.run_bind, h]
theorem cOpt_spec {x : Option Operand} {y : Option Opd} (h : cOpt x = some y) : (x = none ∧ y = none) ∨ ∃ u z, x = some u ∧ y = some z ∧ cOpd u = some z := by
  cases x with
  | none => simp [cOpt] at h; exact .inl ⟨rfl, h.symm⟩
  | some u =>
    simp only [cOpt, Option.map_eq_some_iff] at h
    obtain ⟨z, hz, rfl⟩ := h
    exact .inr ⟨u, z, rfl, rfl, hz⟩
/-- the three bounds -/
theorem bounds_run (hF : FR σ ρ F a) {sl : Bool} {len cap : Nat} {lo hi mx : Option Operand} {lo' hi' mx' : Option Opd} {top m h b : Nat} (hlo : cOpt lo = some lo') (hhi : cOpt hi = some hi') (hmx : cOpt mx = some mx')
    (ht : top ≤ cap) (e1 : bndO F mx' top top = some m) (e2 : bndO F hi' (bif mx'.isSome then m else top) len = some h) (e3 : bndO F lo' h 0 = some b) (hno : mx' = none ∨ hi' ≠ none) :
    (Instr.sliceBounds sl len cap (lo.map a.eval) (hi.map a.eval) (mx.map a.eval)).run p w = .ok (b, h, if mx = none then cap else m) w ∧ b ≤ h ∧ (mx' ≠ none → m ≤ top ∧ h ≤ m) ∧ (hi' ≠ none → mx' = none → h ≤ top) ∧ (hi' = none → h = len) := by
  have L : b ≤ h ∧ ((lo = none ∧ b = 0) ∨ ∃ u k, lo = some u ∧ a.eval u = .int k b) := by
    rcases cOpt_spec hlo with ⟨rfl, rfl⟩ | ⟨u, z, rfl, rfl, hz⟩
    · simp only [bndO, Option.some.injEq] at e3
      subst e3
      exact ⟨Nat.zero_le _, .inl ⟨rfl, rfl⟩⟩
    · simp only [bndO] at e3
      obtain ⟨g1, k, g2⟩ := bnd_spec e3 (cOpd_sound hF hz)
      exact ⟨g1, .inr ⟨u, k, rfl, g2⟩⟩
  obtain ⟨Lb, L⟩ := L
  rcases cOpt_spec hmx with ⟨rfl, rfl⟩ | ⟨u, z, rfl, rfl, hz⟩
  · simp only [bndO, Option.some.injEq] at e1
    subst e1
    rcases cOpt_spec hhi with ⟨rfl, rfl⟩ | ⟨u, z, rfl, rfl, hz⟩
    · simp only [bndO, Option.some.injEq] at e2
      subst e2
      refine ⟨?_, Lb, by simp, by simp, fun _ => rfl⟩
      rcases L with ⟨rfl, rfl⟩ | ⟨u1, k1, rfl, q1⟩
      · simp [Instr.sliceBounds, Sem.run_bind]
      · simp [Instr.sliceBounds, Sem.run_bind, fun c => bound_run (p := p) (w := w) c q1 Lb]
    · simp only [bndO, Option.isSome_none, cond_false] at e2
      obtain ⟨g1, k, g2⟩ := bnd_spec e2 (cOpd_sound hF hz)
      refine ⟨?_, Lb, by simp, fun _ _ => g1, by simp⟩
      have h2 := fun c => bound_run (p := p) (w := w) c g2 (Nat.le_trans g1 ht)
      rcases L with ⟨rfl, rfl⟩ | ⟨u1, k1, rfl, q1⟩
      · simp [Instr.sliceBounds, Sem.run_bind, h2]
      · simp [Instr.sliceBounds, Sem.run_bind, h2, fun c => bound_run (p := p) (w := w) c q1 Lb]
  · simp only [bndO] at e1
    obtain ⟨g1, k, g2⟩ := bnd_spec e1 (cOpd_sound hF hz)
    rcases cOpt_spec hhi with ⟨rfl, rfl⟩ | ⟨u', z', rfl, rfl, hz'⟩
    · simp at hno
    · simp only [bndO, Option.isSome_some, cond_true] at e2
      obtain ⟨g3, k', g4⟩ := bnd_spec e2 (cOpd_sound hF hz')
      refine ⟨?_, Lb, fun _ => ⟨g1, g3⟩, by simp, by simp⟩
      have h1 := fun c => bound_run (p := p) (w := w) c g2 (Nat.le_trans g1 ht)
      have h2 := fun c => bound_run (p := p) (w := w) c g4 g3
      rcases L with ⟨rfl, rfl⟩ | ⟨u1, k1, rfl, q1⟩
      · simp [Instr.sliceBounds, Sem.run_bind, h1, h2]
      · simp [Instr.sliceBounds, Sem.run_bind, h1, h2, fun c => bound_run (p := p) (w := w) c q1 Lb]
theorem s_slice {t : TypeId} {x : Operand} {lo hi mx : Option Operand} (ho : o.op = .slice t x lo hi mx) (hc : cPlain p o = some xo) (hF : FR σ ρ F a) (hH : HR σ ρ H w) (hd : doX xo F H = some (v, H')) : GivesQ p σ (execOp a.eval o) ρ H w v H' := by
  simp only [cPlain, ho] at hc
  split at hc
  · rename_i hu
    split at hc
    · cases hc
    rename_i hmx
    simp [Option.bind_eq_some_iff] at hc
    obtain ⟨x', hx, lo', hlo, hi', hhi, rfl⟩ := hc
    have h1 := cOpd_sound hF hx
    simp only [doX] at hd
    split at hd
    · rename_i l n e
      rw [e] at h1
      obtain ⟨s, hax, rfl, rfl⟩ := h1.str_inv
      split at hd
      · rename_i h e2
        split at hd
        · rename_i b e3
          simp at hd; obtain ⟨rfl, rfl⟩ := hd
          obtain rfl : mx = none := by simpa using hmx
          obtain ⟨g1, g2, -, g3, g4⟩ := bounds_run (p := p) (w := w) (sl := false) (len := s.size) (cap := s.size) (mx := none) (mx' := none) (top := s.size) (m := s.size) hF hlo hhi rfl (Nat.le_refl _) rfl e2 e3 (.inl rfl)
          have hh : h ≤ s.size := by
            cases hi' with
            | none => rw [g4 rfl]; exact Nat.le_refl _
            | some q => exact g3 (by simp) rfl
          have hsz : h - b = (s.extract b h).size := by rw [ByteArray.size_extract]; omega
          rw [strCut_spec, ← Lib.extract_data, hsz]
          refine .same hH (x := .string (s.extract b h)) ?_ (.str _)
          simp only [execOp, ho, hax]
          refine run_v ?_
          simp at g1
          simp [Instr.sliceAt, Instr.slice, Sem.run_bind, run_und hu, g1]
        · cases hd
      · cases hd
    · cases hd
  · rename_i e hu
    simp only [Option.bind_eq_bind, Option.bind_eq_some_iff, Option.pure_def, Option.some.injEq] at hc
    obtain ⟨sz, hsz, hc⟩ := hc
    split at hc
    · simp at hc
    rename_i hz
    simp [Option.bind_eq_some_iff] at hc hz
    obtain ⟨x', hx, lo', hlo, hi', hhi, mx', hmx, rfl⟩ := hc
    have hno : mx' = none ∨ hi' ≠ none := by
      rcases cOpt_spec hmx with ⟨-, rfl⟩ | ⟨u, z, rfl, rfl, -⟩
      · exact .inl rfl
      · rcases cOpt_spec hhi with ⟨rfl, -⟩ | ⟨u', z', -, rfl, -⟩
        · simp at hz
        · exact .inr (by simp)
    have hmn : mx = none ↔ mx' = none := by
      rcases cOpt_spec hmx with ⟨rfl, rfl⟩ | ⟨u, z, rfl, rfl, -⟩ <;> simp
    have h1 := cOpd_sound hF hx
    simp only [doX] at hd
    split at hd
    case h_2 => cases hd
    rename_i ad sz' l c e
    have hb0 := bif_none hd
    clear hd
    obtain ⟨h0, hd⟩ := hb0
    rw [e] at h1
    split at hd
    case h_2 => cases hd
    rename_i m e1
    split at hd
    case h_2 => cases hd
    rename_i h e2
    split at hd
    case h_2 => cases hd
    rename_i b e3
    generalize hax : a.eval x = ax at h1
    have fin : ∀ (ra : Option Addr) (cap : Nat), ax = .slice ra l cap → c.getD l ≤ cap → (c = none → l ≤ cap) →
        (execOp a.eval o).run p w = .ok (.value (.slice (if (if mx = none then cap else m) = b then ra else ra.map (·.add (b * sz))) (h - b) ((if mx = none then cap else m) - b))) w ∧ b ≤ h ∧ h ≤ (if mx = none then cap else m) ∧ (if mx = none then cap else m) ≤ cap := by
      intro ra cap hr ht hl
      obtain ⟨g1, g2, g3, g4, g5⟩ := bounds_run (p := p) (w := w) (sl := true) (cap := cap) hF hlo hhi hmx ht e1 e2 e3 hno
      refine ⟨?_, g2, ?_, ?_⟩
      · simp only [execOp, ho, hax, hr]
        refine run_v ?_
        simp [Instr.sliceAt, Instr.slice, Sem.run_bind, run_und hu, g1, run_size hsz]
      · by_cases q : mx = none
        · rw [if_pos q]
          have q' := hmn.1 q
          cases hh : hi' with
          | none =>
            rw [g5 hh]
            cases c with
            | none => exact hl rfl
            | some c =>
              cases h1 with
              | slcN => exact Nat.zero_le _
              | slc hb hl' hc' hn => cases hr; exact hl'
              | slc0 hb hc' => exact Nat.zero_le _
          | some z => exact Nat.le_trans (g4 (by rw [hh]; simp) q') ht
        · rw [if_neg q]
          exact (g3 (fun q' => q (hmn.2 q'))).2
      · by_cases q : mx = none
        · rw [if_pos q]; exact Nat.le_refl _
        · rw [if_neg q]; exact Nat.le_trans (g3 (fun q' => q (hmn.2 q'))).1 ht
    cases h1 with
    | slcN =>
      obtain ⟨r1, r2, r3, r4⟩ := fin none 0 rfl (Nat.le_refl _) (by simp)
      simp at hd; obtain ⟨rfl, rfl⟩ := hd
      refine .same hH (x := .slice none 0 0) ?_ .slcN
      rw [r1]
      have : (if mx = none then 0 else m) = 0 := by omega
      rw [this] at r3 ⊢
      obtain rfl : h = 0 := by omega
      obtain rfl : b = 0 := by omega
      simp
    | slc hb hl hcc hn =>
      rename_i q rb i cap
      simp only [Option.isNone_some, Bool.or_false, Bool.not_eq_eq_eq_not, Bool.not_false, beq_iff, decide_eq_true_eq] at h0
      subst h0
      simp only [Option.some.injEq, Prod.mk.injEq] at hd
      obtain ⟨rfl, rfl⟩ := hd
      obtain ⟨r1, r2, r3, r4⟩ := fin (some ⟨rb.r, rb.b + i, none⟩) cap rfl (by cases c with
        | none => exact hl
        | some k => rw [hcc k rfl]; exact Nat.le_refl _) (fun _ => hl)
      have hc' : ∀ k, newCap mx'.isSome m b c = some k → (if mx = none then cap else m) - b = k := by
        intro k hk
        unfold newCap at hk
        cases hm' : mx' with
        | some z => rw [hm'] at hk; simp at hk; rw [if_neg (fun q => by have := hmn.1 q; rw [hm'] at this; cases this)]; exact hk
        | none =>
          rw [hm'] at hk
          rw [if_pos (hmn.2 hm')]
          cases c with
          | none => simp at hk
          | some c => simp at hk; rw [hcc c rfl]; exact hk
      by_cases hm : (if mx = none then cap else m) = b
      · rw [if_pos hm] at r1
        have hz1 : h - b = 0 := by omega
        have hz2 : (if mx = none then cap else m) - b = 0 := by omega
        rw [hz1, hz2] at r1
        rw [hz1]
        refine .same hH r1 (.slc0 hb (fun k hk => ?_))
        have := hc' k hk
        omega
      · rw [if_neg hm] at r1
        simp only [Option.map_some, addr_add] at r1
        refine .same hH r1 ?_
        rw [Nat.add_assoc]
        refine .slc hb (by omega) hc' ?_
        generalize (if mx = none then cap else m) = M at *
        have e1 : b * sz + (M - b) * sz = M * sz := by rw [← Nat.add_mul]; congr 1; omega
        have e2 : M * sz ≤ cap * sz := Nat.mul_le_mul_right _ r4
        omega
    | slc0 hb hcc =>
      rename_i q i rb xa
      simp only [Option.isNone_some, Bool.or_false, Bool.not_eq_eq_eq_not, Bool.not_false, beq_iff, decide_eq_true_eq] at h0
      subst h0
      simp only [Option.some.injEq, Prod.mk.injEq] at hd
      obtain ⟨rfl, rfl⟩ := hd
      obtain ⟨r1, r2, r3, r4⟩ := fin (some xa) 0 rfl (by cases c with
        | none => exact Nat.le_refl _
        | some k => rw [← hcc k rfl]; exact Nat.le_refl _) (fun _ => Nat.le_refl _)
      have hM : (if mx = none then 0 else m) = 0 := by omega
      rw [hM] at r1 r3
      obtain rfl : h = 0 := by omega
      obtain rfl : b = 0 := by omega
      simp only [if_true, Nat.sub_self] at r1 ⊢
      refine .same hH r1 (.slc0 hb (fun k hk => ?_))
      unfold newCap at hk
      cases hm' : mx' with
      | some z =>
        rw [hm'] at hk; simp at hk
        rw [if_neg (fun q => by have := hmn.1 q; rw [hm'] at this; cases this)] at hM
        omega
      | none =>
        rw [hm'] at hk
        cases c with
        | none => simp at hk
        | some c => simp at hk; have := hcc c rfl; omega
  · rename_i n e hu
    simp only [Option.bind_eq_bind, Option.bind_eq_some_iff, Option.pure_def, Option.some.injEq] at hc
    obtain ⟨sz, hsz, hc⟩ := hc
    split at hc
    · simp at hc
    rename_i hz
    simp [Option.bind_eq_some_iff] at hc hz
    obtain ⟨x', hx, lo', hlo, hi', hhi, mx', hmx, rfl⟩ := hc
    have hno : mx' = none ∨ hi' ≠ none := by
      rcases cOpt_spec hmx with ⟨-, rfl⟩ | ⟨u, z, rfl, rfl, -⟩
      · exact .inl rfl
      · rcases cOpt_spec hhi with ⟨rfl, -⟩ | ⟨u', z', -, rfl, -⟩
        · simp at hz
        · exact .inr (by simp)
    have hmn : mx = none ↔ mx' = none := by
      rcases cOpt_spec hmx with ⟨rfl, rfl⟩ | ⟨u, z, rfl, rfl, -⟩ <;> simp
    have h1 := cOpd_sound hF hx
    simp only [doX] at hd
    split at hd
    case h_2 => cases hd
    rename_i q i e
    rw [e] at h1
    obtain ⟨rb, hb, hax⟩ := h1.ptr_inv
    split at hd
    case h_2 => cases hd
    rename_i c cn pl hq
    have hb0 := bif_some hd
    clear hd
    obtain ⟨h0, hd⟩ := hb0
    split at hd
    case h_2 => cases hd
    rename_i m e1
    split at hd
    case h_2 => cases hd
    rename_i h e2
    split at hd
    case h_2 => cases hd
    rename_i b e3
    simp at hd; obtain ⟨rfl, rfl⟩ := hd
    obtain ⟨g1, g2, g3, g4, g5⟩ := bounds_run (p := p) (w := w) (sl := false) (cap := n) hF hlo hhi hmx (Nat.le_refl n) e1 e2 e3 hno
    have hmle : m ≤ n ∧ h ≤ m ∧ (if mx = none then n else m) = m := by
      by_cases q1 : mx = none
      · have q' := hmn.1 q1
        subst q'
        simp only [bndO, Option.some.injEq] at e1
        subst e1
        rw [if_pos q1]
        refine ⟨Nat.le_refl _, ?_, rfl⟩
        cases hh : hi' with
        | none => rw [g5 hh]; exact Nat.le_refl _
        | some z => exact g4 (by rw [hh]; simp) rfl
      · have := g3 (fun q' => q1 (hmn.2 q'))
        rw [if_neg q1]
        exact ⟨this.1, this.2, rfl⟩
    rw [hmle.2.2] at g1
    have hin := allIn_spec _ _ _ h0
    have hpos : 0 < n * sz := Nat.mul_pos (by omega) (by omega)
    obtain ⟨v0, hv0⟩ := hin (n * sz - 1) (by omega)
    obtain ⟨-, -, -, -, hlast⟩ := hH.cell hq hb hv0
    have hrun : (execOp a.eval o).run p w = .ok (.value (.slice (some (if m = b then ⟨rb.r, rb.b + i, none⟩ else (⟨rb.r, rb.b + i, none⟩ : Addr).add (b * sz))) (h - b) (m - b))) w := by
      simp only [execOp, ho, hax]
      refine run_v ?_
      simp [Instr.sliceAt, Instr.sureAddr, Sem.run_bind, run_und hu, g1, run_size hsz]
    by_cases hm : m = b
    · rw [if_pos hm] at hrun
      have hz1 : h - b = 0 := by omega
      have hz2 : m - b = 0 := by omega
      rw [hz1, hz2] at hrun
      rw [hz1, hz2]
      exact .same hH hrun (.slc0 hb (fun k hk => by simpa using hk))
    · rw [if_neg hm, addr_add] at hrun
      refine .same hH hrun ?_
      rw [Nat.add_assoc]
      refine .slc hb (by omega) (fun k hk => by simpa using hk) ?_
      have e1 : b * sz + (m - b) * sz = m * sz := by rw [← Nat.add_mul]; congr 1; omega
      have e2 : m * sz ≤ n * sz := Nat.mul_le_mul_right _ hmle.1
      omega
  · cases hc
end
end Go.Proofs.YtafignheedbnbaaGreatDoor.X
namespace Go.Proofs.YtafignheedbnbaaGreatDoor.X
open Go
set_option linter.unusedVariables false
set_option linter.unusedSimpArgs false

theorem growBy_le (newLen : Nat) : ∀ (r c : Nat), c ≤ 2 * newLen + 768 → Builtin.growBy newLen r c ≤ 2 * newLen + 768
  | 0, c, h => h
  | r + 1, c, h => by
    unfold Builtin.growBy
    split
    · exact h
    · exact growBy_le newLen r _ (by omega)
theorem nextslicecap_le {need old : Nat} (h : old < need) : Builtin.nextslicecap need old ≤ 2 * need + 768 := by
  unfold Builtin.nextslicecap
  split
  · omega
  · split
    · omega
    · exact growBy_le _ _ _ (by omega)
theorem range_map_mod (z : List Value) (hz : 0 < z.length) : ∀ n, (List.range (n * z.length)).map (fun i => z.getD (i % z.length) Go.undef) = (List.replicate n z).flatten
  | 0 => by simp
  | n + 1 => by
    rw [Nat.succ_mul, Nat.add_comm, List.range_add, List.map_append, List.map_map, List.replicate_succ, List.flatten_cons, ← range_map_mod z hz n]
    congr 1
    · apply List.ext_getElem?
      intro i
      by_cases hi : i < z.length
      · simp [hi, Nat.mod_eq_of_lt hi]
      · simp [hi, List.getElem?_eq_none (Nat.le_of_not_lt hi)]
    · apply List.map_congr_left
      intro i _
      simp
theorem range_map_arr (z : Array Value) (hz : 0 < z.size) (n : Nat) : ((Array.range (n * z.size)).map fun i => z[i % z.size]!).toList = (List.replicate n z.toList).flatten := by
  rw [← range_map_mod z.toList (by simpa using hz) n]
  simp only [Array.toList_map, Array.toList_range, Array.length_toList]
  apply List.map_congr_left
  intro i hi
  have : i % z.size < z.size := Nat.mod_lt _ hz
  simp [this]
theorem flatten_replicate_length {α : Type} (z : List α) : ∀ n, (List.replicate n z).flatten.length = n * z.length
  | 0 => by simp
  | n + 1 => by rw [List.replicate_succ, List.flatten_cons, List.length_append, flatten_replicate_length z n, Nat.succ_mul, Nat.add_comm]
theorem VRs.flatten {σ : Sg} {ρ : Ren} {z : List V} {x : List Value} (h : VRs σ ρ z x) : ∀ n, VRs σ ρ (List.replicate n z).flatten (List.replicate n x).flatten
  | 0 => .nil
  | n + 1 => by
    rw [List.replicate_succ, List.replicate_succ, List.flatten_cons, List.flatten_cons]
    exact h.append (h.flatten n)

section
variable {p : Program} {σ : Sg} {ρ : Ren} {F : Fr} {H H' : Hp} {a : Act} {w : World} {v : V} {xo : XO} {o : Oper}

/-- what is appended, or copied from -/
theorem appended_sound (hH : HR σ ρ H w) {sz m : Nat} {y : V} {ry : Value} {vs : List V} (hy : VR σ ρ y ry) (h1 : appended H sz y = some vs) (h2 : lenOf y = some m) :
    ∃ news : List Value, VRs σ ρ vs news ∧ news.length = m * sz ∧ (Builtin.lenOf ry).run p w = .ok m w ∧ (∀ w', w'.heap = w.heap → ∀ k ≤ m, (Builtin.firstCells sz k ry).run p w' = .ok ⟨news.take (k * sz)⟩ w') := by
  unfold appended at h1
  split at h1
  · simp at h1; subst h1
    cases hy with
    | slcN =>
      simp [lenOf] at h2; subst h2
      exact ⟨[], .nil, by simp, by simp [Builtin.lenOf], fun w' hw k hk => by simp [Builtin.firstCells]⟩
  · rename_i b i sz' l c
    simp [lenOf] at h2; subst h2
    have key : ∀ (rb : RB) (x : Addr), ρ b = some rb → (l = 0 ∨ x = ⟨rb.r, rb.b + i, none⟩) → ∃ news : List Value, VRs σ ρ vs news ∧ news.length = l * sz ∧ (∀ w', w'.heap = w.heap → ∀ k ≤ l, (loadCells x (k * sz)).run p w' = .ok ⟨news.take (k * sz)⟩ w') := by
      intro rb x hb hx
      obtain ⟨xs, g1, g2, g3⟩ := hH.loadn h1 hb
      have g2' : xs.length = l * sz := g2
      refine ⟨xs, g1, g2', fun w' hw k hk => ?_⟩
      have hle : k * sz ≤ l * sz := Nat.mul_le_mul_right _ hk
      rcases hx with rfl | rfl
      · obtain rfl : k = 0 := by omega
        have := run_loadCells_list (P := p) w' x [] (by simp)
        simpa using this
      · have := run_loadCells_list (P := p) w' ⟨rb.r, rb.b + i, none⟩ (xs.take (k * sz)) (fun j u hj => by
          have q := g3 j u (by
            rw [List.getElem?_take] at hj
            split at hj
            · exact hj
            · cases hj)
          unfold World.cell? at q ⊢
          rwa [hw])
        rw [List.length_take, g2', Nat.min_eq_left hle] at this
        exact this
    cases hy with
    | slc hb hl hc hn =>
      obtain ⟨news, g1, g2, g3⟩ := key _ _ hb (.inr rfl)
      exact ⟨news, g1, g2, by simp [Builtin.lenOf], fun w' hw k hk => by simpa [Builtin.firstCells] using g3 w' hw k hk⟩
    | slc0 hb hc =>
      obtain ⟨news, g1, g2, g3⟩ := key _ _ hb (.inl rfl)
      exact ⟨news, g1, g2, by simp [Builtin.lenOf], fun w' hw k hk => by simpa [Builtin.firstCells] using g3 w' hw k hk⟩
  · rename_i l n
    obtain ⟨h0, h1'⟩ := bif_some h1
    clear h1
    simp only [beq_iff, decide_eq_true_eq, Option.some.injEq] at h0 h1'
    subst h0
    simp [lenOf] at h2; subst h2
    obtain ⟨s, rfl, rfl, rfl⟩ := hy.str_inv
    subst h1'
    refine ⟨s.data.toList.map fun b => .int .u8 b.toNat, ?_, by simp [← size_data], by simp [Builtin.lenOf], fun w' hw k hk => ?_⟩
    · have := asBytes_spec (σ := σ) (ρ := ρ) s.size s.data.toList 0 (by rw [size_data]; omega)
      simpa using this
    · have e : ((s.extract 0 k).data.map fun b => Value.int .u8 b.toNat) = ⟨(s.data.toList.map fun b => Value.int .u8 b.toNat).take (k * 1)⟩ := by
        apply Array.ext'
        rw [Array.toList_map, Lib.extract_data]
        simp [List.map_take]
      simp only [Builtin.firstCells]
      rw [e]
      rfl
  · cases h1
/-- the real append, into the room that is there -/
theorem run_append_room {sT xT ty e : TypeId} {sz m l cap : Nat} {base : Option Addr} {rx : Value} {news : List Value} {w' : World} (hu : p.underlying sT = some (.slice e)) (hsz : szOf p e = some sz) {dx : TypeDesc} (hx : p.underlying xT = some dx) (hni : ∀ k, dx ≠ .int k)
    (hl : (Builtin.lenOf rx).run p w = .ok m w) (hf : (Builtin.firstCells sz m rx).run p w = .ok ⟨news⟩ w) (hroom : l + m ≤ cap)
    (hst : ∀ x, base = some x → (storeCells (x.add (l * sz)) news).run p w = .ok () w') (hn : base = none → w' = w) :
    (Builtin.append_ #[sT, xT] ty #[.slice base l cap, rx]).run p w = .ok (.slice base (l + m) cap) w' := by
  have hz : (match dx with | .int _ => true | _ => false) = false := by cases dx <;> first | rfl | exact absurd rfl (hni _)
  cases base with
  | none =>
    rw [hn rfl]
    simp only [Builtin.append_, List.getElem?_toArray, List.getElem?_cons_zero, List.getElem?_cons_succ]
    simp [Sem.run_bind, run_und hu, run_und hx, run_size hsz, hl, hf, hroom]
  | some x =>
    simp only [Builtin.append_, List.getElem?_toArray, List.getElem?_cons_zero, List.getElem?_cons_succ]
    simp [Sem.run_bind, run_und hu, run_und hx, run_size hsz, hl, hf, hroom, hst x rfl]
theorem askRoom_run (n : Nat) : (askRoom n).run p w = .ok () w := by
  unfold askRoom
  split <;> simp [mark, Sem.run]
theorem choose_run (q : Question) (h : q.forced = false) : ∃ t, (choose q).run p w = .ok (q.cut t) { w with drawn := w.drawn + 1 } := by
  refine ⟨w.tape w.drawn q, ?_⟩
  simp [choose, Sem.run, h]
/-- the real append, into a new row -/
theorem run_append_new {sT xT ty e : TypeId} {sz m l cap : Nat} {base : Option Addr} {rx rz : Value} {news olds : List Value} {ie : TypeInfo} (hu : p.underlying sT = some (.slice e)) (hie : p.info? e = some ie) (hsz : ie.size = sz) (hz0 : ie.zero = some rz) (hz1 : rz.cells.size = sz) (hpos : 0 < sz) (hby : ie.bytes ≤ 100000) {dx : TypeDesc} (hx : p.underlying xT = some dx) (hni : ∀ k, dx ≠ .int k)
    (hl : (Builtin.lenOf rx).run p w = .ok m w) (hf : ∀ w', w'.heap = w.heap → (Builtin.firstCells sz m rx).run p w' = .ok ⟨news⟩ w') (ho : ∀ w', w'.heap = w.heap → (Builtin.firstCells sz l (.slice base l cap)).run p w' = .ok ⟨olds⟩ w') (hroom : cap < l + m) (hmost : l + m ≤ 1000000000) (hlen : olds.length + news.length = (l + m) * sz) :
    ∃ k, l + m ≤ k ∧ (Builtin.append_ #[sT, xT] ty #[.slice base l cap, rx]).run p w = .ok (.slice (some ⟨w.heap.size, 0, none⟩) (l + m) k) (w.drew.alloc (.cells ⟨(olds ++ news) ++ (List.replicate (k - (l + m)) rz.cells.toList).flatten⟩ e)) := by
  have hfc : (Question.appendCap (l + m) cap e).forced = false := rfl
  have hsz' : (sizeOf e).run p w = .ok sz w := run_size (by simp [szOf, hie, hsz])
  have hti : ∀ w, (typeInfo e).run p w = .ok ie w := fun w => by simp [typeInfo, program, Sem.run_bind, Sem.run, hie]
  have hzv : ∀ w, (zeroValue e).run p w = .ok rz w := fun w => by simp [zeroValue, Sem.run_bind, hti, hz0]
  have hnc := nextslicecap_le hroom
  have hbig : ¬ (2 ^ 48 < Builtin.nextslicecap (l + m) cap * ie.bytes) := by
    have : Builtin.nextslicecap (l + m) cap * ie.bytes ≤ (2 * (l + m) + 768) * 100000 := Nat.mul_le_mul hnc hby
    have h2 : (2 : Nat) ^ 48 = 281474976710656 := by decide
    omega
  have hmax : ¬ (9223372036854775807 < (l : Int) + (m : Int)) := by omega
  refine ⟨Question.cut (.appendCap (l + m) cap e) (w.tape w.drawn (.appendCap (l + m) cap e)), by simp [Question.cut], ?_⟩
  generalize hk : Question.cut (.appendCap (l + m) cap e) (w.tape w.drawn (.appendCap (l + m) cap e)) = k
  have hzc : (Builtin.zeroCells rz.cells (k - (l + m))).toList = (List.replicate (k - (l + m)) rz.cells.toList).flatten := range_map_arr rz.cells (by omega) _
  have hzc' : Builtin.zeroCells rz.cells (k - (l + m)) = ⟨(List.replicate (k - (l + m)) rz.cells.toList).flatten⟩ := by apply Array.ext'; exact hzc
  simp only [Builtin.append_, List.getElem?_toArray, List.getElem?_cons_zero, List.getElem?_cons_succ]
  have hf' := hf w.drew rfl
  have ho' := ho w.drew rfl
  simp [Sem.run_bind, run_und hu, run_und hx, hsz', hl, hti, hzv, hfc, hk, askRoom_run, show ¬ (l + m ≤ cap) from by omega, hmax, hbig, hf', ho', hzc', newRow]
/-- an abstract block anew, where the elder one lay -/
theorem HR.rebase (hH : HR σ ρ H w) {b : P} {cc : Tr V} {cn : Nat} {pl : Bool} (hp : H.get b = some (.cells cc cn pl)) {rb : RB} (hb : ρ b = some rb) (β : Nat) (l : List V) {w' : World}
    (W1 : w'.os = w.os) (W2 : w'.tape = w.tape) (W3 : w'.output = w.output) (W4 : w'.heap.size = w.heap.size) (hoth : ∀ r, r ≠ rb.r → w'.heap[r]? = w.heap[r]?)
    (hat : ∃ cs' e lo hi, w'.heap[rb.r]? = some (.cells cs' e (lo, hi)) ∧ cs'.size = rb.n ∧ (∀ j, j < rb.n → ¬ (lo ≤ j ∧ j < hi)) ∧ ∀ j v, l[j]? = some v → ∃ y, cs'[β + j]? = some y ∧ VR σ ρ v y) :
    HR σ (ρ.add H.next ⟨rb.r, β, rb.n⟩) ((H.kill b).newRow l false) w' ∧ Stp ρ H w (ρ.add H.next ⟨rb.r, β, rb.n⟩) ((H.kill b).newRow l false) w' := by
  obtain ⟨cs', et, lo, hi, r1, r2, q4, r3⟩ := hat
  have hle' : ρ.le (ρ.add H.next ⟨rb.r, β, rb.n⟩) := Ren.add_le hH _
  have hnx : (H.kill b).next = H.next := rfl
  have hother : ∀ q x, q ≠ b → H.get q = some x → ∃ c, ρ q = some c ∧ BlkR σ ρ w c x ∧ c.r ≠ rb.r := fun q x hq hx => by
    obtain ⟨c, hc, hr⟩ := hH.blk q x hx
    exact ⟨c, hc, hr, fun e => hq (hH.inj q b x _ c rb hx hp hc hb e)⟩
  have hget : ∀ q x, ((H.kill b).newRow l false).get q = some x → (q = H.next ∧ x = .cells (rowOf l 0 .lf) l.length false) ∨ (q ≠ H.next ∧ q ≠ b ∧ H.get q = some x) := fun q x hq => by
    unfold Hp.newRow at hq
    rw [Hp.get_new, Hp.get_kill, hnx] at hq
    by_cases e1 : q = H.next
    · rw [if_pos e1] at hq; cases hq; exact .inl ⟨e1, rfl⟩
    · rw [if_neg e1] at hq
      by_cases e2 : q = b
      · rw [if_pos e2] at hq; cases hq
      · rw [if_neg e2] at hq; exact .inr ⟨e1, e2, hq⟩
  have hnext : ((H.kill b).newRow l false).next.toNat = H.next.toNat + 1 := P.toNat_succ _
  refine ⟨⟨?_, ?_, ?_⟩, ⟨W1, W2, W3, by rw [W4]; exact Nat.le_refl _, hle', by omega, ?_, ?_, ?_⟩⟩
  · intro q q' x y c1 c2 hq hq' hc1 hc2 e
    unfold Ren.add at hc1 hc2
    rcases hget q x hq with ⟨e1, -⟩ | ⟨e1, e2, e3⟩ <;> rcases hget q' y hq' with ⟨f1, -⟩ | ⟨f1, f2, f3⟩
    · rw [e1, f1]
    · rw [if_pos e1] at hc1; rw [if_neg f1] at hc2
      cases hc1
      obtain ⟨c, hc, -, hne⟩ := hother q' y f2 f3
      rw [hc] at hc2; cases hc2
      exact absurd e.symm hne
    · rw [if_neg e1] at hc1; rw [if_pos f1] at hc2
      cases hc2
      obtain ⟨c, hc, -, hne⟩ := hother q x e2 e3
      rw [hc] at hc1; cases hc1
      exact absurd e hne
    · rw [if_neg e1] at hc1; rw [if_neg f1] at hc2
      exact hH.inj q q' x y c1 c2 e3 f3 hc1 hc2 e
  · intro q x hq
    rcases hget q x hq with ⟨e1, rfl⟩ | ⟨e1, e2, e3⟩
    · refine ⟨⟨rb.r, β, rb.n⟩, by unfold Ren.add; rw [if_pos e1], cs', et, lo, hi, r1, r2, fun j u hj => ?_, q4, by simp⟩
      rw [rowOf_get] at hj
      by_cases hin : 0 ≤ j ∧ j < 0 + l.length
      · rw [if_pos hin] at hj
        simp only [Nat.sub_zero] at hj
        obtain ⟨y, hy, hyr⟩ := r3 j u hj
        exact ⟨y, hy, hyr.mono hle'⟩
      · rw [if_neg hin] at hj; simp at hj
    · obtain ⟨c, hc, hr1, hne⟩ := hother q x e2 e3
      exact ⟨c, hle' _ _ hc, hr1.mono hle' (hoth _ hne)⟩
  · intro q c hq
    unfold Ren.add at hq
    by_cases e1 : q = H.next
    · rw [e1]; omega
    · rw [if_neg e1] at hq
      have := hH.fresh q c hq
      omega
  · intro q c hq
    unfold Ren.add at hq
    by_cases e1 : q = H.next
    · rw [e1]; exact .inr (by omega)
    · rw [if_neg e1] at hq; exact .inl hq
  · intro q x c hq hc
    unfold Ren.add at hc
    rcases hget q x hq with ⟨e1, -⟩ | ⟨e1, e2, e3⟩
    · rw [if_pos e1] at hc; cases hc
      exact .inr ⟨b, _, rb, hp, hb, rfl⟩
    · rw [if_neg e1] at hc
      exact .inr ⟨q, x, c, e3, hc, rfl⟩
  · intro r hr1 hfr
    exact hoth r (fun e => hfr b _ rb hp hb e.symm)
theorem loadn_live {b : P} {i n : Nat} {l : List V} (h : H.loadn b i n = some l) : ∃ cc cn pl, H.get b = some (.cells cc cn pl) := by
  unfold Hp.loadn at h
  split at h
  · rename_i cc cn pl hp; exact ⟨cc, cn, pl, hp⟩
  · cases h
theorem s_append_core {sz m : Nat} {x : V} {rx rz : Value} {e : TypeId} {vs : List V} {s : Sem Next} {ap : Value → Sem Value} (hs : SgOk σ) (hH : HR σ ρ H w) (hz1 : rz.cells.size = sz) (hpos : 0 < sz)
    (hxr : VR σ ρ x rx) (news : List Value) (hv : VRs σ ρ vs news) (hnl : news.length = m * sz)
    (R1 : ∀ (base : Option Addr) (l cap : Nat) (w' : World), l + m ≤ cap → (∀ x, base = some x → (storeCells (x.add (l * sz)) news).run p w = .ok () w') → (base = none → w' = w) → (ap (.slice base l cap)).run p w = .ok (.slice base (l + m) cap) w')
    (R2 : ∀ (base : Option Addr) (l cap : Nat) (olds : List Value), (∀ w', w'.heap = w.heap → (Builtin.firstCells sz l (.slice base l cap)).run p w' = .ok ⟨olds⟩ w') → cap < l + m → l + m ≤ 1000000000 → olds.length + news.length = (l + m) * sz →
      ∃ k, l + m ≤ k ∧ (ap (.slice base l cap)).run p w = .ok (.slice (some ⟨w.heap.size, 0, none⟩) (l + m) k) (w.drew.alloc (.cells ⟨(olds ++ news) ++ (List.replicate (k - (l + m)) rz.cells.toList).flatten⟩ e)))
    (hrun : ∀ r w', (ap rx).run p w = .ok r w' → s.run p w = .ok (.value r) w') (hd : appendL H sz x vs m = some (v, H')) : Gives p σ s ρ H w v H' := by
  have fresh : ∀ (H1 : Hp) (olds : List V) (rolds : List Value) (base : Option Addr) (l cap : Nat), rx = .slice base l cap → HR σ ρ H1 w → Stp ρ H w ρ H1 w → VRs σ ρ olds rolds → rolds.length = l * sz → (∀ w', w'.heap = w.heap → (Builtin.firstCells sz l (.slice base l cap)).run p w' = .ok ⟨rolds⟩ w') → cap < l + m → l + m ≤ most →
      Gives p σ s ρ H w (.slice (some (H1.next, 0)) sz (l + m) none) (H1.newRow (olds ++ vs) false) := by
    intro H1 olds rolds base l cap hrx hH1 hS hro hrl hfo hcap hmost
    have hlen : rolds.length + news.length = (l + m) * sz := by rw [hrl, hnl, Nat.add_mul]
    obtain ⟨k, hk, hr⟩ := R2 base l cap rolds hfo hcap (by unfold most at hmost; omega) hlen
    rw [← hrx] at hr
    have hr' := hrun _ _ hr
    obtain ⟨g1, g2⟩ := hH1.drew.newRow (w := w.drew) (hro.append hv) (sp := (List.replicate (k - (l + m)) rz.cells.toList).flatten) e false (by simp) 0 0 (fun j _ => by omega) (by simp)
    refine ⟨_, _, _, .inl hr', ?_, g1, hS.trans (Stp.of_drew g2)⟩
    have hn : (rolds ++ news).length + ((List.replicate (k - (l + m)) rz.cells.toList).flatten).length = k * sz := by
      rw [List.length_append, hlen, flatten_replicate_length, Array.length_toList, hz1, ← Nat.add_mul]
      congr 1; omega
    rw [hn]
    have := VR.slc (σ := σ) (ρ := ρ.add H1.next ⟨w.heap.size, 0, k * sz⟩) (p := H1.next) (b := ⟨w.heap.size, 0, k * sz⟩) (i := 0) (sz := sz) (l := l + m) (cap := k) (c := none) (Ren.add_same _ _ _) hk (by simp) (by simp)
    simpa using this
  have hvl := hv.length
  unfold appendL at hd
  split at hd
  ·
    rename_i sz0 l0 c0
    cases hxr with
    | slcN =>
      cases m with
      | zero =>
        simp at hd; obtain ⟨rfl, rfl⟩ := hd
        obtain rfl : news = [] := List.length_eq_zero_iff.1 (by simpa using hnl)
        have := R1 none 0 0 w (by omega) (by simp) (by simp)
        exact .same hH (hrun _ _ this) .slcN
      | succ m =>
        simp only at hd
        obtain ⟨h0, hd'⟩ := bif_some hd
        clear hd
        simp only [Bool.and_eq_true, ble_iff, decide_eq_true_eq] at h0
        simp at hd'; obtain ⟨rfl, rfl⟩ := hd'
        have := fresh H [] [] none 0 0 rfl hH (.refl _ _ _) .nil (by simp) (fun w' hw => by simp [Builtin.firstCells]) (by omega) (by omega)
        simpa using this
  · rename_i b i szx l c
    obtain ⟨h0, hd'⟩ := bif_none hd
    clear hd
    simp only [Bool.not_eq_eq_eq_not, Bool.not_false, Bool.and_eq_true, beq_iff, ble_iff, decide_eq_true_eq] at h0
    obtain ⟨rfl, hmost⟩ := h0
    have loadOld : ∀ (old : List V), H.loadn b i (l * sz) = some old → ∀ (ra : Option Addr) (cap : Nat), rx = .slice ra l cap →
        ∃ rolds, VRs σ ρ old rolds ∧ rolds.length = l * sz ∧ (∀ w', w'.heap = w.heap → (Builtin.firstCells sz l (.slice ra l cap)).run p w' = .ok ⟨rolds⟩ w') := by
      intro old hold ra cap hra
      subst hra
      cases hxr with
      | slc hb hle hcc hn =>
        rename_i rb
        obtain ⟨xs, g1, g2, g3⟩ := hH.loadn hold hb
        refine ⟨xs, g1, g2, fun w' hw => ?_⟩
        have := run_loadCells_list (P := p) w' ⟨rb.r, rb.b + i, none⟩ xs (fun j u hj => by
          have := g3 j u hj
          unfold World.cell? at this ⊢
          rwa [hw])
        rw [g2] at this
        simpa [Builtin.firstCells] using this
      | slc0 hb hcc =>
        rename_i rb xa
        simp only [Nat.zero_mul] at hold ⊢
        obtain ⟨xs, g1, g2, g3⟩ := hH.loadn hold hb
        obtain rfl : xs = [] := List.length_eq_zero_iff.1 g2
        refine ⟨[], g1, rfl, fun w' hw => ?_⟩
        have := run_loadCells_list (P := p) w' xa [] (by simp)
        simpa [Builtin.firstCells] using this
    cases c with
    | some c =>
      simp only at hd'
      by_cases hfit : l + m ≤ c
      · rw [show Nat.ble (l + m) c = true from by rw [ble_iff]; exact decide_eq_true hfit, cond_true] at hd'
        split at hd'
        · rename_i H1 hst
          simp at hd'; obtain ⟨rfl, rfl⟩ := hd'
          cases hxr with
          | slc hb hle hcc hn =>
            rename_i rb cap
            have hcap := hcc c rfl
            obtain ⟨g1, g2, g3, g4, g5⟩ := hH.storen hs hst hb hv
            have hst' := run_storeCells_cells (P := p) rb.r (rb.b + (i + l * sz)) news 0 w (by simpa using g1) (by simpa using g2) g3
            simp only [Nat.add_zero] at hst'
            have := R1 (some ⟨rb.r, rb.b + i, none⟩) l cap (w.setCells rb.r (rb.b + (i + l * sz)) news) (by omega)
              (fun x hx => by cases hx; rw [addr_add, Nat.add_assoc]; exact hst') (by simp)
            refine ⟨_, _, ρ, .inl (hrun _ _ this), ?_, g4, g5⟩
            exact .slc hb (by omega) (fun k hk => by cases hk; exact hcap) hn
          | slc0 hb hcc =>
            rename_i rb xa
            have := hcc c rfl
            obtain rfl : m = 0 := by omega
            obtain rfl : news = [] := List.length_eq_zero_iff.1 (by simpa using hnl)
            obtain ⟨g1, g2, g3, g4, g5⟩ := hH.storen hs hst hb hv
            have := R1 (some xa) 0 0 w (by omega) (fun x hx => by simp [storeCells]) (by simp)
            refine ⟨_, _, ρ, .inl (hrun _ _ this), ?_, g4, g5⟩
            exact .slc0 hb (fun k hk => by cases hk; exact hcc c rfl)
        · cases hd'
      · rw [show Nat.ble (l + m) c = false from by rw [ble_iff]; exact decide_eq_false hfit, cond_false] at hd'
        split at hd'
        · rename_i old hold
          obtain ⟨h1, hd''⟩ := bif_some hd'
          clear hd'
          simp at hd''; obtain ⟨rfl, rfl⟩ := hd''
          cases hxr' : hxr with
          | slc hb hle hcc hn =>
            rename_i rb cap
            obtain ⟨rolds, g1, g2, g3⟩ := loadOld old hold _ _ rfl
            exact fresh H old rolds _ l cap rfl hH (.refl _ _ _) g1 g2 g3 (by have := hcc c rfl; omega) hmost
          | slc0 hb hcc =>
            obtain ⟨rolds, g1, g2, g3⟩ := loadOld old hold _ _ rfl
            exact fresh H old rolds _ 0 0 rfl hH (.refl _ _ _) g1 g2 g3 (by have := hcc c rfl; omega) hmost
        · cases hd'
    | none =>
      simp only at hd'
      split at hd'
      · rename_i old hold
        obtain ⟨h1, hd''⟩ := bif_some hd'
        clear hd'
        simp at hd''; obtain ⟨rfl, rfl⟩ := hd''
        obtain ⟨k1, k2⟩ := hH.kill b
        cases hxr' : hxr with
        | slc hb hle hcc hn =>
          rename_i rb cap
          obtain ⟨rolds, g1, g2, g3⟩ := loadOld old hold _ _ rfl
          by_cases hfit : l + m ≤ cap
          ·
            obtain ⟨cc, cn, pl, hp⟩ := loadn_live hold
            obtain ⟨b', hb', hblk⟩ := hH.blk b _ hp
            rw [hb] at hb'; cases hb'
            have hlt := hblk.lt
            obtain ⟨cs, et, lo, hi, q1, q2, q3, q4, q5⟩ := hblk
            have hsum : rb.b + (i + l * sz) + news.length ≤ cs.size := by
              have : (l + m) * sz ≤ cap * sz := Nat.mul_le_mul_right _ hfit
              rw [Nat.add_mul] at this
              omega
            obtain ⟨cs', r1, r2, r3⟩ := heap_setCells_at rb.r et (lo, hi) news (rb.b + (i + l * sz)) w cs q1 hsum
            have hst' := run_storeCells_cells (P := p) rb.r (rb.b + (i + l * sz)) news 0 w
              (fun j hj => by
                have : rb.b + (i + l * sz) + j < cs.size := by omega
                simp [World.cell?, q1, this])
              (fun j hj => by
                have := q4 (rb.b + (i + l * sz) + 0 + j) (by omega)
                simp only [World.frozen?, q1, Bool.and_eq_false_iff, decide_eq_false_iff_not]
                omega) (ones_sound hs hv h1)
            simp only [Nat.add_zero] at hst'
            have hr := R1 (some ⟨rb.r, rb.b + i, none⟩) l cap (w.setCells rb.r (rb.b + (i + l * sz)) news) hfit
              (fun x hx => by cases hx; rw [addr_add, Nat.add_assoc]; exact hst') (by simp)
            have W := setCells_world rb.r news (rb.b + (i + l * sz)) w
            obtain ⟨z1, z2⟩ := hH.rebase hp hb (rb.b + i) (old ++ vs) W.1 W.2.1 W.2.2.1 W.2.2.2.1 (fun r hr => heap_setCells _ _ _ _ _ hr) ⟨cs', et, lo, hi, r1, by rw [r2]; exact q2, q4, fun j u hj => by
              have hol := g1.length
              obtain ⟨y, hy, hyr⟩ := (g1.append hv).get hj
              refine ⟨y, ?_, hyr⟩
              rw [r3]
              by_cases hjo : j < rolds.length
              · rw [if_neg (by omega)]
                rw [List.getElem?_append_left hjo] at hy
                obtain ⟨xs, z1, z2, z3⟩ := hH.loadn hold hb
                have hcell := g3 w rfl
                have hload := run_loadCells_list (P := p) w ⟨rb.r, rb.b + i, none⟩ xs z3
                rw [z2] at hload
                simp [Builtin.firstCells, hload] at hcell
                subst hcell
                have := z3 j y hy
                rw [addr_add] at this
                simpa [World.cell?, q1] using this
              · rw [List.getElem?_append_right (by omega)] at hy
                have := (List.getElem?_eq_some_iff.1 hy).1
                rw [if_pos (by omega), show rb.b + i + j - (rb.b + (i + l * sz)) = j - rolds.length from by omega]
                exact hy⟩
            refine ⟨_, _, _, .inl (hrun _ _ hr), ?_, z1, z2⟩
            have := VR.slc (σ := σ) (ρ := ρ.add H.next ⟨rb.r, rb.b + i, rb.n⟩) (p := H.next) (b := ⟨rb.r, rb.b + i, rb.n⟩) (i := 0) (sz := sz) (l := l + m) (cap := cap) (c := none) (Ren.add_same _ _ _) hfit (by simp) (by simpa using hn)
            simpa using this
          · have := fresh (H.kill b) old rolds _ l cap rfl k1 k2 g1 g2 g3 (by omega) hmost
            exact this
        | slc0 hb hcc =>
          rename_i rb xa
          obtain ⟨rolds, g1, g2, g3⟩ := loadOld old hold _ _ rfl
          by_cases hm : m = 0
          · subst hm
            obtain rfl : news = [] := List.length_eq_zero_iff.1 (by simpa using hnl)
            obtain rfl : rolds = [] := List.length_eq_zero_iff.1 (by simpa using g2)
            obtain rfl : old = [] := List.length_eq_zero_iff.1 (by simpa using g1.length)
            obtain rfl : vs = [] := List.length_eq_zero_iff.1 (by simpa using hvl)
            have hr := R1 (some xa) 0 0 w (by omega) (fun x hx => by simp [storeCells]) (by simp)
            obtain ⟨cc, cn, pl, hp⟩ := loadn_live hold
            obtain ⟨b', hb', hblk⟩ := hH.blk b _ hp
            rw [hb] at hb'; cases hb'
            obtain ⟨cs, et, lo, hi, q1, q2, q3, q4, q5⟩ := hblk
            obtain ⟨z1, z2⟩ := hH.rebase hp hb rb.b ([] ++ []) rfl rfl rfl rfl (fun _ _ => rfl) ⟨cs, et, lo, hi, q1, q2, q4, by simp⟩
            exact ⟨_, _, _, .inl (hrun _ _ hr), .slc0 (Ren.add_same _ _ _) (by simp), z1, z2⟩
          · exact fresh (H.kill b) old rolds _ 0 0 rfl k1 k2 g1 g2 g3 (by omega) hmost
      · cases hd'
  · cases hd
end
end Go.Proofs.YtafignheedbnbaaGreatDoor.X
namespace Go.Proofs.YtafignheedbnbaaGreatDoor.X
open Go
set_option linter.unusedVariables false
set_option linter.unusedSimpArgs false
section
variable {p : Program} {σ : Sg} {ρ : Ren} {F : Fr} {H H' : Hp} {a : Act} {w : World} {v : V} {xo : XO} {o : Oper}

theorem exec_builtin {c : Call} {b : Builtin} (ho : o.op = .call c) (hb : c.callee = .builtin b) : execOp a.eval o = builtin b c.argTypes o.type (c.args.map fun | .const _ => true | _ => false) (c.args.map a.eval) := by
  simp only [execOp, ho, resolve, hb, pure_bind, invoke]
  rfl
theorem args_two {c : Call} {x y : Operand} (h : c.args.toList = [x, y]) : c.args.map a.eval = #[a.eval x, a.eval y] := by
  apply Array.ext'; simp [h]
theorem args_one {c : Call} {x : Operand} (h : c.args.toList = [x]) : c.args.map a.eval = #[a.eval x] := by
  apply Array.ext'; simp [h]
theorem types_two {c : Call} {x y : TypeId} (h : c.argTypes.toList = [x, y]) : c.argTypes = #[x, y] := by
  apply Array.ext'; simp [h]
theorem types_one {c : Call} {x : TypeId} (h : c.argTypes.toList = [x]) : c.argTypes = #[x] := by
  apply Array.ext'; simp [h]
theorem absZ_spec {t : TypeId} {z : List V} (h : absZ p t = some z) : ∃ u it rz, p.info? t = some it ∧ it.zero = some rz ∧ absV rz = some u ∧ z = u.cells := by
  simp only [absZ, Option.map_eq_some_iff] at h
  obtain ⟨u, hu, rfl⟩ := h
  obtain ⟨it, rz, h1, h2, h3⟩ := zeroOf_spec hu
  exact ⟨u, it, rz, h1, h2, h3, rfl⟩
theorem bytesOf_spec {t : TypeId} {it : TypeInfo} (h : p.info? t = some it) : p.bytesOf t = it.bytes := by simp [Program.bytesOf, h]

theorem s_append {c : Call} {x y : Operand} {t u e : TypeId} {x' y' : Opd} {sz : Nat} {z : List V} (hs : SgOk σ) (ho : o.op = .call c) (hb : c.callee = .builtin .append) (ha : c.args.toList = [x, y]) (ht : c.argTypes.toList = [t, u])
    (hu : p.underlying t = some (.slice e)) {du : TypeDesc} (hdu : p.underlying u = some du) (hni : ∀ k, du ≠ .int k) (hsz : szOf p e = some sz) (hz : absZ p e = some z) (h0 : sz ≠ 0) (h1 : z.length = sz) (h2 : p.bytesOf e ≤ 100000)
    (hx : cOpd x = some x') (hy : cOpd y = some y') (hF : FR σ ρ F a) (hH : HR σ ρ H w) (hd : doX (.append sz x' y') F H = some (v, H')) : Gives p σ (execOp a.eval o) ρ H w v H' := by
  obtain ⟨uz, it, rz, i1, i2, i3, rfl⟩ := absZ_spec hz
  obtain ⟨it', j1, j2⟩ := szOf_spec hsz
  rw [i1] at j1; cases j1
  have hx' := cOpd_sound hF hx
  have hy' := cOpd_sound hF hy
  simp only [doX, appendX] at hd
  split at hd
  · rename_i vs m e1 e2
    obtain ⟨news, g1, g2, g3, g4⟩ := appended_sound (p := p) hH hy' e1 e2
    have hfc : ∀ w', w'.heap = w.heap → (Builtin.firstCells sz m (a.eval y)).run p w' = .ok ⟨news⟩ w' := fun w' hw => by
      have := g4 w' hw m (Nat.le_refl _)
      rwa [← g2, List.take_length] at this
    have hzs : rz.cells.size = sz := by rw [← h1, ← Array.length_toList]; exact ((absV_sound σ ρ i3).cells hs).length.symm
    have hby : it.bytes ≤ 100000 := by rw [← bytesOf_spec i1]; exact h2
    refine s_append_core (p := p) (ap := fun rx => Builtin.append_ #[t, u] o.type #[rx, a.eval y]) (e := e) (rz := rz) hs hH hzs (by omega) hx' news g1 g2
      (fun base l cap w' hr hst hn => run_append_room hu hsz hdu hni g3 (hfc w rfl) hr hst hn)
      (fun base l cap olds ho hc hm hl => run_append_new hu i1 j2 i2 hzs (by omega) hby hdu hni g3 hfc ho hc hm hl) (fun r w' hr => ?_) hd
    rw [exec_builtin ho hb, args_two ha, types_two ht]
    exact run_v hr
  · cases hd
/-- 'append(x, make([]T, n)...)' -/
theorem run_appendz_room {sT xT ty e : TypeId} {sz m l cap : Nat} {base : Option Addr} {j k0 : IntKind} {rz : Value} {w' : World} {ie : TypeInfo} (hu : p.underlying sT = some (.slice e)) (hie : p.info? e = some ie) (hsz : ie.size = sz) (hz0 : ie.zero = some rz) (hz1 : rz.cells.size = sz) (hpos : 0 < sz) (hby : ie.bytes ≤ 100000) (hx : p.underlying xT = some (.int k0)) (hm : m ≤ 1000000000)
    (hroom : l + m ≤ cap)
    (hst : ∀ x, base = some x → (storeCells (x.add (l * sz)) (List.replicate m rz.cells.toList).flatten).run p w = .ok () w') (hn : base = none → w' = w) :
    (Builtin.append_ #[sT, xT] ty #[.slice base l cap, .int j m]).run p w = .ok (.slice base (l + m) cap) w' := by
  have hsz' : (sizeOf e).run p w = .ok sz w := run_size (by simp [szOf, hie, hsz])
  have hti : ∀ w, (typeInfo e).run p w = .ok ie w := fun w => by simp [typeInfo, program, Sem.run_bind, Sem.run, hie]
  have hzv : ∀ w, (zeroValue e).run p w = .ok rz w := fun w => by simp [zeroValue, Sem.run_bind, hti, hz0]
  have hzc : (Builtin.zeroCells rz.cells m).toList = (List.replicate m rz.cells.toList).flatten := range_map_arr rz.cells (by omega) _
  have hw : IntKind.i64.wrap (m : Int) = m := by rw [IntKind.wrap_i64]; omega
  have hb : ¬ (281474976710656 < (m : Int) * ie.bytes) := by
    have : m * ie.bytes ≤ 1000000000 * 100000 := Nat.mul_le_mul hm hby
    have h2 : ((m : Int) * ie.bytes) = ((m * ie.bytes : Nat) : Int) := by simp
    rw [h2]
    omega
  have hneg : ¬ ((m : Int) < 0) := by omega
  have hzc' : Builtin.zeroCells rz.cells m = ⟨(List.replicate m rz.cells.toList).flatten⟩ := by apply Array.ext'; exact hzc
  by_cases h0 : m = 0
  · subst h0
    simp only [List.replicate_zero, List.flatten_nil] at hst
    cases base with
    | none =>
      rw [hn rfl]
      simp only [Builtin.append_, List.getElem?_toArray, List.getElem?_cons_zero, List.getElem?_cons_succ]
      simp at hw hroom
      simp [Sem.run_bind, run_und hu, run_und hx, hsz', asInt, asIntOf, hw, hti, hroom]
    | some x =>
      simp only [Builtin.append_, List.getElem?_toArray, List.getElem?_cons_zero, List.getElem?_cons_succ]
      simp at hw hroom
      simp [Sem.run_bind, run_und hu, run_und hx, hsz', asInt, asIntOf, hw, hti, hroom, hst x rfl]
  · have h0' : ¬ (m * sz = 0) := by
      intro e
      rcases Nat.mul_eq_zero.1 e with h | h <;> omega
    have h0'' : ¬ (m = 0 ∨ sz = 0) := by omega
    cases base with
    | none =>
      rw [hn rfl]
      simp only [Builtin.append_, List.getElem?_toArray, List.getElem?_cons_zero, List.getElem?_cons_succ]
      simp [Sem.run_bind, run_und hu, run_und hx, hsz', asInt, asIntOf, hw, hneg, hti, hb, hroom, h0', h0'', hzv]
    | some x =>
      simp only [Builtin.append_, List.getElem?_toArray, List.getElem?_cons_zero, List.getElem?_cons_succ]
      simp [Sem.run_bind, run_und hu, run_und hx, hsz', asInt, asIntOf, hw, hneg, hti, hb, hroom, h0', h0'', hzv, hzc', hst x rfl]
theorem run_appendz_new {sT xT ty e : TypeId} {sz m l cap : Nat} {base : Option Addr} {j k0 : IntKind} {rz : Value} {olds : List Value} {ie : TypeInfo} (hu : p.underlying sT = some (.slice e)) (hie : p.info? e = some ie) (hsz : ie.size = sz) (hz0 : ie.zero = some rz) (hz1 : rz.cells.size = sz) (hpos : 0 < sz) (hby : ie.bytes ≤ 100000) (hx : p.underlying xT = some (.int k0)) (hm : m ≤ 1000000000)
    (ho : ∀ w', w'.heap = w.heap → (Builtin.firstCells sz l (.slice base l cap)).run p w' = .ok ⟨olds⟩ w') (hroom : cap < l + m) (hmost : l + m ≤ 1000000000) :
    ∃ k, l + m ≤ k ∧ (Builtin.append_ #[sT, xT] ty #[.slice base l cap, .int j m]).run p w = .ok (.slice (some ⟨w.heap.size, 0, none⟩) (l + m) k) (w.drew.alloc (.cells ⟨(olds ++ (List.replicate m rz.cells.toList).flatten) ++ (List.replicate (k - (l + m)) rz.cells.toList).flatten⟩ e)) := by
  have hfc : (Question.appendCap (l + m) cap e).forced = false := rfl
  have hsz' : (sizeOf e).run p w = .ok sz w := run_size (by simp [szOf, hie, hsz])
  have hti : ∀ w, (typeInfo e).run p w = .ok ie w := fun w => by simp [typeInfo, program, Sem.run_bind, Sem.run, hie]
  have hzv : ∀ w, (zeroValue e).run p w = .ok rz w := fun w => by simp [zeroValue, Sem.run_bind, hti, hz0]
  have hw : IntKind.i64.wrap (m : Int) = m := by rw [IntKind.wrap_i64]; omega
  have hb : ¬ (281474976710656 < (m : Int) * ie.bytes) := by
    have : m * ie.bytes ≤ 1000000000 * 100000 := Nat.mul_le_mul hm hby
    have h2 : ((m : Int) * ie.bytes) = ((m * ie.bytes : Nat) : Int) := by simp
    rw [h2]
    omega
  have hneg : ¬ ((m : Int) < 0) := by omega
  have hnc := nextslicecap_le hroom
  have hbig : ¬ (281474976710656 < Builtin.nextslicecap (l + m) cap * ie.bytes) := by
    have : Builtin.nextslicecap (l + m) cap * ie.bytes ≤ (2 * (l + m) + 768) * 100000 := Nat.mul_le_mul hnc hby
    omega
  have hmax : ¬ (9223372036854775807 < (l : Int) + (m : Int)) := by omega
  refine ⟨Question.cut (.appendCap (l + m) cap e) (w.tape w.drawn (.appendCap (l + m) cap e)), by simp [Question.cut], ?_⟩
  generalize hk : Question.cut (.appendCap (l + m) cap e) (w.tape w.drawn (.appendCap (l + m) cap e)) = k
  have hzc' : ∀ q, Builtin.zeroCells rz.cells q = ⟨(List.replicate q rz.cells.toList).flatten⟩ := fun q => by apply Array.ext'; exact range_map_arr rz.cells (by omega) _
  have ho' := ho w.drew rfl
  simp only [Builtin.append_, List.getElem?_toArray, List.getElem?_cons_zero, List.getElem?_cons_succ]
  have hroom' : ¬ (l + m ≤ cap) := by omega
  by_cases h0 : m = 0
  · subst h0
    have a1 : ¬ (l ≤ cap) := by omega
    have a2 : ¬ (9223372036854775807 < (l : Int)) := by omega
    have a3 : ¬ (281474976710656 < Builtin.nextslicecap l cap * ie.bytes) := by simpa using hbig
    simp at hw ho' hk hfc
    simp [Sem.run_bind, run_und hu, run_und hx, hsz', asInt, asIntOf, hw, hti, a1, hzv, hfc, hk, askRoom_run, a2, a3, ho', hzc', newRow]
  · have h0' : ¬ (m * sz = 0) := by
      intro e
      rcases Nat.mul_eq_zero.1 e with h | h <;> omega
    have h0'' : ¬ (m = 0 ∨ sz = 0) := by omega
    simp [Sem.run_bind, run_und hu, run_und hx, hsz', asInt, asIntOf, hw, hneg, hb, hti, hroom', h0', h0'', hzv, hfc, hk, askRoom_run, hmax, hbig, ho', hzc', newRow]
theorem s_appendz {c : Call} {x y : Operand} {t u e : TypeId} {x' y' : Opd} {sz : Nat} {k0 : IntKind} {z : List V} (hs : SgOk σ) (ho : o.op = .call c) (hb : c.callee = .builtin .append) (ha : c.args.toList = [x, y]) (ht : c.argTypes.toList = [t, u])
    (hu : p.underlying t = some (.slice e)) (hdu : p.underlying u = some (.int k0)) (hsz : szOf p e = some sz) (hz : absZ p e = some z) (h0 : sz ≠ 0) (h1 : z.length = sz) (h2 : p.bytesOf e ≤ 100000)
    (hx : cOpd x = some x') (hy : cOpd y = some y') (hF : FR σ ρ F a) (hH : HR σ ρ H w) (hd : doX (.appendz z x' y') F H = some (v, H')) : Gives p σ (execOp a.eval o) ρ H w v H' := by
  obtain ⟨uz, it, rz, i1, i2, i3, rfl⟩ := absZ_spec hz
  obtain ⟨it', j1, j2⟩ := szOf_spec hsz
  rw [i1] at j1; cases j1
  have hx' := cOpd_sound hF hx
  have hy' := cOpd_sound hF hy
  simp only [doX] at hd
  split at hd
  · rename_i k m e1
    rw [e1] at hy'
    obtain ⟨hm, hd'⟩ := bif_some hd
    clear hd
    simp only [ble_iff, decide_eq_true_eq] at hm
    have hzr := (absV_sound σ ρ i3).cells hs
    have hzs : rz.cells.size = sz := by rw [← h1, ← Array.length_toList]; exact hzr.length.symm
    have hby : it.bytes ≤ 100000 := by rw [← bytesOf_spec i1]; exact h2
    rw [h1] at hd'
    refine s_append_core (p := p) (ap := fun rx => Builtin.append_ #[t, u] o.type #[rx, .int k m]) (e := e) (rz := rz) hs hH hzs (by omega) hx' (List.replicate m rz.cells.toList).flatten (hzr.flatten m) (by rw [flatten_replicate_length, Array.length_toList, hzs])
      (fun base l cap w' hr hst hn => run_appendz_room hu i1 j2 i2 hzs (by omega) hby hdu hm hr hst hn)
      (fun base l cap olds ho hc hmo hl => run_appendz_new hu i1 j2 i2 hzs (by omega) hby hdu hm ho hc hmo) (fun r w' hr => ?_) hd'
    rw [exec_builtin ho hb, args_two ha, types_two ht, hy'.int_inv]
    exact run_v hr
  · cases hd
end
end Go.Proofs.YtafignheedbnbaaGreatDoor.X
namespace Go.Proofs.YtafignheedbnbaaGreatDoor.X
open Go
set_option linter.unusedVariables false
set_option linter.unusedSimpArgs false
section
variable {p : Program} {σ : Sg} {ρ : Ren} {F : Fr} {H H' : Hp} {a : Act} {w : World} {v : V} {xo : XO} {o : Oper}

theorem s_copy {c : Call} {x y : Operand} {t u e : TypeId} {x' y' : Opd} {sz : Nat} (hs : SgOk σ) (ho : o.op = .call c) (hb : c.callee = .builtin .copy) (ha : c.args.toList = [x, y]) (ht : c.argTypes.toList = [t, u])
    (hu : p.underlying t = some (.slice e)) (hsz : szOf p e = some sz)
    (hx : cOpd x = some x') (hy : cOpd y = some y') (hF : FR σ ρ F a) (hH : HR σ ρ H w) (hd : doX (.copy sz x' y') F H = some (v, H')) : Gives p σ (execOp a.eval o) ρ H w v H' := by
  have hx' := cOpd_sound hF hx
  have hy' := cOpd_sound hF hy
  have hex : ∀ r w', (Builtin.copy_ #[t, u] o.type #[a.eval x, a.eval y]).run p w = .ok r w' → (execOp a.eval o).run p w = .ok (.value r) w' := fun r w' hr => by
    rw [exec_builtin ho hb, args_two ha, types_two ht]
    exact run_v hr
  simp only [doX, copyX] at hd
  split at hd
  · rename_i sz0 l0 c0 vs m e0 e1 e2
    rw [e0] at hx'
    obtain ⟨news, g1, g2, g3, g4⟩ := appended_sound (p := p) hH hy' e1 e2
    generalize hax : a.eval x = ax at hx'
    cases hx' with
    | slcN =>
      simp at hd; obtain ⟨rfl, rfl⟩ := hd
      refine .same hH (x := .int .i64 0) (hex _ _ ?_) (.int _ _)
      have := g4 w rfl 0 (Nat.zero_le _)
      simp at this
      simp [Builtin.copy_, Sem.run_bind, run_und hu, run_size hsz, g3, hax, this, goInt, show Nat.min m 0 = 0 from Nat.min_zero m]
  · rename_i b i szx l c0 vs m e0 e1 e2
    rw [e0] at hx'
    obtain ⟨news, g1, g2, g3, g4⟩ := appended_sound (p := p) hH hy' e1 e2
    split at hd
    · rename_i H1 hst
      simp at hd; obtain ⟨rfl, rfl⟩ := hd
      have hmin : Nat.min m l ≤ m := Nat.min_le_left _ _
      have hfc := g4 w rfl (Nat.min m l) hmin
      have key : ∀ (rb : RB) (xa : Addr) (cap : Nat), ρ b = some rb → a.eval x = .slice (some xa) l cap → (l = 0 ∨ xa = ⟨rb.r, rb.b + i, none⟩) → Gives p σ (execOp a.eval o) ρ H w (.int .i64 (Nat.min m l : Nat)) H1 := by
        intro rb xa cap hrb hax hxa
        obtain ⟨k1, k2, k3, k4, k5⟩ := hH.storen hs hst hrb (g1.take _)
        have hst' : (storeCells xa (news.take (Nat.min m l * sz))).run p w = .ok () (w.setCells rb.r (rb.b + i) (news.take (Nat.min m l * sz))) := by
          rcases hxa with rfl | rfl
          · simp [storeCells, World.setCells]
          · have := run_storeCells_cells (P := p) rb.r (rb.b + i) (news.take (Nat.min m l * sz)) 0 w (by simpa using k1) (by simpa using k2) k3
            simpa using this
        refine ⟨.int .i64 (Nat.min m l : Nat), _, ρ, .inl (hex _ _ ?_), .int _ _, k4, k5⟩
        simp [Builtin.copy_, Sem.run_bind, run_und hu, run_size hsz, g3, hax, hfc, hst', goInt]
      generalize hax : a.eval x = ax at hx'
      cases hx' with
      | slc hrb hl hcc hn => exact key _ _ _ hrb hax (.inr rfl)
      | slc0 hrb hcc => exact key _ _ _ hrb hax (.inl rfl)
    · cases hd
  · cases hd
theorem s_len {c : Call} {x : Operand} {t : TypeId} {x' : Opd} {k : Nat} (ho : o.op = .call c) (hb : c.callee = .builtin .len) (ha : c.args.toList = [x]) (ht : c.argTypes.toList = [t]) (h0 : k = 0 → p.underlying t = some .string) (h1 : k = 1 → ∃ e, p.underlying t = some (.slice e)) (h2 : k = 2 → ∃ q e, p.underlying t = some (.map q e))
    (hx : cOpd x = some x') (hF : FR σ ρ F a) (hH : HR σ ρ H w) (hd : doX (.len k x') F H = some (v, H')) : GivesQ p σ (execOp a.eval o) ρ H w v H' := by
  have hx' := cOpd_sound hF hx
  have hex : ∀ r, (Builtin.len_ #[t] o.type #[a.eval x]).run p w = .ok r w → (execOp a.eval o).run p w = .ok (.value r) w := fun r hr => by
    rw [exec_builtin ho hb, args_one ha, types_one ht]
    exact run_v hr
  simp only [doX] at hd
  split at hd
  · rename_i ad sz l c0 e
    rw [e] at hx'
    simp at hd; obtain ⟨rfl, rfl⟩ := hd
    obtain ⟨el, hu⟩ := h1 rfl
    generalize hax : a.eval x = ax at hx'
    have key : ∀ (ra : Option Addr) (cap : Nat), ax = .slice ra l cap → GivesQ p σ (execOp a.eval o) ρ H w (.int .i64 (l : Nat)) H := fun ra cap hr => by
      refine .same hH (x := .int .i64 l) (hex _ ?_) (.int _ _)
      rw [hax, hr]
      simp [Builtin.len_, Sem.run_bind, run_und hu, goInt]
    cases hx' with
    | slcN => exact key _ _ rfl
    | slc hb hl hcc hn => exact key _ _ rfl
    | slc0 hb hcc => exact key _ _ rfl
  · rename_i l n e
    rw [e] at hx'
    simp at hd; obtain ⟨rfl, rfl⟩ := hd
    obtain ⟨s, hax, rfl, rfl⟩ := hx'.str_inv
    refine .same hH (x := .int .i64 s.size) (hex _ ?_) (.int _ _)
    rw [hax]
    simp [Builtin.len_, Sem.run_bind, run_und (h0 rfl), goInt]
  · rename_i e
    rw [e] at hx'
    obtain ⟨q, el, hu⟩ := h2 rfl
    simp only [Option.some.injEq, Prod.mk.injEq] at hd; obtain ⟨rfl, rfl⟩ := hd
    generalize hax : a.eval x = ax at hx'
    cases hx'
    refine .same hH (x := .int .i64 (Int.ofNat 0)) (hex _ ?_) (.int _ _)
    rw [hax]
    simp [Builtin.len_, Sem.run_bind, run_und hu, goInt]
  · rename_i r e
    rw [e] at hx'
    obtain ⟨q, el, hu⟩ := h2 rfl
    split at hd
    · rename_i es cl hr
      simp only [Option.some.injEq, Prod.mk.injEq] at hd; obtain ⟨rfl, rfl⟩ := hd
      generalize hax : a.eval x = ax at hx'
      cases hx' with
      | map hb' =>
        rename_i rb
        obtain ⟨b2, hb2, es', g1, g2, g3, g4⟩ := hH.blk r _ hr
        rw [hb'] at hb2; cases hb2
        have hl : es.length = es'.size := by have := g2.length; simpa using this
        refine .same hH (x := .int .i64 (Int.ofNat es.length)) (hex _ ?_) (.int _ _)
        rw [hax]
        simp [Builtin.len_, Sem.run_bind, run_und hu, goInt, getObj, Sem.run, g1, hl]
    · cases hd
  · cases hd
theorem s_toInt {src dst : TypeId} {x : Operand} {x' : Opd} {j k : IntKind} (ho : o.op = .convert src dst x) (h1 : p.underlying src = some (.int j)) (h2 : p.underlying dst = some (.int k)) (hx : cOpd x = some x') (hF : FR σ ρ F a) (hH : HR σ ρ H w) (hd : doX (.toInt k x') F H = some (v, H')) : GivesQ p σ (execOp a.eval o) ρ H w v H' := by
  have hx' := cOpd_sound hF hx
  simp only [doX] at hd
  split at hd
  · rename_i k' n e
    rw [e] at hx'
    simp at hd; obtain ⟨rfl, rfl⟩ := hd
    rw [wrapI_spec]
    refine .same hH (x := .int k (k.wrap n)) ?_ (.int _ _)
    simp only [execOp, ho, hx'.int_inv]
    refine run_v ?_
    simp [convert, Sem.run_bind, run_und h1, run_und h2, Conv.intToInt]
  · cases hd
theorem s_same {src dst : TypeId} {x : Operand} {x' : Opd} (ho : o.op = .convert src dst x) (h1 : p.underlying src = some .string) (h2 : p.underlying dst = some .string) (hx : cOpd x = some x') (hF : FR σ ρ F a) (hH : HR σ ρ H w) (hd : doX (.same x') F H = some (v, H')) : GivesQ p σ (execOp a.eval o) ρ H w v H' := by
  have hx' := cOpd_sound hF hx
  simp only [doX] at hd
  split at hd
  · rename_i l n e
    rw [e] at hx'
    simp at hd; obtain ⟨rfl, rfl⟩ := hd
    obtain ⟨s, hax, rfl, rfl⟩ := hx'.str_inv
    refine .same hH (x := .string s) ?_ (.str s)
    simp only [execOp, ho, hax]
    refine run_v ?_
    simp [convert, Sem.run_bind, run_und h1, run_und h2]
  · cases hd
theorem s_mkmap {t : TypeId} {r : Option Operand} (ho : o.op = .makeMap t r) (hr : r = none ∨ (∃ j n k e, r = some (.const (.int j n)) ∧ p.underlying t = some (.map k e))) (hH : HR σ ρ H w) (hd : doX .mkmap F H = some (v, H')) : Gives p σ (execOp a.eval o) ρ H w v H' := by
  simp [doX] at hd
  obtain ⟨rfl, rfl⟩ := hd
  obtain ⟨g1, g2⟩ := hH.new (.map #[] 0) (.map [] 0) 0 ⟨#[], by simp, .nil, .nil, rfl⟩
  refine ⟨.map (some w.heap.size), _, _, .inl ?_, .map (b := ⟨w.heap.size, 0, 0⟩) (Ren.add_same _ _ _), g1, g2⟩
  simp only [execOp, ho]
  refine run_v ?_
  rcases hr with rfl | ⟨j, n, k, e, rfl, hu⟩
  · simp [Instr.makeMap, newObj, Sem.run_bind, Sem.run]
  · simp [Instr.makeMap, newObj, Sem.run_bind, run_und hu, asInt, asIntOf, Act.eval, Sem.run]
theorem s_mkslice {t e : TypeId} {l c : Operand} {l' c' : Opd} {sz : Nat} {z : List V} (hs : SgOk σ) (ho : o.op = .makeSlice t l c) (hu : p.underlying t = some (.slice e)) (hsz : szOf p e = some sz) (hz : absZ p e = some z) (h0 : sz ≠ 0) (h1 : z.length = sz) (h2 : p.bytesOf e ≤ 100000)
    (hl : cOpd l = some l') (hc : cOpd c = some c') (hF : FR σ ρ F a) (hH : HR σ ρ H w) (hd : doX (.mkslice z l' c') F H = some (v, H')) : Gives p σ (execOp a.eval o) ρ H w v H' := by
  obtain ⟨uz, it, rz, i1, i2, i3, rfl⟩ := absZ_spec hz
  obtain ⟨it', j1, j2⟩ := szOf_spec hsz
  rw [i1] at j1; cases j1
  have hl' := cOpd_sound hF hl
  have hc' := cOpd_sound hF hc
  simp only [doX] at hd
  split at hd
  · rename_i k m k2 n e1 e2
    rw [e1] at hl'; rw [e2] at hc'
    obtain ⟨q0, hd'⟩ := bif_some hd
    clear hd
    simp only [Bool.and_eq_true, ble_iff, decide_eq_true_eq] at q0
    unfold most at q0
    simp at hd'; obtain ⟨rfl, rfl⟩ := hd'
    have hzr := (absV_sound σ ρ i3).cells hs
    have hzs : rz.cells.size = sz := by rw [← h1, ← Array.length_toList]; exact hzr.length.symm
    have hby : it.bytes ≤ 100000 := by rw [← bytesOf_spec i1]; exact h2
    have hbb : (it.bytes : Int) * (n : Int) ≤ 281474976710656 := by
      have : it.bytes * n ≤ 100000 * 1000000000 := Nat.mul_le_mul hby q0.2
      have h3 : ((it.bytes : Int) * n) = ((it.bytes * n : Nat) : Int) := by simp
      rw [h3]; omega
    have hr := run_make (P := p) w t e it rz hu i1 i2 k k2 m n (by omega) (by omega) hbb (by omega)
    have hcells : madeCells rz.cells (n * it.size) = ⟨(List.replicate n rz.cells.toList).flatten⟩ := by
      apply Array.ext'
      have := range_map_arr rz.cells (by omega) n
      rw [hzs] at this
      rw [j2]
      simp only [madeCells, hzs]
      exact this
    simp only [Int.toNat_natCast] at hr
    rw [hcells] at hr
    have hlen : (List.replicate n uz.cells).flatten.length = n * sz := by rw [flatten_replicate_length, h1]
    have hvs := hzr.flatten n
    refine Gives.row (pl := Nat.ble 1 n) (cs := ⟨(List.replicate n rz.cells.toList).flatten⟩) (e := e) hH hvs (fun hp => ?_) (x := .slice (some ⟨w.heap.size, 0, none⟩) m n) ?_ ?_
    · rw [ble_iff] at hp
      simp at hp
      rw [hlen]
      exact Nat.mul_pos (by omega) (by omega)
    · simp only [execOp, ho, hl'.int_inv, hc'.int_inv]
      exact run_v hr
    · rw [h1]
      have := VR.slc (σ := σ) (ρ := ρ.add H.next ⟨w.heap.size, 0, (List.replicate n uz.cells).flatten.length⟩) (p := H.next) (b := ⟨w.heap.size, 0, (List.replicate n uz.cells).flatten.length⟩) (i := 0) (sz := sz) (l := m) (cap := n) (c := some n) (Ren.add_same _ _ _) (by omega) (by simp) (by simp only [Nat.zero_add]; omega)
      simpa using this
  · cases hd
theorem s_bslice {t e : TypeId} {n : Nat} {ps : Array (Nat × Operand)} {qs : List (Nat × Nat × Opd)} {sz : Nat} {z : List V} (hs : SgOk σ) (ho : o.op = .buildSlice t n ps) (hu : p.underlying t = some (.slice e)) (hsz : szOf p e = some sz) (hz : absZ p e = some z) (h0 : sz ≠ 0) (h1 : z.length = sz) (h2 : n * sz ≤ 2 ^ 20)
    (hq : cParts p (fun i => some (i * sz, sz)) ps.toList = some qs) (hF : FR σ ρ F a) (hH : HR σ ρ H w) (hd : doX (.bslice sz (repeatV z n) n qs) F H = some (v, H')) : Gives p σ (execOp a.eval o) ρ H w v H' := by
  obtain ⟨uz, it, rz, i1, i2, i3, rfl⟩ := absZ_spec hz
  obtain ⟨it', j1, j2⟩ := szOf_spec hsz
  rw [i1] at j1; cases j1
  have hzr := (absV_sound σ ρ i3).cells hs
  have hzs : rz.cells.size = sz := by rw [← h1, ← Array.length_toList]; exact hzr.length.symm
  simp only [doX] at hd
  split at hd
  · rename_i cs hcs
    obtain ⟨q0, hd'⟩ := bif_some hd
    clear hd
    simp at hd'; obtain ⟨rfl, rfl⟩ := hd'
    have hzz : VRs σ ρ (repeatV uz.cells n) (⟨(List.replicate n rz.cells.toList).flatten⟩ : Array Value).toList := hzr.flatten n
    obtain ⟨rc, hrc, hv⟩ := fillP_sound hs hF hq hcs hzz
    have hfl : ∀ (l : List (Nat × Opd)), True := fun _ => trivial
    have hlen : cs.length = n * sz := by
      have key : ∀ (l : List (Nat × Nat × Opd)) (c c' : List V), fillP (ev F) l c = some c' → c'.length = c.length := by
        intro l
        induction l with
        | nil => intro c c' h; simp [fillP] at h; rw [h]
        | cons x l ih =>
          intro c c' h
          obtain ⟨off, s, y⟩ := x
          simp only [fillP] at h
          obtain ⟨g0, h⟩ := bif_some h
          simp only [Bool.and_eq_true, beq_iff, ble_iff, decide_eq_true_eq] at g0
          have e : Nat.add off s = off + s := rfl
          rw [e] at g0
          rw [ih _ _ h]
          simp; omega
      rw [key _ _ _ hcs]
      unfold repeatV
      rw [flatten_replicate_length, h1]
    have hrun : (Instr.buildSlice t n (ps.map fun (i, x) => (i, a.eval x))).run p w = .ok (.slice (some ⟨w.heap.size, 0, none⟩) n n) { w with heap := w.heap.push (.cells rc e) } := by
      by_cases hn : n * it.size = 0
      · have hn0 : n = 0 := by rcases Nat.mul_eq_zero.1 hn with h | h <;> omega
        subst hn0
        have hrc0 : Instr.fill (fun i => some (i * it.size, it.size)) #[] (ps.toList.map fun (i, x) => (i, a.eval x)) = some rc := by rw [j2]; simpa using hrc
        simp [Instr.buildSlice, run_underlying hu, sizeOf, typeInfo, i1, newRow, hrc0, Array.range_zero']
      · have hcc : ((Array.range (n * it.size)).map (rz.cells[· % rz.cells.size]!)) = ⟨(List.replicate n rz.cells.toList).flatten⟩ := by
          apply Array.ext'
          have := range_map_arr rz.cells (by omega) n
          rw [hzs] at this
          rw [j2]
          simp only [hzs]
          exact this
        have hsm : ¬ n * it.size > 2 ^ 24 := by
          have e1 : (2:Nat)^24 = 16777216 := by decide
          have e2 : (2:Nat)^20 = 1048576 := by decide
          rw [j2]; omega
        have := run_buildSlice (P := p) w t e n (ps.map fun (i, x) => (i, a.eval x)) rc it rz hu i1 i2 hsm hn (by rw [hcc, ← hrc, j2]; simp)
        exact this
    refine Gives.row (pl := Nat.ble 1 cs.length) (cs := rc) (e := e) hH hv (fun hp => by rw [ble_iff] at hp; simp at hp; omega) (x := .slice (some ⟨w.heap.size, 0, none⟩) n n) ?_ ?_
    · simp only [execOp, ho]
      exact run_v hrun
    · have := VR.slc (σ := σ) (ρ := ρ.add H.next ⟨w.heap.size, 0, cs.length⟩) (p := H.next) (b := ⟨w.heap.size, 0, cs.length⟩) (i := 0) (sz := sz) (l := n) (cap := n) (c := some n) (Ren.add_same _ _ _) (by omega) (by simp) (by simp; omega)
      simpa using this
  · cases hd
end
end Go.Proofs.YtafignheedbnbaaGreatDoor.X
