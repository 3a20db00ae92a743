/- A verified executor, part XOpsH: laws of the executor; no condition. -/
import Derived.Test.YtfhjamimbgdfpaaGreatXKeys
import Derived.Test.YtfhjamimbgdfpaaGreatXEq
namespace Go.Proofs.YtfhjamimbgdfpaaGreat.X
open Go
set_option linter.unusedVariables false
set_option linter.unusedSimpArgs false
section
variable {p : Program} {σ : Sg} {ρ : Ren} {F : Fr} {H H' : Hp} {a : Act} {w : World} {v : V} {xo : XO} {o : Oper}

theorem sameV_eq {v u : V} (h : sameV v u = true) : v = u := by
  have flat : ∀ a b : V, flatEq a b = true → a = b := by
    intro a b h
    unfold flatEq at h
    split at h <;> simp_all [beq_iff, eqI_spec]
  have flats : ∀ a b : List V, flatEqs a b = true → a = b := by
    intro a
    induction a with
    | nil => intro b h; cases b <;> simp_all [flatEqs]
    | cons x r ih => intro b h; cases b with
      | nil => simp [flatEqs] at h
      | cons y s => simp [flatEqs] at h; rw [flat _ _ h.1, ih _ h.2]
  unfold sameV at h
  split at h
  · rw [flats _ _ h]
  · exact flat _ _ h

/-- one key against another -/
theorem eqV_now {q : EqK} {t : TypeId} {d : TypeDesc} {x y : V} {rx ry : Value} {b : Bool} (hq : (q = .bool ∧ d = .bool) ∨ (q = .int ∧ ∃ k, d = .int k) ∨ (q = .str ∧ d = .string)) (he : eqV H q x y = some b) (hx : VR σ ρ x rx) (hy : VR σ ρ y ry) :
    Instr.sameNow d rx ry = some b ∧ (b = true → Instr.sameBits 10000 ry rx = true) := by
  rcases hq with ⟨rfl, rfl⟩ | ⟨rfl, k, rfl⟩ | ⟨rfl, rfl⟩ <;> simp only [eqV] at he
  · unfold eqB at he
    split at he
    · simp at he; subst he
      rw [hx.bool_inv, hy.bool_inv]
      exact ⟨rfl, fun h => by simp at h; subst h; simp [Instr.sameBits]⟩
    · cases he
  · unfold eqN at he
    split at he
    · obtain ⟨h0, he'⟩ := bif_some he
      clear he
      simp at h0 he'; subst h0
      rw [hx.int_inv, hy.int_inv]
      rw [eqI_spec] at he'
      exact ⟨by simp [Instr.sameNow, he'], fun h => by subst h; simp at he'; subst he'; simp [Instr.sameBits]⟩
    · cases he
  · unfold eqT at he
    split at he
    · obtain ⟨s1, q1, rfl, rfl⟩ := hx.str_inv
      obtain ⟨s2, q2, rfl, rfl⟩ := hy.str_inv
      simp only [Option.some.injEq] at he
      rw [str_eq, ← beq_toListBytes] at he
      rw [q1, q2]
      refine ⟨by simp [Instr.sameNow, he], fun h => ?_⟩
      subst h
      rw [beq_toListBytes] at he
      simp only [Instr.sameBits]
      rw [beq_toListBytes]
      simp at he ⊢
      exact he.symm
    · cases he
theorem findK_sound {q : EqK} {d : TypeDesc} {key : V} {rk : Value} (hq : (q = .bool ∧ d = .bool) ∨ (q = .int ∧ ∃ k, d = .int k) ∨ (q = .str ∧ d = .string)) (hk : VR σ ρ key rk) : ∀ (es : List (V × V × Nat)) (rs : List MapEntry) (i : Nat) (r : Option (Nat × V × Nat)),
    VRs σ ρ (es.map (·.1)) (rs.map (·.key)) → VRs σ ρ (es.map (·.2.1)) (rs.map (·.val)) → es.map (·.2.2) = rs.map (·.born) → findK H q key es i = some r →
    (r = none ∧ Instr.findNow d rk rs i = some none) ∨ (∃ j u b rv, r = some (j, u, b) ∧ Instr.findNow d rk rs i = some (some (j, rv)) ∧ VR σ ρ u rv ∧ i ≤ j ∧ j - i < es.length ∧ (∃ e, rs[j - i]? = some e ∧ Instr.sameBits 10000 e.key rk = true ∧ e.born = b))
  | [], rs, i, r, h1, h2, h3, h => by
    cases rs with
    | nil => simp [findK] at h; subst h; exact .inl ⟨rfl, rfl⟩
    | cons e rs => simp at h3
  | (k, u, b) :: es, rs, i, r, h1, h2, h3, h => by
    cases rs with
    | nil => simp at h3
    | cons e rs =>
      simp only [List.map_cons] at h1 h2 h3
      cases h1 with
      | cons g1 g2 =>
        cases h2 with
        | cons g3 g4 =>
          simp only [List.cons.injEq] at h3
          unfold findK at h
          split at h
          · rename_i he
            simp at h; subst h
            obtain ⟨z1, z2⟩ := eqV_now (t := 0) hq he hk g1
            exact .inr ⟨i, u, b, e.val, rfl, by simp [Instr.findNow, z1], g3, Nat.le_refl _, by simp, e, by simp, z2 rfl, h3.1.symm⟩
          · rename_i he
            obtain ⟨z1, -⟩ := eqV_now (t := 0) hq he hk g1
            rcases findK_sound hq hk es rs (i + 1) r g2 g4 h3.2 h with ⟨rfl, hn⟩ | ⟨j, u', b', rv, rfl, hn, hv, hle, hlt, e', he', hs, hb⟩
            · exact .inl ⟨rfl, by simp [Instr.findNow, z1, hn]⟩
            · refine .inr ⟨j, u', b', rv, rfl, by simp [Instr.findNow, z1, hn], hv, by omega, by simp; omega, e', ?_, hs, hb⟩
              rw [show j - i = (j - (i + 1)) + 1 from by omega]
              simpa using he'
          · cases h
theorem checkKey_run {t : TypeId} {d : TypeDesc} {rk : Value} {em : Bool} (hu : p.underlying t = some d) (hd : d = .bool ∨ (∃ k, d = .int k) ∨ d = .string) : (Instr.checkKey em 10000 t rk).run p w = .ok () w := by
  show (Instr.checkKey em (9999 + 1) t rk).run p w = _
  unfold Instr.checkKey
  rcases hd with rfl | ⟨k, rfl⟩ | rfl <;> simp [Sem.run_bind, run_und hu]
theorem findKey_run {t : TypeId} {d : TypeDesc} {rk : Value} {rs : List MapEntry} {r : Option (Nat × Value)} (hu : p.underlying t = some d) (h : Instr.findNow d rk rs 0 = some r) : (Instr.findKey t rk rs).run p w = .ok r w := by
  unfold Instr.findKey
  simp [Sem.run_bind, run_und hu, h]
theorem findAsking_sound {t : TypeId} {q : EqK} {key : V} {rk : Value} (hH : HR σ ρ H w) (hq : eqK p 20 t = some q) (hk : VR σ ρ key rk) : ∀ (es : List (V × V × Nat)) (rs : List MapEntry) (i : Nat) (r : Option (Nat × V × Nat)),
    VRs σ ρ (es.map (·.1)) (rs.map (·.key)) → VRs σ ρ (es.map (·.2.1)) (rs.map (·.val)) → es.map (·.2.2) = rs.map (·.born) → findK H q key es i = some r →
    (r = none ∧ (Instr.findAsking t rk rs i).run p w = .ok none w) ∨ (∃ j u b rv, r = some (j, u, b) ∧ (Instr.findAsking t rk rs i).run p w = .ok (some (j, rv)) w ∧ VR σ ρ u rv ∧ i ≤ j ∧ j - i < es.length ∧ (∃ e x, rs[j - i]? = some e ∧ es[j - i]? = some x ∧ VR σ ρ x.1 e.key ∧ e.born = b))
  | [], rs, i, r, h1, h2, h3, h => by
    cases rs with
    | nil => simp [findK] at h; subst h; exact .inl ⟨rfl, by simp [Instr.findAsking]⟩
    | cons e rs => simp at h3
  | (k, u, b) :: es, rs, i, r, h1, h2, h3, h => by
    cases rs with
    | nil => simp at h3
    | cons e rs =>
      simp only [List.map_cons] at h1 h2 h3
      cases h1 with
      | cons g1 g2 =>
        cases h2 with
        | cons g3 g4 =>
          simp only [List.cons.injEq] at h3
          unfold findK at h
          split at h
          · rename_i he
            simp at h; subst h
            have := eqV_sound hH 20 Op.maxDepth t q key k true rk e.key (by decide) hq he hk g1
            exact .inr ⟨i, u, b, e.val, rfl, by simp [Instr.findAsking, Op.equal, Sem.run_bind, this], g3, Nat.le_refl _, by simp, e, (k, u, b), by simp, by simp, g1, h3.1.symm⟩
          · rename_i he
            have := eqV_sound hH 20 Op.maxDepth t q key k false rk e.key (by decide) hq he hk g1
            rcases findAsking_sound hH hq hk es rs (i + 1) r g2 g4 h3.2 h with ⟨rfl, hn⟩ | ⟨j, u', b', rv, rfl, hn, hv, hle, hlt, e', x', he', hx', hs, hb⟩
            · exact .inl ⟨rfl, by simp [Instr.findAsking, Op.equal, Sem.run_bind, this, hn]⟩
            · refine .inr ⟨j, u', b', rv, rfl, by simp [Instr.findAsking, Op.equal, Sem.run_bind, this, hn], hv, by omega, by simp; omega, e', x', ?_, ?_, hs, hb⟩
              · rw [show j - i = (j - (i + 1)) + 1 from by omega]
                simpa using he'
              · rw [show j - i = (j - (i + 1)) + 1 from by omega]
                simpa using hx'
          · cases h
theorem find_any {t : TypeId} {q : EqK} {key : V} {rk : Value} (hH : HR σ ρ H w) (hq : eqK p 20 t = some q) (hkk : q.key = true) (hs : keyShape q key = true) (hk : VR σ ρ key rk) {es : List (V × V × Nat)} {rs : List MapEntry} {r : Option (Nat × V × Nat)}
    (h1 : VRs σ ρ (es.map (·.1)) (rs.map (·.key))) (h2 : VRs σ ρ (es.map (·.2.1)) (rs.map (·.val))) (h3 : es.map (·.2.2) = rs.map (·.born)) (h : findK H q key es 0 = some r) :
    (r = none ∧ (Instr.findKey t rk rs).run p w = .ok none w) ∨ (∃ j u b rv, r = some (j, u, b) ∧ (Instr.findKey t rk rs).run p w = .ok (some (j, rv)) w ∧ VR σ ρ u rv ∧ j < es.length ∧ (∃ e, rs[j]? = some e ∧ (keySame q key es j = true → Instr.sameBits 10000 e.key rk = true) ∧ e.born = b)) := by
  rcases agg_of_key hq hkk with h0 | ⟨fs, ps, hu, rfl, -, hps, -⟩
  · obtain ⟨d, hd, hqd, -⟩ : ∃ d, p.underlying t = some d ∧ ((q = .bool ∧ d = .bool) ∨ (q = .int ∧ ∃ k, d = .int k) ∨ (q = .str ∧ d = .string)) ∧ True := by
      rcases key0_spec hq h0 with ⟨rfl, hh⟩ | ⟨rfl, k, hh⟩ | ⟨rfl, hh⟩
      · exact ⟨_, hh, .inl ⟨rfl, rfl⟩, trivial⟩
      · exact ⟨_, hh, .inr (.inl ⟨rfl, k, rfl⟩), trivial⟩
      · exact ⟨_, hh, .inr (.inr ⟨rfl, rfl⟩), trivial⟩
    rcases findK_sound (H := H) hqd hk es rs 0 _ h1 h2 h3 h with ⟨e, hn⟩ | ⟨j, u, b, rv, e, hn, hv, -, hjl, e', he', hsb, hbn⟩
    · exact .inl ⟨e, findKey_run hd hn⟩
    · exact .inr ⟨j, u, b, rv, e, findKey_run hd hn, hv, by omega, e', by simpa using he', fun _ => hsb, hbn⟩
  · have hfk : rs ≠ [] → Instr.findKey t rk rs = Instr.findKey t rk rs := fun _ => rfl
    have hrun : ∀ x, (Instr.findAsking t rk rs 0).run p w = .ok x w → (Instr.findKey t rk rs).run p w = .ok x w := by
      intro x hx
      unfold Instr.findKey
      simp only [Sem.run_bind, run_und hu, Result.andThen_ok]
      cases rs with
      | nil =>
        simp [Instr.findAsking] at hx
        subst hx
        simp [Instr.findNow]
      | cons e rs => simpa [Instr.findNow, Instr.sameNow] using hx
    rcases findAsking_sound (p := p) (w := w) hH hq hk es rs 0 r h1 h2 h3 h with ⟨e, hn⟩ | ⟨j, u, b, rv, e, hn, hv, -, hjl, e', x', he', hx', hsk, hbn⟩
    · exact .inl ⟨e, hrun _ hn⟩
    · refine .inr ⟨j, u, b, rv, e, hrun _ hn, hv, by omega, e', by simpa using he', fun hsm => ?_, hbn⟩
      simp only [Nat.sub_zero] at hx'
      simp only [keySame, hx'] at hsm
      have hkx := sameV_eq hsm
      rw [← hkx] at hsk
      unfold keyShape at hs
      split at hs
      · simp only [Bool.and_eq_true] at hs
        cases hk with
        | agg a1 =>
          generalize e'.key = ek at hsk
          cases hsk with
          | agg a2 =>
            have l1 := a1.length
            have l2 := a2.length
            show Instr.sameBits (9999 + 1) _ _ = true
            simp only [Instr.sameBits, Bool.and_eq_true]
            exact ⟨by simp; omega, basics_same hs.2 a2 a1⟩
      · cases hs
      · rename_i z1 z2
        exact absurd rfl (z1 ps)
theorem key_cases {q : EqK} {t : TypeId} (h : (q = .bool ∧ p.underlying t = some .bool) ∨ (q = .int ∧ ∃ k, p.underlying t = some (.int k)) ∨ (q = .str ∧ p.underlying t = some .string)) :
    ∃ d, p.underlying t = some d ∧ ((q = .bool ∧ d = .bool) ∨ (q = .int ∧ ∃ k, d = .int k) ∨ (q = .str ∧ d = .string)) ∧ (d = .bool ∨ (∃ k, d = .int k) ∨ d = .string) := by
  rcases h with ⟨rfl, h⟩ | ⟨rfl, k, h⟩ | ⟨rfl, h⟩
  · exact ⟨_, h, .inl ⟨rfl, rfl⟩, .inl rfl⟩
  · exact ⟨_, h, .inr (.inl ⟨rfl, k, rfl⟩), .inr (.inl ⟨k, rfl⟩)⟩
  · exact ⟨_, h, .inr (.inr ⟨rfl, rfl⟩), .inr (.inr rfl)⟩
theorem s_lookup {t kt e : TypeId} {m key : Operand} {ok : Bool} {m' key' : Opd} {q : EqK} {z : V} (ho : o.op = .lookup t m key ok) (hu : p.underlying t = some (.map kt e)) (hq : eqK p 20 kt = some q) (hk : q.key = true) (hz : zeroOf p e = some z) (hm : cOpd m = some m') (hkey : cOpd key = some key') (hF : FR σ ρ F a) (hH : HR σ ρ H w)
    (hd : doX (.lookup z q m' key' ok) F H = some (v, H')) : GivesQ p σ (execOp a.eval o) ρ H w v H' := by
  have hm' := cOpd_sound hF hm
  have hk' := cOpd_sound hF hkey
  obtain ⟨rz, hrz, hvz⟩ := run_zero (σ := σ) (ρ := ρ) (w := w) hz
  have fin : ∀ (y : V) (ry : Value) (b : Bool), VR σ ρ y ry → some ((bif ok then V.tuple [y, .bool b] else y), H) = some (v, H') → (Instr.lookup t (a.eval m) (a.eval key) ok).run p w = .ok (if ok then .tuple #[ry, .bool b] else ry) w → GivesQ p σ (execOp a.eval o) ρ H w v H' := by
    intro y ry b hy he hr
    simp only [Option.some.injEq, Prod.mk.injEq] at he
    obtain ⟨rfl, rfl⟩ := he
    refine .same hH (x := if ok then .tuple #[ry, .bool b] else ry) ?_ ?_
    · simp only [execOp, ho]
      exact run_v hr
    · cases ok
      · exact hy
      · exact .tuple (.cons hy (.cons (.bool b) .nil))
  simp only [doX, cond_eq_ite] at hd
  split at hd
  · cases hd
  rename_i hks
  have hks : keyShape q (ev F key') = true := by simpa using hks
  have hfin : ∀ b : Bool, ∀ y : V, (if ok = true then V.tuple [y, .bool b] else y) = (bif ok then V.tuple [y, .bool b] else y) := fun b y => by cases ok <;> rfl
  simp only [hfin] at hd
  have hck : ∀ em, (Instr.checkKey em 10000 kt (a.eval key)).run p w = .ok () w := fun em => checkKey_any hq hk hks hk'
  split at hd
  · rename_i e1
    rw [e1] at hm'
    generalize hax : a.eval m = ax at hm'
    cases hm'
    refine fin z rz false hvz hd ?_
    rw [hax]
    rcases find_any (rs := []) (es := []) (r := none) hH hq hk hks hk' .nil .nil rfl rfl with ⟨-, hn⟩ | ⟨j, u', b', rv, h, -⟩
    · simp [Instr.lookup, Sem.run_bind, run_und hu, hck, hn, hrz]
    · cases h
  · rename_i r e1
    rw [e1] at hm'
    generalize hax : a.eval m = ax at hm'
    cases hm' with
    | map hb =>
      rename_i rb
      split at hd
      · rename_i es cl hr
        obtain ⟨b', hb', es', g1, g2, g3, g4⟩ := hH.blk r _ hr
        rw [hb] at hb'; cases hb'
        split at hd
        · rename_i i u bn hf
          rcases find_any hH hq hk hks hk' g2 g3 g4 hf with ⟨h, -⟩ | ⟨j, u', b', rv, h, hn, hv, -⟩
          · cases h
          · cases h
            refine fin u rv true hv hd ?_
            rw [hax]
            simp [Instr.lookup, Sem.run_bind, run_und hu, getObj, Sem.run, g1, hck, hn]
        · rename_i hf
          rcases find_any hH hq hk hks hk' g2 g3 g4 hf with ⟨-, hn⟩ | ⟨j, u', b', rv, h, -⟩
          · refine fin z rz false hvz hd ?_
            rw [hax]
            simp [Instr.lookup, Sem.run_bind, run_und hu, getObj, Sem.run, g1, hck, hn, hrz]
          · cases h
        · cases hd
      · cases hd
  · cases hd
theorem listSet_spec {α : Type} (x : α) : ∀ (i : Nat) (l : List α), listSet x i l = l.set i x
  | _, [] => by cases ‹Nat› <;> rfl
  | 0, _ :: _ => rfl
  | i + 1, y :: r => by simp [listSet, listSet_spec x i r]
theorem VRs.set {a : List V} {x : List Value} (h : VRs σ ρ a x) : ∀ (i : Nat) {u : V} {y : Value}, VR σ ρ u y → VRs σ ρ (a.set i u) (x.set i y) := by
  intro i
  induction i generalizing a x with
  | zero => intro u y hu; cases h with | nil => exact .nil | cons h t => exact .cons hu t
  | succ i ih => intro u y hu; cases h with | nil => exact .nil | cons h t => exact .cons h (ih t hu)
theorem map_modify {β : Type} (g : MapEntry → β) (f : MapEntry → MapEntry) (es : Array MapEntry) (i : Nat) {e : MapEntry} (h : MapEntry → β) (hg : ∀ y, g (f y) = h y) (he : es[i]? = some e) : (es.modify i f).toList.map g = (es.toList.map g).set i (h e) := by
  apply List.ext_getElem?
  intro n
  rw [List.getElem?_map, List.getElem?_set, Array.getElem?_toList, Array.getElem?_modify, List.getElem?_map, Array.getElem?_toList]
  by_cases hn : i = n
  · subst hn
    obtain ⟨hi, he'⟩ := Array.getElem?_eq_some_iff.1 he
    simp [he, hg, hi, he']
  · simp [hn]
theorem s_mapset {t kt e : TypeId} {m key x : Operand} {m' key' x' : Opd} {q : EqK} (ho : o.op = .mapUpdate t m key x ∨ o.op = .insert t m key x) (hu : p.underlying t = some (.map kt e)) (hq : eqK p 20 kt = some q) (hk : q.key = true) (hm : cOpd m = some m') (hkey : cOpd key = some key') (hx : cOpd x = some x') (hF : FR σ ρ F a) (hH : HR σ ρ H w)
    (hd : doX (.mapset q m' key' x') F H = some (v, H')) : Gives p σ (execOp a.eval o) ρ H w v H' := by
  have hm' := cOpd_sound hF hm
  have hk' := cOpd_sound hF hkey
  have hx' := cOpd_sound hF hx
  have hex : ∀ w', (Instr.mapUpdate t (a.eval m) (a.eval key) (a.eval x)).run p w = .ok () w' → (execOp a.eval o).run p w = .ok .skip w' := fun w' hr => by
    rcases ho with ho | ho <;> simp only [execOp, ho] <;> exact run_u hr
  simp only [doX, cond_eq_ite] at hd
  split at hd
  · cases hd
  rename_i hks
  have hks : keyShape q (ev F key') = true := by simpa using hks
  have hck : ∀ em, (Instr.checkKey em 10000 kt (a.eval key)).run p w = .ok () w := fun em => checkKey_any hq hk hks hk'
  split at hd
  · rename_i r e1
    rw [e1] at hm'
    generalize hax : a.eval m = ax at hm'
    cases hm' with
    | map hb =>
      rename_i rb
      split at hd
      · rename_i es cl hr
        obtain ⟨b', hb', es', g1, g2, g3, g4⟩ := hH.blk r _ hr
        rw [hb] at hb'; cases hb'
        have hlt : rb.r < w.heap.size := (Array.getElem?_eq_some_iff.1 g1).1
        have hel : es.length = es'.size := by have := g2.length; simpa using this
        split at hd
        · rename_i i u bn hf
          split at hd
          case isFalse => cases hd
          rename_i hsame
          simp only [Option.some.injEq, Prod.mk.injEq] at hd; obtain ⟨rfl, rfl⟩ := hd
          rcases find_any hH hq hk hks hk' g2 g3 g4 hf with ⟨h, -⟩ | ⟨j, u', b', rv, h, hn, hv, hjl, e', he', hs, hbn⟩
          · cases h
          · cases h
            have hs := hs hsame
            have he2 : es'[i]? = some e' := by simpa using he'
            obtain ⟨z1, z2⟩ := hH.setObj hr hb (.map (es'.modify i fun y => { y with key := a.eval key, val := a.eval x }) cl) (.map (listSet (ev F key', ev F x', bn) i es) cl) (by
              refine ⟨es'.modify i fun y => { y with key := a.eval key, val := a.eval x }, by simp [hlt], ?_, ?_, ?_⟩
              · rw [listSet_spec, List.map_set, map_modify _ _ _ _ (fun y => a.eval key) (fun _ => rfl) he2]
                exact g2.set i hk'
              · rw [listSet_spec, List.map_set, map_modify _ _ _ _ (fun y => a.eval x) (fun _ => rfl) he2]
                exact g3.set i hx'
              · rw [listSet_spec, List.map_set, map_modify (·.born) (fun y => { y with key := a.eval key, val := a.eval x }) _ _ (fun y => y.born) (fun _ => rfl) he2, g4, hbn])
            refine ⟨Go.undef, _, ρ, .inr ⟨hex _ ?_, rfl⟩, VR.undef σ ρ, z1, z2⟩
            rw [hax]
            simp [Instr.mapUpdate, Sem.run_bind, run_und hu, getObj, Sem.run, g1, hck, hn, Instr.keyThatStays, he2, hs, setObj]
        · rename_i hf
          simp only [Option.some.injEq, Prod.mk.injEq] at hd; obtain ⟨rfl, rfl⟩ := hd
          rcases find_any hH hq hk hks hk' g2 g3 g4 hf with ⟨-, hn⟩ | ⟨j, u', b', rv, h, -⟩
          · obtain ⟨z1, z2⟩ := hH.setObj hr hb (.map (es'.push { key := a.eval key, val := a.eval x, born := cl }) (cl + 1)) (.map (es ++ [(ev F key', ev F x', cl)]) (cl + 1)) (by
              refine ⟨es'.push { key := a.eval key, val := a.eval x, born := cl }, by simp [hlt], ?_, ?_, ?_⟩
              · simpa using g2.append (.cons hk' .nil)
              · simpa using g3.append (.cons hx' .nil)
              · simp [g4])
            refine ⟨Go.undef, _, ρ, .inr ⟨hex _ ?_, rfl⟩, VR.undef σ ρ, z1, z2⟩
            rw [hax]
            simp [Instr.mapUpdate, Sem.run_bind, run_und hu, getObj, Sem.run, g1, hck, hn, setObj]
          · cases h
        · cases hd
      · cases hd
  · cases hd
end
end Go.Proofs.YtfhjamimbgdfpaaGreat.X
