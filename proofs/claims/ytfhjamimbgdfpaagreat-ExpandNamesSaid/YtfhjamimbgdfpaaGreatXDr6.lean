/- A verified executor, part XDr6: laws of the executor; no condition. -/
import Derived.Test.YtfhjamimbgdfpaaGreatXDr5
import Derived.Test.YtfhjamimbgdfpaaGreatXDrQ
namespace Go.Proofs.YtfhjamimbgdfpaaGreat.X
open Go
set_option linter.unusedVariables false
set_option linter.unusedSimpArgs false
section
variable {p : Program} {σ : Sg} {E : Env} {run : Run} {nt : Nat} {ops : Array Oper}

theorem elder {A : List (List Nat)} {order : List Nat} {FF : Nat → Fr} {HH BB : Nat → Hp} {HS : Nat → List Hp} {DW : Nat → List Nat} {vv : Nat → V} (h0 : BB 0 = HH 0)
    (hst : ∀ k i, order[k]? = some i → St1 p E run nt ops A i (FF k) (FF (k + 1)) (HH k) (HH (k + 1)) (BB k) (BB (k + 1)) (HS k) (HS (k + 1)) (DW k) (DW (k + 1)) (vv k)) (f : Nat → Bool) {c : Nat}
    (hc : c = 0 ∨ ∃ b, c = b + 1 ∧ (XOf p nt ops (order.getD b 0)).op.isW = true) : ∀ k, c ≤ k → k ≤ order.length → (∀ j, c ≤ j → j < k → (XOf p nt ops (order.getD j 0)).op.isW = true → f (order.getD j 0) = true) →
    ((∀ j, c ≤ j → j < k → (XOf p nt ops (order.getD j 0)).op.isW = false) ∧ BB k = HH c) ∨ ∃ r, r < ((DW k).takeWhile f).length ∧ (HS k)[r]? = some (HH c) := by
  intro k
  induction k with
  | zero =>
    intro h1 _ _
    have : c = 0 := by omega
    subst this
    exact .inl ⟨fun j _ h => by omega, h0⟩
  | succ k ih =>
    intro h1 h2 h3
    have hk : k < order.length := by omega
    have he : order[k]? = some (order.getD k 0) := by simp [hk]
    have s := hst k _ he
    by_cases e : c = k + 1
    · subst e
      obtain ⟨b, hb, hw⟩ := hc.resolve_left (by omega)
      have : b = k := by omega
      subst this
      exact .inl ⟨fun j h h' => by omega, (s.w hw).1⟩
    · have ih' := ih (by omega) (by omega) (fun j a b => h3 j a (by omega))
      cases hw : (XOf p nt ops (order.getD k 0)).op.isW with
      | true =>
        obtain ⟨s1, s2, s3⟩ := s.w hw
        have hf := h3 k (by omega) (by omega) hw
        rw [s2, s3, List.takeWhile_cons, if_pos hf]
        rcases ih' with ⟨i1, i2⟩ | ⟨r, i1, i2⟩
        · exact .inr ⟨0, by simp, by simp [i2]⟩
        · exact .inr ⟨r + 1, by simpa using i1, by simpa using i2⟩
      | false =>
        obtain ⟨s1, s2, s3⟩ := s.nw hw
        rw [s1, s2, s3]
        rcases ih' with ⟨i1, i2⟩ | ih'
        · refine .inl ⟨fun j a b => ?_, i2⟩
          by_cases e' : j = k
          · rw [e']; exact hw
          · exact i1 j a (by omega)
        · exact .inr ih'
def PlanSpec (p : Program) (nt : Nat) (ops : Array Oper) (pl : List PlanOp) : Prop := ∃ (A A1 : List (List Nat)) (order : List Nat) (ab : Option (Nat × Nat)), pl = chks A1 (ops.toList.map (cOper p nt ops)) (ab.map (·.1)) [] order ∧ ancOk ops.toList A = true ∧ looksOk ops A = true ∧
    orderOk A1 (ops.toList.map (cOper p nt ops)) [] order = true ∧ order.length = ops.size ∧ (∀ i ∈ order, i < ops.size) ∧ opdsOk ops (ops.toList.map (cOper p nt ops)) = true ∧ (∀ i, i < ops.size → i ∈ order) ∧
    ((ab = none ∧ A1 = A) ∨ ∃ a b, ab = some (a, b) ∧ A1 = A.set b (a :: A.getD b []) ∧ pairOk ops A (ops.toList.map (cOper p nt ops)) order a b = true)
theorem planOf_spec {pl : List PlanOp} (h : planOf p nt ops = some pl) : PlanSpec p nt ops pl := by
  have key : ∀ (A A1 An : List (List Nat)) (ws : List Nat) (ab : Option (Nat × Nat)), planTry ops (ops.toList.map (cOper p nt ops)) A A1 An ws ab = some pl → ((ab = none ∧ A1 = A) ∨ ∃ a b, ab = some (a, b) ∧ A1 = A.set b (a :: A.getD b [])) → PlanSpec p nt ops pl := by
    intro A A1 An ws ab h hab
    simp only [planTry] at h
    split at h
    · rename_i hc
      simp only [Bool.and_eq_true] at hc
      obtain ⟨⟨⟨⟨⟨⟨⟨h1, h2⟩, h3⟩, h4⟩, h5⟩, h6⟩, h7⟩, h8⟩ := hc
      refine ⟨A, A1, _, ab, (Option.some.inj h).symm, h1, h2, h3, by simpa using h4, fun i hi => ?_, h6, fun i hi => ?_, ?_⟩
      · have := List.all_eq_true.1 h5 i hi
        simpa using this
      · exact inL_iff.1 (List.all_eq_true.1 h7 i (List.mem_range.2 hi))
      · rcases hab with h | ⟨a, b, rfl, e⟩
        · exact .inl h
        · exact .inr ⟨a, b, rfl, e, h8⟩
    · cases h
  simp only [planOf] at h
  split at h
  · exact key _ _ _ _ _ h (.inl ⟨rfl, rfl⟩)
  · exact key _ _ _ _ _ h (.inr ⟨_, _, rfl, rfl⟩)
theorem zip_mem {i : Nat} (h : i < ops.size) : (ops.getD i default, i) ∈ ops.toList.zipIdx := by
  rw [List.mem_zipIdx_iff_getElem?]; simp [h]
theorem cn_of_plan {A A0 : List (List Nat)} {order : List Nat} {pa : Option Nat} {F F' : Fr} {H H' : Hp} {exc : Nat → Nat → Prop} (c1 : ancOk ops.toList A0 = true) (c2 : looksOk ops A0 = true)
    (c3 : orderOk A (ops.toList.map (cOper p nt ops)) [] order = true) (c4 : order.length = ops.size) (c5 : ∀ i ∈ order, i < ops.size) (c6 : opdsOk ops (ops.toList.map (cOper p nt ops)) = true) (c7 : ∀ i, i < ops.size → i ∈ order)
    (hsub : ∀ i x, x ∈ A0.getD i [] → x ∈ A.getD i []) (hexc : ∀ i x, x ∈ A.getD i [] → exc i x ∨ x ∈ A0.getD i [])
    (hd : drawX E run ((chks A (ops.toList.map (cOper p nt ops)) pa [] order).map fun q => (q.chk, q.w, cOper p nt ops (ops.getD q.i default))) F H H [] = some (F', H')) :
    ∃ (FF : Nat → Fr) (HH : Nat → Hp) (vv : Nat → V), Cn p E run nt ops (fun k => order.getD k 0) (fun i => A.getD i []) FF HH vv exc ∧ FF 0 = F ∧ HH 0 = H ∧ FF ops.size = F' ∧ HH ops.size = H' ∧
      ∀ k i i', order[k]? = some i → order[k + 1]? = some i' → pa = some i → (XOf p nt ops i).op.isW = true → want (FF k) (XOf p nt ops i).g = some true → apart2 (FF k) (XOf p nt ops i).op (XOf p nt ops i').op = true := by
  have hx : ∀ i, i < ops.size → (ops.toList.map (cOper p nt ops)).getD i default = XOf p nt ops i := fun i hi => by simp [XOf, hi]
  obtain ⟨FF, HH, BB, HS, DW, vv, e1, e2, e3, e4, e5, e6, e7, e89⟩ := draw_states A _ pa order [] F H H [] F' H' (fun i hi => hx i (c5 i hi)) hd
  have e8 := fun k i h => (e89 k i h).1
  have hget : ∀ k, k < ops.size → order[k]? = some (order.getD k 0) := fun k hk => by
    have : k < order.length := by omega
    simp [this]
  have hlt : ∀ k, k < ops.size → order.getD k 0 < ops.size := fun k hk => c5 _ (List.mem_of_getElem? (hget k hk))
  have hord := fun k hk => orderOk_spec order [] c3 k _ (hget k hk)
  have hinj : ∀ j k, j < k → k < ops.size → order.getD j 0 ≠ order.getD k 0 := fun j k hjk hk e => by
    have := (hord k hk).2.1
    rw [List.append_nil, mem_take_rev] at this
    exact this ⟨j, hjk, by rw [hget j (by omega), e]⟩
  have hanc := fun i hi => List.all_eq_true.1 c1 _ (zip_mem (ops := ops) (i := i) hi)
  simp only [Bool.and_eq_true] at hanc
  have hlook : ∀ i j, i < ops.size → j < ops.size → j ≠ i → ∀ d, (ops.getD j default).dst = some d → (ops.getD i default).dst ≠ some d ∧ (d ∈ (ops.getD i default).looksAt ops → j ∈ A0.getD i [] ∨ i ∈ A0.getD j []) := by
    intro i j hi hj hne d hdd
    have := List.all_eq_true.1 (List.all_eq_true.1 c2 _ (zip_mem hi)) _ (zip_mem hj)
    simp only [hdd, Bool.or_eq_true, Bool.and_eq_true, bne_iff_ne, beq_iff_eq, Bool.not_eq_true', inL_iff] at this
    rcases this with h | ⟨h1, h2⟩
    · exact absurd h.symm hne
    · refine ⟨h1, fun hm => ?_⟩
      rcases h2 with (h2 | h2) | h2
      · rw [← Bool.not_eq_true, List.contains_iff_mem] at h2; exact absurd hm h2
      · exact .inl h2
      · exact .inr h2
  refine ⟨FF, HH, vv, ?_, e1, e2, by rw [← c4]; exact e6, by rw [← c4]; exact e7, fun k i i' q1 q2 q3 q4 q5 => (e89 k i q1).2 q4 q5 q3 i' q2⟩
  refine { lt := hlt, surj := fun i hi => ?_, inj := fun j k hj hk e => ?_, bind := fun k hk e he hb => ?_, anc := fun k hk x hx' => ?_, ancE := fun k hk x hx' => ?_, wall := fun k hk hw j hj => ?_, looks := fun j k hj hk hne d hd1 hd2 => ?_, dsts := fun j k hj hk hne d hd1 => ?_, opds := fun k hk q hq => ?_, step := fun k hk => ?_, fs := fun k hk => (e8 k _ (hget k hk)).fs, mono := fun k hk hw => ?_, q := fun k hk hq hw c hck hbase hno => ?_, qn := fun k hk hq c hck hno j hj1 hj2 hN => ?_ }
  · obtain ⟨k, hk⟩ := List.mem_iff_getElem?.1 (c7 i hi)
    have hk' : k < order.length := (List.getElem?_eq_some_iff.1 hk).1
    exact ⟨k, by omega, by simp [hk]⟩
  · rcases Nat.lt_trichotomy j k with h | h | h
    · exact absurd e (hinj j k h hk)
    · exact h
    · exact absurd e.symm (hinj k j h hj)
  · have := List.all_eq_true.1 (Array.all_toList ▸ (hanc _ (hlt k hk)).2) e (by simpa using he)
    rw [hb] at this
    exact hsub _ _ (inL_iff.1 (by simpa using this))
  · have := (hord k hk).1 x hx'
    rw [List.append_nil, mem_take_rev] at this
    obtain ⟨j, hj, he⟩ := this
    exact ⟨j, hj, by simp [he]⟩
  · refine (hexc _ _ hx').imp id fun hx' => ?_
    have := List.all_eq_true.1 (hanc _ (hlt k hk)).1 x hx'
    rw [Array.any_eq_true'] at this
    obtain ⟨e, he, hb⟩ := this
    simp only [Bool.and_eq_true, Bool.or_eq_true, beq_iff_eq, inL_iff] at hb
    exact ⟨e, he, hb.1, hb.2.imp id (hsub _ _)⟩
  · have := (hord k hk).2.2.1 (by rw [hx _ (hlt k hk)]; exact hw) (order.getD j 0) (by
      rw [List.append_nil, mem_take_rev]
      exact ⟨j, hj, hget j (by omega)⟩)
    rwa [hx _ (hlt j (by omega))] at this
  · exact (hlook _ _ (hlt k hk) (hlt j hj) (fun e => hne (by
      rcases Nat.lt_trichotomy j k with h | h | h
      · exact absurd e (hinj j k h hk)
      · exact h
      · exact absurd e.symm (hinj k j h hj))) d hd1).2 hd2 |>.imp (hsub _ _) (hsub _ _)
  · exact (hlook _ _ (hlt k hk) (hlt j hj) (fun e => hne (by
      rcases Nat.lt_trichotomy j k with h | h | h
      · exact absurd e (hinj j k h hk)
      · exact h
      · exact absurd e.symm (hinj k j h hj))) d hd1).1
  · have := List.all_eq_true.1 (List.all_eq_true.1 c6 _ (zip_mem (hlt k hk))) (.t q) (by simp only; rw [hx _ (hlt k hk)]; exact hq)
    simp only [List.any_eq_true, decide_eq_true_eq] at this
    exact this
  · rcases (e8 k _ (hget k hk)).step with ⟨s1, s2, -, -⟩ | s
    · exact .inl ⟨s1, s2⟩
    · exact .inr s
  · rcases (e8 k _ (hget k hk)).step with ⟨s1, s2, s3, -⟩ | ⟨-, -, s⟩
    · exact s3 hw
    · rw [s]; exact Nat.le_refl _
  · have hnw : (XOf p nt ops (order.getD k 0)).op.isW = false := by
      cases hw' : (XOf p nt ops (order.getD k 0)).op.isW with
      | false => rfl
      | true =>
        simp only [XO.isW, XO.isQ, ble_iff, beq_iff, decide_eq_true_eq] at hw' hq
        omega
    rcases elder (by rw [e3, e2]) e8 (fun w => !inL w (A.getD (order.getD k 0) [])) hbase k hck (by omega) (fun j a b hj => by
      have := hno j a b hj
      simpa [← Bool.not_eq_true, inL_iff] using this) with ⟨i1, -⟩ | ⟨r, i1, i2⟩
    · exact .inl i1
    · rcases (e8 k _ (hget k hk)).step with ⟨s1, s2, -, s4⟩ | ⟨s1, -⟩
      · refine .inr (recheck_get (r := r) (s4 hnw) ?_ i2)
        unfold chkOf
        rw [hq]; exact i1
      · rw [hw] at s1; cases s1
  · have hnw : (XOf p nt ops (order.getD k 0)).op.isW = false := by
      cases hw' : (XOf p nt ops (order.getD k 0)).op.isW with
      | false => rfl
      | true =>
        simp only [XO.isW, XO.isQ, ble_iff, beq_iff, decide_eq_true_eq] at hw' hq
        omega
    have hmem := mem_takeWhile (r := order) (f := fun j => !((ops.toList.map (cOper p nt ops)).getD j default).op.isW) (c := c) k (by omega) (fun j i a b he => by
      have hjn : j < ops.size := by omega
      have : i = order.getD j 0 := by rw [hget j hjn] at he; exact (Option.some.inj he).symm
      subst this
      rw [hx _ (hlt j hjn), hno j a b]; rfl) j _ hj1 hj2 (hget j (by omega))
    refine (hord k hk).2.2.2 (by rw [hx _ (hlt k hk)]; exact hnw) (by rw [hx _ (hlt k hk)]; exact hq) _ (by rw [List.append_nil]; exact hmem) ?_
    rw [hx _ (hlt j (by omega))]; exact hN

theorem more_of_set {A : List (List Nat)} {a b : Nat} (h : b < A.length) : (fun i => (A.set b (a :: A.getD b [])).getD i []) = more (fun i => A.getD i []) b a := by
  funext i
  unfold more
  by_cases e : i = b
  · subst e; rw [if_pos rfl]; simp [h]
  · rw [if_neg e]; simp [List.getElem?_set_ne (fun e' => e e'.symm)]
theorem isStore_spec {x : XO} (h : x.isStore = true) : ∃ n y z, x = .store n y z := by
  cases x <;> first | exact ⟨_, _, _, rfl⟩ | (simp [XO.isStore] at h)
/-- every order of a region's operations leaves what the one order leaves -/
theorem draw_ok {n : Nat} (hm : p.follows .mixedOrders = true) (hs : SgOk σ) (hE : EnvOk p σ E) (hR : RunOk p σ n run) : DrawOk p σ E run := by
  intro nt id ops F H F' H' ρ a w hd hF hn hdf hH
  unfold plan at hd
  cases hp : planOf p nt ops with
  | none => rw [hp] at hd; simp [drawX, want, opX, doX] at hd
  | some pl =>
    rw [hp] at hd
    obtain ⟨A0, A1, order, ab, rfl, c1, c2, c3, c4, c5, c6, c7, c8⟩ := planOf_spec hp
    refine wp_region_any hm ?_
    have hcut : ρ.cut H.next.toNat = ρ := by
      funext q
      unfold Ren.cut
      split
      · rfl
      · cases e : ρ q with
        | none => rfl
        | some b => exact absurd (hH.fresh _ _ e) (by assumption)
    have start : ∀ {o : Nat → Nat} {FF : Nat → Fr} {HH : Nat → Hp} {vv : Nat → V}, FF 0 = F → HH 0 = H → Inv σ p nt ops o FF HH vv ρ w (fun _ => False) 0 ρ a { w with drawn := w.drawn + 1 } := by
      intro o FF HH vv e1 e2
      refine ⟨Nat.zero_le _, .inl rfl, fun k h => by omega, fun k _ _ h => h.elim, by rw [e2, hcut]; exact hH.drew, by rw [e2, hcut]; exact (Stp.refl ρ H w).drew, fun k x _ _ h => h.elim, fun k x b _ _ h => h.elim, fun j k x y b d _ _ h => h.elim, fun q b h => .inl (by rw [e2]; exact hH.fresh q b h), fun j _ h => h.elim, fun t _ => by rw [e1, e2, hcut]; exact hF t, hn, hdf⟩
    have lst : ∀ {o : Nat → Nat} {A : Nat → List Nat}, (∀ k, k < ops.size → o k < ops.size) → Lst ops o A (fun _ => False) (Array.replicate ops.size false) := by
      intro o A hlt
      exact ⟨by simp, fun j hj => by simp [hlt j hj], fun i j _ _ h => h.elim⟩
    have hunl : unl ops.size (Array.replicate ops.size false) ≤ ops.size := by
      unfold unl
      exact Nat.le_trans (List.length_filter_le _ _) (by simp)
    have post : ∀ {FF : Nat → Fr} {HH : Nat → Hp}, FF ops.size = F' → HH ops.size = H' → HH 0 = H → ∀ a' w' ρ', FR σ ρ' (FF ops.size) a' → nt ≤ a'.tmps.size → DfOk p a'.defers → HR σ ρ' (HH ops.size) w' → Stp ρ (HH 0) w ρ' (HH ops.size) w' → Post p σ ρ H w nt .nrm F' H' .normal a' w' := by
      intro FF HH e3 e4 e2 a' w' ρ' k1 k2 k3 k4 k5
      rw [e3] at k1
      rw [e4] at k4 k5
      rw [e2] at k5
      exact ⟨rfl, ρ', k1, k2, k3, k4, k5⟩
    rcases c8 with ⟨rfl, rfl⟩ | ⟨ia, ib, rfl, rfl, c8⟩
    · obtain ⟨FF, HH, vv, C, e1, e2, e3, e4, -⟩ := cn_of_plan (exc := fun _ _ => False) c1 c2 c3 c4 c5 c6 c7 (fun _ _ h => h) (fun _ _ h => .inr h) hd
      exact any_order hs (callX_sound hE hR) C (post e3 e4 e2) ops.size _ a _ _ 0 ρ (start e1 e2) (lst C.lt) (fun i x h => h.elim) hunl
    · simp only [pairOk, Bool.and_eq_true, Bool.not_eq_true', Option.isNone_iff_eq_none, beq_iff_eq] at c8
      obtain ⟨⟨⟨⟨⟨⟨⟨⟨⟨⟨p1, p2⟩, p3⟩, p4⟩, p5⟩, p6⟩, p7⟩, p8⟩, p9⟩, p10⟩, p11⟩ := c8
      have hbl : ib < A0.length := by simpa using p8
      have hms := more_of_set (a := ia) hbl
      have hfun : ∀ i, (A0.set ib (ia :: A0.getD ib [])).getD i [] = more (fun i => A0.getD i []) ib ia i := fun i => congrFun hms i
      obtain ⟨FF, HH, vv, C, e1, e2, e3, e4, e5⟩ := cn_of_plan (exc := fun i x => i = ib ∧ x = ia) c1 c2 c3 c4 c5 c6 c7 (fun i x h => by rw [hfun]; exact more_sub h) (fun i x h => by
        rw [hfun] at h
        unfold more at h
        split at h
        · rename_i e
          rcases List.mem_cons.1 h with h | h
          · exact .inl ⟨e, h⟩
          · exact .inr (e ▸ h)
        · exact .inr h) hd
      generalize hk0 : order.findIdx (Nat.beq ia) = k0 at p9 p10 p11
      have hk1 : k0 + 1 < ops.size := by
        have := (List.getElem?_eq_some_iff.1 p10).1
        omega
      have oa : order.getD k0 0 = ia := by simp [p9]
      have ob : order.getD (k0 + 1) 0 = ib := by simp [p10]
      have hia : ia < ops.size := c5 _ (List.mem_of_getElem? p9)
      have hib : ib < ops.size := c5 _ (List.mem_of_getElem? p10)
      have hx : ∀ i, i < ops.size → (ops.toList.map (cOper p nt ops)).getD i default = XOf p nt ops i := fun i hi => by simp [XOf, hi]
      rw [hx _ hia] at p1 p3
      rw [hx _ hib] at p2 p4
      obtain ⟨n1, x1, y1, s1⟩ := isStore_spec p1
      obtain ⟨n2, x2, y2, s2⟩ := isStore_spec p2
      have hwa : (XOf p nt ops ia).op.isW = true := by rw [s1]; rfl
      have hap := e5 k0 ia ib p9 p10 rfl hwa (by rw [p3]; rfl)
      rw [hms, ← oa, ← ob] at C
      have hanc := fun i hi => List.all_eq_true.1 c1 _ (zip_mem (ops := ops) (i := i) hi)
      simp only [Bool.and_eq_true] at hanc
      obtain ⟨HH2, hH2, C2⟩ := C.swap (k0 := k0) hk1 (fun i hi e he hb => by
          have := List.all_eq_true.1 (Array.all_toList ▸ (hanc i hi).2) e (by simpa using he)
          rw [hb] at this
          exact inL_iff.1 (by simpa using this)) (fun i hi x hx' => by
          have := List.all_eq_true.1 (hanc i hi).1 x hx'
          rw [Array.any_eq_true'] at this
          obtain ⟨e, he, hb⟩ := this
          simp only [Bool.and_eq_true, Bool.or_eq_true, beq_iff_eq, inL_iff] at hb
          exact ⟨e, he, hb.1, hb.2⟩) (by rw [oa]; exact s1) (by rw [ob]; exact s2) (by rw [oa]; exact p3) (by rw [ob]; exact p4) (by rw [oa]; exact p5) (by rw [ob]; exact p6)
        (by rw [oa, ob]; intro h; rw [inL_iff.2 h] at p7; cases p7) (fun b i c j q1 q2 => by
          rw [s1, s2] at hap
          simp only [apart2, q1, q2, Bool.not_eq_true', decide_eq_false_iff_not] at hap
          exact hap) (fun k hk hk' hq => by
          have hkl : k < order.length := by omega
          have hm : order.getD k 0 ∈ order.drop (k0 + 2) := by
            rw [List.mem_iff_getElem?]
            refine ⟨k - (k0 + 2), ?_⟩
            rw [List.getElem?_drop, show k0 + 2 + (k - (k0 + 2)) = k from by omega]
            simp [hkl]
          have := List.all_eq_true.1 p11 _ hm
          rw [hx _ (C.lt k hk'), hq] at this
          rw [oa]
          exact inL_iff.1 (by simpa using this))
      refine any_pair (o2 := fun k => order.getD (sw k0 k) 0) hs (callX_sound hE hR) C C2 hk1 (fun k q1 q2 => by simp only [sw_far q1 q2]) (by simp only [sw_1]) (by simp only [sw_0]) hH2 (by rw [oa]; exact hwa) (fun i x h => h) (fun i x h => by
          simp only [sw_1, sw_0]; exact h) (fun i q1 q2 => by rw [more_ne q2, more_ne q1]) (post e3 e4 e2) ops.size _ a _ _ 0 ρ (start e1 e2) (fun h => h) (fun h => h) (lst C.lt) hunl
end
end Go.Proofs.YtfhjamimbgdfpaaGreat.X
