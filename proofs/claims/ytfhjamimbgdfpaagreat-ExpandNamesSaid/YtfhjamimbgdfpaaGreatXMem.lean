/- A verified executor, part XMem: laws of the executor; no condition. -/
import Derived.Test.YtfhjamimbgdfpaaGreatXRel
import Derived.Laws.IdiomCopy
import Derived.Laws.Cells
namespace Go.Proofs.YtfhjamimbgdfpaaGreat.X
open Go
set_option linter.unusedSimpArgs false
set_option linter.unusedVariables false

theorem rowOf_get : ∀ (vs : List V) (i : Nat) (c : Tr V) (j : Nat), (rowOf vs i c).get (P.of j) = if i ≤ j ∧ j < i + vs.length then vs[j - i]? else c.get (P.of j)
  | [], i, c, j => by rw [if_neg (by simp)]; rfl
  | v :: r, i, c, j => by
    rw [show rowOf (v :: r) i c = rowOf r (i + 1) (c.put (some v) (P.of i)) from rfl, rowOf_get r (i + 1), Tr.get_put]
    by_cases h1 : i + 1 ≤ j ∧ j < i + 1 + r.length
    · rw [if_pos h1, if_pos (by simp; omega), show j - i = (j - (i + 1)) + 1 from by omega]; rfl
    · rw [if_neg h1]
      by_cases h2 : j = i
      · subst h2; rw [if_pos rfl, if_pos (by simp)]; simp
      · rw [if_neg (fun e => h2 (P.of_inj e)), if_neg (by simp; omega)]
theorem rowGet_spec : ∀ (n i : Nat) (c : Tr V) (l : List V), rowGet c n i = some l → l.length = n ∧ ∀ j v, l[j]? = some v → c.get (P.of (i + j)) = some v
  | 0, i, c, l, h => by simp [rowGet] at h; subst h; simp
  | n + 1, i, c, l, h => by
    unfold rowGet at h
    split at h
    · cases h
    · rename_i v hv
      split at h
      · cases h
      · rename_i r hr
        simp at h; subst h
        obtain ⟨h1, h2⟩ := rowGet_spec n (i + 1) c r hr
        refine ⟨by simp [h1], fun j u hj => ?_⟩
        cases j with
        | zero => simp at hj; subst hj; exact hv
        | succ j => rw [show i + (j + 1) = i + 1 + j from by omega]; exact h2 j u (by simpa using hj)
theorem allIn_spec : ∀ (n i : Nat) (c : Tr V), allIn c n i = true → ∀ j, j < n → ∃ v, c.get (P.of (i + j)) = some v
  | 0, i, c, h, j, hj => by omega
  | n + 1, i, c, h, j, hj => by
    unfold allIn at h
    split at h
    · rename_i v hv
      cases j with
      | zero => exact ⟨v, hv⟩
      | succ j => rw [show i + (j + 1) = i + 1 + j from by omega]; exact allIn_spec n (i + 1) c h j (by omega)
    · cases h

section
variable {σ : Sg} {ρ : Ren} {H : Hp} {w : World}

theorem V.one_sound (hs : SgOk σ) : ∀ {v : V} {x : Value}, VR σ ρ v x → v.one = true → x.oneCell' = true
  | _, _, .bool b, _ => rfl
  | _, _, .int k n, _ => rfl
  | _, _, .str s, _ => rfl
  | _, _, .ptrN, _ => rfl
  | _, _, .ptr i h, _ => rfl
  | _, _, .slcN, _ => rfl
  | _, _, .slc h hl hc hn, _ => rfl
  | _, _, .slc0 h hc, _ => rfl
  | _, _, .mapN, _ => rfl
  | _, _, .map h, _ => rfl
  | _, _, .func fn h1 h2, _ => rfl
  | _, _, .meth hm h, _ => rfl
  | _, _, .nilFunc, _ => rfl
  | _, _, .iface t h, _ => rfl
  | _, _, .nilIface, _ => rfl
  | _, _, .agg h, e => by cases e
  | _, _, .tuple h, e => by cases e
  | _, _, .sym i, _ => by
    have := hs i
    generalize σ.val i = y at this
    cases y <;> first | rfl | exact this.elim
theorem ones_sound (hs : SgOk σ) : ∀ {v : List V} {x : List Value}, VRs σ ρ v x → v.all V.one = true → ∀ y ∈ x, y.oneCell' = true
  | _, _, .nil, _, y, hy => by simp at hy
  | _, _, .cons h t, e, y, hy => by
    simp only [List.all_cons, Bool.and_eq_true] at e
    rcases List.mem_cons.1 hy with rfl | hy
    · exact V.one_sound hs h e.1
    · exact ones_sound hs t e.2 y hy

/-- one cell read -/
theorem HR.cell (h : HR σ ρ H w) {p : P} {c : Tr V} {n : Nat} {pl : Bool} (hp : H.get p = some (.cells c n pl)) {b : RB} (hb : ρ p = some b) {i : Nat} {v : V} (hv : c.get (P.of i) = some v) :
    ∃ x, w.cell? ⟨b.r, b.b + i, none⟩ = some x ∧ VR σ ρ v x ∧ w.frozen? ⟨b.r, b.b + i, none⟩ = false ∧ b.b + i < b.n := by
  obtain ⟨b', hb', cs, e, lo, hi, h1, h2, h3, h4, h5⟩ := h.blk p _ hp
  rw [hb] at hb'; cases hb'
  obtain ⟨x, hx, hv⟩ := h3 i v hv
  have hlt : b.b + i < cs.size := (Array.getElem?_eq_some_iff.1 hx).1
  refine ⟨x, by simp [World.cell?, h1, hx], hv, ?_, by omega⟩
  have := h4 (b.b + i) (by omega)
  simp only [World.frozen?, h1]
  simp only [Bool.and_eq_false_iff, decide_eq_false_iff_not]
  omega
theorem HR.load (h : HR σ ρ H w) {p : P} {i : Nat} {v : V} (hl : H.load p i = some v) {b : RB} (hb : ρ p = some b) :
    ∃ x, w.cell? ⟨b.r, b.b + i, none⟩ = some x ∧ VR σ ρ v x := by
  unfold Hp.load at hl
  split at hl
  · rename_i c n pl hp
    obtain ⟨x, h1, h2, -⟩ := h.cell hp hb hl
    exact ⟨x, h1, h2⟩
  · cases hl
theorem HR.loadn (h : HR σ ρ H w) {p : P} {i n : Nat} {l : List V} (hl : H.loadn p i n = some l) {b : RB} (hb : ρ p = some b) :
    ∃ xs, VRs σ ρ l xs ∧ xs.length = n ∧ ∀ j x, xs[j]? = some x → w.cell? ((⟨b.r, b.b + i, none⟩ : Addr).add j) = some x := by
  unfold Hp.loadn at hl
  split at hl
  · rename_i c m pl hp
    obtain ⟨h1, h2⟩ := rowGet_spec n i c l hl
    have key : ∀ (l : List V) (i : Nat), (∀ j v, l[j]? = some v → c.get (P.of (i + j)) = some v) → ∃ xs, VRs σ ρ l xs ∧ xs.length = l.length ∧ ∀ j x, xs[j]? = some x → w.cell? ((⟨b.r, b.b + i, none⟩ : Addr).add j) = some x := by
      intro l
      induction l with
      | nil => intro i _; exact ⟨[], .nil, rfl, by simp⟩
      | cons v l ih =>
        intro i hg
        obtain ⟨xs, hx1, hx2, hx3⟩ := ih (i + 1) (fun j u hj => by
          have := hg (j + 1) u (by simpa using hj)
          rwa [show i + (j + 1) = i + 1 + j from by omega] at this)
        obtain ⟨x, hx, hv, -⟩ := h.cell hp hb (hg 0 v rfl)
        refine ⟨x :: xs, .cons hv hx1, by simp [hx2], fun j y hj => ?_⟩
        cases j with
        | zero => simp at hj; subst hj; simpa [Addr.add] using hx
        | succ j =>
          have := hx3 j y (by simpa using hj)
          unfold Addr.add at this ⊢
          split at this
          · subst_vars; simpa [Nat.add_assoc] using this
          · simp only [Nat.add_one_ne_zero, if_false]
            simpa [Nat.add_assoc, Nat.add_comm 1 j] using this
    obtain ⟨xs, a1, a2, a3⟩ := key l i h2
    exact ⟨xs, a1, by omega, a3⟩
  · cases hl

theorem heap_setCells (r : Nat) : ∀ (xs : List Value) (o : Nat) (w : World) (k : Nat), k ≠ r → (w.setCells r o xs).heap[k]? = w.heap[k]?
  | [], _, _, _, _ => rfl
  | x :: xs, o, w, k, h => by
    rw [World.setCells, heap_setCells r xs (o + 1) _ k h]
    exact Go.RowKit.Below.heap_setCell w _ x k h
theorem heap_setCells_at (r : Nat) (e : TypeId) (fr : Nat × Nat) : ∀ (xs : List Value) (o : Nat) (w : World) (cs : Array Value), w.heap[r]? = some (.cells cs e fr) → o + xs.length ≤ cs.size →
    ∃ cs' : Array Value, (w.setCells r o xs).heap[r]? = some (.cells cs' e fr) ∧ cs'.size = cs.size ∧ ∀ j, cs'[j]? = if o ≤ j ∧ j < o + xs.length then xs[j - o]? else cs[j]?
  | [], o, w, cs, h, _ => ⟨cs, h, rfl, fun j => by rw [if_neg (by simp)]⟩
  | x :: xs, o, w, cs, h, hl => by
    simp only [List.length_cons] at hl
    have h1 : (w.setCell ⟨r, o, none⟩ x).heap[r]? = some (.cells (cs.setIfInBounds o x) e fr) := by
      simp [World.setCell, Array.getElem?_modify, h]
    obtain ⟨cs', a1, a2, a3⟩ := heap_setCells_at r e fr xs (o + 1) _ _ h1 (by simp; omega)
    refine ⟨cs', a1, by simpa using a2, fun j => ?_⟩
    rw [a3]
    by_cases c1 : o + 1 ≤ j ∧ j < o + 1 + xs.length
    · rw [if_pos c1, if_pos (by simp; omega), show j - o = (j - (o + 1)) + 1 from by omega]; rfl
    · rw [if_neg c1]
      by_cases c2 : j = o
      · subst c2
        rw [if_pos (by simp)]
        simp [show j < cs.size from by omega]
      · rw [if_neg (by simp; omega), Array.getElem?_setIfInBounds_ne (by omega)]
theorem setCells_world (r : Nat) : ∀ (xs : List Value) (o : Nat) (w : World), (w.setCells r o xs).os = w.os ∧ (w.setCells r o xs).tape = w.tape ∧ (w.setCells r o xs).output = w.output ∧ (w.setCells r o xs).heap.size = w.heap.size ∧ (w.setCells r o xs).drawn = w.drawn
  | [], _, _ => ⟨rfl, rfl, rfl, rfl, rfl⟩
  | x :: xs, o, w => by
    obtain ⟨a, b, c, d, e⟩ := setCells_world r xs (o + 1) (w.setCell ⟨r, o, none⟩ x)
    exact ⟨a.trans rfl, b.trans rfl, c.trans rfl, by rw [World.setCells, d]; simp [World.setCell], e.trans rfl⟩

/-- cells stored -/
theorem HR.storen (hs : SgOk σ) (h : HR σ ρ H w) {p : P} {i : Nat} {vs : List V} {H' : Hp} (hl : H.storen p i vs = some H') {b : RB} (hb : ρ p = some b) {xs : List Value} (hx : VRs σ ρ vs xs) :
    (∀ j, j < xs.length → (w.cell? ⟨b.r, b.b + i + j, none⟩).isSome = true) ∧ (∀ j, j < xs.length → w.frozen? ⟨b.r, b.b + i + j, none⟩ = false) ∧ (∀ v ∈ xs, v.oneCell' = true) ∧
    HR σ ρ H' (w.setCells b.r (b.b + i) xs) ∧ Stp ρ H w ρ H' (w.setCells b.r (b.b + i) xs) := by
  unfold Hp.storen at hl
  split at hl
  · rename_i c n pl hp
    cases hc : (vs.all V.one && allIn c vs.length i)
    · rw [hc] at hl; cases hl
    rw [hc] at hl
    simp only [cond_true, Option.some.injEq] at hl
    simp only [Bool.and_eq_true] at hc
    subst hl
    have hlen := hx.length
    have hin := allIn_spec _ _ _ hc.2
    have hcell : ∀ j, j < xs.length → ∃ x, w.cell? ⟨b.r, b.b + i + j, none⟩ = some x ∧ w.frozen? ⟨b.r, b.b + i + j, none⟩ = false ∧ b.b + i + j < b.n := fun j hj => by
      obtain ⟨v, hv⟩ := hin j (by omega)
      obtain ⟨x, a1, a2, a3, a4⟩ := h.cell hp hb hv
      rw [← Nat.add_assoc] at a1 a3 a4
      exact ⟨x, a1, a3, a4⟩
    obtain ⟨b', hb', hblk⟩ := h.blk p _ hp
    rw [hb] at hb'; cases hb'
    have hlt := hblk.lt
    obtain ⟨cs, e, lo, hi, h1, h2, h3, h4, h5⟩ := hblk
    have hfit : xs = [] ∨ b.b + i + xs.length ≤ cs.size := by
      by_cases h0 : xs.length = 0
      · exact .inl (List.length_eq_zero_iff.1 h0)
      · obtain ⟨x, -, -, a⟩ := hcell (xs.length - 1) (by omega)
        exact .inr (by omega)
    have W := setCells_world b.r xs (b.b + i) w
    obtain ⟨cs', g1, g2, g3⟩ : ∃ cs' : Array Value, (w.setCells b.r (b.b + i) xs).heap[b.r]? = some (.cells cs' e (lo, hi)) ∧ cs'.size = cs.size ∧ ∀ j, cs'[j]? = if b.b + i ≤ j ∧ j < b.b + i + xs.length then xs[j - (b.b + i)]? else cs[j]? := by
      rcases hfit with rfl | hfit
      · exact ⟨cs, h1, rfl, fun j => by rw [if_neg (by simp)]⟩
      · exact heap_setCells_at b.r e (lo, hi) xs (b.b + i) w cs h1 hfit
    refine ⟨fun j hj => ?_, fun j hj => ?_, ones_sound hs hx hc.1, ⟨?_, ?_, ?_⟩, ⟨W.1, W.2.1, W.2.2.1, by rw [W.2.2.2.1]; exact Nat.le_refl _, .refl _, Nat.le_refl _, fun _ _ h => .inl h, ?_, ?_⟩⟩
    · obtain ⟨x, a, -⟩ := hcell j hj; rw [a]; rfl
    · obtain ⟨x, -, a, -⟩ := hcell j hj; exact a
    · intro q q' x y c1 c2 hq hq' hb1 hb2 e
      rw [Hp.get_set] at hq hq'
      have : ∀ q x, (if q = p then some (Blk.cells (rowOf vs i c) n pl) else H.get q) = some x → ∃ y, H.get q = some y := fun q x hq => by
        by_cases e : q = p
        · exact ⟨_, e ▸ hp⟩
        · rw [if_neg e] at hq; exact ⟨_, hq⟩
      obtain ⟨x', hx'⟩ := this q x hq
      obtain ⟨y', hy'⟩ := this q' y hq'
      exact h.inj q q' x' y' c1 c2 hx' hy' hb1 hb2 e
    · intro q x hq
      rw [Hp.get_set] at hq
      by_cases e1 : q = p
      · rw [if_pos e1] at hq; cases hq
        subst e1
        refine ⟨b, hb, cs', e, lo, hi, g1, by omega, fun j v hj => ?_, h4, h5⟩
        rw [rowOf_get] at hj
        rw [g3]
        by_cases e2 : i ≤ j ∧ j < i + vs.length
        · rw [if_pos e2] at hj
          obtain ⟨y, hy, hr⟩ := hx.get hj
          refine ⟨y, ?_, hr⟩
          rw [if_pos (by omega), show b.b + j - (b.b + i) = j - i from by omega]; exact hy
        · rw [if_neg e2] at hj
          rw [if_neg (by omega)]
          exact h3 j v hj
      · rw [if_neg e1] at hq
        obtain ⟨c1, hc1, hr⟩ := h.blk q x hq
        refine ⟨c1, hc1, hr.mono (.refl _) (heap_setCells _ _ _ _ _ (fun e => e1 (h.inj q p x _ c1 b hq hp hc1 hb e)))⟩
    · exact h.fresh
    · intro q x c1 hq hc1
      rw [Hp.get_set] at hq
      by_cases e1 : q = p
      · subst e1; exact .inr ⟨q, _, c1, hp, hc1, rfl⟩
      · rw [if_neg e1] at hq; exact .inr ⟨q, x, c1, hq, hc1, rfl⟩
    · intro r hr hf
      exact heap_setCells _ _ _ _ _ (fun e => hf p _ b hp hb e.symm)
  · cases hl
/-- a row of cells made: what it holds, and spare cells behind that -/
theorem HR.newRow (h : HR σ ρ H w) {vs : List V} {xs sp : List Value} (hx : VRs σ ρ vs xs) (e : TypeId) (pl : Bool) (hp : pl = true → 0 < xs.length + sp.length) (lo hi : Nat) (hf : ∀ j, j < xs.length + sp.length → ¬ (lo ≤ j ∧ j < hi)) (hpl : pl = true → lo = 0 ∧ hi = 0) :
    HR σ (ρ.add H.next ⟨w.heap.size, 0, xs.length + sp.length⟩) (H.newRow vs pl) { w with heap := w.heap.push (.cells ⟨xs ++ sp⟩ e (lo, hi)) } ∧
    Stp ρ H w (ρ.add H.next ⟨w.heap.size, 0, xs.length + sp.length⟩) (H.newRow vs pl) { w with heap := w.heap.push (.cells ⟨xs ++ sp⟩ e (lo, hi)) } := by
  unfold Hp.newRow
  refine h.new _ _ _ ⟨⟨xs ++ sp⟩, e, lo, hi, by simp, by simp, fun j v hj => ?_, hf, fun hpl' => ⟨(hpl hpl').1, (hpl hpl').2, hp hpl'⟩⟩
  rw [rowOf_get] at hj
  by_cases e2 : 0 ≤ j ∧ j < 0 + vs.length
  · rw [if_pos e2] at hj
    obtain ⟨y, hy, hr⟩ := hx.get hj
    refine ⟨y, ?_, hr.mono (Ren.add_le h _)⟩
    have hl := (List.getElem?_eq_some_iff.1 hy).1
    simp only [Nat.sub_zero] at hy hl
    simp [List.getElem?_append_left hl, hy]
  · rw [if_neg e2] at hj
    simp at hj
/-- an abstract block is forgotten -/
theorem HR.kill (h : HR σ ρ H w) (p : P) : HR σ ρ (H.kill p) w ∧ Stp ρ H w ρ (H.kill p) w := by
  have key : ∀ q x, (H.kill p).get q = some x → H.get q = some x := fun q x hq => by
    rw [Hp.get_kill] at hq
    by_cases e : q = p
    · rw [if_pos e] at hq; cases hq
    · rwa [if_neg e] at hq
  exact ⟨⟨fun q q' x y b c h1 h2 => h.inj q q' x y b c (key _ _ h1) (key _ _ h2), fun q x hq => h.blk q x (key _ _ hq), h.fresh⟩,
    ⟨rfl, rfl, rfl, Nat.le_refl _, .refl _, Nat.le_refl _, fun _ _ h => .inl h, fun q x b hq hb => .inr ⟨q, x, b, key _ _ hq, hb, rfl⟩, fun _ _ _ => rfl⟩⟩
end
end Go.Proofs.YtfhjamimbgdfpaaGreat.X
