/-
  What tandemlaw00.CopyProtos is given and makes: protos in memory whose lists may all be read; 'append([]api.Ins(nil), ..)', 'append([]string(nil), ..)'. No condition.
-/
import Derived.Test.YtmlmepbnjlepnaaChkLaw
import Derived.Test.YtmlmepbnjlepnaaDatCopy
namespace Go.Proofs.Ytmlmepbnjlepnaa
open Go.RowKit Go.BigFrame
set_option linter.unusedSimpArgs false

theorem addr_add (b o i : Nat) : (⟨b, o, none⟩ : Addr).add i = ⟨b, o + i, none⟩ := by unfold Addr.add; split <;> simp_all

theorem infoProto : (Try.prog.info? 32).map (fun i => (i.zero, i.size, i.bytes)) = some (some (.agg #[.string ⟨#[]⟩, .int .i64 0, .int .i64 0, .bool false, .slice none 0 0, .slice none 0 0, .slice none 0 0]), 7, 112) := by kernel_rfl
theorem infoIns : (Try.prog.info? 34).map (fun i => (i.zero, i.size, i.bytes)) = some (some (.agg #[.int .i64 0, .int .i64 0, .int .i64 0]), 3, 24) := by kernel_rfl
theorem infoStr : (Try.prog.info? 9).map (fun i => (i.zero, i.size, i.bytes)) = some (some (.string ⟨#[]⟩), 1, 16) := by kernel_rfl

/-- A slice of texts. -/
def NamesR (w : World) (p : Option Addr) (n cap : Nat) : Prop :=
  (p = none → cap = 0) ∧ n ≤ 8796093021952 ∧ ∃ ss : List ByteArray, ss.length = n ∧ (0 < n → ∃ b o, p = some ⟨b, o, none⟩ ∧ b < w.heap.size ∧ ∀ j s, ss[j]? = some s → w.cell? ⟨b, o + j, none⟩ = some (.string s))

theorem NamesR.below {w w' : World} {p : Option Addr} {n cap : Nat} (h : NamesR w p n cap) (hb : Below w.heap.size w w') : NamesR w' p n cap := by
  obtain ⟨h1, h2, ss, h3, h4⟩ := h
  refine ⟨h1, h2, ss, h3, fun h0 => ?_⟩
  obtain ⟨b, o, e1, e2, e3⟩ := h4 h0
  exact ⟨b, o, e1, Nat.lt_of_lt_of_le e2 hb.size, fun j s hj => (hb.cell (p := ⟨b, _, none⟩) e2).trans (e3 j s hj)⟩

/-- A proto all of whose lists may be read. -/
structure SrcR (w : World) (v : PrV) : Prop where
  code : CodeAt w v
  cz : v.ca = none → v.ccap = 0
  consts : ∃ d : DL, d.len = v.pr.nc ∧ SliceR w (fun _ => True) (.slice v.ka v.pr.nc v.kcap) d
  names : NamesR w v.na v.pr.nn v.ncap

theorem SrcR.below {w w' : World} {v : PrV} (h : SrcR w v) (hb : Below w.heap.size w w') : SrcR w' v := by
  obtain ⟨h1, h2, ⟨d, h3, h4⟩, h5⟩ := h
  exact ⟨h1.below hb, h2, ⟨d, h3, h4.stays (stays_below hb)⟩, h5.below hb⟩

/-- Code in a block of its own kind. -/
def CodeI (w : World) (p : Option Addr) (l : List Ins) : Prop := ∀ i, i < l.length → ∃ g cur, p = some ⟨g, 0, none⟩ ∧ w.heap[g]? = some (.cells cur 34 (0, 0)) ∧
  cur[i * 3]? = some (.int .i64 (l.getD i ⟨0, 0, 0⟩).op) ∧ cur[i * 3 + 1]? = some (.int .i64 (l.getD i ⟨0, 0, 0⟩).a) ∧ cur[i * 3 + 2]? = some (.int .i64 (l.getD i ⟨0, 0, 0⟩).b)

theorem CodeI.at {w : World} {v : PrV} (h : CodeI w v.ca v.pr.code) : CodeAt w v := fun i hi => by
  obtain ⟨g, cur, h1, h2, h3, h4, h5⟩ := h i hi
  refine ⟨g, 0, h1, lt_of_heap h2, ?_, ?_, ?_⟩ <;> simp [World.cell?, h2, h3, h4, h5]

theorem CodeI.kept {w w' : World} {p : Option Addr} {l : List Ins} (h : CodeI w p l) (hb : ∀ (g : Nat) (cur : Array Value), w.heap[g]? = some (Obj.cells cur 34 (0, 0)) → w'.heap[g]? = some (Obj.cells cur 34 (0, 0))) : CodeI w' p l := fun i hi => by
  obtain ⟨g, cur, h1, h2, h3⟩ := h i hi
  exact ⟨g, cur, h1, hb g cur h2, h3⟩

theorem CodeI.below {w w' : World} {p : Option Addr} {l : List Ins} (h : CodeI w p l) (hb : Below w.heap.size w w') : CodeI w' p l := h.kept fun g _ hg => (hb.block g (lt_of_heap hg)).trans hg

theorem own_form' {w : World} {B : Nat} {e : TypeId} {s n : Nat} {v : Value} {xs : List Value} (h : w.ownsRow B e s v n xs) : ∃ p cap, v = .slice p n cap := by
  rcases h.2 with ⟨rfl, rfl⟩ | ⟨g, cap, cur, rfl, -⟩
  · exact ⟨_, _, rfl⟩
  · exact ⟨_, _, rfl⟩

theorem own_code {w : World} {B : Nat} {p : Option Addr} {cap : Nat} {l : List Ins} (h : w.ownsRow B 34 3 (.slice p l.length cap) l.length (codeV l)) : CodeI w p l := fun i hi => by
  rcases h.2 with ⟨h1, h2⟩ | ⟨g, cap', cur, h1, h2, h3, h4, h5, h6, h7⟩
  · omega
  · cases h1
    obtain ⟨e1, e2, e3⟩ := codeV_get l i hi
    have e : ∀ j u, j < 3 → (codeV l)[i * 3 + j]? = some u → cur[i * 3 + j]? = some u := fun j u hj hu => by
      rw [← h7, List.getElem?_take, if_pos (by omega), Array.getElem?_toList] at hu
      exact hu
    exact ⟨g, cur, rfl, h3, e 0 _ (by omega) e1, e 1 _ (by omega) e2, e 2 _ (by omega) e3⟩

theorem code_cells {w : World} {v : PrV} (h : CodeAt w v) {b o : Nat} (hca : v.ca = some ⟨b, o, none⟩) : ∀ j u, (codeV v.pr.code)[j]? = some u → w.cell? ((⟨b, o, none⟩ : Addr).add j) = some u := by
  intro j u hj
  have hjl : j < v.pr.code.length * 3 := by rw [← codeV_len]; exact (List.getElem?_eq_some_iff.1 hj).1
  obtain ⟨b', o', h1, -, h3, h4, h5⟩ := h (j / 3) (by omega)
  rw [hca] at h1
  cases h1
  obtain ⟨e1, e2, e3⟩ := codeV_get v.pr.code (j / 3) (by omega)
  rw [addr_add]
  rcases (show j % 3 = 0 ∨ j % 3 = 1 ∨ j % 3 = 2 by omega) with hm | hm | hm
  · rw [show j = j / 3 * 3 from by omega] at hj ⊢
    rw [e1] at hj; cases hj
    exact h3
  · rw [show j = j / 3 * 3 + 1 from by omega] at hj ⊢
    rw [e2] at hj; cases hj
    exact h4
  · rw [show j = j / 3 * 3 + 2 from by omega] at hj ⊢
    rw [e3] at hj; cases hj
    exact h5

theorem codeV_one (l : List Ins) : ∀ u ∈ codeV l, u.oneCell' = true := by
  intro u hu
  obtain ⟨x, -, hx⟩ := List.mem_flatMap.1 hu
  simp only [insV, List.mem_cons, List.not_mem_nil, or_false] at hx
  rcases hx with rfl | rfl | rfl <;> rfl

/-- 'append([]api.Ins(nil), p.Code...)'. -/
theorem wpList_copyI {ops : Array Oper} {Q : Exit → Act → World → Prop} {rest : List Oper} {o : Oper} {a : Act} (w : World) (hgd : o.guard = none) (x : Operand)
    (ho : o.op = .call { callee := .builtin .append, args := #[.const (.slice none 0 0), x], argTypes := #[29, 29] }) {v : PrV} (hx : a.eval x = .slice v.ca v.pr.code.length v.ccap) (hf : CodeAt w v) (hz : v.ca = none → v.ccap = 0) (hn : v.pr.code.length ≤ 5864062014635)
    (h : ∀ p1 q1 w', CodeI w' p1 v.pr.code → Below w.heap.size w w' → wpList Try.prog ops Q rest (a.put o.dst (.slice p1 v.pr.code.length q1)) w') : wpList Try.prog ops Q (o :: rest) a w := by
  obtain ⟨i0, hi, hz0, hz1, hz2⟩ := info_parts infoIns
  have hnil : w.ownsRow w.heap.size 34 3 (.slice none 0 0) 0 [] := World.ownsRow_nil _ _ _ _
  by_cases h0 : 0 < v.pr.code.length
  · obtain ⟨b, o', hca, hlt, -⟩ := hf 0 h0
    rw [hca] at hx
    refine wpList_append_own_at w hgd _ x 29 ho w.heap.size 34 i0 _ 3 24 Try.underlying29 hi hz0 hz1 hz2 rfl (by decide) (.slice none 0 0) 0 [] rfl hnil ⟨b, o', none⟩ v.pr.code.length v.ccap (codeV v.pr.code) hx (by rw [codeV_len]) (code_cells hf hca) (codeV_one _) (by simp only [maxLen]; omega) (by omega) (Nat.le_refl _) ?_
    intro v1 w1 hown hgrow _ _
    rw [Nat.zero_add, List.nil_append] at hown
    obtain ⟨p1, q1, rfl⟩ := own_form' hown
    exact h p1 q1 w1 (own_code hown) (below_own (Below.refl _ _) hgrow hnil (Nat.le_refl _))
  · have h0 : v.pr.code.length = 0 := by omega
    have hnoI : ∀ w' p1, CodeI w' p1 v.pr.code := fun w' p1 i hi => by omega
    rw [h0] at hx h
    cases hca : v.ca with
    | none =>
      rw [hca, hz hca] at hx
      refine wpList_append_own_none hgd _ x 29 ho w.heap.size 34 i0 3 Try.underlying29 hi (.slice none 0 0) 0 [] rfl hnil hx ?_
      exact h _ _ _ (hnoI _ _) (Below.refl _ _)
    | some ad =>
      rw [hca] at hx
      refine wpList_append_own_at w hgd _ x 29 ho w.heap.size 34 i0 _ 3 24 Try.underlying29 hi hz0 hz1 hz2 rfl (by decide) (.slice none 0 0) 0 [] rfl hnil ad 0 v.ccap [] hx (by simp) (fun j u hj => by simp at hj) (fun u hu => by simp at hu) (by simp [maxLen]) (by simp) (Nat.le_refl _) ?_
      intro v1 w1 hown hgrow _ _
      obtain ⟨p1, q1, rfl⟩ := own_form' hown
      exact h p1 q1 w1 (hnoI _ _) (below_own (Below.refl _ _) hgrow hnil (Nat.le_refl _))

/-- 'append([]string(nil), p.Names...)'. -/
theorem wpList_copyN {ops : Array Oper} {Q : Exit → Act → World → Prop} {rest : List Oper} {o : Oper} {a : Act} (w : World) (hgd : o.guard = none) (x : Operand)
    (ho : o.op = .call { callee := .builtin .append, args := #[.const (.slice none 0 0), x], argTypes := #[30, 30] }) {p : Option Addr} {n cap : Nat} (hx : a.eval x = .slice p n cap) (hf : NamesR w p n cap)
    (h : ∀ p1 q1 w', Below w.heap.size w w' → wpList Try.prog ops Q rest (a.put o.dst (.slice p1 n q1)) w') : wpList Try.prog ops Q (o :: rest) a w := by
  obtain ⟨i0, hi, hz0, hz1, hz2⟩ := info_parts infoStr
  obtain ⟨hz, hn, ss, hs, hc⟩ := hf
  have hnil : w.ownsRow w.heap.size 9 1 (.slice none 0 0) 0 [] := World.ownsRow_nil _ _ _ _
  by_cases h0 : 0 < n
  · obtain ⟨b, o', rfl, hlt, hcell⟩ := hc h0
    refine wpList_append_own_at w hgd _ x 30 ho w.heap.size 9 i0 _ 1 16 Try.underlying30 hi hz0 hz1 hz2 rfl (by decide) (.slice none 0 0) 0 [] rfl hnil ⟨b, o', none⟩ n cap (ss.map .string) hx (by simp [hs]) (fun j u hj => ?_) (fun u hu => ?_) (by simp only [maxLen]; omega) (by omega) (Nat.le_refl _) ?_
    · rw [List.getElem?_map] at hj
      obtain ⟨s, hs2, rfl⟩ := Option.map_eq_some_iff.1 hj
      rw [addr_add]
      exact hcell j s hs2
    · obtain ⟨s, -, rfl⟩ := List.mem_map.1 hu
      rfl
    · intro v1 w1 hown hgrow _ _
      rw [Nat.zero_add] at hown
      obtain ⟨p1, q1, rfl⟩ := own_form' hown
      exact h p1 q1 w1 (below_own (Below.refl _ _) hgrow hnil (Nat.le_refl _))
  · obtain rfl : n = 0 := by omega
    cases p with
    | none =>
      obtain rfl := hz rfl
      refine wpList_append_own_none hgd _ x 30 ho w.heap.size 9 i0 1 Try.underlying30 hi (.slice none 0 0) 0 [] rfl hnil hx ?_
      exact h _ _ _ (Below.refl _ _)
    | some ad =>
      refine wpList_append_own_at w hgd _ x 30 ho w.heap.size 9 i0 _ 1 16 Try.underlying30 hi hz0 hz1 hz2 rfl (by decide) (.slice none 0 0) 0 [] rfl hnil ad 0 cap [] hx (by simp) (fun j u hj => by simp at hj) (fun u hu => by simp at hu) (by simp [maxLen]) (by simp) (Nat.le_refl _) ?_
      intro v1 w1 hown hgrow _ _
      obtain ⟨p1, q1, rfl⟩ := own_form' hown
      exact h p1 q1 w1 (below_own (Below.refl _ _) hgrow hnil (Nat.le_refl _))

/-- A proto's box. -/
def BoxP (w : World) (b : Nat) (cs : List Value) : Prop := w.heap[b]? = some (.cells ⟨cs⟩ 32 (0, 0))

theorem boxP7 {w : World} {b : Nat} {c0 c1 c2 c3 c4 c5 c6 : Value} (h : BoxP w b [c0, c1, c2, c3, c4, c5, c6]) :
    w.cell? ⟨b, 0, none⟩ = some c0 ∧ w.cell? ⟨b, 1, none⟩ = some c1 ∧ w.cell? ⟨b, 2, none⟩ = some c2 ∧ w.cell? ⟨b, 3, none⟩ = some c3 ∧ w.cell? ⟨b, 4, none⟩ = some c4 ∧ w.cell? ⟨b, 5, none⟩ = some c5 ∧ w.cell? ⟨b, 6, none⟩ = some c6 ∧ b < w.heap.size ∧ ∀ o, w.frozen? ⟨b, o, none⟩ = false := by
  have hl := lt_of_heap h
  unfold BoxP at h
  refine ⟨?_, ?_, ?_, ?_, ?_, ?_, ?_, hl, fun o => ?_⟩ <;> simp [World.cell?, World.frozen?, h]

theorem BoxP.set {w : World} {b : Nat} {cs : List Value} (h : BoxP w b cs) (i : Nat) (v : Value) : BoxP (w.setCell ⟨b, i, none⟩ v) b (cs.set i v) := by
  unfold BoxP at h ⊢
  simp [World.setCell, Array.getElem?_modify, h]

theorem BoxP.below {w w' : World} {b : Nat} {cs : List Value} (h : BoxP w b cs) (hb : Below w.heap.size w w') : BoxP w' b cs := (hb.block b (lt_of_heap h)).trans h

/-- A store into a proto's box leaves code alone. -/
theorem CodeI.set {w : World} {p : Option Addr} {l : List Ins} (h : CodeI w p l) {b : Nat} {cs : List Value} (hb : BoxP w b cs) (i : Nat) (v : Value) : CodeI (w.setCell ⟨b, i, none⟩ v) p l :=
  h.kept fun g cur hg => by
    have hne : g ≠ b := fun e => by
      subst e
      unfold BoxP at hb
      rw [hb] at hg
      simp only [Option.some.injEq, Obj.cells.injEq] at hg
      exact absurd hg.2.1 (by decide)
    rw [Below.heap_setCell _ _ _ _ (by simpa using hne)]
    exact hg

/-- An append onto a row of protos leaves code alone. -/
theorem CodeI.grown {w w' : World} {p : Option Addr} {l : List Ins} (h : CodeI w p l) {B n : Nat} {v : Value} {xs : List Value} (hg : w.grownBy w' v.ownBlock) (ho : w.ownsRow B 32 7 v n xs) : CodeI w' p l :=
  h.kept fun g cur hgc => by
    rw [hg.block g (lt_of_heap hgc) (fun e => ?_)]
    · exact hgc
    · rcases ho.2 with ⟨rfl, -⟩ | ⟨g', cap', cur', rfl, h2, h3, -⟩
      · simp [Value.ownBlock] at e
      · simp [Value.ownBlock] at e
        subst e
        rw [hgc] at h3
        simp only [Option.some.injEq, Obj.cells.injEq] at h3
        exact absurd h3.2.1 (by decide)

theorem cells_one {v : PrV} : ∀ u ∈ v.cells, u.oneCell' = true := by
  intro u hu
  simp only [PrV.cells, List.mem_cons, List.not_mem_nil, or_false] at hu
  rcases hu with rfl | rfl | rfl | rfl | rfl | rfl | rfl <;> rfl

theorem cells_get : ∀ (L : List PrV) (i : Nat) (v : PrV), L[i]? = some v → ∀ j, j < 7 → (L.flatMap PrV.cells)[i * 7 + j]? = v.cells[j]?
  | [], i, v, h, j, hj => by simp at h
  | x :: L, 0, v, h, j, hj => by
    simp only [List.getElem?_cons_zero, Option.some.injEq] at h
    subst h
    rw [List.flatMap_cons, Nat.zero_mul, Nat.zero_add, List.getElem?_append_left (by simpa [PrV.cells] using hj)]
  | x :: L, i + 1, v, h, j, hj => by
    have hl : x.cells.length = 7 := rfl
    rw [List.flatMap_cons, List.getElem?_append_right (by rw [hl]; omega), hl, show (i + 1) * 7 + j - 7 = i * 7 + j from by omega]
    exact cells_get L i v (by simpa using h) j hj

end Go.Proofs.Ytmlmepbnjlepnaa
