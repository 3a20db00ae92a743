/-
  What the law FeedPlays' argument is: a script of operations; how many places it can speak of, by its bulk. No condition.
-/
import Derived.Test.YtmgafcbhoamkkaaFeedRead
import Derived.Test.YtmgafcbhoamkkaaRows
namespace Go.Proofs.Ytmgafcbhoamkkaa
open Go.RowKit Go.ChangeShapes Go.WideShapes Go.ChangeAt

/-- One operation of a script. -/
structure SOp where
  kind : Int
  p : Int
  c : Int
  n : Int
  ks : List Int
  fs : List F

/-- A slice that is nil has no room. -/
def NoneZ (v : Value) : Prop := ∀ n c, v = .slice none n c → c = 0

def OpAt (w : World) (b o : Nat) (x : SOp) : Prop :=
  ∃ v4 v5, w.cell? ⟨b, o, none⟩ = some (.int .i64 x.kind) ∧ w.cell? ⟨b, o + 1, none⟩ = some (.int .i64 x.p) ∧ w.cell? ⟨b, o + 2, none⟩ = some (.int .i64 x.c) ∧ w.cell? ⟨b, o + 3, none⟩ = some (.int .i64 x.n) ∧
    w.cell? ⟨b, o + 4, none⟩ = some v4 ∧ w.cell? ⟨b, o + 5, none⟩ = some v5 ∧ IntsR w v4 x.ks ∧ FeedsR w (fun _ => True) v5 x.fs ∧ NoneZ v4 ∧ fits x.p ∧ fits x.c

theorem OpAt.below {w w' : World} {b o : Nat} {x : SOp} (h : OpAt w b o x) (hb : Below w.heap.size w w') (hlt : b < w.heap.size) : OpAt w' b o x := by
  obtain ⟨v4, v5, h0, h1, h2, h3, h4, h5, hi, hf, hz, hp, hc⟩ := h
  exact ⟨v4, v5, (hb.cell (p := ⟨b, o, none⟩) hlt).trans h0, (hb.cell (p := ⟨b, o + 1, none⟩) hlt).trans h1, (hb.cell (p := ⟨b, o + 2, none⟩) hlt).trans h2, (hb.cell (p := ⟨b, o + 3, none⟩) hlt).trans h3,
    (hb.cell (p := ⟨b, o + 4, none⟩) hlt).trans h4, (hb.cell (p := ⟨b, o + 5, none⟩) hlt).trans h5, hi.below hb, hf.below hb, hz, hp, hc⟩

/-- How many places a script speaks of, at the most. -/
def szOps : List SOp → Nat
  | [] => 0
  | x :: l => x.fs.length + 1 + szOps l
theorem szOps_app (l r : List SOp) : szOps (l ++ r) = szOps l + szOps r := by
  induction l with
  | nil => simp [szOps]
  | cons x l ih => simp only [List.cons_append, szOps, ih]; omega
theorem szOps_take (l : List SOp) (k : Nat) (x : SOp) (h : l[k]? = some x) : szOps (l.take k) + x.fs.length + 1 = szOps (l.take (k + 1)) ∧ szOps (l.take (k + 1)) ≤ szOps l := by
  obtain ⟨hk, rfl⟩ := List.getElem?_eq_some_iff.1 h
  constructor
  · rw [List.take_succ_eq_append_getElem hk, szOps_app]; simp only [szOps]; omega
  · have e := szOps_app (l.take (k + 1)) (l.drop (k + 1))
    rw [List.take_append_drop] at e
    omega

def OpsR (w : World) (v : Value) (xs : List SOp) : Prop :=
  ∃ p c, v = .slice p xs.length c ∧ szOps xs ≤ 1048576 ∧ (0 < xs.length → ∃ b o, p = some ⟨b, o, none⟩ ∧ b < w.heap.size ∧ ∀ i x, xs[i]? = some x → OpAt w b (o + i * 6) x)

theorem OpsR.below {w w' : World} {v : Value} {xs : List SOp} (h : OpsR w v xs) (hb : Below w.heap.size w w') : OpsR w' v xs := by
  obtain ⟨p, c, h1, h2, h3⟩ := h
  refine ⟨p, c, h1, h2, fun h0 => ?_⟩
  obtain ⟨b, o, e1, e2, e3⟩ := h3 h0
  exact ⟨b, o, e1, Nat.lt_of_lt_of_le e2 hb.size, fun i x hi => (e3 i x hi).below hb e2⟩

set_option maxRecDepth 100000
section
variable {H : Type} {enc : TypeId × Value → H} {w : World} {held : Bool}

theorem bulk_one (d : DataW H) : 1 ≤ Rows.uptoBulk d := by
  cases d with
  | lit l => cases l <;> simp [Rows.uptoBulk]
  | nil => simp [Rows.uptoBulk]
  | ptr d => simp [Rows.uptoBulk]
  | slice elems spare => simp [Rows.uptoBulk]
  | agg parts => simp [Rows.uptoBulk]
  | iface t d => simp [Rows.uptoBulk]
  | map entries => simp [Rows.uptoBulk]
  | held h => simp [Rows.uptoBulk]

theorem bulk_length (l : List (DataW H)) : l.length ≤ Rows.uptoBulkAll l := by
  induction l with
  | nil => simp [Rows.uptoBulkAll]
  | cons x r ih => have := bulk_one x; simp only [Rows.uptoBulkAll, List.length_cons]; omega

/-- A slice's places. -/
theorem bulk_feeds {fuel : Nat} {p : Option Addr} {n c : Nat} {x : DataW H × List MemPlace} (h : DataW.trod enc Try.prog w 0 (fun _ => true) held fuel 35 [.slice p n c] = some x) : n + 1 ≤ Rows.uptoBulk x.1 := by
  rcases DataW.trod_slice Try.underlying35 h with ⟨e, rfl⟩ | ⟨a, len, cap, elems, rest, m, rfl, e, rfl, -, -, -, hel, -, -, -⟩
  · cases e; simp [Rows.uptoBulk]
  · simp only [List.cons.injEq, Value.slice.injEq, and_true] at e
    obtain ⟨-, rfl, -⟩ := e
    have h1 := bulk_length (elems.map fun x => x.1)
    rw [List.length_map] at h1
    simp only [Rows.uptoBulk]
    omega

theorem six {α : Type} {l : List α} (h : l.length = 6) : ∃ a b c d e f, l = [a, b, c, d, e, f] := by
  match l, h with
  | [a, b, c, d, e, f], _ => exact ⟨a, b, c, d, e, f, rfl⟩

theorem size_op : Try.prog.cellsOf 46 = 6 := by kernel_rfl
theorem bytes_op : Try.prog.bytesOf 46 = 80 := by kernel_rfl
theorem size_ints : Try.prog.cellsOf 27 = 1 := by kernel_rfl
theorem size_feeds : Try.prog.cellsOf 35 = 1 := by kernel_rfl

theorem read_op {fuel : Nat} {cs : List Value} {x : DataW H × List MemPlace} (h : DataW.trod enc Try.prog w 0 (fun _ => true) held fuel 46 cs = some x) (hs : (x.1.weights Try.prog 46).all (· ≤ reachBytes) = true) :
    ∃ y : SOp, (∀ b o, CellsAt w b o cs → OpAt w b o y) ∧ y.fs.length + 1 ≤ Rows.uptoBulk x.1 := by
  obtain ⟨xs, n, rfl, rfl, hl, hxl, hf⟩ := DataW.trod_struct Try.underlying46 h
  rw [size_op] at hl
  obtain ⟨c0, c1, c2, c3, c4, c5, rfl⟩ := six hl
  obtain ⟨x0, x1, x2, x3, x4, x5, rfl⟩ := six (l := xs) hxl
  have h0 : DataW.trod enc Try.prog w 0 (fun _ => true) held n 3 [c0] = some x0 := by simpa [size_i64] using hf 0 _ rfl
  have h1 : DataW.trod enc Try.prog w 0 (fun _ => true) held n 3 [c1] = some x1 := by simpa [size_i64] using hf 1 _ rfl
  have h2 : DataW.trod enc Try.prog w 0 (fun _ => true) held n 3 [c2] = some x2 := by simpa [size_i64] using hf 2 _ rfl
  have h3 : DataW.trod enc Try.prog w 0 (fun _ => true) held n 3 [c3] = some x3 := by simpa [size_i64] using hf 3 _ rfl
  have h4 : DataW.trod enc Try.prog w 0 (fun _ => true) held n 27 [c4] = some x4 := by simpa [size_i64, size_ints] using hf 4 _ rfl
  have h5 : DataW.trod enc Try.prog w 0 (fun _ => true) held n 35 [c5] = some x5 := by simpa [size_i64, size_ints, size_feeds] using hf 5 _ rfl
  unfold DataW.weights at hs
  rw [Try.underlying46] at hs
  simp only [List.map_cons, List.map_nil, DataW.weightsEach, List.append_nil] at hs
  simp only [List.all_append, Bool.and_eq_true] at hs
  obtain ⟨-, -, -, -, hs4, hs5⟩ := hs
  obtain ⟨k0, e0, r0⟩ := DataW.trod_int Try.underlying3 h0
  obtain ⟨k1, e1, r1⟩ := DataW.trod_int Try.underlying3 h1
  obtain ⟨k2, e2, r2⟩ := DataW.trod_int Try.underlying3 h2
  obtain ⟨k3, e3, r3⟩ := DataW.trod_int Try.underlying3 h3
  obtain ⟨v4, ks, e4, r4⟩ := read_ints h4 hs4
  obtain ⟨v5, fs, e5, r5⟩ := read_feeds h5 hs5
  cases e0; cases e1; cases e2; cases e3; cases e4; cases e5
  have hz : NoneZ c4 := fun n c hv => by
    rcases DataW.trod_slice Try.underlying27 h4 with ⟨e, -⟩ | ⟨a, len, cap, elems, rest, m, -, e, -⟩
    · rw [hv] at e; cases e; rfl
    · rw [hv] at e; cases e
  refine ⟨⟨k0, k1, k2, k3, ks, fs⟩, fun b o hc => ⟨c4, c5, hc 0 _ rfl, hc 1 _ rfl, hc 2 _ rfl, hc 3 _ rfl, hc 4 _ rfl, hc 5 _ rfl, r4, r5, hz, r1.2, r2.2⟩, ?_⟩
  obtain ⟨p, c, rfl, -⟩ := id r5
  have hb := bulk_feeds h5
  simp only [List.map_cons, List.map_nil, Rows.uptoBulk, Rows.uptoBulkAll]
  omega

theorem ops_choose {R : Nat → SOp → Prop} : ∀ (n : Nat), (∀ i, i < n → ∃ a, R i a) → ∃ l : List SOp, l.length = n ∧ ∀ (i : Nat) (a : SOp), l[i]? = some a → R i a
  | 0, _ => ⟨[], rfl, fun i a h => by simp at h⟩
  | n + 1, h => by
    obtain ⟨l, hl, hr⟩ := ops_choose n fun i hi => h i (by omega)
    obtain ⟨a, ha⟩ := h n (by omega)
    refine ⟨l ++ [a], by simp [hl], fun i x hx => ?_⟩
    by_cases hi : i < l.length
    · rw [List.getElem?_append_left hi] at hx; exact hr i x hx
    · have hi' : i = n := by
        have := (List.getElem?_eq_some_iff.1 hx).1
        simp [hl] at this; omega
      subst hi'
      rw [← hl, List.getElem?_append_right (Nat.le_refl _), Nat.sub_self] at hx
      cases hx
      exact ha

theorem weights_all {P : Program} {t : TypeId} {l : List (DataW H)} (h : (DataW.weightsAll P t l).all (· ≤ reachBytes) = true) : ∀ d ∈ l, (d.weights P t).all (· ≤ reachBytes) = true := by
  induction l with
  | nil => intro d hd; cases hd
  | cons x l ih =>
    rw [DataW.weightsAll, List.all_append, Bool.and_eq_true] at h
    intro d hd
    rcases List.mem_cons.1 hd with rfl | hd
    · exact h.1
    · exact ih h.2 d hd

theorem bulk_sz : ∀ (l : List SOp) (ds : List (DataW H)), l.length = ds.length → (∀ (i : Nat) x d, l[i]? = some x → ds[i]? = some d → x.fs.length + 1 ≤ Rows.uptoBulk d) → szOps l ≤ Rows.uptoBulkAll ds
  | [], _, _, _ => Nat.zero_le _
  | x :: l, [], h, _ => by simp at h
  | x :: l, d :: ds, h, hb => by
    have h1 := hb 0 x d rfl rfl
    have h2 := bulk_sz l ds (by simpa using h) fun i y e hy he => hb (i + 1) y e (by simpa using hy) (by simpa using he)
    simp only [szOps, Rows.uptoBulkAll]
    omega

theorem read_ops {fuel : Nat} {cs : List Value} {x : DataW H × List MemPlace} (h : DataW.trod enc Try.prog w 0 (fun _ => true) held fuel 41 cs = some x) (hs : (x.1.weights Try.prog 41).all (· ≤ reachBytes) = true)
    (hk : Rows.uptoBulk x.1 ≤ 1048576) : ∃ v xs, cs = [v] ∧ OpsR w v xs := by
  rcases DataW.trod_slice Try.underlying41 h with ⟨rfl, rfl⟩ | ⟨a, len, cap, elems, rest, n, rfl, rfl, rfl, -, -, -, hel, hi, -, -⟩
  · exact ⟨_, [], rfl, none, 0, rfl, by simp [szOps], fun h => by simp at h⟩
  · rw [size_op] at hi
    unfold DataW.weights at hs
    rw [Try.underlying41] at hs
    simp only [List.all_cons, List.all_append, Bool.and_eq_true] at hs
    have hw := weights_all hs.2.1
    have hcs : ∀ i, i < len → ∃ y : SOp, (∃ cs', w.cells? 0 (a.add (i * 6)) 6 = some cs' ∧ ∀ b o, CellsAt w b o cs' → OpAt w b o y) ∧ ∀ d, elems[i]? = some d → y.fs.length + 1 ≤ Rows.uptoBulk d.1 := by
      intro i hlt
      have e := hi i hlt
      obtain ⟨y, hy⟩ : ∃ y, elems[i]? = some y := ⟨_, List.getElem?_eq_getElem (by omega)⟩
      rw [hy, Option.bind_eq_some_iff] at e
      obtain ⟨cs', h1, h2⟩ := e
      obtain ⟨z, hz, hb⟩ := read_op h2 (hw y.1 (List.mem_map.2 ⟨y, List.mem_of_getElem? hy, rfl⟩))
      exact ⟨z, ⟨cs', h1, hz⟩, fun d hd => by rw [hy] at hd; cases hd; exact hb⟩
    obtain ⟨m, hm, hr⟩ := ops_choose len hcs
    have hsz : szOps m ≤ 1048576 := by
      have h1 := bulk_sz m (elems.map fun x => x.1) (by rw [List.length_map, hel, hm]) fun i y d hy hd => by
        rw [List.getElem?_map] at hd
        obtain ⟨d', hd', rfl⟩ := Option.map_eq_some_iff.1 hd
        exact (hr i y hy).2 d' hd'
      simp only [Rows.uptoBulk] at hk
      omega
    refine ⟨_, m, rfl, some a, cap, by rw [hm], hsz, fun h0 => ?_⟩
    obtain ⟨b, o, rfl, hb⟩ : ∃ b o, a = ⟨b, o, none⟩ ∧ b < w.heap.size := by
      obtain ⟨y, ⟨cs', h1, -⟩, -⟩ := hcs 0 (by omega)
      exact first_spot h1 (by omega)
    refine ⟨b, o, rfl, hb, fun i y hy => ?_⟩
    obtain ⟨⟨cs', h1, h2⟩, -⟩ := hr i y hy
    rw [add_none] at h1
    exact h2 _ _ (cells_at h1 (by omega)).2.2.2

end
end Go.Proofs.Ytmgafcbhoamkkaa
