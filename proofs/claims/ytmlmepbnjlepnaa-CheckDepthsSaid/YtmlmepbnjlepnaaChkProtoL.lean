/-
  What proto's walk speaks of: its rows, its rounds; small laws.
-/
import Derived.Test.YtmlmepbnjlepnaaChkCalls
import Derived.Deep.OwnRows
import Derived.Deep.LoopGhost
import Derived.Outline
import Derived.Deep.CutRange
namespace Go.Proofs.Ytmlmepbnjlepnaa
open Go.RowKit Go.BigFrame

theorem info3' : (Try.prog.info? 3).map (fun i => (i.zero, i.size, i.bytes)) = some (some (.int .i64 0), 1, 8) := by kernel_rfl
theorem info4' : (Try.prog.info? 4).map (fun i => (i.zero, i.size, i.bytes)) = some (some (.bool false), 1, 1) := by kernel_rfl

/-- What proto leaves. -/
def ProtoDone (w : World) (n : Nat) (r : Res) (e : Ending) (w' : World) : Prop :=
  Below w.heap.size w w' ∧ match r with
    | .bad pc err => e = .returned (.tuple #[.pointer none, .int .i64 pc, .int .i64 err])
    | .ok ds => ∃ pblk db, e = .returned (.tuple #[.pointer (some ⟨pblk, 0, none⟩), .int .i64 0, .int .i64 0]) ∧ w'.cell? ⟨pblk, 7, none⟩ = some (.slice (some ⟨db, 0, none⟩) n n) ∧
        w'.rowIs db 3 n (fun i => .int .i64 (ds.getD i 0)) ∧ ds.length = n ∧ w.heap.size ≤ pblk ∧ pblk < w'.heap.size

/-- proto's rows: the depths, the open places. -/
def DsAt (w : World) (db n : Nat) (ds : List Int) : Prop := w.rowIs db 3 n (fun i => .int .i64 (ds.getD i 0))
def OpAt (w : World) (ob n : Nat) (op : List Bool) : Prop := w.rowIs ob 4 n (fun i => .bool (op.getD i false))

theorem DsAt.set {w : World} {db n : Nat} {ds : List Int} (h : DsAt w db n ds) (hl : ds.length = n) {i : Nat} (hi : i < n) (d : Int) : DsAt (w.setCell ⟨db, i, none⟩ (.int .i64 d)) db n (ds.set i d) :=
  (World.rowIs.set h i (.int .i64 d)).congr fun j hj => by
    rw [getD_set _ _ _ _ _ (by omega)]
    split <;> rfl

theorem OpAt.set {w : World} {ob n : Nat} {op : List Bool} (h : OpAt w ob n op) (hl : op.length = n) {i : Nat} (hi : i < n) (d : Bool) : OpAt (w.setCell ⟨ob, i, none⟩ (.bool d)) ob n (op.set i d) :=
  (World.rowIs.set h i (.bool d)).congr fun j hj => by
    rw [getD_set _ _ _ _ _ (by omega)]
    split <;> rfl

theorem box_cells {w : World} {b : Nat} {t : TypeId} {c0 c1 c2 c3 c4 c5 c6 c7 : Value} (h : w.heap[b]? = some (.cells #[c0, c1, c2, c3, c4, c5, c6, c7] t (0, 0))) :
    w.cell? ⟨b, 0, none⟩ = some c0 ∧ w.cell? ⟨b, 1, none⟩ = some c1 ∧ w.cell? ⟨b, 2, none⟩ = some c2 ∧ w.cell? ⟨b, 3, none⟩ = some c3 ∧ w.cell? ⟨b, 4, none⟩ = some c4 ∧ w.cell? ⟨b, 5, none⟩ = some c5 ∧ w.cell? ⟨b, 6, none⟩ = some c6 ∧ w.cell? ⟨b, 7, none⟩ = some c7 := by
  simp [World.cell?, h]

theorem op_start (n : Nat) (hn : 1 ≤ n) (i : Nat) (hi : i < ((madeCells #[Value.bool false] n).setIfInBounds 0 (Value.bool true)).size) :
    ((madeCells #[Value.bool false] n).setIfInBounds 0 (Value.bool true))[i]? = some (.bool (((List.replicate n false).set 0 true).getD i false)) := by
  simp only [Array.size_setIfInBounds, size_madeCells] at hi
  rw [Array.getElem?_setIfInBounds, getD_set _ _ _ _ _ (by simp; omega), size_madeCells]
  by_cases e : i = 0
  · subst e; simp; omega
  · rw [if_neg (fun h => e h.symm), if_neg e]
    simp [madeCells, hi, List.getD, Nat.mod_one]

/-- What goes gives: a slice of so many ints. -/
theorem goes_form {w : World} {l : List Int} {e : Ending} {w' : World} (h : OwnInts w l e w') :
    ∃ psl cap, e = .returned (.slice psl l.length cap) ∧ (∀ i, i < l.length → ∃ g, psl = some ⟨g, 0, none⟩ ∧ w.heap.size ≤ g ∧ g < w'.heap.size ∧ w'.cell? ⟨g, i, none⟩ = some (.int .i64 (l.getD i 0))) ∧ Below w.heap.size w w' := by
  obtain ⟨v, rfl, ⟨h1, h2⟩, hb⟩ := h
  rcases h2 with ⟨rfl, h0⟩ | ⟨g, cap, cur, rfl, hg, hc, hn, hm, hsz, ht⟩
  · refine ⟨none, 0, by rw [h0], fun i hi => by omega, hb⟩
  · refine ⟨some ⟨g, 0, none⟩, cap, rfl, fun i hi => ⟨g, rfl, hg, lt_of_heap hc, ?_⟩, hb⟩
    have e1 : cur.toList[i]? = some (Value.int .i64 (l.getD i 0)) := by
      have e2 : (cur.toList.take (l.length * 1))[i]? = (l.map (Value.int .i64))[i]? := by rw [ht]
      rw [List.getElem?_take, if_pos (by omega)] at e2
      rw [e2, List.getElem?_map, List.getElem?_eq_getElem hi]
      simp [List.getD, hi]
    simp [World.cell?, hc]
    rw [← Array.getElem?_toList, e1]
    simp [List.getD]

theorem three_cells {w : World} {b : Nat} {t : TypeId} {c0 c1 c2 : Value} (h : w.heap[b]? = some (.cells #[c0, c1, c2] t (0, 0))) :
    w.cell? ⟨b, 0, none⟩ = some c0 ∧ w.cell? ⟨b, 1, none⟩ = some c1 ∧ w.cell? ⟨b, 2, none⟩ = some c2 := by
  simp [World.cell?, h]

/-- All that a round holds fast, but for the open places. -/
structure Rnd (W : World) (db n : Nat) (ds : List Int) (op : List Bool) (box : Array Value) (t : Nat) (x : Ins) : Prop where
  ds : DsAt W db n ds
  op : OpAt W (db + 2) n op
  box : W.heap[db + 1]? = some (.cells box 60 (0, 0))
  x : W.heap[t]? = some (.cells #[.int .i64 x.op, .int .i64 x.a, .int .i64 x.b] 34 (0, 0))

theorem Rnd.below {W W' : World} {db n t : Nat} {ds : List Int} {op : List Bool} {box : Array Value} {x : Ins} (h : Rnd W db n ds op box t x) (hb : Below W.heap.size W W') : Rnd W' db n ds op box t x :=
  ⟨World.rowIs.of_block h.ds (hb.block _ (World.rowIs.lt h.ds)), World.rowIs.of_block h.op (hb.block _ (World.rowIs.lt h.op)), (hb.block _ (lt_of_heap h.box)).trans h.box, (hb.block _ (lt_of_heap h.x)).trans h.x⟩

/-- What comes of an open place whose operands and stack are right. -/
structure Onward (ps : List Pr) (p : Pr) (s : St) (gk n : Nat) (R : Res) (dd : Int) (l : List Int) : Prop where
  jump : ∀ t, t ∈ l → inB t n = false → R = .bad s.pc 32
  none : (∀ t ∈ l, inB t n = true) → land dd l (s.ds, s.op.set s.pc false, (s.pc : Int) + 1) = Option.none → R = .bad s.pc 31
  go : (∀ t ∈ l, inB t n = true) → ∀ r, land dd l (s.ds, s.op.set s.pc false, (s.pc : Int) + 1) = some r → (∃ g, g < gk ∧ runP ps p g ⟨r.1, r.2.1, r.2.2.toNat⟩ = some R) ∧ Fine p ⟨r.1, r.2.1, r.2.2.toNat⟩ ∧ 0 ≤ r.2.2 ∧ r.2.2 ≤ (s.pc : Int) + 1
  len : l.length ≤ 2

theorem onward {ps : List Pr} {p : Pr} {s : St} {gk n : Nat} {R : Res} {k : Nat} {a b : Int} (hr : runP ps p gk s = some R) (hf : Fine p s) (hpc : s.pc < n) (hn : n = p.code.length) (hop : s.op.getD s.pc false = true) (hins : insAt p s.pc = ⟨k, a, b⟩)
    (he : opsE ps p ⟨k, a, b⟩ = 0) (hst : (stackE ⟨k, a, b⟩ (s.ds.getD s.pc 0)).2 = 0) : Onward ps p s gk n R (stackE ⟨k, a, b⟩ (s.ds.getD s.pc 0)).1 (goesW (wantT k) a s.pc) := by
  have hl : goesL (insAt p s.pc) s.pc = goesW (wantT k) a s.pc := by
    rw [hins]; simp only [goesL, goesW, Int.toNat_natCast]
  have hpc' : s.pc < p.code.length := by omega
  subst hn
  refine ⟨fun t ht hb => ?_, fun hall hl2 => ?_, fun hall r hl2 => ?_, ?_⟩
  · exact runP_bad hr hpc' (step_jump hop (by rw [hins]; exact he) (by rw [hins]; exact hst) t (by rw [hl]; exact ht) hb)
  · exact runP_bad hr hpc' (step_land hop (by rw [hins]; exact he) (by rw [hins]; exact hst) (by rw [hl]; exact hall) (by rw [hl, hins]; exact hl2))
  · have e := step_go (ps := ps) hop (by rw [hins]; exact he) (by rw [hins]; exact hst) (by rw [hl]; exact hall) (by rw [hl, hins]; exact hl2)
    obtain ⟨k1, k2, k3, k4⟩ := stackE_ok hst
    have L := land_ok (by rw [k2]; exact k4) _ _ _ (by dsimp only; rw [hf.1]; exact hall) (by simp [hf.1, hf.2.1]) hl2
    dsimp only at L
    exact ⟨runP_go hr hpc' e, (step_fine hf hpc' e).1, L.2.2.2.2 (by omega), L.2.2.2.1⟩
  · unfold goesW; split <;> split <;> simp

theorem gen_world {P : Program} {c : Code} {Q : Exit → Act → World → Prop} {a : Act} {w0 : World} (F : World → Prop) (h : F w0) (k : ∀ W, F W → Code.wp P c Q a W) : Code.wp P c Q a w0 := k _ h

end Go.Proofs.Ytmlmepbnjlepnaa
