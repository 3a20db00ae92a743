/-
  Both tables side by side in memory: what each method leaves of the two. No condition.
-/
import Derived.Test.YtmgafcbhoamkkaaFeedTables
import Derived.Test.YtmgafcbhoamkkaaFeedSees
import Derived.Test.YtmgafcbhoamkkaaFeedRAdd
import Derived.Test.YtmgafcbhoamkkaaFeedRAt
import Derived.Test.YtmgafcbhoamkkaaFeedRAll
namespace Go.Proofs.Ytmgafcbhoamkkaa
open Go.RowKit Go.ChangeMaps
set_option linter.unusedSimpArgs false

/-- The table says T, the document's table says U. -/
def St (w : World) (tb mb rb : Nat) (T U : Tv) (N : Nat) (V : World) : Prop :=
  ∃ L R vF vC, TabAt V tb mb L ∧ RefAt V rb vF vC R ∧ tv L = T ∧ tv R = U ∧ R.length ≤ N ∧ Below w.heap.size w V ∧ (∀ b, Mine mb L b → w.heap.size ≤ b) ∧ w.heap.size ≤ rb

/-- Boxes of operations are left alone. -/
def Keep (V V' : World) : Prop := ∀ (b : Nat) (cur : Array Value), V.heap[b]? = some (.cells cur 46 (0, 0)) → V'.heap[b]? = some (.cells cur 46 (0, 0))

theorem Keep.of_below {V V' : World} (h : Below V.heap.size V V') : Keep V V' := fun b _ hc => (h.block b (lt_of_heap hc)).trans hc
theorem Keep.trans {A B C : World} (h : Keep A B) (k : Keep B C) : Keep A C := fun b cur hc => k b cur (h b cur hc)

theorem op_apart {w : World} {tb mb rb : Nat} {L R : List Pl} {vF vC : Value} (h : TabAt w tb mb L) (k : RefAt w rb vF vC R) {b : Nat} {cur : Array Value} (hc : w.heap[b]? = some (.cells cur 46 (0, 0))) : ¬ Mine mb L b ∧ ¬ RMine rb vF vC b := by
  constructor
  · rintro (rfl | ⟨q, hq, rfl⟩)
    · obtain ⟨es, clock, hm, -⟩ := h.map
      rw [hm] at hc; cases hc
    · have hq2 := h.cells q hq
      rw [hc] at hq2
      unfold Pl.obj at hq2
      simp only [Option.some.injEq, Obj.cells.injEq] at hq2
      obtain ⟨-, h3, -⟩ := hq2
      exact absurd h3 (by decide)
  · rintro (rfl | hb | hb)
    · have := k.box
      rw [hc] at this
      simp only [Option.some.injEq, Obj.cells.injEq] at this
      exact absurd this.2.1 (by decide)
    · obtain ⟨-, -, c, e⟩ := own_block k.fs hb
      rw [hc] at e
      simp only [Option.some.injEq, Obj.cells.injEq] at e
      exact absurd e.2.1 (by decide)
    · obtain ⟨-, -, c, e⟩ := own_block k.cs hb
      rw [hc] at e
      simp only [Option.some.injEq, Obj.cells.injEq] at e
      exact absurd e.2.1 (by decide)

theorem St.below {w V V' : World} {tb mb rb N : Nat} {T U : Tv} (h : St w tb mb rb T U N V) (hb : Below V.heap.size V V') : St w tb mb rb T U N V' := by
  obtain ⟨L, R, vF, vC, h1, h2, h3, h4, h5, h6, h7, h8⟩ := h
  exact ⟨L, R, vF, vC, h1.below hb, h2.below hb, h3, h4, h5, h6.trans (hb.mono h6.size), h7, h8⟩

theorem St.size {w V : World} {tb mb rb N : Nat} {T U : Tv} (h : St w tb mb rb T U N V) : tb < V.heap.size ∧ rb < V.heap.size ∧ w.heap.size ≤ V.heap.size ∧ w.heap.size ≤ rb ∧ Below w.heap.size w V := by
  obtain ⟨L, R, vF, vC, h1, h2, h3, h4, h5, h6, h7, h8⟩ := h
  exact ⟨lt_of_heap h1.tab, lt_of_heap h2.box, h6.size, h8, h6⟩

theorem st_tab {w V V1 w' : World} {tb mb rb N : Nat} {T' : Tv} {L R L' : List Pl} {vF vC : Value} (h1 : TabAt V tb mb L) (h2 : RefAt V rb vF vC R) (h5 : R.length ≤ N) (h6 : Below w.heap.size w V) (h7 : ∀ b, Mine mb L b → w.heap.size ≤ b) (h8 : w.heap.size ≤ rb)
    (hb : Below V.heap.size V V1) (hL : TabAt w' tb mb L') (hs : tv L' = T') (hT : Turned (Mine mb L) V1 w') (hM : ∀ b, Mine mb L' b → Mine mb L b ∨ V1.heap.size ≤ b) : St w tb mb rb T' (tv R) N w' ∧ Keep V w' := by
  have hs1 := hb.size
  have hs2 := h6.size
  refine ⟨⟨L', R, vF, vC, hL, (h2.below hb).turned (h1.below hb) hT, hs, rfl, h5, below_turned_t (h6.trans (hb.mono h6.size)) hT h7 (by omega), fun b e => ?_, h8⟩, fun b cur hc => ?_⟩
  · rcases hM b e with h | h
    · exact h7 b h
    · omega
  · have hl := lt_of_heap hc
    rw [hT.block b (by omega) (op_apart h1 h2 hc).1, hb.block b hl]; exact hc

theorem st_ref {w V w' : World} {tb mb rb N' : Nat} {U' : Tv} {L R : List Pl} {vF vC : Value} (h1 : TabAt V tb mb L) (h2 : RefAt V rb vF vC R) (h6 : Below w.heap.size w V) (h7 : ∀ b, Mine mb L b → w.heap.size ≤ b) (h8 : w.heap.size ≤ rb)
    (hd : RefDone V rb vF vC U' N' w') : St w tb mb rb (tv L) U' N' w' ∧ Keep V w' := by
  obtain ⟨vF', vC', R', hr, hs, hl, hT, hM⟩ := hd
  have hs2 := h6.size
  refine ⟨⟨L, R', vF', vC', h1.turned h2 hT, hr, rfl, hs, hl, below_turned_t h6 hT (fun b hb => by have := (h2.lt hb).2; omega) (by omega), h7, h8⟩, fun b cur hc => ?_⟩
  rw [hT.block b (lt_of_heap hc) (op_apart h1 h2 hc).2]; exact hc

section
variable {w V : World} {tb mb rb N : Nat} {T U : Tv}

theorem St.see (h : St w tb mb rb T U N V) {V1 : World} (hb : Below V.heap.size V V1) {v : Value} {ks : List Int} (hv : KsR V1 (fun b => V.heap.size ≤ b) v ks) {p c : Int} (hp : fits p) (hc : fits c) :
    Calls Try.prog 11 #[.pointer (some ⟨tb, 0, none⟩), .int .i64 p, .int .i64 c, v] V1 fun e w' => e = .returned (.tuple #[]) ∧ St w tb mb rb (putT T p c (addKs (T p c).1 ks, (T p c).2.1, (T p c).2.2)) U N w' ∧ Keep V w' := by
  obtain ⟨L, R, vF, vC, h1, h2, rfl, rfl, h5, h6, h7, h8⟩ := h
  refine (sees_any tb mb L p c ks hp hc V1 (h1.below hb) hv (fun b hq hm => by have := mine_lt h1 hm; omega)).mono ?_
  rintro e w' ⟨rfl, L', hL, hs, hT, hM⟩
  exact ⟨rfl, st_tab h1 h2 h5 h6 h7 h8 hb hL (by funext p' c'; exact hs p' c') hT hM⟩

theorem St.rSee (h : St w tb mb rb T U N V) (hN : N ≤ 4000000000000) {v : Value} {ks : List Int} (hv : KsR V (fun b => b < w.heap.size) v ks) {p c : Int} (hp : fits p) (hc : fits c) :
    Calls Try.prog 16 #[.pointer (some ⟨rb, 0, none⟩), .int .i64 p, .int .i64 c, v] V fun e w' => e = .returned (.tuple #[]) ∧ St w tb mb rb T (putT U p c (addKs (U p c).1 ks, (U p c).2.1, (U p c).2.2)) (N + 1) w' ∧ Keep V w' := by
  obtain ⟨L, R, vF, vC, h1, h2, rfl, rfl, h5, h6, h7, h8⟩ := h
  have hv' : KsR V (fun b => b < rb) v ks := by
    obtain ⟨pv, cp, e1, e2, e3⟩ := hv
    refine ⟨pv, cp, e1, e2, fun h0 => ?_⟩
    obtain ⟨b, o, f1, f2, f3⟩ := e3 h0
    exact ⟨b, o, f1, by omega, f3⟩
  refine (rSee_any rb vF vC R p c ks hp hc V h2 (by omega) hv').mono ?_
  rintro e w' ⟨rfl, vF', vC', R', a1, a2, a3, a4, a5⟩
  exact ⟨rfl, st_ref h1 h2 h6 h7 h8 ⟨vF', vC', R', a1, a2, by omega, a4, a5⟩⟩

theorem St.call (h : St w tb mb rb T U N V) {p c n : Int} (hp : fits p) (hc : fits c) :
    Calls Try.prog 17 #[.pointer (some ⟨tb, 0, none⟩), .int .i64 p, .int .i64 c, .int .i64 n] V fun e w' => e = .returned (.tuple #[]) ∧ St w tb mb rb (putT T p c ((T p c).1, fj (T p c).2.1 (clN n), (T p c).2.2)) U N w' ∧ Keep V w' := by
  obtain ⟨L, R, vF, vC, h1, h2, rfl, rfl, h5, h6, h7, h8⟩ := h
  refine (call_any tb mb L p c n hp hc V h1).mono ?_
  rintro e w' ⟨rfl, L', hL, hs, hT, hM⟩
  exact ⟨rfl, st_tab h1 h2 h5 h6 h7 h8 (Below.refl _ _) hL (by funext p' c'; exact hs p' c') hT hM⟩

theorem St.rCall (h : St w tb mb rb T U N V) (hN : N ≤ 4000000000000) {p c n : Int} (hp : fits p) (hc : fits c) (hm : fits (U p c).1) :
    Calls Try.prog 18 #[.pointer (some ⟨rb, 0, none⟩), .int .i64 p, .int .i64 c, .int .i64 n] V fun e w' => e = .returned (.tuple #[]) ∧ St w tb mb rb T (putT U p c ((U p c).1, fj (U p c).2.1 (clN n), (U p c).2.2)) (N + 1) w' ∧ Keep V w' := by
  obtain ⟨L, R, vF, vC, h1, h2, rfl, rfl, h5, h6, h7, h8⟩ := h
  refine (rCall_any rb vF vC R p c n hp hc V h2 (by omega) hm).mono ?_
  rintro e w' ⟨rfl, vF', vC', R', a1, a2, a3, a4, a5⟩
  exact ⟨rfl, st_ref h1 h2 h6 h7 h8 ⟨vF', vC', R', a1, a2, by omega, a4, a5⟩⟩

theorem St.enter (h : St w tb mb rb T U N V) {p c : Int} (hp : fits p) (hc : fits c) :
    Calls Try.prog 19 #[.pointer (some ⟨tb, 0, none⟩), .int .i64 p, .int .i64 c] V fun e w' => e = .returned (.int .i64 (wrap64 ((T p c).2.2 + 1))) ∧ St w tb mb rb (putT T p c ((T p c).1, (T p c).2.1, wrap64 ((T p c).2.2 + 1))) U N w' ∧ Keep V w' := by
  obtain ⟨L, R, vF, vC, h1, h2, rfl, rfl, h5, h6, h7, h8⟩ := h
  refine (enter_any tb mb L p c hp hc V h1).mono ?_
  rintro e w' ⟨rfl, L', hL, hs, hT, hM⟩
  exact ⟨rfl, st_tab h1 h2 h5 h6 h7 h8 (Below.refl _ _) hL (by funext p' c'; exact hs p' c') hT hM⟩

theorem St.rEnter (h : St w tb mb rb T U N V) (hN : N ≤ 4000000000000) {p c : Int} (hp : fits p) (hc : fits c) :
    Calls Try.prog 20 #[.pointer (some ⟨rb, 0, none⟩), .int .i64 p, .int .i64 c] V fun e w' => e = .returned (.int .i64 (wrap64 ((U p c).2.2 + 1))) ∧ St w tb mb rb T (putT U p c ((U p c).1, (U p c).2.1, wrap64 ((U p c).2.2 + 1))) (N + 1) w' ∧ Keep V w' := by
  obtain ⟨L, R, vF, vC, h1, h2, rfl, rfl, h5, h6, h7, h8⟩ := h
  refine (rEnter_any rb vF vC R p c hp hc V h2 (by omega)).mono ?_
  rintro e w' ⟨rfl, vF', vC', R', a1, a2, a3, a4, a5⟩
  exact ⟨rfl, st_ref h1 h2 h6 h7 h8 ⟨vF', vC', R', a1, a2, by omega, a4, a5⟩⟩

theorem St.add (h : St w tb mb rb T U N V) {V1 : World} (hb : Below V.heap.size V V1) {v : Value} {fs : List F} (hv : FeedsR V1 (fun b => V.heap.size ≤ b) v fs) :
    Calls Try.prog 14 #[.pointer (some ⟨tb, 0, none⟩), v] V1 fun e w' => e = .returned (.tuple #[]) ∧ St w tb mb rb (fs.foldl addT T) U N w' ∧ Keep V w' := by
  obtain ⟨L, R, vF, vC, h1, h2, rfl, rfl, h5, h6, h7, h8⟩ := h
  refine (add_any tb mb L fs V1 (h1.below hb) hv (fun b hq hm => by have := mine_lt h1 hm; omega)).mono ?_
  rintro e w' ⟨rfl, L', hj⟩
  exact ⟨rfl, st_tab h1 h2 h5 h6 h7 h8 hb hj.tab hj.says hj.turned hj.mine⟩

theorem St.rAdd (h : St w tb mb rb T U N V) {v : Value} {fs : List F} (hN : N + fs.length ≤ 4000000000000) (hv : FeedsR V (fun b => b < w.heap.size) v fs) :
    Calls Try.prog 21 #[.pointer (some ⟨rb, 0, none⟩), v] V fun e w' => e = .returned (.tuple #[]) ∧ St w tb mb rb T (fs.foldl addT U) (N + fs.length) w' ∧ Keep V w' := by
  obtain ⟨L, R, vF, vC, h1, h2, rfl, rfl, h5, h6, h7, h8⟩ := h
  refine (rAdd_any rb vF vC R fs V h2 (by omega) (hv.kept fun b hb hl => ⟨by omega, hl, rfl⟩)).mono ?_
  rintro e w' ⟨rfl, vF', vC', R', a1, a2, a3, a4, a5⟩
  exact ⟨rfl, st_ref h1 h2 h6 h7 h8 ⟨vF', vC', R', a1, a2, by omega, a4, a5⟩⟩

theorem St.at (h : St w tb mb rb T U N V) {p c : Int} (hp : fits p) (hc : fits c) :
    Calls Try.prog 12 #[.pointer (some ⟨tb, 0, none⟩), .int .i64 p, .int .i64 c] V fun e w' => e = .returned (.agg #[.int .i64 p, .int .i64 c, .int .i64 (T p c).1, .int .i64 (T p c).2.1]) ∧ St w tb mb rb T U N w' ∧ Keep V w' := by
  have h0 := h
  obtain ⟨L, R, vF, vC, h1, h2, rfl, rfl, h5, h6, h7, h8⟩ := h
  refine (at_any tb mb L p c hp hc V h1).mono ?_
  rintro e w' ⟨rfl, hb⟩
  exact ⟨rfl, h0.below hb, .of_below hb⟩

theorem St.rAt (h : St w tb mb rb T U N V) (hN : N ≤ 4000000000000) {p c : Int} :
    Calls Try.prog 22 #[.pointer (some ⟨rb, 0, none⟩), .int .i64 p, .int .i64 c] V fun e w' => e = .returned (.agg #[.int .i64 p, .int .i64 c, .int .i64 (U p c).1, .int .i64 (U p c).2.1]) ∧ St w tb mb rb T U N w' ∧ Keep V w' := by
  have h0 := h
  obtain ⟨L, R, vF, vC, h1, h2, rfl, rfl, h5, h6, h7, h8⟩ := h
  refine (rAt_any rb vF vC R p c V h2 (by omega)).mono ?_
  rintro e w' ⟨rfl, hb⟩
  exact ⟨rfl, h0.below hb, .of_below hb⟩

/-- These are all the feeds of such a table, rising. -/
def IsAll (T : Tv) (l : List F) : Prop := l.Pairwise ltF ∧ ∃ L : List Pl, (L.Pairwise fun q r => ¬ (q.p = r.p ∧ q.c = r.c)) ∧ tv L = T ∧ l.Perm (got L)

theorem IsAll.same {T : Tv} {l l' : List F} (h : IsAll T l) (h' : IsAll T l') : l = l' := by
  obtain ⟨h1, L, h2, h3, h4⟩ := h
  obtain ⟨k1, L', k2, k3, k4⟩ := h'
  exact all_same h2 k2 (fun p c => by rw [h3, k3]; exact ⟨rfl, rfl⟩) h4 k4 h1 k1

theorem St.all (h : St w tb mb rb T T N V) (hN : N ≤ 4000000000000) :
    Calls Try.prog 13 #[.pointer (some ⟨tb, 0, none⟩)] V fun e w' => ∃ v l, e = .returned v ∧ FdR w' v l ∧ IsAll T l ∧ St w tb mb rb T T N w' ∧ Below V.heap.size V w' := by
  have h0 := h
  obtain ⟨L, R, vF, vC, h1, h2, rfl, h4, h5, h6, h7, h8⟩ := h
  have hl : (got L).length ≤ R.length := by
    rw [got_size (keys_of h1) h2.keys (fun p c => by rw [h4]; exact ⟨rfl, rfl⟩)]
    unfold got; rw [List.length_map]; exact List.length_filter_le _ _
  refine (all_any sort_ok none_ok tb mb L V h1 (by omega)).mono ?_
  intro e w' hd
  obtain ⟨v, l, rfl, hf, hp, hs, hb⟩ := hd.fd (by omega)
  exact ⟨v, l, rfl, hf, ⟨hs, L, keys_of h1, rfl, hp⟩, h0.below hb, hb⟩

theorem St.rAll (h : St w tb mb rb T T N V) (hN : N ≤ 4000000000000) :
    Calls Try.prog 23 #[.pointer (some ⟨rb, 0, none⟩)] V fun e w' => ∃ v l, e = .returned v ∧ FdR w' v l ∧ IsAll T l ∧ St w tb mb rb T T N w' ∧ Below V.heap.size V w' := by
  have h0 := h
  obtain ⟨L, R, vF, vC, h1, h2, h3, rfl, h5, h6, h7, h8⟩ := h
  refine (rAll_any rb vF vC R V h2 (by omega)).mono ?_
  rintro e w' ⟨v, l, rfl, hf, hp, hs, hb⟩
  exact ⟨v, l, rfl, hf, ⟨hs, R, h2.keys, rfl, hp⟩, h0.below hb, hb⟩

end
end Go.Proofs.Ytmgafcbhoamkkaa
