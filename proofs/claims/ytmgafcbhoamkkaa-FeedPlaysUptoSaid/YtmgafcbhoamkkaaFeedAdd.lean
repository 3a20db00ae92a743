/-
  The walk of the table's method Add: what feeds leave of a table.
-/
import Derived.Test.YtmgafcbhoamkkaaFeedFold
import Derived.Test.YtmgafcbhoamkkaaFeedRead
import Derived.LoopTactic
namespace Go.Proofs.Ytmgafcbhoamkkaa
open Go.RowKit Go.ChangeMaps
set_option linter.unusedSimpArgs false

/-- What feeds leave of a table. -/
structure Joined (w : World) (tb mb : Nat) (L : List Pl) (fs : List F) (w' : World) (L' : List Pl) : Prop where
  tab : TabAt w' tb mb L'
  says : tv L' = fs.foldl addT (tv L)
  turned : Turned (Mine mb L) w w'
  mine : ∀ b, Mine mb L' b → Mine mb L b ∨ w.heap.size ≤ b

theorem Joined.zero {w : World} {tb mb : Nat} {L : List Pl} (h : TabAt w tb mb L) : Joined w tb mb L [] w L := ⟨h, rfl, .refl _ _, fun _ h => .inl h⟩

/-- One feed more. -/
theorem Joined.step {w wr wr' w' : World} {tb mb : Nat} {L L1 : List Pl} {fs : List F} {k : Nat} {x : F} (h : Joined w tb mb L (fs.take k) wr L1) (hx : fs[k]? = some x) (hb : Below wr.heap.size wr wr')
    (hd : Done wr' tb mb L1 x.1 x.2.1 (bits BinOp.or .i64 (tv L1 x.1 x.2.1).1 x.2.2.1) (fj (tv L1 x.1 x.2.1).2.1 x.2.2.2) (tv L1 x.1 x.2.1).2.2 w') : ∃ L2, Joined w tb mb L (fs.take (k + 1)) w' L2 := by
  obtain ⟨L2, h1, h2, h3, h4⟩ := hd
  have hk : k < fs.length := (List.getElem?_eq_some_iff.1 hx).1
  have hxk : fs[k] = x := (List.getElem?_eq_some_iff.1 hx).2
  refine ⟨L2, h1, ?_, ?_, fun b hb2 => ?_⟩
  · rw [List.take_succ_eq_append_getElem hk, List.foldl_append, ← h.says, hxk]
    funext p c
    rw [h2]
    simp only [List.foldl_cons, List.foldl_nil, addT]
    split
    · rename_i e
      obtain ⟨rfl, rfl⟩ := e
      rfl
    · rfl
  · have h5 : Turned (Mine mb L1) wr w' := (Turned.of_below hb).trans h3 fun _ => .inl
    exact h.turned.trans h5 h.mine
  · rcases h4 b hb2 with e | e
    · exact h.mine b e
    · have := hb.size; have := h.turned.size; exact .inr (by omega)

def AddDone (w : World) (tb mb : Nat) (L : List Pl) (fs : List F) (e : Ending) (w' : World) : Prop := e = .returned (.tuple #[]) ∧ ∃ L', Joined w tb mb L fs w' L'

theorem mine_lt {w : World} {tb mb b : Nat} {L : List Pl} (h : TabAt w tb mb L) (hm : Mine mb L b) : b < w.heap.size := by
  rcases hm with rfl | ⟨q, hq, rfl⟩
  · obtain ⟨es, clock, hb, -⟩ := h.map
    exact lt_of_heap hb
  · exact lt_of_heap (h.cells q hq)

theorem later_self {P : Program} {f : FuncId} {args : Array Value} {w : World} {v : Value} (h : Calls P f args w fun e w' => e = .returned v ∧ Below w.heap.size w w') : Calls P f args w fun e w' => e = .returned v ∧ ∃ y : Later w, w' = after w y :=
  h.mono fun _ w' ⟨he, hb⟩ => ⟨he, ⟨w', hb⟩, rfl⟩

/-- Four of a place's cells written. -/
def store4 (w : World) (b : Nat) (p c m k : Int) : World := (((w.setCell ⟨b, 0, none⟩ (.int .i64 p)).setCell ⟨b, 1, none⟩ (.int .i64 c)).setCell ⟨b, 2, none⟩ (.int .i64 m)).setCell ⟨b, 3, none⟩ (.int .i64 k)

theorem stored4 {w : World} {b : Nat} {p c m k t : Int} {ty : TypeId} (h : w.heap[b]? = some (.cells #[.int .i64 p, .int .i64 c, .int .i64 m, .int .i64 k, .int .i64 t] ty (0, 0))) (p' c' m' k' : Int) :
    (store4 w b p' c' m' k').heap[b]? = some (.cells #[.int .i64 p', .int .i64 c', .int .i64 m', .int .i64 k', .int .i64 t] ty (0, 0)) := by
  unfold store4
  rw [setCell_self (setCell_self (setCell_self (setCell_self h _) _) _) _]
  rfl

theorem turned_store4 (w : World) (b : Nat) (p c m k : Int) : Turned (fun i => i = b) w (store4 w b p c m k) :=
  ((((Turned.refl (fun i => i = b) w).setCell (p := ⟨b, 0, none⟩) (.inl rfl) _).setCell (p := ⟨b, 1, none⟩) (.inl rfl) _).setCell (p := ⟨b, 2, none⟩) (.inl rfl) _).setCell (p := ⟨b, 3, none⟩) (.inl rfl) _

set_option maxRecDepth 100000 in
set_option maxHeartbeats 2000000 in
theorem add_any (tb mb : Nat) (L : List Pl) (fs : List F) (w : World) (h : TabAt w tb mb L) {Q : Nat → Prop} {v : Value} (hf : FeedsR w Q v fs) (hQ : ∀ b, Q b → ¬ Mine mb L b) :
    Calls Try.prog 14 #[.pointer (some ⟨tb, 0, none⟩), v] w (AddDone w tb mb L fs) := by
  obtain ⟨p, c, rfl, hlen, -, hfit, hcell⟩ := hf
  obtain ⟨n, hn⟩ : ∃ n, fs.length = n := ⟨_, rfl⟩
  have HI := hide (And.intro hn (And.intro hfit (And.intro hcell (And.intro hQ h))))
  rw [hn] at hlen ⊢
  clear hn hfit hcell hQ h
  go_enter Try.func14, Try.ntmps14
  go_wp2
  go_loopw [9] (fun i wr => ∃ (k : Nat) (L1 : List Pl), k ≤ n ∧ i = .int .i64 k ∧ Joined w tb mb L (fs.take k) wr L1) (fun i _ => n - (intOf i).toNat)
  case atStart => exact ⟨0, L, Nat.zero_le _, rfl, .zero HI.out.2.2.2.2⟩
  case round =>
    obtain ⟨k, L1, hk, rfl, hj⟩ := hrel
    by_cases hlt : k < n
    · obtain ⟨hn, hfit, hcell, hQ, h⟩ := HI.out
      obtain ⟨b, o, rfl, hQb, hbl, hc⟩ := hcell (by omega)
      obtain ⟨x, hx⟩ : ∃ x, fs[k]? = some x := ⟨_, List.getElem?_eq_getElem (by omega)⟩
      have hfx := hfit x (List.mem_of_getElem? hx)
      have hw : ∀ o', wr.cell? ⟨b, o', none⟩ = w.cell? ⟨b, o', none⟩ := fun o' => World.cell?_of_block (hj.turned.block b hbl (hQ b hQb))
      obtain ⟨x0, x1, x2, x3⟩ := x
      have c0 := (hw _).trans (hc k _ hx 0 _ rfl)
      have c1 := (hw _).trans (hc k _ hx 1 _ rfl)
      have c2 := (hw _).trans (hc k _ hx 2 _ rfl)
      have c3 := (hw _).trans (hc k _ hx 3 _ rfl)
      simp only [Nat.add_zero] at c0 c1 c2 c3
      dsimp only at c0 c1 c2 c3 hfx
      have hbl' := Nat.lt_of_lt_of_le hbl hj.turned.size
      have hlt' : (k : Int) < n := by omega
      have hk0 : (0 : Int) ≤ k := by omega
      have hA : TabAt (wr.alloc (.cells #[.int .i64 x0, .int .i64 x1, .int .i64 x2, .int .i64 x3] 23)) tb mb L1 := hj.tab.below ((Below.refl _ _).alloc (Nat.le_refl _) _)
      have HP := hide (place_any tb mb L1 x0 x1 hfx.1 hfx.2 _ hA)
      have HX := hide (And.intro hx (And.intro hj (And.intro hn hA)))
      clear hcell hc hx hj hA h hn hfit hQ hw hfx hQb HI
      go_upto_region 4 with (go_at_call 25; refine HP.out.mono ?_; rintro e w1 ⟨L2, q, rfl, ht, hq, htv, hT, hM⟩)
      obtain ⟨hx, hj, hn, hA⟩ := HX.out
      have hcell := ht.cells q (List.mem_of_find?_eq_some hq)
      obtain ⟨key1, key2⟩ := find_key hq
      have hbox : w1.heap[wr.heap.size]? = some (.cells #[.int .i64 x0, .int .i64 x1, .int .i64 x2, .int .i64 x3] 23 (0, 0)) := by
        rw [hT.block wr.heap.size (by rw [Deep.nblk_alloc]; omega) (fun hm => ?_)]
        · exact heap_alloc_new wr _
        · have := mine_lt hj.tab hm
          omega
      have hboxl : wr.heap.size < w1.heap.size := lt_of_heap hbox
      have hne : q.blk ≠ wr.heap.size := fun e => by
        rw [e, hbox] at hcell
        unfold Pl.obj at hcell
        simp at hcell
      obtain ⟨qp, qc, qb, qm, qk, qt⟩ := q
      dsimp only at key1 key2 hne
      subst key1 key2
      have hql : qb < w1.heap.size := lt_of_heap hcell
      obtain ⟨⟨q0, q1, q2, q3, q4⟩, ⟨r2, r3, r4, r0, r1⟩⟩ := place_cells (show w1.heap[qb]? = some (.cells #[.int .i64 qp, .int .i64 qc, .int .i64 qm, .int .i64 qk, .int .i64 qt] 56 (0, 0)) from hcell)
      obtain ⟨b0, b1, b2, b3, -⟩ := cells4 hbox
      have HY := hide (And.intro hx (And.intro hj (And.intro hA (And.intro ht (And.intro hq (And.intro htv (And.intro hT (And.intro hM hcell))))))))
      have HJ := hide (fun w => fJoin_any qp qc qm qk qp qc x2 x3 w)
      clear hx hj hA ht hq htv hT hM hcell hbox HX HP c0 c1 c2 c3
      go_region_with (go_at_call 7; refine (HJ.out _).mono ?_; rintro e w2 ⟨rfl, hb2⟩; have hc2 : w2.heap[qb]? = some (.cells #[.int .i64 qp, .int .i64 qc, .int .i64 qm, .int .i64 qk, .int .i64 qt] 56 (0, 0)) := (hb2.block qb hql).trans HY.out.2.2.2.2.2.2.2.2; obtain ⟨⟨s0, s1, s2, s3, s4⟩, ⟨t2, t3, t4, t0, t1⟩⟩ := place_cells hc2)
      all_goals (
        clear b0 b1 b2 b3 q0 q1 q2 q3 q4 r0 r1 r2 r3 r4 s0 s1 s2 s3 s4 t0 t1 t2 t3 t4
        obtain ⟨hx, hj, hA, ht, hq, htv, hT, hM, hcell⟩ := HY.out
        have hst := stored4 hc2 qp qc (bits BinOp.or .i64 qm x2) (fj qk x3)
        have hT1 : Turned (fun i => i = qb) w1 (store4 w2 qb qp qc (bits BinOp.or .i64 qm x2) (fj qk x3)) := (Turned.of_below (w := w1) (w' := w2) ⟨hb2.os, hb2.tape, hb2.output, hb2.size, hb2.block⟩).trans (turned_store4 _ _ _ _ _ _) (fun _ h => .inl h)
        have hd := done_of ht hq htv hT hM _ _ _ hst hT1
        have e1 : tv L1 qp qc = (qm, qk, qt) := by rw [← htv]; exact tv_found hq
        have HD := hide (hj.step hx ((Below.refl _ _).alloc (Nat.le_refl _) _) (by rw [e1]; exact hd))
        clear hx hj hA ht hq htv hT hM hcell hst hT1 hd e1 HY
        go_wp2
        exact ⟨⟨k + 1, HD.out.choose, by omega, by go_num, HD.out.choose_spec⟩, by simp [intOf]; omega⟩)
    · have : k = n := by omega
      subst this
      have HX := hide (show Joined w tb mb L fs wr L1 by rw [← HI.out.1, List.take_length] at hj; exact hj)
      clear hj
      go_wp2
      go_end0
      exact ⟨rfl, L1, HX.out⟩

end Go.Proofs.Ytmgafcbhoamkkaa
