/-
  The walks of the table's methods Call and Enter: what they leave.
-/
import Derived.Test.YtmgafcbhoamkkaaFeedSame
namespace Go.Proofs.Ytmgafcbhoamkkaa
open Go.RowKit Go.ChangeMaps
set_option linter.unusedSimpArgs false

/-- What counts as called. -/
def clN (n : Int) : Int := if n < 0 then -2 else n

def CallDone (w : World) (tb mb : Nat) (L : List Pl) (p c n : Int) (e : Ending) (w' : World) : Prop :=
  e = .returned (.tuple #[]) ∧ Done w tb mb L p c (tv L p c).1 (fj (tv L p c).2.1 (clN n)) (tv L p c).2.2 w'

set_option maxRecDepth 100000 in
set_option maxHeartbeats 1000000 in
theorem call_any (tb mb : Nat) (L : List Pl) (p c n : Int) (hp : fits p) (hc : fits c) (w : World) (h : TabAt w tb mb L) :
    Calls Try.prog 17 #[.pointer (some ⟨tb, 0, none⟩), .int .i64 p, .int .i64 c, .int .i64 n] w (CallDone w tb mb L p c n) := by
  by_cases hn : n < 0
  all_goals (
    go_enter Try.func17, Try.ntmps17
    go_upto_region 1 with (go_at_call 25; refine (place_any tb mb L p c hp hc w h).mono ?_; rintro e w1 ⟨L1, q, rfl, ht, hq, htv, hT, hM⟩)
    have hcell := ht.cells q (List.mem_of_find?_eq_some hq)
    obtain ⟨key1, key2⟩ := find_key hq
    obtain ⟨qp, qc, qb, qm, qk, qt⟩ := q
    dsimp only at key1 key2
    subst key1 key2
    have hql : qb < w1.heap.size := lt_of_heap hcell
    obtain ⟨⟨-, -, -, q3, -⟩, ⟨-, r3, -, -, -⟩⟩ := place_cells (show w1.heap[qb]? = some (.cells #[.int .i64 qp, .int .i64 qc, .int .i64 qm, .int .i64 qk, .int .i64 qt] 56 (0, 0)) from hcell)
    have HY := hide (And.intro ht (And.intro hq (And.intro htv (And.intro hT (And.intro hM hcell)))))
    have HN : Hid (clN n = if n < 0 then -2 else n) := rfl
    clear ht hq htv hT hM hcell h hp hc
    go_wp2_with (go_at_call 24; fail)
    refine (join_any _ _ _).mono ?_
    rintro e w2 ⟨rfl, rfl⟩
    have hcn := HN.out
    first | rw [if_pos (by omega)] at hcn | rw [if_neg (by omega)] at hcn
    have HD : Hid (Done w tb mb L qp qc (tv L qp qc).1 (fj (tv L qp qc).2.1 (clN n)) (tv L qp qc).2.2 (w1.setCell ⟨qb, 3, none⟩ (.int .i64 (fj qk (clN n))))) := by
      obtain ⟨ht, hq, htv, hT, hM, hcell⟩ := HY.out
      have e1 : tv L qp qc = (qm, qk, qt) := by rw [← htv]; exact tv_found hq
      have hst := setCell_self (o := 3) (show w1.heap[qb]? = some (.cells #[.int .i64 qp, .int .i64 qc, .int .i64 qm, .int .i64 qk, .int .i64 qt] 56 (0, 0)) from hcell) (.int .i64 (fj qk (clN n)))
      rw [e1]
      exact hide (done_of ht hq htv hT hM qm (fj qk (clN n)) qt hst ((Turned.refl (fun i => i = qb) w1).setCell (p := ⟨qb, 3, none⟩) (.inl rfl) _))
    rw [hcn] at HD
    clear HY HN
    go_wp2
    go_end0
    exact ⟨rfl, by rw [hcn]; exact HD.out⟩)

def EnterDone (w : World) (tb mb : Nat) (L : List Pl) (p c : Int) (e : Ending) (w' : World) : Prop :=
  e = .returned (.int .i64 (wrap64 ((tv L p c).2.2 + 1))) ∧ Done w tb mb L p c (tv L p c).1 (tv L p c).2.1 (wrap64 ((tv L p c).2.2 + 1)) w'

set_option maxRecDepth 100000 in
set_option maxHeartbeats 1000000 in
theorem enter_any (tb mb : Nat) (L : List Pl) (p c : Int) (hp : fits p) (hc : fits c) (w : World) (h : TabAt w tb mb L) :
    Calls Try.prog 19 #[.pointer (some ⟨tb, 0, none⟩), .int .i64 p, .int .i64 c] w (EnterDone w tb mb L p c) := by
  go_enter Try.func19, Try.ntmps19
  go_upto_region 2 with (go_at_call 25; refine (place_any tb mb L p c hp hc w h).mono ?_; rintro e w1 ⟨L1, q, rfl, ht, hq, htv, hT, hM⟩)
  have hcell := ht.cells q (List.mem_of_find?_eq_some hq)
  obtain ⟨key1, key2⟩ := find_key hq
  obtain ⟨qp, qc, qb, qm, qk, qt⟩ := q
  dsimp only at key1 key2
  subst key1 key2
  have hql : qb < w1.heap.size := lt_of_heap hcell
  obtain ⟨⟨-, -, -, -, q4⟩, ⟨-, -, r4, -, -⟩⟩ := place_cells (show w1.heap[qb]? = some (.cells #[.int .i64 qp, .int .i64 qc, .int .i64 qm, .int .i64 qk, .int .i64 qt] 56 (0, 0)) from hcell)
  have HD : Hid (tv L qp qc = (qm, qk, qt) ∧ Done w tb mb L qp qc qm qk (wrap64 (qt + 1)) (w1.setCell ⟨qb, 4, none⟩ (.int .i64 (wrap64 (qt + 1))))) := by
    have e1 : tv L qp qc = (qm, qk, qt) := by rw [← htv]; exact tv_found hq
    have hst := setCell_self (o := 4) (show w1.heap[qb]? = some (.cells #[.int .i64 qp, .int .i64 qc, .int .i64 qm, .int .i64 qk, .int .i64 qt] 56 (0, 0)) from hcell) (.int .i64 (wrap64 (qt + 1)))
    exact hide ⟨e1, done_of ht hq htv hT hM qm qk (wrap64 (qt + 1)) hst ((Turned.refl (fun i => i = qb) w1).setCell (p := ⟨qb, 4, none⟩) (.inl rfl) _)⟩
  clear ht hq htv hT hM hcell h hp hc
  go_wp2
  go_ret
  unfold EnterDone
  rw [HD.out.1]
  exact ⟨rfl, HD.out.2⟩

end Go.Proofs.Ytmgafcbhoamkkaa
