/-
  The walks of the table's methods See, Call, Enter.
-/
import Derived.Test.YtmgafcbhoamkkaaFeedTurn
import Derived.LoopTactic
namespace Go.Proofs.Ytmgafcbhoamkkaa
open Go.RowKit Go.ChangeMaps

def SeeDone (w : World) (tb mb : Nat) (L : List Pl) (p c : Int) (ks : List Int) (e : Ending) (w' : World) : Prop :=
  e = .returned (.tuple #[]) ∧ Done w tb mb L p c (addKs (tv L p c).1 ks) (tv L p c).2.1 (tv L p c).2.2 w'

theorem tv_found {L : List Pl} {p c : Int} {q : Pl} (h : L.find? (nameKey p c) = some q) : tv L p c = (q.m, q.k, q.t) := by unfold tv; rw [h]

set_option maxRecDepth 100000 in
set_option maxHeartbeats 1000000 in
theorem see_any (g cap tb mb : Nat) (L : List Pl) (p c : Int) (ks : List Int) (hp : fits p) (hc : fits c) (w : World) (h : TabAt w tb mb L)
    (hg : g < w.heap.size) (hgM : ¬ Mine mb L g) (hk : ∀ j, j < ks.length → w.cell? ⟨g, j, none⟩ = some (.int .i64 (ks.getD j 0))) (hlen : ks.length ≤ 140737488351232) :
    Calls Try.prog 11 #[.pointer (some ⟨tb, 0, none⟩), .int .i64 p, .int .i64 c, .slice (some ⟨g, 0, none⟩) ks.length cap] w (SeeDone w tb mb L p c ks) := by
  go_enter Try.func11, Try.ntmps11
  go_wp2_with (go_at_call 25; refine (place_any tb mb L p c hp hc w h).mono ?_; rintro e w1 ⟨L1, q, rfl, ht, hq, htv, hT, hM⟩)
  have hcell := ht.cells q (List.mem_of_find?_eq_some hq)
  have key := find_key hq
  have hgq : g ≠ q.blk := fun e => by
    rcases hM q.blk (.inr ⟨q, List.mem_of_find?_eq_some hq, rfl⟩) with h1 | h1
    · exact hgM (e ▸ h1)
    · omega
  have hk1 : ∀ j, j < ks.length → w1.cell? ⟨g, j, none⟩ = some (.int .i64 (ks.getD j 0)) := fun j hj => by
    rw [World.cell?_of_block (w := w) (hT.block g hg hgM)]; exact hk j hj
  have hg1 : g < w1.heap.size := Nat.lt_of_lt_of_le hg hT.size
  obtain ⟨qp, qc, qb, qm, qk, qt⟩ := q
  dsimp only at key hgq
  obtain ⟨rfl, rfl⟩ := key
  have X : Hid (TabAt w1 tb mb L1 ∧ L1.find? (nameKey qp qc) = some ⟨qp, qc, qb, qm, qk, qt⟩ ∧ (∀ p' c', tv L1 p' c' = tv L p' c') ∧ Turned (Mine mb L) w w1 ∧ (∀ b, Mine mb L1 b → Mine mb L b ∨ w.heap.size ≤ b)) := ⟨ht, hq, htv, hT, hM⟩
  clear h ht hq htv hT hM hk hgM hp hc
  go_loopw [17] (fun i wr => ∃ k : Nat, k ≤ ks.length ∧ i = .int .i64 k ∧ wr.heap[qb]? = some (.cells #[.int .i64 qp, .int .i64 qc, .int .i64 (addKs qm (ks.take k)), .int .i64 qk, .int .i64 qt] 56 (0, 0)) ∧ Turned (fun b => b = qb) w1 wr)
    (fun i _ => ks.length - (intOf i).toNat)
  case atStart => exact ⟨0, Nat.zero_le _, rfl, hcell, Turned.refl _ _⟩
  case round =>
    obtain ⟨k, hkl, rfl, hb, htw⟩ := hrel
    obtain ⟨⟨-, -, c2, -, -⟩, ⟨f2, -, -, -, -⟩⟩ := place_cells hb
    by_cases hlt : k < ks.length
    · obtain ⟨x, hx⟩ : ∃ x, x = ks.getD k 0 := ⟨_, rfl⟩
      have hcx : wr.cell? ⟨g, k, none⟩ = some (.int .i64 x) := by
        rw [hx, World.cell?_of_block (w := w1) (htw.block g hg1 hgq)]; exact hk1 k hlt
      have hstep := addKs_step qm ks k hlt
      rw [← hx] at hstep
      have HS : Hid (addKs qm (ks.take (k + 1)) = addK (addKs qm (ks.take k)) x) := hstep
      have HB : Hid (wr.heap[qb]? = some (.cells #[.int .i64 qp, .int .i64 qc, .int .i64 (addKs qm (ks.take k)), .int .i64 qk, .int .i64 qt] 56 (0, 0)) ∧ Turned (fun b => b = qb) w1 wr) := ⟨hb, htw⟩
      clear hx hstep hk1 hb htw hcell
      generalize hM0 : addKs qm (ks.take k) = m0 at *
      clear hM0
      by_cases hr : 1 ≤ x ∧ x ≤ 62
      · have HR : Hid (addK m0 x = bits BinOp.or .i64 m0 (bitK x)) := if_pos hr
        obtain ⟨hr1, hr2⟩ := hr
        go_wp2
        go_region
        go_wp2
        refine ⟨⟨k + 1, by omega, by go_num, ?_, ?_⟩, by simp [intOf]; omega⟩
        · rw [HS.out, HR.out]
          exact setCell_self HB.out.1 _
        · exact (HB.out.2.setCell (p := ⟨qb, 2, none⟩) (.inl rfl) _).trans (T := fun _ => False) ⟨rfl, rfl, rfl, Nat.le_refl _, fun _ _ _ => rfl⟩ (fun _ h => h.elim)
      · have HR : Hid (addK m0 x = m0) := if_neg hr
        by_cases hr1 : 1 ≤ x
        · have hr2 : 62 < x := by omega
          clear hr
          go_wp2
          refine ⟨⟨k + 1, by omega, by go_num, ?_, HB.out.2⟩, by simp [intOf]; omega⟩
          rw [HS.out, HR.out]; exact HB.out.1
        · clear hr
          go_wp2
          refine ⟨⟨k + 1, by omega, by go_num, ?_, HB.out.2⟩, by simp [intOf]; omega⟩
          rw [HS.out, HR.out]; exact HB.out.1
    · have : k = ks.length := by omega
      subst this
      obtain ⟨ht, hq, htv, hT, hM⟩ := X.out
      have HB : Hid (wr.heap[qb]? = some (.cells #[.int .i64 qp, .int .i64 qc, .int .i64 (addKs qm ks), .int .i64 qk, .int .i64 qt] 56 (0, 0)) ∧ Turned (fun b => b = qb) w1 wr) := ⟨by rw [List.take_length] at hb; exact hb, htw⟩
      have HD := done_of ht hq htv hT hM (addKs qm ks) qk qt HB.out.1 HB.out.2
      have e1 : tv L qp qc = (qm, qk, qt) := by rw [← htv]; exact tv_found hq
      have HF : Hid (SeeDone w tb mb L qp qc ks (.returned (.tuple #[])) wr) := ⟨rfl, by rw [e1]; exact HD⟩
      clear ht hq htv hT hM HD e1 HB hb htw c2 f2 hcell hk1
      go_wp2
      go_end0
      exact HF.out

end Go.Proofs.Ytmgafcbhoamkkaa
