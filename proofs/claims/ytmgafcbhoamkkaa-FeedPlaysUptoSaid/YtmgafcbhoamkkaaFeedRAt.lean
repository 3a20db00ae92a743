/-
  The walk of the document's table's At: what it says of a place.
-/
import Derived.Test.YtmgafcbhoamkkaaFeedFind
import Derived.BigRegion
import Derived.BigQuiet
namespace Go.Proofs.Ytmgafcbhoamkkaa
open Go.RowKit Go.ChangeMaps
set_option linter.unusedSimpArgs false

/-! ### At -/
theorem tv_none {R : List Pl} {p c : Int} (h : ∀ (j : Nat) q, R[j]? = some q → ¬ (q.p = p ∧ q.c = c)) : tv R p c = (0, -1, 0) := by
  unfold tv
  rw [List.find?_eq_none.2 fun q hq => ?_]
  obtain ⟨j, hj⟩ := List.mem_iff_getElem?.1 hq
  rw [nameKey_iff]
  exact h j q hj

set_option maxRecDepth 100000 in
set_option maxHeartbeats 2000000 in
theorem rAt_any (rb : Nat) (vF vC : Value) (R : List Pl) (p c : Int) (w : World) (h : RefAt w rb vF vC R) (hlen : R.length ≤ 4000000000000) :
    Calls Try.prog 22 #[.pointer (some ⟨rb, 0, none⟩), .int .i64 p, .int .i64 c] w fun e w' => e = .returned (.agg #[.int .i64 p, .int .i64 c, .int .i64 (tv R p c).1, .int .i64 (tv R p c).2.1]) ∧ Below w.heap.size w w' := by
  obtain ⟨x0, x1, f0, f1, hrb⟩ := refs_box h.box
  obtain ⟨pF, capF, rfl, hcF, hnF, -⟩ := own_slice h.fs
  obtain ⟨n, hn⟩ : ∃ n, R.length = n := ⟨_, rfl⟩
  have HI := hide (And.intro hn h)
  rw [hn] at hlen hcF x0
  clear hn h x1 f0 f1
  go_enter Try.func22, Try.ntmps22
  go_wp2
  go_loop [7] (fun c7 => ∃ k : Nat, k ≤ n ∧ c7 = .int .i64 k ∧ ∀ (j : Nat) q, j < k → R[j]? = some q → ¬ (q.p = p ∧ q.c = c)) (fun c7 => n - (intOf c7).toNat)
  case atStart => exact ⟨0, Nat.zero_le _, rfl, fun j q hj => by omega⟩
  case round =>
    obtain ⟨k, hk, rfl, hno⟩ := hrel
    by_cases hlt : k < n
    · obtain ⟨hn, h⟩ := HI.out
      obtain ⟨g, cap, e1, -, hgl, -, hrow⟩ := h.rowF (by omega)
      cases e1
      obtain ⟨q, hq⟩ : ∃ q, R[k]? = some q := ⟨_, List.getElem?_eq_getElem (by omega)⟩
      obtain ⟨y0, y1, y2, y3⟩ := hrow k q hq
      have hlt' : (k : Int) < n := by omega
      have hk0 : (0 : Int) ≤ k := by omega
      obtain ⟨qp, qc, qb, qm, qk, qt⟩ := q
      dsimp only at y0 y1 y2 y3
      have HQ := hide (And.intro hq (And.intro hno h))
      clear hrow h hn hq hno
      by_cases e1 : qp = p
      · subst e1
        by_cases e2 : qc = c
        · subst e2
          go_wp2
          obtain ⟨hq, hno, h⟩ := HQ.out
          have e := tv_found (find_at h.keys hq)
          dsimp only at e
          rw [e]
          refine bodyPost_ret (v := .agg #[.int .i64 qp, .int .i64 qc, .int .i64 qm, .int .i64 qk]) (by simp [results, Try.results22, go_sem]) rfl ⟨rfl, (Below.refl _ _).alloc (Nat.le_refl _) _⟩
        · go_wp2
          refine ⟨⟨k + 1, by omega, by go_num, fun j q hj hjq => ?_⟩, by simp [intOf]; omega⟩
          by_cases e3 : j = k
          · subst e3; rw [HQ.out.1] at hjq; cases hjq; exact fun e => e2 e.2
          · exact HQ.out.2.1 j q (by omega) hjq
      · go_wp2
        refine ⟨⟨k + 1, by omega, by go_num, fun j q hj hjq => ?_⟩, by simp [intOf]; omega⟩
        by_cases e3 : j = k
        · subst e3; rw [HQ.out.1] at hjq; cases hjq; exact fun e => e1 e.1
        · exact HQ.out.2.1 j q (by omega) hjq
    · have hkn : k = n := by omega
      subst hkn
      have hN : tv R p c = (0, -1, 0) := tv_none fun j q hq => hno j q (by rw [← HI.out.1]; exact (List.getElem?_eq_some_iff.1 hq).1) hq
      have HN := hide hN
      clear hno hN
      go_wp2
      rw [HN.out]
      refine bodyPost_ret (v := .agg #[.int .i64 p, .int .i64 c, .int .i64 0, .int .i64 (-1)]) (by simp [results, Try.results22, go_sem]) rfl ⟨rfl, (Below.refl _ _).alloc (Nat.le_refl _) _⟩

end Go.Proofs.Ytmgafcbhoamkkaa
