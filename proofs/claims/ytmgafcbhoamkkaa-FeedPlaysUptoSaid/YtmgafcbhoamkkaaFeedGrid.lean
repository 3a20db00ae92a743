/-
  The table of five by five places: how many of its places say something. No function of the program in sight; no condition.
-/
import Derived.Test.YtmgafcbhoamkkaaFeedTurn
namespace Go.Proofs.Ytmgafcbhoamkkaa
open Go.RowKit

/-- A place that says something. -/
def live (q : Pl) : Bool := !(q.m == 0 && q.k == -1)

/-- What a table says that has seen M at the place 5 p + c. -/
def seenTv (M : Nat → Int) (p c : Int) : Int × Int × Int := if 0 ≤ p ∧ p < 5 ∧ 0 ≤ c ∧ c < 5 then (M (p * 5 + c).toNat, -1, 0) else (0, -1, 0)

def nz (M : Nat → Int) (i : Nat) : Bool := M i != 0
def cnt (M : Nat → Int) (i : Nat) : Nat := ((List.range i).filter (nz M)).length
theorem cnt_succ (M : Nat → Int) (i : Nat) : cnt M (i + 1) = cnt M i + if M i = 0 then 0 else 1 := by
  unfold cnt
  rw [List.range_succ, List.filter_append, List.length_append]
  have e : (List.filter (nz M) [i]).length = if M i = 0 then 0 else 1 := by
    by_cases h : M i = 0
    · rw [if_pos h, List.filter_cons_of_neg (by simp [nz, h])]; rfl
    · rw [if_neg h, List.filter_cons_of_pos (by simp [nz, h])]; rfl
  rw [e]
theorem cnt_le (M : Nat → Int) (i : Nat) : cnt M i ≤ i := by
  unfold cnt
  exact Nat.le_trans (List.length_filter_le _ _) (by simp)

theorem live_keys {L : List Pl} (ha : L.Pairwise fun q r => ¬ (q.p = r.p ∧ q.c = r.c)) : ((L.filter live).map fun q => (q.p, q.c)).Nodup := by
  unfold List.Nodup
  rw [List.pairwise_map]
  refine (ha.filter _).imp fun {q r} h e => h ?_
  simp only [Prod.mk.injEq] at e
  exact e

theorem grid_keys (M : Nat → Int) : (((List.range 25).filter (nz M)).map fun i : Nat => (((i / 5 : Nat) : Int), ((i % 5 : Nat) : Int))).Nodup := by
  unfold List.Nodup
  rw [List.pairwise_map]
  refine (List.nodup_range.filter _).imp fun {i j} h e => h ?_
  simp only [Prod.mk.injEq] at e
  omega

theorem live_count {L : List Pl} {M : Nat → Int} (ha : L.Pairwise fun q r => ¬ (q.p = r.p ∧ q.c = r.c)) (htv : ∀ p c, tv L p c = seenTv M p c) : (L.filter live).length = cnt M 25 := by
  have hp : ((L.filter live).map fun q => (q.p, q.c)).Perm (((List.range 25).filter (nz M)).map fun i : Nat => (((i / 5 : Nat) : Int), ((i % 5 : Nat) : Int))) := by
    rw [List.perm_ext_iff_of_nodup (live_keys ha) (grid_keys M)]
    rintro ⟨p, c⟩
    constructor
    · intro h
      obtain ⟨q, hq, e⟩ := List.mem_map.1 h
      rw [List.mem_filter] at hq
      simp only [Prod.mk.injEq] at e
      obtain ⟨rfl, rfl⟩ := e
      have h1 := htv q.p q.c
      have h2 : tv L q.p q.c = (q.m, q.k, q.t) := by unfold tv; rw [find_mem ha hq.1]
      rw [h2] at h1
      unfold seenTv at h1
      split at h1
      · rename_i hr
        simp only [Prod.mk.injEq] at h1
        refine List.mem_map.2 ⟨(q.p * 5 + q.c).toNat, List.mem_filter.2 ⟨by rw [List.mem_range]; omega, ?_⟩, ?_⟩
        · have hl := hq.2
          unfold nz
          rw [← h1.1]
          unfold live at hl
          rw [h1.2.1] at hl
          simpa using hl
        · simp only [Prod.mk.injEq]
          omega
      · simp only [Prod.mk.injEq] at h1
        have hl := hq.2
        unfold live at hl
        rw [h1.1, h1.2.1] at hl
        cases hl
    · intro h
      obtain ⟨i, hi, e⟩ := List.mem_map.1 h
      rw [List.mem_filter, List.mem_range] at hi
      simp only [Prod.mk.injEq] at e
      have h1 := htv p c
      unfold seenTv at h1
      rw [if_pos (by omega), show (p * 5 + c).toNat = i from by omega] at h1
      unfold tv at h1
      cases hq : L.find? (nameKey p c) with
      | none =>
        rw [hq] at h1
        simp only [Prod.mk.injEq] at h1
        have := hi.2
        unfold nz at this
        rw [← h1.1] at this
        cases this
      | some q =>
        rw [hq] at h1
        simp only [Prod.mk.injEq] at h1
        have hk := find_key hq
        refine List.mem_map.2 ⟨q, List.mem_filter.2 ⟨List.mem_of_find?_eq_some hq, ?_⟩, by simp [hk]⟩
        have hn := hi.2
        unfold nz at hn
        unfold live
        rw [h1.1]
        simp only [bne_iff_ne, ne_eq] at hn
        simp [hn]
  have := hp.length_eq
  simpa [cnt] using this

end Go.Proofs.Ytmgafcbhoamkkaa
