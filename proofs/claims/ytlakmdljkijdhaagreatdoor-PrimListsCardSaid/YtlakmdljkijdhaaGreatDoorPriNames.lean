/-
  The primitives' names: each is the name of one primitive. No program in sight; no condition.
-/
import Derived.Test.YtlakmdljkijdhaaGreatDoorChkPlain
namespace Go.Proofs.YtlakmdljkijdhaaGreatDoor

def nm (k : Nat) : ByteArray := ⟨(primT.getD k ([], 0, 0)).1.toArray⟩

/-- The last place ahead of k that bears the name; -1: none does. -/
def lastN (s : ByteArray) : Nat → Int
  | 0 => -1
  | k + 1 => if nm k = s then (k : Int) else lastN s k

theorem names_apart : (primT.map (·.1)).Nodup := by decide +kernel

theorem nm_inj {i j : Nat} (hi : i < 92) (hj : j < 92) (h : nm i = nm j) : i = j := by
  have hl : primT.length = 92 := by decide +kernel
  have hi' : i < (primT.map (·.1)).length := by rw [List.length_map, hl]; exact hi
  have hj' : j < (primT.map (·.1)).length := by rw [List.length_map, hl]; exact hj
  have e : (primT.map (·.1))[i] = (primT.map (·.1))[j] := by
    have h2 := congrArg (fun b : ByteArray => b.data.toList) h
    simp only [nm] at h2
    rw [List.getD_eq_getElem?_getD, List.getD_eq_getElem?_getD, List.getElem?_eq_getElem (by omega), List.getElem?_eq_getElem (by omega)] at h2
    simpa using h2
  exact (List.getElem_inj (i := i) (j := j) names_apart).1 e

theorem lastN_at {s : ByteArray} {i : Nat} (hi : i < 92) (h : nm i = s) : ∀ k, k ≤ 92 → lastN s k = if i < k then (i : Int) else -1
  | 0, _ => rfl
  | k + 1, hk => by
    unfold lastN
    by_cases e : nm k = s
    · have : k = i := nm_inj (by omega) hi (e.trans h.symm)
      subst this
      rw [if_pos e, if_pos (by omega)]
    · rw [if_neg e, lastN_at hi h k (by omega)]
      have hne : i ≠ k := fun e2 => e (e2 ▸ h)
      by_cases h2 : i < k
      · rw [if_pos h2, if_pos (by omega)]
      · rw [if_neg h2, if_neg (by omega)]

theorem lastN_none {s : ByteArray} : ∀ k, (∀ j, j < k → nm j ≠ s) → lastN s k = -1
  | 0, _ => rfl
  | k + 1, h => by
    unfold lastN
    rw [if_neg (h k (by omega)), lastN_none k fun j hj => h j (by omega)]

end Go.Proofs.YtlakmdljkijdhaaGreatDoor
