/-
  The walks of cmp.Compare and cmp.Or at ints, and of the closure by which feed.All sorts.
-/
import Derived.Test.YtmgafcbhoamkkaaFeedSort
import Derived.Test.YtmgafcbhoamkkaaFeedTurn
import Derived.StillTailTactics
import Derived.Deep.OwnRows
import Derived.Deep.LoopGhost
import Derived.Outline
import Derived.Deep.CutRange
namespace Go.Proofs.Ytmgafcbhoamkkaa
open Go.RowKit Go.ChangeMaps Go.Sort
set_option linter.unusedSimpArgs false

set_option maxHeartbeats 400000 in
theorem compare_any (x y : Int) (W : World) : Calls Try.prog 30 #[.int .i64 x, .int .i64 y] W fun e w' => e = .returned (.int .i64 (Lib.compareInt x y)) ∧ w' = W := by
  have h3 : (x < y ∧ ¬ y < x) ∨ (¬ x < y ∧ y < x) ∨ (¬ x < y ∧ ¬ y < x) := by omega
  rcases h3 with ⟨h1, h2⟩ | ⟨h1, h2⟩ | ⟨h1, h2⟩
  all_goals
    have e : Lib.compareInt x y = (if x < y then -1 else if x > y then 1 else 0) := rfl
    first
      | rw [if_pos h1] at e
      | rw [if_neg h1, if_pos h2] at e
      | rw [if_neg h1, if_neg h2] at e
    rw [e]
    clear e
    go_enter Try.func30, Try.ntmps30
    go_wp2
    go_ret
    exact ⟨rfl, rfl⟩

def orI (x y : Int) : Int := if x ≠ 0 then x else y

set_option maxHeartbeats 400000 in
theorem or_any (g cap : Nat) (x y : Int) (W : World) (h0 : W.cell? ⟨g, 0, none⟩ = some (.int .i64 x)) (h1 : W.cell? ⟨g, 1, none⟩ = some (.int .i64 y)) :
    Calls Try.prog 29 #[.slice (some ⟨g, 0, none⟩) 2 cap] W fun e w' => e = .returned (.int .i64 (orI x y)) ∧ w' = W := by
  go_enter Try.func29, Try.ntmps29
  go_wp2
  go_loop [8] (fun c => ∃ k : Nat, k ≤ 2 ∧ c = .int .i64 k ∧ (1 ≤ k → x = 0) ∧ (2 ≤ k → y = 0)) (fun c => 2 - (intOf c).toNat)
  case atStart => exact ⟨0, by omega, rfl, by omega, by omega⟩
  case round =>
    obtain ⟨k, hk, rfl, hx, hy⟩ := hrel
    have hk3 : k = 0 ∨ k = 1 ∨ k = 2 := by omega
    rcases hk3 with rfl | rfl | rfl
    · by_cases e : x = 0
      · subst e
        go_wp2
        exact ⟨⟨1, by omega, rfl, fun _ => by trivial, by omega⟩, by simp [intOf]⟩
      · go_wp2
        go_ret
        exact ⟨by simp [orI, e], rfl⟩
    · have e := hx (by omega)
      by_cases e2 : y = 0
      · subst e2
        go_wp2
        exact ⟨⟨2, by omega, rfl, fun _ => e, fun _ => by trivial⟩, by simp [intOf]⟩
      · go_wp2
        go_ret
        exact ⟨by simp [orI, e], rfl⟩
    · have e := hx (by omega)
      have e2 := hy (by omega)
      go_wp2
      go_ret
      exact ⟨by simp [orI, e, e2], rfl⟩

theorem cf_or (x y : F) : cfF x y = orI (Lib.compareInt x.1 y.1) (Lib.compareInt x.2.1 y.2.1) := rfl

theorem genF {P : Program} {c : Code} {Q : Exit → Act → World → Prop} {a : Act} {w0 : World} (F : World → Prop) (h : F w0) (k : ∀ W, F W → Code.wp P c Q a W) : Code.wp P c Q a w0 := k _ h

/-- A world with blocks laid behind it, and draws. -/
def Behind (W : World) (v : Int) (e : Ending) (w' : World) : Prop := e = .returned (.int .i64 v) ∧ ∃ q os', w' = grow (W.drewN q) os'

set_option maxRecDepth 100000 in
set_option maxHeartbeats 1000000 in
theorem closure_any (x y : F) (W : World) : Calls Try.prog 28 #[.agg #[.int .i64 x.1, .int .i64 x.2.1, .int .i64 x.2.2.1, .int .i64 x.2.2.2], .agg #[.int .i64 y.1, .int .i64 y.2.1, .int .i64 y.2.2.1, .int .i64 y.2.2.2]] W (Behind W (cfF x y)) := by
  rw [cf_or]
  obtain ⟨x0, x1, x2, x3⟩ := x
  obtain ⟨y0, y1, y2, y3⟩ := y
  dsimp only
  obtain ⟨a, ha⟩ : ∃ a, Lib.compareInt x0 y0 = a := ⟨_, rfl⟩
  obtain ⟨b, hb⟩ : ∃ b, Lib.compareInt x1 y1 = b := ⟨_, rfl⟩
  have hc1 := fun W' => compare_any x0 y0 W'
  have hc2 := fun W' => compare_any x1 y1 W'
  rw [ha] at hc1 ⊢
  rw [hb] at hc2 ⊢
  clear ha hb
  go_enter Try.func28, Try.ntmps28
  go_upto_region 1 with fail
  refine genF (fun U => U = ((W.alloc (.cells #[.int .i64 x0, .int .i64 x1, .int .i64 x2, .int .i64 x3] 23)).alloc (.cells #[.int .i64 y0, .int .i64 y1, .int .i64 y2, .int .i64 y3] 23))) rfl ?_
  intro U hU
  refine wp_region_still_tail 10 (by kernel_rfl) (by kernel_rfl) ?_
  simp only [List.take_succ_cons, List.take_zero, List.drop_succ_cons, List.drop_zero]
  change wpStill _ _ U.drew (fun a' => wpList _ _ _ _ a' U.drew) _ _
  have c0 : U.drew.cell? ⟨W.heap.size, 0, none⟩ = some (.int .i64 x0) := by rw [hU]; simp
  have c1 : U.drew.cell? ⟨W.heap.size, 1, none⟩ = some (.int .i64 x1) := by rw [hU]; simp
  have d0 : U.drew.cell? ⟨W.heap.size + 1, 0, none⟩ = some (.int .i64 y0) := by rw [hU]; simp
  have d1 : U.drew.cell? ⟨W.heap.size + 1, 1, none⟩ = some (.int .i64 y1) := by rw [hU]; simp
  have hV : U.drew = grow (W.drewN 1) #[.cells #[.int .i64 x0, .int .i64 x1, .int .i64 x2, .int .i64 x3] 23, .cells #[.int .i64 y0, .int .i64 y1, .int .i64 y2, .int .i64 y3] 23] := by
    rw [hU, alloc_eq_grow, alloc_eq_grow, grow_grow]; rfl
  generalize U.drew = V at *
  have HV := hide hV
  clear hV hU
  repeat still_step
  still_call (hc1 _)
  repeat still_step
  still_call (hc2 _)
  refine wpStill_nil ?_
  go_wp2_with (go_at_call 29; refine (or_any _ _ a b _ (by simp) (by simp)).mono ?_; rintro e u1 ⟨rfl, rfl⟩)
  go_ret
  exact ⟨rfl, 1, _, by rw [HV.out, alloc_eq_grow, grow_grow]⟩

end Go.Proofs.Ytmgafcbhoamkkaa
