/-
  The walk of the law FeedJoins: it answers true.
-/
import Derived.Test.YtmgafcbhoamkkaaFeedAwake
import Derived.Test.YtmgafcbhoamkkaaBits
namespace Go.Proofs.Ytmgafcbhoamkkaa
open Go.BigFrame
open Go.RowKit Go.ChangeMaps

def cl (a : Int) : Int := if a < -2 then -2 else a
def fc (a b : Int) : Int := if a = -1 ∨ a = b then b else if b = -1 then a else -2
theorem fj_eq (a b : Int) : fj a b = fc (cl a) (cl b) := rfl
theorem cl_ge (a : Int) : -2 ≤ cl a := by unfold cl; split <;> omega
theorem cl_of {a : Int} (h : -2 ≤ a) : cl a = a := by unfold cl; rw [if_neg (by omega)]
theorem fc_ge {a b : Int} (ha : -2 ≤ a) (hb : -2 ≤ b) : -2 ≤ fc a b := by unfold fc; (repeat' split) <;> omega
theorem fc_comm (a b : Int) : fc a b = fc b a := by unfold fc; (repeat' split) <;> omega
theorem fc_self (a : Int) : fc a a = a := by unfold fc; rw [if_pos (.inr rfl)]
theorem fc_left (a b : Int) : fc (fc a b) a = fc a b := by unfold fc; (repeat' split) <;> omega
theorem fc_assoc {a b c : Int} (ha : -2 ≤ a) (hb : -2 ≤ b) (hc : -2 ≤ c) : fc (fc a b) c = fc a (fc b c) := by
  unfold fc
  by_cases h1 : a = -1
  · subst h1; simp
  by_cases h2 : b = -1
  · subst h2; simp [h1]
  by_cases h3 : c = -1
  · subst h3; simp; (repeat' split) <;> simp_all
  by_cases h4 : a = b
  · subst h4; by_cases h5 : a = c <;> simp_all
  · by_cases h5 : b = c
    · subst h5; simp_all
    · simp [h1, h2, h3, h4, h5]
      (repeat' split) <;> omega
theorem fj_comm (a b : Int) : fj a b = fj b a := by rw [fj_eq, fj_eq, fc_comm]
theorem cl_fj (a b : Int) : cl (fj a b) = fj a b := cl_of (fc_ge (cl_ge a) (cl_ge b))
theorem fj_assoc (a b c : Int) : fj (fj a b) c = fj a (fj b c) := by
  rw [fj_eq (fj a b) c, fj_eq a (fj b c), cl_fj, cl_fj]; exact fc_assoc (cl_ge a) (cl_ge b) (cl_ge c)
theorem fj_left (a b : Int) : fj (fj a b) a = fj a b := by rw [fj_eq (fj a b) a, cl_fj]; exact fc_left _ _
theorem fj_self (a b : Int) : fj (fj a b) (fj a b) = fj a b := by rw [fj_eq (fj a b) (fj a b), cl_fj]; exact fc_self _

theorem cells4 {W : World} {b : Nat} {x0 x1 x2 x3 : Value} {t : TypeId} {fr : Nat × Nat} (h : W.heap[b]? = some (.cells #[x0, x1, x2, x3] t fr)) :
    W.cell? ⟨b, 0, none⟩ = some x0 ∧ W.cell? ⟨b, 1, none⟩ = some x1 ∧ W.cell? ⟨b, 2, none⟩ = some x2 ∧ W.cell? ⟨b, 3, none⟩ = some x3 ∧ b < W.heap.size :=
  ⟨by simp [World.cell?, h], by simp [World.cell?, h], by simp [World.cell?, h], by simp [World.cell?, h], lt_of_heap h⟩

set_option maxRecDepth 100000 in
set_option maxHeartbeats 2000000 in
theorem feedJoins_any (p c m k bp bc bm bk cp cc cm ck : Int) (w : World) :
    Calls Try.prog 3 #[.agg #[.int .i64 p, .int .i64 c, .int .i64 m, .int .i64 k], .agg #[.int .i64 bp, .int .i64 bc, .int .i64 bm, .int .i64 bk], .agg #[.int .i64 cp, .int .i64 cc, .int .i64 cm, .int .i64 ck]] w
      fun e w' => e = .returned (.bool true) ∧ Below w.heap.size w w' := by
  have h1 := fun w => fJoin_any p c m k p c bm bk w
  have h2 := fun w => rJoin_any p c m k p c bm bk w
  have h3 := fun w => fJoin_any p c bm bk p c m k w
  rw [or64_comm bm m, fj_comm bk k] at h3
  have h4 := fun w => fJoin_any p c (bits .or .i64 m bm) (fj k bk) p c cm ck w
  have h5 := fun w => fJoin_any p c bm bk p c cm ck w
  have h6 := fun w => fJoin_any p c m k p c (bits .or .i64 bm cm) (fj bk ck) w
  rw [← or64_assoc, ← fj_assoc] at h6
  have h7 := fun w => fJoin_any p c (bits .or .i64 m bm) (fj k bk) p c m k w
  rw [or64_left, fj_left] at h7
  have h8 := fun w => fJoin_any p c (bits .or .i64 m bm) (fj k bk) p c (bits .or .i64 m bm) (fj k bk) w
  rw [or64_self, fj_self] at h8
  generalize bits .or .i64 m bm = X at *
  generalize fj k bk = Y at *
  generalize bits .or .i64 X cm = X2 at *
  generalize fj Y ck = Y2 at *
  generalize bits .or .i64 bm cm = X3 at *
  generalize fj bk ck = Y3 at *
  have H1 := hide h1
  have H2 := hide h2
  have H3 := hide h3
  have H4 := hide h4
  have H5 := hide h5
  have H6 := hide h6
  have H7 := hide h7
  have H8 := hide h8
  clear h1 h2 h3 h4 h5 h6 h7 h8
  go_enter Try.func3, Try.ntmps3
  go_wp2
  go_region
  go_wp2_with (go_at_call 7; refine (H1.out _).mono ?_; rintro e w1 ⟨rfl, hb1⟩)
  have hs1 : w.heap.size + 3 ≤ w1.heap.size := by have := hb1.size; simp at this; omega
  have hbw : Below w.heap.size w w1 := ((((Below.refl w.heap.size w).alloc (Nat.le_refl _) _).alloc (by simp) _).alloc (by simp; omega) _).drew.trans (hb1.mono (by simp; omega))
  have e0 : (w1.alloc (.cells #[.int .i64 p, .int .i64 c, .int .i64 X, .int .i64 Y] 23)).heap[w.heap.size]? = some (.cells #[.int .i64 p, .int .i64 c, .int .i64 m, .int .i64 k] 23) := by
    rw [Below.heap_alloc _ _ _ (by omega), hb1.block _ (by simp; omega)]
    show (((w.alloc _).alloc _).alloc _).heap[w.heap.size]? = _
    rw [heap_alloc, heap_alloc, heap_alloc]; simp; omega
  have e1 : (w1.alloc (.cells #[.int .i64 p, .int .i64 c, .int .i64 X, .int .i64 Y] 23)).heap[w.heap.size + 1]? = some (.cells #[.int .i64 p, .int .i64 c, .int .i64 bm, .int .i64 bk] 23) := by
    rw [Below.heap_alloc _ _ _ (by omega), hb1.block _ (by simp)]
    show (((w.alloc _).alloc _).alloc _).heap[w.heap.size + 1]? = _
    rw [heap_alloc, heap_alloc, heap_alloc]; simp
  have e2 : (w1.alloc (.cells #[.int .i64 p, .int .i64 c, .int .i64 X, .int .i64 Y] 23)).heap[w.heap.size + 1 + 1]? = some (.cells #[.int .i64 p, .int .i64 c, .int .i64 cm, .int .i64 ck] 23) := by
    rw [Below.heap_alloc _ _ _ (by omega), hb1.block _ (by simp)]
    show (((w.alloc _).alloc _).alloc _).heap[w.heap.size + 1 + 1]? = _
    rw [heap_alloc]; simp
  have e3 : (w1.alloc (.cells #[.int .i64 p, .int .i64 c, .int .i64 X, .int .i64 Y] 23)).heap[w1.heap.size]? = some (.cells #[.int .i64 p, .int .i64 c, .int .i64 X, .int .i64 Y] 23) := by
    rw [heap_alloc]; simp
  have HW := hide (hbw.alloc (by have := hbw.size; omega) (.cells #[.int .i64 p, .int .i64 c, .int .i64 X, .int .i64 Y] 23))
  generalize w1.alloc (.cells #[.int .i64 p, .int .i64 c, .int .i64 X, .int .i64 Y] 23) = W at *
  obtain ⟨a0, a1, a2, a3, a4⟩ := cells4 e0
  obtain ⟨b0, b1, b2, b3, b4⟩ := cells4 e1
  obtain ⟨d0, d1, d2, d3, d4⟩ := cells4 e2
  obtain ⟨x0, x1, x2, x3, x4⟩ := cells4 e3
  clear e0 e1 e2 e3 hb1 hbw hs1 H1
  refine wp_region_later (by kernel_rfl) (by kernel_rfl) ?_
  repeat (first
    | go_big_quiet_step (first | (go_at_call 8; with_reducible exact later_of (H2.out _)) | (go_at_call 9; with_reducible exact later_of (awake_any _)) | (with_reducible exact later_of (H3.out _)) | (with_reducible exact later_of (H4.out _)) | (with_reducible exact later_of (H5.out _)) | (with_reducible exact later_of (H6.out _)) | (with_reducible exact later_of (H7.out _)) | (with_reducible exact later_of (H8.out _)))
    | quiet_step (first | (go_at_call 8; with_reducible exact later_of (H2.out _)) | (go_at_call 9; with_reducible exact later_of (awake_any _)) | (with_reducible exact later_of (H3.out _)) | (with_reducible exact later_of (H4.out _)) | (with_reducible exact later_of (H5.out _)) | (with_reducible exact later_of (H6.out _)) | (with_reducible exact later_of (H7.out _)) | (with_reducible exact later_of (H8.out _))))
  refine wpQuiet_nil ?_
  rintro _ ⟨⟨w2, hb2⟩, rfl⟩
  have HF := hide (HW.out.trans (hb2.mono HW.out.size))
  clear hb2
  go_wp2
  go_ret
  exact ⟨rfl, HF.out⟩

end Go.Proofs.Ytmgafcbhoamkkaa
