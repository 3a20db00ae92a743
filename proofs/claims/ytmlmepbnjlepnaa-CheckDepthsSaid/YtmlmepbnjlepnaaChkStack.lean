/-
  The walks of the checker's method stack.
-/
import Derived.Test.YtmlmepbnjlepnaaChkMem
namespace Go.Proofs.Ytmlmepbnjlepnaa
open Go.RowKit Go.BigFrame
set_option linter.unusedVariables false

set_option maxRecDepth 100000 in
set_option maxHeartbeats 4000000 in
theorem stack_2_slot (cb pb : Nat) (psv : Value) (a b d : Int) (w : World) (h : ChkAt w cb pb psv) (hd0 : 0 ≤ d) (hd1 : d ≤ 4096) (hs : inB a d = false) :
    Calls Try.prog 23 #[.pointer (some ⟨cb, 0, none⟩), .agg #[.int .i64 2, .int .i64 a, .int .i64 b], .int .i64 d] w fun e w' => e = .returned (.tuple #[.int .i64 0, .int .i64 33]) ∧ Below w.heap.size w w' := by
  have hcb := lt_of_heap h.chk
  have hcb1 : cb < w.heap.size + 1 := by omega
  have hcb2 : cb < w.heap.size + 1 + 1 := by omega
  obtain ⟨c0, c1, c2, c3, c4, c5, c6, c7, c8⟩ := h.want 2 (by omega)
  simp [wantT] at c0 c1 c2 c3 c4 c5 c6 c7 c8
  clear h
  go_enter Try.func23, Try.ntmps23
  go_wp2
  go_region
  go_wp2
  go_quiet (fail)
  go_wp2_with (go_at_call 17; refine (in_any _ _ _).mono ?_; rintro e w' ⟨rfl, rfl⟩)
  go_ret2
  exact ⟨rfl, by repeat (first | exact Below.refl _ _ | apply Below.drew | apply below_drewN | refine Below.alloc ?_ (by simp <;> omega) _)⟩

set_option maxRecDepth 100000 in
set_option maxHeartbeats 4000000 in
theorem stack_2_deep (cb pb : Nat) (psv : Value) (a b d : Int) (w : World) (h : ChkAt w cb pb psv) (hd0 : 0 ≤ d) (hd1 : d ≤ 4096) (hs : inB a d = true) (hm : 4096 < d + 1) :
    Calls Try.prog 23 #[.pointer (some ⟨cb, 0, none⟩), .agg #[.int .i64 2, .int .i64 a, .int .i64 b], .int .i64 d] w fun e w' => e = .returned (.tuple #[.int .i64 0, .int .i64 31]) ∧ Below w.heap.size w w' := by
  have hcb := lt_of_heap h.chk
  have hcb1 : cb < w.heap.size + 1 := by omega
  have hcb2 : cb < w.heap.size + 1 + 1 := by omega
  obtain ⟨c0, c1, c2, c3, c4, c5, c6, c7, c8⟩ := h.want 2 (by omega)
  simp [wantT] at c0 c1 c2 c3 c4 c5 c6 c7 c8
  clear h
  go_enter Try.func23, Try.ntmps23
  go_wp2
  go_region
  go_wp2
  go_quiet (fail)
  go_wp2_with (go_at_call 17; refine (in_any _ _ _).mono ?_; rintro e w' ⟨rfl, rfl⟩)
  go_ret2
  exact ⟨rfl, by repeat (first | exact Below.refl _ _ | apply Below.drew | apply below_drewN | refine Below.alloc ?_ (by simp <;> omega) _)⟩

set_option maxRecDepth 100000 in
set_option maxHeartbeats 4000000 in
theorem stack_2_ok (cb pb : Nat) (psv : Value) (a b d : Int) (w : World) (h : ChkAt w cb pb psv) (hd0 : 0 ≤ d) (hd1 : d ≤ 4096) (hs : inB a d = true) (hm : d + 1 ≤ 4096) :
    Calls Try.prog 23 #[.pointer (some ⟨cb, 0, none⟩), .agg #[.int .i64 2, .int .i64 a, .int .i64 b], .int .i64 d] w fun e w' => e = .returned (.tuple #[.int .i64 (d + 1), .int .i64 0]) ∧ Below w.heap.size w w' := by
  have hcb := lt_of_heap h.chk
  have hcb1 : cb < w.heap.size + 1 := by omega
  have hcb2 : cb < w.heap.size + 1 + 1 := by omega
  obtain ⟨c0, c1, c2, c3, c4, c5, c6, c7, c8⟩ := h.want 2 (by omega)
  simp [wantT] at c0 c1 c2 c3 c4 c5 c6 c7 c8
  clear h
  go_enter Try.func23, Try.ntmps23
  go_wp2
  go_region
  go_wp2
  go_quiet (fail)
  go_wp2_with (go_at_call 17; refine (in_any _ _ _).mono ?_; rintro e w' ⟨rfl, rfl⟩)
  go_ret2
  exact ⟨rfl, by repeat (first | exact Below.refl _ _ | apply Below.drew | apply below_drewN | refine Below.alloc ?_ (by simp <;> omega) _)⟩

set_option maxRecDepth 100000 in
set_option maxHeartbeats 4000000 in
theorem stack_21_slot (cb pb : Nat) (psv : Value) (a b d : Int) (w : World) (h : ChkAt w cb pb psv) (hd0 : 0 ≤ d) (hd1 : d ≤ 4096) (hs : inB a d = false) :
    Calls Try.prog 23 #[.pointer (some ⟨cb, 0, none⟩), .agg #[.int .i64 21, .int .i64 a, .int .i64 b], .int .i64 d] w fun e w' => e = .returned (.tuple #[.int .i64 0, .int .i64 33]) ∧ Below w.heap.size w w' := by
  have hcb := lt_of_heap h.chk
  have hcb1 : cb < w.heap.size + 1 := by omega
  have hcb2 : cb < w.heap.size + 1 + 1 := by omega
  obtain ⟨c0, c1, c2, c3, c4, c5, c6, c7, c8⟩ := h.want 21 (by omega)
  simp [wantT] at c0 c1 c2 c3 c4 c5 c6 c7 c8
  clear h
  go_enter Try.func23, Try.ntmps23
  go_wp2
  go_region
  go_wp2
  go_quiet (fail)
  go_wp2_with (go_at_call 17; refine (in_any _ _ _).mono ?_; rintro e w' ⟨rfl, rfl⟩)
  go_ret2
  exact ⟨rfl, by repeat (first | exact Below.refl _ _ | apply Below.drew | apply below_drewN | refine Below.alloc ?_ (by simp <;> omega) _)⟩

set_option maxRecDepth 100000 in
set_option maxHeartbeats 4000000 in
theorem stack_21_deep (cb pb : Nat) (psv : Value) (a b d : Int) (w : World) (h : ChkAt w cb pb psv) (hd0 : 0 ≤ d) (hd1 : d ≤ 4096) (hs : inB a d = true) (hm : 4096 < d + 1) :
    Calls Try.prog 23 #[.pointer (some ⟨cb, 0, none⟩), .agg #[.int .i64 21, .int .i64 a, .int .i64 b], .int .i64 d] w fun e w' => e = .returned (.tuple #[.int .i64 0, .int .i64 31]) ∧ Below w.heap.size w w' := by
  have hcb := lt_of_heap h.chk
  have hcb1 : cb < w.heap.size + 1 := by omega
  have hcb2 : cb < w.heap.size + 1 + 1 := by omega
  obtain ⟨c0, c1, c2, c3, c4, c5, c6, c7, c8⟩ := h.want 21 (by omega)
  simp [wantT] at c0 c1 c2 c3 c4 c5 c6 c7 c8
  clear h
  go_enter Try.func23, Try.ntmps23
  go_wp2
  go_region
  go_wp2
  go_quiet (fail)
  go_wp2_with (go_at_call 17; refine (in_any _ _ _).mono ?_; rintro e w' ⟨rfl, rfl⟩)
  go_ret2
  exact ⟨rfl, by repeat (first | exact Below.refl _ _ | apply Below.drew | apply below_drewN | refine Below.alloc ?_ (by simp <;> omega) _)⟩

set_option maxRecDepth 100000 in
set_option maxHeartbeats 4000000 in
theorem stack_21_ok (cb pb : Nat) (psv : Value) (a b d : Int) (w : World) (h : ChkAt w cb pb psv) (hd0 : 0 ≤ d) (hd1 : d ≤ 4096) (hs : inB a d = true) (hm : d + 1 ≤ 4096) :
    Calls Try.prog 23 #[.pointer (some ⟨cb, 0, none⟩), .agg #[.int .i64 21, .int .i64 a, .int .i64 b], .int .i64 d] w fun e w' => e = .returned (.tuple #[.int .i64 (d + 1), .int .i64 0]) ∧ Below w.heap.size w w' := by
  have hcb := lt_of_heap h.chk
  have hcb1 : cb < w.heap.size + 1 := by omega
  have hcb2 : cb < w.heap.size + 1 + 1 := by omega
  obtain ⟨c0, c1, c2, c3, c4, c5, c6, c7, c8⟩ := h.want 21 (by omega)
  simp [wantT] at c0 c1 c2 c3 c4 c5 c6 c7 c8
  clear h
  go_enter Try.func23, Try.ntmps23
  go_wp2
  go_region
  go_wp2
  go_quiet (fail)
  go_wp2_with (go_at_call 17; refine (in_any _ _ _).mono ?_; rintro e w' ⟨rfl, rfl⟩)
  go_ret2
  exact ⟨rfl, by repeat (first | exact Below.refl _ _ | apply Below.drew | apply below_drewN | refine Below.alloc ?_ (by simp <;> omega) _)⟩

set_option maxRecDepth 100000 in
set_option maxHeartbeats 4000000 in
theorem stack_19_want (cb pb : Nat) (psv : Value) (a b d : Int) (w : World) (h : ChkAt w cb pb psv) (hd0 : 0 ≤ d) (hd1 : d ≤ 4096) (hs : d < 1) :
    Calls Try.prog 23 #[.pointer (some ⟨cb, 0, none⟩), .agg #[.int .i64 19, .int .i64 a, .int .i64 b], .int .i64 d] w fun e w' => e = .returned (.tuple #[.int .i64 0, .int .i64 31]) ∧ Below w.heap.size w w' := by
  have hcb := lt_of_heap h.chk
  have hcb1 : cb < w.heap.size + 1 := by omega
  have hcb2 : cb < w.heap.size + 1 + 1 := by omega
  obtain ⟨c0, c1, c2, c3, c4, c5, c6, c7, c8⟩ := h.want 19 (by omega)
  simp [wantT] at c0 c1 c2 c3 c4 c5 c6 c7 c8
  clear h
  go_enter Try.func23, Try.ntmps23
  go_wp2
  go_region
  go_wp2
  go_quiet (fail)
  go_wp2_with (go_at_call 17; refine (in_any _ _ _).mono ?_; rintro e w' ⟨rfl, rfl⟩)
  go_ret2
  exact ⟨rfl, by repeat (first | exact Below.refl _ _ | apply Below.drew | apply below_drewN | refine Below.alloc ?_ (by simp <;> omega) _)⟩

set_option maxRecDepth 100000 in
set_option maxHeartbeats 4000000 in
theorem stack_19_slot (cb pb : Nat) (psv : Value) (a b d : Int) (w : World) (h : ChkAt w cb pb psv) (hd0 : 0 ≤ d) (hd1 : d ≤ 4096) (hw : 1 ≤ d) (hs : inB a (d - 1) = false) :
    Calls Try.prog 23 #[.pointer (some ⟨cb, 0, none⟩), .agg #[.int .i64 19, .int .i64 a, .int .i64 b], .int .i64 d] w fun e w' => e = .returned (.tuple #[.int .i64 0, .int .i64 33]) ∧ Below w.heap.size w w' := by
  have hcb := lt_of_heap h.chk
  have hcb1 : cb < w.heap.size + 1 := by omega
  have hcb2 : cb < w.heap.size + 1 + 1 := by omega
  obtain ⟨c0, c1, c2, c3, c4, c5, c6, c7, c8⟩ := h.want 19 (by omega)
  simp [wantT] at c0 c1 c2 c3 c4 c5 c6 c7 c8
  clear h
  go_enter Try.func23, Try.ntmps23
  go_wp2
  go_region
  go_wp2
  go_quiet (fail)
  go_wp2_with (go_at_call 17; refine (in_any _ _ _).mono ?_; rintro e w' ⟨rfl, rfl⟩)
  go_ret2
  exact ⟨rfl, by repeat (first | exact Below.refl _ _ | apply Below.drew | apply below_drewN | refine Below.alloc ?_ (by simp <;> omega) _)⟩

set_option maxRecDepth 100000 in
set_option maxHeartbeats 4000000 in
theorem stack_19_ok (cb pb : Nat) (psv : Value) (a b d : Int) (w : World) (h : ChkAt w cb pb psv) (hd0 : 0 ≤ d) (hd1 : d ≤ 4096) (hw : 1 ≤ d) (hs : inB a (d - 1) = true) :
    Calls Try.prog 23 #[.pointer (some ⟨cb, 0, none⟩), .agg #[.int .i64 19, .int .i64 a, .int .i64 b], .int .i64 d] w fun e w' => e = .returned (.tuple #[.int .i64 (d - 1), .int .i64 0]) ∧ Below w.heap.size w w' := by
  have hcb := lt_of_heap h.chk
  have hcb1 : cb < w.heap.size + 1 := by omega
  have hcb2 : cb < w.heap.size + 1 + 1 := by omega
  obtain ⟨c0, c1, c2, c3, c4, c5, c6, c7, c8⟩ := h.want 19 (by omega)
  simp [wantT] at c0 c1 c2 c3 c4 c5 c6 c7 c8
  clear h
  go_enter Try.func23, Try.ntmps23
  go_wp2
  go_region
  go_wp2
  go_quiet (fail)
  go_wp2_with (go_at_call 17; refine (in_any _ _ _).mono ?_; rintro e w' ⟨rfl, rfl⟩)
  go_ret2
  exact ⟨rfl, by repeat (first | exact Below.refl _ _ | apply Below.drew | apply below_drewN | refine Below.alloc ?_ (by simp <;> omega) _)⟩

set_option maxRecDepth 100000 in
set_option maxHeartbeats 4000000 in
theorem stack_ff_want (cb pb : Nat) (psv : Value) (k : Nat) (a b d : Int) (w : World) (h : ChkAt w cb pb psv) (hd0 : 0 ≤ d) (hd1 : d ≤ 4096) (hk : k < 22) (hA : (wantT k).byA = false) (hB : (wantT k).byB = false)  (h2 : ((k : Int) == 2) = false) (h21 : ((k : Int) == 21) = false) (h19 : ((k : Int) == 19) = false) (hw0 : 0 ≤ (wantT k).wants) (hw1 : (wantT k).wants ≤ 2) (hm0 : -1 ≤ (wantT k).more) (hm1 : (wantT k).more ≤ 1) (hs : d < (wantT k).wants) :
    Calls Try.prog 23 #[.pointer (some ⟨cb, 0, none⟩), .agg #[.int .i64 k, .int .i64 a, .int .i64 b], .int .i64 d] w fun e w' => e = .returned (.tuple #[.int .i64 0, .int .i64 31]) ∧ Below w.heap.size w w' := by
  have hcb := lt_of_heap h.chk
  have hcb1 : cb < w.heap.size + 1 := by omega
  have hcb2 : cb < w.heap.size + 1 + 1 := by omega
  obtain ⟨c0, c1, c2, c3, c4, c5, c6, c7, c8⟩ := h.want k hk
  have hk0 : (0 : Int) ≤ k := by omega
  have hk1 : (k : Int) < 22 := by omega
  rw [hA] at c5
  rw [hB] at c6
  clear hA hB
  generalize wantT k = x at *
  obtain ⟨xk, xw, xm, xa, xb, xA, xB, xj, xf⟩ := x
  dsimp only at *
  clear h
  go_enter Try.func23, Try.ntmps23
  go_wp2
  go_region
  go_wp2
  go_quiet (fail)
  go_wp2_with (go_at_call 17; refine (in_any _ _ _).mono ?_; rintro e w' ⟨rfl, rfl⟩)
  go_ret2
  exact ⟨rfl, by repeat (first | exact Below.refl _ _ | apply Below.drew | apply below_drewN | refine Below.alloc ?_ (by simp <;> omega) _)⟩

set_option maxRecDepth 100000 in
set_option maxHeartbeats 4000000 in
theorem stack_ff_deep (cb pb : Nat) (psv : Value) (k : Nat) (a b d : Int) (w : World) (h : ChkAt w cb pb psv) (hd0 : 0 ≤ d) (hd1 : d ≤ 4096) (hk : k < 22) (hA : (wantT k).byA = false) (hB : (wantT k).byB = false)  (h2 : ((k : Int) == 2) = false) (h21 : ((k : Int) == 21) = false) (h19 : ((k : Int) == 19) = false) (hw0 : 0 ≤ (wantT k).wants) (hw1 : (wantT k).wants ≤ 2) (hm0 : -1 ≤ (wantT k).more) (hm1 : (wantT k).more ≤ 1) (hs : (wantT k).wants ≤ d) (hm : 4096 < d + ((wantT k).more)) :
    Calls Try.prog 23 #[.pointer (some ⟨cb, 0, none⟩), .agg #[.int .i64 k, .int .i64 a, .int .i64 b], .int .i64 d] w fun e w' => e = .returned (.tuple #[.int .i64 0, .int .i64 31]) ∧ Below w.heap.size w w' := by
  have hcb := lt_of_heap h.chk
  have hcb1 : cb < w.heap.size + 1 := by omega
  have hcb2 : cb < w.heap.size + 1 + 1 := by omega
  obtain ⟨c0, c1, c2, c3, c4, c5, c6, c7, c8⟩ := h.want k hk
  have hk0 : (0 : Int) ≤ k := by omega
  have hk1 : (k : Int) < 22 := by omega
  rw [hA] at c5
  rw [hB] at c6
  clear hA hB
  generalize wantT k = x at *
  obtain ⟨xk, xw, xm, xa, xb, xA, xB, xj, xf⟩ := x
  dsimp only at *
  clear h
  go_enter Try.func23, Try.ntmps23
  go_wp2
  go_region
  go_wp2
  go_quiet (fail)
  go_wp2_with (go_at_call 17; refine (in_any _ _ _).mono ?_; rintro e w' ⟨rfl, rfl⟩)
  go_ret2
  exact ⟨rfl, by repeat (first | exact Below.refl _ _ | apply Below.drew | apply below_drewN | refine Below.alloc ?_ (by simp <;> omega) _)⟩

set_option maxRecDepth 100000 in
set_option maxHeartbeats 4000000 in
theorem stack_ff_ok (cb pb : Nat) (psv : Value) (k : Nat) (a b d : Int) (w : World) (h : ChkAt w cb pb psv) (hd0 : 0 ≤ d) (hd1 : d ≤ 4096) (hk : k < 22) (hA : (wantT k).byA = false) (hB : (wantT k).byB = false)  (h2 : ((k : Int) == 2) = false) (h21 : ((k : Int) == 21) = false) (h19 : ((k : Int) == 19) = false) (hw0 : 0 ≤ (wantT k).wants) (hw1 : (wantT k).wants ≤ 2) (hm0 : -1 ≤ (wantT k).more) (hm1 : (wantT k).more ≤ 1) (hs : (wantT k).wants ≤ d) (hm : d + ((wantT k).more) ≤ 4096) :
    Calls Try.prog 23 #[.pointer (some ⟨cb, 0, none⟩), .agg #[.int .i64 k, .int .i64 a, .int .i64 b], .int .i64 d] w fun e w' => e = .returned (.tuple #[.int .i64 (d + ((wantT k).more)), .int .i64 0]) ∧ Below w.heap.size w w' := by
  have hcb := lt_of_heap h.chk
  have hcb1 : cb < w.heap.size + 1 := by omega
  have hcb2 : cb < w.heap.size + 1 + 1 := by omega
  obtain ⟨c0, c1, c2, c3, c4, c5, c6, c7, c8⟩ := h.want k hk
  have hk0 : (0 : Int) ≤ k := by omega
  have hk1 : (k : Int) < 22 := by omega
  rw [hA] at c5
  rw [hB] at c6
  clear hA hB
  generalize wantT k = x at *
  obtain ⟨xk, xw, xm, xa, xb, xA, xB, xj, xf⟩ := x
  dsimp only at *
  clear h
  go_enter Try.func23, Try.ntmps23
  go_wp2
  go_region
  go_wp2
  go_quiet (fail)
  go_wp2_with (go_at_call 17; refine (in_any _ _ _).mono ?_; rintro e w' ⟨rfl, rfl⟩)
  go_ret2
  exact ⟨rfl, by repeat (first | exact Below.refl _ _ | apply Below.drew | apply below_drewN | refine Below.alloc ?_ (by simp <;> omega) _)⟩

set_option maxRecDepth 100000 in
set_option maxHeartbeats 4000000 in
theorem stack_tf_want (cb pb : Nat) (psv : Value) (k : Nat) (a b d : Int) (w : World) (h : ChkAt w cb pb psv) (hd0 : 0 ≤ d) (hd1 : d ≤ 4096) (hk : k < 22) (hA : (wantT k).byA = true) (hB : (wantT k).byB = false) (ha0 : 0 ≤ a) (ha1 : a ≤ 4096) (h2 : ((k : Int) == 2) = false) (h21 : ((k : Int) == 21) = false) (h19 : ((k : Int) == 19) = false) (hw0 : 0 ≤ (wantT k).wants) (hw1 : (wantT k).wants ≤ 2) (hm0 : -1 ≤ (wantT k).more) (hm1 : (wantT k).more ≤ 1) (hs : d < (wantT k).wants + a) :
    Calls Try.prog 23 #[.pointer (some ⟨cb, 0, none⟩), .agg #[.int .i64 k, .int .i64 a, .int .i64 b], .int .i64 d] w fun e w' => e = .returned (.tuple #[.int .i64 0, .int .i64 31]) ∧ Below w.heap.size w w' := by
  have hcb := lt_of_heap h.chk
  have hcb1 : cb < w.heap.size + 1 := by omega
  have hcb2 : cb < w.heap.size + 1 + 1 := by omega
  obtain ⟨c0, c1, c2, c3, c4, c5, c6, c7, c8⟩ := h.want k hk
  have hk0 : (0 : Int) ≤ k := by omega
  have hk1 : (k : Int) < 22 := by omega
  rw [hA] at c5
  rw [hB] at c6
  clear hA hB
  generalize wantT k = x at *
  obtain ⟨xk, xw, xm, xa, xb, xA, xB, xj, xf⟩ := x
  dsimp only at *
  clear h
  go_enter Try.func23, Try.ntmps23
  go_wp2
  go_region
  go_wp2
  go_quiet (fail)
  go_wp2_with (go_at_call 17; refine (in_any _ _ _).mono ?_; rintro e w' ⟨rfl, rfl⟩)
  go_ret2
  exact ⟨rfl, by repeat (first | exact Below.refl _ _ | apply Below.drew | apply below_drewN | refine Below.alloc ?_ (by simp <;> omega) _)⟩

set_option maxRecDepth 100000 in
set_option maxHeartbeats 4000000 in
theorem stack_tf_deep (cb pb : Nat) (psv : Value) (k : Nat) (a b d : Int) (w : World) (h : ChkAt w cb pb psv) (hd0 : 0 ≤ d) (hd1 : d ≤ 4096) (hk : k < 22) (hA : (wantT k).byA = true) (hB : (wantT k).byB = false) (ha0 : 0 ≤ a) (ha1 : a ≤ 4096) (h2 : ((k : Int) == 2) = false) (h21 : ((k : Int) == 21) = false) (h19 : ((k : Int) == 19) = false) (hw0 : 0 ≤ (wantT k).wants) (hw1 : (wantT k).wants ≤ 2) (hm0 : -1 ≤ (wantT k).more) (hm1 : (wantT k).more ≤ 1) (hs : (wantT k).wants + a ≤ d) (hm : 4096 < d + ((wantT k).more - a)) :
    Calls Try.prog 23 #[.pointer (some ⟨cb, 0, none⟩), .agg #[.int .i64 k, .int .i64 a, .int .i64 b], .int .i64 d] w fun e w' => e = .returned (.tuple #[.int .i64 0, .int .i64 31]) ∧ Below w.heap.size w w' := by
  have hcb := lt_of_heap h.chk
  have hcb1 : cb < w.heap.size + 1 := by omega
  have hcb2 : cb < w.heap.size + 1 + 1 := by omega
  obtain ⟨c0, c1, c2, c3, c4, c5, c6, c7, c8⟩ := h.want k hk
  have hk0 : (0 : Int) ≤ k := by omega
  have hk1 : (k : Int) < 22 := by omega
  rw [hA] at c5
  rw [hB] at c6
  clear hA hB
  generalize wantT k = x at *
  obtain ⟨xk, xw, xm, xa, xb, xA, xB, xj, xf⟩ := x
  dsimp only at *
  clear h
  go_enter Try.func23, Try.ntmps23
  go_wp2
  go_region
  go_wp2
  go_quiet (fail)
  go_wp2_with (go_at_call 17; refine (in_any _ _ _).mono ?_; rintro e w' ⟨rfl, rfl⟩)
  go_ret2
  exact ⟨rfl, by repeat (first | exact Below.refl _ _ | apply Below.drew | apply below_drewN | refine Below.alloc ?_ (by simp <;> omega) _)⟩

set_option maxRecDepth 100000 in
set_option maxHeartbeats 4000000 in
theorem stack_tf_ok (cb pb : Nat) (psv : Value) (k : Nat) (a b d : Int) (w : World) (h : ChkAt w cb pb psv) (hd0 : 0 ≤ d) (hd1 : d ≤ 4096) (hk : k < 22) (hA : (wantT k).byA = true) (hB : (wantT k).byB = false) (ha0 : 0 ≤ a) (ha1 : a ≤ 4096) (h2 : ((k : Int) == 2) = false) (h21 : ((k : Int) == 21) = false) (h19 : ((k : Int) == 19) = false) (hw0 : 0 ≤ (wantT k).wants) (hw1 : (wantT k).wants ≤ 2) (hm0 : -1 ≤ (wantT k).more) (hm1 : (wantT k).more ≤ 1) (hs : (wantT k).wants + a ≤ d) (hm : d + ((wantT k).more - a) ≤ 4096) :
    Calls Try.prog 23 #[.pointer (some ⟨cb, 0, none⟩), .agg #[.int .i64 k, .int .i64 a, .int .i64 b], .int .i64 d] w fun e w' => e = .returned (.tuple #[.int .i64 (d + ((wantT k).more - a)), .int .i64 0]) ∧ Below w.heap.size w w' := by
  have hcb := lt_of_heap h.chk
  have hcb1 : cb < w.heap.size + 1 := by omega
  have hcb2 : cb < w.heap.size + 1 + 1 := by omega
  obtain ⟨c0, c1, c2, c3, c4, c5, c6, c7, c8⟩ := h.want k hk
  have hk0 : (0 : Int) ≤ k := by omega
  have hk1 : (k : Int) < 22 := by omega
  rw [hA] at c5
  rw [hB] at c6
  clear hA hB
  generalize wantT k = x at *
  obtain ⟨xk, xw, xm, xa, xb, xA, xB, xj, xf⟩ := x
  dsimp only at *
  clear h
  go_enter Try.func23, Try.ntmps23
  go_wp2
  go_region
  go_wp2
  go_quiet (fail)
  go_wp2_with (go_at_call 17; refine (in_any _ _ _).mono ?_; rintro e w' ⟨rfl, rfl⟩)
  go_ret2
  exact ⟨rfl, by repeat (first | exact Below.refl _ _ | apply Below.drew | apply below_drewN | refine Below.alloc ?_ (by simp <;> omega) _)⟩

set_option maxRecDepth 100000 in
set_option maxHeartbeats 4000000 in
theorem stack_ft_want (cb pb : Nat) (psv : Value) (k : Nat) (a b d : Int) (w : World) (h : ChkAt w cb pb psv) (hd0 : 0 ≤ d) (hd1 : d ≤ 4096) (hk : k < 22) (hA : (wantT k).byA = false) (hB : (wantT k).byB = true) (hb0 : 0 ≤ b) (hb1 : b ≤ 9223372036854775807) (h2 : ((k : Int) == 2) = false) (h21 : ((k : Int) == 21) = false) (h19 : ((k : Int) == 19) = false) (hw0 : 0 ≤ (wantT k).wants) (hw1 : (wantT k).wants ≤ 0) (hm0 : -1 ≤ (wantT k).more) (hm1 : (wantT k).more ≤ 1) (hs : d < (wantT k).wants + b) :
    Calls Try.prog 23 #[.pointer (some ⟨cb, 0, none⟩), .agg #[.int .i64 k, .int .i64 a, .int .i64 b], .int .i64 d] w fun e w' => e = .returned (.tuple #[.int .i64 0, .int .i64 31]) ∧ Below w.heap.size w w' := by
  have hcb := lt_of_heap h.chk
  have hcb1 : cb < w.heap.size + 1 := by omega
  have hcb2 : cb < w.heap.size + 1 + 1 := by omega
  obtain ⟨c0, c1, c2, c3, c4, c5, c6, c7, c8⟩ := h.want k hk
  have hk0 : (0 : Int) ≤ k := by omega
  have hk1 : (k : Int) < 22 := by omega
  rw [hA] at c5
  rw [hB] at c6
  clear hA hB
  generalize wantT k = x at *
  obtain ⟨xk, xw, xm, xa, xb, xA, xB, xj, xf⟩ := x
  dsimp only at *
  clear h
  go_enter Try.func23, Try.ntmps23
  go_wp2
  go_region
  go_wp2
  go_quiet (fail)
  go_wp2_with (go_at_call 17; refine (in_any _ _ _).mono ?_; rintro e w' ⟨rfl, rfl⟩)
  go_ret2
  exact ⟨rfl, by repeat (first | exact Below.refl _ _ | apply Below.drew | apply below_drewN | refine Below.alloc ?_ (by simp <;> omega) _)⟩

set_option maxRecDepth 100000 in
set_option maxHeartbeats 4000000 in
theorem stack_ft_deep (cb pb : Nat) (psv : Value) (k : Nat) (a b d : Int) (w : World) (h : ChkAt w cb pb psv) (hd0 : 0 ≤ d) (hd1 : d ≤ 4096) (hk : k < 22) (hA : (wantT k).byA = false) (hB : (wantT k).byB = true) (hb0 : 0 ≤ b) (hb1 : b ≤ 9223372036854775807) (h2 : ((k : Int) == 2) = false) (h21 : ((k : Int) == 21) = false) (h19 : ((k : Int) == 19) = false) (hw0 : 0 ≤ (wantT k).wants) (hw1 : (wantT k).wants ≤ 0) (hm0 : -1 ≤ (wantT k).more) (hm1 : (wantT k).more ≤ 1) (hs : (wantT k).wants + b ≤ d) (hm : 4096 < d + ((wantT k).more - b)) :
    Calls Try.prog 23 #[.pointer (some ⟨cb, 0, none⟩), .agg #[.int .i64 k, .int .i64 a, .int .i64 b], .int .i64 d] w fun e w' => e = .returned (.tuple #[.int .i64 0, .int .i64 31]) ∧ Below w.heap.size w w' := by
  have hcb := lt_of_heap h.chk
  have hcb1 : cb < w.heap.size + 1 := by omega
  have hcb2 : cb < w.heap.size + 1 + 1 := by omega
  obtain ⟨c0, c1, c2, c3, c4, c5, c6, c7, c8⟩ := h.want k hk
  have hk0 : (0 : Int) ≤ k := by omega
  have hk1 : (k : Int) < 22 := by omega
  rw [hA] at c5
  rw [hB] at c6
  clear hA hB
  generalize wantT k = x at *
  obtain ⟨xk, xw, xm, xa, xb, xA, xB, xj, xf⟩ := x
  dsimp only at *
  clear h
  go_enter Try.func23, Try.ntmps23
  go_wp2
  go_region
  go_wp2
  go_quiet (fail)
  go_wp2_with (go_at_call 17; refine (in_any _ _ _).mono ?_; rintro e w' ⟨rfl, rfl⟩)
  go_ret2
  exact ⟨rfl, by repeat (first | exact Below.refl _ _ | apply Below.drew | apply below_drewN | refine Below.alloc ?_ (by simp <;> omega) _)⟩

set_option maxRecDepth 100000 in
set_option maxHeartbeats 4000000 in
theorem stack_ft_ok (cb pb : Nat) (psv : Value) (k : Nat) (a b d : Int) (w : World) (h : ChkAt w cb pb psv) (hd0 : 0 ≤ d) (hd1 : d ≤ 4096) (hk : k < 22) (hA : (wantT k).byA = false) (hB : (wantT k).byB = true) (hb0 : 0 ≤ b) (hb1 : b ≤ 9223372036854775807) (h2 : ((k : Int) == 2) = false) (h21 : ((k : Int) == 21) = false) (h19 : ((k : Int) == 19) = false) (hw0 : 0 ≤ (wantT k).wants) (hw1 : (wantT k).wants ≤ 0) (hm0 : -1 ≤ (wantT k).more) (hm1 : (wantT k).more ≤ 1) (hs : (wantT k).wants + b ≤ d) (hm : d + ((wantT k).more - b) ≤ 4096) :
    Calls Try.prog 23 #[.pointer (some ⟨cb, 0, none⟩), .agg #[.int .i64 k, .int .i64 a, .int .i64 b], .int .i64 d] w fun e w' => e = .returned (.tuple #[.int .i64 (d + ((wantT k).more - b)), .int .i64 0]) ∧ Below w.heap.size w w' := by
  have hcb := lt_of_heap h.chk
  have hcb1 : cb < w.heap.size + 1 := by omega
  have hcb2 : cb < w.heap.size + 1 + 1 := by omega
  obtain ⟨c0, c1, c2, c3, c4, c5, c6, c7, c8⟩ := h.want k hk
  have hk0 : (0 : Int) ≤ k := by omega
  have hk1 : (k : Int) < 22 := by omega
  rw [hA] at c5
  rw [hB] at c6
  clear hA hB
  generalize wantT k = x at *
  obtain ⟨xk, xw, xm, xa, xb, xA, xB, xj, xf⟩ := x
  dsimp only at *
  clear h
  go_enter Try.func23, Try.ntmps23
  go_wp2
  go_region
  go_wp2
  go_quiet (fail)
  go_wp2_with (go_at_call 17; refine (in_any _ _ _).mono ?_; rintro e w' ⟨rfl, rfl⟩)
  go_ret2
  exact ⟨rfl, by repeat (first | exact Below.refl _ _ | apply Below.drew | apply below_drewN | refine Below.alloc ?_ (by simp <;> omega) _)⟩


end Go.Proofs.Ytmlmepbnjlepnaa
