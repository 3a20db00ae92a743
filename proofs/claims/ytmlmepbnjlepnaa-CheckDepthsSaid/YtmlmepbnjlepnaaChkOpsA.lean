/-
  The walks of the checker's method operands, a class of operations each.
-/
import Derived.Test.YtmlmepbnjlepnaaChkMem
namespace Go.Proofs.Ytmlmepbnjlepnaa
open Go.RowKit Go.BigFrame
set_option linter.unusedVariables false

set_option maxRecDepth 100000 in
set_option maxHeartbeats 4000000 in
theorem ops_out (cb pb : Nat) (psa : Option Addr) (n pcap : Nat) (nm cv : Value) (pa pf : Int) (pr : Bool) (ca : Option Addr) (nc ccap : Nat) (na : Option Addr) (nn ncap : Nat) (op : Int) (a b : Int) (w : World) (h : ChkAt w cb pb (.slice psa n pcap)) (hn : n ≤ 140737488351232) (hnc : nc ≤ 140737488351232) (hnn : nn ≤ 140737488351232) (hin : inB op 22 = false) :
    Calls Try.prog 22 #[.pointer (some ⟨cb, 0, none⟩), .agg #[nm, .int .i64 pa, .int .i64 pf, .bool pr, cv, .slice ca nc ccap, .slice na nn ncap], .agg #[.int .i64 op, .int .i64 a, .int .i64 b]] w fun e w' => e = .returned (.int .i64 30) ∧ Below w.heap.size w w' := by
  have hcb := lt_of_heap h.chk
  have hcb1 : cb < w.heap.size + 1 := by omega
  clear h
  go_enter Try.func22, Try.ntmps22
  go_wp2
  go_quiet ((go_at_call 17; exact Calls.quiet_of_same (in_any _ _ _)))
  go_wp2
  go_ret
  exact ⟨rfl, by repeat (first | exact Below.refl _ _ | apply Below.drew | apply below_drewN | refine Below.alloc ?_ (by simp <;> omega) _)⟩

set_option maxRecDepth 100000 in
set_option maxHeartbeats 4000000 in
theorem ops_zero (cb pb : Nat) (psa : Option Addr) (n pcap : Nat) (nm cv : Value) (pa pf : Int) (pr : Bool) (ca : Option Addr) (nc ccap : Nat) (na : Option Addr) (nn ncap : Nat) (a b : Int) (w : World) (h : ChkAt w cb pb (.slice psa n pcap)) (hn : n ≤ 140737488351232) (hnc : nc ≤ 140737488351232) (hnn : nn ≤ 140737488351232)  :
    Calls Try.prog 22 #[.pointer (some ⟨cb, 0, none⟩), .agg #[nm, .int .i64 pa, .int .i64 pf, .bool pr, cv, .slice ca nc ccap, .slice na nn ncap], .agg #[.int .i64 0, .int .i64 a, .int .i64 b]] w fun e w' => e = .returned (.int .i64 30) ∧ Below w.heap.size w w' := by
  have hcb := lt_of_heap h.chk
  have hcb1 : cb < w.heap.size + 1 := by omega
  have hcb2 : cb < w.heap.size + 1 + 1 := by omega
  obtain ⟨c0, c1, c2, c3, c4, c5, c6, c7, c8⟩ := h.want 0 (by omega)
  have q0 := h.ps
  have q9 := h.pr
  have hin : inB 0 22 = true := by decide
  simp [wantT] at c0 c1 c2 c3 c4 c5 c6 c7 c8
  clear h
  go_enter Try.func22, Try.ntmps22
  go_wp2
  go_quiet ((go_at_call 17; exact Calls.quiet_of_same (in_any _ _ _)))
  go_wp2
  go_ret
  exact ⟨rfl, by repeat (first | exact Below.refl _ _ | apply Below.drew | apply below_drewN | refine Below.alloc ?_ (by simp <;> omega) _)⟩

set_option maxRecDepth 100000 in
set_option maxHeartbeats 4000000 in
theorem ops_badA (cb pb : Nat) (psa : Option Addr) (n pcap : Nat) (nm cv : Value) (pa pf : Int) (pr : Bool) (ca : Option Addr) (nc ccap : Nat) (na : Option Addr) (nn ncap : Nat) (k : Nat) (a b : Int) (w : World) (h : ChkAt w cb pb (.slice psa n pcap)) (hn : n ≤ 140737488351232) (hnc : nc ≤ 140737488351232) (hnn : nn ≤ 140737488351232) (hk : k < 22) (hkn : (wantT k).known = true) (ha : (wantT k).a = false) (hb : (a != 0) = true) :
    Calls Try.prog 22 #[.pointer (some ⟨cb, 0, none⟩), .agg #[nm, .int .i64 pa, .int .i64 pf, .bool pr, cv, .slice ca nc ccap, .slice na nn ncap], .agg #[.int .i64 k, .int .i64 a, .int .i64 b]] w fun e w' => e = .returned (.int .i64 30) ∧ Below w.heap.size w w' := by
  have hcb := lt_of_heap h.chk
  have hcb1 : cb < w.heap.size + 1 := by omega
  have hcb2 : cb < w.heap.size + 1 + 1 := by omega
  obtain ⟨c0, c1, c2, c3, c4, c5, c6, c7, c8⟩ := h.want k hk
  have hin : inB (k : Int) 22 = true := by simp [inB]; omega
  have hk0 : (0 : Int) ≤ k := by omega
  have hk1 : (k : Int) < 22 := by omega
  rw [hkn] at c0
  rw [ha] at c3
  clear hkn ha
  generalize wantT k = x at *
  clear h
  go_enter Try.func22, Try.ntmps22
  go_wp2
  go_quiet ((go_at_call 17; exact Calls.quiet_of_same (in_any _ _ _)))
  go_wp2
  go_region
  go_wp2
  go_ret
  exact ⟨rfl, by repeat (first | exact Below.refl _ _ | apply Below.drew | apply below_drewN | refine Below.alloc ?_ (by simp <;> omega) _)⟩

set_option maxRecDepth 100000 in
set_option maxHeartbeats 4000000 in
theorem ops_badB (cb pb : Nat) (psa : Option Addr) (n pcap : Nat) (nm cv : Value) (pa pf : Int) (pr : Bool) (ca : Option Addr) (nc ccap : Nat) (na : Option Addr) (nn ncap : Nat) (k : Nat) (a b : Int) (w : World) (h : ChkAt w cb pb (.slice psa n pcap)) (hn : n ≤ 140737488351232) (hnc : nc ≤ 140737488351232) (hnn : nn ≤ 140737488351232) (hk : k < 22) (hkn : (wantT k).known = true) (ha : (wantT k).a = true ∨ (a != 0) = false) (hb0 : (wantT k).b = false) (hb : (b != 0) = true) :
    Calls Try.prog 22 #[.pointer (some ⟨cb, 0, none⟩), .agg #[nm, .int .i64 pa, .int .i64 pf, .bool pr, cv, .slice ca nc ccap, .slice na nn ncap], .agg #[.int .i64 k, .int .i64 a, .int .i64 b]] w fun e w' => e = .returned (.int .i64 30) ∧ Below w.heap.size w w' := by
  have hcb := lt_of_heap h.chk
  have hcb1 : cb < w.heap.size + 1 := by omega
  have hcb2 : cb < w.heap.size + 1 + 1 := by omega
  obtain ⟨c0, c1, c2, c3, c4, c5, c6, c7, c8⟩ := h.want k hk
  have hin : inB (k : Int) 22 = true := by simp [inB]; omega
  have hk0 : (0 : Int) ≤ k := by omega
  have hk1 : (k : Int) < 22 := by omega
  rw [hkn] at c0
  rw [hb0] at c4
  clear hkn hb0
  generalize wantT k = x at *
  rcases ha with ha | ha
  · rw [ha] at c3
    clear ha
    clear h
    go_enter Try.func22, Try.ntmps22
    go_wp2
    go_quiet ((go_at_call 17; exact Calls.quiet_of_same (in_any _ _ _)))
    go_wp2
    go_region
    go_wp2
    go_ret
    exact ⟨rfl, by repeat (first | exact Below.refl _ _ | apply Below.drew | apply below_drewN | refine Below.alloc ?_ (by simp <;> omega) _)⟩
  · obtain ⟨xk, xw, xm, xa, xb, xA, xB, xj, xf⟩ := x
    dsimp only at c3
    clear h
    cases xa
    all_goals
      go_enter Try.func22, Try.ntmps22
      go_wp2
      go_quiet ((go_at_call 17; exact Calls.quiet_of_same (in_any _ _ _)))
      go_wp2
      go_region
      go_wp2
      go_ret
      exact ⟨rfl, by repeat (first | exact Below.refl _ _ | apply Below.drew | apply below_drewN | refine Below.alloc ?_ (by simp <;> omega) _)⟩


end Go.Proofs.Ytmlmepbnjlepnaa
