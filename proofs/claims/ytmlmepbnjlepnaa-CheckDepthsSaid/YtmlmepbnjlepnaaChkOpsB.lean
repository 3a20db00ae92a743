/-
  The walks of the checker's method operands, a class of operations each.
-/
import Derived.Test.YtmlmepbnjlepnaaChkMem
namespace Go.Proofs.Ytmlmepbnjlepnaa
open Go.RowKit Go.BigFrame
set_option linter.unusedVariables false

set_option maxRecDepth 100000 in
set_option maxHeartbeats 4000000 in
theorem ops_1_no (cb pb : Nat) (psa : Option Addr) (n pcap : Nat) (nm cv : Value) (pa pf : Int) (pr : Bool) (ca : Option Addr) (nc ccap : Nat) (na : Option Addr) (nn ncap : Nat) (a b : Int) (w : World) (h : ChkAt w cb pb (.slice psa n pcap)) (hn : n ≤ 140737488351232) (hnc : nc ≤ 140737488351232) (hnn : nn ≤ 140737488351232) (hb : b = 0) (hok : inB a nc = false) :
    Calls Try.prog 22 #[.pointer (some ⟨cb, 0, none⟩), .agg #[nm, .int .i64 pa, .int .i64 pf, .bool pr, cv, .slice ca nc ccap, .slice na nn ncap], .agg #[.int .i64 1, .int .i64 a, .int .i64 b]] w fun e w' => e = .returned (.int .i64 33) ∧ Below w.heap.size w w' := by
  subst hb
  have hcb := lt_of_heap h.chk
  have hcb1 : cb < w.heap.size + 1 := by omega
  have hcb2 : cb < w.heap.size + 1 + 1 := by omega
  obtain ⟨c0, c1, c2, c3, c4, c5, c6, c7, c8⟩ := h.want 1 (by omega)
  have q0 := h.ps
  have q9 := h.pr
  have hin : inB 1 22 = true := by decide
  simp [wantT] at c0 c1 c2 c3 c4 c5 c6 c7 c8
  clear h
  go_enter Try.func22, Try.ntmps22
  go_wp2
  go_quiet ((go_at_call 17; exact Calls.quiet_of_same (in_any _ _ _)))
  go_wp2
  go_region
  go_wp2_with (go_at_call 17; refine (in_any _ _ _).mono ?_; rintro e w' ⟨rfl, rfl⟩)
  go_ret
  exact ⟨rfl, by repeat (first | exact Below.refl _ _ | apply Below.drew | apply below_drewN | refine Below.alloc ?_ (by simp <;> omega) _)⟩

set_option maxRecDepth 100000 in
set_option maxHeartbeats 4000000 in
theorem ops_1_yes (cb pb : Nat) (psa : Option Addr) (n pcap : Nat) (nm cv : Value) (pa pf : Int) (pr : Bool) (ca : Option Addr) (nc ccap : Nat) (na : Option Addr) (nn ncap : Nat) (a b : Int) (w : World) (h : ChkAt w cb pb (.slice psa n pcap)) (hn : n ≤ 140737488351232) (hnc : nc ≤ 140737488351232) (hnn : nn ≤ 140737488351232) (hb : b = 0) (hok : inB a nc = true) :
    Calls Try.prog 22 #[.pointer (some ⟨cb, 0, none⟩), .agg #[nm, .int .i64 pa, .int .i64 pf, .bool pr, cv, .slice ca nc ccap, .slice na nn ncap], .agg #[.int .i64 1, .int .i64 a, .int .i64 b]] w fun e w' => e = .returned (.int .i64 0) ∧ Below w.heap.size w w' := by
  subst hb
  have hcb := lt_of_heap h.chk
  have hcb1 : cb < w.heap.size + 1 := by omega
  have hcb2 : cb < w.heap.size + 1 + 1 := by omega
  obtain ⟨c0, c1, c2, c3, c4, c5, c6, c7, c8⟩ := h.want 1 (by omega)
  have q0 := h.ps
  have q9 := h.pr
  have hin : inB 1 22 = true := by decide
  simp [wantT] at c0 c1 c2 c3 c4 c5 c6 c7 c8
  clear h
  go_enter Try.func22, Try.ntmps22
  go_wp2
  go_quiet ((go_at_call 17; exact Calls.quiet_of_same (in_any _ _ _)))
  go_wp2
  go_region
  go_wp2_with (go_at_call 17; refine (in_any _ _ _).mono ?_; rintro e w' ⟨rfl, rfl⟩)
  go_quiet (fail)
  go_wp2
  go_ret
  exact ⟨rfl, by repeat (first | exact Below.refl _ _ | apply Below.drew | apply below_drewN | refine Below.alloc ?_ (by simp <;> omega) _)⟩

set_option maxRecDepth 100000 in
set_option maxHeartbeats 4000000 in
theorem ops_3_no (cb pb : Nat) (psa : Option Addr) (n pcap : Nat) (nm cv : Value) (pa pf : Int) (pr : Bool) (ca : Option Addr) (nc ccap : Nat) (na : Option Addr) (nn ncap : Nat) (a b : Int) (w : World) (h : ChkAt w cb pb (.slice psa n pcap)) (hn : n ≤ 140737488351232) (hnc : nc ≤ 140737488351232) (hnn : nn ≤ 140737488351232) (hb : b = 0) (hok : inB a pf = false) :
    Calls Try.prog 22 #[.pointer (some ⟨cb, 0, none⟩), .agg #[nm, .int .i64 pa, .int .i64 pf, .bool pr, cv, .slice ca nc ccap, .slice na nn ncap], .agg #[.int .i64 3, .int .i64 a, .int .i64 b]] w fun e w' => e = .returned (.int .i64 33) ∧ Below w.heap.size w w' := by
  subst hb
  have hcb := lt_of_heap h.chk
  have hcb1 : cb < w.heap.size + 1 := by omega
  have hcb2 : cb < w.heap.size + 1 + 1 := by omega
  obtain ⟨c0, c1, c2, c3, c4, c5, c6, c7, c8⟩ := h.want 3 (by omega)
  have q0 := h.ps
  have q9 := h.pr
  have hin : inB 3 22 = true := by decide
  simp [wantT] at c0 c1 c2 c3 c4 c5 c6 c7 c8
  clear h
  go_enter Try.func22, Try.ntmps22
  go_wp2
  go_quiet ((go_at_call 17; exact Calls.quiet_of_same (in_any _ _ _)))
  go_wp2
  go_region
  go_wp2_with (go_at_call 17; refine (in_any _ _ _).mono ?_; rintro e w' ⟨rfl, rfl⟩)
  go_ret
  exact ⟨rfl, by repeat (first | exact Below.refl _ _ | apply Below.drew | apply below_drewN | refine Below.alloc ?_ (by simp <;> omega) _)⟩

set_option maxRecDepth 100000 in
set_option maxHeartbeats 4000000 in
theorem ops_3_yes (cb pb : Nat) (psa : Option Addr) (n pcap : Nat) (nm cv : Value) (pa pf : Int) (pr : Bool) (ca : Option Addr) (nc ccap : Nat) (na : Option Addr) (nn ncap : Nat) (a b : Int) (w : World) (h : ChkAt w cb pb (.slice psa n pcap)) (hn : n ≤ 140737488351232) (hnc : nc ≤ 140737488351232) (hnn : nn ≤ 140737488351232) (hb : b = 0) (hok : inB a pf = true) :
    Calls Try.prog 22 #[.pointer (some ⟨cb, 0, none⟩), .agg #[nm, .int .i64 pa, .int .i64 pf, .bool pr, cv, .slice ca nc ccap, .slice na nn ncap], .agg #[.int .i64 3, .int .i64 a, .int .i64 b]] w fun e w' => e = .returned (.int .i64 0) ∧ Below w.heap.size w w' := by
  subst hb
  have hcb := lt_of_heap h.chk
  have hcb1 : cb < w.heap.size + 1 := by omega
  have hcb2 : cb < w.heap.size + 1 + 1 := by omega
  obtain ⟨c0, c1, c2, c3, c4, c5, c6, c7, c8⟩ := h.want 3 (by omega)
  have q0 := h.ps
  have q9 := h.pr
  have hin : inB 3 22 = true := by decide
  simp [wantT] at c0 c1 c2 c3 c4 c5 c6 c7 c8
  clear h
  go_enter Try.func22, Try.ntmps22
  go_wp2
  go_quiet ((go_at_call 17; exact Calls.quiet_of_same (in_any _ _ _)))
  go_wp2
  go_region
  go_wp2_with (go_at_call 17; refine (in_any _ _ _).mono ?_; rintro e w' ⟨rfl, rfl⟩)
  go_quiet (fail)
  go_wp2
  go_ret
  exact ⟨rfl, by repeat (first | exact Below.refl _ _ | apply Below.drew | apply below_drewN | refine Below.alloc ?_ (by simp <;> omega) _)⟩

set_option maxRecDepth 100000 in
set_option maxHeartbeats 4000000 in
theorem ops_4_no (cb pb : Nat) (psa : Option Addr) (n pcap : Nat) (nm cv : Value) (pa pf : Int) (pr : Bool) (ca : Option Addr) (nc ccap : Nat) (na : Option Addr) (nn ncap : Nat) (a b : Int) (w : World) (h : ChkAt w cb pb (.slice psa n pcap)) (hn : n ≤ 140737488351232) (hnc : nc ≤ 140737488351232) (hnn : nn ≤ 140737488351232) (hb : b = 0) (hok : inB a nn = false) :
    Calls Try.prog 22 #[.pointer (some ⟨cb, 0, none⟩), .agg #[nm, .int .i64 pa, .int .i64 pf, .bool pr, cv, .slice ca nc ccap, .slice na nn ncap], .agg #[.int .i64 4, .int .i64 a, .int .i64 b]] w fun e w' => e = .returned (.int .i64 33) ∧ Below w.heap.size w w' := by
  subst hb
  have hcb := lt_of_heap h.chk
  have hcb1 : cb < w.heap.size + 1 := by omega
  have hcb2 : cb < w.heap.size + 1 + 1 := by omega
  obtain ⟨c0, c1, c2, c3, c4, c5, c6, c7, c8⟩ := h.want 4 (by omega)
  have q0 := h.ps
  have q9 := h.pr
  have hin : inB 4 22 = true := by decide
  simp [wantT] at c0 c1 c2 c3 c4 c5 c6 c7 c8
  clear h
  go_enter Try.func22, Try.ntmps22
  go_wp2
  go_quiet ((go_at_call 17; exact Calls.quiet_of_same (in_any _ _ _)))
  go_wp2
  go_region
  go_wp2_with (go_at_call 17; refine (in_any _ _ _).mono ?_; rintro e w' ⟨rfl, rfl⟩)
  go_ret
  exact ⟨rfl, by repeat (first | exact Below.refl _ _ | apply Below.drew | apply below_drewN | refine Below.alloc ?_ (by simp <;> omega) _)⟩

set_option maxRecDepth 100000 in
set_option maxHeartbeats 4000000 in
theorem ops_4_yes (cb pb : Nat) (psa : Option Addr) (n pcap : Nat) (nm cv : Value) (pa pf : Int) (pr : Bool) (ca : Option Addr) (nc ccap : Nat) (na : Option Addr) (nn ncap : Nat) (a b : Int) (w : World) (h : ChkAt w cb pb (.slice psa n pcap)) (hn : n ≤ 140737488351232) (hnc : nc ≤ 140737488351232) (hnn : nn ≤ 140737488351232) (hb : b = 0) (hok : inB a nn = true) :
    Calls Try.prog 22 #[.pointer (some ⟨cb, 0, none⟩), .agg #[nm, .int .i64 pa, .int .i64 pf, .bool pr, cv, .slice ca nc ccap, .slice na nn ncap], .agg #[.int .i64 4, .int .i64 a, .int .i64 b]] w fun e w' => e = .returned (.int .i64 0) ∧ Below w.heap.size w w' := by
  subst hb
  have hcb := lt_of_heap h.chk
  have hcb1 : cb < w.heap.size + 1 := by omega
  have hcb2 : cb < w.heap.size + 1 + 1 := by omega
  obtain ⟨c0, c1, c2, c3, c4, c5, c6, c7, c8⟩ := h.want 4 (by omega)
  have q0 := h.ps
  have q9 := h.pr
  have hin : inB 4 22 = true := by decide
  simp [wantT] at c0 c1 c2 c3 c4 c5 c6 c7 c8
  clear h
  go_enter Try.func22, Try.ntmps22
  go_wp2
  go_quiet ((go_at_call 17; exact Calls.quiet_of_same (in_any _ _ _)))
  go_wp2
  go_region
  go_wp2_with (go_at_call 17; refine (in_any _ _ _).mono ?_; rintro e w' ⟨rfl, rfl⟩)
  go_quiet (fail)
  go_wp2
  go_ret
  exact ⟨rfl, by repeat (first | exact Below.refl _ _ | apply Below.drew | apply below_drewN | refine Below.alloc ?_ (by simp <;> omega) _)⟩

set_option maxRecDepth 100000 in
set_option maxHeartbeats 4000000 in
theorem ops_5_no (cb pb : Nat) (psa : Option Addr) (n pcap : Nat) (nm cv : Value) (pa pf : Int) (pr : Bool) (ca : Option Addr) (nc ccap : Nat) (na : Option Addr) (nn ncap : Nat) (a b : Int) (w : World) (h : ChkAt w cb pb (.slice psa n pcap)) (hn : n ≤ 140737488351232) (hnc : nc ≤ 140737488351232) (hnn : nn ≤ 140737488351232) (hb : b = 0) (hok : inB a nn = false) :
    Calls Try.prog 22 #[.pointer (some ⟨cb, 0, none⟩), .agg #[nm, .int .i64 pa, .int .i64 pf, .bool pr, cv, .slice ca nc ccap, .slice na nn ncap], .agg #[.int .i64 5, .int .i64 a, .int .i64 b]] w fun e w' => e = .returned (.int .i64 33) ∧ Below w.heap.size w w' := by
  subst hb
  have hcb := lt_of_heap h.chk
  have hcb1 : cb < w.heap.size + 1 := by omega
  have hcb2 : cb < w.heap.size + 1 + 1 := by omega
  obtain ⟨c0, c1, c2, c3, c4, c5, c6, c7, c8⟩ := h.want 5 (by omega)
  have q0 := h.ps
  have q9 := h.pr
  have hin : inB 5 22 = true := by decide
  simp [wantT] at c0 c1 c2 c3 c4 c5 c6 c7 c8
  clear h
  go_enter Try.func22, Try.ntmps22
  go_wp2
  go_quiet ((go_at_call 17; exact Calls.quiet_of_same (in_any _ _ _)))
  go_wp2
  go_region
  go_wp2_with (go_at_call 17; refine (in_any _ _ _).mono ?_; rintro e w' ⟨rfl, rfl⟩)
  go_ret
  exact ⟨rfl, by repeat (first | exact Below.refl _ _ | apply Below.drew | apply below_drewN | refine Below.alloc ?_ (by simp <;> omega) _)⟩

set_option maxRecDepth 100000 in
set_option maxHeartbeats 4000000 in
theorem ops_5_yes (cb pb : Nat) (psa : Option Addr) (n pcap : Nat) (nm cv : Value) (pa pf : Int) (pr : Bool) (ca : Option Addr) (nc ccap : Nat) (na : Option Addr) (nn ncap : Nat) (a b : Int) (w : World) (h : ChkAt w cb pb (.slice psa n pcap)) (hn : n ≤ 140737488351232) (hnc : nc ≤ 140737488351232) (hnn : nn ≤ 140737488351232) (hb : b = 0) (hok : inB a nn = true) :
    Calls Try.prog 22 #[.pointer (some ⟨cb, 0, none⟩), .agg #[nm, .int .i64 pa, .int .i64 pf, .bool pr, cv, .slice ca nc ccap, .slice na nn ncap], .agg #[.int .i64 5, .int .i64 a, .int .i64 b]] w fun e w' => e = .returned (.int .i64 0) ∧ Below w.heap.size w w' := by
  subst hb
  have hcb := lt_of_heap h.chk
  have hcb1 : cb < w.heap.size + 1 := by omega
  have hcb2 : cb < w.heap.size + 1 + 1 := by omega
  obtain ⟨c0, c1, c2, c3, c4, c5, c6, c7, c8⟩ := h.want 5 (by omega)
  have q0 := h.ps
  have q9 := h.pr
  have hin : inB 5 22 = true := by decide
  simp [wantT] at c0 c1 c2 c3 c4 c5 c6 c7 c8
  clear h
  go_enter Try.func22, Try.ntmps22
  go_wp2
  go_quiet ((go_at_call 17; exact Calls.quiet_of_same (in_any _ _ _)))
  go_wp2
  go_region
  go_wp2_with (go_at_call 17; refine (in_any _ _ _).mono ?_; rintro e w' ⟨rfl, rfl⟩)
  go_quiet (fail)
  go_wp2
  go_ret
  exact ⟨rfl, by repeat (first | exact Below.refl _ _ | apply Below.drew | apply below_drewN | refine Below.alloc ?_ (by simp <;> omega) _)⟩

set_option maxRecDepth 100000 in
set_option maxHeartbeats 4000000 in
theorem ops_6_no (cb pb : Nat) (psa : Option Addr) (n pcap : Nat) (nm cv : Value) (pa pf : Int) (pr : Bool) (ca : Option Addr) (nc ccap : Nat) (na : Option Addr) (nn ncap : Nat) (a b : Int) (w : World) (h : ChkAt w cb pb (.slice psa n pcap)) (hn : n ≤ 140737488351232) (hnc : nc ≤ 140737488351232) (hnn : nn ≤ 140737488351232) (hb : b = 0) (hok : inB a nn = false) :
    Calls Try.prog 22 #[.pointer (some ⟨cb, 0, none⟩), .agg #[nm, .int .i64 pa, .int .i64 pf, .bool pr, cv, .slice ca nc ccap, .slice na nn ncap], .agg #[.int .i64 6, .int .i64 a, .int .i64 b]] w fun e w' => e = .returned (.int .i64 33) ∧ Below w.heap.size w w' := by
  subst hb
  have hcb := lt_of_heap h.chk
  have hcb1 : cb < w.heap.size + 1 := by omega
  have hcb2 : cb < w.heap.size + 1 + 1 := by omega
  obtain ⟨c0, c1, c2, c3, c4, c5, c6, c7, c8⟩ := h.want 6 (by omega)
  have q0 := h.ps
  have q9 := h.pr
  have hin : inB 6 22 = true := by decide
  simp [wantT] at c0 c1 c2 c3 c4 c5 c6 c7 c8
  clear h
  go_enter Try.func22, Try.ntmps22
  go_wp2
  go_quiet ((go_at_call 17; exact Calls.quiet_of_same (in_any _ _ _)))
  go_wp2
  go_region
  go_wp2_with (go_at_call 17; refine (in_any _ _ _).mono ?_; rintro e w' ⟨rfl, rfl⟩)
  go_ret
  exact ⟨rfl, by repeat (first | exact Below.refl _ _ | apply Below.drew | apply below_drewN | refine Below.alloc ?_ (by simp <;> omega) _)⟩

set_option maxRecDepth 100000 in
set_option maxHeartbeats 4000000 in
theorem ops_6_yes (cb pb : Nat) (psa : Option Addr) (n pcap : Nat) (nm cv : Value) (pa pf : Int) (pr : Bool) (ca : Option Addr) (nc ccap : Nat) (na : Option Addr) (nn ncap : Nat) (a b : Int) (w : World) (h : ChkAt w cb pb (.slice psa n pcap)) (hn : n ≤ 140737488351232) (hnc : nc ≤ 140737488351232) (hnn : nn ≤ 140737488351232) (hb : b = 0) (hok : inB a nn = true) :
    Calls Try.prog 22 #[.pointer (some ⟨cb, 0, none⟩), .agg #[nm, .int .i64 pa, .int .i64 pf, .bool pr, cv, .slice ca nc ccap, .slice na nn ncap], .agg #[.int .i64 6, .int .i64 a, .int .i64 b]] w fun e w' => e = .returned (.int .i64 0) ∧ Below w.heap.size w w' := by
  subst hb
  have hcb := lt_of_heap h.chk
  have hcb1 : cb < w.heap.size + 1 := by omega
  have hcb2 : cb < w.heap.size + 1 + 1 := by omega
  obtain ⟨c0, c1, c2, c3, c4, c5, c6, c7, c8⟩ := h.want 6 (by omega)
  have q0 := h.ps
  have q9 := h.pr
  have hin : inB 6 22 = true := by decide
  simp [wantT] at c0 c1 c2 c3 c4 c5 c6 c7 c8
  clear h
  go_enter Try.func22, Try.ntmps22
  go_wp2
  go_quiet ((go_at_call 17; exact Calls.quiet_of_same (in_any _ _ _)))
  go_wp2
  go_region
  go_wp2_with (go_at_call 17; refine (in_any _ _ _).mono ?_; rintro e w' ⟨rfl, rfl⟩)
  go_quiet (fail)
  go_wp2
  go_ret
  exact ⟨rfl, by repeat (first | exact Below.refl _ _ | apply Below.drew | apply below_drewN | refine Below.alloc ?_ (by simp <;> omega) _)⟩

set_option maxRecDepth 100000 in
set_option maxHeartbeats 4000000 in
theorem ops_11_no (cb pb : Nat) (psa : Option Addr) (n pcap : Nat) (nm cv : Value) (pa pf : Int) (pr : Bool) (ca : Option Addr) (nc ccap : Nat) (na : Option Addr) (nn ncap : Nat) (a b : Int) (w : World) (h : ChkAt w cb pb (.slice psa n pcap)) (hn : n ≤ 140737488351232) (hnc : nc ≤ 140737488351232) (hnn : nn ≤ 140737488351232) (hb : b = 0) (hok : inB a 65 = false) :
    Calls Try.prog 22 #[.pointer (some ⟨cb, 0, none⟩), .agg #[nm, .int .i64 pa, .int .i64 pf, .bool pr, cv, .slice ca nc ccap, .slice na nn ncap], .agg #[.int .i64 11, .int .i64 a, .int .i64 b]] w fun e w' => e = .returned (.int .i64 33) ∧ Below w.heap.size w w' := by
  subst hb
  have hcb := lt_of_heap h.chk
  have hcb1 : cb < w.heap.size + 1 := by omega
  have hcb2 : cb < w.heap.size + 1 + 1 := by omega
  obtain ⟨c0, c1, c2, c3, c4, c5, c6, c7, c8⟩ := h.want 11 (by omega)
  have q0 := h.ps
  have q9 := h.pr
  have hin : inB 11 22 = true := by decide
  simp [wantT] at c0 c1 c2 c3 c4 c5 c6 c7 c8
  clear h
  go_enter Try.func22, Try.ntmps22
  go_wp2
  go_quiet ((go_at_call 17; exact Calls.quiet_of_same (in_any _ _ _)))
  go_wp2
  go_region
  go_wp2_with (go_at_call 17; refine (in_any _ _ _).mono ?_; rintro e w' ⟨rfl, rfl⟩)
  go_ret
  exact ⟨rfl, by repeat (first | exact Below.refl _ _ | apply Below.drew | apply below_drewN | refine Below.alloc ?_ (by simp <;> omega) _)⟩

set_option maxRecDepth 100000 in
set_option maxHeartbeats 4000000 in
theorem ops_11_yes (cb pb : Nat) (psa : Option Addr) (n pcap : Nat) (nm cv : Value) (pa pf : Int) (pr : Bool) (ca : Option Addr) (nc ccap : Nat) (na : Option Addr) (nn ncap : Nat) (a b : Int) (w : World) (h : ChkAt w cb pb (.slice psa n pcap)) (hn : n ≤ 140737488351232) (hnc : nc ≤ 140737488351232) (hnn : nn ≤ 140737488351232) (hb : b = 0) (hok : inB a 65 = true) :
    Calls Try.prog 22 #[.pointer (some ⟨cb, 0, none⟩), .agg #[nm, .int .i64 pa, .int .i64 pf, .bool pr, cv, .slice ca nc ccap, .slice na nn ncap], .agg #[.int .i64 11, .int .i64 a, .int .i64 b]] w fun e w' => e = .returned (.int .i64 0) ∧ Below w.heap.size w w' := by
  subst hb
  have hcb := lt_of_heap h.chk
  have hcb1 : cb < w.heap.size + 1 := by omega
  have hcb2 : cb < w.heap.size + 1 + 1 := by omega
  obtain ⟨c0, c1, c2, c3, c4, c5, c6, c7, c8⟩ := h.want 11 (by omega)
  have q0 := h.ps
  have q9 := h.pr
  have hin : inB 11 22 = true := by decide
  simp [wantT] at c0 c1 c2 c3 c4 c5 c6 c7 c8
  clear h
  go_enter Try.func22, Try.ntmps22
  go_wp2
  go_quiet ((go_at_call 17; exact Calls.quiet_of_same (in_any _ _ _)))
  go_wp2
  go_region
  go_wp2_with (go_at_call 17; refine (in_any _ _ _).mono ?_; rintro e w' ⟨rfl, rfl⟩)
  go_quiet (fail)
  go_wp2
  go_ret
  exact ⟨rfl, by repeat (first | exact Below.refl _ _ | apply Below.drew | apply below_drewN | refine Below.alloc ?_ (by simp <;> omega) _)⟩

set_option maxRecDepth 100000 in
set_option maxHeartbeats 4000000 in
theorem ops_12_no (cb pb : Nat) (psa : Option Addr) (n pcap : Nat) (nm cv : Value) (pa pf : Int) (pr : Bool) (ca : Option Addr) (nc ccap : Nat) (na : Option Addr) (nn ncap : Nat) (a b : Int) (w : World) (h : ChkAt w cb pb (.slice psa n pcap)) (hn : n ≤ 140737488351232) (hnc : nc ≤ 140737488351232) (hnn : nn ≤ 140737488351232) (hb : b = 0) (hok : inB a 65 = false) :
    Calls Try.prog 22 #[.pointer (some ⟨cb, 0, none⟩), .agg #[nm, .int .i64 pa, .int .i64 pf, .bool pr, cv, .slice ca nc ccap, .slice na nn ncap], .agg #[.int .i64 12, .int .i64 a, .int .i64 b]] w fun e w' => e = .returned (.int .i64 33) ∧ Below w.heap.size w w' := by
  subst hb
  have hcb := lt_of_heap h.chk
  have hcb1 : cb < w.heap.size + 1 := by omega
  have hcb2 : cb < w.heap.size + 1 + 1 := by omega
  obtain ⟨c0, c1, c2, c3, c4, c5, c6, c7, c8⟩ := h.want 12 (by omega)
  have q0 := h.ps
  have q9 := h.pr
  have hin : inB 12 22 = true := by decide
  simp [wantT] at c0 c1 c2 c3 c4 c5 c6 c7 c8
  clear h
  go_enter Try.func22, Try.ntmps22
  go_wp2
  go_quiet ((go_at_call 17; exact Calls.quiet_of_same (in_any _ _ _)))
  go_wp2
  go_region
  go_wp2_with (go_at_call 17; refine (in_any _ _ _).mono ?_; rintro e w' ⟨rfl, rfl⟩)
  go_ret
  exact ⟨rfl, by repeat (first | exact Below.refl _ _ | apply Below.drew | apply below_drewN | refine Below.alloc ?_ (by simp <;> omega) _)⟩

set_option maxRecDepth 100000 in
set_option maxHeartbeats 4000000 in
theorem ops_12_yes (cb pb : Nat) (psa : Option Addr) (n pcap : Nat) (nm cv : Value) (pa pf : Int) (pr : Bool) (ca : Option Addr) (nc ccap : Nat) (na : Option Addr) (nn ncap : Nat) (a b : Int) (w : World) (h : ChkAt w cb pb (.slice psa n pcap)) (hn : n ≤ 140737488351232) (hnc : nc ≤ 140737488351232) (hnn : nn ≤ 140737488351232) (hb : b = 0) (hok : inB a 65 = true) :
    Calls Try.prog 22 #[.pointer (some ⟨cb, 0, none⟩), .agg #[nm, .int .i64 pa, .int .i64 pf, .bool pr, cv, .slice ca nc ccap, .slice na nn ncap], .agg #[.int .i64 12, .int .i64 a, .int .i64 b]] w fun e w' => e = .returned (.int .i64 0) ∧ Below w.heap.size w w' := by
  subst hb
  have hcb := lt_of_heap h.chk
  have hcb1 : cb < w.heap.size + 1 := by omega
  have hcb2 : cb < w.heap.size + 1 + 1 := by omega
  obtain ⟨c0, c1, c2, c3, c4, c5, c6, c7, c8⟩ := h.want 12 (by omega)
  have q0 := h.ps
  have q9 := h.pr
  have hin : inB 12 22 = true := by decide
  simp [wantT] at c0 c1 c2 c3 c4 c5 c6 c7 c8
  clear h
  go_enter Try.func22, Try.ntmps22
  go_wp2
  go_quiet ((go_at_call 17; exact Calls.quiet_of_same (in_any _ _ _)))
  go_wp2
  go_region
  go_wp2_with (go_at_call 17; refine (in_any _ _ _).mono ?_; rintro e w' ⟨rfl, rfl⟩)
  go_quiet (fail)
  go_wp2
  go_ret
  exact ⟨rfl, by repeat (first | exact Below.refl _ _ | apply Below.drew | apply below_drewN | refine Below.alloc ?_ (by simp <;> omega) _)⟩

set_option maxRecDepth 100000 in
set_option maxHeartbeats 4000000 in
theorem ops_18_no (cb pb : Nat) (psa : Option Addr) (n pcap : Nat) (nm cv : Value) (pa pf : Int) (pr : Bool) (ca : Option Addr) (nc ccap : Nat) (na : Option Addr) (nn ncap : Nat) (a b : Int) (w : World) (h : ChkAt w cb pb (.slice psa n pcap)) (hn : n ≤ 140737488351232) (hnc : nc ≤ 140737488351232) (hnn : nn ≤ 140737488351232) (hb : b = 0) (hok : inB a 4097 = false) :
    Calls Try.prog 22 #[.pointer (some ⟨cb, 0, none⟩), .agg #[nm, .int .i64 pa, .int .i64 pf, .bool pr, cv, .slice ca nc ccap, .slice na nn ncap], .agg #[.int .i64 18, .int .i64 a, .int .i64 b]] w fun e w' => e = .returned (.int .i64 33) ∧ Below w.heap.size w w' := by
  subst hb
  have hcb := lt_of_heap h.chk
  have hcb1 : cb < w.heap.size + 1 := by omega
  have hcb2 : cb < w.heap.size + 1 + 1 := by omega
  obtain ⟨c0, c1, c2, c3, c4, c5, c6, c7, c8⟩ := h.want 18 (by omega)
  have q0 := h.ps
  have q9 := h.pr
  have hin : inB 18 22 = true := by decide
  simp [wantT] at c0 c1 c2 c3 c4 c5 c6 c7 c8
  clear h
  go_enter Try.func22, Try.ntmps22
  go_wp2
  go_quiet ((go_at_call 17; exact Calls.quiet_of_same (in_any _ _ _)))
  go_wp2
  go_region
  go_wp2_with (go_at_call 17; refine (in_any _ _ _).mono ?_; rintro e w' ⟨rfl, rfl⟩)
  go_ret
  exact ⟨rfl, by repeat (first | exact Below.refl _ _ | apply Below.drew | apply below_drewN | refine Below.alloc ?_ (by simp <;> omega) _)⟩

set_option maxRecDepth 100000 in
set_option maxHeartbeats 4000000 in
theorem ops_18_yes (cb pb : Nat) (psa : Option Addr) (n pcap : Nat) (nm cv : Value) (pa pf : Int) (pr : Bool) (ca : Option Addr) (nc ccap : Nat) (na : Option Addr) (nn ncap : Nat) (a b : Int) (w : World) (h : ChkAt w cb pb (.slice psa n pcap)) (hn : n ≤ 140737488351232) (hnc : nc ≤ 140737488351232) (hnn : nn ≤ 140737488351232) (hb : b = 0) (hok : inB a 4097 = true) :
    Calls Try.prog 22 #[.pointer (some ⟨cb, 0, none⟩), .agg #[nm, .int .i64 pa, .int .i64 pf, .bool pr, cv, .slice ca nc ccap, .slice na nn ncap], .agg #[.int .i64 18, .int .i64 a, .int .i64 b]] w fun e w' => e = .returned (.int .i64 0) ∧ Below w.heap.size w w' := by
  subst hb
  have hcb := lt_of_heap h.chk
  have hcb1 : cb < w.heap.size + 1 := by omega
  have hcb2 : cb < w.heap.size + 1 + 1 := by omega
  obtain ⟨c0, c1, c2, c3, c4, c5, c6, c7, c8⟩ := h.want 18 (by omega)
  have q0 := h.ps
  have q9 := h.pr
  have hin : inB 18 22 = true := by decide
  simp [wantT] at c0 c1 c2 c3 c4 c5 c6 c7 c8
  clear h
  go_enter Try.func22, Try.ntmps22
  go_wp2
  go_quiet ((go_at_call 17; exact Calls.quiet_of_same (in_any _ _ _)))
  go_wp2
  go_region
  go_wp2_with (go_at_call 17; refine (in_any _ _ _).mono ?_; rintro e w' ⟨rfl, rfl⟩)
  go_quiet (fail)
  go_wp2
  go_ret
  exact ⟨rfl, by repeat (first | exact Below.refl _ _ | apply Below.drew | apply below_drewN | refine Below.alloc ?_ (by simp <;> omega) _)⟩


end Go.Proofs.Ytmlmepbnjlepnaa
