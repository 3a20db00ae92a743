/-
  The walks of the checker's method operands, a class of operations each.
-/
import Derived.Test.YtmlmepbnjlepnaaChkMem
namespace Go.Proofs.Ytmlmepbnjlepnaa
open Go.RowKit Go.BigFrame
set_option linter.unusedVariables false

set_option maxRecDepth 100000 in
set_option maxHeartbeats 4000000 in
theorem ops_16_no (cb pb : Nat) (psa : Option Addr) (n pcap : Nat) (nm cv : Value) (pa pf : Int) (pr : Bool) (ca : Option Addr) (nc ccap : Nat) (na : Option Addr) (nn ncap : Nat) (a b : Int) (w : World) (h : ChkAt w cb pb (.slice psa n pcap)) (hn : n ≤ 140737488351232) (hnc : nc ≤ 140737488351232) (hnn : nn ≤ 140737488351232) (hok : inB a 92 = false) :
    Calls Try.prog 22 #[.pointer (some ⟨cb, 0, none⟩), .agg #[nm, .int .i64 pa, .int .i64 pf, .bool pr, cv, .slice ca nc ccap, .slice na nn ncap], .agg #[.int .i64 16, .int .i64 a, .int .i64 b]] w fun e w' => e = .returned (.int .i64 33) ∧ Below w.heap.size w w' := by
  have hcb := lt_of_heap h.chk
  have hcb1 : cb < w.heap.size + 1 := by omega
  have hcb2 : cb < w.heap.size + 1 + 1 := by omega
  obtain ⟨c0, c1, c2, c3, c4, c5, c6, c7, c8⟩ := h.want 16 (by omega)
  have q0 := h.ps
  have q9 := h.pr
  have hin : inB 16 22 = true := by decide
  simp [wantT] at c0 c1 c2 c3 c4 c5 c6 c7 c8
  clear h
  go_enter Try.func22, Try.ntmps22
  go_wp2
  go_quiet ((go_at_call 17; exact Calls.quiet_of_same (in_any _ _ _)))
  go_wp2
  go_region
  go_wp2
  go_quiet ((go_at_call 17; exact Calls.quiet_of_same (in_any _ _ _)))
  go_wp2
  go_ret
  exact ⟨rfl, by repeat (first | exact Below.refl _ _ | apply Below.drew | apply below_drewN | refine Below.alloc ?_ (by simp <;> omega) _)⟩

set_option maxRecDepth 100000 in
set_option maxHeartbeats 4000000 in
theorem ops_16_no1 (cb pb : Nat) (psa : Option Addr) (n pcap : Nat) (nm cv : Value) (pa pf : Int) (pr : Bool) (ca : Option Addr) (nc ccap : Nat) (na : Option Addr) (nn ncap : Nat) (a b : Int) (w : World) (h : ChkAt w cb pb (.slice psa n pcap)) (hn : n ≤ 140737488351232) (hnc : nc ≤ 140737488351232) (hnn : nn ≤ 140737488351232) (i : Nat) (hi : i < 92) (hai : a = i) (r : List UInt8 × Int × Int) (hr : primT[i]? = some r) (h1 : 85 ≤ i) :
    Calls Try.prog 22 #[.pointer (some ⟨cb, 0, none⟩), .agg #[nm, .int .i64 pa, .int .i64 pf, .bool pr, cv, .slice ca nc ccap, .slice na nn ncap], .agg #[.int .i64 16, .int .i64 a, .int .i64 b]] w fun e w' => e = .returned (.int .i64 34) ∧ Below w.heap.size w w' := by
  subst hai
  have hcb := lt_of_heap h.chk
  have hcb1 : cb < w.heap.size + 1 := by omega
  have hcb2 : cb < w.heap.size + 1 + 1 := by omega
  obtain ⟨c0, c1, c2, c3, c4, c5, c6, c7, c8⟩ := h.want 16 (by omega)
  have q0 := h.ps
  have q9 := h.pr
  have hin : inB 16 22 = true := by decide
  simp [wantT] at c0 c1 c2 c3 c4 c5 c6 c7 c8
  have hi0 : (0 : Int) ≤ i := by omega
  have hi1 : (i : Int) < 92 := by omega
  have hokI : inB (i : Int) 92 = true := by simp [inB]; omega
  have hpb := lt_of_heap h.prims
  have hpb1 : pb < w.heap.size + 1 := by omega
  have hpb2 : pb < w.heap.size + 1 + 1 := by omega
  have p0 : w.cell? ⟨pb, i * 3, none⟩ = some (.string ⟨r.1.toArray⟩) := by rw [cell_row h.prims]; exact prims_get0 i r hr
  have p1 : w.cell? ⟨pb, i * 3 + 1, none⟩ = some (.int .i64 r.2.1) := by rw [cell_row h.prims]; exact (prims_get i r hr).1
  have p2 : w.cell? ⟨pb, i * 3 + 2, none⟩ = some (.int .i64 r.2.2) := by rw [cell_row h.prims]; exact (prims_get i r hr).2

  obtain ⟨rn, rl, rm⟩ := r
  dsimp only at *
  generalize (⟨rn.toArray⟩ : ByteArray) = rs at *
  clear hr
  have g1 : decide ((85 : Int) ≤ (i : Int)) = true := by simp; omega
  clear h
  go_enter Try.func22, Try.ntmps22
  go_wp2
  go_quiet ((go_at_call 17; exact Calls.quiet_of_same (in_any _ _ _)))
  go_wp2
  go_region
  go_wp2
  go_quiet ((go_at_call 17; exact Calls.quiet_of_same (in_any _ _ _)))
  go_wp2
  go_quiet (fail)
  go_wp2
  go_region
  go_wp2
  go_quiet (fail)
  go_wp2
  go_ret
  exact ⟨rfl, by repeat (first | exact Below.refl _ _ | apply Below.drew | apply below_drewN | refine Below.alloc ?_ (by simp <;> omega) _)⟩

set_option maxRecDepth 100000 in
set_option maxHeartbeats 4000000 in
theorem ops_16_no2 (cb pb : Nat) (psa : Option Addr) (n pcap : Nat) (nm cv : Value) (pa pf : Int) (pr : Bool) (ca : Option Addr) (nc ccap : Nat) (na : Option Addr) (nn ncap : Nat) (a b : Int) (w : World) (h : ChkAt w cb pb (.slice psa n pcap)) (hn : n ≤ 140737488351232) (hnc : nc ≤ 140737488351232) (hnn : nn ≤ 140737488351232) (i : Nat) (hi : i < 92) (hai : a = i) (r : List UInt8 × Int × Int) (hr : primT[i]? = some r) (h1 : i < 85) (h2 : b < r.2.1) :
    Calls Try.prog 22 #[.pointer (some ⟨cb, 0, none⟩), .agg #[nm, .int .i64 pa, .int .i64 pf, .bool pr, cv, .slice ca nc ccap, .slice na nn ncap], .agg #[.int .i64 16, .int .i64 a, .int .i64 b]] w fun e w' => e = .returned (.int .i64 34) ∧ Below w.heap.size w w' := by
  subst hai
  have hcb := lt_of_heap h.chk
  have hcb1 : cb < w.heap.size + 1 := by omega
  have hcb2 : cb < w.heap.size + 1 + 1 := by omega
  obtain ⟨c0, c1, c2, c3, c4, c5, c6, c7, c8⟩ := h.want 16 (by omega)
  have q0 := h.ps
  have q9 := h.pr
  have hin : inB 16 22 = true := by decide
  simp [wantT] at c0 c1 c2 c3 c4 c5 c6 c7 c8
  have hi0 : (0 : Int) ≤ i := by omega
  have hi1 : (i : Int) < 92 := by omega
  have hokI : inB (i : Int) 92 = true := by simp [inB]; omega
  have hpb := lt_of_heap h.prims
  have hpb1 : pb < w.heap.size + 1 := by omega
  have hpb2 : pb < w.heap.size + 1 + 1 := by omega
  have p0 : w.cell? ⟨pb, i * 3, none⟩ = some (.string ⟨r.1.toArray⟩) := by rw [cell_row h.prims]; exact prims_get0 i r hr
  have p1 : w.cell? ⟨pb, i * 3 + 1, none⟩ = some (.int .i64 r.2.1) := by rw [cell_row h.prims]; exact (prims_get i r hr).1
  have p2 : w.cell? ⟨pb, i * 3 + 2, none⟩ = some (.int .i64 r.2.2) := by rw [cell_row h.prims]; exact (prims_get i r hr).2

  obtain ⟨rn, rl, rm⟩ := r
  dsimp only at *
  generalize (⟨rn.toArray⟩ : ByteArray) = rs at *
  clear hr
  have g1 : decide ((85 : Int) ≤ (i : Int)) = false := by simp; omega
  have g2 : decide (b < rl) = true := by simp; omega
  clear h
  go_enter Try.func22, Try.ntmps22
  go_wp2
  go_quiet ((go_at_call 17; exact Calls.quiet_of_same (in_any _ _ _)))
  go_wp2
  go_region
  go_wp2
  go_quiet ((go_at_call 17; exact Calls.quiet_of_same (in_any _ _ _)))
  go_wp2
  go_quiet (fail)
  go_wp2
  go_region
  go_wp2
  go_quiet (fail)
  go_wp2
  go_ret
  exact ⟨rfl, by repeat (first | exact Below.refl _ _ | apply Below.drew | apply below_drewN | refine Below.alloc ?_ (by simp <;> omega) _)⟩

set_option maxRecDepth 100000 in
set_option maxHeartbeats 4000000 in
theorem ops_16_no3 (cb pb : Nat) (psa : Option Addr) (n pcap : Nat) (nm cv : Value) (pa pf : Int) (pr : Bool) (ca : Option Addr) (nc ccap : Nat) (na : Option Addr) (nn ncap : Nat) (a b : Int) (w : World) (h : ChkAt w cb pb (.slice psa n pcap)) (hn : n ≤ 140737488351232) (hnc : nc ≤ 140737488351232) (hnn : nn ≤ 140737488351232) (i : Nat) (hi : i < 92) (hai : a = i) (r : List UInt8 × Int × Int) (hr : primT[i]? = some r) (h1 : i < 85) (h2 : r.2.1 ≤ b) (h3 : 0 ≤ r.2.2) (h4 : r.2.2 < b) :
    Calls Try.prog 22 #[.pointer (some ⟨cb, 0, none⟩), .agg #[nm, .int .i64 pa, .int .i64 pf, .bool pr, cv, .slice ca nc ccap, .slice na nn ncap], .agg #[.int .i64 16, .int .i64 a, .int .i64 b]] w fun e w' => e = .returned (.int .i64 34) ∧ Below w.heap.size w w' := by
  subst hai
  have hcb := lt_of_heap h.chk
  have hcb1 : cb < w.heap.size + 1 := by omega
  have hcb2 : cb < w.heap.size + 1 + 1 := by omega
  obtain ⟨c0, c1, c2, c3, c4, c5, c6, c7, c8⟩ := h.want 16 (by omega)
  have q0 := h.ps
  have q9 := h.pr
  have hin : inB 16 22 = true := by decide
  simp [wantT] at c0 c1 c2 c3 c4 c5 c6 c7 c8
  have hi0 : (0 : Int) ≤ i := by omega
  have hi1 : (i : Int) < 92 := by omega
  have hokI : inB (i : Int) 92 = true := by simp [inB]; omega
  have hpb := lt_of_heap h.prims
  have hpb1 : pb < w.heap.size + 1 := by omega
  have hpb2 : pb < w.heap.size + 1 + 1 := by omega
  have p0 : w.cell? ⟨pb, i * 3, none⟩ = some (.string ⟨r.1.toArray⟩) := by rw [cell_row h.prims]; exact prims_get0 i r hr
  have p1 : w.cell? ⟨pb, i * 3 + 1, none⟩ = some (.int .i64 r.2.1) := by rw [cell_row h.prims]; exact (prims_get i r hr).1
  have p2 : w.cell? ⟨pb, i * 3 + 2, none⟩ = some (.int .i64 r.2.2) := by rw [cell_row h.prims]; exact (prims_get i r hr).2

  obtain ⟨rn, rl, rm⟩ := r
  dsimp only at *
  generalize (⟨rn.toArray⟩ : ByteArray) = rs at *
  clear hr
  have g1 : decide ((85 : Int) ≤ (i : Int)) = false := by simp; omega
  have g2 : decide (b < rl) = false := by simp; omega
  have g3 : decide (0 ≤ rm) = true := by simp; omega
  have g4 : decide (rm < b) = true := by simp; omega
  clear h
  go_enter Try.func22, Try.ntmps22
  go_wp2
  go_quiet ((go_at_call 17; exact Calls.quiet_of_same (in_any _ _ _)))
  go_wp2
  go_region
  go_wp2
  go_quiet ((go_at_call 17; exact Calls.quiet_of_same (in_any _ _ _)))
  go_wp2
  go_quiet (fail)
  go_wp2
  go_region
  go_wp2
  go_quiet (fail)
  go_wp2
  go_ret
  exact ⟨rfl, by repeat (first | exact Below.refl _ _ | apply Below.drew | apply below_drewN | refine Below.alloc ?_ (by simp <;> omega) _)⟩

set_option maxRecDepth 100000 in
set_option maxHeartbeats 4000000 in
theorem ops_16_no4 (cb pb : Nat) (psa : Option Addr) (n pcap : Nat) (nm cv : Value) (pa pf : Int) (pr : Bool) (ca : Option Addr) (nc ccap : Nat) (na : Option Addr) (nn ncap : Nat) (a b : Int) (w : World) (h : ChkAt w cb pb (.slice psa n pcap)) (hn : n ≤ 140737488351232) (hnc : nc ≤ 140737488351232) (hnn : nn ≤ 140737488351232) (i : Nat) (hi : i < 92) (hai : a = i) (r : List UInt8 × Int × Int) (hr : primT[i]? = some r) (h1 : i < 85) (h2 : r.2.1 ≤ b) (h3 : r.2.2 < 0) (h4 : b < 0) :
    Calls Try.prog 22 #[.pointer (some ⟨cb, 0, none⟩), .agg #[nm, .int .i64 pa, .int .i64 pf, .bool pr, cv, .slice ca nc ccap, .slice na nn ncap], .agg #[.int .i64 16, .int .i64 a, .int .i64 b]] w fun e w' => e = .returned (.int .i64 34) ∧ Below w.heap.size w w' := by
  subst hai
  have hcb := lt_of_heap h.chk
  have hcb1 : cb < w.heap.size + 1 := by omega
  have hcb2 : cb < w.heap.size + 1 + 1 := by omega
  obtain ⟨c0, c1, c2, c3, c4, c5, c6, c7, c8⟩ := h.want 16 (by omega)
  have q0 := h.ps
  have q9 := h.pr
  have hin : inB 16 22 = true := by decide
  simp [wantT] at c0 c1 c2 c3 c4 c5 c6 c7 c8
  have hi0 : (0 : Int) ≤ i := by omega
  have hi1 : (i : Int) < 92 := by omega
  have hokI : inB (i : Int) 92 = true := by simp [inB]; omega
  have hpb := lt_of_heap h.prims
  have hpb1 : pb < w.heap.size + 1 := by omega
  have hpb2 : pb < w.heap.size + 1 + 1 := by omega
  have p0 : w.cell? ⟨pb, i * 3, none⟩ = some (.string ⟨r.1.toArray⟩) := by rw [cell_row h.prims]; exact prims_get0 i r hr
  have p1 : w.cell? ⟨pb, i * 3 + 1, none⟩ = some (.int .i64 r.2.1) := by rw [cell_row h.prims]; exact (prims_get i r hr).1
  have p2 : w.cell? ⟨pb, i * 3 + 2, none⟩ = some (.int .i64 r.2.2) := by rw [cell_row h.prims]; exact (prims_get i r hr).2

  obtain ⟨rn, rl, rm⟩ := r
  dsimp only at *
  generalize (⟨rn.toArray⟩ : ByteArray) = rs at *
  clear hr
  have g1 : decide ((85 : Int) ≤ (i : Int)) = false := by simp; omega
  have g2 : decide (b < rl) = false := by simp; omega
  have g3 : decide (0 ≤ rm) = false := by simp; omega
  have g4 : decide (b < 0) = true := by simp; omega
  clear h
  go_enter Try.func22, Try.ntmps22
  go_wp2
  go_quiet ((go_at_call 17; exact Calls.quiet_of_same (in_any _ _ _)))
  go_wp2
  go_region
  go_wp2
  go_quiet ((go_at_call 17; exact Calls.quiet_of_same (in_any _ _ _)))
  go_wp2
  go_quiet (fail)
  go_wp2
  go_region
  go_wp2
  go_quiet (fail)
  go_wp2
  go_ret
  exact ⟨rfl, by repeat (first | exact Below.refl _ _ | apply Below.drew | apply below_drewN | refine Below.alloc ?_ (by simp <;> omega) _)⟩

set_option maxRecDepth 100000 in
set_option maxHeartbeats 4000000 in
theorem ops_16_no5 (cb pb : Nat) (psa : Option Addr) (n pcap : Nat) (nm cv : Value) (pa pf : Int) (pr : Bool) (ca : Option Addr) (nc ccap : Nat) (na : Option Addr) (nn ncap : Nat) (a b : Int) (w : World) (h : ChkAt w cb pb (.slice psa n pcap)) (hn : n ≤ 140737488351232) (hnc : nc ≤ 140737488351232) (hnn : nn ≤ 140737488351232) (i : Nat) (hi : i < 92) (hai : a = i) (r : List UInt8 × Int × Int) (hr : primT[i]? = some r) (h1 : i < 85) (h2 : r.2.1 ≤ b) (h3 : 0 ≤ r.2.2) (h5 : b ≤ r.2.2) (h4 : b < 0) :
    Calls Try.prog 22 #[.pointer (some ⟨cb, 0, none⟩), .agg #[nm, .int .i64 pa, .int .i64 pf, .bool pr, cv, .slice ca nc ccap, .slice na nn ncap], .agg #[.int .i64 16, .int .i64 a, .int .i64 b]] w fun e w' => e = .returned (.int .i64 34) ∧ Below w.heap.size w w' := by
  subst hai
  have hcb := lt_of_heap h.chk
  have hcb1 : cb < w.heap.size + 1 := by omega
  have hcb2 : cb < w.heap.size + 1 + 1 := by omega
  obtain ⟨c0, c1, c2, c3, c4, c5, c6, c7, c8⟩ := h.want 16 (by omega)
  have q0 := h.ps
  have q9 := h.pr
  have hin : inB 16 22 = true := by decide
  simp [wantT] at c0 c1 c2 c3 c4 c5 c6 c7 c8
  have hi0 : (0 : Int) ≤ i := by omega
  have hi1 : (i : Int) < 92 := by omega
  have hokI : inB (i : Int) 92 = true := by simp [inB]; omega
  have hpb := lt_of_heap h.prims
  have hpb1 : pb < w.heap.size + 1 := by omega
  have hpb2 : pb < w.heap.size + 1 + 1 := by omega
  have p0 : w.cell? ⟨pb, i * 3, none⟩ = some (.string ⟨r.1.toArray⟩) := by rw [cell_row h.prims]; exact prims_get0 i r hr
  have p1 : w.cell? ⟨pb, i * 3 + 1, none⟩ = some (.int .i64 r.2.1) := by rw [cell_row h.prims]; exact (prims_get i r hr).1
  have p2 : w.cell? ⟨pb, i * 3 + 2, none⟩ = some (.int .i64 r.2.2) := by rw [cell_row h.prims]; exact (prims_get i r hr).2

  obtain ⟨rn, rl, rm⟩ := r
  dsimp only at *
  generalize (⟨rn.toArray⟩ : ByteArray) = rs at *
  clear hr
  have g1 : decide ((85 : Int) ≤ (i : Int)) = false := by simp; omega
  have g2 : decide (b < rl) = false := by simp; omega
  have g3 : decide (0 ≤ rm) = true := by simp; omega
  have g4 : decide (rm < b) = false := by simp; omega
  have g5 : decide (b < 0) = true := by simp; omega
  clear h
  go_enter Try.func22, Try.ntmps22
  go_wp2
  go_quiet ((go_at_call 17; exact Calls.quiet_of_same (in_any _ _ _)))
  go_wp2
  go_region
  go_wp2
  go_quiet ((go_at_call 17; exact Calls.quiet_of_same (in_any _ _ _)))
  go_wp2
  go_quiet (fail)
  go_wp2
  go_region
  go_wp2
  go_quiet (fail)
  go_wp2
  go_ret
  exact ⟨rfl, by repeat (first | exact Below.refl _ _ | apply Below.drew | apply below_drewN | refine Below.alloc ?_ (by simp <;> omega) _)⟩

set_option maxRecDepth 100000 in
set_option maxHeartbeats 4000000 in
theorem ops_16_yes1 (cb pb : Nat) (psa : Option Addr) (n pcap : Nat) (nm cv : Value) (pa pf : Int) (pr : Bool) (ca : Option Addr) (nc ccap : Nat) (na : Option Addr) (nn ncap : Nat) (a b : Int) (w : World) (h : ChkAt w cb pb (.slice psa n pcap)) (hn : n ≤ 140737488351232) (hnc : nc ≤ 140737488351232) (hnn : nn ≤ 140737488351232) (i : Nat) (hi : i < 92) (hai : a = i) (r : List UInt8 × Int × Int) (hr : primT[i]? = some r) (h1 : i < 85) (h2 : r.2.1 ≤ b) (h3 : r.2.2 < 0) (h4 : 0 ≤ b) :
    Calls Try.prog 22 #[.pointer (some ⟨cb, 0, none⟩), .agg #[nm, .int .i64 pa, .int .i64 pf, .bool pr, cv, .slice ca nc ccap, .slice na nn ncap], .agg #[.int .i64 16, .int .i64 a, .int .i64 b]] w fun e w' => e = .returned (.int .i64 0) ∧ Below w.heap.size w w' := by
  subst hai
  have hcb := lt_of_heap h.chk
  have hcb1 : cb < w.heap.size + 1 := by omega
  have hcb2 : cb < w.heap.size + 1 + 1 := by omega
  obtain ⟨c0, c1, c2, c3, c4, c5, c6, c7, c8⟩ := h.want 16 (by omega)
  have q0 := h.ps
  have q9 := h.pr
  have hin : inB 16 22 = true := by decide
  simp [wantT] at c0 c1 c2 c3 c4 c5 c6 c7 c8
  have hi0 : (0 : Int) ≤ i := by omega
  have hi1 : (i : Int) < 92 := by omega
  have hokI : inB (i : Int) 92 = true := by simp [inB]; omega
  have hpb := lt_of_heap h.prims
  have hpb1 : pb < w.heap.size + 1 := by omega
  have hpb2 : pb < w.heap.size + 1 + 1 := by omega
  have p0 : w.cell? ⟨pb, i * 3, none⟩ = some (.string ⟨r.1.toArray⟩) := by rw [cell_row h.prims]; exact prims_get0 i r hr
  have p1 : w.cell? ⟨pb, i * 3 + 1, none⟩ = some (.int .i64 r.2.1) := by rw [cell_row h.prims]; exact (prims_get i r hr).1
  have p2 : w.cell? ⟨pb, i * 3 + 2, none⟩ = some (.int .i64 r.2.2) := by rw [cell_row h.prims]; exact (prims_get i r hr).2

  obtain ⟨rn, rl, rm⟩ := r
  dsimp only at *
  generalize (⟨rn.toArray⟩ : ByteArray) = rs at *
  clear hr
  have g1 : decide ((85 : Int) ≤ (i : Int)) = false := by simp; omega
  have g2 : decide (b < rl) = false := by simp; omega
  have g3 : decide (0 ≤ rm) = false := by simp; omega
  have g4 : decide (b < 0) = false := by simp; omega
  clear h
  go_enter Try.func22, Try.ntmps22
  go_wp2
  go_quiet ((go_at_call 17; exact Calls.quiet_of_same (in_any _ _ _)))
  go_wp2
  go_region
  go_wp2
  go_quiet ((go_at_call 17; exact Calls.quiet_of_same (in_any _ _ _)))
  go_wp2
  go_quiet (fail)
  go_wp2
  go_region
  go_wp2
  go_quiet (fail)
  go_wp2
  go_ret
  exact ⟨rfl, by repeat (first | exact Below.refl _ _ | apply Below.drew | apply below_drewN | refine Below.alloc ?_ (by simp <;> omega) _)⟩

set_option maxRecDepth 100000 in
set_option maxHeartbeats 4000000 in
theorem ops_16_yes2 (cb pb : Nat) (psa : Option Addr) (n pcap : Nat) (nm cv : Value) (pa pf : Int) (pr : Bool) (ca : Option Addr) (nc ccap : Nat) (na : Option Addr) (nn ncap : Nat) (a b : Int) (w : World) (h : ChkAt w cb pb (.slice psa n pcap)) (hn : n ≤ 140737488351232) (hnc : nc ≤ 140737488351232) (hnn : nn ≤ 140737488351232) (i : Nat) (hi : i < 92) (hai : a = i) (r : List UInt8 × Int × Int) (hr : primT[i]? = some r) (h1 : i < 85) (h2 : r.2.1 ≤ b) (h3 : 0 ≤ r.2.2) (h5 : b ≤ r.2.2) (h4 : 0 ≤ b) :
    Calls Try.prog 22 #[.pointer (some ⟨cb, 0, none⟩), .agg #[nm, .int .i64 pa, .int .i64 pf, .bool pr, cv, .slice ca nc ccap, .slice na nn ncap], .agg #[.int .i64 16, .int .i64 a, .int .i64 b]] w fun e w' => e = .returned (.int .i64 0) ∧ Below w.heap.size w w' := by
  subst hai
  have hcb := lt_of_heap h.chk
  have hcb1 : cb < w.heap.size + 1 := by omega
  have hcb2 : cb < w.heap.size + 1 + 1 := by omega
  obtain ⟨c0, c1, c2, c3, c4, c5, c6, c7, c8⟩ := h.want 16 (by omega)
  have q0 := h.ps
  have q9 := h.pr
  have hin : inB 16 22 = true := by decide
  simp [wantT] at c0 c1 c2 c3 c4 c5 c6 c7 c8
  have hi0 : (0 : Int) ≤ i := by omega
  have hi1 : (i : Int) < 92 := by omega
  have hokI : inB (i : Int) 92 = true := by simp [inB]; omega
  have hpb := lt_of_heap h.prims
  have hpb1 : pb < w.heap.size + 1 := by omega
  have hpb2 : pb < w.heap.size + 1 + 1 := by omega
  have p0 : w.cell? ⟨pb, i * 3, none⟩ = some (.string ⟨r.1.toArray⟩) := by rw [cell_row h.prims]; exact prims_get0 i r hr
  have p1 : w.cell? ⟨pb, i * 3 + 1, none⟩ = some (.int .i64 r.2.1) := by rw [cell_row h.prims]; exact (prims_get i r hr).1
  have p2 : w.cell? ⟨pb, i * 3 + 2, none⟩ = some (.int .i64 r.2.2) := by rw [cell_row h.prims]; exact (prims_get i r hr).2

  obtain ⟨rn, rl, rm⟩ := r
  dsimp only at *
  generalize (⟨rn.toArray⟩ : ByteArray) = rs at *
  clear hr
  have g1 : decide ((85 : Int) ≤ (i : Int)) = false := by simp; omega
  have g2 : decide (b < rl) = false := by simp; omega
  have g3 : decide (0 ≤ rm) = true := by simp; omega
  have g4 : decide (rm < b) = false := by simp; omega
  have g5 : decide (b < 0) = false := by simp; omega
  clear h
  go_enter Try.func22, Try.ntmps22
  go_wp2
  go_quiet ((go_at_call 17; exact Calls.quiet_of_same (in_any _ _ _)))
  go_wp2
  go_region
  go_wp2
  go_quiet ((go_at_call 17; exact Calls.quiet_of_same (in_any _ _ _)))
  go_wp2
  go_quiet (fail)
  go_wp2
  go_region
  go_wp2
  go_quiet (fail)
  go_wp2
  go_ret
  exact ⟨rfl, by repeat (first | exact Below.refl _ _ | apply Below.drew | apply below_drewN | refine Below.alloc ?_ (by simp <;> omega) _)⟩


end Go.Proofs.Ytmlmepbnjlepnaa
