/-
  The walks of the checker's method operands, a class of operations each.
-/
import Derived.Test.YtmlmepbnjlepnaaChkMem
namespace Go.Proofs.Ytmlmepbnjlepnaa
open Go.RowKit Go.BigFrame
set_option linter.unusedVariables false

set_option maxRecDepth 100000 in
set_option maxHeartbeats 4000000 in
theorem ops_other (cb pb : Nat) (psa : Option Addr) (n pcap : Nat) (nm cv : Value) (pa pf : Int) (pr : Bool) (ca : Option Addr) (nc ccap : Nat) (na : Option Addr) (nn ncap : Nat) (k : Nat) (a b : Int) (w : World) (h : ChkAt w cb pb (.slice psa n pcap)) (hn : n ≤ 140737488351232) (hnc : nc ≤ 140737488351232) (hnn : nn ≤ 140737488351232) (hk : k < 22) (hkn : (wantT k).known = true) (ha : (wantT k).a = true ∨ (a != 0) = false) (hb : (b != 0) = false) (hb0 : (wantT k).b = false) (h1 : ((k : Int) == 1) = false) (h3 : ((k : Int) == 3) = false) (h4 : ((k : Int) == 4) = false) (h5 : ((k : Int) == 5) = false) (h6 : ((k : Int) == 6) = false) (h10 : ((k : Int) == 10) = false) (h11 : ((k : Int) == 11) = false) (h12 : ((k : Int) == 12) = false) (h18 : ((k : Int) == 18) = false) (h16 : ((k : Int) == 16) = false) :
    Calls Try.prog 22 #[.pointer (some ⟨cb, 0, none⟩), .agg #[nm, .int .i64 pa, .int .i64 pf, .bool pr, cv, .slice ca nc ccap, .slice na nn ncap], .agg #[.int .i64 k, .int .i64 a, .int .i64 b]] w fun e w' => e = .returned (.int .i64 0) ∧ Below w.heap.size w w' := by
  have hcb := lt_of_heap h.chk
  have hcb1 : cb < w.heap.size + 1 := by omega
  have hcb2 : cb < w.heap.size + 1 + 1 := by omega
  obtain ⟨c0, c1, c2, c3, c4, c5, c6, c7, c8⟩ := h.want k hk
  have hin : inB (k : Int) 22 = true := by simp [inB]; omega
  have hk0 : (0 : Int) ≤ k := by omega
  have hk1 : (k : Int) < 22 := by omega
  rw [hkn] at c0
  rw [hb0] at c4
  clear hkn hb0
  generalize wantT k = x at *
  obtain ⟨xk, xw, xm, xa, xb, xA, xB, xj, xf⟩ := x
  dsimp only at c3 ha
  clear h
  rcases ha with ha | ha
  · subst ha
    go_enter Try.func22, Try.ntmps22
    go_wp2
    go_quiet ((go_at_call 17; exact Calls.quiet_of_same (in_any _ _ _)))
    go_wp2
    go_region
    go_wp2_with (go_at_call 17; refine (in_any _ _ _).mono ?_; rintro e w' ⟨rfl, rfl⟩)
    go_quiet (fail)
    go_wp2
    go_ret
    exact ⟨rfl, by repeat (first | exact Below.refl _ _ | apply Below.drew | apply below_drewN | refine Below.alloc ?_ (by simp <;> omega) _)⟩
  · cases xa
    all_goals
      go_enter Try.func22, Try.ntmps22
      go_wp2
      go_quiet ((go_at_call 17; exact Calls.quiet_of_same (in_any _ _ _)))
      go_wp2
      go_region
      go_wp2_with (go_at_call 17; refine (in_any _ _ _).mono ?_; rintro e w' ⟨rfl, rfl⟩)
      go_quiet (fail)
      go_wp2
      go_ret
      exact ⟨rfl, by repeat (first | exact Below.refl _ _ | apply Below.drew | apply below_drewN | refine Below.alloc ?_ (by simp <;> omega) _)⟩

set_option maxRecDepth 100000 in
set_option maxHeartbeats 4000000 in
theorem ops_10_no1 (cb pb : Nat) (psa : Option Addr) (n pcap : Nat) (nm cv : Value) (pa pf : Int) (pr : Bool) (ca : Option Addr) (nc ccap : Nat) (na : Option Addr) (nn ncap : Nat) (a b : Int) (w : World) (h : ChkAt w cb pb (.slice psa n pcap)) (hn : n ≤ 140737488351232) (hnc : nc ≤ 140737488351232) (hnn : nn ≤ 140737488351232) (hok : inB a n = false) :
    Calls Try.prog 22 #[.pointer (some ⟨cb, 0, none⟩), .agg #[nm, .int .i64 pa, .int .i64 pf, .bool pr, cv, .slice ca nc ccap, .slice na nn ncap], .agg #[.int .i64 10, .int .i64 a, .int .i64 b]] w fun e w' => e = .returned (.int .i64 33) ∧ Below w.heap.size w w' := by
  have hcb := lt_of_heap h.chk
  have hcb1 : cb < w.heap.size + 1 := by omega
  have hcb2 : cb < w.heap.size + 1 + 1 := by omega
  obtain ⟨c0, c1, c2, c3, c4, c5, c6, c7, c8⟩ := h.want 10 (by omega)
  have q0 := h.ps
  have q9 := h.pr
  have hin : inB 10 22 = true := by decide
  simp [wantT] at c0 c1 c2 c3 c4 c5 c6 c7 c8
  clear h
  go_enter Try.func22, Try.ntmps22
  go_wp2
  go_quiet ((go_at_call 17; exact Calls.quiet_of_same (in_any _ _ _)))
  go_wp2
  go_region
  go_wp2
  go_quiet ((go_at_call 17; exact Calls.quiet_of_same (in_any _ _ _)))
  go_wp2
  go_ret
  exact ⟨rfl, by repeat (first | exact Below.refl _ _ | apply Below.drew | apply below_drewN | refine Below.alloc ?_ (by simp <;> omega) _)⟩

set_option maxRecDepth 100000 in
set_option maxHeartbeats 4000000 in
theorem ops_10_no2 (cb pb : Nat) (psa : Option Addr) (n pcap : Nat) (nm cv : Value) (pa pf : Int) (pr : Bool) (ca : Option Addr) (nc ccap : Nat) (na : Option Addr) (nn ncap : Nat) (a b : Int) (w : World) (h : ChkAt w cb pb (.slice psa n pcap)) (hn : n ≤ 140737488351232) (hnc : nc ≤ 140737488351232) (hnn : nn ≤ 140737488351232) (hok : inB a n = true) (hok2 : inB b 65 = false) :
    Calls Try.prog 22 #[.pointer (some ⟨cb, 0, none⟩), .agg #[nm, .int .i64 pa, .int .i64 pf, .bool pr, cv, .slice ca nc ccap, .slice na nn ncap], .agg #[.int .i64 10, .int .i64 a, .int .i64 b]] w fun e w' => e = .returned (.int .i64 33) ∧ Below w.heap.size w w' := by
  have hcb := lt_of_heap h.chk
  have hcb1 : cb < w.heap.size + 1 := by omega
  have hcb2 : cb < w.heap.size + 1 + 1 := by omega
  obtain ⟨c0, c1, c2, c3, c4, c5, c6, c7, c8⟩ := h.want 10 (by omega)
  have q0 := h.ps
  have q9 := h.pr
  have hin : inB 10 22 = true := by decide
  simp [wantT] at c0 c1 c2 c3 c4 c5 c6 c7 c8
  clear h
  go_enter Try.func22, Try.ntmps22
  go_wp2
  go_quiet ((go_at_call 17; exact Calls.quiet_of_same (in_any _ _ _)))
  go_wp2
  go_region
  go_wp2
  go_quiet ((go_at_call 17; exact Calls.quiet_of_same (in_any _ _ _)))
  go_wp2
  go_ret
  exact ⟨rfl, by repeat (first | exact Below.refl _ _ | apply Below.drew | apply below_drewN | refine Below.alloc ?_ (by simp <;> omega) _)⟩

set_option maxRecDepth 100000 in
set_option maxHeartbeats 4000000 in
theorem ops_10_no3 (cb pb : Nat) (psa : Option Addr) (n pcap : Nat) (nm cv : Value) (pa pf : Int) (pr : Bool) (ca : Option Addr) (nc ccap : Nat) (na : Option Addr) (nn ncap : Nat) (a b : Int) (w : World) (h : ChkAt w cb pb (.slice psa n pcap)) (hn : n ≤ 140737488351232) (hnc : nc ≤ 140737488351232) (hnn : nn ≤ 140737488351232) (i : Nat) (hi : i < n) (hai : a = i) (pb0 po : Nat) (hpsa : psa = some ⟨pb0, po, none⟩) (hpb : pb0 < w.heap.size) (f : Int) (hcell : w.cell? ⟨pb0, po + i * 7 + 2, none⟩ = some (.int .i64 f)) (hok2 : inB b 65 = true) (hf : (f != b) = true) :
    Calls Try.prog 22 #[.pointer (some ⟨cb, 0, none⟩), .agg #[nm, .int .i64 pa, .int .i64 pf, .bool pr, cv, .slice ca nc ccap, .slice na nn ncap], .agg #[.int .i64 10, .int .i64 a, .int .i64 b]] w fun e w' => e = .returned (.int .i64 34) ∧ Below w.heap.size w w' := by
  subst hai hpsa
  have hcb := lt_of_heap h.chk
  have hcb1 : cb < w.heap.size + 1 := by omega
  have hcb2 : cb < w.heap.size + 1 + 1 := by omega
  obtain ⟨c0, c1, c2, c3, c4, c5, c6, c7, c8⟩ := h.want 10 (by omega)
  have q0 := h.ps
  have q9 := h.pr
  have hin : inB 10 22 = true := by decide
  simp [wantT] at c0 c1 c2 c3 c4 c5 c6 c7 c8
  have hi0 : (0 : Int) ≤ i := by omega
  have hi1 : (i : Int) < n := by omega
  have hokI : inB (i : Int) n = true := by simp [inB]; omega
  have hpb1 : pb0 < w.heap.size + 1 := by omega
  have hpb2 : pb0 < w.heap.size + 1 + 1 := by omega
  clear h
  go_enter Try.func22, Try.ntmps22
  go_wp2
  go_quiet ((go_at_call 17; exact Calls.quiet_of_same (in_any _ _ _)))
  go_wp2
  go_region
  go_wp2
  go_quiet ((go_at_call 17; exact Calls.quiet_of_same (in_any _ _ _)))
  go_wp2
  go_quiet (fail)
  go_wp2
  go_ret
  exact ⟨rfl, by repeat (first | exact Below.refl _ _ | apply Below.drew | apply below_drewN | refine Below.alloc ?_ (by simp <;> omega) _)⟩

set_option maxRecDepth 100000 in
set_option maxHeartbeats 4000000 in
theorem ops_10_yes (cb pb : Nat) (psa : Option Addr) (n pcap : Nat) (nm cv : Value) (pa pf : Int) (pr : Bool) (ca : Option Addr) (nc ccap : Nat) (na : Option Addr) (nn ncap : Nat) (a b : Int) (w : World) (h : ChkAt w cb pb (.slice psa n pcap)) (hn : n ≤ 140737488351232) (hnc : nc ≤ 140737488351232) (hnn : nn ≤ 140737488351232) (i : Nat) (hi : i < n) (hai : a = i) (pb0 po : Nat) (hpsa : psa = some ⟨pb0, po, none⟩) (hpb : pb0 < w.heap.size) (f : Int) (hcell : w.cell? ⟨pb0, po + i * 7 + 2, none⟩ = some (.int .i64 f)) (hok2 : inB b 65 = true) (hf : (f != b) = false) :
    Calls Try.prog 22 #[.pointer (some ⟨cb, 0, none⟩), .agg #[nm, .int .i64 pa, .int .i64 pf, .bool pr, cv, .slice ca nc ccap, .slice na nn ncap], .agg #[.int .i64 10, .int .i64 a, .int .i64 b]] w fun e w' => e = .returned (.int .i64 0) ∧ Below w.heap.size w w' := by
  subst hai hpsa
  have hcb := lt_of_heap h.chk
  have hcb1 : cb < w.heap.size + 1 := by omega
  have hcb2 : cb < w.heap.size + 1 + 1 := by omega
  obtain ⟨c0, c1, c2, c3, c4, c5, c6, c7, c8⟩ := h.want 10 (by omega)
  have q0 := h.ps
  have q9 := h.pr
  have hin : inB 10 22 = true := by decide
  simp [wantT] at c0 c1 c2 c3 c4 c5 c6 c7 c8
  have hi0 : (0 : Int) ≤ i := by omega
  have hi1 : (i : Int) < n := by omega
  have hokI : inB (i : Int) n = true := by simp [inB]; omega
  have hpb1 : pb0 < w.heap.size + 1 := by omega
  have hpb2 : pb0 < w.heap.size + 1 + 1 := by omega
  clear h
  go_enter Try.func22, Try.ntmps22
  go_wp2
  go_quiet ((go_at_call 17; exact Calls.quiet_of_same (in_any _ _ _)))
  go_wp2
  go_region
  go_wp2
  go_quiet ((go_at_call 17; exact Calls.quiet_of_same (in_any _ _ _)))
  go_wp2
  go_quiet (fail)
  go_wp2
  go_ret
  exact ⟨rfl, by repeat (first | exact Below.refl _ _ | apply Below.drew | apply below_drewN | refine Below.alloc ?_ (by simp <;> omega) _)⟩


end Go.Proofs.Ytmlmepbnjlepnaa
