/-
  What proto's calls say, as proto calls them.
-/
import Derived.Test.YtmlmepbnjlepnaaChkHead
import Derived.Test.YtmlmepbnjlepnaaChkSteps
import Derived.Test.YtmlmepbnjlepnaaChkGoes
namespace Go.Proofs.Ytmlmepbnjlepnaa
open Go.RowKit Go.BigFrame

theorem prs_len (L : List PrV) : (prs L).length = L.length := by simp [prs]

/-- What the operands' check leaves. -/
theorem ops_fine {ps : List Pr} {p : Pr} {x : Ins} (h : opsE ps p x = 0) :
    ∃ k : Nat, x.op = k ∧ k < 22 ∧ ((wantT k).byA = true → 0 ≤ x.a ∧ x.a ≤ 4096) ∧ ((wantT k).byB = true → 0 ≤ x.b) := by
  unfold opsE at h
  by_cases h1 : (!(inB x.op 22 && (wantT x.op.toNat).known)) = true
  · rw [if_pos h1] at h; cases h
  rw [if_neg h1] at h
  have hin : inB x.op 22 = true := by
    cases e : inB x.op 22
    · rw [e] at h1; simp at h1
    · rfl
  simp only [inB, Bool.and_eq_true, decide_eq_true_eq] at hin
  obtain ⟨k, hk⟩ := Int.eq_ofNat_of_zero_le hin.1
  by_cases h2 : ((!(wantT x.op.toNat).a && decide (x.a ≠ 0)) || (!(wantT x.op.toNat).b && decide (x.b ≠ 0))) = true
  · rw [if_pos h2] at h; cases h
  rw [if_neg h2] at h
  by_cases h3 : (!okB ps p x) = true
  · rw [if_pos h3] at h; cases h
  rw [if_neg h3] at h
  by_cases h4 : (!kindB ps x) = true
  · rw [if_pos h4] at h; cases h
  have h3 : okB ps p x = true := by simpa using h3
  have h4 : kindB ps x = true := by simpa using h4
  refine ⟨k, hk, by omega, ?_, ?_⟩
  · intro ha
    have : k = 11 ∨ k = 12 ∨ k = 18 := by
      have hk22 : k < 22 := by omega
      rcases k with _ | _ | _ | _ | _ | _ | _ | _ | _ | _ | _ | _ | _ | _ | _ | _ | _ | _ | _ | _ | _ | _ | k
      all_goals first | omega | (revert ha; decide)
    rcases this with rfl | rfl | rfl
    all_goals
      rw [okB, hk] at h3
      simp [inB] at h3
      omega
  · intro hb
    have : k = 10 ∨ k = 16 := by
      have hk22 : k < 22 := by omega
      rcases k with _ | _ | _ | _ | _ | _ | _ | _ | _ | _ | _ | _ | _ | _ | _ | _ | _ | _ | _ | _ | _ | _ | k
      all_goals first | omega | (revert hb; decide)
    rcases this with rfl | rfl
    · rw [okB, hk] at h3
      simp [inB] at h3
      omega
    · rw [kindB, hk] at h4
      simp at h4
      omega

theorem operands_at (cb pb : Nat) (psa : Option Addr) (pcap : Nat) (L : List PrV) (w W : World) (h : ChkAt w cb pb (.slice psa L.length pcap)) (hps : PsAt w psa L) (hb : Below w.heap.size w W)
    (nm : ByteArray) (p : Pr) (hnc : p.nc ≤ 140737488351232) (hnn : p.nn ≤ 140737488351232) (cv : Value) (ka : Option Addr) (kcap : Nat) (na : Option Addr) (ncap : Nat) (x : Ins) :
    Calls Try.prog 22 #[.pointer (some ⟨cb, 0, none⟩), .agg #[.string nm, .int .i64 p.args, .int .i64 p.free, .bool p.rest, cv, .slice ka p.nc kcap, .slice na p.nn ncap], .agg #[.int .i64 x.op, .int .i64 x.a, .int .i64 x.b]] W
      fun e w' => e = .returned (.int .i64 (opsE (prs L) p x)) ∧ Below W.heap.size W w' := by
  have h' := h.below hb
  have hps' := hps.below hb
  rw [← prs_len] at h'
  refine operands_any cb pb psa (prs L) pcap (.string nm) cv p.rest ka kcap na ncap p x W h' (by rw [prs_len]; exact hps.len) hnc hnn fun i hi => ?_
  rw [prs_len] at hi
  obtain ⟨b, o, v, h1, h2, h3, h4⟩ := hps'.row i hi
  refine ⟨b, o, h1, h2, ?_⟩
  rw [h4 2 (by omega), freeOf_prs h3]
  rfl

end Go.Proofs.Ytmlmepbnjlepnaa
