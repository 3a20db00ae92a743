/-
  The walk of the document's own: an instruction's own operands.
-/
import Derived.Test.YtmlmepbnjlepnaaChkRefs
namespace Go.Proofs.Ytmlmepbnjlepnaa
open Go.RowKit Go.BigFrame
set_option linter.unusedSimpArgs false
set_option linter.unusedVariables false

/-- Both ways of own's small arms. -/
theorem own_prs (ps : List Pr) (n : Nat) (psa : Option Addr) (w : World) (hn : ps.length = n) (hf : ∀ i, i < ps.length → ∃ b o, psa = some ⟨b, o, none⟩ ∧ b < w.heap.size ∧ w.cell? ⟨b, o + i * 7 + 2, none⟩ = some (.int .i64 (freeOf ps i))) {a : Int} (ha : inB a n = true) :
    ∃ (b o i : Nat), psa = some ⟨b, o, none⟩ ∧ b < w.heap.size ∧ a = i ∧ i < n ∧ w.cell? ⟨b, o + i * 7 + 2, none⟩ = some (.int .i64 (freeOf ps a)) := by
  simp only [inB, Bool.and_eq_true, decide_eq_true_eq] at ha
  obtain ⟨b, o, h1, h2, h3⟩ := hf a.toNat (by omega)
  exact ⟨b, o, a.toNat, h1, h2, by omega, by omega, by rw [h3, Int.toNat_of_nonneg ha.1]⟩

section
variable (psa : Option Addr) (n pcap : Nat) (nm : ByteArray) (pargs pfree : Int) (pr : Bool) (ka : Option Addr) (nk kcap : Nat) (ca : Option Addr) (nc ccap : Nat) (na : Option Addr) (nn ncap : Nat)

def ownArgs (op a b : Int) : Array Value := #[.slice psa n pcap, .agg #[.string nm, .int .i64 pargs, .int .i64 pfree, .bool pr, .slice ka nk kcap, .slice ca nc ccap, .slice na nn ncap], .agg #[.int .i64 op, .int .i64 a, .int .i64 b]]

set_option maxRecDepth 100000 in
set_option maxHeartbeats 4000000 in
theorem rown_out (op a b : Int) (w : World) (h : ¬ (1 ≤ op ∧ op ≤ 21)) :
    Calls Try.prog 26 (ownArgs psa n pcap nm pargs pfree pr ka nk kcap ca nc ccap na nn ncap op a b) w fun e w' => e = .returned (.int .i64 30) ∧ Below w.heap.size w w' := by
  unfold ownArgs
  rcases (show op < 1 ∨ (1 ≤ op ∧ 21 < op) by omega) with h1 | ⟨h1, h2⟩ <;> clear h <;>
  · go_enter Try.func26, Try.ntmps26
    go_wp2
    go_ret
    exact ⟨rfl, by repeat (first | exact Below.refl _ _ | apply Below.drew | apply below_drewN | refine Below.alloc ?_ (by simp <;> omega) _)⟩

set_option maxRecDepth 100000 in
set_option maxHeartbeats 4000000 in
theorem rown_named (op a b : Int) (w : World) (h : 1 ≤ op ∧ op ≤ 21) (hbad : ((!(wantT op.toNat).a && decide (a ≠ 0)) || (!(wantT op.toNat).b && decide (b ≠ 0))) = true) :
    Calls Try.prog 26 (ownArgs psa n pcap nm pargs pfree pr ka nk kcap ca nc ccap na nn ncap op a b) w fun e w' => e = .returned (.int .i64 30) ∧ Below w.heap.size w w' := by
  unfold ownArgs
  have HN := hide (fun w => named_any op h w)
  obtain ⟨h1, h2⟩ := h
  generalize wantT op.toNat = q at *
  obtain ⟨q0, q1, q2, qa, qb, q5, q6, q7, q8⟩ := q
  dsimp only at hbad HN
  have hab : (qa = false ∧ a ≠ 0) ∨ (qa = false ∧ a = 0 ∧ qb = false ∧ b ≠ 0) ∨ (qa = true ∧ qb = false ∧ b ≠ 0) := by
    cases qa <;> cases qb <;> simp at hbad ⊢ <;> omega
  clear hbad
  rcases hab with ⟨rfl, ha⟩ | ⟨rfl, rfl, rfl, hb⟩ | ⟨rfl, rfl, hb⟩ <;>
  · go_enter Try.func26, Try.ntmps26
    go_wp2_with (go_at_call 29; refine (HN.out _).mono ?_; rintro e w' ⟨rfl, rfl⟩)
    go_ret
    exact ⟨rfl, by repeat (first | exact Below.refl _ _ | apply Below.drew | apply below_drewN | refine Below.alloc ?_ (by simp <;> omega) _)⟩

set_option maxRecDepth 100000 in
set_option maxHeartbeats 4000000 in
theorem rown_none (op a b : Int) (w : World) (h : op = 2 ∨ op = 7 ∨ op = 8 ∨ op = 9 ∨ op = 13 ∨ op = 14 ∨ op = 15 ∨ op = 17 ∨ op = 19 ∨ op = 20 ∨ op = 21) (hq : ((!(wantT op.toNat).a && decide (a ≠ 0)) || (!(wantT op.toNat).b && decide (b ≠ 0))) = false) :
    Calls Try.prog 26 (ownArgs psa n pcap nm pargs pfree pr ka nk kcap ca nc ccap na nn ncap op a b) w fun e w' => e = .returned (.int .i64 0) ∧ Below w.heap.size w w' := by
  unfold ownArgs
  have HN := hide (fun w h => named_any op h w)
  rcases h with h | h | h | h | h | h | h | h | h | h | h <;> subst h <;> simp [wantT] at hq HN <;>
  · first
    | (obtain ⟨rfl, rfl⟩ := hq)
    | subst hq
    go_enter Try.func26, Try.ntmps26
    go_wp2_with (go_at_call 29; refine (named_any _ (by omega) _).mono ?_; rintro e w' ⟨rfl, rfl⟩; simp only [wantT, Int.reduceToNat])
    go_ret
    exact ⟨rfl, by repeat (first | exact Below.refl _ _ | apply Below.drew | apply below_drewN | refine Below.alloc ?_ (by simp <;> omega) _)⟩

set_option maxRecDepth 100000 in
set_option maxHeartbeats 4000000 in
theorem rown_1 (a : Int) (w : World) (hnc : nc ≤ 140737488351232) :
    Calls Try.prog 26 (ownArgs psa n pcap nm pargs pfree pr ka nk kcap ca nc ccap na nn ncap 1 a 0) w fun e w' => e = .returned (.int .i64 (if inB a nc = true then 0 else 33)) ∧ Below w.heap.size w w' := by
  unfold ownArgs
  by_cases hc : inB a nc = true
  · rw [if_pos hc]
    go_enter Try.func26, Try.ntmps26
    go_wp2_with (first
      | (go_at_call 29; refine (named_any _ (by omega) _).mono ?_; rintro e w' ⟨rfl, rfl⟩; simp only [wantT, Int.reduceToNat])
      | (go_at_call 20; refine (rin_any _ _ _).mono ?_; rintro e w' ⟨rfl, rfl⟩))
    go_ret
    exact ⟨rfl, by repeat (first | exact Below.refl _ _ | apply Below.drew | apply below_drewN | refine Below.alloc ?_ (by simp <;> omega) _)⟩
  · rw [if_neg hc]
    have hc : inB a nc = false := by simpa using hc
    go_enter Try.func26, Try.ntmps26
    go_wp2_with (first
      | (go_at_call 29; refine (named_any _ (by omega) _).mono ?_; rintro e w' ⟨rfl, rfl⟩; simp only [wantT, Int.reduceToNat])
      | (go_at_call 20; refine (rin_any _ _ _).mono ?_; rintro e w' ⟨rfl, rfl⟩))
    go_ret
    exact ⟨rfl, by repeat (first | exact Below.refl _ _ | apply Below.drew | apply below_drewN | refine Below.alloc ?_ (by simp <;> omega) _)⟩

set_option maxRecDepth 100000 in
set_option maxHeartbeats 4000000 in
theorem rown_3 (a : Int) (w : World) :
    Calls Try.prog 26 (ownArgs psa n pcap nm pargs pfree pr ka nk kcap ca nc ccap na nn ncap 3 a 0) w fun e w' => e = .returned (.int .i64 (if inB a pfree = true then 0 else 33)) ∧ Below w.heap.size w w' := by
  unfold ownArgs
  by_cases hc : inB a pfree = true
  · rw [if_pos hc]
    go_enter Try.func26, Try.ntmps26
    go_wp2_with (first
      | (go_at_call 29; refine (named_any _ (by omega) _).mono ?_; rintro e w' ⟨rfl, rfl⟩; simp only [wantT, Int.reduceToNat])
      | (go_at_call 20; refine (rin_any _ _ _).mono ?_; rintro e w' ⟨rfl, rfl⟩))
    go_ret
    exact ⟨rfl, by repeat (first | exact Below.refl _ _ | apply Below.drew | apply below_drewN | refine Below.alloc ?_ (by simp <;> omega) _)⟩
  · rw [if_neg hc]
    have hc : inB a pfree = false := by simpa using hc
    go_enter Try.func26, Try.ntmps26
    go_wp2_with (first
      | (go_at_call 29; refine (named_any _ (by omega) _).mono ?_; rintro e w' ⟨rfl, rfl⟩; simp only [wantT, Int.reduceToNat])
      | (go_at_call 20; refine (rin_any _ _ _).mono ?_; rintro e w' ⟨rfl, rfl⟩))
    go_ret
    exact ⟨rfl, by repeat (first | exact Below.refl _ _ | apply Below.drew | apply below_drewN | refine Below.alloc ?_ (by simp <;> omega) _)⟩

set_option maxRecDepth 100000 in
set_option maxHeartbeats 4000000 in
theorem rown_4 (op a : Int) (w : World) (h : op = 4 ∨ op = 5 ∨ op = 6) (hnn : nn ≤ 140737488351232) :
    Calls Try.prog 26 (ownArgs psa n pcap nm pargs pfree pr ka nk kcap ca nc ccap na nn ncap op a 0) w fun e w' => e = .returned (.int .i64 (if inB a nn = true then 0 else 33)) ∧ Below w.heap.size w w' := by
  unfold ownArgs
  by_cases hc : inB a nn = true
  · rw [if_pos hc]
    rcases h with rfl | rfl | rfl <;>
    · go_enter Try.func26, Try.ntmps26
      go_wp2_with (first
        | (go_at_call 29; refine (named_any _ (by omega) _).mono ?_; rintro e w' ⟨rfl, rfl⟩; simp only [wantT, Int.reduceToNat])
        | (go_at_call 20; refine (rin_any _ _ _).mono ?_; rintro e w' ⟨rfl, rfl⟩))
      go_ret
      exact ⟨rfl, by repeat (first | exact Below.refl _ _ | apply Below.drew | apply below_drewN | refine Below.alloc ?_ (by simp <;> omega) _)⟩
  · rw [if_neg hc]
    have hc : inB a nn = false := by simpa using hc
    rcases h with rfl | rfl | rfl <;>
    · go_enter Try.func26, Try.ntmps26
      go_wp2_with (first
        | (go_at_call 29; refine (named_any _ (by omega) _).mono ?_; rintro e w' ⟨rfl, rfl⟩; simp only [wantT, Int.reduceToNat])
        | (go_at_call 20; refine (rin_any _ _ _).mono ?_; rintro e w' ⟨rfl, rfl⟩))
      go_ret
      exact ⟨rfl, by repeat (first | exact Below.refl _ _ | apply Below.drew | apply below_drewN | refine Below.alloc ?_ (by simp <;> omega) _)⟩

set_option maxRecDepth 100000 in
set_option maxHeartbeats 4000000 in
theorem rown_11 (op a c : Int) (w : World) (h : (op = 11 ∧ c = 65) ∨ (op = 12 ∧ c = 65) ∨ (op = 18 ∧ c = 4097)) :
    Calls Try.prog 26 (ownArgs psa n pcap nm pargs pfree pr ka nk kcap ca nc ccap na nn ncap op a 0) w fun e w' => e = .returned (.int .i64 (if inB a c = true then 0 else 33)) ∧ Below w.heap.size w w' := by
  unfold ownArgs
  by_cases hc : inB a c = true
  · rw [if_pos hc]
    rcases h with ⟨rfl, rfl⟩ | ⟨rfl, rfl⟩ | ⟨rfl, rfl⟩ <;>
    · go_enter Try.func26, Try.ntmps26
      go_wp2_with (first
        | (go_at_call 29; refine (named_any _ (by omega) _).mono ?_; rintro e w' ⟨rfl, rfl⟩; simp only [wantT, Int.reduceToNat])
        | (go_at_call 20; refine (rin_any _ _ _).mono ?_; rintro e w' ⟨rfl, rfl⟩))
      go_ret
      exact ⟨rfl, by repeat (first | exact Below.refl _ _ | apply Below.drew | apply below_drewN | refine Below.alloc ?_ (by simp <;> omega) _)⟩
  · rw [if_neg hc]
    have hc : inB a c = false := by simpa using hc
    rcases h with ⟨rfl, rfl⟩ | ⟨rfl, rfl⟩ | ⟨rfl, rfl⟩ <;>
    · go_enter Try.func26, Try.ntmps26
      go_wp2_with (first
        | (go_at_call 29; refine (named_any _ (by omega) _).mono ?_; rintro e w' ⟨rfl, rfl⟩; simp only [wantT, Int.reduceToNat])
        | (go_at_call 20; refine (rin_any _ _ _).mono ?_; rintro e w' ⟨rfl, rfl⟩))
      go_ret
      exact ⟨rfl, by repeat (first | exact Below.refl _ _ | apply Below.drew | apply below_drewN | refine Below.alloc ?_ (by simp <;> omega) _)⟩

end
end Go.Proofs.Ytmlmepbnjlepnaa
