/-
  The protos in memory; the walks of the checker's method head; stack, whatever the instruction.
-/
import Derived.Test.YtmlmepbnjlepnaaChkOps
import Derived.Test.YtmlmepbnjlepnaaChkStack
namespace Go.Proofs.Ytmlmepbnjlepnaa
open Go.RowKit Go.BigFrame

/-- A proto as it lies in memory: what check looks at, and where its lists begin. -/
structure PrV where
  nm : ByteArray
  pr : Pr
  ca : Option Addr
  ccap : Nat
  ka : Option Addr
  kcap : Nat
  na : Option Addr
  ncap : Nat

def PrV.cells (v : PrV) : List Value := [.string v.nm, .int .i64 v.pr.args, .int .i64 v.pr.free, .bool v.pr.rest, .slice v.ca v.pr.code.length v.ccap, .slice v.ka v.pr.nc v.kcap, .slice v.na v.pr.nn v.ncap]

/-- Its code's cells. -/
def CodeAt (w : World) (v : PrV) : Prop := ∀ i, i < v.pr.code.length → ∃ b o, v.ca = some ⟨b, o, none⟩ ∧ b < w.heap.size ∧
  w.cell? ⟨b, o + i * 3, none⟩ = some (.int .i64 (v.pr.code.getD i ⟨0, 0, 0⟩).op) ∧ w.cell? ⟨b, o + i * 3 + 1, none⟩ = some (.int .i64 (v.pr.code.getD i ⟨0, 0, 0⟩).a) ∧ w.cell? ⟨b, o + i * 3 + 2, none⟩ = some (.int .i64 (v.pr.code.getD i ⟨0, 0, 0⟩).b)

/-- The protos at psa. -/
structure PsAt (w : World) (psa : Option Addr) (L : List PrV) : Prop where
  row : ∀ i, i < L.length → ∃ b o v, psa = some ⟨b, o, none⟩ ∧ b < w.heap.size ∧ L[i]? = some v ∧ ∀ j, j < 7 → w.cell? ⟨b, o + i * 7 + j, none⟩ = v.cells[j]?
  code : ∀ v ∈ L, CodeAt w v
  len : L.length ≤ 140737488351232
  nc : ∀ v ∈ L, v.pr.nc ≤ 140737488351232
  nn : ∀ v ∈ L, v.pr.nn ≤ 140737488351232
  nk : ∀ v ∈ L, v.pr.code.length ≤ 5864062014635
  nb : ∀ v ∈ L, ∀ x ∈ v.pr.code, x.b ≤ 9223372036854775807

theorem CodeAt.below {w w' : World} {v : PrV} (h : CodeAt w v) (hb : Below w.heap.size w w') : CodeAt w' v := fun i hi => by
  obtain ⟨b, o, h1, h2, h3, h4, h5⟩ := h i hi
  exact ⟨b, o, h1, Nat.lt_of_lt_of_le h2 hb.size, (hb.cell (p := ⟨b, _, none⟩) h2).trans h3, (hb.cell (p := ⟨b, _, none⟩) h2).trans h4, (hb.cell (p := ⟨b, _, none⟩) h2).trans h5⟩

theorem PsAt.below {w w' : World} {psa : Option Addr} {L : List PrV} (h : PsAt w psa L) (hb : Below w.heap.size w w') : PsAt w' psa L :=
  ⟨fun i hi => by
    obtain ⟨b, o, v, h1, h2, h3, h4⟩ := h.row i hi
    exact ⟨b, o, v, h1, Nat.lt_of_lt_of_le h2 hb.size, h3, fun j hj => (hb.cell (p := ⟨b, _, none⟩) h2).trans (h4 j hj)⟩, fun v hv => (h.code v hv).below hb, h.len, h.nc, h.nn, h.nk, h.nb⟩

def prs (L : List PrV) : List Pr := L.map (·.pr)

theorem freeOf_prs {L : List PrV} {i : Nat} {v : PrV} (h : L[i]? = some v) : freeOf (prs L) i = v.pr.free := by
  unfold freeOf prs
  rw [Int.toNat_natCast, List.getElem?_map, h]
  rfl

set_option maxRecDepth 100000 in
set_option maxHeartbeats 4000000 in
theorem head_any (cb pb : Nat) (psa : Option Addr) (pcap : Nat) (L : List PrV) (i : Nat) (v : PrV) (w : World) (h : ChkAt w cb pb (.slice psa L.length pcap)) (hps : PsAt w psa L) (hv : L[i]? = some v) :
    Calls Try.prog 15 #[.pointer (some ⟨cb, 0, none⟩), .int .i64 i] w fun e w' => e = .returned (.bool (headB v.pr i)) ∧ Below w.heap.size w w' := by
  have hi : i < L.length := (List.getElem?_eq_some_iff.1 hv).1
  have hlen := hps.len
  have hvk := hps.nk v (List.mem_of_getElem? hv)
  obtain ⟨b, o, v', rfl, hb, hv', hc⟩ := hps.row i hi
  obtain rfl : v = v' := Option.some.inj (hv.symm.trans hv')
  have q0 := h.ps
  have hcb := lt_of_heap h.chk
  have e0 := hc 0 (by omega)
  have e1 := hc 1 (by omega)
  have e2 := hc 2 (by omega)
  have e3 := hc 3 (by omega)
  have e4 := hc 4 (by omega)
  have e5 := hc 5 (by omega)
  have e6 := hc 6 (by omega)
  obtain ⟨nm, ⟨pa, pf, pr, code, nc, nn⟩, ca, ccap, ka, kcap, na, ncap⟩ := v
  simp [PrV.cells] at e0 e1 e2 e3 e4 e5 e6
  dsimp only at hvk ⊢
  have hi0 : (0 : Int) ≤ i := by omega
  have hi1 : (i : Int) < L.length := by omega
  have hl0 : (0 : Int) ≤ code.length := by omega
  clear h hps hc hv hv'
  have fin : ∀ r : Bool, headB ⟨pa, pf, pr, code, nc, nn⟩ i = r → (Calls Try.prog 15 #[.pointer (some ⟨cb, 0, none⟩), .int .i64 i] w fun e w' => e = .returned (.bool r) ∧ Below w.heap.size w w') →
      Calls Try.prog 15 #[.pointer (some ⟨cb, 0, none⟩), .int .i64 i] w fun e w' => e = .returned (.bool (headB ⟨pa, pf, pr, code, nc, nn⟩ i)) ∧ Below w.heap.size w w' := fun r hr hh => by rw [hr]; exact hh
  cases h1 : inB pa 65
  · refine fin false (by simp [headB, h1]) ?_
    go_enter Try.func15, Try.ntmps15
    go_wp2_with (go_at_call 17; refine (in_any _ _ _).mono ?_; rintro e w' ⟨rfl, rfl⟩)
    go_ret
    exact ⟨rfl, by repeat (first | exact Below.refl _ _ | apply Below.drew | apply below_drewN | refine Below.alloc ?_ (by simp <;> omega) _)⟩
  cases h2 : inB pf 4097
  · refine fin false (by simp [headB, h1, h2]) ?_
    go_enter Try.func15, Try.ntmps15
    go_wp2_with (go_at_call 17; refine (in_any _ _ _).mono ?_; rintro e w' ⟨rfl, rfl⟩)
    go_ret
    exact ⟨rfl, by repeat (first | exact Below.refl _ _ | apply Below.drew | apply below_drewN | refine Below.alloc ?_ (by simp <;> omega) _)⟩
  by_cases h3 : (code.length : Int) < 1
  · refine fin false (by simp [headB, h1, h2]; omega) ?_
    go_enter Try.func15, Try.ntmps15
    go_wp2_with (go_at_call 17; refine (in_any _ _ _).mono ?_; rintro e w' ⟨rfl, rfl⟩)
    go_ret
    exact ⟨rfl, by repeat (first | exact Below.refl _ _ | apply Below.drew | apply below_drewN | refine Below.alloc ?_ (by simp <;> omega) _)⟩
  replace h3 : (1 : Int) ≤ code.length := by omega
  by_cases h4 : (65536 : Int) < code.length
  · refine fin false (by simp [headB, h1, h2]; omega) ?_
    go_enter Try.func15, Try.ntmps15
    go_wp2_with (go_at_call 17; refine (in_any _ _ _).mono ?_; rintro e w' ⟨rfl, rfl⟩)
    go_ret
    exact ⟨rfl, by repeat (first | exact Below.refl _ _ | apply Below.drew | apply below_drewN | refine Below.alloc ?_ (by simp <;> omega) _)⟩
  replace h4 : (code.length : Int) ≤ 65536 := by omega
  have n3 : 1 ≤ code.length := by omega
  have n4 : code.length ≤ 65536 := by omega
  by_cases h5 : (0 : Int) < i
  · refine fin true (by simp [headB, h1, h2, n3, n4, show 0 < i from by omega]) ?_
    go_enter Try.func15, Try.ntmps15
    go_wp2_with (go_at_call 17; refine (in_any _ _ _).mono ?_; rintro e w' ⟨rfl, rfl⟩)
    go_ret
    exact ⟨rfl, by repeat (first | exact Below.refl _ _ | apply Below.drew | apply below_drewN | refine Below.alloc ?_ (by simp <;> omega) _)⟩
  obtain rfl : i = 0 := by omega
  simp only [Nat.zero_mul, Nat.add_zero] at e0 e1 e2 e3 e4 e5 e6
  cases h6 : (pa == 0)
  · refine fin false (by simp at h6; simp [headB, h6]) ?_
    go_enter Try.func15, Try.ntmps15
    go_wp2_with (go_at_call 17; refine (in_any _ _ _).mono ?_; rintro e w' ⟨rfl, rfl⟩)
    go_ret
    exact ⟨rfl, by repeat (first | exact Below.refl _ _ | apply Below.drew | apply below_drewN | refine Below.alloc ?_ (by simp <;> omega) _)⟩
  by_cases h8 : pr = true
  · subst h8
    refine fin false (by simp [headB]) ?_
    go_enter Try.func15, Try.ntmps15
    go_wp2_with (go_at_call 17; refine (in_any _ _ _).mono ?_; rintro e w' ⟨rfl, rfl⟩)
    go_ret
    exact ⟨rfl, by repeat (first | exact Below.refl _ _ | apply Below.drew | apply below_drewN | refine Below.alloc ?_ (by simp <;> omega) _)⟩
  obtain rfl : pr = false := by simpa using h8
  cases h7 : (pf == 0)
  · refine fin false (by simp at h7; simp [headB, h7]) ?_
    go_enter Try.func15, Try.ntmps15
    go_wp2_with (go_at_call 17; refine (in_any _ _ _).mono ?_; rintro e w' ⟨rfl, rfl⟩)
    go_ret
    exact ⟨rfl, by repeat (first | exact Below.refl _ _ | apply Below.drew | apply below_drewN | refine Below.alloc ?_ (by simp <;> omega) _)⟩
  · refine fin true (by simp at h6 h7; simp [headB, h6, h7, n3, n4]; decide) ?_
    go_enter Try.func15, Try.ntmps15
    go_wp2_with (go_at_call 17; refine (in_any _ _ _).mono ?_; rintro e w' ⟨rfl, rfl⟩)
    go_ret
    exact ⟨rfl, by repeat (first | exact Below.refl _ _ | apply Below.drew | apply below_drewN | refine Below.alloc ?_ (by simp <;> omega) _)⟩

/-- What the operands' check leaves, for the stack's. -/
theorem stack_any (cb pb : Nat) (psv : Value) (x : Ins) (k : Nat) (d : Int) (w : World) (h : ChkAt w cb pb psv) (hd0 : 0 ≤ d) (hd1 : d ≤ 4096) (hk : k < 22) (hx : x.op = k)
    (ha : (wantT k).byA = true → 0 ≤ x.a ∧ x.a ≤ 4096) (hb : (wantT k).byB = true → 0 ≤ x.b ∧ x.b ≤ 9223372036854775807) :
    Calls Try.prog 23 #[.pointer (some ⟨cb, 0, none⟩), .agg #[.int .i64 x.op, .int .i64 x.a, .int .i64 x.b], .int .i64 d] w
      fun e w' => e = .returned (.tuple #[.int .i64 (stackE x d).1, .int .i64 (stackE x d).2]) ∧ Below w.heap.size w w' := by
  obtain ⟨xo, a, b⟩ := x
  dsimp only at hx ha hb ⊢
  subst hx
  have fin : ∀ r : Int × Int, stackE ⟨k, a, b⟩ d = r → (Calls Try.prog 23 #[.pointer (some ⟨cb, 0, none⟩), .agg #[.int .i64 k, .int .i64 a, .int .i64 b], .int .i64 d] w
      fun e w' => e = .returned (.tuple #[.int .i64 r.1, .int .i64 r.2]) ∧ Below w.heap.size w w') → Calls Try.prog 23 #[.pointer (some ⟨cb, 0, none⟩), .agg #[.int .i64 k, .int .i64 a, .int .i64 b], .int .i64 d] w
      fun e w' => e = .returned (.tuple #[.int .i64 (stackE ⟨k, a, b⟩ d).1, .int .i64 (stackE ⟨k, a, b⟩ d).2]) ∧ Below w.heap.size w w' := fun r hr hh => by rw [hr]; exact hh
  by_cases h2 : k = 2
  · subst h2
    cases hs : inB a d
    · exact fin (0, 33) (by simp [stackE, needOf, wantT, hs, show ¬ d < 0 from by omega]) (stack_2_slot cb pb psv a b d w h hd0 hd1 hs)
    · by_cases hm : d + 1 ≤ 4096
      · exact fin (d + 1, 0) (by simp [stackE, needOf, moreOf, wantT, hs, show ¬ d < 0 from by omega, show ¬ 4096 < d + 1 from by omega]) (stack_2_ok cb pb psv a b d w h hd0 hd1 hs hm)
      · exact fin (0, 31) (by simp [stackE, needOf, moreOf, wantT, hs, show ¬ d < 0 from by omega, show 4096 < d + 1 from by omega]) (stack_2_deep cb pb psv a b d w h hd0 hd1 hs (by omega))
  by_cases h21 : k = 21
  · subst h21
    cases hs : inB a d
    · exact fin (0, 33) (by simp [stackE, needOf, wantT, hs, show ¬ d < 0 from by omega]) (stack_21_slot cb pb psv a b d w h hd0 hd1 hs)
    · by_cases hm : d + 1 ≤ 4096
      · exact fin (d + 1, 0) (by simp [stackE, needOf, moreOf, wantT, hs, show ¬ d < 0 from by omega, show ¬ 4096 < d + 1 from by omega]) (stack_21_ok cb pb psv a b d w h hd0 hd1 hs hm)
      · exact fin (0, 31) (by simp [stackE, needOf, moreOf, wantT, hs, show ¬ d < 0 from by omega, show 4096 < d + 1 from by omega]) (stack_21_deep cb pb psv a b d w h hd0 hd1 hs (by omega))
  by_cases h19 : k = 19
  · subst h19
    by_cases hw : d < 1
    · exact fin (0, 31) (by simp [stackE, needOf, wantT, hw]) (stack_19_want cb pb psv a b d w h hd0 hd1 hw)
    · cases hs : inB a (d - 1)
      · exact fin (0, 33) (by simp [stackE, needOf, wantT, hs, show ¬ d < 1 from by omega]) (stack_19_slot cb pb psv a b d w h hd0 hd1 (by omega) hs)
      · exact fin (d - 1, 0) (by simp [stackE, needOf, moreOf, wantT, hs, show ¬ d < 1 from by omega, show ¬ 4096 < d + -1 from by omega]; omega) (stack_19_ok cb pb psv a b d w h hd0 hd1 (by omega) hs)
  have g2 : ((k : Int) == 2) = false := by simp; omega
  have g21 : ((k : Int) == 21) = false := by simp; omega
  have g19 : ((k : Int) == 19) = false := by simp; omega
  have e0 : stackE ⟨k, a, b⟩ d = if d < needOf ⟨k, a, b⟩ then (0, 31) else if 4096 < d + moreOf ⟨k, a, b⟩ then (0, 31) else (d + moreOf ⟨k, a, b⟩, 0) := by
    unfold stackE
    rw [if_neg (c := _ ∧ _) (by rintro ⟨h3, -⟩; dsimp only at h3; omega)]
  have bounds : 0 ≤ (wantT k).wants ∧ (wantT k).wants ≤ 2 ∧ -1 ≤ (wantT k).more ∧ (wantT k).more ≤ 1 ∧ ((wantT k).byB = true → (wantT k).wants ≤ 0) ∧ ¬ ((wantT k).byA = true ∧ (wantT k).byB = true) := by
    rcases k with _ | _ | _ | _ | _ | _ | _ | _ | _ | _ | _ | _ | _ | _ | _ | _ | _ | _ | _ | _ | _ | _ | k
    all_goals first | decide | omega
  obtain ⟨b0, b1, b2, b3, b4, b5⟩ := bounds
  cases hA : (wantT k).byA <;> cases hB : (wantT k).byB
  · have n1 : needOf ⟨k, a, b⟩ = (wantT k).wants := by simp [needOf, hA, hB]
    have n2 : moreOf ⟨k, a, b⟩ = (wantT k).more := by simp [moreOf, hA, hB]
    rw [n1, n2] at e0
    by_cases hs : d < (wantT k).wants
    · exact fin (0, 31) (by rw [e0, if_pos hs]) (stack_ff_want cb pb psv k a b d w h hd0 hd1 hk hA hB g2 g21 g19 b0 b1 b2 b3 hs)
    · by_cases hm : 4096 < d + (wantT k).more
      · exact fin (0, 31) (by rw [e0, if_neg hs, if_pos hm]) (stack_ff_deep cb pb psv k a b d w h hd0 hd1 hk hA hB g2 g21 g19 b0 b1 b2 b3 (by omega) hm)
      · exact fin (_, 0) (by rw [e0, if_neg hs, if_neg hm]) (stack_ff_ok cb pb psv k a b d w h hd0 hd1 hk hA hB g2 g21 g19 b0 b1 b2 b3 (by omega) (by omega))
  · have n1 : needOf ⟨k, a, b⟩ = (wantT k).wants + b := by simp [needOf, hA, hB]
    have n2 : moreOf ⟨k, a, b⟩ = (wantT k).more - b := by simp [moreOf, hA, hB]
    have hb' := hb hB
    rw [n1, n2] at e0
    by_cases hs : d < (wantT k).wants + b
    · exact fin (0, 31) (by rw [e0, if_pos hs]) (stack_ft_want cb pb psv k a b d w h hd0 hd1 hk hA hB hb'.1 hb'.2 g2 g21 g19 b0 (b4 hB) b2 b3 hs)
    · by_cases hm : 4096 < d + ((wantT k).more - b)
      · exact fin (0, 31) (by rw [e0, if_neg hs, if_pos hm]) (stack_ft_deep cb pb psv k a b d w h hd0 hd1 hk hA hB hb'.1 hb'.2 g2 g21 g19 b0 (b4 hB) b2 b3 (by omega) hm)
      · exact fin (_, 0) (by rw [e0, if_neg hs, if_neg hm]) (stack_ft_ok cb pb psv k a b d w h hd0 hd1 hk hA hB hb'.1 hb'.2 g2 g21 g19 b0 (b4 hB) b2 b3 (by omega) (by omega))
  · have n1 : needOf ⟨k, a, b⟩ = (wantT k).wants + a := by simp [needOf, hA, hB]
    have n2 : moreOf ⟨k, a, b⟩ = (wantT k).more - a := by simp [moreOf, hA, hB]
    have ha' := ha hA
    rw [n1, n2] at e0
    by_cases hs : d < (wantT k).wants + a
    · exact fin (0, 31) (by rw [e0, if_pos hs]) (stack_tf_want cb pb psv k a b d w h hd0 hd1 hk hA hB ha'.1 ha'.2 g2 g21 g19 b0 b1 b2 b3 hs)
    · by_cases hm : 4096 < d + ((wantT k).more - a)
      · exact fin (0, 31) (by rw [e0, if_neg hs, if_pos hm]) (stack_tf_deep cb pb psv k a b d w h hd0 hd1 hk hA hB ha'.1 ha'.2 g2 g21 g19 b0 b1 b2 b3 (by omega) hm)
      · exact fin (_, 0) (by rw [e0, if_neg hs, if_neg hm]) (stack_tf_ok cb pb psv k a b d w h hd0 hd1 hk hA hB ha'.1 ha'.2 g2 g21 g19 b0 b1 b2 b3 (by omega) (by omega))
  · exact absurd ⟨hA, hB⟩ b5

end Go.Proofs.Ytmlmepbnjlepnaa
