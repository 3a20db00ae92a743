/-
  What the laws of layer 11 share: Place; one proto in memory; awake.
-/
import Derived.Test.YtmlmepbnjlepnaaChkProg
namespace Go.Proofs.Ytmlmepbnjlepnaa
open Go.RowKit Go.BigFrame

/-- A place: below the bound. -/
def Placed (w : World) (n : Nat) (e : Ending) (w' : World) : Prop := ∃ r : Nat, r < n ∧ e = .returned (.int .i64 r) ∧ Below w.heap.size w w'

def insV (x : Ins) : List Value := [.int .i64 x.op, .int .i64 x.a, .int .i64 x.b]
def codeV (l : List Ins) : List Value := l.flatMap insV

theorem codeV_get : ∀ (l : List Ins) (i : Nat), i < l.length → (codeV l)[i * 3]? = some (.int .i64 (l.getD i ⟨0, 0, 0⟩).op) ∧ (codeV l)[i * 3 + 1]? = some (.int .i64 (l.getD i ⟨0, 0, 0⟩).a) ∧ (codeV l)[i * 3 + 2]? = some (.int .i64 (l.getD i ⟨0, 0, 0⟩).b)
  | [], i, h => by simp at h
  | x :: l, 0, _ => by simp [codeV, insV]
  | x :: l, i + 1, h => by
    obtain ⟨h1, h2, h3⟩ := codeV_get l i (by simpa using h)
    have e : codeV (x :: l) = insV x ++ codeV l := rfl
    have hl : (insV x).length = 3 := rfl
    rw [e]
    refine ⟨?_, ?_, ?_⟩
    · rw [List.getElem?_append_right (by omega), hl, show (i + 1) * 3 - 3 = i * 3 from by omega, h1]; rfl
    · rw [List.getElem?_append_right (by omega), hl, show (i + 1) * 3 + 1 - 3 = i * 3 + 1 from by omega, h2]; rfl
    · rw [List.getElem?_append_right (by omega), hl, show (i + 1) * 3 + 2 - 3 = i * 3 + 2 from by omega, h3]; rfl

theorem codeV_len (l : List Ins) : (codeV l).length = l.length * 3 := by
  induction l with
  | nil => rfl
  | cons x l ih =>
    have e : codeV (x :: l) = insV x ++ codeV l := rfl
    rw [e, List.length_append, ih]
    simp [insV]; omega

/-- One proto in memory. -/
theorem psAt_one {w : World} {psb cb : Nat} (v : PrV) (hca : v.ca = some ⟨cb, 0, none⟩) (hp : ∀ j, j < 7 → w.cell? ⟨psb, j, none⟩ = v.cells[j]?) (hpb : psb < w.heap.size) (hc : ∀ i, i < v.pr.code.length * 3 → w.cell? ⟨cb, i, none⟩ = (codeV v.pr.code)[i]?) (hcb : cb < w.heap.size)
    (hnc : v.pr.nc ≤ 140737488351232) (hnn : v.pr.nn ≤ 140737488351232) (hnk : v.pr.code.length ≤ 5864062014635) (hnb : ∀ x ∈ v.pr.code, x.b ≤ 9223372036854775807) : PsAt w (some ⟨psb, 0, none⟩) [v] := by
  refine ⟨fun i hi => ?_, fun v' hv' => ?_, by simp, ?_, ?_, ?_, ?_⟩
  · obtain rfl : i = 0 := by simpa using hi
    exact ⟨psb, 0, v, rfl, hpb, rfl, fun j hj => by simpa using hp j hj⟩
  · obtain rfl := List.mem_singleton.1 hv'
    intro i hi
    obtain ⟨h1, h2, h3⟩ := codeV_get v'.pr.code i hi
    refine ⟨cb, 0, hca, hcb, ?_, ?_, ?_⟩
    · rw [Nat.zero_add, hc _ (by omega), h1]
    · rw [Nat.zero_add, hc _ (by omega), h2]
    · rw [Nat.zero_add, hc _ (by omega), h3]
  · intro v' hv'; obtain rfl := List.mem_singleton.1 hv'; exact hnc
  · intro v' hv'; obtain rfl := List.mem_singleton.1 hv'; exact hnn
  · intro v' hv'; obtain rfl := List.mem_singleton.1 hv'; exact hnk
  · intro v' hv'; obtain rfl := List.mem_singleton.1 hv'; exact hnb

set_option maxHeartbeats 400000 in
theorem place_int (v : Int) (n : Nat) (w : World) (hn : 1 ≤ n) (hn2 : n ≤ 1000) :
    Calls Try.prog 6 #[.int .i64 v, .int .i64 n] w (Placed w n) := by
  have hn0 : ((n : Int) == 0) = false := beq_eq_false_iff_ne.2 (by omega)
  have hn' : ¬ (n : Int) = 0 := by omega
  have h1 := Int.tmod_lt_of_pos v (show (0 : Int) < n by omega)
  have h2 : -(n : Int) < v.tmod n := by
    have := Int.lt_tmod_of_pos v (show (0 : Int) < n by omega)
    omega
  go_enter Try.func6, Try.ntmps6
  go_wp2
  · go_ret
    exact ⟨(v.tmod n + n).toNat, by omega, by rw [Int.toNat_of_nonneg (by omega)]; rfl, Below.refl _ _⟩
  · go_ret
    exact ⟨(v.tmod n).toNat, by omega, by rw [Int.toNat_of_nonneg (by omega)]; rfl, Below.refl _ _⟩

theorem program_heap {w : World} {psb cb : Nat} {t1 t2 : TypeId} {f1 f2 : Nat × Nat} (v : PrV) (rest : List Value) (r : Nat × Nat × Int) (hr : progR [v.pr] = r) (hca : v.ca = some ⟨cb, 0, none⟩)
    (hp : w.heap[psb]? = some (.cells ⟨v.cells⟩ t1 f1)) (hc : w.heap[cb]? = some (.cells ⟨codeV v.pr.code ++ rest⟩ t2 f2))
    (hnc : v.pr.nc ≤ 140737488351232) (hnn : v.pr.nn ≤ 140737488351232) (hnk : v.pr.code.length ≤ 5864062014635) (hnb : ∀ x ∈ v.pr.code, x.b ≤ 9223372036854775807) :
    Calls Try.prog 7 #[.slice (some ⟨psb, 0, none⟩) 1 1] w fun e w' => e = .returned (.tuple #[.int .i64 r.1, .int .i64 r.2.1, .int .i64 r.2.2]) ∧ Below w.heap.size w w' := by
  have hps : PsAt w (some ⟨psb, 0, none⟩) [v] := psAt_one v hca (fun j _ => cell_row hp j) (lt_of_heap hp) (fun i hi => by
    rw [cell_row hc i, List.getElem?_append_left (by rw [codeV_len]; exact hi)]) (lt_of_heap hc) hnc hnn hnk hnb
  have e := program_any (some ⟨psb, 0, none⟩) 1 [v] w hps
  have e2 : prs [v] = [v.pr] := rfl
  rw [e2, hr] at e
  exact e

theorem two_blocks (w : World) (a b : Obj) : ((w.alloc a).alloc b).heap[w.heap.size]? = some a ∧ ((w.alloc a).alloc b).heap[w.heap.size + 1]? = some b := by
  refine ⟨?_, ?_⟩
  · rw [Deep.blk_alloc_lt _ _ _ (by rw [Deep.nblk_alloc]; omega)]
    exact Deep.blk_alloc_new _ _
  · have e := Deep.blk_alloc_new (w.alloc a) b
    rwa [Deep.nblk_alloc] at e

theorem three_blocks (w : World) (a b c : Obj) : (((w.alloc a).alloc b).alloc c).heap[w.heap.size]? = some a ∧ (((w.alloc a).alloc b).alloc c).heap[w.heap.size + 1]? = some b ∧ (((w.alloc a).alloc b).alloc c).heap[w.heap.size + 2]? = some c := by
  obtain ⟨h1, h2⟩ := two_blocks w a b
  obtain ⟨e1, e2, -⟩ := blk3 w a b c
  exact ⟨by rw [Deep.blk_alloc_lt _ _ _ (by rw [Deep.nblk_alloc, Deep.nblk_alloc]; omega)]; exact h1, e1, e2⟩

theorem prog_pop : progR [⟨0, 0, false, [⟨13, 0, 0⟩], 0, 0⟩] = (0, 0, 31) := by decide +kernel
theorem prog_one : progR [⟨0, 0, false, [⟨1, 0, 0⟩, ⟨13, 0, 0⟩], 1, 0⟩] = (0, 0, 0) := by decide +kernel

set_option maxRecDepth 100000 in
set_option maxHeartbeats 4000000 in
theorem awake_any (w : World) : Calls Try.prog 8 #[] w fun e w' => e = .returned (.bool true) ∧ Below w.heap.size w w' := by
  go_enter Try.func8, Try.ntmps8
  go_wp2_with (first
    | (go_at_call 7; refine (program_heap ⟨⟨#[]⟩, ⟨0, 0, false, [⟨1, 0, 0⟩, ⟨13, 0, 0⟩], 1, 0⟩, some ⟨w1.heap.size, 0, none⟩, 2, some ⟨w1.heap.size + 1, 0, none⟩, 1, none, 0⟩ [] (0, 0, 0) prog_one rfl (three_blocks w1 _ _ _).2.2 (three_blocks w1 _ _ _).1 (by simp) (Nat.zero_le _) (by simp) (by simp)).mono ?_; rintro e w2 ⟨rfl, hb2⟩)
    | (go_at_call 7; refine (program_heap ⟨⟨#[]⟩, ⟨0, 0, false, [⟨13, 0, 0⟩], 0, 0⟩, some ⟨w.heap.size, 0, none⟩, 1, none, 0, none, 0⟩ [] (0, 0, 31) prog_pop rfl (two_blocks w _ _).2 (two_blocks w _ _).1 (Nat.zero_le _) (Nat.zero_le _) (by simp) (by simp)).mono ?_; rintro e w1 ⟨rfl, hb1⟩))
  go_ret
  have h1 : Below w.heap.size w w1 := (((Below.refl _ w).alloc (Nat.le_refl _) _).alloc (by rw [Deep.nblk_alloc]; omega) _).trans (hb1.mono (by rw [Deep.nblk_alloc, Deep.nblk_alloc]; omega))
  have hs := h1.size
  have h2 : Below w.heap.size w w2 := (((h1.alloc hs _).alloc (by rw [Deep.nblk_alloc]; omega) _).alloc (by rw [Deep.nblk_alloc, Deep.nblk_alloc]; omega) _).trans (hb2.mono (by rw [Deep.nblk_alloc, Deep.nblk_alloc, Deep.nblk_alloc]; omega))
  exact ⟨rfl, by repeat (first | exact h2 | apply Below.drew)⟩
end Go.Proofs.Ytmlmepbnjlepnaa
