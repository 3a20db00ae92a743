/-
  The walk of tandemlaw12.PrimLists.
-/
import Derived.Test.YtlakmdljkijdhaaGreatDoorPrlPrims
import Derived.Test.YtlakmdljkijdhaaGreatDoorPrlAwake
import Derived.BigRegion
import Derived.BigQuiet
namespace Go.Proofs.YtlakmdljkijdhaaGreatDoor
open Go.RowKit Go.BigFrame

theorem lists_awake (w : World) : Calls Tryz.prog 8 #[] w fun e w' => e = .returned (.bool true) ∧ Below w.heap.size w w' := by
  have key := X.Prl.awake_rule (l := []) (by simp)
  refine (key.2 w (fun _ => none) [] .nil).mono ?_
  rintro e w' ⟨x, rfl, hv, hb⟩
  rw [hv.bool_inv]
  exact ⟨rfl, hb⟩

theorem control_later {V : World} (n : Int) (v : Bool) (h : (decide (85 ≤ n) && decide (n < 92)) = v) (y : Later V) : Calls Tryz.prog 6 #[.int .i64 n] (after V y) fun e w' => e = .returned (.bool v) ∧ Below (after V y).heap.size (after V y) w' := by
  subst h
  exact control_any n _

set_option maxRecDepth 100000 in
set_option maxHeartbeats 2000000 in
theorem lists_out (n : Int) (hn : n < 0 ∨ 92 ≤ n) (s : ByteArray) (w : World) : Calls Tryz.prog 3 #[.int .i64 n, .string s] w fun e w' => e = .returned (.bool true) ∧ Below w.heap.size w w' := by
  have HG := hide (fun U => get_out n hn U)
  have HC := hide (fun (V : World) (y : Later V) => control_later n false (by rcases hn with h | h <;> simp <;> omega) y)
  obtain ⟨b, hb⟩ : ∃ b, w.heap.size = b := ⟨_, rfl⟩
  have hA : (¬ 0 ≤ n ∧ n < 92) ∨ (0 ≤ n ∧ ¬ n < 92) := by omega
  clear hn
  rcases hA with ⟨a0, a1⟩ | ⟨a0, a1⟩
  all_goals first | (have b0 := decide_eq_false a0; have b1 := decide_eq_true a1) | (have b0 := decide_eq_true a0; have b1 := decide_eq_false a1)
  all_goals
    go_enter Tryz.func3, Tryz.ntmps3
    go_upto_region 2 with (go_at_call 4; refine (prims_any _).mono ?_; rintro e w1 ⟨rfl, rfl⟩)
    refine genP (fun U => TabP U b ∧ Below w.heap.size w U) ⟨by rw [← hb]; exact Deep.blk_alloc_new _ _, (Below.refl _ _).alloc (Nat.le_refl _) _⟩ ?_
    intro U hU
    have HU := hide hU
    clear hU
    go_upto_region 3 with (go_at_call 5; refine (HG.out U).mono ?_; rintro e u2 ⟨rfl, hb2⟩)
    refine genP (fun V => TabP V b ∧ V.heap[u2.heap.size]? = some (.cells #[.string ⟨#[]⟩, .int .i64 0, .int .i64 0] 25 (0, 0)) ∧ Below w.heap.size w V) ?_ ?_
    · obtain ⟨hT, hW⟩ := HU.out
      have hw2 := hW.trans (hb2.mono hW.size)
      exact ⟨((hT.below hb2).below ((Below.refl _ u2).alloc (Nat.le_refl _) _)), Deep.blk_alloc_new _ _, hw2.alloc hw2.size _⟩
    intro V hV
    obtain ⟨hT, hP, hW⟩ := hV
    obtain ⟨pb, hpb⟩ : ∃ pb, u2.heap.size = pb := ⟨_, rfl⟩
    rw [hpb] at hP
    have p0 : V.cell? ⟨pb, 0, none⟩ = some (.string ⟨#[]⟩) := by simp [World.cell?, hP]
    have p1 : V.cell? ⟨pb, 1, none⟩ = some (.int .i64 0) := by simp [World.cell?, hP]
    have p2 : V.cell? ⟨pb, 2, none⟩ = some (.int .i64 0) := by simp [World.cell?, hP]
    have hpl := lt_of_heap hP
    have HV := hide (And.intro hT hW)
    have HCV := hide (HC.out V)
    clear hT hW hP HC HG HU hb2
    go_upto_region 4 with fail
    refine wp_region_later (by kernel_rfl) (by kernel_rfl) ?_
    repeat (first
      | go_big_quiet_step (first | (go_at_call 6; with_reducible exact later_of (HCV.out _)))
      | quiet_step (first | (go_at_call 6; with_reducible exact later_of (HCV.out _))))
    refine wpQuiet_nil ?_
    rintro w2 ⟨⟨wz, hbz⟩, hwz⟩
    have hb2 : Below V.heap.size V w2 := by rw [hwz]; exact hbz
    clear hwz hbz wz
    obtain ⟨hT, hW⟩ := HV.out
    have hW2 := hW.trans (hb2.mono hW.size)
    have HV2 := hide (And.intro (hT.below hb2) hW2)
    clear hT hW hb2 HV hW2 HCV
    go_wp2
    go_loopw [9, 10] (fun c9 c10 wr => ∃ k : Nat, k ≤ 92 ∧ c10 = .int .i64 k ∧ c9 = .int .i64 (lastN s k) ∧ Below w2.heap.size w2 wr) (fun _ c10 _ => 92 - (intOf c10).toNat)
    case atStart => exact ⟨0, Nat.zero_le _, rfl, rfl, Below.refl _ _⟩
    case round =>
      obtain ⟨k, hk, rfl, rfl, hbw⟩ := hrel
      by_cases hlt : k < 92
      · obtain ⟨e0, e1, e2⟩ := prim_row (HV2.out.1.below hbw) hlt
        have hlt' : (k : Int) < 92 := by omega
        have hk0 : (0 : Int) ≤ k := by omega
        have HN := hide hbw
        clear hbw e1 e2
        by_cases hs : nm k = s
        · have hq : ((nm k).toList == s.toList) = true := by rw [hs]; simp
          have hl : lastN s (k + 1) = k := by unfold lastN; rw [if_pos hs]
          have HL := hide hl
          clear hl hs
          generalize hz : lastN s k = z at *
          go_wp2_with fail
          exact ⟨⟨k + 1, by omega, by go_num, by rw [HL.out], HN.out⟩, by simp [intOf]; omega⟩
        · have hq := str_ne hs
          have hl : lastN s (k + 1) = lastN s k := by conv => lhs; unfold lastN
                                                      rw [if_neg hs]
          have HL := hide hl
          clear hl hs
          go_wp2_with fail
          exact ⟨⟨k + 1, by omega, by go_num, by rw [HL.out], HN.out⟩, by simp [intOf]; omega⟩
      · obtain rfl : k = 92 := by omega
        have HN := hide hbw
        clear hbw
        have hnum := hide (number_any s wr)
        obtain ⟨z, hz⟩ : ∃ z, lastN s 92 = z := ⟨_, rfl⟩
        rw [hz] at hnum ⊢
        go_wp2_with (first
          | (go_at_call 7; refine hnum.out.mono ?_; rintro e w3 ⟨rfl, hb3⟩)
          | (go_at_call 8; refine (lists_awake _).mono ?_; rintro e w4 ⟨rfl, hb4⟩))
        go_ret
        have f1 := HV2.out.2.trans (HN.out.mono HV2.out.2.size)
        have f2 := f1.trans (hb3.mono f1.size)
        exact ⟨rfl, f2.trans (hb4.mono f2.size)⟩

set_option maxRecDepth 100000 in
set_option maxHeartbeats 2000000 in
theorem lists_in (m : Nat) (hm : m < 92) (s : ByteArray) (w : World) : Calls Tryz.prog 3 #[.int .i64 m, .string s] w fun e w' => e = .returned (.bool true) ∧ Below w.heap.size w w' := by
  obtain ⟨n, hn⟩ : ∃ n : Int, (m : Int) = n := ⟨_, rfl⟩
  have HG := hide (fun U => get_in m hm U)
  obtain ⟨ct, hct⟩ : ∃ ct, (decide (85 ≤ n) && decide (n < 92)) = ct := ⟨_, rfl⟩
  have HC := hide (fun (V : World) (y : Later V) => control_later n ct hct y)
  rw [hn] at HG ⊢
  have a0 : 0 ≤ n := by omega
  have a1 : n < 92 := by omega
  have b0 := decide_eq_true a0
  have b1 := decide_eq_true a1
  obtain ⟨b, hb⟩ : ∃ b, w.heap.size = b := ⟨_, rfl⟩
  have hA : (85 ≤ n ∧ ct = true) ∨ (¬ 85 ≤ n ∧ ct = false) := by
    rw [b1, Bool.and_true] at hct
    rw [← hct]
    by_cases h : 85 ≤ n
    · exact .inl ⟨h, decide_eq_true h⟩
    · exact .inr ⟨h, decide_eq_false h⟩
  clear hct
  have HM := hide (And.intro hm hn)
  rcases hA with ⟨a2, rfl⟩ | ⟨a2, rfl⟩
  all_goals first | (have b2 := decide_eq_true a2) | (have b2 := decide_eq_false a2)
  all_goals
    go_enter Tryz.func3, Tryz.ntmps3
    go_upto_region 2 with (go_at_call 4; refine (prims_any _).mono ?_; rintro e w1 ⟨rfl, rfl⟩)
    refine genP (fun U => TabP U b ∧ Below w.heap.size w U) ⟨by rw [← hb]; exact Deep.blk_alloc_new _ _, (Below.refl _ _).alloc (Nat.le_refl _) _⟩ ?_
    intro U hU
    have HU := hide hU
    clear hU
    go_upto_region 3 with (go_at_call 5; refine (HG.out U).mono ?_; rintro e u2 ⟨rfl, hb2⟩)
    refine genP (fun V => TabP V b ∧ V.heap[u2.heap.size]? = some (.cells #[.string (nm m), .int .i64 (least m), .int .i64 (most m)] 25 (0, 0)) ∧ Below w.heap.size w V) ?_ ?_
    · obtain ⟨hT, hW⟩ := HU.out
      have hw2 := hW.trans (hb2.mono hW.size)
      exact ⟨((hT.below hb2).below ((Below.refl _ u2).alloc (Nat.le_refl _) _)), Deep.blk_alloc_new _ _, hw2.alloc hw2.size _⟩
    intro V hV
    obtain ⟨hT, hP, hW⟩ := hV
    obtain ⟨pb, hpb⟩ : ∃ pb, u2.heap.size = pb := ⟨_, rfl⟩
    rw [hpb] at hP
    have p0 : V.cell? ⟨pb, 0, none⟩ = some (.string (nm m)) := by simp [World.cell?, hP]
    have p1 : V.cell? ⟨pb, 1, none⟩ = some (.int .i64 (least m)) := by simp [World.cell?, hP]
    have p2 : V.cell? ⟨pb, 2, none⟩ = some (.int .i64 (most m)) := by simp [World.cell?, hP]
    have hpl := lt_of_heap hP
    obtain ⟨r0, r1, r2⟩ := prim_row hT HM.out.1
    have hbl := lt_of_heap hT
    have hidx : m * 3 = n.toNat * 3 := by have := HM.out.2; omega
    rw [hidx] at r0 r1 r2
    change V.cell? ⟨b, n.toNat * 3 + 1, none⟩ = some (.int .i64 (least m)) at r1
    change V.cell? ⟨b, n.toNat * 3 + 2, none⟩ = some (.int .i64 (most m)) at r2
    have HV := hide (And.intro hT hW)
    have HCV := hide (HC.out V)
    clear hT hW hP HC HG HU hb2
    go_upto_region 4 with fail
    refine wp_region_later (by kernel_rfl) (by kernel_rfl) ?_
    repeat (first
      | go_big_quiet_step (first | (go_at_call 6; with_reducible exact later_of (HCV.out _)))
      | quiet_step (first | (go_at_call 6; with_reducible exact later_of (HCV.out _))))
    refine wpQuiet_nil ?_
    rintro w2 ⟨⟨wz, hbz⟩, hwz⟩
    have hb2 : Below V.heap.size V w2 := by rw [hwz]; exact hbz
    clear hwz hbz wz
    obtain ⟨hT, hW⟩ := HV.out
    have hW2 := hW.trans (hb2.mono hW.size)
    have HV2 := hide (And.intro (hT.below hb2) hW2)
    clear hT hW hb2 HV hW2 HCV
    go_wp2
    go_loopw [9, 10] (fun c9 c10 wr => ∃ k : Nat, k ≤ 92 ∧ c10 = .int .i64 k ∧ c9 = .int .i64 (lastN s k) ∧ Below w2.heap.size w2 wr) (fun _ c10 _ => 92 - (intOf c10).toNat)
    case atStart => exact ⟨0, Nat.zero_le _, rfl, rfl, Below.refl _ _⟩
    case round =>
      obtain ⟨k, hk, rfl, rfl, hbw⟩ := hrel
      by_cases hlt : k < 92
      · obtain ⟨e0, e1, e2⟩ := prim_row (HV2.out.1.below hbw) hlt
        have hlt' : (k : Int) < 92 := by omega
        have hk0 : (0 : Int) ≤ k := by omega
        have HN := hide hbw
        clear hbw e1 e2
        by_cases hs : nm k = s
        · have hq : ((nm k).toList == s.toList) = true := by rw [hs]; simp
          have hl : lastN s (k + 1) = k := by unfold lastN; rw [if_pos hs]
          have HL := hide hl
          clear hl hs
          generalize hz : lastN s k = z at *
          go_wp2_with fail
          exact ⟨⟨k + 1, by omega, by go_num, by rw [HL.out], HN.out⟩, by simp [intOf]; omega⟩
        · have hq := str_ne hs
          have hl : lastN s (k + 1) = lastN s k := by conv => lhs; unfold lastN
                                                      rw [if_neg hs]
          have HL := hide hl
          clear hl hs
          go_wp2_with fail
          exact ⟨⟨k + 1, by omega, by go_num, by rw [HL.out], HN.out⟩, by simp [intOf]; omega⟩
      · obtain rfl : k = 92 := by omega
        have HN := hide hbw
        clear hbw
        have hnum := hide (number_any s wr)
        obtain ⟨z, hz⟩ : ∃ z, lastN s 92 = z := ⟨_, rfl⟩
        rw [hz] at hnum ⊢
        have HK := hide (fun U => number_any (nm m) U)
        have hlm : lastN (nm m) 92 = n := by rw [lastN_at HM.out.1 rfl 92 (Nat.le_refl _), if_pos HM.out.1]; exact HM.out.2
        rw [hlm] at HK
        clear hlm r0 r1 r2 p0 p1 p2
        have hbl2 := HN.out.size
        go_upto_region 12 with fail
        go_wp2_with (go_at_call 7; fail)
        with_reducible refine hnum.out.mono ?_
        rintro e w3 ⟨rfl, hb3⟩
        have r0 : w3.cell? ⟨b, n.toNat * 3, none⟩ = some (.string (nm m)) := by
          have e9 := (prim_row ((HV2.out.1.below HN.out).below hb3) HM.out.1).1
          rw [show n.toNat = m from by have := HM.out.2; omega]
          exact e9
        go_wp2_with (go_at_call 7; fail)
        with_reducible refine (HK.out _).mono ?_
        rintro e w5 ⟨rfl, hb5⟩
        go_wp2_with (go_at_call 8; refine (lists_awake _).mono ?_; rintro e w4 ⟨rfl, hb4⟩)
        go_ret
        have f1 := HV2.out.2.trans (HN.out.mono HV2.out.2.size)
        have f2 := f1.trans (hb3.mono f1.size)
        have f3 := f2.trans (hb5.mono f2.size)
        exact ⟨rfl, f3.trans (hb4.mono f3.size)⟩

theorem lists_any (n : Int) (s : ByteArray) (w : World) : Calls Tryz.prog 3 #[.int .i64 n, .string s] w fun e w' => e = .returned (.bool true) ∧ Below w.heap.size w w' := by
  by_cases h : n < 0 ∨ 92 ≤ n
  · exact lists_out n h s w
  · obtain ⟨m, rfl⟩ : ∃ m : Nat, (m : Int) = n := ⟨n.toNat, by omega⟩
    exact lists_in m (by omega) s w

end Go.Proofs.YtlakmdljkijdhaaGreatDoor
