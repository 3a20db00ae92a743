/-
  The walk of tandemlaw11.CheckStacks.
-/
import Derived.Test.YtmlmepbnjlepnaaChkBranches
import Derived.Test.YtmlmepbnjlepnaaChkDepths
import Derived.Test.YtmlmepbnjlepnaaChkLine
namespace Go.Proofs.Ytmlmepbnjlepnaa
open Go.RowKit Go.BigFrame

theorem head_stk (n k : Nat) (hn : n < 40) (hk : k < 40) : headB (stkP n k) 0 = true := by
  have h : (stkP n k).code.length = n + k + 1 := stk_len n k
  have h1 : inB (stkP n k).args 65 = true := show inB 0 65 = true by decide
  have h2 : inB (stkP n k).free 4097 = true := show inB 0 4097 = true by decide
  unfold headB
  rw [h, h1, h2]
  simp [stkP]; omega

theorem prog_stk_bad (n k : Nat) (hn : n < 40) (hk : k < 40) (h : n ≤ k) : progR [stkP n k] = (0, 2 * n, 31) := by
  unfold progR
  rw [if_neg (by simp)]
  exact progL_bad (head_stk n k hn hk) (stk_bad hn h)

theorem prog_stk_ok (n k : Nat) (hn : n < 40) (hk : k < 40) (h : k < n) : progR [stkP n k] = (0, 0, 0) := by
  unfold progR
  rw [if_neg (by simp), progL_ok (head_stk n k hn hk) (stk_ok hn h)]
  rfl

theorem stk_b (n k : Nat) : ∀ x ∈ stk n k, x.b ≤ 9223372036854775807 := by
  intro x hx
  have : x.b = 0 := by
    unfold stk at hx
    simp [List.mem_replicate] at hx
    rcases hx with ⟨-, rfl⟩ | ⟨-, rfl⟩ | rfl <;> rfl
  omega

def stk1 (i : Nat) : List Ins := List.replicate i ⟨1, 0, 0⟩
def stk2 (n i : Nat) : List Ins := stk1 n ++ List.replicate i ⟨17, 0, 0⟩
theorem stk1_snoc (i : Nat) : stk1 (i + 1) = stk1 i ++ [⟨1, 0, 0⟩] := by unfold stk1; rw [List.replicate_succ']
theorem stk2_snoc (n i : Nat) : stk2 n (i + 1) = stk2 n i ++ [⟨17, 0, 0⟩] := by unfold stk2; rw [List.replicate_succ', List.append_assoc]
theorem stk2_end (n k : Nat) : stk2 n k ++ [⟨13, 0, 0⟩] = stk n k := rfl
theorem stk1_len (i : Nat) : (stk1 i).length = i := by simp [stk1]
theorem stk2_len (n i : Nat) : (stk2 n i).length = n + i := by simp [stk2, stk1_len]

/-- One proto in memory, and the rest that the contracts ask for. -/
def stkV (n k g p kb : Nat) : PrV := ⟨⟨#[]⟩, stkP n k, some ⟨g, 0, none⟩, p, some ⟨kb, 0, none⟩, 1, none, 0⟩

theorem depths_heap {w : World} {psb cb : Nat} {t1 t2 : TypeId} {f1 f2 : Nat × Nat} (v : PrV) (rest : List Value) (hca : v.ca = some ⟨cb, 0, none⟩)
    (hp : w.heap[psb]? = some (.cells ⟨v.cells⟩ t1 f1)) (hc : w.heap[cb]? = some (.cells ⟨codeV v.pr.code ++ rest⟩ t2 f2))
    (hnc : v.pr.nc ≤ 140737488351232) (hnn : v.pr.nn ≤ 140737488351232) (hnk : v.pr.code.length ≤ 5864062014635) (hnb : ∀ x ∈ v.pr.code, x.b ≤ 9223372036854775807) (l : List Int)
    (h : ((progR [v.pr]).2.2 ≠ 0 ∧ l = []) ∨ ((progR [v.pr]).2.2 = 0 ∧ protoR [v.pr] v.pr = .ok l)) :
    Calls Try.prog 10 #[.slice (some ⟨psb, 0, none⟩) 1 1, .int .i64 0] w (DepthsDone w l) := by
  have hps : PsAt w (some ⟨psb, 0, none⟩) [v] := psAt_one v hca (fun j _ => cell_row hp j) (lt_of_heap hp) (fun i hi => by
    rw [cell_row hc i, List.getElem?_append_left (by rw [codeV_len]; exact hi)]) (lt_of_heap hc) hnc hnn hnk hnb
  rcases h with ⟨h, rfl⟩ | ⟨h, hr⟩
  · exact depths_bad (some ⟨psb, 0, none⟩) 1 [v] 0 w hps h
  · exact depths_ok (some ⟨psb, 0, none⟩) 1 [v] 0 v l w hps h rfl hr

set_option maxRecDepth 100000 in
set_option maxHeartbeats 4000000 in
theorem stacks_any (a b : Int) (w : World) : Calls Try.prog 5 #[.int .i64 a, .int .i64 b] w fun e w' => e = .returned (.bool true) ∧ Below w.heap.size w w' := by
  go_enter Try.func5, Try.ntmps5
  go_upto_region 4 with (first
    | (go_at_call 6; refine (place_int b 40 w1 (by omega) (by omega)).mono ?_; rintro e w2 ⟨k, hk40, rfl, hb2⟩)
    | (go_at_call 6; refine (place_int a 40 w (by omega) (by omega)).mono ?_; rintro e w1 ⟨n, hn40, rfl, hb1⟩))
  have hs12 : Below w.heap.size w w2 := hb1.trans (hb2.mono hb1.size)
  obtain ⟨kb, hkb⟩ : ∃ kb, w2.heap.size = kb := ⟨_, rfl⟩
  refine gen_world (fun W => Making W (w2.heap.size + 1) (w2.heap.size + 2) (.slice (some ⟨w2.heap.size, 0, none⟩) 1 1) (.slice none 0 0) [] ∧ Below w.heap.size w W) ?_ ?_
  · have hs := hs12.size
    refine ⟨⟨(two_blocks w2 _ _).2, World.ownsRow_nil _ _ _ _, by omega, by rw [Deep.nblk_alloc, Deep.nblk_alloc]; omega⟩, (hs12.alloc hs _).alloc (by rw [Deep.nblk_alloc]; omega) _⟩
  intro W hW
  have hle := hs12.size
  rw [hkb] at hW hle ⊢
  have HM2 := hide hW.1
  have HB2 := hide hW.2
  clear hW hb1 hb2 hs12 hkb
  go_wp2
  go_loopw [8] (fun c wr => ∃ (i : Nat) (v : Value), i ≤ n ∧ c = .int .i64 i ∧ Making wr (kb + 1) (kb + 2) (.slice (some ⟨kb, 0, none⟩) 1 1) v (stk1 i) ∧ Below w.heap.size w wr)
    (fun c _ => n - (intOf c).toNat)
  case atStart => exact ⟨0, _, Nat.zero_le _, rfl, HM2.out, HB2.out⟩
  case round =>
    obtain ⟨i, v, hil, rfl, hm, hb⟩ := hrel
    obtain ⟨hcv, hfv⟩ := making_cells hm
    have HM := hide hm
    have HB := hide hb
    clear hm hb HM2 HB2
    by_cases hlt : i < n
    · have hlt' : (i : Int) < n := by omega
      go_wp2_with (at_builtin; refine wpList_more rfl (.tmp 29) (.tmp 31) rfl (m := [⟨1, 0, 0⟩]) rfl HM.out rfl rfl (by rw [stk1_len]; simp; omega) (by simp) ?_; intro g4 l4 p4 w4 hm4 hc4 hf4 hb4)
      exact ⟨⟨i + 1, _, by omega, by go_num, by rw [stk1_snoc]; exact hm4, hb4 _ _ (by omega) HB.out⟩, by simp [intOf]; omega⟩
    · obtain rfl : i = n := by omega
      have hge : ¬ ((i : Int) < i) := by omega
      go_wp2
      go_loopw [9] (fun c wr => ∃ (j : Nat) (v : Value), j ≤ k ∧ c = .int .i64 j ∧ Making wr (kb + 1) (kb + 2) (.slice (some ⟨kb, 0, none⟩) 1 1) v (stk2 i j) ∧ Below w.heap.size w wr)
        (fun c _ => k - (intOf c).toNat)
      case atStart => exact ⟨0, _, Nat.zero_le _, rfl, by unfold stk2; rw [List.replicate_zero, List.append_nil]; exact HM.out, HB.out⟩
      case round =>
        clear hcv hfv HM HB hge
        obtain ⟨j, v, hil, rfl, hm, hb⟩ := hrel
        obtain ⟨hcv, hfv⟩ := making_cells hm
        have HM := hide hm
        have HB := hide hb
        clear hm hb
        by_cases hlt : j < k
        · have hlt' : (j : Int) < k := by omega
          go_wp2_with (at_builtin; refine wpList_more rfl (.tmp 40) (.tmp 42) rfl (m := [⟨17, 0, 0⟩]) rfl HM.out rfl rfl (by rw [stk2_len]; simp; omega) (by simp) ?_; intro g6 l6 p6 w6 hm6 hc6 hf6 hb6)
          exact ⟨⟨j + 1, _, by omega, by go_num, by rw [stk2_snoc]; exact hm6, hb6 _ _ (by omega) HB.out⟩, by simp [intOf]; omega⟩
        · obtain rfl : j = k := by omega
          have hge : ¬ ((j : Int) < j) := by omega
          go_upto_region 13 with (at_builtin; refine wpList_more rfl (.tmp 46) (.tmp 48) rfl (m := [⟨13, 0, 0⟩]) rfl HM.out rfl rfl (by rw [stk2_len]; simp; omega) (by simp) ?_; intro g6 l6 p6 w6 hm6 hc6 hf6 hb6)
          refine gen_world (fun W => Making W (kb + 1) (kb + 2) (.slice (some ⟨kb, 0, none⟩) 1 1) (.slice (some ⟨g6, 0, none⟩) l6 p6) (stk i j) ∧ Below w.heap.size w W) ⟨hm6, hb6 _ _ (by omega) HB.out⟩ ?_
          intro W7 hW7
          obtain ⟨hM7, hB7⟩ := hW7
          obtain ⟨rfl, rest, hrest⟩ := own_form hM7.own
          obtain ⟨k0, k1, k2, k3, k4, k5, k6⟩ := proto_cells hM7.pr
          have hg6 := lt_of_heap hrest
          by_cases hkn : i ≤ j
          · have HPG := program_heap ⟨⟨#[]⟩, ⟨0, 0, false, stk i j, 1, 0⟩, some ⟨g6, 0, none⟩, p6, some ⟨kb, 0, none⟩, 1, none, 0⟩ rest _ (prog_stk_bad i j hn40 hk40 hkn) rfl (Deep.blk_alloc_new W7 (.cells ⟨PrV.cells ⟨⟨#[]⟩, ⟨0, 0, false, stk i j, 1, 0⟩, some ⟨g6, 0, none⟩, p6, some ⟨kb, 0, none⟩, 1, none, 0⟩⟩ 32 (0, 0))) ((Deep.blk_alloc_lt _ _ _ hg6).trans hrest) (by simp) (Nat.zero_le _) (by simp only [stk_len]; omega) (stk_b i j)
            have HPG := hide HPG
            have HX := hide (And.intro hM7.pr (And.intro hrest (And.intro hB7 hkn)))
            clear hm6 hc6 hf6 hb6 hcv hfv HM HB hge hM7 hB7 hrest hg6 hkn
            go_upto_region 14 with (go_at_call 7; refine HPG.out.mono ?_; rintro e w8 ⟨rfl, hb8⟩)
            obtain ⟨hpr, hrest, hB7, hkn⟩ := HX.out
            have hpr8 := (hb8.block (kb + 1) (by rw [Deep.nblk_alloc]; have := lt_of_heap hpr; omega)).trans ((Deep.blk_alloc_lt _ _ _ (lt_of_heap hpr)).trans hpr)
            have hrest8 := (hb8.block g6 (by rw [Deep.nblk_alloc]; have := lt_of_heap hrest; omega)).trans ((Deep.blk_alloc_lt _ _ _ (lt_of_heap hrest)).trans hrest)
            have hB8 := (hB7.alloc hB7.size (.cells #[.string ⟨#[]⟩, .int .i64 0, .int .i64 0, .bool false, .slice (some ⟨g6, 0, none⟩) (stk i j).length p6, .slice (some ⟨kb, 0, none⟩) 1 1, .slice none 0 0] 32)).trans (hb8.mono (by rw [Deep.nblk_alloc]; have := hB7.size; omega))
            clear hb8 hpr hrest hB7 HX HPG k0 k1 k2 k3 k4 k5 k6
            obtain ⟨k0, k1, k2, k3, k4, k5, k6⟩ := proto_cells hpr8
            have HD := hide (depths_heap ⟨⟨#[]⟩, ⟨0, 0, false, stk i j, 1, 0⟩, some ⟨g6, 0, none⟩, p6, some ⟨kb, 0, none⟩, 1, none, 0⟩ rest rfl (Deep.blk_alloc_new w8 (.cells ⟨PrV.cells ⟨⟨#[]⟩, ⟨0, 0, false, stk i j, 1, 0⟩, some ⟨g6, 0, none⟩, p6, some ⟨kb, 0, none⟩, 1, none, 0⟩⟩ 32 (0, 0))) ((Deep.blk_alloc_lt _ _ _ (lt_of_heap hrest8)).trans hrest8) (by simp) (Nat.zero_le _) (by simp only [stk_len]; omega) (stk_b i j) [] (.inl ⟨by rw [show [(⟨⟨#[]⟩, ⟨0, 0, false, stk i j, 1, 0⟩, some ⟨g6, 0, none⟩, p6, some ⟨kb, 0, none⟩, 1, none, 0⟩ : PrV).pr] = [stkP i j] from rfl, prog_stk_bad i j hn40 hk40 hkn]; exact (show (31 : Int) ≠ 0 by decide), rfl⟩))
            have HB8 := hide (hB8.alloc hB8.size (.cells #[.string ⟨#[]⟩, .int .i64 0, .int .i64 0, .bool false, .slice (some ⟨g6, 0, none⟩) (stk i j).length p6, .slice (some ⟨kb, 0, none⟩) 1 1, .slice none 0 0] 32))
            clear hpr8 hrest8 hB8
            have hij : (i : Int) ≤ j := by omega
            have hq : (((2 * i : Nat) : Int) == 2 * (i : Int)) = true := by simp
            go_wp2_with (first
              | (go_at_call 10; refine (HD.out).mono ?_; rintro e w9 ⟨psl, cap, rfl, -, hb9⟩)
              | (go_at_call 8; refine (awake_any _).mono ?_; rintro e w10 ⟨rfl, hb10⟩))
            go_ret
            have e9 := HB8.out.trans (hb9.mono HB8.out.size)
            exact ⟨rfl, e9.trans (hb10.mono e9.size)⟩
          · have HPG := program_heap ⟨⟨#[]⟩, ⟨0, 0, false, stk i j, 1, 0⟩, some ⟨g6, 0, none⟩, p6, some ⟨kb, 0, none⟩, 1, none, 0⟩ rest _ (prog_stk_ok i j hn40 hk40 (by omega)) rfl (Deep.blk_alloc_new W7 (.cells ⟨PrV.cells ⟨⟨#[]⟩, ⟨0, 0, false, stk i j, 1, 0⟩, some ⟨g6, 0, none⟩, p6, some ⟨kb, 0, none⟩, 1, none, 0⟩⟩ 32 (0, 0))) ((Deep.blk_alloc_lt _ _ _ hg6).trans hrest) (by simp) (Nat.zero_le _) (by simp only [stk_len]; omega) (stk_b i j)
            have HPG := hide HPG
            have HX := hide (And.intro hM7.pr (And.intro hrest (And.intro hB7 hkn)))
            clear hm6 hc6 hf6 hb6 hcv hfv HM HB hge hM7 hB7 hrest hg6 hkn
            go_upto_region 14 with (go_at_call 7; refine HPG.out.mono ?_; rintro e w8 ⟨rfl, hb8⟩)
            obtain ⟨hpr, hrest, hB7, hkn⟩ := HX.out
            have hpr8 := (hb8.block (kb + 1) (by rw [Deep.nblk_alloc]; have := lt_of_heap hpr; omega)).trans ((Deep.blk_alloc_lt _ _ _ (lt_of_heap hpr)).trans hpr)
            have hrest8 := (hb8.block g6 (by rw [Deep.nblk_alloc]; have := lt_of_heap hrest; omega)).trans ((Deep.blk_alloc_lt _ _ _ (lt_of_heap hrest)).trans hrest)
            have hB8 := (hB7.alloc hB7.size (.cells #[.string ⟨#[]⟩, .int .i64 0, .int .i64 0, .bool false, .slice (some ⟨g6, 0, none⟩) (stk i j).length p6, .slice (some ⟨kb, 0, none⟩) 1 1, .slice none 0 0] 32)).trans (hb8.mono (by rw [Deep.nblk_alloc]; have := hB7.size; omega))
            clear hb8 hpr hrest hB7 HX HPG k0 k1 k2 k3 k4 k5 k6
            obtain ⟨k0, k1, k2, k3, k4, k5, k6⟩ := proto_cells hpr8
            have HD := hide (depths_heap ⟨⟨#[]⟩, ⟨0, 0, false, stk i j, 1, 0⟩, some ⟨g6, 0, none⟩, p6, some ⟨kb, 0, none⟩, 1, none, 0⟩ rest rfl (Deep.blk_alloc_new w8 (.cells ⟨PrV.cells ⟨⟨#[]⟩, ⟨0, 0, false, stk i j, 1, 0⟩, some ⟨g6, 0, none⟩, p6, some ⟨kb, 0, none⟩, 1, none, 0⟩⟩ 32 (0, 0))) ((Deep.blk_alloc_lt _ _ _ (lt_of_heap hrest8)).trans hrest8) (by simp) (Nat.zero_le _) (by simp only [stk_len]; omega) (stk_b i j) _ (.inr ⟨by rw [show [(⟨⟨#[]⟩, ⟨0, 0, false, stk i j, 1, 0⟩, some ⟨g6, 0, none⟩, p6, some ⟨kb, 0, none⟩, 1, none, 0⟩ : PrV).pr] = [stkP i j] from rfl, prog_stk_ok i j hn40 hk40 (by omega)], stk_ok hn40 (by omega)⟩))
            have HB8 := hide (hB8.alloc hB8.size (.cells #[.string ⟨#[]⟩, .int .i64 0, .int .i64 0, .bool false, .slice (some ⟨g6, 0, none⟩) (stk i j).length p6, .slice (some ⟨kb, 0, none⟩) 1 1, .slice none 0 0] 32))
            clear hpr8 hrest8 hB8
            have hij : ¬ ((i : Int) ≤ j) := by omega
            go_upto_region 19 with (first
              | (go_at_call 10; refine (HD.out).mono ?_; rintro e w9 ⟨psl, cap, rfl, hc9, hb9⟩)
              | (go_at_call 8; refine (awake_any _).mono ?_; rintro e w10 ⟨rfl, hb10⟩))
            have hcs : ∃ g, psl = some ⟨g, 0, none⟩ ∧ g < w9.heap.size ∧ ∀ q, q < i + j + 1 → w9.cell? ⟨g, q, none⟩ = some (.int .i64 (stkG i q)) := by
              obtain ⟨g, h1, h2, -⟩ := hc9 0 (by simp)
              refine ⟨g, h1, h2, fun q hq => ?_⟩
              obtain ⟨g', h3, -, h4⟩ := hc9 q (by simpa using hq)
              rw [h1] at h3
              cases h3
              rw [h4, getD_range _ _ hq]
            obtain ⟨g9, rfl, hg9, hcells⟩ := hcs
            have HB9 := hide (HB8.out.trans (hb9.mono HB8.out.size))
            have HC9 := hide hcells
            clear hc9 hcells hb9 HD HB8 k0 k1 k2 k3 k4 k5 k6 hkn
            go_wp2
            go_loop [14] (fun c => ∃ q : Nat, q ≤ i + j + 1 ∧ c = .int .i64 q) (fun c => i + j + 1 - (intOf c).toNat)
            case atStart => exact ⟨0, Nat.zero_le _, rfl⟩
            case round =>
              obtain ⟨q, hq, rfl⟩ := hrel
              by_cases hlt : q < i + j + 1
              · have hcq := HC9.out q hlt
                have hlt' : (q : Int) < i + j + 1 := by omega
                have hq0 : (0 : Int) ≤ q := by omega
                by_cases hqi : i < q
                · have hg : stkG i q = 2 * (i : Int) - q := by unfold stkG; rw [if_neg (by omega)]
                  rw [hg] at hcq
                  have hq1 : (i : Int) < q := by omega
                  go_wp2
                  exact ⟨⟨q + 1, by omega, by go_num⟩, by simp [intOf]; omega⟩
                · have hg : stkG i q = q := by unfold stkG; rw [if_pos (by omega)]
                  rw [hg] at hcq
                  have hq1 : ¬ (i : Int) < q := by omega
                  go_wp2
                  exact ⟨⟨q + 1, by omega, by go_num⟩, by simp [intOf]; omega⟩
              · obtain rfl : q = i + j + 1 := by omega
                have hge : ¬ (((i + j + 1 : Nat) : Int) < i + j + 1) := by omega
                go_wp2_with (go_at_call 8; refine (awake_any _).mono ?_; rintro e w10 ⟨rfl, hb10⟩)
                go_ret
                exact ⟨rfl, HB9.out.trans (hb10.mono HB9.out.size)⟩

end Go.Proofs.Ytmlmepbnjlepnaa
