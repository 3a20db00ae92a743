/-
  The walk of tandemlaw14.FeedSeen.
-/
import Derived.Test.YtmgafcbhoamkkaaFeedSortOk
import Derived.Test.YtmgafcbhoamkkaaFeedAwake
import Derived.Test.YtmgafcbhoamkkaaIntsRead
import Derived.BigRegion
import Derived.BigQuiet
namespace Go.Proofs.Ytmgafcbhoamkkaa
open Go.RowKit Go.ChangeMaps
set_option linter.unusedSimpArgs false

theorem tmod_b (y : Int) (n : Int) (hn : 0 < n) : -n < y.tmod n ∧ y.tmod n < n := ⟨by have := Int.lt_tmod_of_pos y hn; omega, Int.tmod_lt_of_pos y hn⟩
theorem tmod_n (y : Int) (n : Int) (hn : 0 < n) (hy : 0 ≤ y) : 0 ≤ y.tmod n ∧ y.tmod n < n := ⟨Int.tmod_nonneg n hy, Int.tmod_lt_of_pos y hn⟩
theorem nat_div (m : Nat) : (m : Int).tdiv 5 = ((m / 5 : Nat) : Int) := by rw [Int.tdiv_eq_ediv_of_nonneg (by omega)]; omega
theorem nat_mod (m : Nat) : (m : Int).tmod 5 = ((m % 5 : Nat) : Int) := by rw [Int.tmod_eq_emod_of_nonneg (by omega)]; omega

theorem fits_small {n : Int} (h0 : 0 ≤ n) (h1 : n ≤ 1000) : fits n := by
  unfold fits Lit.wf
  simp [IntKind.bits, IntKind.signed, IntKind.min, IntKind.max]
  omega

theorem not_mine {wr : World} {tb mb bm : Nat} {L : List Pl} {t : TypeId} {f : Nat → Value} (h : TabAt wr tb mb L) (hr : wr.rowIs bm t 25 f) : ¬ Mine mb L bm := by
  obtain ⟨c, hc, hs, -⟩ := hr
  rintro (e | ⟨q, hq, e⟩)
  · obtain ⟨es, clock, hm, -⟩ := h.map
    rw [← e, hc] at hm; cases hm
  · have hq2 := h.cells q hq
    rw [e, hc] at hq2
    unfold Pl.obj at hq2
    cases hq2
    simp at hs

theorem tab_store {wr : World} {tb mb bm : Nat} {L : List Pl} {t : TypeId} {f : Nat → Value} (h : TabAt wr tb mb L) (hr : wr.rowIs bm t 25 f) (o : Nat) (v : Value) : TabAt (wr.setCell ⟨bm, o, none⟩ v).drew tb mb L := by
  have hn := not_mine h hr
  obtain ⟨c, hc, hs, -⟩ := hr
  refine h.kept ?_ ?_ fun q hq => ?_
  · exact Deep.blk_setCell_other _ _ _ _ (fun e => by
      have := h.tab
      dsimp only at e
      rw [e, hc] at this
      cases this
      simp at hs)
  · exact Deep.blk_setCell_other _ _ _ _ (fun e => hn (.inl e.symm))
  · exact Deep.blk_setCell_other _ _ _ _ (fun e => hn (.inr ⟨q, hq, e⟩))

theorem below_turned {S : Nat → Prop} {B : Nat} {w u v : World} (h : Below B w u) (hT : Turned S u v) (hS : ∀ b, S b → B ≤ b) (hB : B ≤ u.heap.size) : Below B w v :=
  ⟨hT.os.trans h.os, hT.tape.trans h.tape, hT.output.trans h.output, Nat.le_trans h.size hT.size, fun k hk => (hT.block k (by omega) (fun e => by have := hS k e; omega)).trans (h.block k hk)⟩

/-- What the loop has gathered: the table, the masks. -/
structure SeenAt (w wr : World) (tb mb bm : Nat) (L : List Pl) (M : Nat → Int) : Prop where
  tab : TabAt wr tb mb L
  says : ∀ p c, tv L p c = seenTv M p c
  row : wr.rowIs bm 31 25 (fun i => .int .i64 (M i))
  below : Below w.heap.size w wr
  mine : ∀ b, Mine mb L b → w.heap.size ≤ b
  bm : w.heap.size ≤ bm

theorem SeenAt.later {w wr wr' : World} {tb mb bm : Nat} {L : List Pl} {M : Nat → Int} (h : SeenAt w wr tb mb bm L M) (hb : Below wr.heap.size wr wr') : SeenAt w wr' tb mb bm L M :=
  ⟨h.tab.below hb, h.says, World.rowIs.of_block h.row (hb.block _ (World.rowIs.lt h.row)), h.below.trans (hb.mono h.below.size), h.mine, h.bm⟩

theorem seen_step {M : Nat → Int} {L L' : List Pl} {m : Nat} (hm : m < 25) (kk : Int) (h : ∀ p c, tv L p c = seenTv M p c)
    (h' : ∀ p' c', tv L' p' c' = if p' = ((m / 5 : Nat) : Int) ∧ c' = ((m % 5 : Nat) : Int) then (addKs (tv L ((m / 5 : Nat) : Int) ((m % 5 : Nat) : Int)).1 [kk], (tv L ((m / 5 : Nat) : Int) ((m % 5 : Nat) : Int)).2.1, (tv L ((m / 5 : Nat) : Int) ((m % 5 : Nat) : Int)).2.2) else tv L p' c') :
    ∀ p c, tv L' p c = seenTv (fun i => if i = m then addK (M m) kk else M i) p c := by
  intro p c
  have h0 := h ((m / 5 : Nat) : Int) ((m % 5 : Nat) : Int)
  unfold seenTv at h0
  rw [if_pos (by omega), show (((m / 5 : Nat) : Int) * 5 + ((m % 5 : Nat) : Int)).toNat = m from by omega] at h0
  rw [h', h0]
  by_cases e : p = ((m / 5 : Nat) : Int) ∧ c = ((m % 5 : Nat) : Int)
  · rw [if_pos e]
    unfold seenTv
    rw [if_pos (by omega)]
    dsimp only
    rw [if_pos (by omega)]
    rfl
  · rw [if_neg e, h]
    unfold seenTv
    by_cases e2 : 0 ≤ p ∧ p < 5 ∧ 0 ≤ c ∧ c < 5
    · rw [if_pos e2, if_pos e2]
      dsimp only
      rw [if_neg (by omega)]
    · rw [if_neg e2, if_neg e2]

set_option maxRecDepth 100000 in
set_option maxHeartbeats 4000000 in
theorem seen_any {v1 v2 : Value} {zs ks : List Int} {w : World} (h1 : IntsR w v1 zs) (h2 : IntsR w v2 ks) : Calls Try.prog 4 #[v1, v2] w fun e w' => e = .returned (.bool true) ∧ Below w.heap.size w w' := by
  obtain ⟨p1, c1, rfl, hl1, -⟩ := id h1
  obtain ⟨p2, c2, rfl, hl2, -⟩ := id h2
  obtain ⟨n1, hn1⟩ : ∃ n, zs.length = n := ⟨_, rfl⟩
  obtain ⟨n2, hn2⟩ : ∃ n, ks.length = n := ⟨_, rfl⟩
  have HI := hide (And.intro h1 (And.intro h2 (And.intro hn1 hn2)))
  rw [hn1] at hl1 ⊢
  rw [hn2] at hl2 ⊢
  clear h1 h2 hn1 hn2
  obtain ⟨mb, hmb⟩ : ∃ b, w.heap.size = b := ⟨_, rfl⟩
  go_enter Try.func4, Try.ntmps4
  go_upto_region 5 with (go_at_call 10; refine (new_any _).mono ?_; rintro e w1 ⟨rfl, ht1, hb1⟩)
  refine genF (fun U => SeenAt w U (mb + 1) mb w1.heap.size [] (fun _ => 0)) ?_ ?_
  · rw [hmb] at ht1
    refine ⟨ht1.below ((Below.refl _ _).alloc (Nat.le_refl _) _), fun p c => by unfold seenTv; split <;> rfl, ?_, hb1.alloc hb1.size _, fun b hb => ?_, hb1.size⟩
    · have e := World.rowIs_alloc w1 (Array.replicate 25 (.int .i64 0)) 31 (fun _ => .int .i64 0) (fun i hi => by simp at hi; simp [hi])
      rw [Array.size_replicate] at e
      exact e
    · rw [mine_nil] at hb; omega
  intro U hU
  have HU := hide hU
  clear hU ht1
  obtain ⟨bm, hbm⟩ : ∃ b, w1.heap.size = b := ⟨_, rfl⟩
  rw [hbm] at HU ⊢
  clear hb1
  go_wp2
  go_loopw [7] (fun c7 wr => ∃ (k : Nat) (L : List Pl) (M : Nat → Int), k ≤ n1 ∧ c7 = .int .i64 k ∧ SeenAt w wr (mb + 1) mb bm L M) (fun c7 _ => n1 - (intOf c7).toNat)
  case atStart => exact ⟨0, [], _, Nat.zero_le _, rfl, HU.out⟩
  case round =>
    clear HU
    obtain ⟨k, L, M, hk, rfl, hs⟩ := hrel
    by_cases hlt : k < n1
    · obtain ⟨h1, h2, hn1, hn2⟩ := HI.out
      obtain ⟨p, c, e1, -, h1⟩ := h1.below hs.below
      cases e1
      obtain ⟨b1, o1, rfl, hbl1, hc1⟩ := h1 (by omega)
      have x1 := hc1 k (by omega)
      obtain ⟨z, hz⟩ : ∃ z, zs.getD k 0 = z := ⟨_, rfl⟩
      rw [hz] at x1
      have hlt' : (k : Int) < n1 := by omega
      have hk0 : (0 : Int) ≤ k := by omega
      have HS := hide hs
      clear h1 hc1 hz
      go_upto_if 27 with fail
      go_cut [8] from 18 to 67 (fun s8 wx => ∃ kk : Int, s8 = .int .i64 kk ∧ 1 ≤ kk ∧ kk ≤ 10 ∧ wx = wr)
      case first =>
        by_cases hk2 : k < n2
        · obtain ⟨p, c, e2, -, h2⟩ := h2.below HS.out.below
          cases e2
          obtain ⟨b2, o2, rfl, hbl2, hc2⟩ := h2 (by omega)
          have x2 := hc2 k (by omega)
          obtain ⟨y, hy⟩ : ∃ y, ks.getD k 0 = y := ⟨_, rfl⟩
          rw [hy] at x2
          have hlt2 : (k : Int) < n2 := by omega
          obtain ⟨t1, t2⟩ := tmod_b y 10 (by omega)
          obtain ⟨t3, t4⟩ := tmod_n (y.tmod 10 + 10) 10 (by omega) (by omega)
          clear h2 hc2 hy hs
          go_wp2_with fail
          all_goals go_meet
          exact ⟨_, rfl, by omega, by omega, rfl⟩
        · have hlt2 : ¬ (k : Int) < n2 := by omega
          clear h2 hs
          go_wp2_with fail
          all_goals go_meet
          exact ⟨1, rfl, by omega, by omega, rfl⟩
      case rest =>
        obtain ⟨kk, rfl, hkk1, hkk2, rfl⟩ := hcut
        clear h2 hs
        obtain ⟨t1, t2⟩ := tmod_b z 25 (by omega)
        obtain ⟨t3, t4⟩ := tmod_n (z.tmod 25 + 25) 25 (by omega) (by omega)
        go_upto_region 12 with fail
        obtain ⟨m, hm⟩ : ∃ m : Nat, (z.tmod 25 + 25) % 25 = (m : Int) := ⟨((z.tmod 25 + 25) % 25).toNat, by omega⟩
        rw [hm]
        have hm25 : m < 25 := by omega
        clear t1 t2 t3 t4 hm
        have hs := HS.out
        have hA : TabAt (wc.alloc (.cells #[.int .i64 kk] 3)) (mb + 1) mb L := hs.tab.below ((Below.refl _ _).alloc (Nat.le_refl _) _)
        have hSee := hide (see_any wc.heap.size 1 (mb + 1) mb L ((m / 5 : Nat) : Int) ((m % 5 : Nat) : Int) [kk] (fits_small (by omega) (by omega)) (fits_small (by omega) (by omega)) (wc.alloc (.cells #[.int .i64 kk] 3)) hA (by simp)
          (fun hmine => by
            rcases hmine with e | ⟨q, hq, e⟩
            · have := lt_of_heap hs.tab.map.choose_spec.choose_spec.1; omega
            · have := lt_of_heap (hs.tab.cells q hq); omega)
          (by intro j hj; match j, hj with | 0, _ => simp) (by simp))
        have hdiv := nat_div m
        have hmod := nat_mod m
        clear hA hs
        go_upto_region 13 with (go_at_call 11; refine hSee.out.mono ?_; rintro e w3 ⟨rfl, L', hL', htv, hT, hM'⟩)
        have hs := HS.out
        have hbs : bm < wc.heap.size := World.rowIs.lt hs.row
        have hr3 : w3.heap[bm]? = wc.heap[bm]? := by
          rw [hT.block bm (by rw [Deep.nblk_alloc]; omega) (not_mine hs.tab hs.row), Deep.blk_alloc_lt _ _ _ hbs]
        have hrow := World.rowIs.of_block hs.row hr3
        have x5 := World.rowIs.cell hrow hm25
        have x6 := World.rowIs.frozen hrow m
        have q0 : (0 : Int) ≤ (m : Int) / 5 := by omega
        have q1 : (m : Int) / 5 < 5 := by omega
        have q2 : (0 : Int) ≤ (m : Int) % 5 := by omega
        have q3 : (m : Int) % 5 < 5 := by omega
        have q4 : m / 5 * 5 + m % 5 = m := by omega
        rw [← q4] at x5 x6
        have HX := hide (And.intro hL' (And.intro htv (And.intro hT (And.intro hM' hrow))))
        clear hL' htv hT hM' hrow hr3 hs hSee q4
        go_region
        go_wp2
        obtain ⟨hL', htv, hT, hM', hrow⟩ := HX.out
        have hs := HS.out
        have hadd : addK (M m) kk = bits BinOp.or .i64 (M m) (wrap64 (2 ^ kk.toNat)) := by unfold addK; rw [if_pos (by omega)]; rfl
        have q4 : m / 5 * 5 + m % 5 = m := by omega
        have hal := hs.below.alloc (B := w.heap.size) hs.below.size (.cells #[.int .i64 kk] 3)
        have hb3 := below_turned hal hT hs.mine hal.size
        refine ⟨⟨k + 1, L', fun i => if i = m then addK (M m) kk else M i, by omega, by go_num, tab_store hL' hrow _ _, seen_step hm25 kk hs.says htv, ?_, (hb3.setCell (p := ⟨bm, _, none⟩) hs.bm _).drew, fun b hb => ?_, hs.bm⟩, by simp [intOf]; omega⟩
        · rw [q4, hadd]
          refine (World.rowIs.set hrow m _).congr fun j hj => ?_
          by_cases e : j = m
          · simp [e]
          · simp [e]
        · rcases hM' b hb with h | h
          · exact hs.mine b h
          · have := hal.size; omega
    · obtain rfl : k = n1 := by omega
      have hge : ¬ ((k : Int) < k) := by omega
      have HS := hide hs
      clear hs
      go_wp2
      obtain ⟨U, hU⟩ : ∃ U, U = wr := ⟨_, rfl⟩
      subst hU
      go_loopw [10, 11] (fun c10 c11 wx => ∃ a : Nat, a ≤ 5 ∧ c11 = .int .i64 a ∧ c10 = .int .i64 (cnt M (5 * a)) ∧ Below U.heap.size U wx) (fun _ c11 _ => 5 - (intOf c11).toNat)
      case atStart => exact ⟨0, by omega, rfl, rfl, Below.refl _ _⟩
      case round =>
        obtain ⟨a, ha, rfl, rfl, hb1⟩ := hrel
        by_cases hlt : a < 5
        · have hlt' : (a : Int) < 5 := by omega
          have ha0 : (0 : Int) ≤ a := by omega
          obtain ⟨n0, hn0⟩ : ∃ n0, cnt M (5 * a) = n0 := ⟨_, rfl⟩
          rw [hn0]
          have HN0 := hide hn0
          clear hn0
          have HB1 := hide hb1
          clear hb1
          go_wp2
          go_loopw [10, 12] (fun c10 c12 wy => ∃ b : Nat, b ≤ 5 ∧ c12 = .int .i64 b ∧ c10 = .int .i64 (cnt M (5 * a + b)) ∧ Below U.heap.size U wy) (fun _ c12 _ => 5 - (intOf c12).toNat)
          case atStart => exact ⟨0, by omega, rfl, by rw [← HN0.out]; rfl, HB1.out⟩
          case round =>
            clear HB1
            obtain ⟨b, hb, rfl, rfl, hb2⟩ := hrel
            obtain ⟨n1, hn1⟩ : ∃ n1, cnt M (5 * a + b) = n1 := ⟨_, rfl⟩
            rw [hn1]
            by_cases hltb : b < 5
            · have hs := HS.out.later hb2
              have hltb' : (b : Int) < 5 := by omega
              have hb0 : (0 : Int) ≤ b := by omega
              obtain ⟨x, hx⟩ : ∃ x, M (a * 5 + b) = x := ⟨_, rfl⟩
              have x5 := World.rowIs.cell hs.row (i := a * 5 + b) (by omega)
              rw [hx] at x5
              have hbl := World.rowIs.lt hs.row
              have htv : tv L a b = (x, -1, 0) := by
                rw [hs.says]
                unfold seenTv
                rw [if_pos (by omega), show ((a : Int) * 5 + (b : Int)).toNat = a * 5 + b from by omega, hx]
              have HAt : Hid (∀ y : Later wr, Calls Try.prog 12 #[.pointer (some ⟨mb + 1, 0, none⟩), .int .i64 a, .int .i64 b] (after wr y) fun e w' => e = .returned (.agg #[.int .i64 a, .int .i64 b, .int .i64 x, .int .i64 (-1)]) ∧ Below (after wr y).heap.size (after wr y) w') := hide fun y => by
                have h := at_any (mb + 1) mb L a b (fits_small (by omega) (by omega)) (fits_small (by omega) (by omega)) (after wr y) (hs.tab.below y.2)
                rw [htv] at h
                exact h
              have HB := hide (And.intro hb2 (And.intro hn1 hx))
              clear hs hb2 hn1 hx htv
              go_upto_region 21 with fail
              refine wp_region_later (by kernel_rfl) (by kernel_rfl) ?_
              repeat (first
                | go_big_quiet_step (first | (go_at_call 12; with_reducible exact later_of (HAt.out _)))
                | quiet_step (first | (go_at_call 12; with_reducible exact later_of (HAt.out _))))
              refine wpQuiet_nil ?_
              rintro w2 ⟨⟨wz, hbz⟩, hwz⟩
              have hb3 : Below wr.heap.size wr w2 := by rw [hwz]; exact hbz
              clear hwz hbz wz
              have x6 := (hb3.cell (p := ⟨bm, a * 5 + b, none⟩) hbl).trans x5
              have HB3 := hide hb3
              clear hb3 x5 HAt
              have hn1b : n1 ≤ 25 := by have := cnt_le M (5 * a + b); have := HB.out.2.1; omega
              by_cases hx0 : x = 0
              · have hc : cnt M (5 * a + (b + 1)) = n1 := by
                  rw [show 5 * a + (b + 1) = 5 * a + b + 1 from by omega, cnt_succ, HB.out.2.1, show 5 * a + b = a * 5 + b from by omega, HB.out.2.2, if_pos hx0]; rfl
                subst hx0
                go_wp2
                exact ⟨⟨b + 1, by omega, by go_num, by rw [hc], HB.out.1.trans (HB3.out.mono HB.out.1.size)⟩, by simp [intOf]; omega⟩
              · have hc : cnt M (5 * a + (b + 1)) = n1 + 1 := by
                  rw [show 5 * a + (b + 1) = 5 * a + b + 1 from by omega, cnt_succ, HB.out.2.1, show 5 * a + b = a * 5 + b from by omega, HB.out.2.2, if_neg hx0]
                go_wp2
                exact ⟨⟨b + 1, by omega, by go_num, by rw [hc]; go_num, HB.out.1.trans (HB3.out.mono HB.out.1.size)⟩, by simp [intOf]; omega⟩
            · obtain rfl : b = 5 := by omega
              have hc : cnt M (5 * (a + 1)) = n1 := by rw [← hn1]; congr 1
              have HB := hide hb2
              clear hb2
              go_wp2
              exact ⟨⟨a + 1, by omega, by go_num, by rw [hc], HB.out⟩, by simp [intOf]; omega⟩
        · obtain rfl : a = 5 := by omega
          have hs := HS.out.later hb1
          obtain ⟨n0, hn0⟩ : ∃ n0, cnt M (5 * 5) = n0 := ⟨_, rfl⟩
          rw [hn0]
          have hgl : (got L).length = n0 := by
            rw [← hn0]
            unfold got
            rw [List.length_map]
            exact live_count (apart_of hs.tab.keys) hs.says
          have hn25 : n0 ≤ 25 := by rw [← hn0]; exact cnt_le M 25
          have HAll := hide (all_any sort_ok none_ok (mb + 1) mb L wr hs.tab (by rw [hgl]; omega))
          have HB := hide (And.intro hs.below hgl)
          clear hs hb1 hn0 hgl
          go_wp2_with (go_at_call 13; refine HAll.out.mono ?_; rintro e w5 ⟨l, pl, cl, rfl, hperm, hpair, hcells, hb5⟩)
          have hll : l.length = n0 := by rw [hperm.length_eq]; exact HB.out.2
          rw [hll] at hcells ⊢
          have HC := hide (And.intro hpair (And.intro hcells hll))
          have HB5 := hide (HB.out.1.trans (hb5.mono HB.out.1.size))
          clear hpair hcells hll hperm hb5 HAll
          go_loopw [14] (fun c14 wx => ∃ j : Nat, (j + 1 ≤ n0 ∨ j = 0) ∧ c14 = .int .i64 ((j : Int) + 1) ∧ Below w5.heap.size w5 wx) (fun c14 _ => n0 - (intOf c14).toNat)
          case atStart => exact ⟨0, .inr rfl, rfl, Below.refl _ _⟩
          case round =>
            obtain ⟨j, hj, rfl, hbx⟩ := hrel
            by_cases hlt : j + 1 < n0
            · obtain ⟨hpair, hcells, hll⟩ := HC.out
              obtain ⟨g, rfl, hgl, hc⟩ := hcells (by omega)
              obtain ⟨x, hx⟩ : ∃ x, l[j + 1]? = some x := ⟨_, List.getElem?_eq_getElem (by omega)⟩
              obtain ⟨y, hy⟩ : ∃ y, l[j]? = some y := ⟨_, List.getElem?_eq_getElem (by omega)⟩
              have hlt2 : ltF y x := by
                have h := (List.pairwise_iff_getElem.1 hpair) j (j + 1) (by omega) (by omega) (by omega)
                rw [List.getElem?_eq_getElem (by omega)] at hx hy
                rw [Option.some.inj hx, Option.some.inj hy] at h
                exact h
              have e0 := (hbx.cell (p := ⟨g, (j + 1) * 4 + 0, none⟩) hgl).trans (hc (j + 1) x hx 0 _ rfl)
              have e1 := (hbx.cell (p := ⟨g, (j + 1) * 4 + 1, none⟩) hgl).trans (hc (j + 1) x hx 1 _ rfl)
              have f0 := (hbx.cell (p := ⟨g, j * 4 + 0, none⟩) hgl).trans (hc j y hy 0 _ rfl)
              have f1 := (hbx.cell (p := ⟨g, j * 4 + 1, none⟩) hgl).trans (hc j y hy 1 _ rfl)
              simp only [Nat.add_zero] at e0 f0
              have hgl2 := Nat.lt_of_lt_of_le hgl hbx.size
              obtain ⟨x0, x1, x2, x3⟩ := x
              obtain ⟨y0, y1, y2, y3⟩ := y
              dsimp only at e0 e1 f0 f1
              have hlt' : (j : Int) + 1 < n0 := by omega
              have hj0 : (0 : Int) ≤ (j : Int) := by omega
              have HBX := hide hbx
              clear hbx hc hx hy hpair hcells hgl
              go_upto_region 29 with fail
              unfold ltF at hlt2
              dsimp only at hlt2
              rcases hlt2 with h | ⟨rfl, h⟩
              · have g0 : ¬ x0 < y0 := by omega
                have g1 : (x0 == y0) = false := by simp; omega
                have g2 : ¬ x0 = y0 := by omega
                refine wp_region_later (by kernel_rfl) (by kernel_rfl) ?_
                repeat (first
                  | go_big_quiet_step (fail)
                  | quiet_step (fail))
                refine wpQuiet_nil ?_
                rintro w2 ⟨⟨wz, hbz⟩, hwz⟩
                have hb3 : Below wr.heap.size wr w2 := by rw [hwz]; exact hbz
                clear hwz hbz wz
                have HB3 := hide (HBX.out.trans (hb3.mono HBX.out.size))
                clear hb3
                go_wp2
                exact ⟨⟨j + 1, by omega, by go_num, HB3.out⟩, by simp [intOf]; omega⟩
              · have g0 : ¬ y0 < y0 := by omega
                have g1 : ¬ x1 ≤ y1 := by omega
                refine wp_region_later (by kernel_rfl) (by kernel_rfl) ?_
                repeat (first
                  | go_big_quiet_step (fail)
                  | quiet_step (fail))
                refine wpQuiet_nil ?_
                rintro w2 ⟨⟨wz, hbz⟩, hwz⟩
                have hb3 : Below wr.heap.size wr w2 := by rw [hwz]; exact hbz
                clear hwz hbz wz
                have HB3 := hide (HBX.out.trans (hb3.mono HBX.out.size))
                clear hb3
                go_wp2
                exact ⟨⟨j + 1, by omega, by go_num, HB3.out⟩, by simp [intOf]; omega⟩
            · have HBX := hide hbx
              have hge : ¬ ((j : Int) + 1 < n0) := by omega
              clear hbx
              go_wp2_with (go_at_call 9; refine (awake_any _).mono ?_; rintro e w6 ⟨rfl, hb6⟩)
              go_ret
              have h5 := HB5.out.trans (HBX.out.mono HB5.out.size)
              exact ⟨rfl, h5.trans (hb6.mono h5.size)⟩

end Go.Proofs.Ytmgafcbhoamkkaa
