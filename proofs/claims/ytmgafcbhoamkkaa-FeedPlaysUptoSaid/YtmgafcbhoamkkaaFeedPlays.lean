/-
  The walk of the law FeedPlays: whatever the script, the two tables answer alike. No condition.
-/
import Derived.Test.YtmgafcbhoamkkaaFeedSt
import Derived.Test.YtmgafcbhoamkkaaFeedCopyK
import Derived.Deep.DeepCutAuto
import Derived.Deep.CutBlock
import Derived.Deep.RegionHeld3
import Derived.BigRegion
import Derived.BigQuiet
import Derived.LoopTactic
namespace Go.Proofs.Ytmgafcbhoamkkaa
open Go.RowKit Go.ChangeMaps
set_option linter.unusedSimpArgs false

/-- All masks are machine ints. -/
def MaskFit (T : Tv) : Prop := ∀ p c, fits (T p c).1

theorem addK_fits {m k : Int} (h : fits m) : fits (addK m k) := by
  unfold addK
  split
  · exact or64_wf _ _
  · exact h

theorem addKs_fits : ∀ (ks : List Int) (m : Int), fits m → fits (addKs m ks)
  | [], _, h => h
  | k :: ks, m, h => addKs_fits ks (addK m k) (addK_fits h)

theorem MaskFit.put {T : Tv} (h : MaskFit T) {p c : Int} {x : Int × Int × Int} (hx : fits x.1) : MaskFit (putT T p c x) := by
  intro p' c'
  unfold putT
  split
  · exact hx
  · exact h p' c'

theorem MaskFit.add {T : Tv} (h : MaskFit T) (x : F) : MaskFit (addT T x) := by
  intro p' c'
  unfold addT
  split
  · exact or64_wf _ _
  · exact h p' c'

theorem MaskFit.adds : ∀ (fs : List F) (T : Tv), MaskFit T → MaskFit (fs.foldl addT T)
  | [], _, h => h
  | x :: fs, T, h => MaskFit.adds fs (addT T x) (h.add x)

theorem maskFit_nil : MaskFit (tv []) := fun p c => by unfold tv; rfl

theorem tv_nil_nil : tv ([] : List Pl) = tv [] := rfl

theorem szOps_len : ∀ l : List SOp, l.length ≤ szOps l
  | [] => Nat.zero_le _
  | x :: l => by have := szOps_len l; simp only [szOps, List.length_cons]; omega

/-- A box of an operation: its cells. -/
theorem cells6 {w : World} {b : Nat} {x0 x1 x2 x3 x4 x5 : Value} {t : TypeId} (h : w.heap[b]? = some (.cells #[x0, x1, x2, x3, x4, x5] t (0, 0))) : w.cell? ⟨b, 0, none⟩ = some x0 ∧ w.cell? ⟨b, 1, none⟩ = some x1 ∧ w.cell? ⟨b, 2, none⟩ = some x2 ∧ w.cell? ⟨b, 3, none⟩ = some x3 ∧ w.cell? ⟨b, 4, none⟩ = some x4 ∧ w.cell? ⟨b, 5, none⟩ = some x5 ∧ b < w.heap.size :=
  ⟨by simp [World.cell?, h], by simp [World.cell?, h], by simp [World.cell?, h], by simp [World.cell?, h], by simp [World.cell?, h], by simp [World.cell?, h], lt_of_heap h⟩

set_option maxRecDepth 100000 in
set_option maxHeartbeats 20000000 in
theorem plays_any {v : Value} {xs : List SOp} {w : World} (h : OpsR w v xs) : Calls Try.prog 6 #[v] w fun e w' => e = .returned (.bool true) ∧ Below w.heap.size w w' := by
  obtain ⟨p0, c0, rfl, hsz, hops⟩ := h
  obtain ⟨n, hn⟩ : ∃ n, xs.length = n := ⟨_, rfl⟩
  have hn64 : n ≤ 1048576 := by have := szOps_len xs; omega
  have HI := hide (And.intro hn (And.intro hsz hops))
  rw [hn]
  clear hn hsz hops
  go_enter Try.func6, Try.ntmps6
  go_wp2_with (go_at_call 10; fail)
  refine (new_any _).mono ?_
  rintro e w1 ⟨rfl, ha1, hb1⟩
  go_upto_region 5 with fail
  have hS0 : St w (w.heap.size + 1) w.heap.size w1.heap.size (tv []) (tv []) 0 (w1.alloc (.cells #[.slice none 0 0, .slice none 0 0] 44)) :=
    ⟨[], [], .slice none 0 0, .slice none 0 0, ha1.below ((Below.refl _ _).alloc (Nat.le_refl _) _), ⟨heap_alloc_new w1 _, World.ownsRow_nil _ _ _ _, World.ownsRow_nil _ _ _ _, List.Pairwise.nil, fun q hq => nomatch hq⟩, rfl, rfl, Nat.le_refl _, hb1.alloc hb1.size _, fun b hb => by rw [mine_nil] at hb; omega, hb1.size⟩
  refine genF (St w (w.heap.size + 1) w.heap.size w1.heap.size (tv []) (tv []) 0) hS0 ?_
  intro U hS
  clear hS0 ha1 hb1
  generalize w1.heap.size = rb at *
  have HS := hide hS
  clear hS
  go_wp2
  go_loopw [5] (fun c5 wr => ∃ (k : Nat) (T : Tv) (N : Nat), k ≤ n ∧ c5 = .int .i64 k ∧ St w (w.heap.size + 1) w.heap.size rb T T N wr ∧ N ≤ szOps (xs.take k) ∧ MaskFit T) (fun c5 _ => n - (intOf c5).toNat)
  case atStart => exact ⟨0, tv [], 0, Nat.zero_le _, rfl, HS.out, Nat.zero_le _, maskFit_nil⟩
  case round =>
    clear HS
    obtain ⟨k, T, N, hk, rfl, hS, hN, hT⟩ := hrel
    by_cases hlt : k < n
    · obtain ⟨hn, hsz, hops⟩ := HI.out
      obtain ⟨b, o, rfl, hbl, hop⟩ := hops (by omega)
      obtain ⟨x, hx⟩ : ∃ x, xs[k]? = some x := ⟨_, List.getElem?_eq_getElem (by omega)⟩
      obtain ⟨v4, v5, h0, h1, h2, h3, h4, h5, hi, hf, hz, hp, hc⟩ := hop k x hx
      obtain ⟨hz1, hz2⟩ := szOps_take xs k x hx
      obtain ⟨p4, m4, q4, e4⟩ : ∃ p m q, v4 = Value.slice p m q := by obtain ⟨p, q, e, -⟩ := hi; exact ⟨_, _, _, e⟩
      obtain ⟨p5, m5, q5, e5⟩ : ∃ p m q, v5 = Value.slice p m q := by obtain ⟨p, q, e, -⟩ := hf; exact ⟨_, _, _, e⟩
      subst e4 e5
      have hbW := hS.size.2.2.2.2
      have c0 := (hbW.cell (p := ⟨b, o + k * 6, none⟩) hbl).trans h0
      have c1 := (hbW.cell (p := ⟨b, o + k * 6 + 1, none⟩) hbl).trans h1
      have c2 := (hbW.cell (p := ⟨b, o + k * 6 + 2, none⟩) hbl).trans h2
      have c3 := (hbW.cell (p := ⟨b, o + k * 6 + 3, none⟩) hbl).trans h3
      have c4 := (hbW.cell (p := ⟨b, o + k * 6 + 4, none⟩) hbl).trans h4
      have c5 := (hbW.cell (p := ⟨b, o + k * 6 + 5, none⟩) hbl).trans h5
      obtain ⟨xk, xp, xc, xn, ks, fs⟩ := x
      dsimp only at c0 c1 c2 c3 hi hf hp hc hz1
      have hbl' : b < wr.heap.size := Nat.lt_of_lt_of_le hbl hbW.size
      have hlt' : (k : Int) < n := by omega
      have hk0 : (0 : Int) ≤ k := by omega
      have HX := hide (And.intro hS (And.intro hN (And.intro hT (And.intro hi (And.intro hf (And.intro hz (And.intro hz1 (And.intro hz2 hsz))))))))
      have HP := hide (And.intro hp hc)
      clear hS hN hT hi hf hz hp hc hz1 hz2 hsz hops hop h0 h1 h2 h3 h4 h5 hx hbW hn HI
      go_upto_region 9 with fail
      refine genF (fun U => U.heap[wr.heap.size]? = some (.cells #[.int .i64 xk, .int .i64 xp, .int .i64 xc, .int .i64 xn, .slice p4 m4 q4, .slice p5 m5 q5] 46 (0, 0)) ∧ Below wr.heap.size wr U) ⟨heap_alloc_new wr _, (Below.refl _ _).alloc (Nat.le_refl _) _⟩ ?_
      rintro U ⟨hbox, hbU⟩
      have HBX := hide (And.intro hbox (HX.out.1.below hbU))
      obtain ⟨d0, d1, d2, d3, d4, d5, hbxl⟩ := cells6 hbox
      generalize wr.heap.size = bx at *
      clear c0 c1 c2 c3 c4 c5 hbox hbU
      obtain ⟨t1, t2⟩ := tmod_bt xk 5 (by omega)
      go_upto_if 27 with fail
      go_cut [7] from 13 to 114 (fun s7 wx => ∃ kk : Int, s7 = .int .i64 kk ∧ 0 ≤ kk ∧ kk < 5 ∧ wx = U)
      case first =>
        by_cases hneg : xk.tmod 5 < 0
        · go_wp2_with fail
          all_goals go_meet
          exact ⟨-(xk.tmod 5), by go_num, by omega, by omega, rfl⟩
        · go_wp2_with fail
          all_goals go_meet
          exact ⟨xk.tmod 5, by go_num, by omega, by omega, rfl⟩
      case rest =>
        obtain ⟨kk, rfl, hkk, hkk5, rfl⟩ := hcut
        clear t1 t2
        go_upto_block 2 with fail
        go_cut [7] from 13 to 114 (fun s7 wx => ∃ (T' : Tv) (N' : Nat), St w (w.heap.size + 1) w.heap.size rb T' T' N' wx ∧ N' ≤ szOps (xs.take (k + 1)) ∧ MaskFit T' ∧ wx.heap[bx]? = some (.cells #[.int .i64 xk, .int .i64 xp, .int .i64 xc, .int .i64 xn, .slice p4 m4 q4, .slice p5 m5 q5] 46 (0, 0)))
        case first =>
          obtain ⟨hbox, hS⟩ := HBX.out
          obtain ⟨-, hN, hT, hi, hf, hz, hz1, hz2, hsz⟩ := HX.out
          obtain ⟨hp, hc⟩ := HP.out
          have hN4 : N ≤ 4000000000000 := by omega
          have hbV := hS.size.2.2.2.2
          have hiw := hi.below hbV
          have hfw := hf.below hbV
          have HB := hide (And.intro hbox (And.intro hS (And.intro hN4 (And.intro hiw (And.intro hfw hbV)))))
          have HZ := hide (And.intro hN (And.intro hT (And.intro hi (And.intro hf (And.intro hz (And.intro hz1 (And.intro hz2 hsz)))))))
          clear hbox hS hN hT hi hf hz hz1 hz2 hsz hp hc hN4 hbV hiw hfw HBX HX hlt' hlt
          rcases (show kk = 0 ∨ kk = 1 ∨ kk = 2 ∨ kk = 3 ∨ kk = 4 by omega) with rfl | rfl | rfl | rfl | rfl
          · go_upto_region 14 with fail
            have HD := hide (And.intro (HB.out.2.1.below ((Below.refl wc.heap.size wc).drew)) (And.intro (show wc.drew.heap[bx]? = _ from HB.out.1) (HB.out.2.2.2.1.below ((Below.refl wc.heap.size wc).drew))))
            go_region_law (first
              | (refine step_copyK rfl rfl (.tmp 39) rfl (by simp [Act.eval, Act.put]) HD.out.2.2 HZ.out.2.2.2.2.1 ?_; intro v' w3 hk3 hb3; obtain ⟨f0, f1, f2, f3, f4, f5, hbl3⟩ := cells6 (Keep.of_below hb3 _ _ HD.out.2.1))
              | (go_simp; go_at_call 11; refine (HD.out.1.see hb3 hk3 HP.out.1 HP.out.2).mono ?_; rintro e w4 ⟨rfl, hS4, hK4⟩))
            all_goals (
              obtain ⟨f0, f1, f2, f3, f4, f5, hbl4⟩ := cells6 (hK4 _ _ HD.out.2.1)
              have H4 := hide (And.intro hS4 (hK4 _ _ HD.out.2.1))
              clear hS4 hK4 d0 d1 d2 d3 d4 d5 hk3 hb3
              go_wp2_with (go_at_call 16; fail)
              refine (H4.out.1.rSee HB.out.2.2.1 (ks := ks) ?_ HP.out.1 HP.out.2).mono ?_
              · have hb4 := H4.out.1.size.2.2.2.2
                obtain ⟨pv, cv, e1, e2, e3⟩ := HZ.out.2.2.1
                refine ⟨pv, cv, e1, e2, fun h0 => ?_⟩
                obtain ⟨b', o', g1, g2, g3⟩ := e3 h0
                exact ⟨b', o', g1, g2, Nat.lt_of_lt_of_le g2 hb4.size, fun j hj => (hb4.cell (p := ⟨b', o' + j, none⟩) g2).trans (g3 j hj)⟩
              rintro e w5 ⟨rfl, hS5, hK5⟩
              have H5 := hide (And.intro hS5 hK5)
              clear hS5 hK5 f0 f1 f2 f3 f4 f5
              go_wp2_with fail
              all_goals go_meet
              exact ⟨_, _, H5.out.1, by have := HZ.out.1; have := HZ.out.2.2.2.2.2.1; omega, HZ.out.2.1.put (addKs_fits ks _ (HZ.out.2.1 _ _)), H5.out.2 _ _ H4.out.2⟩)
          · go_upto_region 17 with fail
            go_wp2_with (go_at_call 17; fail)
            refine (HB.out.2.1.call HP.out.1 HP.out.2).mono ?_
            rintro e w4 ⟨rfl, hS4, hK4⟩
            obtain ⟨f0, f1, f2, f3, f4, f5, hbl4⟩ := cells6 (hK4 _ _ HB.out.1)
            have H4 := hide (And.intro hS4 hK4)
            clear hS4 hK4 d0 d1 d2 d3 d4 d5
            go_wp2_with (go_at_call 18; fail)
            refine (H4.out.1.rCall HB.out.2.2.1 HP.out.1 HP.out.2 (HZ.out.2.1 _ _)).mono ?_
            rintro e w5 ⟨rfl, hS5, hK5⟩
            have H5 := hide (And.intro hS5 hK5)
            clear hS5 hK5 f0 f1 f2 f3 f4 f5
            go_wp2_with fail
            all_goals go_meet
            exact ⟨_, _, H5.out.1, by have := HZ.out.1; have := HZ.out.2.2.2.2.2.1; omega, HZ.out.2.1.put (HZ.out.2.1 _ _), H5.out.2 _ _ (H4.out.2 _ _ HB.out.1)⟩
          · go_upto_region 20 with fail
            have HC := hide (And.intro (HB.out.2.1.below ((Below.refl wc.heap.size wc).drew)) (show wc.drew.heap[bx]? = _ from HB.out.1))
            have HD := HC
            obtain ⟨d0, d1, d2, d3, d4, d5, hbl3⟩ := cells6 HC.out.2
            go_region_held3 (fun w' => w'.cell? ⟨bx, 1, none⟩ = some (.int .i64 xp) ∧ w'.cell? ⟨bx, 2, none⟩ = some (.int .i64 xc)) (first | exact ⟨f1, f2⟩ | exact ⟨d1, d2⟩) (first
              | (go_at_call 19; refine (HC.out.1.enter HP.out.1 HP.out.2).mono ?_; rintro e w4 ⟨rfl, hS4, hK4⟩; obtain ⟨f0, f1, f2, f3, f4, f5, hbl4⟩ := cells6 (hK4 _ _ HC.out.2); have HC := hide (And.intro hS4 (hK4 _ _ HC.out.2)); clear hS4 hK4)
              | (go_at_call 20; refine (HC.out.1.rEnter HB.out.2.2.1 HP.out.1 HP.out.2).mono ?_; rintro e w4 ⟨rfl, hS4, hK4⟩; obtain ⟨f0, f1, f2, f3, f4, f5, hbl4⟩ := cells6 (hK4 _ _ HC.out.2); have HC := hide (And.intro hS4 (hK4 _ _ HC.out.2)); clear hS4 hK4))
            all_goals (
              go_wp2_with fail
              all_goals go_meet
              exact ⟨_, _, HC.out.1, by have := HZ.out.1; have := HZ.out.2.2.2.2.2.1; omega, HZ.out.2.1.put (HZ.out.2.1 _ _), HC.out.2⟩)
          · go_upto_region 23 with fail
            go_wp2_with (at_builtin; refine wpList_copy _ rfl _ rfl rfl HB.out.2.2.2.2.1 ?_; intro v3 w3 hf3 hb3)
            have hsz3 := hb3.size
            refine (HB.out.2.1.add hb3 hf3).mono ?_
            rintro e w4 ⟨rfl, hS4, hK4⟩
            obtain ⟨f0, f1, f2, f3, f4, f5, hbl4⟩ := cells6 (hK4 _ _ HB.out.1)
            have H4 := hide (And.intro hS4 hK4)
            clear hS4 hK4 d0 d1 d2 d3 d4 d5 hf3 hb3
            go_wp2_with (go_at_call 21; fail)
            refine (H4.out.1.rAdd (fs := fs) (by have := HZ.out.1; have := HZ.out.2.2.2.2.2; omega) ?_).mono ?_
            · have hb4 := H4.out.1.size.2.2.2.2
              exact HZ.out.2.2.2.1.kept fun b' _ hl => ⟨hl, Nat.lt_of_lt_of_le hl hb4.size, hb4.block b' hl⟩
            rintro e w5 ⟨rfl, hS5, hK5⟩
            have H5 := hide (And.intro hS5 hK5)
            clear hS5 hK5 f0 f1 f2 f3 f4 f5
            go_wp2_with fail
            all_goals go_meet
            exact ⟨_, _, H5.out.1, by have := HZ.out.1; have := HZ.out.2.2.2.2.2.1; omega, HZ.out.2.1.adds fs _, H5.out.2 _ _ (H4.out.2 _ _ HB.out.1)⟩
          · go_wp2_with fail
            all_goals go_meet
            exact ⟨_, _, HB.out.2.1, by have := HZ.out.1; have := HZ.out.2.2.2.2.2.1; omega, HZ.out.2.1, HB.out.1⟩
        case rest =>
          obtain ⟨T', N', hS', hN', hT', hbox'⟩ := hcut
          have hN4 : N' ≤ 4000000000000 := by have := HX.out.2.2.2.2.2.2.2; omega
          have HN := hide (And.intro hN' (And.intro hT' hN4))
          obtain ⟨f0, f1, f2, f3, f4, f5, hbl4⟩ := cells6 hbox'
          have HB := hide (And.intro hS' hbox')
          clear hS' hN' hT' hbox' hN4 HX HBX d0 d1 d2 d3 d4 d5 hbxl hkk hkk5
          go_upto_region 25 with fail
          have HC := hide (And.intro (HB.out.1.below ((Below.refl wc.heap.size wc).drew)) (show wc.drew.heap[bx]? = _ from HB.out.2))
          obtain ⟨d0, d1, d2, d3, d4, d5, hbl3⟩ := cells6 HC.out.2
          go_region_held3 (fun w' => w'.cell? ⟨bx, 1, none⟩ = some (.int .i64 xp) ∧ w'.cell? ⟨bx, 2, none⟩ = some (.int .i64 xc)) (first | exact ⟨f1, f2⟩ | exact ⟨d1, d2⟩) (first
            | (go_at_call 12; refine (HC.out.1.at HP.out.1 HP.out.2).mono ?_; rintro e w4 ⟨rfl, hS4, hK4⟩; obtain ⟨f0, f1, f2, f3, f4, f5, hbl4⟩ := cells6 (hK4 _ _ HC.out.2); have HC := hide (And.intro hS4 (hK4 _ _ HC.out.2)); clear hS4 hK4)
            | (go_at_call 22; refine (HC.out.1.rAt HN.out.2.2).mono ?_; rintro e w4 ⟨rfl, hS4, hK4⟩; obtain ⟨f0, f1, f2, f3, f4, f5, hbl4⟩ := cells6 (hK4 _ _ HC.out.2); have HC := hide (And.intro hS4 (hK4 _ _ HC.out.2)); clear hS4 hK4)
            | (go_at_call 13; refine (HC.out.1.all HN.out.2.2).mono ?_; rintro e w4 ⟨va, la, rfl, hfa, hia, hS4, hb4⟩; have HA := hide (And.intro hfa hia); (try have HA2 := hide (And.intro (HA2.out.1.below hb4) HA2.out.2)); obtain ⟨f0, f1, f2, f3, f4, f5, hbl4⟩ := cells6 (Keep.of_below hb4 _ _ HC.out.2); have HC := hide (And.intro hS4 (Keep.of_below hb4 _ _ HC.out.2)); clear hS4 hb4 hfa hia)
            | (go_at_call 23; refine (HC.out.1.rAll HN.out.2.2).mono ?_; rintro e w4 ⟨vb, lb, rfl, hfb, hib, hS4, hb4⟩; have HA2 := hide (And.intro hfb hib); (try have HA := hide (And.intro (HA.out.1.below hb4) HA.out.2)); obtain ⟨f0, f1, f2, f3, f4, f5, hbl4⟩ := cells6 (Keep.of_below hb4 _ _ HC.out.2); have HC := hide (And.intro hS4 (Keep.of_below hb4 _ _ HC.out.2)); clear hS4 hb4 hfb hib)
            | (go_at_call 15; obtain rfl := HA.out.2.same HA2.out.2; refine (same_any _ _ HA.out.1 HA2.out.1).mono ?_; rintro e w4 ⟨rfl, hb4⟩; obtain ⟨f0, f1, f2, f3, f4, f5, hbl4⟩ := cells6 (Keep.of_below hb4 _ _ HC.out.2); have HC := hide (And.intro (HC.out.1.below hb4) (Keep.of_below hb4 _ _ HC.out.2)); clear hb4))
          all_goals (
            go_wp2
            exact ⟨⟨k + 1, T', N', by omega, by go_num, HC.out.1, HN.out.1, HN.out.2.1⟩, by simp [intOf]; omega⟩)
    · have : k = n := by omega
      subst this
      have HB := hide hS.size.2.2.2.2
      clear hS hN hT
      go_wp2_with (go_at_call 9; fail)
      refine (awake_any _).mono ?_
      rintro e w8 ⟨rfl, hb8⟩
      have HB8 := hide (HB.out.trans (hb8.mono HB.out.size))
      clear hb8
      go_wp2
      go_ret
      exact ⟨rfl, HB8.out⟩

end Go.Proofs.Ytmgafcbhoamkkaa
