/-
  The walks of call.equal by eqv, of memv and assv, over small numbers.
-/
import Derived.Test.YtafignheedbnbaaGreatDoorPhL
import Derived.Test.YtafignheedbnbaaGreatDoorPeAll
namespace Go.Proofs.YtafignheedbnbaaGreatDoor
open Go.RowKit Go.BigFrame
set_option linter.unusedSimpArgs false
set_option linter.unusedVariables false

section
variable {w w' : World} {S : Sto} {M M' : Nat → Prop} {h h' : List Ob} {sy sy' : List (ByteArray × Nat)} {cb : Nat} {nm : ByteArray} {A : Option Addr} {c : Nat} {xs : List Nat}

set_option maxHeartbeats 1000000 in
theorem equal_v (k : PAt w S M h sy cb nm A c xs) (a b : Nat) (ha : a < 12) (hb : b < 12) :
    Calls Tryz.prog 187 #[.pointer (some ⟨cb, 0, none⟩), .string ⟨#[118]⟩, .int .u64 (4 * a + 1 : Nat), .int .u64 (4 * b + 1 : Nat)] w fun e w' => e = .returned (.bool (decide (a = b))) ∧ Below w.heap.size w w' := by
  have HE := hide (eqv_small (some ⟨S.sb, 0, none⟩) a b ha hb w)
  obtain ⟨p0, -, -, -⟩ := k.cells
  generalize decide (a = b) = r at *
  generalize 4 * a + 1 = x at *
  generalize 4 * b + 1 = y at *
  clear k
  go_enter Tryz.func187, Tryz.ntmps187
  go_wp2_with (go_at_call 177; fail)
  refine HE.out.mono ?_
  rintro e w1 ⟨rfl, hb1⟩
  have H1 := hide hb1
  clear hb1
  go_wp2
  go_ret
  exact ⟨rfl, H1.out⟩

/-- What is found: the first place where q stands, or none. -/
def Found (q : Nat) (zs : List Nat) (at_ : Nat → Nat) (r : Nat) : Prop := (∃ f : Nat, zs[f]? = some q ∧ (∀ j : Nat, j < f → zs[j]? ≠ some q) ∧ r = at_ f) ∨ ((∀ j : Nat, zs[j]? ≠ some q) ∧ r = 2)
theorem Found.hit {q : Nat} {zs : List Nat} {at_ : Nat → Nat} {r k : Nat} (h : Found q zs at_ r) (hk : zs[k]? = some q) (hno : ∀ j : Nat, j < k → zs[j]? ≠ some q) : r = at_ k := by
  rcases h with ⟨f, h1, h2, h3⟩ | ⟨h1, -⟩
  · have : f = k := by
      rcases Nat.lt_trichotomy f k with h | h | h
      · exact absurd h1 (hno f h)
      · exact h
      · exact absurd hk (h2 k h)
    subst this; exact h3
  · exact absurd hk (h1 k)
theorem Found.miss {q : Nat} {zs : List Nat} {at_ : Nat → Nat} {r : Nat} (h : Found q zs at_ r) (hno : ∀ j : Nat, j < zs.length → zs[j]? ≠ some q) : r = 2 := by
  rcases h with ⟨f, h1, -⟩ | ⟨-, h2⟩
  · exact absurd h1 (hno f (List.getElem?_eq_some_iff.1 h1).1)
  · exact h2

set_option maxRecDepth 100000 in
set_option maxHeartbeats 4000000 in
theorem memv_any (k : PAt w S M h sy cb nm A c xs) (htp : Lib.trimPrefix nm.data.toList [109, 101, 109] = [118]) {ws zs : List Nat} (hl : Lst h ws (zs.map fun z => 4 * z + 1) 10) (hz : ∀ z ∈ zs, z < 12) (hu : zs.length ≤ used h) {q : Nat} (hq : q < 12) (hx : xs = [4 * q + 1, hd ws 10]) {r : Nat} (hr : Found q zs (fun f => hd (ws.drop f) 10) r) :
    Calls Tryz.prog 145 #[.pointer (some ⟨cb, 0, none⟩)] w (Grew S M w h sy (.int .u64 r)) := by
  obtain ⟨v1, v2, hh, -⟩ := k.st.hp
  have hus : used h ≤ 16777216 := Nat.le_trans hh.room hh.small
  have HUs := hide (fun w1 (hb : Below w.heap.size w w1) => used_any (hh.below hb))
  have HGet := hide (fun w1 (hb : Below w.heap.size w w1) (m : Nat) (o : Ob) (hm : h[m]? = some o) (i x : Nat) (hx : o.ts[i]? = some x) => get_at (hh.below hb) hm hx)
  have HEq := hide (fun w1 (hb : Below w.heap.size w w1) (z : Nat) (hz : z < 12) => equal_v (k.below hb) q z hq hz)
  have HTP := hide (fun u => strings_TrimPrefix nm ⟨#[109, 101, 109]⟩ u)
  rw [show (⟨#[109, 101, 109]⟩ : ByteArray).data.toList = [109, 101, 109] from rfl, htp, show ([118] : List UInt8).toArray = #[118] from rfl] at HTP
  have HX := hide (show xs[1]? = some (hd ws 10) by rw [hx]; rfl)
  have HX0 := hide (show xs[0]? = some (4 * q + 1) by rw [hx]; rfl)
  have HL := hide (show xs.length = 2 by rw [hx]; rfl)
  have HP := hide (And.intro k (And.intro hl (And.intro hz (And.intro hr (by have := hl.len; simpa using this : ws.length = zs.length)))))
  obtain ⟨n, hN⟩ : ∃ n, zs.length = n := ⟨_, rfl⟩
  obtain ⟨us, hU⟩ : ∃ us, used h = us := ⟨_, rfl⟩
  have HN := hide (And.intro hN hU)
  obtain ⟨key, hkey⟩ : ∃ key, 4 * q + 1 = key := ⟨_, rfl⟩
  obtain ⟨lw, hlw⟩ : ∃ lw, hd ws 10 = lw := ⟨_, rfl⟩
  rw [hkey] at HX0 HEq
  rw [hlw] at HX
  have HLW := hide hlw
  rw [hN, hU] at hu
  rw [hU] at HUs hus
  obtain ⟨p0, -, p2, -⟩ := k.cells
  obtain ⟨L, rfl, hcell, hjl⟩ := k.arg HX.out
  rw [HL.out] at p2
  clear k hh hl hN hU hx hz hr hq htp hkey hlw hjl
  go_enter Tryz.func145, Tryz.ntmps145
  go_wp2
  go_loopw [3, 4] (fun p i wr => ∃ k : Nat, k ≤ n ∧ p = .int .u64 (hd (ws.drop k) 10 : Nat) ∧ i = .int .i64 k ∧ (∀ j, j < k → zs[j]? ≠ some q) ∧ Below w.heap.size w wr) (fun _ i _ => n - (intOf i).toNat)
  case atStart => exact ⟨0, Nat.zero_le _, by rw [List.drop_zero, HLW.out], rfl, fun j hj => by omega, Below.refl _ _⟩
  case round =>
    obtain ⟨k, hk, rfl, rfl, hno, hb⟩ := hrel
    clear p0 p2 hcell
    by_cases hlt : k < n
    · obtain ⟨z, hz⟩ : ∃ z, zs[k]? = some z := ⟨_, List.getElem?_eq_getElem (by have := HN.out.1; omega)⟩
      have hy : (zs.map fun z => 4 * z + 1)[k]? = some (4 * z + 1) := by rw [List.getElem?_map, hz]; rfl
      obtain ⟨m, hm, hw1, -⟩ := HP.out.2.1.at_ hy
      rw [hw1]
      have HY := hide (pair_yes (HP.out.1.below hb) hm)
      have hz12 := HP.out.2.2.1 z (List.mem_of_getElem? hz)
      have HM := hide (And.intro hm (And.intro hz (And.intro hno (And.intro hb (And.intro hz12 hw1)))))
      obtain ⟨p0, -, -, p3⟩ := (HP.out.1.below hb).cells
      obtain ⟨qq, hqq⟩ : ∃ qq, start h m = qq := ⟨_, rfl⟩
      have HQ := hide hqq
      rw [hqq] at HY ⊢
      have hkn : (k : Int) ≤ us := by omega
      obtain ⟨y, hyy⟩ : ∃ y, 4 * z + 1 = y := ⟨_, rfl⟩
      have HYY := hide hyy
      clear hm hy hz hz12 hno hb hw1 hqq p0 p3 hyy
      go_wp2_with (go_at_call 192; fail)
      refine HY.out.mono ?_
      rintro e w1 ⟨rfl, hb1⟩
      have hbw1 := HM.out.2.2.2.1.trans (hb1.mono HM.out.2.2.2.1.size)
      have H1 := hide hbw1
      obtain ⟨p0, -, -, p3⟩ := (HP.out.1.below hbw1).cells
      clear hb1 hbw1
      go_wp2_with (go_at_call 35; fail)
      refine (HUs.out w1 H1.out).mono ?_
      rintro e w2 ⟨rfl, hb2⟩
      have hbw2 := H1.out.trans (hb2.mono H1.out.size)
      have H2 := hide hbw2
      clear p0 p3
      obtain ⟨p0, -, -, p3⟩ := (HP.out.1.below hbw2).cells
      have hG0 := HGet.out w2 hbw2 m _ HM.out.1 0 (4 * z + 1) rfl
      rw [HQ.out, HYY.out] at hG0
      have HG0 := hide hG0
      clear hb2 hbw2 hG0
      go_wp2_with (go_at_call 105; fail)
      refine HG0.out.mono ?_
      rintro e w3 ⟨rfl, hb3⟩
      have hbd : Below w.heap.size w w3.drew := (H2.out.trans (hb3.mono H2.out.size)).drew
      have hk3 := HP.out.1.below hbd
      have hE3 := HEq.out w3.drew hbd z HM.out.2.2.2.2.1
      rw [HYY.out] at hE3
      have HE3 := hide hE3
      have HT3 := hide (HTP.out w3.drew)
      have H3 := hide hbd
      go_upto_region 6 with fail
      refine wp_region_still_tail 13 (by kernel_rfl) (by kernel_rfl) ?_
      simp only [List.take_succ_cons, List.take_zero, List.drop_succ_cons, List.drop_zero]
      change wpStill _ _ w3.drew (fun a' => wpList _ _ _ _ a' w3.drew) _ _
      clear hb3 hbd hE3 p0 p3
      generalize w3.drew = V at *
      obtain ⟨p0, p1, p2, p3⟩ := hk3.cells
      obtain ⟨L3, hL3, hcell, hjl3⟩ := hk3.arg HX0.out
      cases hL3
      rw [HL.out] at p2
      clear hjl3 hk3 p3
      repeat still_step
      still_call HT3.out
      repeat still_step
      refine wpStill_nil ?_
      go_wp2_with (go_at_call 187; fail)
      refine HE3.out.mono ?_
      rintro e w4 ⟨rfl, hb4⟩
      have hbw4 := H3.out.trans (hb4.mono H3.out.size)
      have H4 := hide hbw4
      clear p0 p1 p2 hcell hb4
      obtain ⟨p0, -, -, p3⟩ := (HP.out.1.below hbw4).cells
      obtain ⟨-, -, -, -, d4, -, -⟩ := (HP.out.1.below hbw4).call.cells
      have hG1 := HGet.out w4 hbw4 m _ HM.out.1 1 (hd (ws.drop (k + 1)) 10) rfl
      rw [HQ.out] at hG1
      have HG1 := hide hG1
      obtain ⟨nx, hnx⟩ : ∃ nx, hd (ws.drop (k + 1)) 10 = nx := ⟨_, rfl⟩
      rw [hnx] at HG1
      have HNX := hide hnx
      clear hbw4 hG1 hnx
      by_cases hqz : q = z
      · rw [decide_eq_true hqz]
        have HR := hide (HP.out.2.2.2.1.hit (hqz ▸ HM.out.2.1) HM.out.2.2.1)
        clear hqz
        go_wp2
        go_ret
        refine ⟨?_, M, HP.out.1.st.below H4.out, Step.of_below M H4.out⟩
        rw [HR.out, HM.out.2.2.2.2.2, HQ.out]
        rfl
      · rw [decide_eq_false hqz]
        have HQZ := hide hqz
        clear hqz
        go_wp2_with (go_at_call 105; fail)
        refine HG1.out.mono ?_
        rintro e w5 ⟨rfl, hb5⟩
        have H5 := hide (H4.out.trans (hb5.mono H4.out.size))
        clear hb5 p0 p3 d4
        go_wp2
        refine ⟨⟨k + 1, by omega, by rw [HNX.out], by go_num, fun j hj => ?_, H5.out⟩, by simp [intOf]; omega⟩
        by_cases e : j = k
        · subst e; rw [HM.out.2.1]; exact fun e => HQZ.out (Option.some.inj e).symm
        · exact HM.out.2.2.1 j (by omega)
    · obtain rfl : k = n := by omega
      have hdr : hd (ws.drop k) 10 = 10 := hd_all ws 10 k (by have := HP.out.2.2.2.2; have := HN.out.1; omega)
      rw [hdr]
      have HY := hide (pair_no (HP.out.1.below hb) (p := 10) (by decide) (by rw [headOf_imm (by decide)]; decide))
      have HM := hide (And.intro hno hb)
      have HR := hide (HP.out.2.2.2.1.miss fun j hj => hno j (by have := HN.out.1; omega))
      clear hno hb hdr
      go_wp2_with (go_at_call 192; fail)
      refine HY.out.mono ?_
      rintro e w1 ⟨rfl, hb1⟩
      have H1 := hide (HM.out.2.trans (hb1.mono HM.out.2.size))
      clear hb1
      go_wp2
      go_ret
      refine ⟨?_, M, HP.out.1.st.below H1.out, Step.of_below M H1.out⟩
      rw [HR.out]
      rfl

set_option maxRecDepth 100000 in
set_option maxHeartbeats 4000000 in
theorem assv_any (k : PAt w S M h sy cb nm A c xs) (htp : Lib.trimPrefix nm.data.toList [97, 115, 115] = [118]) {ws ps zs : List Nat} (hl : Lst h ws ps 10) (hps : ∀ (j z : Nat), zs[j]? = some z → ∃ m v, h[m]? = some (pairO (4 * z + 1) v) ∧ ps[j]? = some (4 * start h m)) (hpl : ps.length = zs.length) (hz : ∀ z ∈ zs, z < 12) (hu : zs.length ≤ used h) {q : Nat} (hq : q < 12) (hx : xs = [4 * q + 1, hd ws 10]) {r : Nat} (hr : Found q zs (fun f => ps.getD f 0) r) :
    Calls Tryz.prog 146 #[.pointer (some ⟨cb, 0, none⟩)] w (Grew S M w h sy (.int .u64 r)) := by
  obtain ⟨v1, v2, hh, -⟩ := k.st.hp
  have hus : used h ≤ 16777216 := Nat.le_trans hh.room hh.small
  have HUs := hide (fun w1 (hb : Below w.heap.size w w1) => used_any (hh.below hb))
  have HGet := hide (fun w1 (hb : Below w.heap.size w w1) (m : Nat) (o : Ob) (hm : h[m]? = some o) (i x : Nat) (hx : o.ts[i]? = some x) => get_at (hh.below hb) hm hx)
  have HEq := hide (fun w1 (hb : Below w.heap.size w w1) (z : Nat) (hz : z < 12) => equal_v (k.below hb) q z hq hz)
  have HTP := hide (fun u => strings_TrimPrefix nm ⟨#[97, 115, 115]⟩ u)
  rw [show (⟨#[97, 115, 115]⟩ : ByteArray).data.toList = [97, 115, 115] from rfl, htp, show ([118] : List UInt8).toArray = #[118] from rfl] at HTP
  have HX := hide (show xs[1]? = some (hd ws 10) by rw [hx]; rfl)
  have HX0 := hide (show xs[0]? = some (4 * q + 1) by rw [hx]; rfl)
  have HL := hide (show xs.length = 2 by rw [hx]; rfl)
  have HP := hide (And.intro k (And.intro hl (And.intro hz (And.intro hr (by have := hl.len; omega : ws.length = zs.length)))))
  have HPS := hide hps
  obtain ⟨n, hN⟩ : ∃ n, zs.length = n := ⟨_, rfl⟩
  obtain ⟨us, hU⟩ : ∃ us, used h = us := ⟨_, rfl⟩
  have HN := hide (And.intro hN hU)
  obtain ⟨key, hkey⟩ : ∃ key, 4 * q + 1 = key := ⟨_, rfl⟩
  obtain ⟨lw, hlw⟩ : ∃ lw, hd ws 10 = lw := ⟨_, rfl⟩
  rw [hkey] at HX0 HEq
  rw [hlw] at HX
  have HLW := hide hlw
  rw [hN, hU] at hu
  rw [hU] at HUs hus
  obtain ⟨p0, -, p2, -⟩ := k.cells
  obtain ⟨L, rfl, hcell, hjl⟩ := k.arg HX.out
  rw [HL.out] at p2
  clear k hh hl hN hU hx hz hr hq htp hkey hlw hjl hps hpl
  go_enter Tryz.func146, Tryz.ntmps146
  go_wp2
  go_loopw [3, 4] (fun p i wr => ∃ k : Nat, k ≤ n ∧ p = .int .u64 (hd (ws.drop k) 10 : Nat) ∧ i = .int .i64 k ∧ (∀ j, j < k → zs[j]? ≠ some q) ∧ Below w.heap.size w wr) (fun _ i _ => n - (intOf i).toNat)
  case atStart => exact ⟨0, Nat.zero_le _, by rw [List.drop_zero, HLW.out], rfl, fun j hj => by omega, Below.refl _ _⟩
  case round =>
    obtain ⟨k, hk, rfl, rfl, hno, hb⟩ := hrel
    clear p0 p2 hcell
    by_cases hlt : k < n
    · obtain ⟨z, hz⟩ : ∃ z, zs[k]? = some z := ⟨_, List.getElem?_eq_getElem (by have := HN.out.1; omega)⟩
      obtain ⟨m2, v2, hm2, hy⟩ := HPS.out k z hz
      obtain ⟨m, hm, hw1, -⟩ := HP.out.2.1.at_ hy
      rw [hw1]
      have HY := hide (pair_yes (HP.out.1.below hb) hm)
      have hz12 := HP.out.2.2.1 z (List.mem_of_getElem? hz)
      have HM := hide (And.intro hm (And.intro hz (And.intro hno (And.intro hb (And.intro hz12 hw1)))))
      have HM2 := hide (And.intro hm2 hy)
      obtain ⟨xp, hxp⟩ : ∃ xp, 4 * start h m2 = xp := ⟨_, rfl⟩
      have HXP := hide hxp
      obtain ⟨p0, -, -, p3⟩ := (HP.out.1.below hb).cells
      obtain ⟨qq, hqq⟩ : ∃ qq, start h m = qq := ⟨_, rfl⟩
      have HQ := hide hqq
      rw [hqq] at HY ⊢
      have hkn : (k : Int) ≤ us := by omega
      obtain ⟨y, hyy⟩ : ∃ y, 4 * z + 1 = y := ⟨_, rfl⟩
      have HYY := hide hyy
      clear hm hy hz hz12 hno hb hw1 hqq p0 p3 hyy hm2 hxp
      go_wp2_with (go_at_call 192; fail)
      refine HY.out.mono ?_
      rintro e w1 ⟨rfl, hb1⟩
      have hbw1 := HM.out.2.2.2.1.trans (hb1.mono HM.out.2.2.2.1.size)
      have H1 := hide hbw1
      obtain ⟨p0, -, -, p3⟩ := (HP.out.1.below hbw1).cells
      clear hb1 hbw1
      go_wp2_with (go_at_call 35; fail)
      refine (HUs.out w1 H1.out).mono ?_
      rintro e w2 ⟨rfl, hb2⟩
      have hbw2 := H1.out.trans (hb2.mono H1.out.size)
      have H2 := hide hbw2
      clear p0 p3
      obtain ⟨p0, -, -, p3⟩ := (HP.out.1.below hbw2).cells
      have hG0 := HGet.out w2 hbw2 m _ HM.out.1 0 (4 * start h m2) rfl
      rw [HQ.out, HXP.out] at hG0
      have HG0 := hide hG0
      clear hb2 hbw2 hG0
      go_wp2_with (go_at_call 105; fail)
      refine HG0.out.mono ?_
      rintro e w21 ⟨rfl, hb21⟩
      have hbw21 := H2.out.trans (hb21.mono H2.out.size)
      have H21 := hide hbw21
      have hY2 := pair_yes (HP.out.1.below hbw21) HM2.out.1
      rw [HXP.out] at hY2
      have HY2 := hide hY2
      clear hb21 hbw21 p0 p3 hY2
      go_wp2_with (go_at_call 192; fail)
      refine HY2.out.mono ?_
      rintro e w22 ⟨rfl, hb22⟩
      have hbw22 := H21.out.trans (hb22.mono H21.out.size)
      have H22 := hide hbw22
      obtain ⟨p0, -, -, p3⟩ := (HP.out.1.below hbw22).cells
      have hG2 := HGet.out w22 hbw22 m2 _ HM2.out.1 0 (4 * z + 1) rfl
      rw [HXP.out, HYY.out] at hG2
      have HG2 := hide hG2
      clear hb22 hbw22 hG2
      go_wp2_with (go_at_call 105; fail)
      refine HG2.out.mono ?_
      rintro e w3 ⟨rfl, hb3⟩
      have hbd : Below w.heap.size w w3.drew := (H22.out.trans (hb3.mono H22.out.size)).drew
      have hk3 := HP.out.1.below hbd
      have hE3 := HEq.out w3.drew hbd z HM.out.2.2.2.2.1
      rw [HYY.out] at hE3
      have HE3 := hide hE3
      have HT3 := hide (HTP.out w3.drew)
      have H3 := hide hbd
      go_upto_region 9 with fail
      refine wp_region_still_tail 13 (by kernel_rfl) (by kernel_rfl) ?_
      simp only [List.take_succ_cons, List.take_zero, List.drop_succ_cons, List.drop_zero]
      change wpStill _ _ w3.drew (fun a' => wpList _ _ _ _ a' w3.drew) _ _
      clear hb3 hbd hE3 p0 p3
      generalize w3.drew = V at *
      obtain ⟨p0, p1, p2, p3⟩ := hk3.cells
      obtain ⟨L3, hL3, hcell, hjl3⟩ := hk3.arg HX0.out
      cases hL3
      rw [HL.out] at p2
      clear hjl3 hk3 p3
      repeat still_step
      still_call HT3.out
      repeat still_step
      refine wpStill_nil ?_
      go_wp2_with (go_at_call 187; fail)
      refine HE3.out.mono ?_
      rintro e w4 ⟨rfl, hb4⟩
      have hbw4 := H3.out.trans (hb4.mono H3.out.size)
      have H4 := hide hbw4
      clear p0 p1 p2 hcell hb4
      obtain ⟨p0, -, -, p3⟩ := (HP.out.1.below hbw4).cells
      obtain ⟨-, -, -, -, d4, -, -⟩ := (HP.out.1.below hbw4).call.cells
      have hG1 := HGet.out w4 hbw4 m _ HM.out.1 1 (hd (ws.drop (k + 1)) 10) rfl
      rw [HQ.out] at hG1
      have HG1 := hide hG1
      obtain ⟨nx, hnx⟩ : ∃ nx, hd (ws.drop (k + 1)) 10 = nx := ⟨_, rfl⟩
      rw [hnx] at HG1
      have HNX := hide hnx
      clear hbw4 hG1 hnx
      by_cases hqz : q = z
      · rw [decide_eq_true hqz]
        have HR := hide (HP.out.2.2.2.1.hit (hqz ▸ HM.out.2.1) HM.out.2.2.1)
        clear hqz
        go_wp2
        go_ret
        refine ⟨?_, M, HP.out.1.st.below H4.out, Step.of_below M H4.out⟩
        rw [HR.out, List.getD_eq_getElem?_getD, HM2.out.2, ← HXP.out]
        rfl
      · rw [decide_eq_false hqz]
        have HQZ := hide hqz
        clear hqz
        go_wp2_with (go_at_call 105; fail)
        refine HG1.out.mono ?_
        rintro e w5 ⟨rfl, hb5⟩
        have H5 := hide (H4.out.trans (hb5.mono H4.out.size))
        clear hb5 p0 p3 d4
        go_wp2
        refine ⟨⟨k + 1, by omega, by rw [HNX.out], by go_num, fun j hj => ?_, H5.out⟩, by simp [intOf]; omega⟩
        by_cases e : j = k
        · subst e; rw [HM.out.2.1]; exact fun e => HQZ.out (Option.some.inj e).symm
        · exact HM.out.2.2.1 j (by omega)
    · obtain rfl : k = n := by omega
      have hdr : hd (ws.drop k) 10 = 10 := hd_all ws 10 k (by have := HP.out.2.2.2.2; have := HN.out.1; omega)
      rw [hdr]
      have HY := hide (pair_no (HP.out.1.below hb) (p := 10) (by decide) (by rw [headOf_imm (by decide)]; decide))
      have HM := hide (And.intro hno hb)
      have HR := hide (HP.out.2.2.2.1.miss fun j hj => hno j (by have := HN.out.1; omega))
      clear hno hb hdr
      go_wp2_with (go_at_call 192; fail)
      refine HY.out.mono ?_
      rintro e w1 ⟨rfl, hb1⟩
      have H1 := hide (HM.out.2.trans (hb1.mono HM.out.2.size))
      clear hb1
      go_wp2
      go_ret
      refine ⟨?_, M, HP.out.1.st.below H1.out, Step.of_below M H1.out⟩
      rw [HR.out]
      rfl

end
end Go.Proofs.YtafignheedbnbaaGreatDoor
