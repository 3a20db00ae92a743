/-
  The walks of the primitives list-tail, list-ref, vector-ref, vector-set!, set-car!, list->vector, for arguments that they take.
-/
import Derived.Test.YtafignheedbnbaaGreatDoorPhK
import Derived.Test.YtafignheedbnbaaGreatDoorPhI
namespace Go.Proofs.YtafignheedbnbaaGreatDoor
open Go.RowKit Go.BigFrame
set_option linter.unusedSimpArgs false
set_option linter.unusedVariables false

section
variable {w w' : World} {S : Sto} {M M' : Nat → Prop} {h h' : List Ob} {sy sy' : List (ByteArray × Nat)} {cb : Nat} {nm : ByteArray} {A : Option Addr} {c : Nat} {xs : List Nat}

set_option maxHeartbeats 1000000 in
theorem index_fix (k : PAt w S M h sy cb nm A c xs) (j n many : Nat) (hj : xs[j]? = some (4 * n + 1)) (hn : n < 130) (hnm : n < many) (hl : xs.length ≤ 1000) : Calls Tryz.prog 198 #[.pointer (some ⟨cb, 0, none⟩), .int .i64 j, .int .i64 many] w fun e w' => e = .returned (.tuple #[.int .i64 n, .string ⟨#[]⟩]) ∧ Below w.heap.size w w' := by
  have HA := hide (at_fix k j n hj hn hl)
  have f1 : ¬ (many : Int) ≤ n := by omega
  clear k hj hn hnm hl
  go_enter Tryz.func198, Tryz.ntmps198
  go_wp2_with (go_at_call 195; fail)
  refine HA.out.mono ?_
  rintro e w1 ⟨rfl, hb1⟩
  have H1 := hide hb1
  clear hb1
  go_wp2
  go_ret2
  exact ⟨rfl, H1.out⟩

set_option maxHeartbeats 1000000 in
theorem vec_yes (k : PAt w S M h sy cb nm A c xs) {m : Nat} {l : List Nat} (hm : h[m]? = some (vecO l)) : Calls Tryz.prog 190 #[.pointer (some ⟨cb, 0, none⟩), .int .u64 (4 * start h m : Nat)] w fun e w' => e = .returned (.bool true) ∧ Below w.heap.size w w' := by
  obtain ⟨v1, v2, hh, -⟩ := k.st.hp
  have hus : used h ≤ 16777216 := Nat.le_trans hh.room hh.small
  have hst := start_lt hm
  have ho := hh.ok _ (List.mem_of_getElem? hm)
  obtain ⟨e1, e2, e3⟩ := tagged_at hm ho
  have HK := hide (kind_any hh (4 * start h m) (by omega))
  have HR := hide (fun w1 (hb : Below w.heap.size w w1) => raws_any (hh.below hb) (4 * start h m) (by omega))
  rw [e2, show (vecO l).k = 2 from rfl] at HK
  rw [e3, show (vecO l).rs.length = 0 from rfl] at HR
  have HP := hide k
  obtain ⟨p0, -, -, p3⟩ := k.cells
  obtain ⟨q, hq⟩ : ∃ q, start h m = q := ⟨_, rfl⟩
  rw [hq] at HK HR ⊢
  clear k hh hm ho hst hus hq e1 e2 e3
  go_enter Tryz.func190, Tryz.ntmps190
  go_wp2_with (go_at_call 109; fail)
  refine HK.out.mono ?_
  rintro e w1 ⟨rfl, hb1⟩
  obtain ⟨q0, -, -, q3⟩ := (HP.out.below hb1).cells
  have HB1 := hide hb1
  clear p0 p3 hb1
  go_wp2_with (go_at_call 62; fail)
  refine (HR.out w1 HB1.out).mono ?_
  rintro e w3 ⟨rfl, hb3⟩
  have HB3 := hide (HB1.out.trans (hb3.mono HB1.out.size))
  clear hb3
  go_wp2
  go_ret
  exact ⟨rfl, HB3.out⟩

/-- the name of list-tail -/
def tailName : List UInt8 := [108, 105, 115, 116, 45, 116, 97, 105, 108]

set_option maxHeartbeats 1000000 in
theorem ltail_any (k : PAt w S M h sy cb nm A c xs) (hnm : (nm.toList == tailName) = true) {ws ys : List Nat} (hl : Lst h ws ys 10) {n : Nat} (hx : xs = [hd ws 10, 4 * n + 1]) (hn : n ≤ ys.length) (hn2 : n < 130) (hy : ys.length ≤ 100000) :
    Calls Tryz.prog 144 #[.pointer (some ⟨cb, 0, none⟩)] w (Grew S M w h sy (.int .u64 (hd (ws.drop n) 10 : Nat))) := by
  have HA := hide (at_fix k 1 n (by rw [hx]; rfl) hn2 (by rw [hx]; simp))
  have HT := hide (fun w1 (hb : Below w.heap.size w w1) => tail_any (k.below hb) hl n hn hy)
  have HK := hide k
  have HX := hide (show xs[0]? = some (hd ws 10) by rw [hx]; rfl)
  have HL := hide (show xs.length = 2 by rw [hx]; rfl)
  obtain ⟨a, ha⟩ : ∃ a, hd ws 10 = a := ⟨_, rfl⟩
  obtain ⟨b, hb⟩ : ∃ b, hd (ws.drop n) 10 = b := ⟨_, rfl⟩
  rw [ha] at HX
  rw [ha, hb] at HT
  rw [hb]
  unfold tailName at hnm
  clear k hl hx hn hn2 hy ha hb
  go_enter Tryz.func144, Tryz.ntmps144
  go_wp2_with (go_at_call 195; fail)
  refine HA.out.mono ?_
  rintro e w1 ⟨rfl, hb1⟩
  have hk1 := HK.out.below hb1
  obtain ⟨p0, p1, p2, p3⟩ := hk1.cells
  obtain ⟨L, rfl, hcell, hjl⟩ := hk1.arg HX.out
  rw [HL.out] at p2
  have HT1 := hide (HT.out w1 hb1)
  have H1 := hide hb1
  clear hb1 hk1 p1 hjl
  go_wp2_with (go_at_call 196; fail)
  refine HT1.out.mono ?_
  rintro e w2 ⟨rfl, hb2⟩
  have hbw := H1.out.trans (hb2.mono H1.out.size)
  obtain ⟨q0, q1, q2, q3⟩ := (HK.out.below hbw).cells
  have H2 := hide hbw
  clear hb2 hbw p0 p2 p3 hcell q2
  go_wp2
  go_ret
  exact ⟨rfl, M, HK.out.st.below H2.out, Step.of_below M H2.out⟩

set_option maxHeartbeats 1000000 in
theorem lref_any (k : PAt w S M h sy cb nm A c xs) (hnm : (nm.toList == tailName) = false) {ws ys : List Nat} (hl : Lst h ws ys 10) {n y : Nat} (hx : xs = [hd ws 10, 4 * n + 1]) (hn : ys[n]? = some y) (hn2 : n < 130) (hy : ys.length ≤ 100000) :
    Calls Tryz.prog 144 #[.pointer (some ⟨cb, 0, none⟩)] w (Grew S M w h sy (.int .u64 y)) := by
  have hnl := (List.getElem?_eq_some_iff.1 hn).1
  have HA := hide (at_fix k 1 n (by rw [hx]; rfl) hn2 (by rw [hx]; simp))
  have HT := hide (fun w1 (hb : Below w.heap.size w w1) => tail_any (k.below hb) hl n (by omega) hy)
  obtain ⟨m, hm, hw1, -⟩ := hl.at_ hn
  obtain ⟨v1, v2, hh, -⟩ := k.st.hp
  have HPr := hide (fun w1 (hb : Below w.heap.size w w1) => pair_yes (k.below hb) hm)
  have HG := hide (fun w1 (hb : Below w.heap.size w w1) => (show Calls Tryz.prog 105 #[.pointer (some ⟨S.hb, 0, none⟩), .int .u64 (4 * start h m : Nat), .int .i64 0] w1 _ from get_at (hh.below hb) hm (i := 0) (x := y) rfl))
  have HK := hide k
  have HX := hide (show xs[0]? = some (hd ws 10) by rw [hx]; rfl)
  have HL := hide (show xs.length = 2 by rw [hx]; rfl)
  obtain ⟨a, ha⟩ : ∃ a, hd ws 10 = a := ⟨_, rfl⟩
  rw [hw1] at HT
  obtain ⟨q, hq⟩ : ∃ q, start h m = q := ⟨_, rfl⟩
  rw [ha] at HX
  rw [ha, hq] at HT
  rw [hq] at HPr HG
  unfold tailName at hnm
  clear k hh hl hx hn hn2 hy ha hm hw1 hnl hq
  go_enter Tryz.func144, Tryz.ntmps144
  go_wp2_with (go_at_call 195; fail)
  refine HA.out.mono ?_
  rintro e w1 ⟨rfl, hb1⟩
  have hk1 := HK.out.below hb1
  obtain ⟨p0, p1, p2, p3⟩ := hk1.cells
  obtain ⟨L, rfl, hcell, hjl⟩ := hk1.arg HX.out
  rw [HL.out] at p2
  have HT1 := hide (HT.out w1 hb1)
  have H1 := hide hb1
  clear hb1 hk1 p1 hjl
  go_wp2_with (go_at_call 196; fail)
  refine HT1.out.mono ?_
  rintro e w2 ⟨rfl, hb2⟩
  have hbw := H1.out.trans (hb2.mono H1.out.size)
  obtain ⟨q0, q1, q2, q3⟩ := (HK.out.below hbw).cells
  have H2 := hide hbw
  have HP2 := hide (HPr.out w2 hbw)
  clear hb2 hbw p0 p2 p3 hcell q2
  go_wp2_with (go_at_call 192; fail)
  refine HP2.out.mono ?_
  rintro e w3 ⟨rfl, hb3⟩
  have hbw := H2.out.trans (hb3.mono H2.out.size)
  clear q0 q1 q3
  obtain ⟨q0, q1, q2, q3⟩ := (HK.out.below hbw).cells
  have H3 := hide hbw
  have HG3 := hide (HG.out w3 hbw)
  clear hb3 hbw q2
  go_wp2_with (go_at_call 105; fail)
  refine HG3.out.mono ?_
  rintro e w4 ⟨rfl, hb4⟩
  have H4 := hide (H3.out.trans (hb4.mono H3.out.size))
  clear hb4 q0 q1 q3
  go_wp2
  go_ret
  exact ⟨rfl, M, HK.out.st.below H4.out, Step.of_below M H4.out⟩

set_option maxHeartbeats 1000000 in
theorem vref_any (k : PAt w S M h sy cb nm A c xs) {m n y : Nat} {l : List Nat} (hm : h[m]? = some (vecO l)) (hx : xs = [4 * start h m, 4 * n + 1]) (hn : l[n]? = some y) (hn2 : n < 130) :
    Calls Tryz.prog 150 #[.pointer (some ⟨cb, 0, none⟩)] w (Grew S M w h sy (.int .u64 y)) := by
  have hnl := (List.getElem?_eq_some_iff.1 hn).1
  obtain ⟨v1, v2, hh, -⟩ := k.st.hp
  have hus : used h ≤ 16777216 := Nat.le_trans hh.room hh.small
  have hst := start_lt hm
  have ho := hh.ok _ (List.mem_of_getElem? hm)
  have HIx := hide (fun w1 (hb : Below w.heap.size w w1) => index_fix (k.below hb) 1 n l.length (by rw [hx]; rfl) hn2 hnl (by rw [hx]; simp))
  have HV := hide (vec_yes k hm)
  have HT := hide (fun w1 (hb : Below w.heap.size w w1) => tagged_any (hh.below hb) (4 * start h m) (by omega))
  rw [(tagged_at hm ho).1, show (vecO l).ts.length = l.length from rfl] at HT
  have HG := hide (fun w1 (hb : Below w.heap.size w w1) => get_at (hh.below hb) hm (i := n) (x := y) hn)
  have HK := hide k
  have HX := hide (show xs[0]? = some (4 * start h m) by rw [hx]; rfl)
  have HL := hide (show xs.length = 2 by rw [hx]; rfl)
  obtain ⟨q, hq⟩ : ∃ q, 4 * start h m = q := ⟨_, rfl⟩
  rw [hq] at HX HV HT HG
  obtain ⟨p0, p1, p2, p3⟩ := k.cells
  obtain ⟨L, rfl, hcell, hjl⟩ := k.arg HX.out
  rw [HL.out] at p2
  have hn3 : (n : Int) < 130 := by omega
  have hn0 : (0 : Int) ≤ n := by omega
  clear k hh hx hn hn2 hm hnl hq hst ho hus p1 hjl
  generalize l.length = ln at *
  go_enter Tryz.func150, Tryz.ntmps150
  go_wp2_with (go_at_call 190; fail)
  refine HV.out.mono ?_
  rintro e w1 ⟨rfl, hb1⟩
  obtain ⟨q0, q1, q2, q3⟩ := (HK.out.below hb1).cells
  have H1 := hide hb1
  have HT1 := hide (HT.out w1 hb1)
  clear hb1 p0 p2 p3 hcell q1 q2
  go_wp2_with (go_at_call 104; fail)
  refine HT1.out.mono ?_
  rintro e w2 ⟨rfl, hb2⟩
  have hbw := H1.out.trans (hb2.mono H1.out.size)
  have H2 := hide hbw
  have HI2 := hide (HIx.out w2 hbw)
  clear hb2 hbw q0 q3
  go_wp2_with (go_at_call 198; fail)
  refine HI2.out.mono ?_
  rintro e w3 ⟨rfl, hb3⟩
  have hbw := H2.out.trans (hb3.mono H2.out.size)
  obtain ⟨q0, q1, q2, q3⟩ := (HK.out.below hbw).cells
  have H3 := hide hbw
  have HG3 := hide (HG.out w3 hbw)
  clear hb3 hbw q1 q2
  go_wp2_with (go_at_call 105; fail)
  refine HG3.out.mono ?_
  rintro e w4 ⟨rfl, hb4⟩
  have H4 := hide (H3.out.trans (hb4.mono H3.out.size))
  clear hb4 q0 q3
  go_wp2
  go_ret
  exact ⟨rfl, M, HK.out.st.below H4.out, Step.of_below M H4.out⟩

set_option maxRecDepth 100000 in
set_option maxHeartbeats 1000000 in
theorem vset_any (k : PAt w S M h sy cb nm A c xs) {m n x : Nat} {l : List Nat} (hm : h[m]? = some (vecO l)) (hx : xs = [4 * start h m, 4 * n + 1, x]) (hn : n < l.length) (hn2 : n < 130) (hx64 : x < 18446744073709551616) (hmay : mayB h x) :
    Calls Tryz.prog 151 #[.pointer (some ⟨cb, 0, none⟩)] w (Grew S M w (h.set m ((vecO l).setT n x)) sy (.int .u64 14)) := by
  obtain ⟨v1, v2, hh, -⟩ := k.st.hp
  have hus : used h ≤ 16777216 := Nat.le_trans hh.room hh.small
  have hst := start_lt hm
  have ho := hh.ok _ (List.mem_of_getElem? hm)
  have HIx := hide (fun w1 (hb : Below w.heap.size w w1) => index_fix (k.below hb) 1 n l.length (by rw [hx]; rfl) hn2 hn (by rw [hx]; simp))
  have HV := hide (vec_yes k hm)
  have HT := hide (fun w1 (hb : Below w.heap.size w w1) => tagged_any (hh.below hb) (4 * start h m) (by omega))
  rw [(tagged_at hm ho).1, show (vecO l).ts.length = l.length from rfl] at HT
  have HS := hide (fun w1 (hb : Below w.heap.size w w1) => sset_at (k.st.below hb) hm (i := n) (x := x) hn hx64 hmay)
  have HK := hide k
  have HX := hide (show xs[0]? = some (4 * start h m) by rw [hx]; rfl)
  have HX2 := hide (show xs[2]? = some x by rw [hx]; rfl)
  have HL := hide (show xs.length = 3 by rw [hx]; rfl)
  obtain ⟨q, hq⟩ : ∃ q, 4 * start h m = q := ⟨_, rfl⟩
  rw [hq] at HX HV HT HS
  obtain ⟨p0, p1, p2, p3⟩ := k.cells
  obtain ⟨L, rfl, hcell, hjl⟩ := k.arg HX.out
  rw [HL.out] at p2
  have hn3 : (n : Int) < 130 := by omega
  have hn0 : (0 : Int) ≤ n := by omega
  clear k hh hx hn hn2 hm hq hst ho hus p1 hjl hmay hx64
  generalize l.length = ln at *
  go_enter Tryz.func151, Tryz.ntmps151
  go_wp2_with (go_at_call 190; fail)
  refine HV.out.mono ?_
  rintro e w1 ⟨rfl, hb1⟩
  obtain ⟨q0, q1, q2, q3⟩ := (HK.out.below hb1).cells
  have H1 := hide hb1
  have HT1 := hide (HT.out w1 hb1)
  clear hb1 p0 p2 p3 hcell q1 q2
  go_wp2_with (go_at_call 104; fail)
  refine HT1.out.mono ?_
  rintro e w2 ⟨rfl, hb2⟩
  have hbw := H1.out.trans (hb2.mono H1.out.size)
  have H2 := hide hbw
  have HI2 := hide (HIx.out w2 hbw)
  clear hb2 hbw q0 q3
  go_wp2_with (go_at_call 198; fail)
  refine HI2.out.mono ?_
  rintro e w3 ⟨rfl, hb3⟩
  have hbw := H2.out.trans (hb3.mono H2.out.size)
  have hbd : Below w.heap.size w w3.drew := hbw.drew
  have hk3 := HK.out.below hbd
  have HS3 := hide (HS.out w3.drew hbd)
  have H3 := hide hbd
  go_upto_region 7 with fail
  refine wp_region_still_tail 15 (by kernel_rfl) (by kernel_rfl) ?_
  simp only [List.take_succ_cons, List.take_zero, List.drop_succ_cons, List.drop_zero]
  change wpStill _ _ w3.drew (fun a' => wpList _ _ _ _ a' w3.drew) _ _
  clear hb3 hbw hbd
  generalize w3.drew = V at *
  obtain ⟨q0, q1, q2, q3⟩ := hk3.cells
  obtain ⟨L2, hL2, hcell, hjl⟩ := hk3.arg HX2.out
  cases hL2
  rw [HL.out] at q2
  clear q1 hjl hk3
  repeat still_step
  refine wpStill_nil ?_
  go_wp2_with (go_at_call 73; fail)
  refine HS3.out.mono ?_
  rintro e w4 ⟨rfl, M4, k4, s4⟩
  have H4 := hide (And.intro k4 s4)
  clear k4 s4 q0 q2 q3 hcell
  go_wp2
  go_ret
  exact ⟨rfl, M4, H4.out.1, (Step.of_below M H3.out).trans H4.out.2⟩

end
end Go.Proofs.YtafignheedbnbaaGreatDoor

/-
  The walks of the primitives set-car!, list->vector, for arguments that they take.
-/
namespace Go.Proofs.YtafignheedbnbaaGreatDoor
open Go.RowKit Go.BigFrame
set_option linter.unusedSimpArgs false
set_option linter.unusedVariables false

section
variable {w w' : World} {S : Sto} {M M' : Nat → Prop} {h h' : List Ob} {sy sy' : List (ByteArray × Nat)} {cb : Nat} {nm : ByteArray} {A : Option Addr} {c : Nat} {xs : List Nat}

set_option maxHeartbeats 1000000 in
theorem side_any (k : PAt w S M h sy cb nm A c xs) {g : Int} (hg : w.cell? ⟨0, 0, none⟩ = some (.int .i64 g)) {v : Bool} (hc : Lib.contains nm.data.toList [99, 100, 114] = v) (hs : nm.size < 1000) :
    Calls Tryz.prog 193 #[.pointer (some ⟨cb, 0, none⟩)] w fun e w' => e = .returned (.int .i64 (if v then 1 else 0)) ∧ w = w' := by
  have HC := hide (fun (u : World) (hu : u.cell? ⟨0, 0, none⟩ = some (.int .i64 g)) => strings_Contains nm ⟨#[99, 100, 114]⟩ g u (by omega) hu)
  rw [show (⟨#[99, 100, 114]⟩ : ByteArray).data.toList = [99, 100, 114] from rfl, hc] at HC
  obtain ⟨p0, p1, -, -⟩ := k.cells
  have HG := hide hg
  clear k hc hs hg
  cases v
  all_goals
    go_enter Tryz.func193, Tryz.ntmps193
    go_wp2_with (go_at_call 211; fail)
    refine (HC.out w HG.out).mono ?_
    rintro e w1 ⟨rfl, rfl⟩
    go_wp2
    go_ret
    exact ⟨rfl, rfl⟩

set_option maxRecDepth 100000 in
set_option maxHeartbeats 1000000 in
theorem setcar_any (k : PAt w S M h sy cb nm A c xs) {g : Int} (hg : w.cell? ⟨0, 0, none⟩ = some (.int .i64 g)) (hg0 : ¬ M 0) (hgl : 0 < w.heap.size) (hc : Lib.contains nm.data.toList [99, 100, 114] = false) (hs : nm.size < 1000) {m a b x : Nat} (hm : h[m]? = some (pairO a b)) (hx : xs = [4 * start h m, x]) (hx64 : x < 18446744073709551616) (hmay : mayB h x) :
    Calls Tryz.prog 139 #[.pointer (some ⟨cb, 0, none⟩)] w (Grew S M w (h.set m ((pairO a b).setT 0 x)) sy (.int .u64 14)) := by
  have HPr := hide (pair_yes k hm)
  have HSd := hide (fun w1 (hb : Below w.heap.size w w1) => (show Calls Tryz.prog 193 #[.pointer (some ⟨cb, 0, none⟩)] w1 fun e w' => e = .returned (.int .i64 0) ∧ w' = w1 from (side_any (k.below hb) ((hb.cell (p := ⟨0, 0, none⟩) hgl).trans hg) hc hs).mono fun e w' he => ⟨he.1, he.2.symm⟩))
  have HS := hide (fun w1 (hb : Below w.heap.size w w1) => (show Calls Tryz.prog 73 #[.pointer (some ⟨S.hb, 0, none⟩), .int .u64 (4 * start h m : Nat), .int .i64 0, .int .u64 x] w1 _ from sset_at (k.st.below hb) hm (i := 0) (x := x) (by show 0 < 2; omega) hx64 hmay))
  have HK := hide k
  have HX := hide (show xs[0]? = some (4 * start h m) by rw [hx]; rfl)
  have HX2 := hide (show xs[1]? = some x by rw [hx]; rfl)
  have HL := hide (show xs.length = 2 by rw [hx]; rfl)
  obtain ⟨q, hq⟩ : ∃ q, 4 * start h m = q := ⟨_, rfl⟩
  rw [hq] at HX HPr HS
  obtain ⟨p0, p1, p2, p3⟩ := k.cells
  obtain ⟨L, rfl, hcell, hjl⟩ := k.arg HX.out
  rw [HL.out] at p2
  clear k hx hm hq p1 hjl hmay hx64 hg hc hs hg0 hgl
  go_enter Tryz.func139, Tryz.ntmps139
  go_wp2_with (go_at_call 192; fail)
  refine HPr.out.mono ?_
  rintro e w3 ⟨rfl, hbw⟩
  have hbd : Below w.heap.size w w3.drew := hbw.drew
  have hk3 := HK.out.below hbd
  have HS3 := hide (HS.out w3.drew hbd)
  have HSd3 := hide (HSd.out w3.drew hbd)
  have H3 := hide hbd
  go_upto_region 3 with fail
  refine wp_region_still_tail 21 (by kernel_rfl) (by kernel_rfl) ?_
  simp only [List.take_succ_cons, List.take_zero, List.drop_succ_cons, List.drop_zero]
  change wpStill _ _ w3.drew (fun a' => wpList _ _ _ _ a' w3.drew) _ _
  clear hbw hbd p0 p2 p3 hcell
  generalize w3.drew = V at *
  obtain ⟨q0, q1, q2, q3⟩ := hk3.cells
  obtain ⟨L2, hL2, hcell2, hjl⟩ := hk3.arg HX2.out
  obtain ⟨L3, hL3, hcell, hjl3⟩ := hk3.arg HX.out
  cases hL2
  cases hL3
  rw [HL.out] at q2
  clear q1 hjl hjl3 hk3
  repeat still_step
  still_call HSd3.out
  repeat still_step
  refine wpStill_nil ?_
  go_wp2_with (go_at_call 73; fail)
  refine HS3.out.mono ?_
  rintro e w4 ⟨rfl, M4, k4, s4⟩
  have H4 := hide (And.intro k4 s4)
  clear k4 s4 q0 q2 q3 hcell hcell2
  go_wp2
  go_ret
  exact ⟨rfl, M4, H4.out.1, (Step.of_below M H3.out).trans H4.out.2⟩

set_option maxHeartbeats 1000000 in
theorem lvec_any (k : PAt w S M h sy cb nm A c xs) {ws ys : List Nat} (hl : Lst h ws ys 10) (hu : ys.length ≤ used h) (hx : xs = [hd ws 10]) (hmay : MayAll h ys) (hroom : 1 + ys.length + used h ≤ S.sz) (hn : ys.length ≤ 1048576) :
    Calls Tryz.prog 153 #[.pointer (some ⟨cb, 0, none⟩)] w (Grew S M w (h ++ [vecO ys]) sy (.int .u64 (4 * used h : Nat))) := by
  have HC := hide (chain_any k hl hu)
  have HV := hide (fun (w1 : World) (hb : Below w.heap.size w w1) (A' : Option Addr) (c' : Nat) (hs : SlU w1 M A' ys) => vector_at (k.st.below hb) (c := c') hs hmay hroom hn)
  have HK := hide k
  have HX := hide (show xs[0]? = some (hd ws 10) by rw [hx]; rfl)
  have HL := hide (show xs.length = 1 by rw [hx]; rfl)
  obtain ⟨q, hq⟩ : ∃ q, hd ws 10 = q := ⟨_, rfl⟩
  obtain ⟨us, hus⟩ : ∃ us, used h = us := ⟨_, rfl⟩
  rw [hq] at HX HC
  rw [hus] at HV ⊢
  obtain ⟨p0, p1, p2, p3⟩ := k.cells
  obtain ⟨L, rfl, hcell, hjl⟩ := k.arg HX.out
  rw [HL.out] at p2
  clear k hx hl hu hq p1 hjl hmay hroom hn hus
  go_enter Tryz.func153, Tryz.ntmps153
  go_wp2_with (go_at_call 188; fail)
  refine HC.out.mono ?_
  rintro e w1 ⟨v, rfl, hr, hb1⟩
  obtain ⟨A1, c1, rfl, hs1⟩ := hr.form M (fun b e => (HK.out.st.lt b e).2)
  have HV1 := hide (HV.out w1 hb1 A1 c1 hs1)
  obtain ⟨q0, q1, q2, q3⟩ := (HK.out.below hb1).cells
  have H1 := hide hb1
  generalize ys.length = n at *
  clear hb1 hr hs1 p0 p2 p3 hcell q1 q2
  go_wp2_with (go_at_call 118; fail)
  refine HV1.out.mono ?_
  rintro e w2 ⟨rfl, M2, k2, s2⟩
  have H2 := hide (And.intro k2 s2)
  clear k2 s2 q0 q3
  go_wp2_with (go_at_call 173; fail)
  refine (laid_yes _ _ _).mono ?_
  rintro e w3 ⟨rfl, rfl⟩
  go_wp2
  go_ret
  exact ⟨rfl, M2, H2.out.1, (Step.of_below M H1.out).trans H2.out.2⟩

end
end Go.Proofs.YtafignheedbnbaaGreatDoor
