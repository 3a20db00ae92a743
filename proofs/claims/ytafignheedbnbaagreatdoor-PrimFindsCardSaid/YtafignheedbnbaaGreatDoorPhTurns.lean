/-
  What each call of the law PrimTurns comes to, one behind the other.
-/
import Derived.Test.YtafignheedbnbaaGreatDoorPhN
import Derived.Test.YtafignheedbnbaaGreatDoorPwAll
import Derived.Deep.CutRange
import Derived.Outline
namespace Go.Proofs.YtafignheedbnbaaGreatDoor
open Go.RowKit
set_option linter.unusedSimpArgs false
set_option linter.unusedVariables false

/-- The calls of PrimTurns: xw the list, vw the vector, pw the tail; h1 .. h4 the heaps. -/
structure TurnsK (w0 : World) (S : Sto) (D : Nat) (a : Value) (zs : List Int) (k pl : Nat) (h1 h2 h3 h4 : List Ob) (xw vw pw : Nat) : Prop where
  list : ∀ (W : World) (M : Nat → Prop), LAt w0 S D W M [] [] → Calls Tryz.prog 25 #[.agg #[.pointer (some ⟨S.sb, 0, none⟩)], a] W (Adv w0 S D h1 [] xw)
  vec : ∀ (W : World) (M : Nat → Prop), LAt w0 S D W M h1 [] → Calls Tryz.prog 26 #[.agg #[.pointer (some ⟨S.sb, 0, none⟩)], .string ⟨#[108, 105, 115, 116, 45, 62, 118, 101, 99, 116, 111, 114]⟩, .slice (some ⟨W.heap.size, 0, none⟩) 1 1] (W.alloc (.cells #[.int .u64 xw] 29)) (Adv w0 S D h2 [] vw)
  tail : ∀ (W : World) (M : Nat → Prop), LAt w0 S D W M h2 [] → Calls Tryz.prog 26 #[.agg #[.pointer (some ⟨S.sb, 0, none⟩)], .string ⟨#[108, 105, 115, 116, 45, 116, 97, 105, 108]⟩, .slice (some ⟨W.heap.size, 0, none⟩) 2 2] (W.alloc (.cells #[.int .u64 xw, .int .u64 ((k : Int) * 4 + 1)] 29)) (Adv w0 S D h2 [] pw)
  car : ∀ (W : World) (M : Nat → Prop), LAt w0 S D W M h2 [] → Calls Tryz.prog 26 #[.agg #[.pointer (some ⟨S.sb, 0, none⟩)], .string ⟨#[115, 101, 116, 45, 99, 97, 114, 33]⟩, .slice (some ⟨W.heap.size, 0, none⟩) 2 2] (W.alloc (.cells #[.int .u64 pw, .int .u64 ((pl : Int) * 4 + 1)] 29)) (Adv w0 S D h3 [] 14)
  vset : ∀ (W : World) (M : Nat → Prop), LAt w0 S D W M h3 [] → Calls Tryz.prog 26 #[.agg #[.pointer (some ⟨S.sb, 0, none⟩)], .string ⟨#[118, 101, 99, 116, 111, 114, 45, 115, 101, 116, 33]⟩, .slice (some ⟨W.heap.size, 0, none⟩) 3 3] (W.alloc (.cells #[.int .u64 vw, .int .u64 ((k : Int) * 4 + 1), .int .u64 ((pl : Int) * 4 + 1)] 29)) (Adv w0 S D h4 [] 14)
  lref : ∀ (W : World) (M : Nat → Prop) (j : Nat) (z : Int), LAt w0 S D W M h4 [] → j < zs.length → zs.getD j 0 = z → Calls Tryz.prog 26 #[.agg #[.pointer (some ⟨S.sb, 0, none⟩)], .string ⟨#[108, 105, 115, 116, 45, 114, 101, 102]⟩, .slice (some ⟨W.heap.size, 0, none⟩) 2 2] (W.alloc (.cells #[.int .u64 xw, .int .u64 ((j : Int) * 4 + 1)] 29)) (Adv w0 S D h4 [] (if j = k then (pl : Int) * 4 + 1 else (placeN z 1000 : Int) * 4 + 1))
  vref : ∀ (W : World) (M : Nat → Prop) (j : Nat) (z : Int), LAt w0 S D W M h4 [] → j < zs.length → zs.getD j 0 = z → Calls Tryz.prog 26 #[.agg #[.pointer (some ⟨S.sb, 0, none⟩)], .string ⟨#[118, 101, 99, 116, 111, 114, 45, 114, 101, 102]⟩, .slice (some ⟨W.heap.size, 0, none⟩) 2 2] (W.alloc (.cells #[.int .u64 vw, .int .u64 ((j : Int) * 4 + 1)] 29)) (Adv w0 S D h4 [] (if j = k then (pl : Int) * 4 + 1 else (placeN z 1000 : Int) * 4 + 1))
  last : ∀ (W : World) (M : Nat → Prop), LAt w0 S D W M h4 [] → Calls Tryz.prog 26 #[.agg #[.pointer (some ⟨S.sb, 0, none⟩)], .string ⟨#[108, 105, 115, 116, 45, 116, 97, 105, 108]⟩, .slice (some ⟨W.heap.size, 0, none⟩) 2 2] (W.alloc (.cells #[.int .u64 xw, .int .u64 ((k : Int) * 4 + 1)] 29)) (Adv w0 S D h4 [] pw)

theorem fix_cast (k : Nat) : ((4 * k + 1 : Nat) : Int) = (k : Int) * 4 + 1 := by omega
theorem chain_far {h : List Ob} {ws ys : List Nat} (q : Lst h ws ys 10) {m : Nat} {l : List Nat} (hm : h[m]? = some (vecO l)) : ∀ w ∈ ws, w ≠ 4 * start h m := by
  intro w hw e
  obtain ⟨i, hi, rfl⟩ := List.getElem_of_mem hw
  obtain ⟨m', hm', -, e2⟩ := q.at_ (List.getElem?_eq_getElem (show i < ys.length by have := q.len; omega))
  rw [List.getElem?_eq_getElem hi, e] at e2
  simp only [Option.some.injEq] at e2
  have hmm := startL_inj h m m' (List.getElem?_eq_some_iff.1 hm).1 (List.getElem?_eq_some_iff.1 hm').1 (by unfold start at e2; omega)
  subst hmm
  rw [hm] at hm'
  simp [vecO, pairO] at hm'

theorem adv_eq {w0 : World} {S : Sto} {D : Nat} {h' : List Ob} {n n' : Int} {f : FuncId} {args : Array Value} {W : World} (h : Calls Tryz.prog f args W (Adv w0 S D h' [] n)) (e : n = n') : Calls Tryz.prog f args W (Adv w0 S D h' [] n') := e ▸ h

theorem turns_calls {w0 : World} {S : Sto} {D : Nat} {a : Value} {zs : List Int} {k pl : Nat} {g : Int} (hsz : S.sz = 2000) (hB : S.B = w0.heap.size) (hg : w0.cell? ⟨0, 0, none⟩ = some (.int .i64 g)) (h0 : 0 < w0.heap.size) (ha : IntsR w0 a zs) (hn : zs.length ≤ 50) (hk : k < zs.length) (hpl : pl < 1000) :
    ∃ h1 h2 h3 h4 xw vw pw, TurnsK w0 S D a zs k pl h1 h2 h3 h4 xw vw pw := by
  obtain ⟨X, hX⟩ : ∃ X, fixW zs = X := ⟨_, rfl⟩
  have hXl : X.length = zs.length := by rw [← hX, fixW_len]
  have hXm : ∀ h, MayAll h X := fun h => hX ▸ fixW_may h zs
  obtain ⟨h1, hh1⟩ : ∃ h1, (chainO [] 10 X).1 = h1 := ⟨_, rfl⟩
  obtain ⟨ws, hws⟩ : ∃ ws, (chainO [] 10 X).2 = ws := ⟨_, rfl⟩
  have l1 : Lst h1 ws X 10 := by rw [← hh1, ← hws]; exact chainO_lst [] 10 X
  have u1 : used h1 = 1 + 3 * zs.length := by rw [← hh1, chainO_used, hXl]; rfl
  have l2 : Lst (h1 ++ [vecO X]) ws X 10 := l1.grow
  have hv2 : (h1 ++ [vecO X])[h1.length]? = some (vecO X) := by simp
  have sv2 : start (h1 ++ [vecO X]) h1.length = used h1 := start_end _ _
  have u2 : used (h1 ++ [vecO X]) = used h1 + (1 + zs.length) := by rw [used_app]; simp [vecO, Ob.size]; omega
  obtain ⟨xk, hxk⟩ : ∃ xk, X[k]? = some xk := ⟨_, List.getElem?_eq_getElem (by omega)⟩
  obtain ⟨m, hm, hpw, hwk⟩ := l2.at_ hxk
  have hne : m ≠ h1.length := fun e => by rw [e, hv2] at hm; simp [vecO, pairO] at hm
  have hnn := fun h => fix_may h pl (by omega)
  have l3 := l2.set_car hm (4 * pl + 1) (by decide) k (by omega) hwk
  have hv3 : ((h1 ++ [vecO X]).set m ((pairO xk (hd (ws.drop (k + 1)) 10)).setT 0 (4 * pl + 1)))[h1.length]? = some (vecO X) := by rw [List.getElem?_set_ne hne]; exact hv2
  have s3 : ∀ j, start ((h1 ++ [vecO X]).set m ((pairO xk (hd (ws.drop (k + 1)) 10)).setT 0 (4 * pl + 1))) j = start (h1 ++ [vecO X]) j := fun j => start_set hm
  have u3 : used ((h1 ++ [vecO X]).set m ((pairO xk (hd (ws.drop (k + 1)) 10)).setT 0 (4 * pl + 1))) = used (h1 ++ [vecO X]) := used_set hm (by show 0 < 2; omega)
  generalize hh3 : (h1 ++ [vecO X]).set m ((pairO xk (hd (ws.drop (k + 1)) 10)).setT 0 (4 * pl + 1)) = h3 at *
  have l4 : Lst (h3.set h1.length ((vecO X).setT k (4 * pl + 1))) ws (X.set k (4 * pl + 1)) 10 := Lst.set_far hv3 k _ l3 (chain_far l3 hv3)
  have s4 : ∀ j, start (h3.set h1.length ((vecO X).setT k (4 * pl + 1))) j = start h3 j := fun j => start_set hv3
  have u4 : used (h3.set h1.length ((vecO X).setT k (4 * pl + 1))) = used h3 := used_set hv3 (by show k < X.length; omega)
  have hv4 : (h3.set h1.length ((vecO X).setT k (4 * pl + 1)))[h1.length]? = some (vecO (X.set k (4 * pl + 1))) := by
    rw [List.getElem?_set_self (List.getElem?_eq_some_iff.1 hv3).1]; rfl
  generalize hh4 : h3.set h1.length ((vecO X).setT k (4 * pl + 1)) = h4 at *
  have hX'l : (X.set k (4 * pl + 1)).length = zs.length := by rw [List.length_set, hXl]
  have hX' : ∀ (j : Nat) (z : Int), j < zs.length → zs.getD j 0 = z → ∃ y, (X.set k (4 * pl + 1))[j]? = some y ∧ (y : Int) = if j = k then (pl : Int) * 4 + 1 else (placeN z 1000 : Int) * 4 + 1 := by
    intro j z hj hz
    by_cases e : j = k
    · subst e
      refine ⟨4 * pl + 1, by rw [List.getElem?_set_self (by omega)], ?_⟩
      rw [if_pos rfl]; omega
    · refine ⟨4 * placeN z 1000 + 1, ?_, by rw [if_neg e]; omega⟩
      rw [List.getElem?_set_ne (Ne.symm e), ← hX]
      unfold fixW
      rw [List.getElem?_map, ← hz, List.getD_eq_getElem?_getD, List.getElem?_eq_getElem hj]
      rfl
  have vw : 4 * used h1 = 4 * start h3 h1.length := by rw [s3, sv2]
  have vw4 : 4 * used h1 = 4 * start h4 h1.length := by rw [s4, s3, sv2]
  refine ⟨h1, h1 ++ [vecO X], h3, h4, hd ws 10, 4 * used h1, hd (ws.drop k) 10, ⟨fun W M L => ?_, fun W M L => ?_, fun W M L => ?_, fun W M L => ?_, fun W M L => ?_, fun W M j z L hj hz => ?_, fun W M j z L hj hz => ?_, fun W M L => ?_⟩⟩
  · have e := dlist_any L.st (zs := zs) (ha.below L.low) (by omega) (by rw [hsz]; have : used ([] : List Ob) = 1 := rfl; omega)
    rw [hX, hh1, hws] at e
    refine e.mono ?_
    rintro e w' ⟨rfl, M', k', s'⟩
    exact ⟨rfl, M', L.step s' k'⟩
  · exact ddo_at L (does_lvec l1 (by omega) (by omega) (hXm h1) (by omega) (by omega)) _ (by kernel_rfl) _ (by simp [wV]) 1 rfl
  · exact ddo_at L (does_ltail l2 (by omega) (n := k) (by omega) (by omega) (by omega)) _ (by kernel_rfl) _ (by simp only [List.map_cons, List.map_nil, wV, fix_cast]) 2 rfl
  · have d := does_setcar (w0 := w0) (S := S) (sy := []) hg (by omega) (by omega) hm (by omega) (hnn _)
    rw [hh3, ← hpw] at d
    exact adv_eq (ddo_at L d _ (by kernel_rfl) _ (by simp only [List.map_cons, List.map_nil, wV, fix_cast]) 2 rfl) rfl
  · have d := does_vset (w0 := w0) (S := S) (sy := []) hv3 (by omega) (n := k) (by omega) (by omega) (hnn _)
    rw [hh4, ← vw] at d
    exact adv_eq (ddo_at L d _ (by kernel_rfl) _ (by simp only [List.map_cons, List.map_nil, wV, fix_cast]) 3 rfl) rfl
  · obtain ⟨y, hy, e⟩ := hX' j z hj hz
    exact adv_eq (ddo_at L (does_lref l4 (by omega) hy (by omega) (by omega)) _ (by kernel_rfl) _ (by simp only [List.map_cons, List.map_nil, wV, fix_cast]) 2 rfl) e
  · obtain ⟨y, hy, e⟩ := hX' j z hj hz
    have d := does_vref (w0 := w0) (S := S) (sy := []) hv4 (by omega) hy (by omega)
    rw [← vw4] at d
    exact adv_eq (ddo_at L d _ (by kernel_rfl) _ (by simp only [List.map_cons, List.map_nil, wV, fix_cast]) 2 rfl) e
  · exact ddo_at L (does_ltail l4 (by omega) (n := k) (by omega) (by omega) (by omega)) _ (by kernel_rfl) _ (by simp only [List.map_cons, List.map_nil, wV, fix_cast]) 2 rfl

end Go.Proofs.YtafignheedbnbaaGreatDoor

/-
  The walk of tandemlaw12.PrimTurns.
-/
namespace Go.Proofs.YtafignheedbnbaaGreatDoor
open Go.RowKit Go.BigFrame
set_option linter.unusedSimpArgs false
set_option linter.unusedVariables false

theorem prim_awake (w : World) : Calls Tryz.prog 14 #[] w fun e w' => e = .returned (.bool true) ∧ Below w.heap.size w w' := by
  have key := X.Pw.awake_rule (l := []) (by simp)
  refine (key.2 w (fun _ => none) [] .nil).mono ?_
  rintro e w' ⟨x, rfl, hv, hb⟩
  rw [hv.bool_inv]
  exact ⟨rfl, hb⟩

theorem IntsR.take {w : World} {p : Option Addr} {n c : Nat} {zs : List Int} (h : IntsR w (.slice p n c) zs) (hn : 50 < n) : IntsR w (.slice p 50 c) (zs.take 50) ∧ zs.length = n := by
  obtain ⟨p', c', e, h1, h2⟩ := h
  cases e
  have hl : (zs.take 50).length = 50 := by rw [List.length_take]; omega
  refine ⟨⟨p, c, by rw [hl], by rw [hl]; omega, fun _ => ?_⟩, rfl⟩
  obtain ⟨b, o, e1, e2, e3⟩ := h2 (by omega)
  refine ⟨b, o, e1, e2, fun j hj => ?_⟩
  rw [hl] at hj
  rw [e3 j (by omega)]
  simp [List.getD, hj]

set_option maxRecDepth 100000 in
set_option maxHeartbeats 4000000 in
theorem turns_any {w0 : World} {p : Option Addr} {n0 c : Nat} {zs0 : List Int} (at_ wv : Int) {g : Int} (hg : w0.cell? ⟨0, 0, none⟩ = some (.int .i64 g)) (h0 : 0 < w0.heap.size) (ha : IntsR w0 (.slice p n0 c) zs0) (hc : n0 ≤ c) :
    Calls Tryz.prog 7 #[.slice p n0 c, .int .i64 at_, .int .i64 wv] w0 fun e w' => e = .returned (.bool true) ∧ Below w0.heap.size w0 w' := by
  have hbig : n0 ≤ 17592186043904 := by obtain ⟨p', c', e, h1, h2⟩ := ha; cases e; exact h1
  have HA := hide (And.intro ha (And.intro hg h0))
  clear ha hg h0
  go_enter Tryz.func7, Tryz.ntmps7
  go_upto_if 19 with fail
  go_cut [0] from 20 to 21 (fun s0 wx => ∃ (n : Nat) (zs : List Int), s0 = .slice p n c ∧ wx = w0 ∧ n ≤ 50 ∧ IntsR w0 (.slice p n c) zs)
  case first =>
    by_cases hl : 50 < n0
    · have hl' : (50 : Int) < n0 := by omega
      have hl2 : (50 : Int) ≤ c := by omega
      go_wp2
      all_goals go_meet
      exact ⟨50, _, rfl, rfl, by omega, (HA.out.1.take hl).1⟩
    · have hl' : ¬ (50 : Int) < n0 := by omega
      go_wp2
      all_goals go_meet
      exact ⟨n0, _, rfl, rfl, by omega, HA.out.1⟩
  case rest =>
    obtain ⟨n, zs, rfl, rfl, hn, hr⟩ := hcut
    have HR := hide hr
    have hzl : zs.length = n := by obtain ⟨p', c', e, h1, h2⟩ := hr; cases e; rfl
    have HN := hide hzl
    clear hr hzl hbig hc
    go_wp2_with (go_at_call 12; fail)
    refine (vnew_any _ 2000 (by omega) (by omega)).mono ?_
    rintro e w1 ⟨S, M, rfl, hsz, hB, k1, hb1⟩
    have H1 := hide (And.intro hsz (And.intro hB (And.intro k1 hb1)))
    clear hsz hB k1 hb1
    by_cases hn0 : n = 0
    · subst hn0
      go_wp2_with (go_at_call 14; refine (prim_awake _).mono ?_; rintro e w4 ⟨rfl, hb4⟩)
      go_ret
      exact ⟨rfl, H1.out.2.2.2.trans (hb4.mono H1.out.2.2.2.size)⟩
    · have hn1 : ((n : Int) == 0) = false := beq_eq_false_iff_ne.2 (by omega)
      go_upto_region 7 with fail
      refine genW (fun U => ∃ M, LAt wc S w1.heap.size U M [] []) ?_ ?_
      · obtain ⟨hsz, hB, k1, hb1⟩ := H1.out
        have hb : Below w1.heap.size w1 (w1.alloc (.cells #[.pointer (some ⟨S.sb, 0, none⟩)] 54)) := (Below.refl _ _).alloc (Nat.le_refl _) _
        exact ⟨M, k1.below hb, hB, hb1.trans (hb.mono hb1.size), Deep.blk_alloc_new _ _, k1.far (Nat.le_refl _)⟩
      intro U hU
      obtain ⟨D, hD⟩ : ∃ D, w1.heap.size = D := ⟨_, rfl⟩
      rw [hD] at hU ⊢
      obtain ⟨M0, L0⟩ := hU
      have hpk := placeN_lt at_ n (by omega)
      have hpl := placeN_lt wv 1000 (by omega)
      obtain ⟨h1, h2, h3, h4, xw, vw, pw, T⟩ := turns_calls (D := D) H1.out.1 H1.out.2.1 HA.out.2.1 HA.out.2.2 HR.out (by rw [HN.out]; exact hn) (by rw [HN.out]; exact hpk) hpl
      have HPk := hide (fun w => place_any at_ n w (by omega) (by omega))
      have HPl := hide (fun w => place_any wv 1000 w (by omega) (by omega))
      obtain ⟨k, hk⟩ : ∃ k, placeN at_ n = k := ⟨_, rfl⟩
      obtain ⟨pl, hpl2⟩ : ∃ pl, placeN wv 1000 = pl := ⟨_, rfl⟩
      rw [hk, hpl2] at T
      rw [hk] at HPk hpk
      rw [hpl2] at HPl hpl
      have HT := hide T
      obtain ⟨d0, dl⟩ := L0.dcell
      have HL0 := hide L0
      clear T L0 hk hpl2 hD
      go_wp2_with (go_at_call 25; fail)
      refine (HT.out.list _ _ HL0.out).mono ?_
      rintro e u1 ⟨rfl, M1, L1⟩
      clear d0 dl
      obtain ⟨d0, dl⟩ := L1.dcell
      have HL1 := hide L1
      clear L1
      go_wp2_with (go_at_call 26; fail)
      refine (HT.out.vec _ _ HL1.out).mono ?_
      rintro e u2 ⟨rfl, M2, L2⟩
      clear d0 dl
      obtain ⟨d0, dl⟩ := L2.dcell
      have HL2 := hide L2
      clear L2
      go_wp2_with (go_at_call 28; fail)
      refine (HPk.out _).mono ?_
      rintro e u3 ⟨rfl, rfl⟩
      go_wp2_with (go_at_call 28; fail)
      refine (HPl.out _).mono ?_
      rintro e u3 ⟨rfl, rfl⟩
      go_wp2_with (go_at_call 26; fail)
      refine (HT.out.tail _ _ HL2.out).mono ?_
      rintro e u3 ⟨rfl, M3, L3⟩
      clear d0 dl
      obtain ⟨d0, dl⟩ := L3.dcell
      have HL3 := hide L3
      clear L3
      go_wp2_with (go_at_call 26; fail)
      refine (HT.out.car _ _ HL3.out).mono ?_
      rintro e u4 ⟨rfl, M4, L4⟩
      clear d0 dl
      obtain ⟨d0, dl⟩ := L4.dcell
      have HL4 := hide L4
      clear L4
      go_wp2_with (go_at_call 26; fail)
      refine (HT.out.vset _ _ HL4.out).mono ?_
      rintro e u5 ⟨rfl, M5, L5⟩
      clear d0 dl
      have HL5 := hide L5
      clear L5
      go_wp2
      go_loopw [15] (fun i wr => ∃ j : Nat, j ≤ n ∧ i = .int .i64 j ∧ ∃ M', LAt wc S D wr M' h4 []) (fun i _ => n - (intOf i).toNat)
      case atStart => exact ⟨0, Nat.zero_le _, rfl, M5, HL5.out⟩
      case round =>
        obtain ⟨j, hj, rfl, M6, L6⟩ := hrel
        obtain ⟨d0, dl⟩ := L6.dcell
        by_cases hlt : j < n
        · obtain ⟨b0, o0, hp, hbl, hcs⟩ : ∃ b o, p = some ⟨b, o, none⟩ ∧ b < wc.heap.size ∧ ∀ j, j < zs.length → wc.cell? ⟨b, o + j, none⟩ = some (.int .i64 (zs.getD j 0)) := by
            obtain ⟨p', c', e, -, h2⟩ := HR.out
            cases e
            exact h2 (by have := HN.out; omega)
          subst hp
          obtain ⟨z, hz⟩ : ∃ z, zs.getD j 0 = z := ⟨_, rfl⟩
          have hc := (L6.low.cell (p := ⟨b0, o0 + j, none⟩) hbl).trans (hcs j (by have := HN.out; omega))
          rw [hz] at hc
          have HPz := hide (fun w => place_any z 1000 w (by omega) (by omega))
          have HLr := hide (fun W M L => HT.out.lref W M j z L (by have := HN.out; omega) hz)
          have HVr := hide (fun W M L => HT.out.vref W M j z L (by have := HN.out; omega) hz)
          obtain ⟨pz, hpz⟩ : ∃ pz, placeN z 1000 = pz := ⟨_, rfl⟩
          have hpz2 := placeN_lt z 1000 (by omega)
          rw [hpz] at HPz HLr HVr hpz2
          have HL6 := hide L6
          have hlt' : (j : Int) < n := by omega
          have hj0 : (0 : Int) ≤ j := by omega
          clear hcs hz hpz L6
          by_cases hjk : j = k
          · have hjk' : ((j : Int) == (k : Int)) = true := by rw [beq_iff_eq]; omega
            simp only [if_pos hjk] at HLr HVr
            clear hjk
            go_wp2_with (go_at_call 28; fail)
            refine (HPz.out _).mono ?_
            rintro e u3 ⟨rfl, rfl⟩
            go_wp2_with (go_at_call 26; fail)
            refine (HLr.out _ _ HL6.out).mono ?_
            rintro e u7 ⟨rfl, M7, L7⟩
            clear d0 dl hc
            obtain ⟨d0, dl⟩ := L7.dcell
            have HL7 := hide L7
            clear L7
            go_wp2_with (go_at_call 26; fail)
            refine (HVr.out _ _ HL7.out).mono ?_
            rintro e u8 ⟨rfl, M8, L8⟩
            clear d0 dl
            have HL8 := hide L8
            clear L8
            go_wp2
            exact ⟨⟨j + 1, by omega, by go_num, M8, HL8.out⟩, by simp [intOf]; omega⟩
          · have hjk' : ((j : Int) == (k : Int)) = false := beq_eq_false_iff_ne.2 (by omega)
            simp only [if_neg hjk] at HLr HVr
            clear hjk
            go_wp2_with (go_at_call 28; fail)
            refine (HPz.out _).mono ?_
            rintro e u3 ⟨rfl, rfl⟩
            go_wp2_with (go_at_call 26; fail)
            refine (HLr.out _ _ HL6.out).mono ?_
            rintro e u7 ⟨rfl, M7, L7⟩
            clear d0 dl hc
            obtain ⟨d0, dl⟩ := L7.dcell
            have HL7 := hide L7
            clear L7
            go_wp2_with (go_at_call 26; fail)
            refine (HVr.out _ _ HL7.out).mono ?_
            rintro e u8 ⟨rfl, M8, L8⟩
            clear d0 dl
            have HL8 := hide L8
            clear L8
            go_wp2
            exact ⟨⟨j + 1, by omega, by go_num, M8, HL8.out⟩, by simp [intOf]; omega⟩
        · obtain rfl : j = n := by omega
          have HL6 := hide L6
          clear L6
          go_wp2_with (go_at_call 26; fail)
          refine (HT.out.last _ _ HL6.out).mono ?_
          rintro e u7 ⟨rfl, M7, L7⟩
          clear d0 dl
          have HL7 := hide L7
          clear L7
          go_wp2_with (go_at_call 14; fail)
          refine (prim_awake _).mono ?_
          rintro e u8 ⟨rfl, hb8⟩
          have HL8 := hide (HL7.out.low.trans (hb8.mono HL7.out.low.size))
          clear hb8
          go_wp2
          go_ret
          exact ⟨rfl, HL8.out⟩

end Go.Proofs.YtafignheedbnbaaGreatDoor
