/-
  The walk of check.Depths.
-/
import Derived.Test.YtmlmepbnjlepnaaChkLaw
namespace Go.Proofs.Ytmlmepbnjlepnaa
open Go.RowKit Go.BigFrame

/-- Where all is right, each proto is. -/
theorem progL_all {ps : List Pr} : ∀ (l : List Pr) (i : Nat), (progL ps l i).2.2 = 0 → ∀ (j : Nat) (p : Pr), l[j]? = some p → headB p (i + j) = true ∧ ∃ ds, protoR ps p = .ok ds
  | [], _, _, j, p, hj => by simp at hj
  | q :: l, i, h, j, p, hj => by
    cases hh : headB q i
    · rw [progL_head hh] at h; cases h
    · cases hr : protoR ps q with
      | bad pc e => rw [progL_bad hh hr] at h; exact absurd h (protoR_err hr)
      | ok ds =>
        rw [progL_ok hh hr] at h
        cases j with
        | zero =>
          simp only [List.getElem?_cons_zero, Option.some.injEq] at hj
          subst hj
          exact ⟨hh, ds, hr⟩
        | succ j =>
          have e := progL_all l (i + 1) h j p (by simpa using hj)
          rw [show i + 1 + j = i + (j + 1) from by omega] at e
          exact e

/-- What Depths gives: a slice of so many ints. -/
def DepthsDone (w : World) (l : List Int) (e : Ending) (w' : World) : Prop :=
  ∃ psl cap, e = .returned (.slice psl l.length cap) ∧ (∀ i, i < l.length → ∃ g, psl = some ⟨g, 0, none⟩ ∧ g < w'.heap.size ∧ w'.cell? ⟨g, i, none⟩ = some (.int .i64 (l.getD i 0))) ∧ Below w.heap.size w w'

theorem depths_none {w : World} {e : Ending} {w' : World} (h : e = .returned (.slice none 0 0)) (hb : Below w.heap.size w w') : DepthsDone w [] e w' := ⟨none, 0, h, fun i hi => by simp at hi, hb⟩

set_option maxRecDepth 100000 in
set_option maxHeartbeats 4000000 in
theorem depths_bad (psa : Option Addr) (pcap : Nat) (L : List PrV) (n : Int) (w : World) (hps : PsAt w psa L) (hbad : (progR (prs L)).2.2 ≠ 0) :
    Calls Try.prog 10 #[.slice psa L.length pcap, .int .i64 n] w (DepthsDone w []) := by
  have HP := program_any psa pcap L w hps
  generalize progR (prs L) = r at *
  obtain ⟨ri, rp, re⟩ := r
  have hre : (re != 0) = true := by simpa using hbad
  have HP := hide HP
  clear hbad hps
  go_enter Try.func10, Try.ntmps10
  go_wp2_with (go_at_call 7; refine HP.out.mono ?_; rintro e w1 ⟨rfl, hb1⟩)
  go_ret
  exact depths_none rfl hb1

set_option maxRecDepth 100000 in
set_option maxHeartbeats 4000000 in
theorem depths_out (psa : Option Addr) (pcap : Nat) (L : List PrV) (n : Int) (w : World) (hps : PsAt w psa L) (hok : (progR (prs L)).2.2 = 0) (hn : inB n L.length = false) :
    Calls Try.prog 10 #[.slice psa L.length pcap, .int .i64 n] w (DepthsDone w []) := by
  have HP := program_any psa pcap L w hps
  generalize progR (prs L) = r at *
  obtain ⟨ri, rp, re⟩ := r
  dsimp only at hok
  subst hok
  have HP := hide HP
  clear hps
  go_enter Try.func10, Try.ntmps10
  go_wp2_with (first
    | (go_at_call 17; refine (in_any _ _ _).mono ?_; rintro e w' ⟨rfl, rfl⟩)
    | (go_at_call 7; refine HP.out.mono ?_; rintro e w1 ⟨rfl, hb1⟩))
  go_ret
  exact depths_none rfl hb1

theorem depths_some {w : World} {ds : List Int} {e : Ending} {db n : Nat} {w' : World} (h : e = .returned (.slice (some ⟨db, 0, none⟩) n n)) (hr : w'.rowIs db 3 n (fun i => .int .i64 (ds.getD i 0))) (hl : ds.length = n) (hb : Below w.heap.size w w') : DepthsDone w ds e w' :=
  ⟨_, n, by rw [hl]; exact h, fun i hi => ⟨db, rfl, World.rowIs.lt hr, by rw [hl] at hi; exact hr.cell hi⟩, hb⟩

set_option maxRecDepth 100000 in
set_option maxHeartbeats 4000000 in
theorem depths_ok (psa : Option Addr) (pcap : Nat) (L : List PrV) (i : Nat) (v : PrV) (ds : List Int) (w : World) (hps : PsAt w psa L) (hok : (progR (prs L)).2.2 = 0) (hv : L[i]? = some v) (hr : protoR (prs L) v.pr = .ok ds) :
    Calls Try.prog 10 #[.slice psa L.length pcap, .int .i64 i] w (DepthsDone w ds) := by
  have hi : i < L.length := (List.getElem?_eq_some_iff.1 hv).1
  have hh : headB v.pr i = true := by
    have hR : progR (prs L) = progL (prs L) (prs L) 0 := by
      unfold progR
      rw [if_neg (by rw [List.isEmpty_iff]; intro e; have := prs_len L; rw [e] at this; simp at this; omega)]
    rw [hR] at hok
    have e := (progL_all (prs L) 0 hok i v.pr (by unfold prs; rw [List.getElem?_map, hv]; rfl)).1
    rwa [Nat.zero_add] at e
  have HP := program_any psa pcap L w hps
  generalize hpr : progR (prs L) = r at *
  obtain ⟨ri, rp, re⟩ := r
  dsimp only at hok
  subst hok
  have HP := hide HP
  have hn : inB (i : Int) L.length = true := by simp [inB]; omega
  have HPA := hide @proto_any
  have HPS := hide (And.intro hps (And.intro hv (And.intro hr hh)))
  clear hps hv hr hh hi hpr
  go_enter Try.func10, Try.ntmps10
  go_upto_region 4 with (first
    | (go_at_call 17; refine (in_any _ _ _).mono ?_; rintro e w2 ⟨rfl, rfl⟩)
    | (go_at_call 7; refine HP.out.mono ?_; rintro e w1 ⟨rfl, hb1⟩))
  obtain ⟨hps, hv, hr, hh⟩ := HPS.out
  have hps2 := hps.below hb1
  have H2 := hide (And.intro hps2 hb1)
  clear hps hps2 hb1
  refine wp_region_lit ?_
  refine wpList_runs 1 ⟨#[.slice psa L.length pcap, .int .i64 i, Go.undef, Go.undef, .slice none 0 0, .int .i64 ri, .int .i64 rp, .int .i64 0, Go.undef, Go.undef, Go.undef, .tuple #[.int .i64 ri, .int .i64 rp, .int .i64 0], .slice psa L.length pcap, .tuple #[.int .i64 ri, .int .i64 rp, .int .i64 0],
      .int .i64 ri, .int .i64 rp, .int .i64 0, .int .i64 0, .bool false, .bool false, .int .i64 i, .slice psa L.length pcap, .int .i64 L.length, .bool true, .bool false, .bool false, Go.undef, .slice psa L.length pcap] ++ Array.replicate 13 Go.undef, []⟩ w2 (by kernel_rfl) ?_
  refine wpList_callTo rfl (some 28) rfl 13 #[] (by kernel_rfl) (.agg ⟨wantsV⟩) _ (wants_any _) ?_
  refine wpList_callTo rfl (some 29) rfl 14 #[] (by kernel_rfl) _ _ (prims_any _) ?_
  refine wpList_runs 3 ⟨#[.slice psa L.length pcap, .int .i64 i, Go.undef, Go.undef, .slice none 0 0, .int .i64 ri, .int .i64 rp, .int .i64 0, Go.undef, Go.undef, Go.undef, .tuple #[.int .i64 ri, .int .i64 rp, .int .i64 0], .slice psa L.length pcap, .tuple #[.int .i64 ri, .int .i64 rp, .int .i64 0],
      .int .i64 ri, .int .i64 rp, .int .i64 0, .int .i64 0, .bool false, .bool false, .int .i64 i, .slice psa L.length pcap, .int .i64 L.length, .bool true, .bool false, .bool false, Go.undef, .slice psa L.length pcap,
      .agg ⟨wantsV⟩, .slice (some ⟨(w2.alloc (.cells ⟨wantsV⟩ 49)).heap.size, 0, none⟩) 92 92, .agg ⟨chkCells (.slice psa L.length pcap) (.slice (some ⟨(w2.alloc (.cells ⟨wantsV⟩ 49)).heap.size, 0, none⟩) 92 92)⟩, .pointer (some ⟨((w2.alloc (.cells ⟨wantsV⟩ 49)).alloc (.cells ⟨primsV⟩ 67)).heap.size, 0, none⟩), .int .i64 i] ++ Array.replicate 8 Go.undef, []⟩
    (((w2.alloc (.cells ⟨wantsV⟩ 49)).alloc (.cells ⟨primsV⟩ 67)).alloc (.cells ⟨chkCells (.slice psa L.length pcap) (.slice (some ⟨(w2.alloc (.cells ⟨wantsV⟩ 49)).heap.size, 0, none⟩) 92 92)⟩ 54)) (by kernel_rfl) ?_
  obtain ⟨pb, hpb⟩ : ∃ pb, (w2.alloc (.cells ⟨wantsV⟩ 49)).heap.size = pb := ⟨_, rfl⟩
  obtain ⟨cb, hcb⟩ : ∃ cb, ((w2.alloc (.cells ⟨wantsV⟩ 49)).alloc (.cells ⟨primsV⟩ 67)).heap.size = cb := ⟨_, rfl⟩
  rw [hpb, hcb]
  have hcc : ChkAt (((w2.alloc (.cells ⟨wantsV⟩ 49)).alloc (.cells ⟨primsV⟩ 67)).alloc (.cells ⟨chkCells (.slice psa L.length pcap) (.slice (some ⟨pb, 0, none⟩) 92 92)⟩ 54)) cb pb (.slice psa L.length pcap) := by
    obtain ⟨e1, e2, e3⟩ := blk3 w2 (.cells ⟨wantsV⟩ 49) (.cells ⟨primsV⟩ 67) (.cells ⟨chkCells (.slice psa L.length pcap) (.slice (some ⟨pb, 0, none⟩) 92 92)⟩ 54)
    rw [Deep.nblk_alloc] at hpb hcb
    rw [Deep.nblk_alloc] at hcb
    subst hcb hpb
    exact ⟨e2, e1⟩
  have hb : Below w2.heap.size w2 (((w2.alloc (.cells ⟨wantsV⟩ 49)).alloc (.cells ⟨primsV⟩ 67)).alloc (.cells ⟨chkCells (.slice psa L.length pcap) (.slice (some ⟨pb, 0, none⟩) 92 92)⟩ 54)) :=
    (((Below.refl _ w2).alloc (Nat.le_refl _) _).alloc (by rw [Deep.nblk_alloc]; omega) _).alloc (by rw [Deep.nblk_alloc, Deep.nblk_alloc]; omega) _
  have hps := H2.out.1.below hb
  have hbw := H2.out.2.trans (hb.mono H2.out.2.size)
  generalize (((w2.alloc (.cells ⟨wantsV⟩ 49)).alloc (.cells ⟨primsV⟩ 67)).alloc (.cells ⟨chkCells (.slice psa L.length pcap) (.slice (some ⟨pb, 0, none⟩) 92 92)⟩ 54)) = W at *
  generalize Value.agg ⟨wantsV⟩ = x14
  generalize Value.agg ⟨chkCells (.slice psa L.length pcap) (.slice (some ⟨pb, 0, none⟩) 92 92)⟩ = x16
  clear hcb hpb
  have hpa := HPA.out cb pb psa pcap L i v W hcc hps hv hh
  rw [hr] at hpa
  have HC := hide (And.intro hpa hbw)
  clear hcc hps hb hbw hv hr hh hpa HPA HPS H2 HP
  simp only [List.append_toArray, Array.replicate_succ, Array.replicate_zero, List.push_toArray, List.nil_append, List.cons_append]
  obtain ⟨nc, hnc⟩ : ∃ nc, v.pr.code.length = nc := ⟨_, rfl⟩
  rw [hnc] at HC
  go_wp2_with (go_at_call 16; refine HC.out.1.mono ?_; rintro e w3 ⟨hb3, pblk, db, rfl, h7, hrow, hdl, hge, hlt⟩)
  go_ret
  exact depths_some rfl hrow hdl (HC.out.2.trans (hb3.mono HC.out.2.size))

end Go.Proofs.Ytmlmepbnjlepnaa
