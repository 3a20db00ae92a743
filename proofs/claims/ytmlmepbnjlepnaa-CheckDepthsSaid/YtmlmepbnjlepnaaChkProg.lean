/-
  The walk of check.Program.
-/
import Derived.Test.YtmlmepbnjlepnaaChkProto
import Derived.Great.BuildSlice
namespace Go.Proofs.Ytmlmepbnjlepnaa
open Go.RowKit Go.BigFrame

theorem step_bad {ps : List Pr} {p : Pr} {s : St} {pc : Nat} {e : Int} (h : step ps p s = .bad pc e) : e ≠ 0 := by
  unfold step at h
  split at h
  · cases h
  · unfold work at h
    dsimp only at h
    split at h
    · rename_i h1; cases h; exact h1
    · split at h
      · rename_i h1; cases h; exact h1
      · split at h
        · cases h; decide
        · split at h
          · cases h; decide
          · cases h

theorem runP_err {ps : List Pr} {p : Pr} : ∀ (f : Nat) (s : St) (pc : Nat) (e : Int), runP ps p f s = some (.bad pc e) → e ≠ 0
  | 0, _, _, _, h => by cases h
  | f + 1, s, pc, e, h => by
    unfold runP at h
    split at h
    · cases hst : step ps p s with
      | bad pc' e' =>
        rw [hst] at h
        simp only [Option.some.injEq, Res.bad.injEq] at h
        rw [← h.2]; exact step_bad hst
      | go s' => rw [hst] at h; exact runP_err f s' pc e h
    · cases h

theorem protoR_err {ps : List Pr} {p : Pr} {pc : Nat} {e : Int} (h : protoR ps p = .bad pc e) : e ≠ 0 := by
  unfold protoR at h
  cases hr : runP ps p (fuel p) (start p) with
  | none => rw [hr] at h; cases h
  | some r => rw [hr] at h; exact runP_err _ _ _ _ (by rw [hr]; exact congrArg some h)

theorem prs_drop {L : List PrV} {i : Nat} {v : PrV} (h : L[i]? = some v) : (prs L).drop i = v.pr :: (prs L).drop (i + 1) := by
  have hi : i < (prs L).length := by rw [prs_len]; exact (List.getElem?_eq_some_iff.1 h).1
  rw [List.drop_eq_getElem_cons hi]
  congr 1
  have : (prs L)[i]? = some v.pr := by unfold prs; rw [List.getElem?_map, h]; rfl
  rw [List.getElem?_eq_getElem hi] at this
  exact Option.some.inj this

theorem progL_head {ps r : List Pr} {p : Pr} {i : Nat} (h : headB p i = false) : progL ps (p :: r) i = (i, 0, 33) := by
  unfold progL; rw [if_pos h]
theorem progL_bad {ps r : List Pr} {p : Pr} {i pc : Nat} {e : Int} (h : headB p i = true) (hr : protoR ps p = .bad pc e) : progL ps (p :: r) i = (i, pc, e) := by
  unfold progL; rw [if_neg (by rw [h]; decide), hr]
theorem progL_ok {ps r : List Pr} {p : Pr} {i : Nat} {ds : List Int} (h : headB p i = true) (hr : protoR ps p = .ok ds) : progL ps (p :: r) i = progL ps r (i + 1) := by
  conv => lhs; unfold progL
  rw [if_neg (by rw [h]; decide), hr]

theorem blk3 (w : World) (a b c : Obj) : (((w.alloc a).alloc b).alloc c).heap[w.heap.size + 1]? = some b ∧ (((w.alloc a).alloc b).alloc c).heap[w.heap.size + 2]? = some c ∧ (((w.alloc a).alloc b).alloc c).heap.size = w.heap.size + 3 := by
  refine ⟨?_, ?_, ?_⟩
  · rw [Deep.blk_alloc_lt _ _ _ (by rw [Deep.nblk_alloc, Deep.nblk_alloc]; omega)]
    have e := Deep.blk_alloc_new (w.alloc a) b
    rwa [Deep.nblk_alloc] at e
  · have e := Deep.blk_alloc_new ((w.alloc a).alloc b) c
    rwa [Deep.nblk_alloc, Deep.nblk_alloc] at e
  · rw [Deep.nblk_alloc, Deep.nblk_alloc, Deep.nblk_alloc]

set_option maxRecDepth 100000 in
set_option maxHeartbeats 4000000 in
theorem program_any (psa : Option Addr) (pcap : Nat) (L : List PrV) (w : World) (hps : PsAt w psa L) :
    Calls Try.prog 7 #[.slice psa L.length pcap] w fun e w' => e = .returned (.tuple #[.int .i64 (progR (prs L)).1, .int .i64 (progR (prs L)).2.1, .int .i64 (progR (prs L)).2.2]) ∧ Below w.heap.size w w' := by
  by_cases h0 : L.length = 0
  · have hR : progR (prs L) = (0, 0, 30) := by
      obtain rfl : L = [] := List.eq_nil_of_length_eq_zero h0
      rfl
    rw [hR, h0]
    clear hps
    go_enter Try.func7, Try.ntmps7
    go_wp2
    exact bodyPost_ret (v := .tuple #[.int .i64 0, .int .i64 0, .int .i64 30]) (by simp [results, Try.results7, go_sem]) rfl ⟨rfl, Below.refl _ _⟩
  · have hR : progR (prs L) = progL (prs L) ((prs L).drop 0) 0 := by
      unfold progR
      rw [if_neg (by rw [List.isEmpty_iff]; intro e; have := prs_len L; rw [e] at this; exact h0 this.symm), List.drop_zero]
    have hlen := hps.len
    have h0' : ((L.length : Int) == 0) = false := beq_eq_false_iff_ne.2 (by omega)
    have HP := hide (And.intro hps hR)
    clear hps hR h0
    have HPA := hide @proto_any
    go_enter Try.func7, Try.ntmps7
    go_upto_region 3 with (fail)
    refine wp_region_lit ?_
    refine wpList_runs 1 ⟨#[.slice psa L.length pcap, Go.undef, .int .i64 0, .int .i64 0, .int .i64 0, Go.undef, Go.undef, Go.undef, Go.undef, Go.undef, .slice psa L.length pcap, .int .i64 L.length, .bool false, .slice psa L.length pcap] ++ Array.replicate 27 Go.undef, []⟩ w (by kernel_rfl) ?_
    refine wpList_callTo rfl (some 14) rfl 13 #[] (by kernel_rfl) (.agg ⟨wantsV⟩) _ (wants_any _) ?_
    refine wpList_callTo rfl (some 15) rfl 14 #[] (by kernel_rfl) _ _ (prims_any _) ?_
    refine wpList_runs 3 ⟨#[.slice psa L.length pcap, Go.undef, .int .i64 0, .int .i64 0, .int .i64 0, .pointer (some ⟨((w.alloc (.cells ⟨wantsV⟩ 49)).alloc (.cells ⟨primsV⟩ 67)).heap.size, 0, none⟩), Go.undef, Go.undef, Go.undef, Go.undef, .slice psa L.length pcap, .int .i64 L.length, .bool false, .slice psa L.length pcap,
        .agg ⟨wantsV⟩, .slice (some ⟨(w.alloc (.cells ⟨wantsV⟩ 49)).heap.size, 0, none⟩) 92 92, .agg ⟨chkCells (.slice psa L.length pcap) (.slice (some ⟨(w.alloc (.cells ⟨wantsV⟩ 49)).heap.size, 0, none⟩) 92 92)⟩, .pointer (some ⟨((w.alloc (.cells ⟨wantsV⟩ 49)).alloc (.cells ⟨primsV⟩ 67)).heap.size, 0, none⟩)] ++ Array.replicate 23 Go.undef, []⟩
      (((w.alloc (.cells ⟨wantsV⟩ 49)).alloc (.cells ⟨primsV⟩ 67)).alloc (.cells ⟨chkCells (.slice psa L.length pcap) (.slice (some ⟨(w.alloc (.cells ⟨wantsV⟩ 49)).heap.size, 0, none⟩) 92 92)⟩ 54)) (by kernel_rfl) ?_
    refine wpList_nil ?_
    obtain ⟨pb, hpb⟩ : ∃ pb, (w.alloc (.cells ⟨wantsV⟩ 49)).heap.size = pb := ⟨_, rfl⟩
    obtain ⟨cb, hcb⟩ : ∃ cb, ((w.alloc (.cells ⟨wantsV⟩ 49)).alloc (.cells ⟨primsV⟩ 67)).heap.size = cb := ⟨_, rfl⟩
    rw [hpb, hcb]
    have hcc : ChkAt (((w.alloc (.cells ⟨wantsV⟩ 49)).alloc (.cells ⟨primsV⟩ 67)).alloc (.cells ⟨chkCells (.slice psa L.length pcap) (.slice (some ⟨pb, 0, none⟩) 92 92)⟩ 54)) cb pb (.slice psa L.length pcap) := by
      obtain ⟨e1, e2, e3⟩ := blk3 w (.cells ⟨wantsV⟩ 49) (.cells ⟨primsV⟩ 67) (.cells ⟨chkCells (.slice psa L.length pcap) (.slice (some ⟨pb, 0, none⟩) 92 92)⟩ 54)
      rw [Deep.nblk_alloc] at hpb hcb
      rw [Deep.nblk_alloc] at hcb
      subst hcb hpb
      exact ⟨e2, e1⟩
    have hb : Below w.heap.size w (((w.alloc (.cells ⟨wantsV⟩ 49)).alloc (.cells ⟨primsV⟩ 67)).alloc (.cells ⟨chkCells (.slice psa L.length pcap) (.slice (some ⟨pb, 0, none⟩) 92 92)⟩ 54)) :=
      (((Below.refl _ w).alloc (Nat.le_refl _) _).alloc (by rw [Deep.nblk_alloc]; omega) _).alloc (by rw [Deep.nblk_alloc, Deep.nblk_alloc]; omega) _
    have hps := HP.out.1.below hb
    generalize (((w.alloc (.cells ⟨wantsV⟩ 49)).alloc (.cells ⟨primsV⟩ 67)).alloc (.cells ⟨chkCells (.slice psa L.length pcap) (.slice (some ⟨pb, 0, none⟩) 92 92)⟩ 54)) = W at *
    generalize Value.agg ⟨wantsV⟩ = x14
    generalize Value.agg ⟨chkCells (.slice psa L.length pcap) (.slice (some ⟨pb, 0, none⟩) 92 92)⟩ = x16
    clear hcb hpb
    have HC := hide (And.intro hcc (And.intro hps hb))
    clear hcc hps hb
    simp only [List.append_toArray, Array.replicate_succ, Array.replicate_zero, List.push_toArray, List.nil_append, List.cons_append]
    go_wp2
    go_loopw [20] (fun c wr => ∃ i : Nat, i ≤ L.length ∧ c = .int .i64 i ∧ progL (prs L) ((prs L).drop i) i = progR (prs L) ∧ Below W.heap.size W wr)
      (fun c _ => L.length - (intOf c).toNat)
    case atStart => exact ⟨0, Nat.zero_le _, rfl, HP.out.2.symm, Below.refl _ _⟩
    case round =>
      obtain ⟨i, hil, rfl, hp, hb⟩ := hrel
      have hbw := HC.out.2.2.trans (hb.mono HC.out.2.2.size)
      by_cases hlt : i < L.length
      · obtain ⟨v, hv⟩ : ∃ v, L[i]? = some v := ⟨_, List.getElem?_eq_getElem hlt⟩
        have hch := HC.out.1.below hb
        have hps := HC.out.2.1.below hb
        have hlt' : (i : Int) < L.length := by omega
        rw [prs_drop hv] at hp
        have hhd := head_any cb pb psa pcap L i v wr hch hps hv
        cases hh : headB v.pr i
        · rw [progL_head hh] at hp
          rw [hh] at hhd
          have HHD := hide hhd
          have HR := hide (And.intro hp hbw)
          clear hp hb hbw hv hch hps hhd hh
          go_wp2_with (go_at_call 15; refine HHD.out.mono ?_; rintro e w2 ⟨rfl, hb2⟩)
          refine bodyPost_ret (v := .tuple #[.int .i64 i, .int .i64 0, .int .i64 33]) (by simp [results, Try.results7, go_sem]) rfl ⟨?_, HR.out.2.trans (hb2.mono HR.out.2.size)⟩
          rw [← HR.out.1]; rfl
        · rw [hh] at hhd
          have HHD := hide hhd
          have HPP := hide (fun (w2 : World) (hb2 : Below wr.heap.size wr w2) => HPA.out cb pb psa pcap L i v w2 (hch.below hb2) (hps.below hb2) hv hh)
          cases hr : protoR (prs L) v.pr with
          | bad pc er =>
            rw [progL_bad hh hr] at hp
            rw [hr] at HPP
            have her : (er != 0) = true := by simpa using protoR_err hr
            have HR := hide (And.intro hp hbw)
            clear hp hb hbw hv hch hps hhd hh hr
            go_wp2_with (first
              | (go_at_call 15; refine HHD.out.mono ?_; rintro e w2 ⟨rfl, hb2⟩)
              | (go_at_call 16; refine (HPP.out _ hb2).mono ?_; rintro e w3 ⟨hb3, rfl⟩))
            refine bodyPost_ret (v := .tuple #[.int .i64 i, .int .i64 pc, .int .i64 er]) (by simp [results, Try.results7, go_sem]) rfl ⟨?_, (HR.out.2.trans (hb2.mono HR.out.2.size)).trans (hb3.mono (Nat.le_trans HR.out.2.size hb2.size))⟩
            rw [← HR.out.1]
          | ok ds =>
            rw [progL_ok hh hr] at hp
            rw [hr] at HPP
            have HR := hide (And.intro hp hb)
            clear hp hb hbw hv hch hps hhd hh hr
            go_wp2_with (first
              | (go_at_call 15; refine HHD.out.mono ?_; rintro e w2 ⟨rfl, hb2⟩)
              | (go_at_call 16; refine (HPP.out _ hb2).mono ?_; rintro e w3 ⟨hb3, pblk, db, rfl, -⟩))
            obtain ⟨hp, hb⟩ := HR.out
            exact ⟨⟨i + 1, by omega, by go_num, hp, (hb.trans (hb2.mono hb.size)).trans (hb3.mono (Nat.le_trans hb.size hb2.size))⟩, by simp [intOf]; omega⟩
      · obtain rfl : i = L.length := by omega
        rw [← prs_len, List.drop_length] at hp
        have HR := hide (And.intro hp hbw)
        clear hp hb hbw
        go_wp2
        refine bodyPost_ret (v := .tuple #[.int .i64 0, .int .i64 0, .int .i64 0]) (by simp [results, Try.results7, go_sem]) rfl ⟨?_, HR.out.2⟩
        rw [← HR.out.1]; rfl

end Go.Proofs.Ytmlmepbnjlepnaa
