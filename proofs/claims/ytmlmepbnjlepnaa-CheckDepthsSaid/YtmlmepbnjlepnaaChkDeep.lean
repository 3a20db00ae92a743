/-
  The walk of the law CheckDepths: whatever the protos and the place, both answer alike. No condition.
-/
import Derived.Test.YtmlmepbnjlepnaaChkRProg
import Derived.Test.YtmlmepbnjlepnaaChkCopyP
namespace Go.Proofs.Ytmlmepbnjlepnaa
open Go.RowKit Go.BigFrame
set_option linter.unusedSimpArgs false
set_option linter.unusedVariables false

theorem runP_len {ps : List Pr} {p : Pr} {ds : List Int} : ∀ (f : Nat) (s : St), Fine p s → runP ps p f s = some (.ok ds) → ds.length = p.code.length
  | 0, s, _, h => by cases h
  | f + 1, s, hf, h => by
    unfold runP at h
    split at h
    · rename_i hpc
      cases hst : step ps p s with
      | bad pc e => rw [hst] at h; cases h
      | go s' => rw [hst] at h; exact runP_len f s' (step_fine hf hpc hst).1 h
    · cases h; exact hf.1

theorem depthsR_len {ps : List Pr} {n : Int} {B : Nat} (h : ∀ p ∈ ps, p.code.length ≤ B) : (depthsR ps n).length ≤ B := by
  unfold depthsR
  split
  · simp
  · rename_i hok
    have hok1 : (progR ps).2.2 = 0 := by
      by_cases e : (progR ps).2.2 = 0
      · exact e
      · exact absurd (.inl e) hok
    split
    · rename_i p hp
      split
      · rename_i ds hds
        have hR : progR ps = progL ps ps 0 := by
          unfold progR
          rw [if_neg (by rw [List.isEmpty_iff]; intro e; rw [e] at hp; simp at hp)]
        have e := (progL_all ps 0 (by rw [← hR]; exact hok1) n.toNat p hp).1
        obtain ⟨f1, f2, f3, f4⟩ := head_facts e
        have hrun := protoR_run (ps := ps) f1 f3 f4
        rw [hds] at hrun
        rw [runP_len _ _ (start_fine f1 f3 f4) hrun]
        exact h p (List.mem_of_getElem? hp)
      · simp
    · simp

/-- A slice of these ints. -/
def IntsS (w : World) (v : Value) (l : List Int) : Prop := ∃ psl cap, v = .slice psl l.length cap ∧ ∀ i, i < l.length → ∃ g, psl = some ⟨g, 0, none⟩ ∧ g < w.heap.size ∧ w.cell? ⟨g, i, none⟩ = some (.int .i64 (l.getD i 0))

theorem IntsS.below {w w' : World} {v : Value} {l : List Int} (h : IntsS w v l) (hb : Below w.heap.size w w') : IntsS w' v l := by
  obtain ⟨p, c, h1, h2⟩ := h
  refine ⟨p, c, h1, fun i hi => ?_⟩
  obtain ⟨g, e1, e2, e3⟩ := h2 i hi
  exact ⟨g, e1, Nat.lt_of_lt_of_le e2 hb.size, (hb.cell (p := ⟨g, i, none⟩) e2).trans e3⟩

theorem depths_ints {w : World} {l : List Int} {e : Ending} {w' : World} (h : DepthsDone w l e w') : ∃ v, e = .returned v ∧ IntsS w' v l ∧ Below w.heap.size w w' := by
  obtain ⟨p, c, h1, h2, h3⟩ := h
  exact ⟨_, h1, ⟨p, c, rfl, h2⟩, h3⟩

set_option maxRecDepth 100000 in
set_option maxHeartbeats 2000000 in
theorem sameInts_any (l : List Int) (hlen : l.length ≤ 5864062014635) {v1 v2 : Value} (w : World) (h1 : IntsS w v1 l) (h2 : IntsS w v2 l) : Calls Try.prog 9 #[v1, v2] w fun e w' => e = .returned (.bool true) ∧ Below w.heap.size w w' := by
  obtain ⟨p1, c1, rfl, hc1⟩ := h1
  obtain ⟨p2, c2, rfl, hc2⟩ := h2
  obtain ⟨n, hn⟩ : ∃ n, l.length = n := ⟨_, rfl⟩
  have HI := hide (And.intro hn (And.intro hc1 hc2))
  rw [hn] at hlen ⊢
  clear hn hc1 hc2
  go_enter Try.func9, Try.ntmps9
  go_wp2
  go_loopw [5] (fun c5 wr => ∃ k : Nat, k ≤ n ∧ c5 = .int .i64 k ∧ Below w.heap.size w wr) (fun c5 _ => n - (intOf c5).toNat)
  case atStart => exact ⟨0, Nat.zero_le _, rfl, Below.refl _ _⟩
  case round =>
    obtain ⟨k, hk, rfl, hb⟩ := hrel
    by_cases hlt : k < n
    · obtain ⟨hn, hc1, hc2⟩ := HI.out
      obtain ⟨g1, e1, hg1, hx1⟩ := hc1 k (by omega)
      obtain ⟨g2, e2, hg2, hx2⟩ := hc2 k (by omega)
      subst e1 e2
      obtain ⟨x, hx⟩ : ∃ x, l.getD k 0 = x := ⟨_, rfl⟩
      rw [hx] at hx1 hx2
      have f1 := (hb.cell (p := ⟨g1, k, none⟩) hg1).trans hx1
      have f2 := (hb.cell (p := ⟨g2, k, none⟩) hg2).trans hx2
      have hl1 := Nat.lt_of_lt_of_le hg1 hb.size
      have hl2 := Nat.lt_of_lt_of_le hg2 hb.size
      have hlt' : (k : Int) < n := by omega
      have hk0 : (0 : Int) ≤ k := by omega
      have HB := hide hb
      clear hc1 hc2 hn hb HI hx hx1 hx2
      go_upto_region 6 with fail
      go_quiet (fail)
      go_wp2
      exact ⟨⟨k + 1, by omega, by go_num, by repeat (first | exact HB.out | apply Below.drew | apply below_drewN)⟩, by simp [intOf]; omega⟩
    · have : k = n := by omega
      subst this
      have HB := hide hb
      clear hb
      go_wp2
      go_ret
      exact ⟨rfl, HB.out⟩

set_option maxRecDepth 100000 in
set_option maxHeartbeats 4000000 in
theorem checkDepths_any (psa : Option Addr) (cap : Nat) (L : List PrV) (n : Int) (w : World) (hps : PsAt w psa L) (hsrc : ∀ v ∈ L, SrcR w v) (hlen : L.length ≤ 1256584717421) :
    Calls Try.prog 4 #[.slice psa L.length cap, .int .i64 n] w fun e w' => e = .returned (.bool true) ∧ Below w.heap.size w w' := by
  have HC := hide (copyProtos_any psa cap L w hps hsrc hlen)
  have HD := hide (fun w1 (hb : Below w.heap.size w w1) => rdepths_any psa cap L n w1 (hps.below hb))
  have hdl : (depthsR (prs L) n).length ≤ 5864062014635 := depthsR_len fun p hp => by
    obtain ⟨v, hv, rfl⟩ := List.mem_map.1 hp
    exact hps.nk v hv
  have HL := hide hdl
  clear hps hsrc hdl
  obtain ⟨m, hm⟩ : ∃ m, L.length = m := ⟨_, rfl⟩
  rw [hm] at HC HD ⊢
  clear hm
  go_enter Try.func4, Try.ntmps4
  go_wp2_with (go_at_call 11; fail)
  refine HC.out.mono ?_
  rintro e w1 ⟨psa', cap', L', rfl, hps', hprs, hb1⟩
  have HX := hide (depths_any psa' cap' L' n w1 hps')
  rw [hprs] at HX
  have HB1 := hide hb1
  clear hps' hprs hb1
  go_wp2_with (go_at_call 10; fail)
  refine HX.out.mono ?_
  intro e w2 hd2
  obtain ⟨v2, rfl, hi2, hb2⟩ := depths_ints hd2
  have HB2 := hide (And.intro hi2 (HB1.out.trans (hb2.mono HB1.out.size)))
  clear hd2 hi2 hb2
  go_wp2_with (go_at_call 12; fail)
  refine (HD.out w2 HB2.out.2).mono ?_
  intro e w3 hd3
  obtain ⟨v3, rfl, hi3, hb3⟩ := depths_ints hd3
  have HB3 := hide (And.intro (HB2.out.1.below hb3) (And.intro hi3 (HB2.out.2.trans (hb3.mono HB2.out.2.size))))
  clear hd3 hi3 hb3
  go_wp2_with (go_at_call 9; fail)
  refine (sameInts_any _ HL.out w3 HB3.out.1 HB3.out.2.1).mono ?_
  rintro e w4 ⟨rfl, hb4⟩
  have HB4 := hide (HB3.out.2.2.trans (hb4.mono HB3.out.2.2.size))
  clear hb4
  go_wp2_with (go_at_call 8; fail)
  refine (awake_any w4).mono ?_
  rintro e w5 ⟨rfl, hb5⟩
  have HB5 := hide (HB4.out.trans (hb5.mono HB4.out.size))
  clear hb5
  go_wp2
  go_ret
  exact ⟨rfl, HB5.out⟩

end Go.Proofs.Ytmlmepbnjlepnaa
