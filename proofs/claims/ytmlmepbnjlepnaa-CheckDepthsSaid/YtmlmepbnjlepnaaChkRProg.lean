/-
  The walks of the document's Program and Depths; check.Depths in one contract.
-/
import Derived.Test.YtmlmepbnjlepnaaChkRWalk
import Derived.Test.YtmlmepbnjlepnaaChkDepths
namespace Go.Proofs.Ytmlmepbnjlepnaa
open Go.RowKit Go.BigFrame
set_option linter.unusedSimpArgs false
set_option linter.unusedVariables false

theorem in_len (n : Nat) : inB ((n : Int) - 1) 65536 = (decide (1 ≤ n) && decide (n ≤ 65536)) := by
  unfold inB
  congr 1
  · simp only [decide_eq_decide]; omega
  · simp only [decide_eq_decide]; omega

theorem genP {P : Program} {c : Code} {Q : Exit → Act → World → Prop} {a : Act} {w0 : World} (F : World → Prop) (h : F w0) (k : ∀ W, F W → Code.wp P c Q a W) : Code.wp P c Q a w0 := k _ h

theorem rwalk_bad {w : World} {r : Res} {e : Ending} {w' : World} {pc : Nat} {er : Int} (h : RWalkDone w r e w') (hr : r = .bad pc er) : e = .returned (.tuple #[.slice none 0 0, .int .i64 pc, .int .i64 er]) ∧ Below w.heap.size w w' := by
  subst hr; exact ⟨h.2, h.1⟩
theorem rwalk_ok {w : World} {r : Res} {e : Ending} {w' : World} {ds : List Int} (h : RWalkDone w r e w') (hr : r = .ok ds) : ∃ g, e = .returned (.tuple #[.slice (some ⟨g, 0, none⟩) ds.length ds.length, .int .i64 0, .int .i64 0]) ∧ w'.rowIs g 3 ds.length (fun i => .int .i64 (ds.getD i 0)) ∧ Below w.heap.size w w' := by
  subst hr
  obtain ⟨hb, g, h1, h2⟩ := h
  exact ⟨g, h1, h2, hb⟩

theorem head_facts {p : Pr} {i : Nat} (h : headB p i = true) : 1 ≤ p.code.length ∧ p.code.length ≤ 65536 ∧ 0 ≤ p.args ∧ p.args ≤ 64 := by
  simp [headB, inB] at h
  omega

set_option maxRecDepth 100000 in
set_option maxHeartbeats 8000000 in
theorem rprogram_any (psa : Option Addr) (pcap : Nat) (L : List PrV) (w : World) (hps : PsAt w psa L) :
    Calls Try.prog 19 #[.slice psa L.length pcap] w fun e w' => e = .returned (.tuple #[.int .i64 (progR (prs L)).1, .int .i64 (progR (prs L)).2.1, .int .i64 (progR (prs L)).2.2]) ∧ Below w.heap.size w w' := by
  have hlen := hps.len
  obtain ⟨n, hn⟩ : ∃ n, L.length = n := ⟨_, rfl⟩
  have HI := hide (And.intro hn hps)
  rw [hn] at hlen ⊢
  clear hn hps
  by_cases h0 : n = 0
  · have hR : progR (prs L) = (0, 0, 30) := by
      have : L = [] := List.eq_nil_of_length_eq_zero (by have := HI.out.1; omega)
      subst this; rfl
    rw [hR]
    subst h0
    go_enter Try.func19, Try.ntmps19
    go_wp2
    go_ret3
    exact ⟨rfl, Below.refl _ _⟩
  · have hR : progR (prs L) = progL (prs L) ((prs L).drop 0) 0 := by
      unfold progR
      rw [if_neg (by rw [List.isEmpty_iff]; intro e; have := prs_len L; rw [e] at this; have := HI.out.1; simp at *; omega), List.drop_zero]
    obtain ⟨r, hr⟩ : ∃ r, progR (prs L) = r := ⟨_, rfl⟩
    rw [hr] at hR ⊢
    obtain ⟨ri, rp, re⟩ := r
    dsimp only
    have HR := hide hR
    clear hR hr
    have hnb : ((n : Int) == 0) = false := beq_eq_false_iff_ne.2 (by omega)
    go_enter Try.func19, Try.ntmps19
    go_wp2
    go_loopw [5] (fun c5 wr => ∃ i : Nat, i ≤ n ∧ c5 = .int .i64 i ∧ (ri, rp, re) = progL (prs L) ((prs L).drop i) i ∧ Below w.heap.size w wr) (fun c5 _ => n - (intOf c5).toNat)
    case atStart => exact ⟨0, Nat.zero_le _, rfl, HR.out, Below.refl _ _⟩
    case round =>
      clear HR
      obtain ⟨i, hin, rfl, hR, hb⟩ := hrel
      by_cases hlt : i < n
      · obtain ⟨hn, hps⟩ := HI.out
        obtain ⟨b, o, v, rfl, hbl, hv, hc⟩ := hps.row i (by omega)
        have hmem := List.mem_of_getElem? hv
        have e0 := (hb.cell (p := ⟨b, o + i * 7 + 0, none⟩) hbl).trans (hc 0 (by omega))
        have e1 := (hb.cell (p := ⟨b, o + i * 7 + 1, none⟩) hbl).trans (hc 1 (by omega))
        have e2 := (hb.cell (p := ⟨b, o + i * 7 + 2, none⟩) hbl).trans (hc 2 (by omega))
        have e3 := (hb.cell (p := ⟨b, o + i * 7 + 3, none⟩) hbl).trans (hc 3 (by omega))
        have e4 := (hb.cell (p := ⟨b, o + i * 7 + 4, none⟩) hbl).trans (hc 4 (by omega))
        have e5 := (hb.cell (p := ⟨b, o + i * 7 + 5, none⟩) hbl).trans (hc 5 (by omega))
        have e6 := (hb.cell (p := ⟨b, o + i * 7 + 6, none⟩) hbl).trans (hc 6 (by omega))
        have hnk := hps.nk v hmem
        have hdrop := prs_drop hv
        obtain ⟨nm, ⟨pa, pf, pr, code, nc, nn⟩, ca, ccap, ka, kcap, na, ncap⟩ := v
        simp only [Nat.add_zero, PrV.cells, List.getElem?_cons_zero, List.getElem?_cons_succ] at e0 e1 e2 e3 e4 e5 e6
        dsimp only at hnk hdrop
        rw [hdrop] at hR
        obtain ⟨cl, hcl⟩ : ∃ cl, code.length = cl := ⟨_, rfl⟩
        rw [hcl] at e4 hnk
        have hbl' : b < wr.heap.size := Nat.lt_of_lt_of_le hbl hb.size
        have hlt' : (i : Int) < n := by omega
        have hi0 : (0 : Int) ≤ i := by omega
        have HX := hide (And.intro hR (And.intro hb (And.intro hmem (And.intro hcl (And.intro hps hn)))))
        clear hR hb hmem hps hc hv hdrop hcl hn
        obtain ⟨hd, hhd⟩ : ∃ hd, headB ⟨pa, pf, pr, code, nc, nn⟩ i = hd := ⟨_, rfl⟩
        have HHd := hide hhd
        clear hhd
        go_upto_region 7 with fail
        refine genP (fun U => U.heap[wr.heap.size]? = some (.cells #[.string nm, .int .i64 pa, .int .i64 pf, .bool pr, .slice ca cl ccap, .slice ka nc kcap, .slice na nn ncap] 32 (0, 0)) ∧ Below wr.heap.size wr U) ⟨Deep.blk_alloc_new wr _, (Below.refl _ _).alloc (Nat.le_refl _) _⟩ ?_
        rintro U ⟨hbox, hbU⟩
        obtain ⟨bx, hbx⟩ : ∃ bx, wr.heap.size = bx := ⟨_, rfl⟩
        rw [hbx] at hbox
        simp only [hbx]
        have HU := hide (And.intro hbox hbU)
        obtain ⟨d0, d1, d2, d3, d4, d5, d6, hbxl⟩ := rw_cells hbox
        clear e0 e1 e2 e3 e4 e5 e6 hbox hbU
        go_cut [58] from 13 to 71 (fun s58 wx => s58 = .bool (!hd) ∧ wx = U)
        case first => as_aux_lemma =>
          have hil : inB ((cl : Int) - 1) 65536 = (decide (1 ≤ cl) && decide (cl ≤ 65536)) := in_len cl
          have HIL := hide hil
          clear hil
          have hheq : hd = (inB pa 65 && inB pf 4097 && inB ((cl : Int) - 1) 65536 && (decide (0 < i) || (decide (pa = 0) && !pr && decide (pf = 0)))) := by
            rw [← HHd.out, HIL.out]
            unfold headB
            dsimp only
            rw [HX.out.2.2.2.1]
            simp only [Bool.and_assoc]
          have HEQ := hide hheq
          clear hheq
          cases g1 : inB pa 65
          · go_wp2_with (go_at_call 20; refine (rin_any _ _ _).mono ?_; rintro e w' ⟨rfl, rfl⟩)
            all_goals go_meet
            exact ⟨by rw [HEQ.out, g1]; rfl, rfl⟩
          · cases g2 : inB pf 4097
            · go_wp2_with (go_at_call 20; refine (rin_any _ _ _).mono ?_; rintro e w' ⟨rfl, rfl⟩)
              all_goals go_meet
              exact ⟨by rw [HEQ.out, g1, g2]; rfl, rfl⟩
            · cases g3 : inB ((cl : Int) - 1) 65536
              · go_wp2_with (go_at_call 20; refine (rin_any _ _ _).mono ?_; rintro e w' ⟨rfl, rfl⟩)
                all_goals go_meet
                exact ⟨by rw [HEQ.out, g1, g2, g3]; rfl, rfl⟩
              · by_cases g4 : i = 0
                · subst g4
                  by_cases g5 : pa = 0
                  · cases pr
                    · by_cases g6 : pf = 0
                      · go_wp2_with (go_at_call 20; refine (rin_any _ _ _).mono ?_; rintro e w' ⟨rfl, rfl⟩)
                        all_goals go_meet
                        exact ⟨by rw [HEQ.out, g1, g2, g3]; simp [g5, g6], rfl⟩
                      · go_wp2_with (go_at_call 20; refine (rin_any _ _ _).mono ?_; rintro e w' ⟨rfl, rfl⟩)
                        all_goals go_meet
                        exact ⟨by rw [HEQ.out, g1, g2, g3]; simp [g5, g6], rfl⟩
                    · go_wp2_with (go_at_call 20; refine (rin_any _ _ _).mono ?_; rintro e w' ⟨rfl, rfl⟩)
                      all_goals go_meet
                      exact ⟨by rw [HEQ.out, g1, g2, g3]; simp [g5], rfl⟩
                  · go_wp2_with (go_at_call 20; refine (rin_any _ _ _).mono ?_; rintro e w' ⟨rfl, rfl⟩)
                    all_goals go_meet
                    exact ⟨by rw [HEQ.out, g1, g2, g3]; simp [g5], rfl⟩
                · have g4' : ¬ (i : Int) = 0 := by omega
                  have g4i : 0 < i := by omega
                  go_wp2_with (go_at_call 20; refine (rin_any _ _ _).mono ?_; rintro e w' ⟨rfl, rfl⟩)
                  all_goals go_meet
                  exact ⟨by rw [HEQ.out, g1, g2, g3]; simp [g4i], rfl⟩
        case rest => as_aux_lemma =>
          obtain ⟨rfl, rfl⟩ := hcut
          cases hd
          · go_wp2
            go_ret3
            have hp := HX.out.1
            rw [progL_head HHd.out] at hp
            cases hp
            exact ⟨rfl, HX.out.2.1.trans (HU.out.2.mono HX.out.2.1.size)⟩
          · obtain ⟨f1, f2, f3, f4⟩ := head_facts HHd.out
            have hbw : Below w.heap.size w wc := HX.out.2.1.trans (HU.out.2.mono HX.out.2.1.size)
            have HW := hide (rwalk_any (some ⟨b, o, none⟩) pcap L ⟨nm, ⟨pa, pf, pr, code, nc, nn⟩, ca, ccap, ka, kcap, na, ncap⟩ wc (HX.out.2.2.2.2.1.below hbw) HX.out.2.2.1 f1 f2 f3 f4)
            simp only [PrV.cells] at HW
            rw [HX.out.2.2.2.1, HX.out.2.2.2.2.2] at HW
            have HBW := hide hbw
            clear f1 f2 f3 f4 hbw
            go_wp2_with (go_at_call 21; fail)
            refine HW.out.mono ?_
            intro e w5 hdone
            cases hres : protoR (prs L) ⟨pa, pf, pr, code, nc, nn⟩
            · rename_i pc er
              obtain ⟨rfl, hb5⟩ := rwalk_bad hdone hres
              have HB5 := hide (HBW.out.trans (hb5.mono HBW.out.size))
              have her := protoR_err hres
              have heb : (er != 0) = true := by simpa using her
              have hp := HX.out.1
              rw [progL_bad HHd.out hres] at hp
              have HP := hide hp
              clear hb5 hp hdone hres her
              go_wp2
              go_ret3
              have hp := HP.out
              cases hp
              exact ⟨rfl, HB5.out⟩
            · rename_i ds
              obtain ⟨g, rfl, -, hb5⟩ := rwalk_ok hdone hres
              have HB5 := hide (HBW.out.trans (hb5.mono HBW.out.size))
              have hp := HX.out.1
              rw [progL_ok HHd.out hres] at hp
              have HP := hide hp
              clear hb5 hp hdone hres
              go_wp2
              exact ⟨⟨i + 1, by omega, by go_num, HP.out, HB5.out⟩, by simp [intOf]; omega⟩
      · obtain rfl : i = n := by omega
        have hp := hR
        rw [List.drop_eq_nil_of_le (by rw [prs_len, HI.out.1]; exact Nat.le_refl _)] at hp
        have HP := hide (And.intro hp hb)
        clear hp hR hb
        go_wp2
        go_ret3
        have := HP.out.1
        cases this
        exact ⟨rfl, HP.out.2⟩

/-- check.Depths, in one contract. -/
theorem depths_any (psa : Option Addr) (pcap : Nat) (L : List PrV) (n : Int) (w : World) (hps : PsAt w psa L) :
    Calls Try.prog 10 #[.slice psa L.length pcap, .int .i64 n] w (DepthsDone w (depthsR (prs L) n)) := by
  unfold depthsR
  rw [prs_len]
  by_cases h1 : (progR (prs L)).2.2 = 0
  · cases h2 : inB n L.length
    · rw [if_pos (.inr rfl)]
      exact depths_out psa pcap L n w hps h1 h2
    · rw [if_neg (by rintro (h | h); exact h h1; cases h)]
      have h3 := h2
      simp only [inB, Bool.and_eq_true, decide_eq_true_eq] at h3
      obtain ⟨i, rfl⟩ : ∃ i : Nat, n = i := ⟨n.toNat, by omega⟩
      obtain ⟨v, hv⟩ : ∃ v, L[i]? = some v := ⟨_, List.getElem?_eq_getElem (by omega)⟩
      have hp : (prs L)[i]? = some v.pr := by unfold prs; rw [List.getElem?_map, hv]; rfl
      rw [Int.toNat_natCast, hp]
      dsimp only
      have hR : progR (prs L) = progL (prs L) (prs L) 0 := by
        unfold progR
        rw [if_neg (by rw [List.isEmpty_iff]; intro e; have := prs_len L; rw [e] at this; simp at this; omega)]
      obtain ⟨-, ds, hds⟩ := progL_all (prs L) 0 (by rw [← hR]; exact h1) i v.pr hp
      rw [hds]
      exact depths_ok psa pcap L i v ds w hps h1 hv hds
  · rw [if_pos (.inl h1)]
    exact depths_bad psa pcap L n w hps h1

set_option maxRecDepth 100000 in
set_option maxHeartbeats 4000000 in
theorem rdepths_any (psa : Option Addr) (pcap : Nat) (L : List PrV) (n : Int) (w : World) (hps : PsAt w psa L) :
    Calls Try.prog 12 #[.slice psa L.length pcap, .int .i64 n] w (DepthsDone w (depthsR (prs L) n)) := by
  have HP := hide (rprogram_any psa pcap L w hps)
  have hR : ∀ i v, L[i]? = some v → (progR (prs L)).2.2 = 0 → headB v.pr i = true ∧ ∃ ds, protoR (prs L) v.pr = .ok ds := by
    intro i v hv h1
    have hp : (prs L)[i]? = some v.pr := by unfold prs; rw [List.getElem?_map, hv]; rfl
    have hR : progR (prs L) = progL (prs L) (prs L) 0 := by
      unfold progR
      rw [if_neg (by rw [List.isEmpty_iff]; intro e; rw [e] at hp; simp at hp)]
    have := progL_all (prs L) 0 (by rw [← hR]; exact h1) i v.pr hp
    rwa [Nat.zero_add] at this
  obtain ⟨l, hl⟩ : ∃ l, depthsR (prs L) n = l := ⟨_, rfl⟩
  have HL := hide hl
  have HR := hide hR
  have HPS := hide hps
  have hlen := hps.len
  rw [hl]
  obtain ⟨r, hr⟩ : ∃ r, progR (prs L) = r := ⟨_, rfl⟩
  rw [hr] at HP
  have HRr := hide hr
  clear hl hR hps hr
  obtain ⟨ri, rp, re⟩ := r
  dsimp only at HP
  obtain ⟨m, hm⟩ : ∃ m, L.length = m := ⟨_, rfl⟩
  rw [hm] at HP hlen ⊢
  have HM := hide hm
  clear hm
  by_cases h1 : re = 0
  · subst h1
    cases h2 : inB n m
    · have hnil : l = [] := by
        rw [← HL.out]; unfold depthsR
        rw [if_pos (.inr (by rw [prs_len, HM.out]; exact h2))]
      subst hnil
      go_enter Try.func12, Try.ntmps12
      go_wp2_with (first
        | (go_at_call 20; refine (rin_any _ _ _).mono ?_; rintro e w' ⟨rfl, rfl⟩)
        | (go_at_call 19; refine HP.out.mono ?_; rintro e w1 ⟨rfl, hb1⟩))
      go_ret
      exact depths_none rfl hb1
    · have h3 := h2
      simp only [inB, Bool.and_eq_true, decide_eq_true_eq] at h3
      obtain ⟨i, rfl⟩ : ∃ i : Nat, n = i := ⟨n.toNat, by omega⟩
      obtain ⟨v, hv⟩ : ∃ v, L[i]? = some v := ⟨_, List.getElem?_eq_getElem (by have := HM.out; omega)⟩
      obtain ⟨hh, ds, hds⟩ := HR.out i v hv (by rw [HRr.out])
      have hld : l = ds := by
        rw [← HL.out]; unfold depthsR
        have hp : (prs L)[i]? = some v.pr := by unfold prs; rw [List.getElem?_map, hv]; rfl
        rw [if_neg (by rw [HRr.out, prs_len, HM.out, h2]; simp), Int.toNat_natCast, hp]
        dsimp only
        rw [hds]
      subst hld
      obtain ⟨f1, f2, f3, f4⟩ := head_facts hh
      obtain ⟨b, o, v', rfl, hbl, hv', hc⟩ := HPS.out.row i (by have := HM.out; omega)
      rw [hv] at hv'
      cases hv'
      have hw := fun w1 (hb1 : Below w.heap.size w w1) => rwalk_any (some ⟨b, o, none⟩) pcap L v w1 (HPS.out.below hb1) (List.mem_of_getElem? hv) f1 f2 f3 f4
      obtain ⟨nm, ⟨pa, pf, pr, code, nc, nn⟩, ca, ccap, ka, kcap, na, ncap⟩ := v
      obtain ⟨cl, hcl⟩ : ∃ cl, code.length = cl := ⟨_, rfl⟩
      have e0 := hc 0 (by omega)
      have e1 := hc 1 (by omega)
      have e2 := hc 2 (by omega)
      have e3 := hc 3 (by omega)
      have e4 := hc 4 (by omega)
      have e5 := hc 5 (by omega)
      have e6 := hc 6 (by omega)
      simp only [Nat.add_zero, PrV.cells, List.getElem?_cons_zero, List.getElem?_cons_succ] at e0 e1 e2 e3 e4 e5 e6 hw
      dsimp only at hds
      rw [hcl] at e4
      rw [hcl, hds, HM.out] at hw
      have HW := hide hw
      have hi0 : (0 : Int) ≤ i := by omega
      have him : (i : Int) < m := by omega
      have HE := hide (And.intro e0 (And.intro e1 (And.intro e2 (And.intro e3 (And.intro e4 (And.intro e5 e6))))))
      clear hw hc hh hds hv e0 e1 e2 e3 e4 e5 e6 f1 f2 f3 f4 hcl
      go_enter Try.func12, Try.ntmps12
      go_upto_region 4 with (first
        | (go_at_call 20; refine (rin_any _ _ _).mono ?_; rintro e w' ⟨rfl, rfl⟩)
        | (go_at_call 19; refine HP.out.mono ?_; rintro e w1 ⟨rfl, hb1⟩))
      obtain ⟨e0, e1, e2, e3, e4, e5, e6⟩ := HE.out
      have d0 := (hb1.cell (p := ⟨b, _, none⟩) hbl).trans e0
      have d1 := (hb1.cell (p := ⟨b, _, none⟩) hbl).trans e1
      have d2 := (hb1.cell (p := ⟨b, _, none⟩) hbl).trans e2
      have d3 := (hb1.cell (p := ⟨b, _, none⟩) hbl).trans e3
      have d4 := (hb1.cell (p := ⟨b, _, none⟩) hbl).trans e4
      have d5 := (hb1.cell (p := ⟨b, _, none⟩) hbl).trans e5
      have d6 := (hb1.cell (p := ⟨b, _, none⟩) hbl).trans e6
      have hbl1 := Nat.lt_of_lt_of_le hbl hb1.size
      have HB1 := hide hb1
      clear e0 e1 e2 e3 e4 e5 e6 hb1
      go_wp2_with (go_at_call 21; fail)
      refine (HW.out _ HB1.out).mono ?_
      intro e w5 hdone
      obtain ⟨g, rfl, hrow, hb5⟩ := rwalk_ok hdone rfl
      have HB5 := hide (And.intro hrow (HB1.out.trans (hb5.mono HB1.out.size)))
      clear hdone hrow hb5 d0 d1 d2 d3 d4 d5 d6
      go_wp2
      go_ret
      exact ⟨some ⟨g, 0, none⟩, l.length, rfl, fun i hi => ⟨g, rfl, World.rowIs.lt HB5.out.1, World.rowIs.cell HB5.out.1 hi⟩, HB5.out.2⟩
  · have hnil : l = [] := by
      rw [← HL.out]; unfold depthsR
      rw [if_pos (.inl (by rw [HRr.out]; exact h1))]
    subst hnil
    have hre : (re != 0) = true := by simpa using h1
    go_enter Try.func12, Try.ntmps12
    go_wp2_with (go_at_call 19; refine HP.out.mono ?_; rintro e w1 ⟨rfl, hb1⟩)
    go_ret
    exact depths_none rfl hb1

end Go.Proofs.Ytmlmepbnjlepnaa
