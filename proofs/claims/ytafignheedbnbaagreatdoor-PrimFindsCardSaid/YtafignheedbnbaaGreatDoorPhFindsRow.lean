/- PrimFinds, the tied card: whatever the numbers and the number looked for, memv and assv find the first place where it stands, or say that there is none: the law answers true; its condition: the listed package-level variables read as the program's text lays them (the given tie shows it). -/
import Derived.Test.YtafignheedbnbaaGreatDoorPhFinds
import Derived.Test.YtafignheedbnbaaGreatDoorLaw
import Derived.Test.YtafignheedbnbaaGreatDoorCards
import Derived.Test.YtafignheedbnbaaGreatDoorTie
import Derived.LaidMore
import Derived.Stop.Joined
import Derived.SevenTiedAt
import Derived.Shelf.Vars
namespace Go.Proofs.YtafignheedbnbaaGreatDoor.primFinds
open Go Go.ChangeMaps Go.ChangeShapes Go.WideShapes Go.ChangeAt Go.RowKit Go.Joins

/-- The door's own heap meets the condition. -/
theorem door_met (os : Os) (args : Array Value) : laidMetH Tryz.prog Rows.primFindsRow.laid ((World.doorLaid Tryz.prog 4000 os).forCall (fun _ _ => 0) ⟨#[], args, []⟩).memory :=
  laidMetH_of_parts3 (fuel := 8) (laidMet_of_run' 8 (by kernel_rfl) (by kernel_rfl)) (by kernel_rfl) (by kernel_rfl)

set_option maxRecDepth 100000 in
theorem lifted (os : Os) (started : os.Started) (H : Type) (enc : TypeId × Value → H) :
    ReturnsInHanded {} Tryz.checked os 8 .any (fun w args => (Rows.primFindsSpec.pre enc Tryz.prog Tryz.f8 [] false w args ∧ laidMetH Tryz.prog Rows.primFindsRow.laid w) ∧ sizedMet enc Tryz.prog Tryz.f8 (OpenSpec.ofChange Rows.primFindsSpec) false w args)
      (Rows.primFindsSpec.post enc Tryz.prog Tryz.f8 false true false false) := by
  refine returnsInHanded_of_calls (C := Tryz.checked) own started (by kernel_rfl)
    (ChangeSpec.witness_shaped (enc := enc) (C := Tryz.checked) (os := os) (X := fun w _ => laidMetH Tryz.prog Rows.primFindsRow.laid w) false (World.doorLaid Tryz.prog 4000 os) #[.slice none 0 0, .int .i64 0] 8 rfl (World.shaped_of_RefB (by kernel_rfl) (by kernel_rfl)) (by kernel_rfl) (by kernel_rfl) (by kernel_rfl) (door_met os _)) ?_
  intro w tape i _ hshape _ hok hpre _
  obtain ⟨_, _, _, fn', hfn', _, _, _, _, hval0⟩ := hok
  obtain rfl : fn' = Tryz.f8 := Option.some.inj (hfn'.symm.trans Tryz.func8)
  obtain ⟨⟨⟨ds, gs, before, hw, -⟩, -⟩, hz⟩ := hpre
  have hW := DataW.Whole.of_heap (w' := w.forCall tape i) (by rfl) hw
  have hsz := hz.weights hw
  generalize w.forCall tape i = W at *
  obtain ⟨iv, args, it⟩ := i
  have hval : ∀ (j : Nat) t v, Tryz.f8.params[j]? = some t → args[j]? = some v → Value.okWide Tryz.prog W .any _ t v := hval0
  have hW' := hW
  obtain ⟨p, q, hA0, hV, rfl, hfz, hnd⟩ := hW
  have hA : DataW.TrodAll enc Tryz.prog W 0 (fun _ => true) true Tryz.f8.params.toList args.toList ds p := hA0
  rw [Tryz.params8] at hA hval hsz
  obtain ⟨v0, v1, d0, d1, p0, p1, rfl, rfl, rfl, ⟨f0, h0⟩, h1⟩ := trodAll_two hA
  obtain ⟨rfl, rfl⟩ := trodVars_none hV
  obtain ⟨qv, rfl, rfl, rfl, -⟩ := open_int Tryz.underlying3 (hval 1 3 v1 rfl rfl) h1
  obtain ⟨a0, l0, c0, rfl⟩ := okWide_slice Tryz.underlying52 (hval 0 52 v0 rfl rfl)
  have hs : ((d0.weights Tryz.prog 52) ++ (((DataW.lit (.int .i64 qv) : DataW H).weights Tryz.prog 3) ++ [])).all (· ≤ reachBytes) = true := hsz
  rw [List.all_append, Bool.and_eq_true] at hs
  obtain ⟨u0, zs, e0, r0⟩ := read_ints h0 hs.1
  have e0' : Value.slice a0 l0 c0 = u0 := by simpa [Value.cells] using e0
  rw [← e0'] at r0
  have hcap : l0 ≤ c0 := by
    rcases DataW.trod_slice Tryz.underlying52 h0 with ⟨e, -⟩ | ⟨a, len, cap, elems, rest, n, -, e, -, -, hle, -⟩
    · have e' : Value.slice a0 l0 c0 = .slice none 0 0 := by simpa [Value.cells] using e
      cases e'; exact Nat.le_refl _
    · have e' : Value.slice a0 l0 c0 = .slice (some a) len cap := by simpa [Value.cells] using e
      cases e'; exact hle
  refine (finds_any qv r0 hcap).mono fun e W' ⟨he, hb⟩ => ?_
  subst he
  exact ChangeSpec.post_blind (law_post (by kernel_rfl) (by kernel_rfl) rfl hW' rfl hb)

theorem row_holds : Rows.PrimFindsSaid :=
  OpenClaim.holds_of_wide 8 Tryz.f8 rfl rfl rfl rfl rfl rfl rfl ⟨rfl, rfl, rfl, rfl, rfl⟩ rfl rfl rfl rfl rfl (by kernel_rfl) Tryz.func8 (by kernel_rfl)
    (of_decide_eq_true (by kernel_rfl)) (by unfold Func.isWrapper; first | (rw [if_pos (by decide +kernel)]; kernel_rfl) | (rw [if_neg (by decide +kernel)]; exact ⟨rfl, rfl⟩))
    (fun os started H enc _ => lifted os started H enc)

theorem proved : Rows.PrimFindsCardSaid :=
  Claim7.holds_tied_plain_at .later [] Rows.primFindsCard.laidKinds true Rows.primFindsCard.stood.harness true
    row_holds (fun _ h => by cases h) (by kernel_rfl) (fun _ h => by cases h) primFinds_row_tie rfl ⟨rfl, rfl⟩ (by kernel_rfl) rfl
    (fun f fn hf hfn => by
      obtain rfl : f = 8 := Option.some.inj ((show Tryz.prog.funcNamed "tandem/tandemlaw12.PrimFinds" = some 8 by kernel_rfl).symm.trans hf) |>.symm
      obtain rfl : fn = Tryz.f8 := (Option.some.inj (Tryz.func8.symm.trans hfn)).symm
      exact ⟨by kernel_rfl, fun j t ht => by
        rw [Tryz.params8] at ht
        have hm : t ∈ [52, 3] := by simpa using Array.mem_of_getElem? ht
        have hall : ([52, 3].all fun u => !Tryz.prog.wantsStandIn u) = true := by kernel_rfl
        exact (show Tryz.prog.wantsStandIn t = false by simpa using List.all_eq_true.1 hall t hm)⟩)
    (by kernel_rfl)

#print axioms proved
end Go.Proofs.YtafignheedbnbaaGreatDoor.primFinds
