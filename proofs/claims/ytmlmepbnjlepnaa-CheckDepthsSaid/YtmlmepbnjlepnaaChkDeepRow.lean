/- CheckDepths: whatever the protos and the place, how deep the frame is at each instruction is what the document says; no condition. -/
import Derived.Test.YtmlmepbnjlepnaaChkDeep
import Derived.Test.YtmlmepbnjlepnaaChkRead
import Derived.Test.YtmlmepbnjlepnaaLaw
namespace Go.Proofs.Ytmlmepbnjlepnaa.checkDepths
open Go.ChangeShapes Go.WideShapes Go.ChangeAt Go.RowKit Go.Joins

set_option maxRecDepth 100000 in
theorem lifted (os : Os) (started : os.Started) (H : Type) (enc : TypeId × Value → H) :
    ReturnsInHanded {} Try.checked os 4 .any (Rows.checkDepthsSpec.pre6 enc Try.prog Try.f4 Rows.checkDepthsRow.domain false) (Rows.checkDepthsSpec.post enc Try.prog Try.f4 false true false false) := by
  refine returnsInHanded_of_change_sized (C := Try.checked) own started (by kernel_rfl) Try.func4
    (ChangeSpec.witness6 (enc := enc) (C := Try.checked) false ⟨#[], #[.slice none 0 0, .int .i64 0], []⟩ 8 (by kernel_rfl) (by kernel_rfl) (by kernel_rfl) (by kernel_rfl)) ?_
  intro W base args ds gs before hval0 hW hcnd hsz _
  have hval : ∀ (j : Nat) t v, Try.f4.params[j]? = some t → args[j]? = some v → Value.okWide Try.prog W .any base t v := hval0
  have hW' := hW
  obtain ⟨p, q, hA0, hV, rfl, hfz, hnd⟩ := hW
  have hA : DataW.TrodAll enc Try.prog W 0 (fun _ => true) true Try.f4.params.toList args.toList ds p := hA0
  rw [Try.params4] at hA hval hsz
  obtain ⟨v0, v1, d0, d1, p0, p1, rfl, rfl, rfl, ⟨f0, h0⟩, ⟨f1, h1⟩⟩ := trodAll_two hA
  obtain ⟨rfl, rfl⟩ := trodVars_none hV
  obtain ⟨a0, l0, c0, rfl⟩ := okWide_slice Try.underlying38 (hval 0 38 v0 rfl rfl)
  obtain ⟨n, rfl⟩ := okWide_int Try.underlying3 (hval 1 3 v1 rfl rfl)
  have hs : ((d0.weights Try.prog 38) ++ ((d1.weights Try.prog 3) ++ [])).all (· ≤ reachBytes) = true := hsz
  rw [List.append_nil, List.all_append, Bool.and_eq_true] at hs
  obtain ⟨psa, cap, L, e0, hps, hsrc, hlen⟩ := read_protos h0 hs.1
  have e0' : Value.slice a0 l0 c0 = .slice psa L.length cap := by simpa [Value.cells] using e0
  rw [e0']
  rw [e0'] at hW'
  refine (checkDepths_any psa cap L n W hps hsrc hlen).mono fun e W' ⟨he, hb⟩ => ⟨.bool true, he, ?_⟩
  exact law_post (by kernel_rfl) (by kernel_rfl) rfl hW' rfl hb

theorem proved : Rows.CheckDepthsSaid :=
  OpenClaim.holds_of_wide 4 Try.f4 rfl rfl rfl rfl rfl rfl rfl ⟨rfl, rfl, rfl, rfl, rfl⟩ rfl rfl rfl rfl rfl (by kernel_rfl) Try.func4 (by kernel_rfl)
    (of_decide_eq_true (by kernel_rfl)) (by unfold Func.isWrapper; first | (rw [if_pos (by decide +kernel)]; kernel_rfl) | (rw [if_neg (by decide +kernel)]; exact ⟨rfl, rfl⟩))
    (fun os started H enc _ => lifted os started H enc)

#print axioms proved
end Go.Proofs.Ytmlmepbnjlepnaa.checkDepths
