/- ExpandStrips: whatever the datum, marks are taken away and nothing else: the program and the document strip it to the same, and the law answers true; no condition. -/
import Derived.Test.YtfhjamimbgdfpaaGreatExpStrips
import Derived.Test.YtfhjamimbgdfpaaGreatDatRead
import Derived.Test.YtfhjamimbgdfpaaGreatLaw
namespace Go.Proofs.YtfhjamimbgdfpaaGreat.expandStrips
open Go.ChangeShapes Go.WideShapes Go.ChangeAt Go.RowKit Go.Joins

set_option maxRecDepth 100000 in
theorem lifted (os : Os) (started : os.Started) (H : Type) (enc : TypeId × Value → H) :
    ReturnsInHanded {} Tryz.checked os 3 .any (Rows.expandStripsSpec.pre6 enc Tryz.prog Tryz.f3 Rows.expandStripsRow.domain false) (Rows.expandStripsSpec.post enc Tryz.prog Tryz.f3 false true false false) := by
  refine returnsInHanded_of_change_sized (C := Tryz.checked) own started (by kernel_rfl) Tryz.func3
    (ChangeSpec.witness6 (enc := enc) (C := Tryz.checked) false ⟨#[], #[.agg #[.int .i64 0, .int .i64 0, .bool false, .slice none 0 0, .string ⟨#[]⟩, .slice none 0 0, .slice none 0 0]], []⟩ 8 (by kernel_rfl) (by kernel_rfl) (by kernel_rfl) (by kernel_rfl)) ?_
  intro W base args ds gs before hval0 hW hcnd hsz _
  have hval : ∀ (j : Nat) t v, Tryz.f3.params[j]? = some t → args[j]? = some v → Value.okWide Tryz.prog W .any base t v := hval0
  have hW' := hW
  obtain ⟨p, q, hA0, hV, rfl, hfz, hnd⟩ := hW
  have hA : DataW.TrodAll enc Tryz.prog W 0 (fun _ => true) true Tryz.f3.params.toList args.toList ds p := hA0
  rw [Tryz.params3] at hA
  obtain ⟨v0, d0, rfl, rfl, fuel, hf⟩ := trodAll_one hA
  rw [Tryz.params3] at hval hsz
  obtain ⟨rfl, rfl⟩ := trodVars_none hV
  have hv := hval 0 27 v0 rfl rfl
  unfold Value.okWide at hv
  rw [Tryz.underlying27] at hv
  obtain ⟨⟨l⟩, rfl, -, -⟩ := hv
  have hs : Sized (d0.weights Tryz.prog 27) := Sized.left (b := []) hsz
  obtain ⟨e, he⟩ := read_datum fuel l _ hf hs
  refine (strips_any he).mono fun e W' ⟨he, hb⟩ => ⟨.bool true, he, ?_⟩
  exact law_post (by kernel_rfl) (by kernel_rfl) rfl hW' rfl hb

theorem proved : Rows.ExpandStripsSaid :=
  OpenClaim.holds_of_wide 3 Tryz.f3 rfl rfl rfl rfl rfl rfl rfl ⟨rfl, rfl, rfl, rfl, rfl⟩ rfl rfl rfl rfl rfl (by kernel_rfl) Tryz.func3 (by kernel_rfl)
    (of_decide_eq_true (by kernel_rfl)) (by unfold Func.isWrapper; first | (rw [if_pos (by decide +kernel)]; kernel_rfl) | (rw [if_neg (by decide +kernel)]; exact ⟨rfl, rfl⟩))
    (fun os started H enc _ => lifted os started H enc)

#print axioms proved
end Go.Proofs.YtfhjamimbgdfpaaGreat.expandStrips
