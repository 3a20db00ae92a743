/- FeedTables: whatever the feeds and the order, a table is the join of all that it was given, and the law answers true; no condition. -/
import Derived.Test.YtmgafcbhoamkkaaFeedTables
import Derived.Test.YtmgafcbhoamkkaaLaw
namespace Go.Proofs.Ytmgafcbhoamkkaa.feedTables
open Go.ChangeShapes Go.WideShapes Go.ChangeAt Go.RowKit Go.Joins

set_option maxRecDepth 100000 in
theorem lifted (os : Os) (started : os.Started) (H : Type) (enc : TypeId × Value → H) :
    ReturnsInHanded {} Try.checked os 5 .any (Rows.feedTablesSpec.pre6 enc Try.prog Try.f5 Rows.feedTablesRow.domain false) (Rows.feedTablesSpec.post enc Try.prog Try.f5 false true false false) := by
  refine returnsInHanded_of_change_sized (C := Try.checked) own started (by kernel_rfl) Try.func5
    (ChangeSpec.witness6 (enc := enc) (C := Try.checked) false ⟨#[], #[.slice none 0 0, .slice none 0 0], []⟩ 8 (by kernel_rfl) (by kernel_rfl) (by kernel_rfl) (by kernel_rfl)) ?_
  intro W base args ds gs before hval0 hW hcnd hsz _
  have hval : ∀ (j : Nat) t v, Try.f5.params[j]? = some t → args[j]? = some v → Value.okWide Try.prog W .any base t v := hval0
  have hW' := hW
  obtain ⟨p, q, hA0, hV, rfl, hfz, hnd⟩ := hW
  have hA : DataW.TrodAll enc Try.prog W 0 (fun _ => true) true Try.f5.params.toList args.toList ds p := hA0
  rw [Try.params5] at hA hval hsz
  obtain ⟨v0, v1, d0, d1, p0, p1, rfl, rfl, rfl, ⟨f0, h0⟩, ⟨f1, h1⟩⟩ := trodAll_two hA
  obtain ⟨rfl, rfl⟩ := trodVars_none hV
  obtain ⟨a0, l0, c0, rfl⟩ := okWide_slice Try.underlying35 (hval 0 35 v0 rfl rfl)
  obtain ⟨a1, l1, c1, rfl⟩ := okWide_slice Try.underlying27 (hval 1 27 v1 rfl rfl)
  have hs : ((d0.weights Try.prog 35) ++ ((d1.weights Try.prog 27) ++ [])).all (· ≤ reachBytes) = true := hsz
  rw [List.append_nil, List.all_append, Bool.and_eq_true] at hs
  obtain ⟨u0, zs, e0, r0⟩ := read_feeds h0 hs.1
  obtain ⟨u1, ks, e1, r1⟩ := read_ints h1 hs.2
  have e0' : Value.slice a0 l0 c0 = u0 := by simpa [Value.cells] using e0
  have e1' : Value.slice a1 l1 c1 = u1 := by simpa [Value.cells] using e1
  rw [← e0'] at r0
  rw [← e1'] at r1
  refine (tables_any r0 r1).mono fun e W' ⟨he, hb⟩ => ⟨.bool true, he, ?_⟩
  exact law_post (by kernel_rfl) (by kernel_rfl) rfl hW' rfl hb

theorem proved : Rows.FeedTablesSaid :=
  OpenClaim.holds_of_wide 5 Try.f5 rfl rfl rfl rfl rfl rfl rfl ⟨rfl, rfl, rfl, rfl, rfl⟩ rfl rfl rfl rfl rfl (by kernel_rfl) Try.func5 (by kernel_rfl)
    (of_decide_eq_true (by kernel_rfl)) (by unfold Func.isWrapper; first | (rw [if_pos (by decide +kernel)]; kernel_rfl) | (rw [if_neg (by decide +kernel)]; exact ⟨rfl, rfl⟩))
    (fun os started H enc _ => lifted os started H enc)

#print axioms proved
end Go.Proofs.Ytmgafcbhoamkkaa.feedTables
