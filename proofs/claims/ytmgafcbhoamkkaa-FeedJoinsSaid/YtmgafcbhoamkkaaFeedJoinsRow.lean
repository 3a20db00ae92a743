/- FeedJoins: whatever the three feeds, joining them is the same in whatever order and however often, and the law answers true; no condition. -/
import Derived.Test.YtmgafcbhoamkkaaFeedJoinsWalk
import Derived.Test.YtmgafcbhoamkkaaLaw
namespace Go.Proofs.Ytmgafcbhoamkkaa.feedJoins
open Go.ChangeShapes Go.WideShapes Go.ChangeAt Go.RowKit Go.Joins

theorem cells23 : Try.prog.cellsOf 23 = 4 := by kernel_rfl

set_option maxRecDepth 100000 in
theorem lifted (os : Os) (started : os.Started) (H : Type) (enc : TypeId × Value → H) :
    ReturnsInHanded {} Try.checked os 3 .any (Rows.feedJoinsSpec.pre6 enc Try.prog Try.f3 Rows.feedJoinsRow.domain false) (Rows.feedJoinsSpec.post enc Try.prog Try.f3 false true false false) := by
  refine returnsInHanded_of_change (C := Try.checked) own started (by kernel_rfl) Try.func3
    (ChangeSpec.witness6 (enc := enc) (C := Try.checked) false ⟨#[], #[.agg #[.int .i64 0, .int .i64 0, .int .i64 0, .int .i64 0], .agg #[.int .i64 0, .int .i64 0, .int .i64 0, .int .i64 0], .agg #[.int .i64 0, .int .i64 0, .int .i64 0, .int .i64 0]], []⟩ 8 (by kernel_rfl) (by kernel_rfl) (by kernel_rfl) (by kernel_rfl)) ?_
  intro W base args ds gs before hval0 hW hcnd _
  have hval : ∀ (j : Nat) t v, Try.f3.params[j]? = some t → args[j]? = some v → Value.okWide Try.prog W .any base t v := hval0
  have hW' := hW
  obtain ⟨p, q, hA0, hV, rfl, hfz, hnd⟩ := hW
  have hA : DataW.TrodAll enc Try.prog W 0 (fun _ => true) true Try.f3.params.toList args.toList ds p := hA0
  rw [Try.params3] at hA hval
  obtain ⟨v0, v1, v2, d0, d1, d2, p0, p1, p2, rfl, rfl, rfl, h0, h1, h2⟩ := trodAll_three hA
  obtain ⟨a0, a1, a2, a3, y0, y1, y2, y3, m, rfl, -, -, ha0, ha1, ha2, ha3⟩ := open_agg4 Try.underlying23 (by kernel_rfl) cells23 (hval 0 23 v0 rfl rfl) h0
  obtain ⟨a, e0, -, -⟩ := DataW.trod_int Try.underlying3 ha0
  obtain ⟨b, e1, -, -⟩ := DataW.trod_int Try.underlying3 ha1
  obtain ⟨c, e2, -, -⟩ := DataW.trod_int Try.underlying3 ha2
  obtain ⟨d, e3, -, -⟩ := DataW.trod_int Try.underlying3 ha3
  simp at e0 e1 e2 e3
  subst e0 e1 e2 e3
  clear ha0 ha1 ha2 ha3 y0 y1 y2 y3
  obtain ⟨a0, a1, a2, a3, y0, y1, y2, y3, m, rfl, -, -, ha0, ha1, ha2, ha3⟩ := open_agg4 Try.underlying23 (by kernel_rfl) cells23 (hval 1 23 v1 rfl rfl) h1
  obtain ⟨a', e0, -, -⟩ := DataW.trod_int Try.underlying3 ha0
  obtain ⟨b', e1, -, -⟩ := DataW.trod_int Try.underlying3 ha1
  obtain ⟨c', e2, -, -⟩ := DataW.trod_int Try.underlying3 ha2
  obtain ⟨d', e3, -, -⟩ := DataW.trod_int Try.underlying3 ha3
  simp at e0 e1 e2 e3
  subst e0 e1 e2 e3
  clear ha0 ha1 ha2 ha3 y0 y1 y2 y3
  obtain ⟨a0, a1, a2, a3, y0, y1, y2, y3, m, rfl, -, -, ha0, ha1, ha2, ha3⟩ := open_agg4 Try.underlying23 (by kernel_rfl) cells23 (hval 2 23 v2 rfl rfl) h2
  obtain ⟨a'', e0, -, -⟩ := DataW.trod_int Try.underlying3 ha0
  obtain ⟨b'', e1, -, -⟩ := DataW.trod_int Try.underlying3 ha1
  obtain ⟨c'', e2, -, -⟩ := DataW.trod_int Try.underlying3 ha2
  obtain ⟨d'', e3, -, -⟩ := DataW.trod_int Try.underlying3 ha3
  simp at e0 e1 e2 e3
  subst e0 e1 e2 e3
  clear ha0 ha1 ha2 ha3 y0 y1 y2 y3 hA0 hval0 hval h0 h1 h2
  obtain ⟨rfl, rfl⟩ := trodVars_none hV
  refine (feedJoins_any a b c d a' b' c' d' a'' b'' c'' d'' W).mono fun e W' ⟨he, hb⟩ => ⟨.bool true, he, ?_⟩
  exact law_post (by kernel_rfl) (by kernel_rfl) rfl hW' rfl hb

theorem proved : Rows.FeedJoinsSaid :=
  OpenClaim.holds_of_wide 3 Try.f3 rfl rfl rfl rfl rfl rfl rfl ⟨rfl, rfl, rfl, rfl, rfl⟩ rfl rfl rfl rfl rfl (by kernel_rfl) Try.func3 (by kernel_rfl)
    (of_decide_eq_true (by kernel_rfl)) (by unfold Func.isWrapper; first | (rw [if_pos (by decide +kernel)]; kernel_rfl) | (rw [if_neg (by decide +kernel)]; exact ⟨rfl, rfl⟩))
    (fun os started H enc _ => lifted os started H enc)

#print axioms proved
end Go.Proofs.Ytmgafcbhoamkkaa.feedJoins
