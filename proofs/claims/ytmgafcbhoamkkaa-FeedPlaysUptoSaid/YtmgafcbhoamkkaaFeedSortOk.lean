/-
  The sort's contract at this program, the closure paid.
-/
import Derived.Test.YtmgafcbhoamkkaaFeedAllW
import Derived.Test.YtmgafcbhoamkkaaFeedLay
namespace Go.Proofs.Ytmgafcbhoamkkaa
open Go.Shelf Go.RowKit

theorem sort_ok : SortOk := by
  intro blk cap d w hH hb hs
  have eg : ∀ args w, (callFunc 28 args).run Try.prog w = .ok (.enter 28 args) w := enters_of Try.func28 (by kernel_rfl) rfl
  have hcon := AnyQ.slices_SortFunc sortF 4 Try.isAgg23 Try.sizeOf23 encF (fun _ => rfl) (fun x v hv => by simp [encF] at hv; rcases hv with rfl | rfl | rfl | rfl <;> rfl) cfF swoF 28 #[] blk 0 cap d w eg (fun _ _ _ _ x y => closure_any x y _) hH hb hs
  exact hcon

theorem none_ok : NoneOk := fun p cap w => AnyF.slices_SortFunc_none sortF p cap (.func (.func 28) #[] #[]) w

end Go.Proofs.Ytmgafcbhoamkkaa
