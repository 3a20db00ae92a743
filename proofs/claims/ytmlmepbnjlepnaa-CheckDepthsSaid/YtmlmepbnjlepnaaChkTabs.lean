/-
  The walks of check.wants and api.Prims: the tables.
-/
import Derived.Test.YtmlmepbnjlepnaaLib
import Derived.Test.YtmlmepbnjlepnaaChkPlain
import Derived.Deep.WholeRow
namespace Go.Proofs.Ytmlmepbnjlepnaa
open Go.RowKit

def wantV (x : Want) : List Value := [.bool x.known, .int .i64 x.wants, .int .i64 x.more, .bool x.a, .bool x.b, .bool x.byA, .bool x.byB, .bool x.jumps, .bool x.fin]
def wantsV : List Value := (List.range 22).flatMap fun k => wantV (wantT k)
def primV (r : List UInt8 × Int × Int) : List Value := [.string ⟨r.1.toArray⟩, .int .i64 r.2.1, .int .i64 r.2.2]
def primsV : List Value := primT.flatMap primV

theorem info49 : (Try.prog.info? 49).map (·.size) = some 198 := by kernel_rfl
def zeroW : List Value := (List.range 22).flatMap fun _ => wantV ⟨false, 0, 0, false, false, false, false, false, false⟩

set_option maxRecDepth 100000 in
theorem wants_any (w : World) :
    Calls Try.prog 13 #[] w fun e w' => e = .returned (.agg ⟨wantsV⟩) ∧ w' = w.alloc (.cells ⟨wantsV⟩ 49) := by
  refine calls_of_wp Try.func13 rfl ?_
  refine wp_seq_k fun K hK => ?_
  refine wp_region_lit (wpList_runs 1 ⟨#[.pointer (some ⟨w.heap.size, 0, none⟩)] ++ Array.replicate 22 undef, []⟩ (w.alloc (.cells ⟨zeroW⟩ 49)) (by kernel_rfl) (wpList_nil ?_))
  refine hK _ _ ?_
  clear hK K
  refine wp_seq_k fun K hK => ?_
  refine wp_region_lit (wpList_runs 22 ⟨#[.pointer (some ⟨w.heap.size, 0, none⟩)] ++ ((List.range 21).map fun k => Value.agg ⟨wantV (wantT (k + 1))⟩).toArray ++ #[.agg ⟨wantsV⟩], []⟩ (w.alloc (.cells ⟨zeroW⟩ 49)) (by kernel_rfl) ?_)
  refine wpList_store_new w rfl 49 (.tmp 0) (.tmp 22) rfl ⟨zeroW⟩ ⟨wantsV⟩ (by kernel_rfl) (by kernel_rfl) info49 (by kernel_rfl) (by decide +kernel) ?_
  refine wpList_nil (hK _ _ (wp_ret ?_))
  exact bodyPost_ret (v := .agg ⟨wantsV⟩) (results_cell_row Try.results13 _ _ w.heap.size 49 ⟨wantsV⟩ (0, 0) _ (by kernel_rfl) (heap_alloc_last w _) Try.underlying49 rfl info49) rfl ⟨rfl, rfl⟩

set_option maxRecDepth 100000 in
theorem prims_any (w : World) :
    Calls Try.prog 14 #[] w fun e w' => e = .returned (.slice (some ⟨w.heap.size, 0, none⟩) 92 92) ∧ w' = w.alloc (.cells ⟨primsV⟩ 67) := by
  refine calls_of_wp Try.func14 rfl ?_
  refine wp_seq_k fun K hK => ?_
  refine wp_region_lit (wpList_runs 1 ⟨#[.slice none 0 0] ++ Array.replicate 93 undef, []⟩ w (by kernel_rfl) (wpList_nil ?_))
  refine hK _ _ ?_
  clear hK K
  refine wp_seq_k fun K hK => ?_
  refine wp_region_lit (wpList_runs 200 ⟨#[.slice (some ⟨w.heap.size, 0, none⟩) 92 92] ++ (primT.map fun r => Value.agg ⟨primV r⟩).toArray ++ #[.slice (some ⟨w.heap.size, 0, none⟩) 92 92], []⟩ (w.alloc (.cells ⟨primsV⟩ 67)) (by kernel_rfl) (wpList_nil ?_))
  refine hK _ _ (wp_ret ?_)
  exact bodyPost_ret (v := .slice (some ⟨w.heap.size, 0, none⟩) 92 92) (by simp [results, Try.results14, go_sem]) rfl ⟨rfl, rfl⟩

end Go.Proofs.Ytmlmepbnjlepnaa
