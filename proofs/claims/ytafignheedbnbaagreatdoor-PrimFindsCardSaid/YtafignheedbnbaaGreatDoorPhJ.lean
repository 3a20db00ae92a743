/- The laying of the shelf's contracts of strings.Index, strings.Contains, strings.TrimPrefix at this program (written by the kit's plain mode; numbers are this seat's); no condition. -/
import Derived.Shelf.Strings.Search3
import Derived.Shelf.Strings.Prefix
import Derived.Test.YtafignheedbnbaaGreatDoorProg
import Derived.Test.YtafignheedbnbaaGreatDoorPhI
import Derived.StillTailTactics
import Derived.StillTactics
namespace Go.Proofs.YtafignheedbnbaaGreatDoor
open Go.Shelf
def lays143_ren : Go.Shelf.Ren := ⟨fun | 143 => 201 | 219 => 213 | 217 => 223 | 225 => 224 | 224 => 225 | 267 => 226 | 266 => 237 | 314 => 238 | n => n, fun | 9 => 9 | 3 => 3 | 4 => 4 | 5 => 5 | 46 => 116 | 146 => 241 | 51 => 91 | n => n, fun | 1 => 0 | n => n⟩
theorem lays143 : Go.Proofs.Lays.n143 Tryz.prog lays143_ren := {
  mixed := by kernel_rfl
  f143 := Tryz.func201.trans (congrArg some (by kernel_rfl))
  f217 := Tryz.func223.trans (congrArg some (by kernel_rfl))
  f219 := Tryz.func213.trans (congrArg some (by kernel_rfl))
  f224 := Tryz.func225.trans (congrArg some (by kernel_rfl))
  f225 := Tryz.func224.trans (congrArg some (by kernel_rfl))
  f266 := Tryz.func237.trans (congrArg some (by kernel_rfl))
  f267 := Tryz.func226.trans (congrArg some (by kernel_rfl))
  f314 := Tryz.func238.trans (congrArg some (by kernel_rfl))
  t3 := Tryz.underlying3
  a3 := Tryz.isAgg3
  z3 := Tryz.sizeOf3
  v3 := Tryz.zeroValue3
  t4 := Tryz.underlying4
  a4 := Tryz.isAgg4
  z4 := Tryz.sizeOf4
  v4 := Tryz.zeroValue4
  t5 := Tryz.underlying5
  a5 := Tryz.isAgg5
  z5 := Tryz.sizeOf5
  v5 := Tryz.zeroValue5
  t9 := Tryz.underlying9
  a9 := Tryz.isAgg9
  z9 := Tryz.sizeOf9
  v9 := Tryz.zeroValue9
  t46 := Tryz.underlying116
  a46 := Tryz.isAgg116
  z46 := Tryz.sizeOf116
  v46 := Tryz.zeroValue116
  t51 := Tryz.underlying91
  a51 := Tryz.isAgg91
  z51 := Tryz.sizeOf91
  v51 := Tryz.zeroValue91
  t146 := Tryz.underlying241
  a146 := Tryz.isAgg241
  z146 := Tryz.sizeOf241
  v146 := Tryz.zeroValue241
  g1 := by kernel_rfl }
open Go.RowKit Go.Lib in
theorem strings_Index (s sub : ByteArray) (m : Int) (w : World) (hs : s.size < 4294967281) (hm : w.cell? ⟨0, 0, none⟩ = some (.int .i64 m)) :
    Calls Tryz.prog 201 #[.string s, .string sub] w fun e w' => e = .returned (.int .i64 (Lib.index s.data.toList sub.data.toList)) ∧ w' = w := Any.strings_Index lays143 s sub m w hs hm
def lays144_ren : Go.Shelf.Ren := ⟨fun | 144 => 211 | 143 => 201 | 219 => 213 | 217 => 223 | 225 => 224 | 224 => 225 | 267 => 226 | 266 => 237 | 314 => 238 | n => n, fun | 9 => 9 | 4 => 4 | 3 => 3 | 5 => 5 | 46 => 116 | 146 => 241 | 51 => 91 | n => n, fun | 1 => 0 | n => n⟩
theorem lays144 : Go.Proofs.Lays.n144 Tryz.prog lays144_ren := {
  mixed := by kernel_rfl
  f143 := Tryz.func201.trans (congrArg some (by kernel_rfl))
  f144 := Tryz.func211.trans (congrArg some (by kernel_rfl))
  f217 := Tryz.func223.trans (congrArg some (by kernel_rfl))
  f219 := Tryz.func213.trans (congrArg some (by kernel_rfl))
  f224 := Tryz.func225.trans (congrArg some (by kernel_rfl))
  f225 := Tryz.func224.trans (congrArg some (by kernel_rfl))
  f266 := Tryz.func237.trans (congrArg some (by kernel_rfl))
  f267 := Tryz.func226.trans (congrArg some (by kernel_rfl))
  f314 := Tryz.func238.trans (congrArg some (by kernel_rfl))
  t3 := Tryz.underlying3
  a3 := Tryz.isAgg3
  z3 := Tryz.sizeOf3
  v3 := Tryz.zeroValue3
  t4 := Tryz.underlying4
  a4 := Tryz.isAgg4
  z4 := Tryz.sizeOf4
  v4 := Tryz.zeroValue4
  t5 := Tryz.underlying5
  a5 := Tryz.isAgg5
  z5 := Tryz.sizeOf5
  v5 := Tryz.zeroValue5
  t9 := Tryz.underlying9
  a9 := Tryz.isAgg9
  z9 := Tryz.sizeOf9
  v9 := Tryz.zeroValue9
  t46 := Tryz.underlying116
  a46 := Tryz.isAgg116
  z46 := Tryz.sizeOf116
  v46 := Tryz.zeroValue116
  t51 := Tryz.underlying91
  a51 := Tryz.isAgg91
  z51 := Tryz.sizeOf91
  v51 := Tryz.zeroValue91
  t146 := Tryz.underlying241
  a146 := Tryz.isAgg241
  z146 := Tryz.sizeOf241
  v146 := Tryz.zeroValue241
  g1 := by kernel_rfl }
open Go.RowKit Go.Lib in
theorem strings_Contains (s sub : ByteArray) (m : Int) (w : World) (hs : s.size < 4294967281) (hm : w.cell? ⟨0, 0, none⟩ = some (.int .i64 m)) :
    Calls Tryz.prog 211 #[.string s, .string sub] w fun e w' => e = .returned (.bool (Lib.contains s.data.toList sub.data.toList)) ∧ w' = w := Any.strings_Contains lays144 s sub m w hs hm
def lays101_ren : Go.Shelf.Ren := ⟨fun | 101 => 197 | 208 => 212 | 206 => 222 | n => n, fun | 9 => 9 | 4 => 4 | 3 => 3 | n => n, fun | n => n⟩
theorem lays101 : Go.Proofs.Lays.n101 Tryz.prog lays101_ren := {
  mixed := by kernel_rfl
  f101 := Tryz.func197.trans (congrArg some (by kernel_rfl))
  f206 := Tryz.func222.trans (congrArg some (by kernel_rfl))
  f208 := Tryz.func212.trans (congrArg some (by kernel_rfl))
  t3 := Tryz.underlying3
  a3 := Tryz.isAgg3
  z3 := Tryz.sizeOf3
  v3 := Tryz.zeroValue3
  t4 := Tryz.underlying4
  a4 := Tryz.isAgg4
  z4 := Tryz.sizeOf4
  v4 := Tryz.zeroValue4
  t9 := Tryz.underlying9
  a9 := Tryz.isAgg9
  z9 := Tryz.sizeOf9
  v9 := Tryz.zeroValue9 }
open Go.RowKit Go.Lib in
theorem strings_TrimPrefix (s p : ByteArray) (w : World) :
    Calls Tryz.prog 197 #[.string s, .string p] w fun e w' => e = .returned (.string ⟨(Lib.trimPrefix s.data.toList p.data.toList).toArray⟩) ∧ w' = w := Any.strings_TrimPrefix lays101 s p w
end Go.Proofs.YtafignheedbnbaaGreatDoor

/-
  The walks of value.Int, strings.Contains at the names of pairs' parts, call.side, call.setPart, call.listVector.
-/
namespace Go.Proofs.YtafignheedbnbaaGreatDoor
open Go.RowKit Go.BigFrame
set_option linter.unusedSimpArgs false
set_option linter.unusedVariables false

set_option maxHeartbeats 1000000 in
theorem int_fix (n : Nat) (hn : n < 1000000) (w : World) : Calls Tryz.prog 59 #[.int .u64 (4 * n + 1 : Nat)] w fun e w' => e = .returned (.tuple #[.int .i64 n, .bool true]) ∧ w = w' := by
  have hm := and_mask (4 * n + 1) 2 (by omega) (by omega)
  have hA : bits BinOp.and IntKind.u64 ((4 * n + 1 : Nat) : Int) 3 = 1 := by
    rw [show ((4 * n + 1) % 2 ^ 2 : Nat) = 1 by omega] at hm; simpa using hm
  obtain ⟨x, hx⟩ : ∃ x, 4 * n + 1 = x := ⟨_, rfl⟩
  have hd : (x : Int) / 4 = n := by omega
  rw [hx] at hA ⊢
  clear hm hx
  go_enter Tryz.func59, Tryz.ntmps59
  go_wp2
  go_ret2
  exact ⟨rfl, rfl⟩

end Go.Proofs.YtafignheedbnbaaGreatDoor
