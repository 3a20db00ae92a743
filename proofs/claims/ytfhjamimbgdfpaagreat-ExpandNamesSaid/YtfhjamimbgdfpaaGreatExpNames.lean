/- ExpandNames: whatever the two numbers, the law answers true: it comes to one of a hundred runs; no condition. -/
import Derived.Test.YtfhjamimbgdfpaaGreatExpNamesA
import Derived.Test.YtfhjamimbgdfpaaGreatExpNamesB
import Derived.Test.YtfhjamimbgdfpaaGreatExpNamesC
import Derived.Test.YtfhjamimbgdfpaaGreatExpNamesD
import Derived.Test.YtfhjamimbgdfpaaGreatExpNamesE
import Derived.Test.YtfhjamimbgdfpaaGreatExpNamesF
import Derived.Test.YtfhjamimbgdfpaaGreatExpNamesG
import Derived.Test.YtfhjamimbgdfpaaGreatExpNamesH
import Derived.Test.YtfhjamimbgdfpaaGreatExpNamesI
import Derived.Test.YtfhjamimbgdfpaaGreatExpNamesJ
namespace Go.Proofs.YtfhjamimbgdfpaaGreat.X.Exp
open Go Go.RowKit
theorem ten {n : Nat} (h : n < 10) : n = 0 ∨ n = 1 ∨ n = 2 ∨ n = 3 ∨ n = 4 ∨ n = 5 ∨ n = 6 ∨ n = 7 ∨ n = 8 ∨ n = 9 := by omega
theorem names_key (a b : Int) : RuleOk Tryz.prog (sg [.int .i64 a, .int .i64 b]) 5 [.sym 0, .sym 1] (.bool true) := by
  rcases ten (placeN_lt a 10 (by decide)) with h1 | h1 | h1 | h1 | h1 | h1 | h1 | h1 | h1 | h1
  · rcases ten (placeN_lt b 10 (by decide)) with h2 | h2 | h2 | h2 | h2 | h2 | h2 | h2 | h2 | h2
    · exact ncase00 a b h1 h2
    · exact ncase01 a b h1 h2
    · exact ncase02 a b h1 h2
    · exact ncase03 a b h1 h2
    · exact ncase04 a b h1 h2
    · exact ncase05 a b h1 h2
    · exact ncase06 a b h1 h2
    · exact ncase07 a b h1 h2
    · exact ncase08 a b h1 h2
    · exact ncase09 a b h1 h2
  · rcases ten (placeN_lt b 10 (by decide)) with h2 | h2 | h2 | h2 | h2 | h2 | h2 | h2 | h2 | h2
    · exact ncase10 a b h1 h2
    · exact ncase11 a b h1 h2
    · exact ncase12 a b h1 h2
    · exact ncase13 a b h1 h2
    · exact ncase14 a b h1 h2
    · exact ncase15 a b h1 h2
    · exact ncase16 a b h1 h2
    · exact ncase17 a b h1 h2
    · exact ncase18 a b h1 h2
    · exact ncase19 a b h1 h2
  · rcases ten (placeN_lt b 10 (by decide)) with h2 | h2 | h2 | h2 | h2 | h2 | h2 | h2 | h2 | h2
    · exact ncase20 a b h1 h2
    · exact ncase21 a b h1 h2
    · exact ncase22 a b h1 h2
    · exact ncase23 a b h1 h2
    · exact ncase24 a b h1 h2
    · exact ncase25 a b h1 h2
    · exact ncase26 a b h1 h2
    · exact ncase27 a b h1 h2
    · exact ncase28 a b h1 h2
    · exact ncase29 a b h1 h2
  · rcases ten (placeN_lt b 10 (by decide)) with h2 | h2 | h2 | h2 | h2 | h2 | h2 | h2 | h2 | h2
    · exact ncase30 a b h1 h2
    · exact ncase31 a b h1 h2
    · exact ncase32 a b h1 h2
    · exact ncase33 a b h1 h2
    · exact ncase34 a b h1 h2
    · exact ncase35 a b h1 h2
    · exact ncase36 a b h1 h2
    · exact ncase37 a b h1 h2
    · exact ncase38 a b h1 h2
    · exact ncase39 a b h1 h2
  · rcases ten (placeN_lt b 10 (by decide)) with h2 | h2 | h2 | h2 | h2 | h2 | h2 | h2 | h2 | h2
    · exact ncase40 a b h1 h2
    · exact ncase41 a b h1 h2
    · exact ncase42 a b h1 h2
    · exact ncase43 a b h1 h2
    · exact ncase44 a b h1 h2
    · exact ncase45 a b h1 h2
    · exact ncase46 a b h1 h2
    · exact ncase47 a b h1 h2
    · exact ncase48 a b h1 h2
    · exact ncase49 a b h1 h2
  · rcases ten (placeN_lt b 10 (by decide)) with h2 | h2 | h2 | h2 | h2 | h2 | h2 | h2 | h2 | h2
    · exact ncase50 a b h1 h2
    · exact ncase51 a b h1 h2
    · exact ncase52 a b h1 h2
    · exact ncase53 a b h1 h2
    · exact ncase54 a b h1 h2
    · exact ncase55 a b h1 h2
    · exact ncase56 a b h1 h2
    · exact ncase57 a b h1 h2
    · exact ncase58 a b h1 h2
    · exact ncase59 a b h1 h2
  · rcases ten (placeN_lt b 10 (by decide)) with h2 | h2 | h2 | h2 | h2 | h2 | h2 | h2 | h2 | h2
    · exact ncase60 a b h1 h2
    · exact ncase61 a b h1 h2
    · exact ncase62 a b h1 h2
    · exact ncase63 a b h1 h2
    · exact ncase64 a b h1 h2
    · exact ncase65 a b h1 h2
    · exact ncase66 a b h1 h2
    · exact ncase67 a b h1 h2
    · exact ncase68 a b h1 h2
    · exact ncase69 a b h1 h2
  · rcases ten (placeN_lt b 10 (by decide)) with h2 | h2 | h2 | h2 | h2 | h2 | h2 | h2 | h2 | h2
    · exact ncase70 a b h1 h2
    · exact ncase71 a b h1 h2
    · exact ncase72 a b h1 h2
    · exact ncase73 a b h1 h2
    · exact ncase74 a b h1 h2
    · exact ncase75 a b h1 h2
    · exact ncase76 a b h1 h2
    · exact ncase77 a b h1 h2
    · exact ncase78 a b h1 h2
    · exact ncase79 a b h1 h2
  · rcases ten (placeN_lt b 10 (by decide)) with h2 | h2 | h2 | h2 | h2 | h2 | h2 | h2 | h2 | h2
    · exact ncase80 a b h1 h2
    · exact ncase81 a b h1 h2
    · exact ncase82 a b h1 h2
    · exact ncase83 a b h1 h2
    · exact ncase84 a b h1 h2
    · exact ncase85 a b h1 h2
    · exact ncase86 a b h1 h2
    · exact ncase87 a b h1 h2
    · exact ncase88 a b h1 h2
    · exact ncase89 a b h1 h2
  · rcases ten (placeN_lt b 10 (by decide)) with h2 | h2 | h2 | h2 | h2 | h2 | h2 | h2 | h2 | h2
    · exact ncase90 a b h1 h2
    · exact ncase91 a b h1 h2
    · exact ncase92 a b h1 h2
    · exact ncase93 a b h1 h2
    · exact ncase94 a b h1 h2
    · exact ncase95 a b h1 h2
    · exact ncase96 a b h1 h2
    · exact ncase97 a b h1 h2
    · exact ncase98 a b h1 h2
    · exact ncase99 a b h1 h2
theorem names_any (a b : Int) (w : World) : Calls Tryz.prog 5 #[.int .i64 a, .int .i64 b] w fun e w' => e = .returned (.bool true) ∧ Below w.heap.size w w' := by
  refine ((names_key a b).2 w (fun _ => none) [.int .i64 a, .int .i64 b] (.cons (.sym 0) (.cons (.sym 1) .nil))).mono ?_
  rintro e w' ⟨x, rfl, hv, hb⟩
  rw [hv.bool_inv]
  exact ⟨rfl, hb⟩
end Go.Proofs.YtfhjamimbgdfpaaGreat.X.Exp
