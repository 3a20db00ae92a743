/- PrimArity: whatever the two numbers, the law answers true: it comes to one of 680 runs; no condition. -/
import Derived.Test.YtnmidllemdijdaaGreatDoorPriArA
import Derived.Test.YtnmidllemdijdaaGreatDoorPriArB
import Derived.Test.YtnmidllemdijdaaGreatDoorPriArC
import Derived.Test.YtnmidllemdijdaaGreatDoorPriArD
import Derived.Test.YtnmidllemdijdaaGreatDoorPriArE
import Derived.Test.YtnmidllemdijdaaGreatDoorPriArF
import Derived.Test.YtnmidllemdijdaaGreatDoorPriArG
import Derived.Test.YtnmidllemdijdaaGreatDoorPriArH
import Derived.Test.YtnmidllemdijdaaGreatDoorPriArI
import Derived.Test.YtnmidllemdijdaaGreatDoorPriArJ
import Derived.Test.YtnmidllemdijdaaGreatDoorPriArK
import Derived.Test.YtnmidllemdijdaaGreatDoorPriArL
import Derived.Test.YtnmidllemdijdaaGreatDoorPriArM
import Derived.Test.YtnmidllemdijdaaGreatDoorPriArN
import Derived.Test.YtnmidllemdijdaaGreatDoorPriArO
namespace Go.Proofs.YtnmidllemdijdaaGreatDoor.X.Pri
open Go Go.RowKit
theorem lt_step {Q : Nat → Prop} {n : Nat} (h : ∀ i, i < n → Q i) (hn : Q n) : ∀ i, i < n + 1 → Q i := fun i hi => by
  by_cases e : i = n
  · rw [e]; exact hn
  · exact h i (by omega)
theorem none_eight : ∀ i, i < 0 → Eight i := fun i h => absurd h (Nat.not_lt_zero i)
theorem all_eight : ∀ i, i < 85 → Eight i := (lt_step (lt_step (lt_step (lt_step (lt_step (lt_step (lt_step (lt_step (lt_step (lt_step (lt_step (lt_step (lt_step (lt_step (lt_step (lt_step (lt_step (lt_step (lt_step (lt_step (lt_step (lt_step (lt_step (lt_step (lt_step (lt_step (lt_step (lt_step (lt_step (lt_step (lt_step (lt_step (lt_step (lt_step (lt_step (lt_step (lt_step (lt_step (lt_step (lt_step (lt_step (lt_step (lt_step (lt_step (lt_step (lt_step (lt_step (lt_step (lt_step (lt_step (lt_step (lt_step (lt_step (lt_step (lt_step (lt_step (lt_step (lt_step (lt_step (lt_step (lt_step (lt_step (lt_step (lt_step (lt_step (lt_step (lt_step (lt_step (lt_step (lt_step (lt_step (lt_step (lt_step (lt_step (lt_step (lt_step (lt_step (lt_step (lt_step (lt_step (lt_step (lt_step (lt_step (lt_step (lt_step none_eight eight0) eight1) eight2) eight3) eight4) eight5) eight6) eight7) eight8) eight9) eight10) eight11) eight12) eight13) eight14) eight15) eight16) eight17) eight18) eight19) eight20) eight21) eight22) eight23) eight24) eight25) eight26) eight27) eight28) eight29) eight30) eight31) eight32) eight33) eight34) eight35) eight36) eight37) eight38) eight39) eight40) eight41) eight42) eight43) eight44) eight45) eight46) eight47) eight48) eight49) eight50) eight51) eight52) eight53) eight54) eight55) eight56) eight57) eight58) eight59) eight60) eight61) eight62) eight63) eight64) eight65) eight66) eight67) eight68) eight69) eight70) eight71) eight72) eight73) eight74) eight75) eight76) eight77) eight78) eight79) eight80) eight81) eight82) eight83) eight84)
theorem arity_any (a b : Int) (w : World) : Calls Tryz.prog 3 #[.int .i64 a, .int .i64 b] w fun e w' => e = .returned (.bool true) ∧ Below w.heap.size w w' := by
  have key := pcase a b _ _ rfl rfl (all_eight _ (placeN_lt a 85 (by decide)) _ (placeN_lt b 8 (by decide)))
  refine (key.2 w (fun _ => none) [.int .i64 a, .int .i64 b] (.cons (.sym 0) (.cons (.sym 1) .nil))).mono ?_
  rintro e w' ⟨x, rfl, hv, hb⟩
  rw [hv.bool_inv]
  exact ⟨rfl, hb⟩
end Go.Proofs.YtnmidllemdijdaaGreatDoor.X.Pri
