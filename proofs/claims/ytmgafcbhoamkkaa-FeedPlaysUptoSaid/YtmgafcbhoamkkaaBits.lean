/-
  The bits of two ints together ('|'): in whatever order, however often.
-/
import Derived.Test.YtmgafcbhoamkkaaLib
namespace Go.Proofs.Ytmgafcbhoamkkaa

theorem or64 (a b : Int) : bits .or .i64 a b = (BitVec.ofInt 64 a ||| BitVec.ofInt 64 b).toInt := by
  show IntKind.i64.wrap ((BitVec.ofInt 64 a ||| BitVec.ofInt 64 b).toNat : Int) = _
  generalize BitVec.ofInt 64 a ||| BitVec.ofInt 64 b = x
  have h := x.isLt
  simp only [IntKind.wrap, IntKind.bits, IntKind.signed, BitVec.toInt_eq_toNat_cond]
  simp
  split <;> split <;> omega

theorem or64_comm (a b : Int) : bits .or .i64 a b = bits .or .i64 b a := by rw [or64, or64, BitVec.or_comm]
theorem or64_assoc (a b c : Int) : bits .or .i64 (bits .or .i64 a b) c = bits .or .i64 a (bits .or .i64 b c) := by
  simp only [or64, BitVec.ofInt_toInt, BitVec.or_assoc]
theorem or64_self (a b : Int) : bits .or .i64 (bits .or .i64 a b) (bits .or .i64 a b) = bits .or .i64 a b := by
  simp only [or64, BitVec.ofInt_toInt, BitVec.or_self]
theorem or64_left (a b : Int) : bits .or .i64 (bits .or .i64 a b) a = bits .or .i64 a b := by
  simp only [or64, BitVec.ofInt_toInt]
  rw [BitVec.or_comm (BitVec.ofInt 64 a), BitVec.or_assoc, BitVec.or_self]
theorem or64_wf (a b : Int) : (Lit.int .i64 (bits .or .i64 a b)).wf = true := by
  rw [or64]
  generalize BitVec.ofInt 64 a ||| BitVec.ofInt 64 b = x
  have h1 := x.toInt_lt
  have h2 := x.le_toInt
  have e1 : IntKind.i64.min = -9223372036854775808 := by decide
  have e2 : IntKind.i64.max = 9223372036854775807 := by decide
  simp only [Lit.wf, e1, e2, Bool.and_eq_true, decide_eq_true_eq]
  omega
theorem wf_bounds {a : Int} (h : (Lit.int .i64 a).wf = true) : -9223372036854775808 ≤ a ∧ a ≤ 9223372036854775807 := by
  have e1 : IntKind.i64.min = -9223372036854775808 := by decide
  have e2 : IntKind.i64.max = 9223372036854775807 := by decide
  simpa only [Lit.wf, e1, e2, Bool.and_eq_true, decide_eq_true_eq] using h
theorem or64_zero (a : Int) (h : (Lit.int .i64 a).wf = true) : bits .or .i64 0 a = a := by
  have := wf_bounds h
  rw [or64, show BitVec.ofInt 64 0 = 0#64 from rfl, BitVec.zero_or, BitVec.toInt_ofInt]
  exact Int.bmod_eq_of_le (by omega) (by omega)

end Go.Proofs.Ytmgafcbhoamkkaa
