/- A verified executor, part XStr: laws of the executor; no condition. -/
import Derived.Test.YtfhjamimbgdfpaaGreatXNum
import Derived.Laws.Strings
import Derived.Lib.Strings
import Derived.Lib.SmallJoins
namespace Go.Proofs.YtfhjamimbgdfpaaGreat.X
open Go
set_option linter.unusedVariables false
set_option linter.unusedSimpArgs false

theorem digits_lt : ∀ l : List UInt8, digits l < 256 ^ l.length
  | [] => by simp [digits]
  | b :: r => by
    have := digits_lt r
    have hb := b.toNat_lt
    simp only [digits, List.length_cons, Nat.pow_succ]
    omega
theorem pow_256 (n : Nat) : 2 ^ (8 * n) = 256 ^ n := by rw [Nat.pow_mul]
theorem digits_drop : ∀ (i : Nat) (l : List UInt8), digits l >>> (8 * i) = digits (l.drop i)
  | 0, l => by simp
  | i + 1, [] => by simp [digits]
  | i + 1, b :: r => by
    have hb := b.toNat_lt
    rw [List.drop_succ_cons, ← digits_drop i r, Nat.shiftRight_eq_div_pow, Nat.shiftRight_eq_div_pow, pow_256, pow_256, Nat.pow_succ, Nat.mul_comm, ← Nat.div_div_eq_div_mul]
    congr 1
    simp only [digits]
    omega
theorem digits_take : ∀ (n : Nat) (l : List UInt8), digits l % 256 ^ n = digits (l.take n)
  | 0, l => by simp [digits, Nat.mod_one]
  | n + 1, [] => by simp [digits]
  | n + 1, b :: r => by
    have hb := b.toNat_lt
    have ih := digits_take n r
    rw [List.take_succ_cons]
    simp only [digits]
    rw [← ih, Nat.pow_succ, Nat.mul_comm (256 ^ n) 256, Nat.mod_mul]
    have e1 : (b.toNat + 256 * digits r) % 256 = b.toNat := by omega
    have e2 : (b.toNat + 256 * digits r) / 256 = digits r := by omega
    rw [e1, e2]
theorem strAt_spec {l : List UInt8} {i : Nat} {b : UInt8} (h : l[i]? = some b) : strAt (digits l) i = b.toNat := by
  show (digits l >>> (8 * i)) % 256 = _
  rw [digits_drop]
  have hd : l.drop i = b :: l.drop (i + 1) := by
    obtain ⟨hi, rfl⟩ := List.getElem?_eq_some_iff.1 h
    exact List.drop_eq_getElem_cons hi
  rw [hd]
  have hb := b.toNat_lt
  simp only [digits]; omega
theorem strCut_spec (l : List UInt8) (a h : Nat) : strCut (digits l) a h = digits ((l.drop a).take (h - a)) := by
  show (digits l >>> (8 * a)) % 2 ^ (8 * (h - a)) = _
  rw [digits_drop, pow_256, digits_take]
theorem strCat_spec (a b : List UInt8) : strCat a.length (digits a) (digits b) = digits (a ++ b) := by
  show digits a + digits b <<< (8 * a.length) = _
  rw [Nat.shiftLeft_eq, pow_256]
  induction a with
  | nil => simp [digits]
  | cons x a ih =>
    simp only [List.cons_append, digits, List.length_cons, Nat.pow_succ]
    rw [← ih, Nat.mul_add, Nat.add_assoc]
    congr 2
    rw [Nat.mul_left_comm 256, Nat.mul_comm 256]
theorem digits_inj : ∀ {a b : List UInt8}, a.length = b.length → digits a = digits b → a = b
  | [], [], _, _ => rfl
  | x :: a, y :: b, hl, h => by
    have hx := x.toNat_lt
    have hy := y.toNat_lt
    simp only [digits] at h
    have e : x.toNat = y.toNat := by omega
    obtain rfl : x = y := UInt8.toNat_inj.1 e
    rw [digits_inj (a := a) (b := b) (by simpa using hl) (by omega)]
theorem asBytes_spec {σ : Sg} {ρ : Ren} : ∀ (f : Nat) (l : List UInt8) (i : Nat), i + f = l.length → VRs σ ρ (asBytes (digits l) f i) ((l.drop i).map fun b => Value.int .u8 b.toNat)
  | 0, l, i, h => by rw [List.drop_eq_nil_of_le (by omega)]; exact .nil
  | f + 1, l, i, h => by
    have hi : i < l.length := by omega
    rw [List.drop_eq_getElem_cons hi]
    unfold asBytes
    rw [strAt_spec (List.getElem?_eq_getElem hi)]
    exact .cons (.int _ _) (asBytes_spec f l (i + 1) (by omega))

theorem size_data (s : ByteArray) : s.size = s.data.toList.length := by cases s; rfl
theorem str_eq (x y : ByteArray) : (Nat.beq x.size y.size && Nat.beq (digits x.data.toList) (digits y.data.toList)) = (x.toList == y.toList) := by
  rw [beq_iff, beq_iff, ByteArray.toList_eq, ByteArray.toList_eq, Bool.eq_iff_iff]
  simp only [Bool.and_eq_true, decide_eq_true_eq, beq_iff_eq]
  constructor
  · rintro ⟨h1, h2⟩
    rw [size_data, size_data] at h1
    exact digits_inj h1 h2
  · intro h
    rw [size_data, size_data, h]
    exact ⟨rfl, rfl⟩
theorem strLess_spec (a b : List UInt8) : ∀ (f i : Nat), i ≤ a.length → a.length < i + f → strLess f i a.length (digits a) b.length (digits b) = Op.bytesLess (a.drop i) (b.drop i)
  | 0, i, h1, h2 => by omega
  | f + 1, i, h1, h2 => by
    unfold strLess
    rw [ble_iff, ble_iff, blt_iff, beq_iff]
    by_cases c1 : b.length ≤ i
    · rw [decide_eq_true c1, cond_true, List.drop_eq_nil_of_le c1]
      cases a.drop i <;> rfl
    · rw [decide_eq_false c1, cond_false]
      have hb : i < b.length := by omega
      rw [List.drop_eq_getElem_cons hb]
      by_cases c2 : a.length ≤ i
      · rw [decide_eq_true c2, cond_true, List.drop_eq_nil_of_le c2]; rfl
      · rw [decide_eq_false c2, cond_false]
        have ha : i < a.length := by omega
        rw [List.drop_eq_getElem_cons ha, strAt_spec (List.getElem?_eq_getElem ha), strAt_spec (List.getElem?_eq_getElem hb)]
        simp only [Op.bytesLess]
        rw [← strLess_spec a b f (i + 1) (by omega) (by omega)]
        by_cases c3 : a[i].toNat < b[i].toNat
        · rw [decide_eq_true c3, cond_true, decide_eq_true (UInt8.lt_iff_toNat_lt.2 c3)]; rfl
        · rw [decide_eq_false c3, cond_false, decide_eq_false (fun e => c3 (UInt8.lt_iff_toNat_lt.1 e)), Bool.false_or]
          by_cases c4 : a[i].toNat = b[i].toNat
          · rw [decide_eq_true c4, cond_true]
            have e : a[i] = b[i] := UInt8.toNat_inj.1 c4
            simp [e]
          · rw [decide_eq_false c4, cond_false]
            have e : (a[i] == b[i]) = false := by simp; exact fun e => c4 (by rw [e])
            rw [e, Bool.false_and]
theorem binS_sound {p : Program} {w : World} {op : BinOp} {x y : ByteArray} {v : V} (t : TypeId) (h : binS op x.size (digits x.data.toList) y.size (digits y.data.toList) = some v) :
    ∃ r, (binOp op t (.string x) (.string y)).run p w = .ok r w ∧ ∀ σ ρ, VR σ ρ v r := by
  have hl : strLess (x.size + 1) 0 x.size (digits x.data.toList) y.size (digits y.data.toList) = Op.bytesLess x.toList y.toList := by
    rw [size_data, size_data, strLess_spec _ _ _ 0 (by omega) (by omega), ByteArray.toList_eq, ByteArray.toList_eq]; rfl
  unfold binS at h
  simp only [hl, str_eq] at h
  split at h
  · obtain ⟨h1, h2⟩ := bif_some h
    simp only [ble_iff, decide_eq_true_eq, Option.some.injEq] at h1 h2
    subst h2
    have hm : (1000000000 : Int) ≤ IntKind.i64.max := by decide
    have h1' : x.size + y.size ≤ 1000000000 := h1
    refine ⟨.string (x ++ y), ?_, fun σ ρ => ?_⟩
    · simp only [binOp, Op.stringOp]
      rw [if_neg (by simp only [Int.not_lt, gt_iff_lt]; omega)]
      simp
    · have e1 : Nat.add x.size y.size = (x ++ y).size := by
        rw [size_data (x ++ y), Joins.data_append, List.length_append, ← size_data, ← size_data]; rfl
      have e2 : strCat x.size (digits x.data.toList) (digits y.data.toList) = digits (x ++ y).data.toList := by
        rw [Joins.data_append, ← strCat_spec, ← size_data]
      rw [e1, e2]; exact .str _
  all_goals first | (cases h; done) | skip
  all_goals
    simp only [Option.some.injEq] at h
    subst h
    refine ⟨_, by simp only [binOp, Op.stringOp]; simp, fun σ ρ => .bool _⟩
end Go.Proofs.YtfhjamimbgdfpaaGreat.X
