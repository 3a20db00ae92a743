/-
  The heap of words in memory: the struct's block, the two rows of the half in use; what a method may write. No condition.
-/
import Derived.Test.YtafignheedbnbaaGreatDoorLib
import Derived.Test.YtafignheedbnbaaGreatDoorPhA
import Derived.Maps.AppendAt
import Derived.BigRegion
import Derived.BigQuiet
import Derived.OneCell
import Derived.Deep.CutRange
namespace Go.Proofs.YtafignheedbnbaaGreatDoor
open Go.RowKit
set_option linter.unusedSimpArgs false

/-- A word as a value. -/
def wV (n : Nat) : Value := .int .u64 n

theorem ph_lt {w : World} {b : Nat} {o : Obj} (h : w.heap[b]? = some o) : b < w.heap.size := (Array.getElem?_eq_some_iff.1 h).1

/-- The heap in the struct at block hb, of so many words: these objects, one behind the other. -/
structure HpAt (w : World) (B hb sz : Nat) (v1 v2 : Value) (h : List Ob) : Prop where
  box : ∃ u1 u2, w.heap[hb]? = some (.cells #[.int .i64 sz, v1, v2, u1, u2, .int .i64 0, .int .i64 0] 138 (0, 0))
  ws : w.ownsRow B 29 1 v1 (used h) ((hpW h).map wV)
  bs : w.ownsRow B 4 1 v2 (used h) ((hpB h).map .bool)
  ok : ∀ o ∈ h, o.Ok
  room : used h ≤ sz
  low : B ≤ hb
  small : sz ≤ 16777216

/-- The blocks that its methods may write. -/
def HMine (hb : Nat) (v1 v2 : Value) (b : Nat) : Prop := b = hb ∨ v1.ownBlock = some b ∨ v2.ownBlock = some b

theorem ph_own {w : World} {B : Nat} {e : TypeId} {s n : Nat} {v : Value} {xs : List Value} (h : w.ownsRow B e s v n xs) {b : Nat} (hb : v.ownBlock = some b) : B ≤ b ∧ b < w.heap.size ∧ ∃ cur, w.heap[b]? = some (.cells cur e (0, 0)) := by
  rcases h.2 with ⟨rfl, -⟩ | ⟨g, cap, cur, rfl, h2, h3, -⟩
  · simp [Value.ownBlock] at hb
  · simp [Value.ownBlock] at hb
    subst hb
    exact ⟨h2, ph_lt h3, cur, h3⟩

theorem ph_kept {w w' : World} {B : Nat} {e : TypeId} {s n : Nat} {v : Value} {xs : List Value} (h : w.ownsRow B e s v n xs) (hb : ∀ b, v.ownBlock = some b → w'.heap[b]? = w.heap[b]?) : w'.ownsRow B e s v n xs := by
  refine ⟨h.1, ?_⟩
  rcases h.2 with h | ⟨g, cap, cur, rfl, h2, h3, h4⟩
  · exact .inl h
  · exact .inr ⟨g, cap, cur, rfl, h2, (hb g rfl).trans h3, h4⟩

theorem HpAt.lt {w : World} {B hb sz : Nat} {v1 v2 : Value} {h : List Ob} (k : HpAt w B hb sz v1 v2 h) {b : Nat} (hm : HMine hb v1 v2 b) : b < w.heap.size ∧ B ≤ b := by
  rcases hm with rfl | hm | hm
  · obtain ⟨u1, u2, e⟩ := k.box
    exact ⟨ph_lt e, k.low⟩
  · have := ph_own k.ws hm; exact ⟨this.2.1, this.1⟩
  · have := ph_own k.bs hm; exact ⟨this.2.1, this.1⟩

theorem HpAt.kept {w w' : World} {B hb sz : Nat} {v1 v2 : Value} {h : List Ob} (k : HpAt w B hb sz v1 v2 h) (hk : ∀ b, HMine hb v1 v2 b → w'.heap[b]? = w.heap[b]?) : HpAt w' B hb sz v1 v2 h := by
  obtain ⟨⟨u1, u2, e⟩, h1, h2, h3, h4, h5, h6⟩ := k
  exact ⟨⟨u1, u2, (hk _ (.inl rfl)).trans e⟩, ph_kept h1 fun b e => hk b (.inr (.inl e)), ph_kept h2 fun b e => hk b (.inr (.inr e)), h3, h4, h5, h6⟩

theorem HpAt.below {w w' : World} {B hb sz : Nat} {v1 v2 : Value} {h : List Ob} (k : HpAt w B hb sz v1 v2 h) (hb2 : Below w.heap.size w w') : HpAt w' B hb sz v1 v2 h := k.kept fun b e => hb2.block b (k.lt e).1

theorem used_pos (h : List Ob) : 1 ≤ used h := by unfold used hpW; simp

/-- The words' row, at a place. -/
theorem HpAt.word {w : World} {B hb sz : Nat} {v1 v2 : Value} {h : List Ob} (k : HpAt w B hb sz v1 v2 h) : ∃ g cap, v1 = .slice (some ⟨g, 0, none⟩) (used h) cap ∧ g < w.heap.size ∧ g ≠ hb ∧ (∀ o, w.frozen? ⟨g, o, none⟩ = false) ∧ ∀ (i n : Nat), (hpW h)[i]? = some n → w.cell? ⟨g, i, none⟩ = some (.int .u64 n) := by
  have hp := used_pos h
  rcases k.ws.2 with ⟨-, h1⟩ | ⟨g, cap, cur, rfl, h2, h3, h4, h5, h6, h7⟩
  · omega
  · refine ⟨g, cap, rfl, ph_lt h3, ?_, fun o => by simp [World.frozen?, h3], fun i n hi => ?_⟩
    · rintro rfl
      obtain ⟨u1, u2, e⟩ := k.box
      rw [h3] at e
      simp only [Option.some.injEq, Obj.cells.injEq] at e
      exact absurd e.2.1 (by decide)
    · have hil : i < used h := (List.getElem?_eq_some_iff.1 hi).1
      have e1 : ((hpW h).map wV)[i]? = some (.int .u64 n) := by rw [List.getElem?_map, hi]; rfl
      rw [← h7, List.getElem?_take, if_pos (by omega), Array.getElem?_toList] at e1
      simp [World.cell?, h3, e1]

/-- Where objects begin, at a place. -/
theorem HpAt.begin {w : World} {B hb sz : Nat} {v1 v2 : Value} {h : List Ob} (k : HpAt w B hb sz v1 v2 h) : ∃ g cap, v2 = .slice (some ⟨g, 0, none⟩) (used h) cap ∧ g < w.heap.size ∧ g ≠ hb ∧ (∀ o, w.frozen? ⟨g, o, none⟩ = false) ∧ ∀ i, i < used h → w.cell? ⟨g, i, none⟩ = some (.bool ((hpB h).getD i false)) := by
  have hp := used_pos h
  rcases k.bs.2 with ⟨-, h1⟩ | ⟨g, cap, cur, rfl, h2, h3, h4, h5, h6, h7⟩
  · omega
  · refine ⟨g, cap, rfl, ph_lt h3, ?_, fun o => by simp [World.frozen?, h3], fun i hi => ?_⟩
    · rintro rfl
      obtain ⟨u1, u2, e⟩ := k.box
      rw [h3] at e
      simp only [Option.some.injEq, Obj.cells.injEq] at e
      exact absurd e.2.1 (by decide)
    · have hil : i < (hpB h).length := by rw [hp_len]; exact hi
      have e1 : ((hpB h).map Value.bool)[i]? = some (.bool ((hpB h).getD i false)) := by
        rw [List.getElem?_map, List.getElem?_eq_getElem hil]
        simp [List.getD, hil]
      rw [← h7, List.getElem?_take, if_pos (by omega), Array.getElem?_toList] at e1
      simp [World.cell?, h3, e1]

end Go.Proofs.YtafignheedbnbaaGreatDoor

/-
  The walks of the heap's methods that only look: half, Size, Used, is, Is, head, Kind, Tagged, Raws, field, read, Get.
-/
namespace Go.Proofs.YtafignheedbnbaaGreatDoor
open Go.RowKit Go.BigFrame
set_option linter.unusedSimpArgs false
set_option linter.unusedVariables false

theorem hp_cells {w : World} {B hb sz : Nat} {v1 v2 : Value} {h : List Ob} (k : HpAt w B hb sz v1 v2 h) : w.cell? ⟨hb, 0, none⟩ = some (.int .i64 sz) ∧ w.cell? ⟨hb, 1, none⟩ = some v1 ∧ w.cell? ⟨hb, 2, none⟩ = some v2 ∧ w.cell? ⟨hb, 5, none⟩ = some (.int .i64 0) ∧ hb < w.heap.size := by
  obtain ⟨u1, u2, e⟩ := k.box
  refine ⟨?_, ?_, ?_, ?_, ph_lt e⟩ <;> simp [World.cell?, e]

section
variable {w : World} {B hb sz : Nat} {v1 v2 : Value} {h : List Ob}

set_option maxHeartbeats 1000000 in
theorem half_any (k : HpAt w B hb sz v1 v2 h) : Calls Tryz.prog 74 #[.pointer (some ⟨hb, 0, none⟩)] w fun e w' => e = .returned (.pointer (some ⟨hb, 1, none⟩)) ∧ Below w.heap.size w w' := by
  obtain ⟨c0, c1, c2, c5, hl⟩ := hp_cells k
  clear k
  go_enter Tryz.func74, Tryz.ntmps74
  go_wp2
  go_quiet (fail)
  go_wp2
  go_ret
  exact ⟨rfl, by repeat (first | exact Below.refl _ _ | apply Below.drew | apply below_drewN)⟩

set_option maxHeartbeats 1000000 in
theorem size_any (k : HpAt w B hb sz v1 v2 h) : Calls Tryz.prog 65 #[.pointer (some ⟨hb, 0, none⟩)] w fun e w' => e = .returned (.int .i64 sz) ∧ Below w.heap.size w w' := by
  obtain ⟨c0, c1, c2, c5, hl⟩ := hp_cells k
  clear k
  go_enter Tryz.func65, Tryz.ntmps65
  go_wp2
  go_ret
  exact ⟨rfl, Below.refl _ _⟩

set_option maxHeartbeats 1000000 in
theorem used_any (k : HpAt w B hb sz v1 v2 h) : Calls Tryz.prog 35 #[.pointer (some ⟨hb, 0, none⟩)] w fun e w' => e = .returned (.int .i64 (used h)) ∧ Below w.heap.size w w' := by
  have HH := hide (half_any k)
  have HK := hide k
  obtain ⟨g, cap, e1, -⟩ := k.word
  clear k
  subst e1
  go_enter Tryz.func35, Tryz.ntmps35
  go_wp2_with (go_at_call 74; refine HH.out.mono ?_; rintro e w1 ⟨rfl, hb1⟩; obtain ⟨c0, c1, c2, c5, hl⟩ := hp_cells (HK.out.below hb1))
  go_ret
  exact ⟨rfl, hb1⟩

/-- p % 4 == 0 && p/4 < uint64(len(x.begins)) && x.begins[p/4]. -/
theorem isB_cases (h : List Ob) (p : Nat) : (p % 4 ≠ 0 ∧ isB h p = false) ∨ (p % 4 = 0 ∧ used h ≤ p / 4 ∧ isB h p = false) ∨ (p % 4 = 0 ∧ p / 4 < used h ∧ isB h p = (hpB h).getD (p / 4) false) := by
  unfold isB
  by_cases h1 : p % 4 = 0
  · by_cases h2 : p / 4 < used h
    · right; right; exact ⟨h1, h2, by simp [h1]⟩
    · right; left
      refine ⟨h1, by omega, ?_⟩
      have : (hpB h)[p / 4]? = none := List.getElem?_eq_none (by rw [hp_len]; omega)
      simp [h1, List.getD, this]
  · left; exact ⟨h1, by simp [h1]⟩

set_option maxHeartbeats 1000000 in
theorem ishalf_any (k : HpAt w B hb sz v1 v2 h) (p : Nat) (hp : p < 18446744073709551616) : Calls Tryz.prog 170 #[.pointer (some ⟨hb, 1, none⟩), .int .u64 p] w fun e w' => e = .returned (.bool (isB h p)) ∧ Below w.heap.size w w' := by
  have hus : used h ≤ 16777216 := Nat.le_trans k.room k.small
  obtain ⟨c0, c1, c2, c5, hl⟩ := hp_cells k
  obtain ⟨g, cap, e1, hgl, -, -, hcell⟩ := k.begin
  subst e1
  have hc := isB_cases h p
  obtain ⟨n, hn⟩ : ∃ n, used h = n := ⟨_, rfl⟩
  rw [hn] at hus hcell hc c2
  clear k
  obtain ⟨q, r, hr, rfl⟩ : ∃ q r, r < 4 ∧ p = 4 * q + r := ⟨p / 4, p % 4, by omega, by omega⟩
  have hpi : ((4 * q + r : Nat) : Int) = 4 * (q : Int) + r := by omega
  rcases hc with ⟨h1, h2⟩ | ⟨h1, h3, h2⟩ | ⟨h1, h3, h2⟩
  · have hr0 : ¬ r = 0 := by omega
    rw [h2]
    go_enter Tryz.func170, Tryz.ntmps170
    go_wp2
    go_ret
    exact ⟨rfl, Below.refl _ _⟩
  · obtain rfl : r = 0 := by omega
    have hnq : (n : Int) ≤ q := by omega
    have hnq' : ¬ (q : Int) < n := by omega
    rw [h2]
    clear h1 h3 hcell hr
    go_enter Tryz.func170, Tryz.ntmps170
    go_wp2
    go_ret
    exact ⟨rfl, Below.refl _ _⟩
  · obtain rfl : r = 0 := by omega
    have hnq : (q : Int) < n := by omega
    have hq0 : (0 : Int) ≤ q := by omega
    have hx := hcell q (by omega)
    rw [show (4 * q + 0) / 4 = q by omega] at h2
    obtain ⟨b, hb⟩ : ∃ b, (hpB h).getD q false = b := ⟨_, rfl⟩
    rw [h2, hb]
    rw [hb] at hx
    clear h1 h3 hcell hr hb h2
    go_enter Tryz.func170, Tryz.ntmps170
    go_wp2
    go_ret
    exact ⟨rfl, Below.refl _ _⟩

theorem is_any (k : HpAt w B hb sz v1 v2 h) (p : Nat) (hp : p < 18446744073709551616) : Calls Tryz.prog 98 #[.pointer (some ⟨hb, 0, none⟩), .int .u64 p] w fun e w' => e = .returned (.bool (isB h p)) ∧ Below w.heap.size w w' := by
  have HH := hide (half_any k)
  have HK := hide k
  clear k
  go_enter Tryz.func98, Tryz.ntmps98
  go_wp2_with (first
    | (go_at_call 74; refine HH.out.mono ?_; rintro e w1 ⟨rfl, hb1⟩)
    | (go_at_call 170; refine (ishalf_any (HK.out.below hb1) p hp).mono ?_; rintro e w2 ⟨rfl, hb2⟩))
  go_ret
  exact ⟨rfl, hb1.trans (hb2.mono hb1.size)⟩

/-- An object's header; 0: it is none. -/
def headOf (h : List Ob) (p : Nat) : Nat := if isB h p = true then (hpW h).getD (p / 4) 0 else 0

theorem headOf_at {h : List Ob} {m : Nat} {o : Ob} (hm : h[m]? = some o) : headOf h (4 * start h m) = hdr o.k o.ts.length o.rs.length := by
  unfold headOf
  rw [if_pos (isB_iff.2 ⟨m, o, hm, rfl⟩), show 4 * start h m / 4 = start h m + 0 by omega, List.getD, hpW_get hm o.size_pos]
  rfl

set_option maxHeartbeats 1000000 in
theorem head_any (k : HpAt w B hb sz v1 v2 h) (p : Nat) (hp : p < 18446744073709551616) : Calls Tryz.prog 110 #[.pointer (some ⟨hb, 0, none⟩), .int .u64 p] w fun e w' => e = .returned (.int .u64 (headOf h p)) ∧ Below w.heap.size w w' := by
  have HI := hide (is_any k p hp)
  have HK := hide k
  have hus : used h ≤ 16777216 := Nat.le_trans k.room k.small
  clear k
  cases hi : isB h p
  · have h0 : headOf h p = 0 := by unfold headOf; rw [if_neg (by rw [hi]; decide)]
    rw [h0]
    rw [hi] at HI
    go_enter Tryz.func110, Tryz.ntmps110
    go_wp2_with (go_at_call 98; refine HI.out.mono ?_; rintro e w1 ⟨rfl, hb1⟩)
    go_ret
    exact ⟨rfl, hb1⟩
  · rw [hi] at HI
    obtain ⟨m, o, hm, rfl⟩ := isB_iff.1 hi
    rw [headOf_at hm]
    have hw := hpW_get hm o.size_pos
    have hx : (hpW h)[start h m]? = some (hdr o.k o.ts.length o.rs.length) := hw
    obtain ⟨q, hq⟩ : ∃ q, start h m = q := ⟨_, rfl⟩
    obtain ⟨d, hd⟩ : ∃ d, hdr o.k o.ts.length o.rs.length = d := ⟨_, rfl⟩
    rw [hq, hd] at hx
    rw [hd]
    rw [hq] at HI ⊢
    have hqu : q < used h := (List.getElem?_eq_some_iff.1 hx).1
    have HX := hide hx
    obtain ⟨n, hn⟩ : ∃ n, used h = n := ⟨_, rfl⟩
    have hqn : (q : Int) < n := by omega
    have hq0 : (0 : Int) ≤ q := by omega
    have HN := hide hn
    rw [hn] at hus
    clear hw hx hd hm hi hq hqu hn hp
    go_enter Tryz.func110, Tryz.ntmps110
    go_wp2_with (first
      | (go_at_call 98; refine HI.out.mono ?_; rintro e w1 ⟨rfl, hb1⟩)
      | (go_at_call 74; refine (half_any (HK.out.below hb1)).mono ?_; rintro e w2 ⟨rfl, hb2⟩; obtain ⟨c0, c1, c2, c5, hl⟩ := hp_cells ((HK.out.below hb1).below hb2); obtain ⟨g, cap, e1, hgl, -, -, hcell⟩ := ((HK.out.below hb1).below hb2).word; rw [HN.out] at e1; subst e1; have hy := hcell q d HX.out; clear hcell))
    go_ret
    exact ⟨rfl, hb1.trans (hb2.mono hb1.size)⟩

theorem wrap64_nat (n : Nat) (hn : n < 9223372036854775808) : wrap64 (n : Int) = n := by unfold wrap64; omega

theorem and_mask (x k : Nat) (hx : x < 18446744073709551616) (hk : k ≤ 63) : bits .and .u64 (x : Int) ((2 ^ k - 1 : Nat) : Int) = ((x % 2 ^ k : Nat) : Int) := by
  have h2 : (2 ^ k - 1 : Nat) < 18446744073709551616 := by
    have : 2 ^ k ≤ 2 ^ 63 := Nat.pow_le_pow_right (by omega) hk
    omega
  show IntKind.u64.wrap ((BitVec.ofInt 64 (x : Int) &&& BitVec.ofInt 64 ((2 ^ k - 1 : Nat) : Int)).toNat : Int) = _
  rw [BitVec.ofInt_natCast, BitVec.ofInt_natCast, BitVec.toNat_and, BitVec.toNat_ofNat, BitVec.toNat_ofNat, Nat.mod_eq_of_lt (show x < 2 ^ 64 from hx), Nat.mod_eq_of_lt (show 2 ^ k - 1 < 2 ^ 64 from h2), Nat.and_two_pow_sub_one_eq_mod]
  have hm : x % 2 ^ k ≤ x := Nat.mod_le _ _
  have hw : ∀ n : Nat, n < 18446744073709551616 → IntKind.u64.wrap (n : Int) = n := fun n hn => by
    simp [IntKind.wrap, IntKind.bits, IntKind.signed]
    omega
  exact hw _ (by omega)

theorem headOf_lt {h : List Ob} (hok : ∀ o ∈ h, o.Ok) (p : Nat) : headOf h p < 18446744073709551616 := by
  unfold headOf
  split
  · rename_i hi
    obtain ⟨m, o, hm, rfl⟩ := isB_iff.1 hi
    have e := headOf_at hm
    unfold headOf at e
    rw [if_pos hi] at e
    rw [e]
    have ho := hok o (List.mem_of_getElem? hm)
    exact hdr_lt ho.kind ho.tn ho.rn
  · omega

set_option maxHeartbeats 1000000 in
theorem kind_any (k : HpAt w B hb sz v1 v2 h) (p : Nat) (hp : p < 18446744073709551616) : Calls Tryz.prog 109 #[.pointer (some ⟨hb, 0, none⟩), .int .u64 p] w fun e w' => e = .returned (.int .i64 (headOf h p / 4 % 64 : Nat)) ∧ Below w.heap.size w w' := by
  have HI := hide (head_any k p hp)
  have hdl := headOf_lt k.ok p
  clear k
  obtain ⟨d, hd⟩ : ∃ d, headOf h p = d := ⟨_, rfl⟩
  rw [hd] at HI hdl ⊢
  have hm := and_mask (d / 4) 6 (by omega) (by omega)
  have HM := hide hm
  clear hd hm
  go_enter Tryz.func109, Tryz.ntmps109
  go_wp2_with (go_at_call 110; refine HI.out.mono ?_; rintro e w1 ⟨rfl, hb1⟩)
  go_ret
  have e : bits BinOp.and IntKind.u64 ((d : Int) / 4) 63 = ((d / 4 % 64 : Nat) : Int) := by
    have := HM.out
    simpa using this
  exact ⟨by show Ending.returned (.int .i64 (wrap64 (bits BinOp.and IntKind.u64 ((d : Int) / 4) 63))) = _; rw [e, wrap64_nat _ (by omega)], hb1⟩

set_option maxHeartbeats 1000000 in
theorem tagged_any (k : HpAt w B hb sz v1 v2 h) (p : Nat) (hp : p < 18446744073709551616) : Calls Tryz.prog 104 #[.pointer (some ⟨hb, 0, none⟩), .int .u64 p] w fun e w' => e = .returned (.int .i64 (headOf h p / 256 % 16777216 : Nat)) ∧ Below w.heap.size w w' := by
  have HI := hide (head_any k p hp)
  have hdl := headOf_lt k.ok p
  clear k
  obtain ⟨d, hd⟩ : ∃ d, headOf h p = d := ⟨_, rfl⟩
  rw [hd] at HI hdl ⊢
  have hm := and_mask (d / 256) 24 (by omega) (by omega)
  have HM := hide hm
  clear hd hm
  go_enter Tryz.func104, Tryz.ntmps104
  go_wp2_with (go_at_call 110; refine HI.out.mono ?_; rintro e w1 ⟨rfl, hb1⟩)
  go_ret
  have e : bits BinOp.and IntKind.u64 ((d : Int) / 256) 16777215 = ((d / 256 % 16777216 : Nat) : Int) := by
    have := HM.out
    simpa using this
  exact ⟨by show Ending.returned (.int .i64 (wrap64 (bits BinOp.and IntKind.u64 ((d : Int) / 256) 16777215))) = _; rw [e, wrap64_nat _ (by omega)], hb1⟩

set_option maxHeartbeats 1000000 in
theorem raws_any (k : HpAt w B hb sz v1 v2 h) (p : Nat) (hp : p < 18446744073709551616) : Calls Tryz.prog 62 #[.pointer (some ⟨hb, 0, none⟩), .int .u64 p] w fun e w' => e = .returned (.int .i64 (headOf h p / 4294967296 % 16777216 : Nat)) ∧ Below w.heap.size w w' := by
  have HI := hide (head_any k p hp)
  have hdl := headOf_lt k.ok p
  clear k
  obtain ⟨d, hd⟩ : ∃ d, headOf h p = d := ⟨_, rfl⟩
  rw [hd] at HI hdl ⊢
  have hm := and_mask (d / 4294967296) 24 (by omega) (by omega)
  have HM := hide hm
  clear hd hm
  go_enter Tryz.func62, Tryz.ntmps62
  go_wp2_with (go_at_call 110; refine HI.out.mono ?_; rintro e w1 ⟨rfl, hb1⟩)
  go_ret
  have e : bits BinOp.and IntKind.u64 ((d : Int) / 4294967296) 16777215 = ((d / 4294967296 % 16777216 : Nat) : Int) := by
    have := HM.out
    simpa using this
  exact ⟨by show Ending.returned (.int .i64 (wrap64 (bits BinOp.and IntKind.u64 ((d : Int) / 4294967296) 16777215))) = _; rw [e, wrap64_nat _ (by omega)], hb1⟩

/-- A field's place. -/
theorem field_at (k : HpAt w B hb sz v1 v2 h) {g cap : Nat} (hv1 : v1 = .slice (some ⟨g, 0, none⟩) (used h) cap) (q i many ahead : Nat) (hi : i < many) (hin : q + 1 + ahead + i < used h) (hm : many ≤ 16777216) :
    Calls Tryz.prog 108 #[.pointer (some ⟨hb, 0, none⟩), .int .u64 (4 * q : Nat), .int .i64 i, .int .i64 many, .int .i64 ahead] w fun e w' => e = .returned (.pointer (some ⟨g, q + 1 + ahead + i, none⟩)) ∧ Below w.heap.size w w' := by
  have HH := hide (half_any k)
  have HK := hide k
  have hus : used h ≤ 16777216 := Nat.le_trans k.room k.small
  clear k
  obtain ⟨n, hn⟩ : ∃ n, used h = n := ⟨_, rfl⟩
  rw [hn] at hv1 hin hus
  subst hv1
  have hi' : (i : Int) < many := by omega
  have hi0 : (0 : Int) ≤ i := by omega
  have hin' : (q : Int) + 1 + ahead + i < n := by omega
  clear hn
  go_enter Tryz.func108, Tryz.ntmps108
  go_wp2_with (go_at_call 74; refine HH.out.mono ?_; rintro e w1 ⟨rfl, hb1⟩; obtain ⟨c0, c1, c2, c5, hl⟩ := hp_cells (HK.out.below hb1))
  go_ret
  exact ⟨rfl, hb1⟩

set_option maxHeartbeats 1000000 in
theorem readw_at {w : World} {g o : Nat} {n : Int} (hc : w.cell? ⟨g, o, none⟩ = some (.int .u64 n)) (hl : g < w.heap.size) :
    Calls Tryz.prog 107 #[.pointer (some ⟨g, o, none⟩)] w fun e w' => e = .returned (.tuple #[.int .u64 n, .bool true]) ∧ Below w.heap.size w w' := by
  go_enter Tryz.func107, Tryz.ntmps107
  go_wp2
  go_ret2
  exact ⟨rfl, Below.refl _ _⟩

theorem tagged_at {h : List Ob} {m : Nat} {o : Ob} (hm : h[m]? = some o) (ho : o.Ok) : headOf h (4 * start h m) / 256 % 16777216 = o.ts.length ∧ headOf h (4 * start h m) / 4 % 64 = o.k ∧ headOf h (4 * start h m) / 4294967296 % 16777216 = o.rs.length := by
  rw [headOf_at hm]
  exact ⟨hdr_tagged ho.kind ho.tn, hdr_kind ho.kind, hdr_raws ho.kind ho.tn ho.rn⟩

theorem start_lt {h : List Ob} {m : Nat} {o : Ob} (hm : h[m]? = some o) : start h m + o.size ≤ used h := by
  have e := hpW_get hm (j := o.size - 1) (by have := o.size_pos; omega)
  obtain ⟨u, e2⟩ : ∃ u, o.ws[o.size - 1]? = some u := ⟨_, List.getElem?_eq_getElem (by rw [o.ws_len]; have := o.size_pos; omega)⟩
  rw [e2] at e
  have := (List.getElem?_eq_some_iff.1 e).1
  have := o.size_pos
  unfold used
  omega

set_option maxHeartbeats 1000000 in
/-- A tagged field is read. -/
theorem get_at (k : HpAt w B hb sz v1 v2 h) {m : Nat} {o : Ob} (hm : h[m]? = some o) {i x : Nat} (hx : o.ts[i]? = some x) :
    Calls Tryz.prog 105 #[.pointer (some ⟨hb, 0, none⟩), .int .u64 (4 * start h m : Nat), .int .i64 i] w fun e w' => e = .returned (.tuple #[.int .u64 x, .bool true]) ∧ Below w.heap.size w w' := by
  have hus : used h ≤ 16777216 := Nat.le_trans k.room k.small
  have ho := k.ok o (List.mem_of_getElem? hm)
  have hil : i < o.ts.length := (List.getElem?_eq_some_iff.1 hx).1
  have hst := start_lt hm
  have hsz : o.size = 1 + o.ts.length + o.rs.length := rfl
  have HT := hide (tagged_any k (4 * start h m) (by omega))
  rw [(tagged_at hm ho).1] at HT
  have hword : (hpW h)[start h m + (1 + i)]? = some x := by
    rw [hpW_get hm (by omega)]
    show (hdr o.k o.ts.length o.rs.length :: (o.ts ++ o.rs))[1 + i]? = some x
    rw [show 1 + i = i + 1 by omega, List.getElem?_cons_succ, List.getElem?_append_left hil]; exact hx
  obtain ⟨g, cap, hv1, -⟩ := k.word
  have HK := hide (And.intro k (And.intro hv1 hword))
  have htl := ho.tn
  have hf := hide (fun w1 (hb1 : Below w.heap.size w w1) => field_at (k.below hb1) hv1 (start h m) i o.ts.length 0 hil (by omega) (by omega))
  clear k hm hx ho hword
  obtain ⟨q, hq⟩ : ∃ q, start h m = q := ⟨_, rfl⟩
  obtain ⟨tl, htl2⟩ : ∃ tl, o.ts.length = tl := ⟨_, rfl⟩
  rw [hq] at HT hf HK ⊢
  rw [htl2] at HT hf
  clear hst hsz hil htl hv1 hus hq htl2
  go_enter Tryz.func105, Tryz.ntmps105
  go_wp2_with (go_at_call 104; fail)
  refine HT.out.mono ?_
  rintro e w1 ⟨rfl, hb1⟩
  go_wp2_with (go_at_call 108; fail)
  refine (hf.out w1 hb1).mono ?_
  rintro e w2 ⟨rfl, hb2⟩
  have hb12 := hb1.trans (hb2.mono hb1.size)
  obtain ⟨g', cap', e1, hgl, -, -, hcell⟩ := (HK.out.1.below hb12).word
  have hgg : g' = g := by
    have e2 := HK.out.2.1
    rw [e1] at e2
    simp only [Value.slice.injEq, Option.some.injEq, Addr.mk.injEq] at e2
    exact e2.1.1
  subst hgg
  have hc := hcell _ _ HK.out.2.2
  rw [show q + (1 + i) = q + 1 + 0 + i by omega] at hc
  have HR := hide (readw_at hc hgl)
  have HB := hide hb12
  clear hcell hc hb1 hb2 hb12 e1
  go_wp2_with (go_at_call 107; fail)
  refine HR.out.mono ?_
  rintro e w3 ⟨rfl, hb3⟩
  have HB3 := hide (HB.out.trans (hb3.mono HB.out.size))
  clear hb3
  go_wp2
  go_ret2
  exact ⟨rfl, HB3.out⟩

end
end Go.Proofs.YtafignheedbnbaaGreatDoor

/-
  The walk of the heap's method Set: a tagged field is written.
-/
namespace Go.Proofs.YtafignheedbnbaaGreatDoor
open Go.RowKit Go.BigFrame
set_option linter.unusedSimpArgs false
set_option linter.unusedVariables false

/-- Nothing turns but these blocks, and new ones. -/
structure Turns (S : Nat → Prop) (w w' : World) : Prop where
  os : w'.os = w.os
  tape : w'.tape = w.tape
  output : w'.output = w.output
  size : w.heap.size ≤ w'.heap.size
  block : ∀ k, k < w.heap.size → ¬ S k → w'.heap[k]? = w.heap[k]?

theorem Turns.of_below {S : Nat → Prop} {w w' : World} (h : Below w.heap.size w w') : Turns S w w' := ⟨h.os, h.tape, h.output, h.size, fun k hk _ => h.block k hk⟩
theorem Turns.setCell {S : Nat → Prop} {a b : World} (h : Turns S a b) {p : Addr} (hp : S p.block ∨ a.heap.size ≤ p.block) (u : Value) : Turns S a (b.setCell p u) :=
  ⟨h.os, h.tape, h.output, by simpa [World.setCell] using h.size, fun i hi hn => (Below.heap_setCell _ _ _ _ (by rintro rfl; rcases hp with h1 | h1; exact hn h1; omega)).trans (h.block i hi hn)⟩
theorem Turns.below {S : Nat → Prop} {a b c : World} (h : Turns S a b) (k : Below b.heap.size b c) : Turns S a c :=
  ⟨k.os.trans h.os, k.tape.trans h.tape, k.output.trans h.output, Nat.le_trans h.size k.size, fun i hi hn => (k.block i (Nat.lt_of_lt_of_le hi h.size)).trans (h.block i hi hn)⟩

theorem ph_set {w : World} {B : Nat} {e : TypeId} {s n : Nat} {g cap : Nat} {xs : List Value} (h : w.ownsRow B e s (.slice (some ⟨g, 0, none⟩) n cap) n xs) (o : Nat) (u : Value) :
    (w.setCell ⟨g, o, none⟩ u).ownsRow B e s (.slice (some ⟨g, 0, none⟩) n cap) n (xs.set o u) := by
  refine ⟨by rw [List.length_set]; exact h.1, ?_⟩
  rcases h.2 with ⟨h, -⟩ | ⟨g', cap', cur, e1, h2, h3, h4, h5, h6, h7⟩
  · cases h
  · cases e1
    refine .inr ⟨g, cap, cur.setIfInBounds o u, rfl, h2, ?_, h4, h5, by simpa using h6, ?_⟩
    · simp [World.setCell, Array.getElem?_modify, h3]
    · rw [← h7, Array.toList_setIfInBounds, List.take_set]

theorem used_set {h : List Ob} {m : Nat} {o : Ob} {i x : Nat} (hm : h[m]? = some o) (hi : i < o.ts.length) : used (h.set m (o.setT i x)) = used h := by
  unfold used
  rw [hpW_set hm hi, List.length_set]

theorem HpAt.setW {w : World} {B hb sz g cap : Nat} {v2 : Value} {h : List Ob} (k : HpAt w B hb sz (.slice (some ⟨g, 0, none⟩) (used h) cap) v2 h) {m : Nat} {o : Ob} (hm : h[m]? = some o) {i x : Nat} (hi : i < o.ts.length) (hx : x < 18446744073709551616) :
    HpAt (w.setCell ⟨g, start h m + 1 + i, none⟩ (.int .u64 x)) B hb sz (.slice (some ⟨g, 0, none⟩) (used h) cap) v2 (h.set m (o.setT i x)) := by
  obtain ⟨g', cap', e1, hgl, hne, -⟩ := k.word
  cases e1
  obtain ⟨-, -, c1, hg1⟩ := ph_own k.ws (b := g) rfl
  have hne2 : v2.ownBlock ≠ some g := fun e => by
    obtain ⟨-, -, c2, hg2⟩ := ph_own k.bs e
    rw [hg1] at hg2
    simp only [Option.some.injEq, Obj.cells.injEq] at hg2
    exact absurd hg2.2.1 (by decide)
  obtain ⟨u1, u2, hbox⟩ := k.box
  refine ⟨⟨u1, u2, ?_⟩, ?_, ?_, fun o' ho' => ?_, by rw [used_set hm hi]; exact k.room, k.low, k.small⟩
  · rw [Below.heap_setCell _ _ _ _ (by simpa using fun e => hne e.symm)]; exact hbox
  · have e := ph_set k.ws (start h m + 1 + i) (.int .u64 x)
    rw [used_set hm hi, hpW_set hm hi, List.map_set]
    exact e
  · rw [used_set hm hi, hpB_set hm]
    exact ownsRow_setCell_other k.bs (a := ⟨g, start h m + 1 + i, none⟩) hne2 _
  · rcases List.mem_or_eq_of_mem_set ho' with h1 | rfl
    · exact k.ok o' h1
    · have ho := k.ok o (List.mem_of_getElem? hm)
      refine ⟨ho.kind, by simpa [Ob.setT] using ho.tn, ho.rn, fun w hw => ?_, ho.rfit⟩
      rcases List.mem_or_eq_of_mem_set hw with h1 | rfl
      · exact ho.tfit w h1
      · exact hx

/-- A word that may stand in a tagged field. -/
def mayB (h : List Ob) (x : Nat) : Prop := x % 4 ≠ 3 ∧ (x % 4 = 0 → isB h x = true)

set_option maxHeartbeats 2000000 in
theorem set_at {w : World} {B hb sz : Nat} {v1 v2 : Value} {h : List Ob} (k : HpAt w B hb sz v1 v2 h) {m : Nat} {o : Ob} (hm : h[m]? = some o) {i x : Nat} (hi : i < o.ts.length) (hx : x < 18446744073709551616) (hmay : mayB h x) :
    Calls Tryz.prog 73 #[.pointer (some ⟨hb, 0, none⟩), .int .u64 (4 * start h m : Nat), .int .i64 i, .int .u64 x] w
      fun e w' => e = .returned (.bool true) ∧ HpAt w' B hb sz v1 v2 (h.set m (o.setT i x)) ∧ Turns (HMine hb v1 v2) w w' := by
  have hus : used h ≤ 16777216 := Nat.le_trans k.room k.small
  have ho := k.ok o (List.mem_of_getElem? hm)
  have hst := start_lt hm
  have hsz : o.size = 1 + o.ts.length + o.rs.length := rfl
  have HT := hide (tagged_any k (4 * start h m) (by omega))
  rw [(tagged_at hm ho).1] at HT
  obtain ⟨g, cap, hv1, -⟩ := k.word
  have htl := ho.tn
  have hf := hide (fun w1 (hb1 : Below w.heap.size w w1) => field_at (k.below hb1) hv1 (start h m) i o.ts.length 0 hi (by omega) (by omega))
  subst hv1
  have hw : ∃ n, (hpW h)[start h m + 1 + i]? = some n := ⟨_, List.getElem?_eq_getElem (by show start h m + 1 + i < used h; omega)⟩
  obtain ⟨n0, hw⟩ := hw
  have HD := hide (fun w1 (hb1 : Below w.heap.size w w1) => (And.intro ((k.below hb1).setW hm hi hx) (And.intro ((Turns.of_below (S := HMine hb (.slice (some ⟨g, 0, none⟩) (used h) cap) v2) hb1).setCell (p := ⟨g, start h m + 1 + i, none⟩) (.inl (.inr (.inl rfl))) (.int .u64 x)) (And.intro ((k.below hb1).word) hw))))
  have HIs := hide (fun w1 (hb1 : Below w.heap.size w w1) => is_any (k.below hb1) x hx)
  have hm3 := and_mask x 2 hx (by omega)
  have hA : bits BinOp.and IntKind.u64 (x : Int) 3 = ((x % 4 : Nat) : Int) := by simpa using hm3
  clear k hm ho hst hsz hm3 hus htl hi hx
  obtain ⟨q, hq⟩ : ∃ q, start h m = q := ⟨_, rfl⟩
  obtain ⟨tl, htl2⟩ : ∃ tl, o.ts.length = tl := ⟨_, rfl⟩
  rw [hq] at HT hf HD ⊢
  rw [htl2] at HT hf
  simp only [Nat.add_zero] at hf
  clear hq htl2 hw
  obtain ⟨hmy1, hmy2⟩ := hmay
  have hA3 : (bits BinOp.and IntKind.u64 (x : Int) 3 == 3) = false := by rw [hA]; exact beq_eq_false_iff_ne.2 (by omega)
  go_enter Tryz.func73, Tryz.ntmps73
  go_wp2_with (go_at_call 104; fail)
  refine HT.out.mono ?_
  rintro e w1 ⟨rfl, hb1⟩
  go_wp2_with (go_at_call 108; fail)
  refine (hf.out w1 hb1).mono ?_
  rintro e w2 ⟨rfl, hb2⟩
  have hb12 := hb1.trans (hb2.mono hb1.size)
  have HB := hide hb12
  clear hb1 hb2 hb12
  by_cases h0 : x % 4 = 0
  · have hA0 : (bits BinOp.and IntKind.u64 (x : Int) 3 == 0) = true := by rw [hA, h0]; rfl
    have hIs := HIs.out w2 HB.out
    rw [hmy2 h0] at hIs
    have HI2 := hide hIs
    clear hA hIs hmy2
    go_upto_region 4 with (go_at_call 98; refine HI2.out.mono ?_; rintro e w3 ⟨rfl, hb3⟩)
    have hbw := HB.out.trans (hb3.mono HB.out.size)
    obtain ⟨d1, d2, ⟨g', cap', e1, hgl, -, hfr, hcell⟩, hw⟩ := HD.out w3 hbw
    cases e1
    have hc := hcell _ _ hw
    have hf0 := hfr (q + 1 + i)
    have HE := hide (And.intro d1 d2)
    clear hb3 hbw d1 d2 hfr hcell hw
    go_wp2
    go_ret
    exact ⟨rfl, HE.out.1, HE.out.2⟩
  · have hA0 : (bits BinOp.and IntKind.u64 (x : Int) 3 == 0) = false := by rw [hA]; exact beq_eq_false_iff_ne.2 (by omega)
    obtain ⟨d1, d2, ⟨g', cap', e1, hgl, -, hfr, hcell⟩, hw⟩ := HD.out w2 HB.out
    cases e1
    have hc := hcell _ _ hw
    have hf0 := hfr (q + 1 + i)
    have HE := hide (And.intro d1 d2)
    clear hA d1 d2 hfr hcell hw hmy2
    go_wp2
    go_ret
    exact ⟨rfl, HE.out.1, HE.out.2⟩

end Go.Proofs.YtafignheedbnbaaGreatDoor

/-
  The store of values in memory: the heap, the struct, the symbols; which blocks a method may write; steps one behind the other. No function of the program in sight; no condition.
-/
namespace Go.Proofs.YtafignheedbnbaaGreatDoor
open Go.RowKit
set_option linter.unusedSimpArgs false

/-- Where a store lies. -/
structure Sto where
  B : Nat
  sb : Nat
  hb : Nat
  mb : Nat
  sz : Nat

/-- The store at S holds these objects and these symbols; it may write the blocks M. -/
structure SAt (w : World) (S : Sto) (M : Nat → Prop) (h : List Ob) (sy : List (ByteArray × Nat)) : Prop where
  hp : ∃ v1 v2, HpAt w S.B S.hb S.sz v1 v2 h ∧ ∀ b, HMine S.hb v1 v2 b → M b
  box : ∃ vo, w.heap[S.sb]? = some (.cells #[.pointer (some ⟨S.hb, 0, none⟩), .map (some S.mb), vo, .int .i64 0] 75 (0, 0)) ∧ w.ownsRow S.B 9 1 vo sy.length (sy.map fun p => .string p.1) ∧ ∀ b, vo.ownBlock = some b → M b
  map : ∃ es clock, w.heap[S.mb]? = some (.map es clock) ∧ es.toList.map (fun e => (e.key, e.val)) = sy.map fun p => (Value.string p.1, Value.int .u64 p.2)
  mine : M S.sb ∧ M S.mb
  lt : ∀ b, M b → S.B ≤ b ∧ b < w.heap.size

section
variable {w w' : World} {S : Sto} {M : Nat → Prop} {h : List Ob} {sy : List (ByteArray × Nat)}

theorem SAt.kept (k : SAt w S M h sy) (hs : w.heap.size ≤ w'.heap.size) (hk : ∀ b, M b → w'.heap[b]? = w.heap[b]?) : SAt w' S M h sy := by
  obtain ⟨⟨v1, v2, h1, h2⟩, ⟨vo, h3, h4, h5⟩, ⟨es, clock, h6, h7⟩, h8, h9⟩ := k
  exact ⟨⟨v1, v2, h1.kept fun b e => hk b (h2 b e), h2⟩, ⟨vo, (hk _ h8.1).trans h3, ph_kept h4 fun b e => hk b (h5 b e), h5⟩, ⟨es, clock, (hk _ h8.2).trans h6, h7⟩, h8, fun b e => ⟨(h9 b e).1, Nat.lt_of_lt_of_le (h9 b e).2 hs⟩⟩

theorem SAt.below (k : SAt w S M h sy) (hb : Below w.heap.size w w') : SAt w' S M h sy := k.kept hb.size fun b e => hb.block b (k.lt b e).2
theorem SAt.drew (k : SAt w S M h sy) : SAt w.drew S M h sy := k.kept (Nat.le_refl _) fun _ _ => rfl
theorem SAt.drewN (k : SAt w S M h sy) (n : Nat) : SAt (w.drewN n) S M h sy := k.kept (Nat.le_refl _) fun _ _ => rfl
theorem SAt.alloc (k : SAt w S M h sy) (o : Obj) : SAt (w.alloc o) S M h sy := k.kept (by simp) fun b e => Below.heap_alloc w o b (k.lt b e).2
theorem SAt.setCell (k : SAt w S M h sy) {p : Addr} (hp : ¬ M p.block) (u : Value) : SAt (w.setCell p u) S M h sy :=
  k.kept (by simp [World.setCell]) fun b e => Below.heap_setCell w p u b (by rintro rfl; exact hp e)
theorem SAt.far (k : SAt w S M h sy) {b : Nat} (hb : w.heap.size ≤ b) : ¬ M b := fun e => by have := (k.lt b e).2; omega

/-- Only blocks of M have turned, and what M has become is of M or new. -/
structure Step (M : Nat → Prop) (w : World) (M' : Nat → Prop) (w' : World) : Prop where
  turns : Turns M w w'
  mine : ∀ b, M' b → M b ∨ w.heap.size ≤ b

theorem Turns.trans' {S S' : Nat → Prop} {a b c : World} (h : Turns S a b) (k : Turns S' b c) (hs : ∀ i, i < a.heap.size → S' i → S i) : Turns S a c :=
  ⟨k.os.trans h.os, k.tape.trans h.tape, k.output.trans h.output, Nat.le_trans h.size k.size, fun i hi hn => (k.block i (Nat.lt_of_lt_of_le hi h.size) fun e => hn (hs i hi e)).trans (h.block i hi hn)⟩
theorem Turns.mono {S S' : Nat → Prop} {a b : World} (h : Turns S a b) (hs : ∀ i, i < a.heap.size → S i → S' i) : Turns S' a b :=
  ⟨h.os, h.tape, h.output, h.size, fun i hi hn => h.block i hi fun e => hn (hs i hi e)⟩
theorem Turns.refl {S : Nat → Prop} (a : World) : Turns S a a := ⟨rfl, rfl, rfl, Nat.le_refl _, fun _ _ _ => rfl⟩
theorem Step.refl (M : Nat → Prop) (w : World) : Step M w M w := ⟨Turns.refl w, fun _ e => .inl e⟩
theorem Step.of_below (M : Nat → Prop) {w w' : World} (h : Below w.heap.size w w') : Step M w M w' := ⟨Turns.of_below h, fun _ e => .inl e⟩
theorem Step.trans {M M1 M2 : Nat → Prop} {a b c : World} (h : Step M a M1 b) (k : Step M1 b M2 c) : Step M a M2 c :=
  ⟨h.turns.trans' k.turns fun i hi e => (h.mine i e).elim id fun h1 => by omega, fun i e => (k.mine i e).elim (fun h1 => h.mine i h1) fun h1 => .inr (by have := h.turns.size; omega)⟩
theorem Step.below {M M1 : Nat → Prop} {a b c : World} (h : Step M a M1 b) (k : Below b.heap.size b c) : Step M a M1 c := h.trans (Step.of_below M1 k)
theorem Step.keeps {M M1 : Nat → Prop} {a b : World} (h : Step M a M1 b) {i : Nat} (hi : i < a.heap.size) (hn : ¬ M i) : b.heap[i]? = a.heap[i]? := h.turns.block i hi hn
theorem Step.far {M M1 : Nat → Prop} {a b : World} (h : Step M a M1 b) {i : Nat} (hi : i < a.heap.size) (hn : ¬ M i) : ¬ M1 i := fun e => (h.mine i e).elim hn fun h1 => by omega
/-- All that a store may write is new since w0: what was there then stands. -/
theorem Step.since {M M1 : Nat → Prop} {w0 a b : World} (h : Step M a M1 b) (hb : Below w0.heap.size w0 a) (hM : ∀ i, M i → w0.heap.size ≤ i) : Below w0.heap.size w0 b :=
  ⟨h.turns.os.trans hb.os, h.turns.tape.trans hb.tape, h.turns.output.trans hb.output, Nat.le_trans hb.size h.turns.size, fun i hi => (h.turns.block i (Nat.lt_of_lt_of_le hi hb.size) fun e => by have := hM i e; omega).trans (hb.block i hi)⟩
theorem Step.cell {M M1 : Nat → Prop} {a b : World} (h : Step M a M1 b) {i o : Nat} (hi : i < a.heap.size) (hn : ¬ M i) : b.cell? ⟨i, o, none⟩ = a.cell? ⟨i, o, none⟩ := World.cell?_of_block (w := a) (h.keeps hi hn)
theorem Step.frozen {M M1 : Nat → Prop} {a b : World} (h : Step M a M1 b) {i o : Nat} (hi : i < a.heap.size) (hn : ¬ M i) : b.frozen? ⟨i, o, none⟩ = a.frozen? ⟨i, o, none⟩ := World.frozen?_of_block (w := a) (h.keeps hi hn)

/-- The store's own cells. -/
theorem SAt.cells (k : SAt w S M h sy) : w.cell? ⟨S.sb, 0, none⟩ = some (.pointer (some ⟨S.hb, 0, none⟩)) ∧ w.cell? ⟨S.sb, 1, none⟩ = some (.map (some S.mb)) ∧ w.cell? ⟨S.sb, 3, none⟩ = some (.int .i64 0) ∧ S.sb < w.heap.size ∧ w.cell? ⟨S.hb, 6, none⟩ = some (.int .i64 0) := by
  obtain ⟨⟨v1, v2, h1, -⟩, ⟨vo, h3, -⟩, -⟩ := k
  obtain ⟨u1, u2, h2⟩ := h1.box
  exact ⟨by simp [World.cell?, h3], by simp [World.cell?, h3], by simp [World.cell?, h3], ph_lt h3, by simp [World.cell?, h2]⟩

/-- The heap alone has turned. -/
theorem SAt.heap_turn (k : SAt w S M h sy) {v1 v2 v1' v2' : Value} {h' : List Ob} (h0 : HpAt w S.B S.hb S.sz v1 v2 h) (h1 : HpAt w' S.B S.hb S.sz v1' v2' h') (ht : Turns (HMine S.hb v1 v2) w w') (hm : ∀ b, HMine S.hb v1' v2' b → HMine S.hb v1 v2 b ∨ w.heap.size ≤ b) :
    ∃ M', SAt w' S M' h' sy ∧ Step M w M' w' := by
  have hb1 : ∀ {b cur e}, w.heap[b]? = some (.cells cur e (0, 0)) → e ≠ 138 → e ≠ 29 → e ≠ 4 → ¬ HMine S.hb v1 v2 b := by
    intro b cur e hh n1 n2 n3 hm
    rcases hm with rfl | hm | hm
    · obtain ⟨u1, u2, he⟩ := h0.box
      rw [he] at hh; simp only [Option.some.injEq, Obj.cells.injEq] at hh; exact n1 hh.2.1.symm
    · obtain ⟨-, -, c, he⟩ := ph_own h0.ws hm
      rw [he] at hh; simp only [Option.some.injEq, Obj.cells.injEq] at hh; exact n2 hh.2.1.symm
    · obtain ⟨-, -, c, he⟩ := ph_own h0.bs hm
      rw [he] at hh; simp only [Option.some.injEq, Obj.cells.injEq] at hh; exact n3 hh.2.1.symm
  have hb2 : ∀ {b es clock}, w.heap[b]? = some (.map es clock) → ¬ HMine S.hb v1 v2 b := by
    intro b es clock hh hm
    rcases hm with rfl | hm | hm
    · obtain ⟨u1, u2, he⟩ := h0.box
      rw [he] at hh; cases hh
    · obtain ⟨-, -, c, he⟩ := ph_own h0.ws hm
      rw [he] at hh; cases hh
    · obtain ⟨-, -, c, he⟩ := ph_own h0.bs hm
      rw [he] at hh; cases hh
  obtain ⟨⟨v1x, v2x, h0', hsub⟩, ⟨vo, h3, h4, h5⟩, ⟨es, clock, h6, h7⟩, h8, h9⟩ := k
  have hv : HMine S.hb v1 v2 = HMine S.hb v1x v2x := by
    obtain ⟨u1, u2, e1⟩ := h0.box
    obtain ⟨u1', u2', e2⟩ := h0'.box
    rw [e1] at e2
    simp only [Option.some.injEq, Obj.cells.injEq, Array.mk.injEq, List.cons.injEq] at e2
    obtain ⟨⟨-, rfl, rfl, -⟩, -⟩ := e2
    rfl
  rw [← hv] at hsub
  have n1 := hb1 h3 (by decide) (by decide) (by decide)
  have n2 := hb2 h6
  have n3 : ∀ b, vo.ownBlock = some b → ¬ HMine S.hb v1 v2 b := fun b e => by
    obtain ⟨-, -, c, he⟩ := ph_own h4 e
    exact hb1 he (by decide) (by decide) (by decide)
  refine ⟨fun b => M b ∨ HMine S.hb v1' v2' b, ⟨⟨v1', v2', h1, fun b e => .inr e⟩, ⟨vo, (ht.block _ (h9 _ h8.1).2 n1).trans h3, ph_kept h4 fun b e => ht.block b (h9 b (h5 b e)).2 (n3 b e), fun b e => .inl (h5 b e)⟩, ⟨es, clock, (ht.block _ (h9 _ h8.2).2 n2).trans h6, h7⟩, ⟨.inl h8.1, .inl h8.2⟩, ?_⟩, ?_, ?_⟩
  · rintro b (e | e)
    · exact ⟨(h9 b e).1, Nat.lt_of_lt_of_le (h9 b e).2 ht.size⟩
    · have := h1.lt e; exact ⟨this.2, this.1⟩
  · exact ht.mono fun i _ e => hsub i e
  · rintro b (e | e)
    · exact .inl e
    · exact (hm b e).imp (hsub b) id

/-- The store has come from h to h' and these symbols, by a call that returns v. -/
def Grew (S : Sto) (M : Nat → Prop) (w : World) (h' : List Ob) (sy' : List (ByteArray × Nat)) (v : Value) (e : Ending) (w' : World) : Prop := e = .returned v ∧ ∃ M', SAt w' S M' h' sy' ∧ Step M w M' w'

end
end Go.Proofs.YtafignheedbnbaaGreatDoor
