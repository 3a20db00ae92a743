/-
  The walk of the heap's Alloc.
-/
import Derived.Test.YtafignheedbnbaaGreatDoorPhC
import Derived.Outline
import Derived.Test.YtafignheedbnbaaGreatDoorPhA
namespace Go.Proofs.YtafignheedbnbaaGreatDoor
open Go.RowKit Go.BigFrame
set_option linter.unusedSimpArgs false
set_option linter.unusedVariables false

theorem or_high (a b i : Nat) (ha : a < 2 ^ i) (hb : 2 ^ i * b + a < 18446744073709551616) : bits .or .u64 (a : Int) ((2 ^ i * b : Nat) : Int) = ((2 ^ i * b + a : Nat) : Int) := by
  have ha' : a < 2 ^ 64 := by show a < 18446744073709551616; omega
  have hb' : 2 ^ i * b < 2 ^ 64 := by show 2 ^ i * b < 18446744073709551616; omega
  show IntKind.u64.wrap ((BitVec.ofInt 64 (a : Int) ||| BitVec.ofInt 64 ((2 ^ i * b : Nat) : Int)).toNat : Int) = _
  rw [BitVec.ofInt_natCast, BitVec.ofInt_natCast, BitVec.toNat_or, BitVec.toNat_ofNat, BitVec.toNat_ofNat, Nat.mod_eq_of_lt ha', Nat.mod_eq_of_lt hb', Nat.or_comm, ← Nat.two_pow_add_eq_or_of_lt ha]
  have hw : ∀ n : Nat, n < 18446744073709551616 → IntKind.u64.wrap (n : Int) = n := fun n hn => by
    simp [IntKind.wrap, IntKind.bits, IntKind.signed]
    omega
  exact hw _ hb

theorem hdr_or (kd t r : Nat) (hk : kd < 64) (ht : t < 16777216) (hr : r < 16777216) : bits .or .u64 (bits .or .u64 (bits .or .u64 3 ((kd : Int) * 4)) ((t : Int) * 256)) ((r : Int) * 4294967296) = ((hdr kd t r : Nat) : Int) := by
  have e1 : (kd : Int) * 4 = ((2 ^ 2 * kd : Nat) : Int) := by omega
  have e2 : (t : Int) * 256 = ((2 ^ 8 * t : Nat) : Int) := by omega
  have e3 : (r : Int) * 4294967296 = ((2 ^ 32 * r : Nat) : Int) := by omega
  have h1 := or_high 3 kd 2 (by omega) (by omega)
  have h2 := or_high (2 ^ 2 * kd + 3) t 8 (by omega) (by omega)
  have h3 := or_high (2 ^ 8 * t + (2 ^ 2 * kd + 3)) r 32 (by omega) (by omega)
  rw [e1, e2, e3]
  have h1' : bits .or .u64 3 ((2 ^ 2 * kd : Nat) : Int) = ((2 ^ 2 * kd + 3 : Nat) : Int) := h1
  rw [h1', h2, h3]
  congr 1
  unfold hdr
  omega

set_option maxHeartbeats 2000000 in
theorem alloc_at {w : World} {S : Sto} {M : Nat → Prop} {h : List Ob} {sy : List (ByteArray × Nat)} (k : SAt w S M h sy) (kd t r : Nat) (hk1 : 1 ≤ kd) (hk2 : kd ≤ 63) (hroom : 1 + t + r + used h ≤ S.sz) (htr : t + r ≤ 1048576) :
    Calls Tryz.prog 72 #[.pointer (some ⟨S.hb, 0, none⟩), .int .i64 kd, .int .i64 t, .int .i64 r] w
      (Grew S M w (h ++ [⟨kd, List.replicate t 2, List.replicate r 0⟩]) sy (.tuple #[.int .u64 (4 * used h : Nat), .bool true])) := by
  obtain ⟨v1, v2, hh, hM⟩ := k.hp
  have hsm := hh.small
  obtain ⟨c0, c1, c2, c5, hl⟩ := hp_cells hh
  have HU := hide (fun (x : Later w) => used_any (hh.below x.2))
  have HK := hide (And.intro k hh)
  obtain ⟨n, hn⟩ : ∃ n, used h = n := ⟨_, rfl⟩
  have HN := hide hn
  obtain ⟨sz, hsz⟩ : ∃ sz, S.sz = sz := ⟨_, rfl⟩
  rw [hn, hsz] at hroom
  rw [hsz] at hsm c0
  rw [hn] at HU ⊢
  have HZ := hide hsz
  clear hn hsz k hM hh c1 c2 c5
  have f1 : ¬ (kd : Int) < 1 := by omega
  have f2 : ¬ (63 : Int) < kd := by omega
  have f3 : ¬ (t : Int) < 0 := by omega
  have f4 : ¬ (r : Int) < 0 := by omega
  have f5 : ¬ (1048576 : Int) < t := by omega
  have f6 : ¬ (1048576 : Int) < r := by omega
  have f7 : ¬ ((sz : Int) - n < 1 + t + r) := by omega
  obtain ⟨N, hN⟩ : ∃ N, N = 1 + t + r := ⟨_, rfl⟩
  have hmk := run_make_row' (P := Tryz.prog) 66 29 (.int .u64 0) 8 Tryz.underlying66 ph_infoW rfl .i64 .i64 N (by omega) (by omega)
  go_enter Tryz.func72, Tryz.ntmps72
  go_wp2
  refine wp_region_later (by kernel_rfl) (by kernel_rfl) ?_
  repeat (first
    | go_big_quiet_step (first | (go_at_call 35; with_reducible exact later_of (HU.out _)))
    | quiet_step (first | (go_at_call 35; with_reducible exact later_of (HU.out _))))
  refine wpQuiet_nil ?_
  rintro w2 ⟨⟨wz, hbz⟩, hwz⟩
  have hb2 : Below w.heap.size w w2 := by rw [hwz]; exact hbz
  clear hwz hbz wz
  have HB := hide hb2
  clear hb2
  go_upto_region 3 with fail
  have hNr : (1 : Int) + t + r = N := by omega
  have HNN := hide hN
  have hN1 : 1 ≤ N := by omega
  clear hN
  go_upto_region 4 with fail
  refine genW (fun V => V.rowIs w2.heap.size 29 N (fun _ => .int .u64 0) ∧ Below w.heap.size w V) ⟨World.rowIs_made _ _ _ _, HB.out.alloc HB.out.size _⟩ ?_
  intro V hV
  obtain ⟨hr, hbV⟩ := hV
  obtain ⟨L, hL⟩ : ∃ L, w2.heap.size = L := ⟨_, rfl⟩
  rw [hL] at hr ⊢
  have hLl := hr.lt
  have hz := hr.cell (i := 0) (by omega)
  have hzf := hr.frozen 0
  have HV := hide (And.intro hr (And.intro hbV (hL ▸ HB.out.size : w.heap.size ≤ L)))
  have hN0 : (0 : Int) < N := by omega
  clear hr hbV hL hmk hNr f1 f2 f3 f4 f5 f6 f7
  have HOR := hide (hdr_or kd t r (by omega) (by omega) (by omega))
  go_upto_region 5 with fail
  rw [HOR.out]
  refine genW (fun U => U.rowIs L 29 N (fun j => if j = 0 then .int .u64 (hdr kd t r) else .int .u64 0) ∧ Below w.heap.size w U) ⟨(HV.out.1.set 0 _), HV.out.2.1.setCell (p := ⟨L, 0, none⟩) HV.out.2.2 _⟩ ?_
  intro U hU
  have HU := hide hU
  clear hU hz hzf HOR
  go_wp2
  go_loopw [68] (fun i wr => ∃ k : Nat, k ≤ t ∧ i = .int .i64 k ∧ wr.rowIs L 29 N (fun j => if j = 0 then .int .u64 (hdr kd t r) else if j ≤ k then .int .u64 2 else .int .u64 0) ∧ Below w.heap.size w wr) (fun i _ => t - (intOf i).toNat)
  case atStart => exact ⟨0, Nat.zero_le _, rfl, HU.out.1.congr fun j _ => by by_cases e : j = 0 <;> simp [e], HU.out.2⟩
  case round =>
    obtain ⟨k, hk, rfl, hr, hb⟩ := hrel
    by_cases hlt : k < t
    · have hcell := hr.cell (i := 1 + k) (by have := HNN.out; omega)
      have hfr := hr.frozen (1 + k)
      have hR := hide (And.intro hr hb)
      have hlt' : (k : Int) < t := by omega
      have hk0 : (0 : Int) ≤ k := by omega
      have hkN : (1 : Int) + k < N := by have := HNN.out; omega
      clear hr hb
      go_wp2
      refine ⟨⟨k + 1, by omega, by go_num, (hR.out.1.set (1 + k) _).congr fun j hj => ?_, hR.out.2.setCell (p := ⟨L, 1 + k, none⟩) HV.out.2.2 _⟩, by simp [intOf]; omega⟩
      by_cases e0 : j = 0
      · subst e0
        rw [if_neg (by omega)]
        rfl
      · by_cases e1 : j = 1 + k
        · subst e1; simp; omega
        · simp only [e0, e1, if_false]
          by_cases e2 : j ≤ k
          · rw [if_pos e2, if_pos (by omega)]
          · rw [if_neg e2, if_neg (by omega)]
    · obtain rfl : k = t := by omega
      obtain ⟨k0, hh0⟩ := HK.out
      have hos : (⟨kd, List.replicate k 2, List.replicate r 0⟩ : Ob).size = N := by have := HNN.out; simp [Ob.size]; omega
      have hok : (⟨kd, List.replicate k 2, List.replicate r 0⟩ : Ob).Ok := ⟨by show kd < 64; omega, by simp; omega, by simp; omega, fun x hx => by have := (List.mem_replicate.1 hx).2; omega, fun x hx => by have := (List.mem_replicate.1 hx).2; omega⟩
      have hcl : ∀ j u, ((⟨kd, List.replicate k 2, List.replicate r 0⟩ : Ob).ws.map wV)[j]? = some u → j < N ∧ u = if j = 0 then .int .u64 (hdr kd k r) else if j ≤ k then .int .u64 2 else .int .u64 0 := by
        intro j u hu
        have hj := (List.getElem?_eq_some_iff.1 hu).1
        rw [List.length_map, Ob.ws_len, hos] at hj
        refine ⟨hj, ?_⟩
        unfold Ob.ws at hu
        rw [List.getElem?_map] at hu
        cases j with
        | zero =>
          simp at hu
          rw [← hu]; rfl
        | succ j =>
          rw [List.getElem?_cons_succ] at hu
          simp only [Nat.add_one_ne_zero, if_false]
          by_cases e : j < k
          · rw [List.getElem?_append_left (by simpa using e), List.getElem?_replicate, if_pos e] at hu
            rw [if_pos (by omega)]
            simp at hu; rw [← hu]; rfl
          · rw [List.getElem?_append_right (by simp; omega), List.getElem?_replicate] at hu
            rw [if_neg (by omega)]
            split at hu <;> simp at hu
            rw [← hu]; rfl
      have HH := hide (half_any (hh0.below hb))
      have HL := hide (fun w3 (hb3 : Below wr.heap.size wr w3) => lay_at (hh0.below (hb.trans (hb3.mono hb.size))) ⟨kd, List.replicate k 2, List.replicate r 0⟩ hok (by rw [hos]; have := HNN.out; have := HN.out; have := HZ.out; omega) (L := L) (c := N)
        (Nat.lt_of_lt_of_le hr.lt hb3.size) (fun e => by have := (hh0.lt e).1; have := HV.out.2.2; omega) (fun j u hu => by
          obtain ⟨hj, rfl⟩ := hcl j u hu
          rw [Addr.add_lit, Nat.zero_add, hb3.cell (p := ⟨L, j, none⟩) hr.lt]
          exact hr.cell hj))
      rw [hos, HN.out] at HL
      have HB2 := hide (And.intro hb (And.intro k0 hh0))
      clear hr hb k0 hh0 hcl hok hos
      go_wp2_with (go_at_call 74; fail)
      refine HH.out.mono ?_
      rintro e w3 ⟨rfl, hb3⟩
      have HB3 := hide hb3
      clear hb3
      go_wp2_with (go_at_call 114; fail)
      refine (HL.out w3 HB3.out).mono ?_
      rintro e w4 ⟨rfl, v1', v2', h1, h2, h3⟩
      have H4 := hide (And.intro h1 (And.intro h2 h3))
      clear h1 h2 h3
      go_wp2
      go_ret2
      obtain ⟨h1, h2, h3⟩ := H4.out
      obtain ⟨hb, k0, hh0⟩ := HB2.out
      have hb3 := hb.trans (HB3.out.mono hb.size)
      obtain ⟨M', k', s'⟩ := (k0.below hb3).heap_turn (hh0.below hb3) h1 h2 h3
      exact ⟨by simp, M', k', (Step.of_below M hb3).trans s'⟩

end Go.Proofs.YtafignheedbnbaaGreatDoor

/-
  The walks of the store's May and lay: whether words may stand in an object; an object with tagged fields is laid down.
-/
namespace Go.Proofs.YtafignheedbnbaaGreatDoor
open Go.RowKit Go.BigFrame
set_option linter.unusedSimpArgs false
set_option linter.unusedVariables false

/-- A slice of words, in a block of its own. -/
def SlU (w : World) (M : Nat → Prop) (A : Option Addr) (xs : List Nat) : Prop :=
  xs = [] ∨ ∃ L, A = some ⟨L, 0, none⟩ ∧ L < w.heap.size ∧ ¬ M L ∧ ∀ j x : Nat, xs[j]? = some x → w.cell? ⟨L, j, none⟩ = some (.int .u64 x)

theorem SlU.below {w w' : World} {M : Nat → Prop} {A : Option Addr} {xs : List Nat} (h : SlU w M A xs) (hb : Below w.heap.size w w') : SlU w' M A xs := by
  rcases h with h | ⟨L, h1, h2, h3, h4⟩
  · exact .inl h
  · exact .inr ⟨L, h1, Nat.lt_of_lt_of_le h2 hb.size, h3, fun j x hx => (hb.cell (p := ⟨L, j, none⟩) h2).trans (h4 j x hx)⟩
theorem SlU.step {w w' : World} {M M' : Nat → Prop} {A : Option Addr} {xs : List Nat} (h : SlU w M A xs) (hb : Step M w M' w') : SlU w' M' A xs := by
  rcases h with h | ⟨L, h1, h2, h3, h4⟩
  · exact .inl h
  · exact .inr ⟨L, h1, Nat.lt_of_lt_of_le h2 hb.turns.size, hb.far h2 h3, fun j x hx => (hb.cell h2 h3).trans (h4 j x hx)⟩

/-- Words that may stand in tagged fields. -/
def MayAll (h : List Ob) (xs : List Nat) : Prop := ∀ x ∈ xs, x < 18446744073709551616 ∧ mayB h x
theorem MayAll.grow {h : List Ob} {xs : List Nat} (k : MayAll h xs) (g : List Ob) : MayAll (h ++ g) xs := fun x hx => ⟨(k x hx).1, (k x hx).2.1, fun h0 => isB_grow ((k x hx).2.2 h0)⟩

set_option maxHeartbeats 2000000 in
theorem may_any {w : World} {S : Sto} {M : Nat → Prop} {h : List Ob} {sy : List (ByteArray × Nat)} (k : SAt w S M h sy) {A : Option Addr} {c : Nat} {xs : List Nat} (hsl : SlU w M A xs) (hx : MayAll h xs) (hn : xs.length ≤ 16777216) :
    Calls Tryz.prog 70 #[.pointer (some ⟨S.sb, 0, none⟩), .slice A xs.length c] w fun e w' => e = .returned (.bool true) ∧ Below w.heap.size w w' := by
  have HK := hide k
  have HS := hide hsl
  have HX := hide hx
  obtain ⟨n, hN⟩ : ∃ n, xs.length = n := ⟨_, rfl⟩
  have HN := hide hN
  rw [hN] at hn ⊢
  clear k hsl hx hN
  go_enter Tryz.func70, Tryz.ntmps70
  go_wp2
  go_loopw [9] (fun i wr => ∃ k : Nat, k ≤ n ∧ i = .int .i64 k ∧ Below w.heap.size w wr) (fun i _ => n - (intOf i).toNat)
  case atStart => exact ⟨0, Nat.zero_le _, rfl, Below.refl _ _⟩
  case round =>
    obtain ⟨k, hk, rfl, hbw⟩ := hrel
    by_cases hlt : k < n
    · obtain ⟨x, hxk⟩ : ∃ x, xs[k]? = some x := ⟨_, List.getElem?_eq_getElem (by have := HN.out; omega)⟩
      have hmem := List.mem_of_getElem? hxk
      obtain ⟨hx64, hm3, hm0⟩ := HX.out x hmem
      rcases (HS.out.below hbw) with h0 | ⟨L, rfl, hL1, hL2, hL3⟩
      · rw [h0] at hxk; simp at hxk
      have hcx := hL3 k x hxk
      obtain ⟨c0, -, -, hsb, -⟩ := (HK.out.below hbw).cells
      obtain ⟨v1, v2, hh, -⟩ := (HK.out.below hbw).hp
      have HIs := hide (is_any hh x hx64)
      have hm := and_mask x 2 hx64 (by omega)
      have hA : bits BinOp.and IntKind.u64 (x : Int) 3 = ((x % 4 : Nat) : Int) := by simpa using hm
      have hA3 : (bits BinOp.and IntKind.u64 (x : Int) 3 == 3) = false := by rw [hA]; exact beq_eq_false_iff_ne.2 (by omega)
      have HB := hide hbw
      have hlt' : (k : Int) < n := by omega
      have hk0 : (0 : Int) ≤ k := by omega
      clear hL2 hL3 hh hm hbw hmem hxk
      by_cases h0 : x % 4 = 0
      · have hA0 : (bits BinOp.and IntKind.u64 (x : Int) 3 == 0) = true := by rw [hA, h0]; rfl
        have hi := hm0 h0
        rw [hi] at HIs
        clear hA h0 hi hm0 hm3
        go_wp2_with (go_at_call 98; refine HIs.out.mono ?_; rintro e w3 ⟨rfl, hb3⟩)
        exact ⟨⟨k + 1, by omega, by go_num, HB.out.trans (hb3.mono HB.out.size)⟩, by simp [intOf]; omega⟩
      · have hA0 : (bits BinOp.and IntKind.u64 (x : Int) 3 == 0) = false := by rw [hA]; exact beq_eq_false_iff_ne.2 (by omega)
        clear hA h0 hm0 hm3 HIs
        go_wp2
        exact ⟨⟨k + 1, by omega, by go_num, HB.out⟩, by simp [intOf]; omega⟩
    · obtain rfl : k = n := by omega
      have HB := hide hbw
      clear hbw
      go_wp2
      go_ret
      exact ⟨rfl, HB.out⟩

end Go.Proofs.YtafignheedbnbaaGreatDoor

/-
  The walks of the store's lay, Cons, chain, List, Vector: pairs, lists, vectors are laid down.
-/
namespace Go.Proofs.YtafignheedbnbaaGreatDoor
open Go.RowKit Go.BigFrame
set_option linter.unusedSimpArgs false
set_option linter.unusedVariables false

/-- A tagged field is written, seen from the store. -/
theorem sset_at {w : World} {S : Sto} {M : Nat → Prop} {h : List Ob} {sy : List (ByteArray × Nat)} (k : SAt w S M h sy) {m : Nat} {o : Ob} (hm : h[m]? = some o) {i x : Nat} (hi : i < o.ts.length) (hx : x < 18446744073709551616) (hmay : mayB h x) :
    Calls Tryz.prog 73 #[.pointer (some ⟨S.hb, 0, none⟩), .int .u64 (4 * start h m : Nat), .int .i64 i, .int .u64 x] w (Grew S M w (h.set m (o.setT i x)) sy (.bool true)) := by
  obtain ⟨v1, v2, hh, hM⟩ := k.hp
  refine (set_at hh hm hi hx hmay).mono ?_
  rintro e w' ⟨rfl, h1, h2⟩
  exact ⟨rfl, k.heap_turn hh h1 h2 fun b e => .inl e⟩

/-- An object of which k fields are written. -/
def partO (kd : Nat) (xs : List Nat) (k : Nat) : Ob := ⟨kd, xs.take k ++ List.replicate (xs.length - k) 2, []⟩
theorem partO_len (kd : Nat) (xs : List Nat) (k : Nat) (hk : k ≤ xs.length) : (partO kd xs k).ts.length = xs.length := by
  simp [partO]; omega
theorem partO_zero (kd : Nat) (xs : List Nat) : partO kd xs 0 = ⟨kd, List.replicate xs.length 2, []⟩ := by simp [partO]
theorem partO_all (kd : Nat) (xs : List Nat) : partO kd xs xs.length = ⟨kd, xs, []⟩ := by simp [partO]
theorem partO_set (kd : Nat) (xs : List Nat) (k x : Nat) (hx : xs[k]? = some x) : (partO kd xs k).setT k x = partO kd xs (k + 1) := by
  have hk : k < xs.length := (List.getElem?_eq_some_iff.1 hx).1
  have e : xs[k] = x := (List.getElem?_eq_some_iff.1 hx).2
  unfold partO Ob.setT
  congr 1
  rw [List.set_append_right _ _ (by simp; omega), List.length_take, Nat.min_eq_left (by omega), Nat.sub_self, show xs.length - k = (xs.length - (k + 1)) + 1 by omega, List.replicate_succ, List.set_cons_zero, List.take_succ_eq_append_getElem hk, e]
  simp
theorem set_last (h : List Ob) (o o' : Ob) : (h ++ [o]).set h.length o' = h ++ [o'] := by
  rw [List.set_append_right _ _ (Nat.le_refl _)]; simp

set_option maxHeartbeats 2000000 in
theorem slay_at {w : World} {S : Sto} {M : Nat → Prop} {h : List Ob} {sy : List (ByteArray × Nat)} (k : SAt w S M h sy) (kd : Nat) (hk1 : 1 ≤ kd) (hk2 : kd ≤ 63) {A : Option Addr} {c : Nat} {xs : List Nat} (hsl : SlU w M A xs) (hx : MayAll h xs)
    (hroom : 1 + xs.length + used h ≤ S.sz) (hn : xs.length ≤ 1048576) :
    Calls Tryz.prog 67 #[.pointer (some ⟨S.sb, 0, none⟩), .int .i64 kd, .slice A xs.length c] w (Grew S M w (h ++ [⟨kd, xs, []⟩]) sy (.tuple #[.int .u64 (4 * used h : Nat), .bool true])) := by
  have HMay := hide (may_any k (c := c) hsl hx (by omega))
  have HAl := hide (fun w1 (hb1 : Below w.heap.size w w1) => alloc_at (k.below hb1) kd xs.length 0 hk1 hk2 (by omega) (by omega))
  have HSet := hide (fun (wr : World) (M1 : Nat → Prop) (j x : Nat) (hj : xs[j]? = some x) (kr : SAt wr S M1 (h ++ [partO kd xs j]) sy) =>
    sset_at kr (m := h.length) (o := partO kd xs j) (by simp) (i := j) (x := x) (by rw [partO_len _ _ _ (Nat.le_of_lt (List.getElem?_eq_some_iff.1 hj).1)]; exact (List.getElem?_eq_some_iff.1 hj).1) (hx x (List.mem_of_getElem? hj)).1 ((hx.grow _) x (List.mem_of_getElem? hj)).2)
  simp only [start_end] at HSet
  have HK := hide (And.intro k hsl)
  obtain ⟨n, hN⟩ : ∃ n, xs.length = n := ⟨_, rfl⟩
  obtain ⟨us, hU⟩ : ∃ us, used h = us := ⟨_, rfl⟩
  have HN := hide (And.intro hN hU)
  have HP0 := hide (partO_zero kd xs)
  have HPA := hide (partO_all kd xs)
  rw [hN] at hn HMay HAl HP0 HPA ⊢
  rw [hU] at HAl HSet ⊢
  obtain ⟨c0, -, -, hsb, -⟩ := k.cells
  clear k hsl hx hroom hN hU
  go_enter Tryz.func67, Tryz.ntmps67
  go_wp2_with (go_at_call 70; fail)
  refine HMay.out.mono ?_
  rintro e w1 ⟨rfl, hb1⟩
  have c0' := (hb1.cell (p := ⟨S.sb, 0, none⟩) hsb).trans c0
  have HB1 := hide hb1
  have HA1 := hide (HAl.out w1 hb1)
  clear hb1 c0 hsb
  go_wp2_with (go_at_call 72; fail)
  refine HA1.out.mono ?_
  rintro e w2 ⟨rfl, M2, k2, s2⟩
  rw [List.replicate_zero, ← HP0.out] at k2
  have HS2 := hide (And.intro k2 ((Step.of_below M HB1.out).trans s2))
  clear k2 s2 c0' HB1 HA1
  go_wp2
  go_loopw [29] (fun i wr => ∃ k : Nat, k ≤ n ∧ i = .int .i64 k ∧ ∃ M1, SAt wr S M1 (h ++ [partO kd xs k]) sy ∧ Step M w M1 wr) (fun i _ => n - (intOf i).toNat)
  case atStart => exact ⟨0, Nat.zero_le _, rfl, M2, HS2.out.1, HS2.out.2⟩
  case round =>
    obtain ⟨k, hk, rfl, M1, k1, s1⟩ := hrel
    by_cases hlt : k < n
    · obtain ⟨x, hxk⟩ : ∃ x, xs[k]? = some x := ⟨_, List.getElem?_eq_getElem (by have := HN.out.1; omega)⟩
      rcases (HK.out.2.step s1) with h0 | ⟨L, rfl, hL1, hL2, hL3⟩
      · rw [h0] at hxk; simp at hxk
      have hcx := hL3 k x hxk
      obtain ⟨c0, -, -, hsb, -⟩ := k1.cells
      have HC := hide (HSet.out wr M1 k x hxk k1)
      have HX := hide (And.intro hxk (And.intro k1 s1))
      have hlt' : (k : Int) < n := by omega
      have hk0 : (0 : Int) ≤ k := by omega
      clear hL2 hL3 hxk k1 s1 HSet HAl HMay
      go_wp2_with (go_at_call 73; refine HC.out.mono ?_; rintro e w3 ⟨rfl, M3, k3, s3⟩)
      rw [set_last, partO_set _ _ _ _ HX.out.1] at k3
      exact ⟨⟨k + 1, by omega, by go_num, M3, k3, HX.out.2.2.trans s3⟩, by simp [intOf]; omega⟩
    · obtain rfl : k = n := by omega
      rw [HPA.out] at k1
      have HB := hide (And.intro k1 s1)
      clear k1 s1
      go_wp2
      go_ret2
      exact ⟨rfl, M1, HB.out.1, HB.out.2⟩


theorem SlU.one_new {w : World} {M : Nat → Prop} {xs : List Nat} (hM : ¬ M w.heap.size) (t : TypeId) : SlU (w.alloc (.cells (xs.map wV).toArray t)) M (some ⟨w.heap.size, 0, none⟩) xs :=
  .inr ⟨w.heap.size, rfl, by simp, hM, fun j x hx => by
    have e : (w.alloc (.cells (xs.map wV).toArray t)).heap[w.heap.size]? = some (.cells (xs.map wV).toArray t) := heap_alloc_new w _
    exact (cell_of_row _ _ j _ _ _ e).trans (by simp [hx, wV])⟩

set_option maxHeartbeats 1000000 in
theorem cons_at {w : World} {S : Sto} {M : Nat → Prop} {h : List Ob} {sy : List (ByteArray × Nat)} (k : SAt w S M h sy) {a b : Nat} (hx : MayAll h [a, b]) (hroom : 3 + used h ≤ S.sz) :
    Calls Tryz.prog 32 #[.pointer (some ⟨S.sb, 0, none⟩), .int .u64 a, .int .u64 b] w (Grew S M w (h ++ [pairO a b]) sy (.tuple #[.int .u64 (4 * used h : Nat), .bool true])) := by
  have hfar := k.far (Nat.le_refl _)
  have HL := hide (slay_at (k.alloc (.cells #[.int .u64 a, .int .u64 b] 29)) 1 (by omega) (by omega) (A := some ⟨w.heap.size, 0, none⟩) (c := 2) (xs := [a, b]) (SlU.one_new hfar _) hx (by simp; omega) (by simp))
  clear k hx hroom
  obtain ⟨us, hU⟩ : ∃ us, used h = us := ⟨_, rfl⟩
  rw [hU] at HL ⊢
  clear hU
  go_enter Tryz.func32, Tryz.ntmps32
  go_wp2_with (go_at_call 67; fail)
  refine HL.out.mono ?_
  rintro e w3 ⟨rfl, M3, k3, s3⟩
  have HR := hide (And.intro k3 ((Step.of_below M ((Below.refl _ _).alloc (Nat.le_refl _) _)).trans s3))
  clear k3 s3
  go_wp2
  go_ret2
  exact ⟨rfl, M3, HR.out.1, HR.out.2⟩

theorem chainO_may {h : List Ob} {last : Nat} (hl : last < 18446744073709551616 ∧ mayB h last) (hu : used h ≤ 16777216) : ∀ xs : List Nat, xs.length ≤ 16777216 → hd (chainO h last xs).2 last < 18446744073709551616 ∧ mayB (chainO h last xs).1 (hd (chainO h last xs).2 last)
  | [], _ => hl
  | x :: xs, hx => by
    have hxl : xs.length ≤ 16777216 := by simp at hx; omega
    have e : hd (chainO h last (x :: xs)).2 last = 4 * used (chainO h last xs).1 := rfl
    have hu2 := chainO_used h last xs
    refine ⟨by rw [e]; omega, by rw [e]; omega, fun _ => ?_⟩
    rw [e]
    have e2 := isB_at (h := (chainO h last (x :: xs)).1) (m := (chainO h last xs).1.length) (o := pairO x (hd (chainO h last xs).2 last)) (by show ((chainO h last xs).1 ++ [_])[_]? = _; simp)
    have e3 : start (chainO h last (x :: xs)).1 (chainO h last xs).1.length = used (chainO h last xs).1 := start_end _ _
    rw [e3] at e2
    exact e2

set_option maxHeartbeats 2000000 in
theorem chain_at {w : World} {S : Sto} {M : Nat → Prop} {h : List Ob} {sy : List (ByteArray × Nat)} (k : SAt w S M h sy) {last : Nat} (hl : last < 18446744073709551616 ∧ mayB h last) {A : Option Addr} {c : Nat} {xs : List Nat} (hsl : SlU w M A xs) (hx : MayAll h xs) (hroom : 3 * xs.length + used h ≤ S.sz) :
    Calls Tryz.prog 68 #[.pointer (some ⟨S.sb, 0, none⟩), .int .u64 last, .slice A xs.length c] w (Grew S M w (chainO h last xs).1 sy (.tuple #[.int .u64 (hd (chainO h last xs).2 last), .bool true])) := by
  obtain ⟨v1, v2, hh, -⟩ := k.hp
  have hsm := hh.small
  have hrm := hh.room
  have HMay := hide (fun (x : Later w) => may_any (k.below x.2) (c := c) (hsl.below x.2) hx (by omega))
  have HSz := hide (fun (x : Later w) => size_any (hh.below x.2))
  have HUs := hide (fun (x : Later w) => used_any (hh.below x.2))
  have HCons := hide (fun (wr : World) (M1 : Nat → Prop) (j x : Nat) (hj : xs[j]? = some x) (kr : SAt wr S M1 (chainO h last (xs.drop (j + 1))).1 sy) =>
    cons_at kr (a := x) (b := hd (chainO h last (xs.drop (j + 1))).2 last) (fun y hy => by
      rcases List.mem_cons.1 hy with rfl | hy
      · obtain ⟨g, hg⟩ := chainO_ext h last (xs.drop (j + 1))
        rw [hg]; exact (hx.grow g) y (List.mem_of_getElem? hj)
      · simp only [List.mem_singleton] at hy
        subst hy
        exact chainO_may hl (by omega) _ (by simp; omega)) (by
      have := chainO_used h last (xs.drop (j + 1))
      have := (List.getElem?_eq_some_iff.1 hj).1
      rw [List.length_drop] at *
      omega))
  have HK := hide (And.intro k (And.intro hsl hx))
  obtain ⟨c0, -, -, hsb, -⟩ := k.cells
  obtain ⟨n, hN⟩ : ∃ n, xs.length = n := ⟨_, rfl⟩
  obtain ⟨us, hU⟩ : ∃ us, used h = us := ⟨_, rfl⟩
  obtain ⟨sz, hZ⟩ : ∃ sz, S.sz = sz := ⟨_, rfl⟩
  have HN := hide hN
  rw [hN, hU, hZ] at hroom
  rw [hU, hZ] at hrm
  rw [hZ] at hsm HSz
  rw [hU] at HUs
  rw [hN] at HMay ⊢
  clear k hsl hx hh hN hU hZ hl
  have g0 : ¬ (((sz : Int) - us) / 3 < n) := by omega
  go_enter Tryz.func68, Tryz.ntmps68
  go_wp2
  refine wp_region_later (by kernel_rfl) (by kernel_rfl) ?_
  repeat (first
    | go_big_quiet_step (first | (go_at_call 70; with_reducible exact later_of (HMay.out _)) | (go_at_call 65; with_reducible exact later_of (HSz.out _)) | (go_at_call 35; with_reducible exact later_of (HUs.out _)))
    | quiet_step (first | (go_at_call 70; with_reducible exact later_of (HMay.out _)) | (go_at_call 65; with_reducible exact later_of (HSz.out _)) | (go_at_call 35; with_reducible exact later_of (HUs.out _))))
  refine wpQuiet_nil ?_
  rintro w2 ⟨⟨wz, hbz⟩, hwz⟩
  have hb2 : Below w.heap.size w w2 := by rw [hwz]; exact hbz
  clear hwz hbz wz
  have HB := hide hb2
  clear hb2
  go_upto_region 3 with fail
  clear HMay HSz HUs g0
  go_wp2
  go_loopw [1, 8] (fun l i wr => ∃ m : Nat, m ≤ n ∧ i = .int .i64 ((m : Int) - 1) ∧ l = .int .u64 (hd (chainO h last (xs.drop m)).2 last : Nat) ∧ ∃ M1, SAt wr S M1 (chainO h last (xs.drop m)).1 sy ∧ Step M w M1 wr) (fun _ i _ => (intOf i + 1).toNat)
  case atStart =>
    refine ⟨n, Nat.le_refl _, rfl, ?_, M, ?_, Step.of_below M HB.out⟩
    · rw [List.drop_eq_nil_of_le (by rw [HN.out]; exact Nat.le_refl _)]; rfl
    · rw [List.drop_eq_nil_of_le (by rw [HN.out]; exact Nat.le_refl _)]; exact HK.out.1.below HB.out
  case round =>
    obtain ⟨m, hm, rfl, rfl, M1, k1, s1⟩ := hrel
    cases m with
    | zero =>
      have HB2 := hide (And.intro k1 s1)
      clear k1 s1
      rw [show (((0 : Nat) : Int) - 1) = -1 from rfl]
      rw [List.drop_zero] at *
      generalize hl : hd (chainO h last xs).2 last = lw at *
      go_wp2
      go_ret2
      exact ⟨rfl, M1, HB2.out.1, HB2.out.2⟩
    | succ j =>
      obtain ⟨x, hxk⟩ : ∃ x, xs[j]? = some x := ⟨_, List.getElem?_eq_getElem (by have := HN.out; omega)⟩
      have hdrop : xs.drop j = x :: xs.drop (j + 1) := by
        rw [List.drop_eq_getElem_cons (by have := HN.out; omega)]
        congr 1
        exact (List.getElem?_eq_some_iff.1 hxk).2
      rcases (HK.out.2.1.step s1) with h0 | ⟨L, rfl, hL1, hL2, hL3⟩
      · rw [h0] at hxk; simp at hxk
      have hcx := hL3 j x hxk
      have HC := hide (HCons.out wr M1 j x hxk k1)
      have HX := hide (And.intro hdrop s1)
      rw [show (((j + 1 : Nat) : Int) - 1) = j by omega]
      have hlt' : (j : Int) < n := by omega
      have hk0 : (0 : Int) ≤ j := by omega
      generalize hl : hd (chainO h last (xs.drop (j + 1))).2 last = lw at *
      have HL := hide hl
      clear hL2 hL3 hxk k1 s1 hdrop c0 hl
      go_wp2_with (go_at_call 32; refine HC.out.mono ?_; rintro e w3 ⟨rfl, M3, k3, s3⟩)
      refine ⟨⟨j, by omega, by go_num, ?_, M3, ?_, HX.out.2.trans s3⟩, by simp [intOf]⟩
      · rw [HX.out.1]; rfl
      · rw [HX.out.1]
        show SAt w3 S M3 ((chainO h last (xs.drop (j + 1))).1 ++ [pairO x (hd (chainO h last (xs.drop (j + 1))).2 last)]) sy
        rw [HL.out]; exact k3

set_option maxHeartbeats 1000000 in
theorem list_at {w : World} {S : Sto} {M : Nat → Prop} {h : List Ob} {sy : List (ByteArray × Nat)} (k : SAt w S M h sy) {A : Option Addr} {c : Nat} {xs : List Nat} (hsl : SlU w M A xs) (hx : MayAll h xs) (hroom : 3 * xs.length + used h ≤ S.sz) :
    Calls Tryz.prog 33 #[.pointer (some ⟨S.sb, 0, none⟩), .slice A xs.length c] w (Grew S M w (chainO h 10 xs).1 sy (.tuple #[.int .u64 (hd (chainO h 10 xs).2 10 : Nat), .bool true])) := by
  have HC := hide (chain_at k (last := 10) (c := c) ⟨by decide, by decide, fun h0 => absurd h0 (by decide)⟩ hsl hx hroom)
  clear k hsl hx hroom
  obtain ⟨n, hN⟩ : ∃ n, xs.length = n := ⟨_, rfl⟩
  obtain ⟨lw, hl⟩ : ∃ lw, hd (chainO h 10 xs).2 10 = lw := ⟨_, rfl⟩
  rw [hN, hl] at HC ⊢
  clear hN hl
  go_enter Tryz.func33, Tryz.ntmps33
  go_wp2_with (go_at_call 68; fail)
  refine HC.out.mono ?_
  rintro e w3 ⟨rfl, M3, k3, s3⟩
  have HR := hide (And.intro k3 s3)
  clear k3 s3
  go_wp2
  go_ret2
  exact ⟨rfl, M3, HR.out.1, HR.out.2⟩

/-- A vector. -/
def vecO (xs : List Nat) : Ob := ⟨2, xs, []⟩

set_option maxHeartbeats 1000000 in
theorem vector_at {w : World} {S : Sto} {M : Nat → Prop} {h : List Ob} {sy : List (ByteArray × Nat)} (k : SAt w S M h sy) {A : Option Addr} {c : Nat} {xs : List Nat} (hsl : SlU w M A xs) (hx : MayAll h xs) (hroom : 1 + xs.length + used h ≤ S.sz) (hn : xs.length ≤ 1048576) :
    Calls Tryz.prog 118 #[.pointer (some ⟨S.sb, 0, none⟩), .slice A xs.length c] w (Grew S M w (h ++ [vecO xs]) sy (.tuple #[.int .u64 (4 * used h : Nat), .bool true])) := by
  have HC := hide (slay_at k 2 (by omega) (by omega) (c := c) hsl hx hroom hn)
  clear k hsl hx hroom
  obtain ⟨n, hN⟩ : ∃ n, xs.length = n := ⟨_, rfl⟩
  obtain ⟨us, hU⟩ : ∃ us, used h = us := ⟨_, rfl⟩
  rw [hN, hU] at HC
  rw [hN, hU]
  clear hN hU hn
  go_enter Tryz.func118, Tryz.ntmps118
  go_wp2_with (go_at_call 67; fail)
  refine HC.out.mono ?_
  rintro e w3 ⟨rfl, M3, k3, s3⟩
  have HR := hide (And.intro k3 s3)
  clear k3 s3
  go_wp2
  go_ret2
  exact ⟨rfl, M3, HR.out.1, HR.out.2⟩

end Go.Proofs.YtafignheedbnbaaGreatDoor
