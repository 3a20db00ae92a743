/-
  The walk of tandemlaw11.CheckBranches.
-/
import Derived.Test.YtmlmepbnjlepnaaChkLaw
namespace Go.Proofs.Ytmlmepbnjlepnaa
open Go.RowKit Go.BigFrame

theorem infoIns : (Try.prog.info? 34).map (fun i => (i.zero, i.size, i.bytes)) = some (some (.agg #[.int .i64 0, .int .i64 0, .int .i64 0]), 3, 24) := by kernel_rfl

/-- A proto in the making: its code's slice of the call's own. -/
structure Making (w : World) (pb B : Nat) (kv : Value) (v : Value) (l : List Ins) : Prop where
  pr : w.heap[pb]? = some (.cells #[.string ⟨#[]⟩, .int .i64 0, .int .i64 0, .bool false, v, kv, .slice none 0 0] 32 (0, 0))
  own : w.ownsRow B 34 3 v l.length (codeV l)
  lt : pb < B
  le : B ≤ w.heap.size

theorem making_cells {w : World} {pb B : Nat} {kv v : Value} {l : List Ins} (h : Making w pb B kv v l) : w.cell? ⟨pb, 4, none⟩ = some v ∧ w.frozen? ⟨pb, 4, none⟩ = false := by
  simp [World.cell?, World.frozen?, h.pr]

theorem codeV_snoc (l : List Ins) (x : Ins) : codeV (l ++ [x]) = codeV l ++ insV x := by simp [codeV]

/-- p.Code = append(p.Code, ..): behind the row of what is appended (block w.heap.size). -/
theorem wpList_more {ops : Array Oper} {rest : List Oper} {o : Oper} {a : Act} {Q : Exit → Act → World → Prop} {w w0 : World} (hgd : o.guard = none) (s x : Operand)
    (ho : o.op = .call { callee := .builtin .append, args := #[s, x], argTypes := #[29, 29] }) {pb B : Nat} {kv v : Value} {l m : List Ins} (hw : w = w0.alloc (.cells ⟨codeV m⟩ 34)) (h : Making w0 pb B kv v l)
    (hs : a.eval s = v) (hx : a.eval x = .slice (some ⟨w0.heap.size, 0, none⟩) m.length m.length) (hlen : l.length + m.length ≤ 1000) (hm0 : 0 < m.length)
    (k : ∀ g len cap w', Making (w'.setCell ⟨pb, 4, none⟩ (.slice (some ⟨g, 0, none⟩) len cap)) pb B kv (.slice (some ⟨g, 0, none⟩) len cap) (l ++ m) → w'.cell? ⟨pb, 4, none⟩ = some v → w'.frozen? ⟨pb, 4, none⟩ = false → (∀ (C : Nat) (u : World), C ≤ pb → Below C u w0 → Below C u (w'.setCell ⟨pb, 4, none⟩ (.slice (some ⟨g, 0, none⟩) len cap))) → wpList Try.prog ops Q rest (a.put o.dst (.slice (some ⟨g, 0, none⟩) len cap)) w') : wpList Try.prog ops Q (o :: rest) a w := by
  obtain ⟨i0, hi, hz0, hz1, hz2⟩ := info_parts infoIns
  subst hw
  have hown := h.own.alloc (.cells ⟨codeV m⟩ 34)
  have hnew := Deep.blk_alloc_new w0 (.cells ⟨codeV m⟩ 34 (0, 0))
  have hpb : pb < w0.heap.size := lt_of_heap h.pr
  refine wpList_append_own _ hgd s x 29 ho B 34 i0 _ 3 24 Try.underlying29 hi hz0 hz1 hz2 rfl (by decide) v l.length (codeV l) hs hown ⟨w0.heap.size, 0, none⟩ m.length m.length (codeV m) hx (codeV_len m)
    (fun j u hj => by rw [show (⟨w0.heap.size, 0, none⟩ : Addr).add j = ⟨w0.heap.size, j, none⟩ from by unfold Addr.add; split <;> simp_all]; rw [cell_row hnew]; exact hj) ?_ (by simp only [maxLen]; omega) (by omega) (Nat.le_trans h.le (by rw [Deep.nblk_alloc]; omega)) ?_
  · intro u hu
    obtain ⟨x, -, hx⟩ := List.mem_flatMap.1 hu
    simp [insV] at hx
    rcases hx with rfl | rfl | rfl <;> rfl
  · intro v' w' hown' hg _
    obtain ⟨vg, vcap, rfl⟩ : ∃ vg vcap, v' = .slice (some ⟨vg, 0, none⟩) (l.length + m.length) vcap := by
      rcases hown'.2 with ⟨_, h0⟩ | ⟨g, cap, cur, e, _⟩
      · omega
      · exact ⟨g, cap, e⟩
    have hblk : ∀ b, b < B → w'.heap[b]? = w0.heap[b]? := fun b hb => by
      rw [hg.block b (by rw [Deep.nblk_alloc]; have := h.le; omega) (fun e => by have := (hown.lt b e.symm).1; omega)]
      exact Deep.blk_alloc_lt _ _ _ (by have := h.le; omega)
    have hp' : w'.heap[pb]? = _ := (hblk pb h.lt).trans h.pr
    refine k vg _ vcap w' ⟨?_, ?_, h.lt, ?_⟩ (by simp [World.cell?, hp']) (by simp [World.frozen?, hp']) (fun C u hC hu => ?_)
    · simp [World.setCell, Array.getElem?_modify, hp']
    · have e : codeV (l ++ m) = codeV l ++ codeV m := by simp [codeV]
      rw [e, List.length_append]
      refine hown'.kept (row := some pb) ⟨rfl, rfl, rfl, by rw [Deep.nblk_setCell]; exact Nat.le_refl _, fun b _ hb => Deep.blk_setCell_other _ _ _ _ (fun e => hb (by rw [e]))⟩ (.inr fun e => ?_)
      have := (hown'.lt pb e).1
      have := h.lt
      omega
    · rw [Deep.nblk_setCell]
      have := hg.size
      rw [Deep.nblk_alloc] at this
      have := h.le
      omega
    · have hC2 : C ≤ w0.heap.size := by omega
      exact ((hu.alloc hC2 _).grown hg (by rw [Deep.nblk_alloc]; omega) (fun k hk => by have := (hown.lt k hk).1; have := h.lt; omega)).setCell (p := ⟨pb, 4, none⟩) hC _

theorem Making.alloc {w : World} {pb B : Nat} {kv v : Value} {l : List Ins} (h : Making w pb B kv v l) (o : Obj) : Making (w.alloc o) pb B kv v l :=
  ⟨(Deep.blk_alloc_lt _ _ _ (lt_of_heap h.pr)).trans h.pr, h.own.alloc o, h.lt, by rw [Deep.nblk_alloc]; have := h.le; omega⟩

def br1 (r1 i : Nat) : List Ins := [⟨1, 0, 0⟩, ⟨15, 1 + (r1 : Int) + 3, 0⟩] ++ List.replicate i ⟨1, 0, 0⟩
def br2 (r1 r2 i : Nat) : List Ins := br1 r1 (r1 + 1) ++ [⟨14, 1 + (r1 : Int) + 3 + (1 + (r2 : Int)), 0⟩] ++ List.replicate i ⟨1, 0, 0⟩
def brAll (r1 r2 : Nat) : List Ins := br2 r1 r2 (r2 + 1) ++ [⟨13, 0, 0⟩]
theorem br1_snoc (r1 i : Nat) : br1 r1 (i + 1) = br1 r1 i ++ [⟨1, 0, 0⟩] := by unfold br1; rw [List.replicate_succ', List.append_assoc]
theorem br2_snoc (r1 r2 i : Nat) : br2 r1 r2 (i + 1) = br2 r1 r2 i ++ [⟨1, 0, 0⟩] := by unfold br2; rw [List.replicate_succ', List.append_assoc, List.append_assoc, List.append_assoc]
theorem br1_len (r1 i : Nat) : (br1 r1 i).length = i + 2 := by simp [br1]
theorem br2_len (r1 r2 i : Nat) : (br2 r1 r2 i).length = r1 + i + 4 := by simp [br2, br1_len]; omega
theorem prog_br : ∀ r1, r1 < 6 → ∀ r2, r2 < 6 → progR [⟨0, 0, false, brAll r1 r2, 1, 0⟩] = if r1 = r2 then (0, 0, 0) else (0, 1 + r1 + 2 + (1 + r2), 31) := by decide +kernel

theorem br_b : ∀ r1, r1 < 6 → ∀ r2, r2 < 6 → ∀ x ∈ brAll r1 r2, x.b ≤ 9223372036854775807 := by decide +kernel
theorem proto_cells {w : World} {b : Nat} {t : TypeId} {c0 c1 c2 c3 c4 c5 c6 : Value} (h : w.heap[b]? = some (.cells #[c0, c1, c2, c3, c4, c5, c6] t (0, 0))) :
    w.cell? ⟨b, 0, none⟩ = some c0 ∧ w.cell? ⟨b, 1, none⟩ = some c1 ∧ w.cell? ⟨b, 2, none⟩ = some c2 ∧ w.cell? ⟨b, 3, none⟩ = some c3 ∧ w.cell? ⟨b, 4, none⟩ = some c4 ∧ w.cell? ⟨b, 5, none⟩ = some c5 ∧ w.cell? ⟨b, 6, none⟩ = some c6 := by
  simp [World.cell?, h]

theorem own_form {w : World} {B : Nat} {e : TypeId} {g n len cap : Nat} {xs : List Value} (h : w.ownsRow B e 3 (.slice (some ⟨g, 0, none⟩) len cap) n xs) : len = n ∧ ∃ rest, w.heap[g]? = some (.cells ⟨xs ++ rest⟩ e (0, 0)) := by
  rcases h.2 with ⟨e, _⟩ | ⟨g', cap', cur, e, _, hc, _, _, _, ht⟩
  · cases e
  · cases e
    refine ⟨rfl, cur.toList.drop (n * 3), ?_⟩
    rw [hc, ← ht, List.take_append_drop]

set_option maxRecDepth 100000 in
set_option maxHeartbeats 4000000 in
theorem branches_any (a b : Int) (w : World) : Calls Try.prog 3 #[.int .i64 a, .int .i64 b] w fun e w' => e = .returned (.bool true) ∧ Below w.heap.size w w' := by
  go_enter Try.func3, Try.ntmps3
  go_upto_region 4 with (first
    | (go_at_call 6; refine (place_int b 6 w1 (by omega) (by omega)).mono ?_; rintro e w2 ⟨r2, hr2, rfl, hb2⟩)
    | (go_at_call 6; refine (place_int a 6 w (by omega) (by omega)).mono ?_; rintro e w1 ⟨r1, hr1, rfl, hb1⟩))
  have hs12 : Below w.heap.size w w2 := hb1.trans (hb2.mono hb1.size)
  obtain ⟨kb, hkb⟩ : ∃ kb, w2.heap.size = kb := ⟨_, rfl⟩
  refine gen_world (fun W => Making W (w2.heap.size + 1) (w2.heap.size + 2) (.slice (some ⟨w2.heap.size, 0, none⟩) 1 1) (.slice none 0 0) [] ∧ Below w.heap.size w W) ?_ ?_
  · have hs := hs12.size
    refine ⟨⟨(two_blocks w2 _ _).2, World.ownsRow_nil _ _ _ _, by omega, by rw [Deep.nblk_alloc, Deep.nblk_alloc]; omega⟩, (hs12.alloc hs _).alloc (by rw [Deep.nblk_alloc]; omega) _⟩
  intro W hW
  have hle := hs12.size
  rw [hkb] at hW hle ⊢
  have HM := hide hW.1
  have HB := hide hW.2
  obtain ⟨hcv, hfv⟩ := making_cells hW.1
  clear hW hb1 hb2 hs12 hkb
  go_wp2_with (at_builtin; refine wpList_more rfl (.tmp 23) (.tmp 28) rfl (m := [⟨1, 0, 0⟩, ⟨15, 1 + (r1 : Int) + 3, 0⟩]) rfl HM.out rfl rfl (by simp <;> omega) (by simp) ?_; intro g3 l3 p3 w3 hm3 hc3 hf3 hb3)
  have HM2 := hide hm3
  have HB2 := hide (hb3 _ _ (by omega) HB.out)
  clear hm3 hc3 hf3 hb3 hcv hfv HM HB
  have hs1 : 1 + (r1 : Int) = ((r1 + 1 : Nat) : Int) := by omega
  go_loopw [8] (fun c wr => ∃ (i g len cap : Nat), i ≤ r1 + 1 ∧ c = .int .i64 i ∧ Making wr (kb + 1) (kb + 2) (.slice (some ⟨kb, 0, none⟩) 1 1) (.slice (some ⟨g, 0, none⟩) len cap) (br1 r1 i) ∧ Below w.heap.size w wr)
    (fun c _ => r1 + 1 - (intOf c).toNat)
  case atStart => exact ⟨0, _, _, _, Nat.zero_le _, rfl, HM2.out, HB2.out⟩
  case round =>
    obtain ⟨i, g, len, cap, hil, rfl, hm, hb⟩ := hrel
    obtain ⟨hcv, hfv⟩ := making_cells hm
    have HM := hide hm
    have HB := hide hb
    clear hm hb HM2 HB2 hs1
    by_cases hlt : i < r1 + 1
    · have hlt' : (i : Int) < 1 + r1 := by omega
      go_wp2_with (at_builtin; refine wpList_more rfl (.tmp 37) (.tmp 39) rfl (m := [⟨1, 0, 0⟩]) rfl HM.out rfl rfl (by rw [br1_len]; simp; omega) (by simp) ?_; intro g4 l4 p4 w4 hm4 hc4 hf4 hb4)
      exact ⟨⟨i + 1, g4, l4, p4, by omega, by go_num, by rw [br1_snoc]; exact hm4, hb4 _ _ (by omega) HB.out⟩, by simp [intOf]; omega⟩
    · obtain rfl : i = r1 + 1 := by omega
      have hge : (1 : Int) + r1 ≤ ((r1 + 1 : Nat) : Int) := by omega
      go_wp2_with (at_builtin; refine wpList_more rfl (.tmp 43) (.tmp 49) rfl (m := [⟨14, 1 + (r1 : Int) + 3 + (1 + (r2 : Int)), 0⟩]) rfl HM.out rfl rfl (by rw [br1_len]; simp; omega) (by simp) ?_; intro g4 l4 p4 w4 hm4 hc4 hf4 hb4)
      have HM5 := hide hm4
      have HB5 := hide (hb4 _ _ (by omega) HB.out)
      clear hm4 hc4 hf4 hb4 hcv hfv HM HB hge
      go_loopw [9] (fun c wr => ∃ (i g len cap : Nat), i ≤ r2 + 1 ∧ c = .int .i64 i ∧ Making wr (kb + 1) (kb + 2) (.slice (some ⟨kb, 0, none⟩) 1 1) (.slice (some ⟨g, 0, none⟩) len cap) (br2 r1 r2 i) ∧ Below w.heap.size w wr)
        (fun c _ => r2 + 1 - (intOf c).toNat)
      case atStart => exact ⟨0, _, _, _, Nat.zero_le _, rfl, by unfold br2; rw [List.replicate_zero, List.append_nil]; exact HM5.out, HB5.out⟩
      case round =>
        obtain ⟨i, g, len, cap, hil, rfl, hm, hb⟩ := hrel
        obtain ⟨hcv, hfv⟩ := making_cells hm
        have HM := hide hm
        have HB := hide hb
        clear hm hb HM5 HB5
        by_cases hlt : i < r2 + 1
        · have hlt' : (i : Int) < 1 + r2 := by omega
          go_wp2_with (at_builtin; refine wpList_more rfl (.tmp 58) (.tmp 60) rfl (m := [⟨1, 0, 0⟩]) rfl HM.out rfl rfl (by rw [br2_len]; simp; omega) (by simp) ?_; intro g6 l6 p6 w6 hm6 hc6 hf6 hb6)
          exact ⟨⟨i + 1, g6, l6, p6, by omega, by go_num, by rw [br2_snoc]; exact hm6, hb6 _ _ (by omega) HB.out⟩, by simp [intOf]; omega⟩
        · obtain rfl : i = r2 + 1 := by omega
          have hge : (1 : Int) + r2 ≤ ((r2 + 1 : Nat) : Int) := by omega
          go_upto_region 15 with (at_builtin; refine wpList_more rfl (.tmp 64) (.tmp 66) rfl (m := [⟨13, 0, 0⟩]) rfl HM.out rfl rfl (by rw [br2_len]; simp; omega) (by simp) ?_; intro g6 l6 p6 w6 hm6 hc6 hf6 hb6)
          refine gen_world (fun W => Making W (kb + 1) (kb + 2) (.slice (some ⟨kb, 0, none⟩) 1 1) (.slice (some ⟨g6, 0, none⟩) l6 p6) (brAll r1 r2) ∧ Below w.heap.size w W) ⟨hm6, hb6 _ _ (by omega) HB.out⟩ ?_
          intro W7 hW7
          obtain ⟨hM7, hB7⟩ := hW7
          obtain ⟨rfl, rest, hrest⟩ := own_form hM7.own
          obtain ⟨k0, k1, k2, k3, k4, k5, k6⟩ := proto_cells hM7.pr
          have hg6 := lt_of_heap hrest
          have HPG := program_heap ⟨⟨#[]⟩, ⟨0, 0, false, brAll r1 r2, 1, 0⟩, some ⟨g6, 0, none⟩, p6, some ⟨kb, 0, none⟩, 1, none, 0⟩ rest _ (prog_br r1 hr1 r2 hr2) rfl (Deep.blk_alloc_new W7 (.cells ⟨PrV.cells ⟨⟨#[]⟩, ⟨0, 0, false, brAll r1 r2, 1, 0⟩, some ⟨g6, 0, none⟩, p6, some ⟨kb, 0, none⟩, 1, none, 0⟩⟩ 32 (0, 0))) ((Deep.blk_alloc_lt _ _ _ hg6).trans hrest) (by simp) (Nat.zero_le _) (by simp [brAll, br2_len]; omega) (br_b r1 hr1 r2 hr2)
          have HB7 := hide hB7
          clear hm6 hc6 hf6 hb6 hcv hfv HM HB hge hM7 hB7 hrest hg6
          by_cases hrr : r1 = r2
          · rw [if_pos hrr] at HPG
            have hq : ((1 : Int) + r1 == 1 + r2) = true := by simp [hrr]
            have HPG := hide HPG
            clear hrr
            go_wp2_with (first
              | (go_at_call 7; refine (HPG.out).mono ?_; rintro e w8 ⟨rfl, hb8⟩)
              | (go_at_call 8; refine (awake_any _).mono ?_; rintro e w9 ⟨rfl, hb9⟩))
            go_ret
            refine ⟨rfl, ?_⟩
            have e8 := ((HB7.out.alloc HB7.out.size (.cells #[.string ⟨#[]⟩, .int .i64 0, .int .i64 0, .bool false, .slice (some ⟨g6, 0, none⟩) (brAll r1 r2).length p6, .slice (some ⟨kb, 0, none⟩) 1 1, .slice none 0 0] 32)).trans (hb8.mono (by rw [Deep.nblk_alloc]; have := HB7.out.size; omega)))
            exact e8.trans (hb9.mono e8.size)
          · rw [if_neg hrr] at HPG
            have hq : ((1 : Int) + r1 == 1 + r2) = false := beq_eq_false_iff_ne.2 (by omega)
            have HPG := hide HPG
            clear hrr
            go_wp2_with (first
              | (go_at_call 7; refine (HPG.out).mono ?_; rintro e w8 ⟨rfl, hb8⟩)
              | (go_at_call 8; refine (awake_any _).mono ?_; rintro e w9 ⟨rfl, hb9⟩))
            go_ret
            refine ⟨rfl, ?_⟩
            have e8 := ((HB7.out.alloc HB7.out.size (.cells #[.string ⟨#[]⟩, .int .i64 0, .int .i64 0, .bool false, .slice (some ⟨g6, 0, none⟩) (brAll r1 r2).length p6, .slice (some ⟨kb, 0, none⟩) 1 1, .slice none 0 0] 32)).trans (hb8.mono (by rw [Deep.nblk_alloc]; have := HB7.out.size; omega)))
            exact e8.trans (hb9.mono e8.size)

end Go.Proofs.Ytmlmepbnjlepnaa
