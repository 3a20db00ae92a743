/-
  The walk of the table's method All, the sort by its contract.
-/
import Derived.Test.YtmgafcbhoamkkaaFeedAll
namespace Go.Proofs.Ytmgafcbhoamkkaa
open Go.RowKit Go.ChangeMaps
set_option linter.unusedSimpArgs false

theorem infoFeed : (Try.prog.info? 23).map (fun i => (i.zero, i.size, i.bytes)) = some (some (.agg #[.int .i64 0, .int .i64 0, .int .i64 0, .int .i64 0]), 4, 32) := by kernel_rfl

theorem own_below {w w' : World} {B : Nat} {e : TypeId} {s n : Nat} {v : Value} {xs : List Value} (h : w.ownsRow B e s v n xs) (hb : Below w.heap.size w w') : w'.ownsRow B e s v n xs := by
  refine ⟨h.1, ?_⟩
  rcases h.2 with h | ⟨g, cap, cur, h1, h2, h3, h4⟩
  · exact .inl h
  · exact .inr ⟨g, cap, cur, h1, h2, (hb.block g (Array.getElem?_eq_some_iff.1 h3).1).trans h3, h4⟩

theorem own_later {w w' : World} {B : Nat} {e : TypeId} {s n : Nat} {v : Value} {xs : List Value} (h : w.ownsRow B e s v n xs) (hb : ∀ b, B ≤ b → b < w.heap.size → w'.heap[b]? = w.heap[b]?) : w'.ownsRow B e s v n xs := by
  refine ⟨h.1, ?_⟩
  rcases h.2 with h | ⟨g, cap, cur, h1, h2, h3, h4⟩
  · exact .inl h
  · exact .inr ⟨g, cap, cur, h1, h2, (hb g h2 (Array.getElem?_eq_some_iff.1 h3).1).trans h3, h4⟩

theorem nodup_len : ∀ (D L : List Pl), D.Nodup → (∀ x ∈ D, x ∈ L) → D.length ≤ L.length
  | [], _, _, _ => Nat.zero_le _
  | d :: D, L, hn, hs => by
    obtain ⟨L1, L2, rfl⟩ := List.append_of_mem (hs d (by simp))
    obtain ⟨h1, h2⟩ := List.nodup_cons.1 hn
    have h3 := nodup_len D (L1 ++ L2) h2 fun x hx => by
      have := hs x (by simp [hx])
      simp only [List.mem_append, List.mem_cons] at this ⊢
      rcases this with h | rfl | h
      · exact .inl h
      · exact absurd hx h1
      · exact .inr h
    simp only [List.length_append, List.length_cons] at h3 ⊢
    omega

theorem got_len {D L : List Pl} (h2 : D.Nodup) (h1 : ∀ x ∈ D, x ∈ L) : (got D).length ≤ (got L).length := by
  unfold got
  rw [List.length_map, List.length_map]
  refine nodup_len _ _ (h2.filter _) fun x hx => ?_
  rw [List.mem_filter] at hx ⊢
  exact ⟨h1 x hx.1, hx.2⟩

theorem Way.same {w w' : World} {r mb : Nat} {es : Array MapEntry} {clock : Nat} {L D : List Pl} {seen : Array Nat} (h : Way w r mb es clock L D seen) (hr : w'.heap[r]? = w.heap[r]?) : Way w' r mb es clock L D seen :=
  ⟨by obtain ⟨c0, h1, h2⟩ := h.it; exact ⟨c0, hr.trans h1, h2⟩, h.sub, h.once, h.told⟩

theorem iterSeen_of {w : World} {r : Nat} {a : Option Nat} {b c : Nat} {s : Array Nat} (h : w.heap[r]? = some (.mapIter a b s c)) : w.iterSeen r = s := by
  unfold World.iterSeen; rw [h]

theorem setBlock_heap (w : World) (r : Nat) (o : Obj) (hr : r < w.heap.size) : (setBlock w r o).heap[r]? = some o ∧ (setBlock w r o).heap.size = w.heap.size ∧ ∀ b, b ≠ r → (setBlock w r o).heap[b]? = w.heap[b]? := by
  refine ⟨?_, by simp [setBlock], fun b hb => ?_⟩
  · rw [heap_setBlock, if_pos ⟨rfl, hr⟩]
  · rw [heap_setBlock, if_neg (by omega)]

theorem newc (w : World) (l : List Value) (t : TypeId) (j : Nat) (u : Value) (h : l[j]? = some u) : (w.alloc (.cells ⟨l⟩ t)).cell? ((⟨w.heap.size, 0, none⟩ : Addr).add j) = some u := by
  have e : (w.alloc (.cells ⟨l⟩ t)).heap[w.heap.size]? = some (.cells ⟨l⟩ t (0, 0)) := heap_alloc_new w (.cells ⟨l⟩ t (0, 0))
  rw [show (⟨w.heap.size, 0, none⟩ : Addr).add j = ⟨w.heap.size, j, none⟩ from by unfold Addr.add; split <;> simp_all]
  simp only [World.cell?, e]
  simpa using h

theorem first_later {V : World} (p c : Int) (y : Later V) : Calls Try.prog 26 #[.int .i64 p, .int .i64 c] (after V y) fun e w' => e = .returned (.agg #[.int .i64 p, .int .i64 c, .int .i64 0, .int .i64 (-1)]) ∧ Below (after V y).heap.size (after V y) w' :=
  (first_any p c _).mono fun e w' ⟨h1, h2⟩ => ⟨h1, by rw [h2]; exact (Below.refl _ _).alloc (Nat.le_refl _) _⟩

set_option maxRecDepth 100000 in
set_option maxHeartbeats 2000000 in
theorem all_any (hS : SortOk) (hN : NoneOk) (tb mb : Nat) (L : List Pl) (w : World) (h : TabAt w tb mb L) (hlen : (got L).length ≤ 4398046511104) :
    Calls Try.prog 13 #[.pointer (some ⟨tb, 0, none⟩)] w (AllDone w L) := by
  obtain ⟨es, clock, hmap, hL⟩ := h.map
  have hB := h.born es clock hmap
  have c0 : w.cell? ⟨tb, 0, none⟩ = some (.map (some mb)) := by simp [World.cell?, h.tab]
  have hrg := run_range_map (P := Try.prog) w 50 _ _ mb es clock Try.underlying50 hmap
  obtain ⟨r, hr⟩ : ∃ r, w.heap.size = r := ⟨_, rfl⟩
  have HS := hide (And.intro hS (And.intro hN (And.intro h (And.intro hmap (And.intro hL hB)))))
  clear hS hN h hmap hL hB
  go_enter Try.func13, Try.ntmps13
  go_wp2
  refine genF (fun U => Way U r mb es clock L [] #[] ∧ Below r w U) ?_ ?_
  · refine ⟨⟨⟨clock, by rw [← hr]; exact heap_alloc_new w _, Nat.le_refl _⟩, (fun q hq => by cases hq), List.nodup_nil, (fun e he => by simp)⟩, (Below.refl _ _).alloc (by omega) _⟩
  intro U hU
  have HU := hide hU
  clear hU hrg c0
  go_loopw [3] (fun c3 wr => ∃ (D : List Pl) (seen : Array Nat), Way wr r mb es clock L D seen ∧ wr.ownsRow (r + 1) 23 4 c3 (got D).length ((got D).flatMap encF) ∧ Below r w wr) (fun _ wr => (leftOf es (wr.iterSeen r)).size)
  case atStart => exact ⟨[], #[], HU.out.1, World.ownsRow_nil _ _ _ _, HU.out.2⟩
  case round =>
    clear HU
    obtain ⟨D, seen, hway, hown, hb⟩ := hrel
    obtain ⟨hS, hN, h, hmap, hL, hB⟩ := HS.out
    obtain ⟨c0', hit, hle⟩ := hway.it
    have hb' : Below w.heap.size w wr := by rw [hr]; exact hb
    have ht := h.below hb'
    have hmb' : wr.heap[mb]? = some (.map es clock) := (hb'.block mb (lt_of_heap hmap)).trans hmap
    rcases run_next_at (P := Try.prog) wr 0 r mb clock c0' seen es clock hit hmb' hB.1 hle with ⟨h0, hrun⟩ | ⟨e, he, w1, hw1, hrun⟩
    · have hnx : ∀ ty, (Instr.next (.pointer (some ⟨r, 0, none⟩)) false ty).run Try.prog wr = _ := fun _ => hrun
      have hperm := all_gone hL h.blks hway.sub hway.once hway.told h0
      have HP := hide hperm
      rcases hown.2 with ⟨rfl, hn0⟩ | ⟨g, cap, cur, rfl, -⟩
      · have HN := hide (hN none 0)
        have HB := hide hb'
        clear hS hN h hmap hL hB hway hown hb hb' ht hmb' hrun hit h0 hperm
        go_wp2_with (go_at_call 27; refine (HN.out _).mono ?_; rintro e w' ⟨rfl, rfl⟩)
        go_ret
        have hg : got D = [] := List.eq_nil_of_length_eq_zero hn0
        exact ⟨[], none, 0, rfl, by rw [← hg]; exact HP.out, List.Pairwise.nil, fun h => by simp at h, HB.out⟩
      · obtain ⟨hH, hgl, hgr⟩ := holds_own hown
        have hlD : (got D).length ≤ (got L).length := Nat.le_of_eq hperm.length_eq
        have HC := hide (hS g cap (got D).toArray wr hH hgl (by rw [List.size_toArray]; omega))
        have HB := hide (And.intro hb' (And.intro hH (And.intro hgl (And.intro hgr (got_apart (apart_of h.keys))))))
        clear hS hN h hmap hL hB hway hown hb hb' ht hmb' hrun hit h0 hperm hH hgl
        go_wp2_with (go_at_call 27; refine HC.out.mono ?_; rintro e w' ⟨rfl, d', n, os, hp, hs, rfl⟩)
        go_ret
        obtain ⟨hb', hH, hgl, hgr, hap⟩ := HB.out
        have hap2 : ApartF (got D).toArray.toList := (List.Perm.pairwise_iff (fun {x y} h e => h ⟨e.1.symm, e.2.symm⟩) HP.out).2 hap
        obtain ⟨h1, h2⟩ := sorted_pair hp hs hap2
        obtain ⟨s1, s2, s3⟩ := sort_world (n := n) (os := os) hH hp.1 hgl w.heap.size (by omega)
        have hle : d'.toList.length = (got D).length := h1.length_eq
        exact ⟨d'.toList, some ⟨g, 0, none⟩, cap, by rw [hle]; rfl, h1.trans HP.out, h2, fun _ => ⟨g, rfl, Nat.lt_of_lt_of_le hgl s2, s3⟩, hb'.trans s1⟩
    · obtain ⟨hem, hes⟩ := mem_left he
      obtain ⟨pl, hpl, hk, hv⟩ := holds_mem hL hem
      obtain ⟨q, hq, rfl⟩ := List.mem_map.1 hpl
      have hrl : r < wr.heap.size := (Array.getElem?_eq_some_iff.1 hit).1
      have hw1h : w1.heap = wr.heap := by rcases hw1 with rfl | rfl <;> rfl
      obtain ⟨s1, s2, s3⟩ := setBlock_heap w1 r (.mapIter (some mb) clock (seen.push e.born) clock) (by rw [hw1h]; exact hrl)
      rw [hw1h] at s2 s3
      have hbV : Below r w (setBlock w1 r (.mapIter (some mb) clock (seen.push e.born) clock)) := by
        refine ⟨?_, ?_, ?_, by rw [s2]; exact hb.size, fun k hk => by rw [s3 k (by omega)]; exact hb.block k hk⟩
        · rcases hw1 with rfl | rfl <;> exact hb.os
        · rcases hw1 with rfl | rfl <;> exact hb.tape
        · rcases hw1 with rfl | rfl <;> exact hb.output
      have hmbr : mb ≠ r := fun e2 => by rw [e2, hit] at hmb'; cases hmb'
      have hen := run_entry_at (P := Try.prog) _ r mb clock seen es clock e s1 ((s3 mb hmbr).trans hmb') hem hB.2
      have hownV := own_later (w' := setBlock w1 r (.mapIter (some mb) clock (seen.push e.born) clock)) hown (fun b h1 _ => s3 b (by omega))
      have hcq := ht.cells q hq
      have hqr : q.blk < r := by rw [← hr]; exact lt_of_heap (h.cells q hq)
      have hcV := (s3 q.blk (by omega)).trans hcq
      generalize setBlock w1 r (.mapIter (some mb) clock (seen.push e.born) clock) = V at *
      rw [hv] at hrun hen
      have hnx : ∀ ty, (Instr.next (.pointer (some ⟨r, 0, none⟩)) false ty).run Try.prog wr = .ok (.tuple #[.bool true, e.key, .pointer (some ⟨q.blk, 0, none⟩)]) V := fun _ => hrun
      have hen' : (Instr.entry (.pointer (some ⟨r, 0, none⟩))).run Try.prog V = .ok (.tuple #[e.key, .pointer (some ⟨q.blk, 0, none⟩)]) V := hen
      have hway' : Way V r mb es clock L (D ++ [q]) (seen.push e.born) := by
        refine ⟨⟨clock, s1, Nat.le_refl _⟩, fun x hx => ?_, ?_, told_more hB hL h.blks hway.told hem hv⟩
        · rcases List.mem_append.1 hx with hx | hx
          · exact hway.sub x hx
          · rw [List.mem_singleton.1 hx]; exact hq
        · rw [List.nodup_append]
          refine ⟨hway.once, by simp, fun a ha b hb2 e2 => ?_⟩
          rw [List.mem_singleton.1 hb2] at e2
          subst e2
          have := (hway.told e hem).2 ⟨a, ha, hv⟩
          rw [hes] at this
          cases this
      have hshr := left_shrinks es seen e he
      have hse := iterSeen_of hit
      obtain ⟨⟨x0, x1, x2, x3, -⟩, -⟩ := place_cells (p := q.p) (c := q.c) (m := q.m) (k := q.k) (t := q.t) hcV
      have hqV : q.blk < V.heap.size := lt_of_heap hcV
      have HV := hide (And.intro hway' (And.intro hownV (And.intro hbV (And.intro hshr hse))))
      have hrV : r < V.heap.size := (Array.getElem?_eq_some_iff.1 s1).1
      have HF := hide (fun y : Later V => first_later q.p q.c y)
      clear hS hN h hmap hL hB hway hown hb hb' ht hmb' hrun hit hway' hownV hbV hshr hen s1 s2 s3 hcq hcV hw1 hw1h hse he hem hes hle hk hpl
      obtain ⟨i0, hi0, hz0, hz1, hz2⟩ := info_parts infoFeed
      go_upto_region 5 with fail
      obtain ⟨qp, qc, qb, qm, qk, qt⟩ := q
      dsimp only at *
      by_cases hm : qm = 0
      · subst hm
        by_cases hk : qk = -1
        · subst hk
          refine wp_region_later (by kernel_rfl) (by kernel_rfl) ?_
          repeat (first
            | go_big_quiet_step (first | (go_at_call 26; with_reducible exact later_of (HF.out _)))
            | quiet_step (first | (go_at_call 26; with_reducible exact later_of (HF.out _))))
          refine wpQuiet_nil ?_
          rintro w2 ⟨⟨wz, hbz⟩, hwz⟩
          have hb2 : Below V.heap.size V w2 := by rw [hwz]; exact hbz
          clear hwz hbz wz
          have HB2 := hide hb2
          clear hb2 x0 x1 x2 x3 HF hnx hen'
          go_wp2
          obtain ⟨hway', hownV, hbV, hshr, hse⟩ := HV.out
          have hr2 := HB2.out.block r hrV
          have hl : got (D ++ [⟨qp, qc, qb, 0, -1, qt⟩]) = got D := by rw [got_snoc]; simp [live]
          refine ⟨⟨D ++ [⟨qp, qc, qb, 0, -1, qt⟩], _, hway'.same hr2, by rw [hl]; exact own_below hownV HB2.out, hbV.trans (HB2.out.mono (Nat.le_of_lt hrV))⟩, ?_⟩
          obtain ⟨c0, h1, -⟩ := (hway'.same hr2).it
          rw [iterSeen_of h1, hse]
          exact hshr
        · have hk2 : (qk == -1) = false := by simpa using hk
          refine wp_region_later (by kernel_rfl) (by kernel_rfl) ?_
          repeat (first
            | go_big_quiet_step (first | (go_at_call 26; with_reducible exact later_of (HF.out _)))
            | quiet_step (first | (go_at_call 26; with_reducible exact later_of (HF.out _))))
          refine wpQuiet_nil ?_
          rintro w2 ⟨⟨wz, hbz⟩, hwz⟩
          have hb2 : Below V.heap.size V w2 := by rw [hwz]; exact hbz
          clear hwz hbz wz
          have HB2 := hide hb2
          have hl : live ⟨qp, qc, qb, 0, qk, qt⟩ = true := by simp [live, hk]
          have y0 := (hb2.cell (p := ⟨qb, 0, none⟩) hqV).trans x0
          have y1 := (hb2.cell (p := ⟨qb, 1, none⟩) hqV).trans x1
          have y2 := (hb2.cell (p := ⟨qb, 2, none⟩) hqV).trans x2
          have y3 := (hb2.cell (p := ⟨qb, 3, none⟩) hqV).trans x3
          have hlD : (got D).length + 1 ≤ (got L).length := by
            have h3 : (got (D ++ [(⟨qp, qc, qb, 0, qk, qt⟩ : Pl)])).length ≤ (got L).length := got_len HV.out.1.once HV.out.1.sub
            rw [got_snoc, hl] at h3
            simpa using h3
          have hbs := HV.out.2.2.1.size
          have hb2s := hb2.size
          clear hb2 x0 x1 x2 x3 HF hnx hen'
          go_wp2_with (at_builtin; refine wpList_append_own _ rfl (.tmp 31) (.tmp 36) 35 rfl (r + 1) 23 i0 _ 4 32 Try.underlying35 hi0 hz0 hz1 hz2 rfl (by decide) _ (got D).length ((got D).flatMap encF) rfl ((own_below HV.out.2.1 HB2.out).alloc _) ⟨w2.heap.size, 0, none⟩ 1 1 [.int .i64 qp, .int .i64 qc, .int .i64 0, .int .i64 qk] rfl rfl (newc _ _ _) (fun u hu => by simp at hu; rcases hu with rfl | rfl | rfl | rfl <;> rfl) (by simp only [maxLen]; omega) (by omega) (by rw [Deep.nblk_alloc]; omega) ?_; intro v1 w3 hown1 hgrow1 _)
          obtain ⟨hway', hownV, hbV, hshr, hse⟩ := HV.out
          have hown2 := (own_below hownV HB2.out).alloc (.cells #[.int .i64 qp, .int .i64 qc, .int .i64 0, .int .i64 qk] 23)
          have hr2 : w3.heap[r]? = V.heap[r]? := by
            rw [hgrow1.block r (by rw [Deep.nblk_alloc]; omega) (fun e2 => by have := (hown2.lt r e2.symm).1; omega), Deep.blk_alloc_lt _ _ _ (by omega)]
            exact HB2.out.block r hrV
          have hg : got (D ++ [⟨qp, qc, qb, 0, qk, qt⟩]) = got D ++ [(qp, qc, 0, qk)] := by rw [got_snoc, hl]; rfl
          have hb3 := (hbV.trans (HB2.out.mono (Nat.le_of_lt hrV))).alloc (B := r) (by omega) (.cells #[.int .i64 qp, .int .i64 qc, .int .i64 0, .int .i64 qk] 23)
          refine ⟨⟨D ++ [⟨qp, qc, qb, 0, qk, qt⟩], _, hway'.same hr2, by rw [hg, List.length_append, List.flatMap_append]; exact hown1, hb3.grown hgrow1 (by rw [Deep.nblk_alloc]; omega) (fun k hk => by have := (hown2.lt k hk).1; omega)⟩, ?_⟩
          obtain ⟨c0, h1, -⟩ := (hway'.same hr2).it
          rw [iterSeen_of h1, hse]
          exact hshr
      · have hm2 : (qm == 0) = false := by simpa using hm
        refine wp_region_later (by kernel_rfl) (by kernel_rfl) ?_
        repeat (first
          | go_big_quiet_step (first | (go_at_call 26; with_reducible exact later_of (HF.out _)))
          | quiet_step (first | (go_at_call 26; with_reducible exact later_of (HF.out _))))
        refine wpQuiet_nil ?_
        rintro w2 ⟨⟨wz, hbz⟩, hwz⟩
        have hb2 : Below V.heap.size V w2 := by rw [hwz]; exact hbz
        clear hwz hbz wz
        have HB2 := hide hb2
        have hl : live ⟨qp, qc, qb, qm, qk, qt⟩ = true := by simp [live, hm]
        have y0 := (hb2.cell (p := ⟨qb, 0, none⟩) hqV).trans x0
        have y1 := (hb2.cell (p := ⟨qb, 1, none⟩) hqV).trans x1
        have y2 := (hb2.cell (p := ⟨qb, 2, none⟩) hqV).trans x2
        have y3 := (hb2.cell (p := ⟨qb, 3, none⟩) hqV).trans x3
        have hlD : (got D).length + 1 ≤ (got L).length := by
          have h3 : (got (D ++ [(⟨qp, qc, qb, qm, qk, qt⟩ : Pl)])).length ≤ (got L).length := got_len HV.out.1.once HV.out.1.sub
          rw [got_snoc, hl] at h3
          simpa using h3
        have hbs := HV.out.2.2.1.size
        have hb2s := hb2.size
        clear hb2 x0 x1 x2 x3 HF hnx hen'
        go_wp2_with (at_builtin; refine wpList_append_own _ rfl (.tmp 31) (.tmp 36) 35 rfl (r + 1) 23 i0 _ 4 32 Try.underlying35 hi0 hz0 hz1 hz2 rfl (by decide) _ (got D).length ((got D).flatMap encF) rfl ((own_below HV.out.2.1 HB2.out).alloc _) ⟨w2.heap.size, 0, none⟩ 1 1 [.int .i64 qp, .int .i64 qc, .int .i64 qm, .int .i64 qk] rfl rfl (newc _ _ _) (fun u hu => by simp at hu; rcases hu with rfl | rfl | rfl | rfl <;> rfl) (by simp only [maxLen]; omega) (by omega) (by rw [Deep.nblk_alloc]; omega) ?_; intro v1 w3 hown1 hgrow1 _)
        obtain ⟨hway', hownV, hbV, hshr, hse⟩ := HV.out
        have hown2 := (own_below hownV HB2.out).alloc (.cells #[.int .i64 qp, .int .i64 qc, .int .i64 qm, .int .i64 qk] 23)
        have hr2 : w3.heap[r]? = V.heap[r]? := by
          rw [hgrow1.block r (by rw [Deep.nblk_alloc]; omega) (fun e2 => by have := (hown2.lt r e2.symm).1; omega), Deep.blk_alloc_lt _ _ _ (by omega)]
          exact HB2.out.block r hrV
        have hg : got (D ++ [⟨qp, qc, qb, qm, qk, qt⟩]) = got D ++ [(qp, qc, qm, qk)] := by rw [got_snoc, hl]; rfl
        have hb3 := (hbV.trans (HB2.out.mono (Nat.le_of_lt hrV))).alloc (B := r) (by omega) (.cells #[.int .i64 qp, .int .i64 qc, .int .i64 qm, .int .i64 qk] 23)
        refine ⟨⟨D ++ [⟨qp, qc, qb, qm, qk, qt⟩], _, hway'.same hr2, by rw [hg, List.length_append, List.flatMap_append]; exact hown1, hb3.grown hgrow1 (by rw [Deep.nblk_alloc]; omega) (fun k hk => by have := (hown2.lt k hk).1; omega)⟩, ?_⟩
        obtain ⟨c0, h1, -⟩ := (hway'.same hr2).it
        rw [iterSeen_of h1, hse]
        exact hshr

end Go.Proofs.Ytmgafcbhoamkkaa
