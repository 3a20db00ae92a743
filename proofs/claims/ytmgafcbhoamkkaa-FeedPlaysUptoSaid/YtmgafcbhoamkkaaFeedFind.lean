/-
  The walk of the document's table's find: where a place is; it is made if it is not there.
-/
import Derived.Test.YtmgafcbhoamkkaaFeedRef
import Derived.LoopTactic
namespace Go.Proofs.Ytmgafcbhoamkkaa
open Go.RowKit Go.ChangeMaps
set_option linter.unusedSimpArgs false

theorem infoInt : (Try.prog.info? 3).map (fun i => (i.zero, i.size, i.bytes)) = some (some (.int .i64 0), 1, 8) := by kernel_rfl

def FindDone (w : World) (rb : Nat) (vF vC : Value) (R : List Pl) (p c : Int) (e : Ending) (w1 : World) : Prop :=
  ∃ vF' vC' R' i q, e = .returned (.int .i64 (i : Nat)) ∧ RefAt w1 rb vF' vC' R' ∧ R'[i]? = some q ∧ q.p = p ∧ q.c = c ∧ (∀ p' c', tv R' p' c' = tv R p' c') ∧ R'.length ≤ R.length + 1 ∧
    Turned (RMine rb vF vC) w w1 ∧ (∀ b, RMine rb vF' vC' b → RMine rb vF vC b ∨ w.heap.size ≤ b)

theorem refs_box {w : World} {rb : Nat} {vF vC : Value} {t : TypeId} (h : w.heap[rb]? = some (.cells #[vF, vC] t (0, 0))) : w.cell? ⟨rb, 0, none⟩ = some vF ∧ w.cell? ⟨rb, 1, none⟩ = some vC ∧ w.frozen? ⟨rb, 0, none⟩ = false ∧ w.frozen? ⟨rb, 1, none⟩ = false ∧ rb < w.heap.size :=
  ⟨by simp [World.cell?, h], by simp [World.cell?, h], by simp [World.frozen?, h], by simp [World.frozen?, h], lt_of_heap h⟩

theorem grown_below {w w' : World} {row : Option Nat} (h : w.grownBy w' row) {b : Nat} (hb : b < w.heap.size) (hne : row ≠ some b) : w'.heap[b]? = w.heap[b]? := h.block b hb (fun e => hne e.symm)

/-- A world in which the box holds these two slices. -/
structure Boxed (w : World) (rb : Nat) (vF vC : Value) (m n : Nat) (xs ys : List Value) (v1 v2 : Value) (U : World) : Prop where
  box : U.heap[rb]? = some (.cells #[v1, v2] 44 (0, 0))
  fs : U.ownsRow (rb + 1) 23 4 v1 m xs
  cs : U.ownsRow (rb + 1) 3 1 v2 n ys
  turned : Turned (RMine rb vF vC) w U
  mine : ∀ b, RMine rb v1 v2 b → RMine rb vF vC b ∨ w.heap.size ≤ b

theorem new_keys {R : List Pl} (ha : R.Pairwise fun q r => ¬ (q.p = r.p ∧ q.c = r.c)) {p c : Int} (hno : ∀ (j : Nat) q, R[j]? = some q → ¬ (q.p = p ∧ q.c = c)) : (R ++ [(⟨p, c, 0, 0, -1, 0⟩ : Pl)]).Pairwise fun q r => ¬ (q.p = r.p ∧ q.c = r.c) := by
  rw [List.pairwise_append]
  refine ⟨ha, by simp, fun a ha2 b hb => ?_⟩
  obtain rfl := List.mem_singleton.1 hb
  obtain ⟨j, hj⟩ := List.mem_iff_getElem?.1 ha2
  exact hno j a hj

set_option maxRecDepth 100000 in
set_option maxHeartbeats 2000000 in
theorem find_any (rb : Nat) (vF vC : Value) (R : List Pl) (p c : Int) (hp : fits p) (hc : fits c) (w : World) (h : RefAt w rb vF vC R) (hlen : R.length ≤ 4000000000000) :
    Calls Try.prog 31 #[.pointer (some ⟨rb, 0, none⟩), .int .i64 p, .int .i64 c] w (FindDone w rb vF vC R p c) := by
  obtain ⟨x0, x1, f0, f1, hrb⟩ := refs_box h.box
  obtain ⟨pF, capF, rfl, hcF, hnF, -⟩ := own_slice h.fs
  obtain ⟨pC, capC, rfl, hcC, hnC, -⟩ := own_slice h.cs
  obtain ⟨i0, hi0, hz0, hz1, hz2⟩ := info_parts infoFeed
  obtain ⟨j0, hj0, hy0, hy1, hy2⟩ := info_parts infoInt
  obtain ⟨n, hn⟩ : ∃ n, R.length = n := ⟨_, rfl⟩
  have HI := hide (And.intro hn (And.intro h (And.intro hp hc)))
  rw [hn] at hlen hcF hcC x0 x1 ⊢
  clear hn h hp hc
  go_enter Try.func31, Try.ntmps31
  go_wp2
  go_loop [7] (fun c7 => ∃ k : Nat, k ≤ n ∧ c7 = .int .i64 k ∧ ∀ (j : Nat) q, j < k → R[j]? = some q → ¬ (q.p = p ∧ q.c = c)) (fun c7 => n - (intOf c7).toNat)
  case atStart => exact ⟨0, Nat.zero_le _, rfl, fun j q hj => by omega⟩
  case round =>
    obtain ⟨k, hk, rfl, hno⟩ := hrel
    by_cases hlt : k < n
    · obtain ⟨hn, h, -, -⟩ := HI.out
      obtain ⟨g, cap, e1, -, hgl, -, hrow⟩ := h.rowF (by omega)
      cases e1
      obtain ⟨q, hq⟩ : ∃ q, R[k]? = some q := ⟨_, List.getElem?_eq_getElem (by omega)⟩
      obtain ⟨y0, y1, -, -⟩ := hrow k q hq
      have hlt' : (k : Int) < n := by omega
      have hk0 : (0 : Int) ≤ k := by omega
      obtain ⟨qp, qc, qb, qm, qk, qt⟩ := q
      dsimp only at y0 y1
      have HQ := hide (And.intro hq (And.intro hno h))
      clear hrow h hn hq hno
      by_cases e1 : qp = p
      · subst e1
        by_cases e2 : qc = c
        · subst e2
          go_wp2
          go_ret
          obtain ⟨hq, hno, h⟩ := HQ.out
          refine ⟨_, _, R, k, _, rfl, ?_, hq, rfl, rfl, fun _ _ => rfl, by omega, ?_, fun b hb => .inl hb⟩
          · rw [← HI.out.1]; rw [← HI.out.1] at *; exact h
          · exact Turned.refl _ _
        · go_wp2
          refine ⟨⟨k + 1, by omega, by go_num, fun j q hj hjq => ?_⟩, by simp [intOf]; omega⟩
          by_cases e3 : j = k
          · subst e3; rw [HQ.out.1] at hjq; cases hjq; exact fun e => e2 e.2
          · exact HQ.out.2.1 j q (by omega) hjq
      · go_wp2
        refine ⟨⟨k + 1, by omega, by go_num, fun j q hj hjq => ?_⟩, by simp [intOf]; omega⟩
        by_cases e3 : j = k
        · subst e3; rw [HQ.out.1] at hjq; cases hjq; exact fun e => e1 e.1
        · exact HQ.out.2.1 j q (by omega) hjq
    · have hkn : k = n := by omega
      subst hkn
      obtain ⟨hn, h, hp, hc⟩ := HI.out
      have hfs := h.fs
      have hcs := h.cs
      rw [hn] at hfs hcs
      have HQ := hide (And.intro hno (And.intro h (And.intro hn (And.intro hp (And.intro hc (And.intro hfs hcs))))))
      have hbox := h.box
      rw [hn] at hbox
      clear hno h hn hp hc
      go_upto_region 7 with (at_builtin; refine wpList_append_own_at _ rfl (.tmp 44) (.tmp 48) 35 rfl (rb + 1) 23 i0 _ 4 32 Try.underlying35 hi0 hz0 hz1 hz2 rfl (by decide) _ k ((R.map Pl.fd).flatMap encF) rfl (hfs.alloc _) ⟨w.heap.size, 0, none⟩ 1 1 [.int .i64 p, .int .i64 c, .int .i64 0, .int .i64 (-1)] rfl rfl (newc _ _ _) (fun u hu => by simp at hu; rcases hu with rfl | rfl | rfl | rfl <;> rfl) (by simp only [maxLen]; omega) (by omega) (by rw [Deep.nblk_alloc]; omega) ?_; intro v1 w3 hown1 hgrow1 hnn1 hob1; obtain ⟨p1, cap1, rfl, hcap1, -, -⟩ := own_slice hown1; have hbx := (grown_below hgrow1 (b := rb) (by rw [Deep.nblk_alloc]; omega) (fun e => by have := (own_block hfs e).1; omega)).trans ((Below.heap_alloc _ _ _ hrb).trans hbox); obtain ⟨z0, z1, g0, g1, hrb3⟩ := refs_box hbx)
      have hA := app_fs hbox hfs hcs ((Below.refl _ _).alloc (Nat.le_refl _) _) hgrow1 hown1 hob1
      refine genF (Boxed w rb (.slice pF k capF) (.slice pC k capC) (k + 1) k _ _ (.slice p1 (k + 1) cap1) (.slice pC k capC)) ⟨hA.1, hA.2.1, hA.2.2.1, hA.2.2.2.1, hA.2.2.2.2⟩ ?_
      rintro U ⟨hbox2, hfs2, hcs2, hT2, hM2⟩
      have HQ2 := hide (And.intro hfs2 (And.intro hT2 hM2))
      obtain ⟨z0, z1, g0, g1, hrb3⟩ := refs_box hbox2
      have hU := hT2.size
      clear hA hown1 hgrow1 hnn1 hob1 hfs2 hT2 hM2 hbox hfs hcs x0 x1 f0 f1 hbx
      go_upto_region 8 with (at_builtin; refine wpList_append_own_at _ rfl (.tmp 56) (.tmp 57) 27 rfl (rb + 1) 3 j0 _ 1 8 Try.underlying27 hj0 hy0 hy1 hy2 rfl (by decide) _ k (R.map Pl.cnt) rfl (hcs2.alloc _) ⟨U.heap.size, 0, none⟩ 1 1 [.int .i64 0] rfl rfl (newc _ _ _) (fun u hu => by simp at hu; subst hu; rfl) (by simp only [maxLen]; omega) (by omega) (by rw [Deep.nblk_alloc]; omega) ?_; intro v2 w5 hown2 hgrow2 hnn2 hob2; obtain ⟨p2, cap2, rfl, hcap2, -, -⟩ := own_slice hown2; have hbx2 := (grown_below hgrow2 (b := rb) (by rw [Deep.nblk_alloc]; omega) (fun e => by have := (own_block hcs2 e).1; omega)).trans ((Below.heap_alloc _ _ _ hrb3).trans hbox2); obtain ⟨s0, s1, t0, t1, hrb4⟩ := refs_box hbx2)
      have hA2 := app_cs hbox2 HQ2.out.1 hcs2 ((Below.refl _ _).alloc (Nat.le_refl _) _) hgrow2 hown2 hob2
      refine genF (Boxed U rb (.slice p1 (k + 1) cap1) (.slice pC k capC) (k + 1) (k + 1) _ _ (.slice p1 (k + 1) cap1) (.slice p2 (k + 1) cap2)) ⟨hA2.1, hA2.2.1, hA2.2.2.1, hA2.2.2.2.1, hA2.2.2.2.2⟩ ?_
      rintro U2 ⟨hbox3, hfs3, hcs3, hT3, hM3⟩
      have HQ3 := hide (And.intro hfs3 (And.intro hcs3 (And.intro hT3 (And.intro hM3 hbox3))))
      obtain ⟨z0, z1, g0, g1, hrb3⟩ := refs_box hbox3
      clear hA2 hown2 hgrow2 hnn2 hob2 hfs3 hcs3 hT3 hM3 hbox2 hcs2 hbx2 hbox3
      go_wp2
      go_ret
      obtain ⟨hno, h, hn, hp, hc, -, -⟩ := HQ.out
      obtain ⟨-, hT2, hM2⟩ := HQ2.out
      obtain ⟨hfs3, hcs3, hT3, hM3, hbox3⟩ := HQ3.out
      refine ⟨_, _, R ++ [⟨p, c, 0, 0, -1, 0⟩], k, ⟨p, c, 0, 0, -1, 0⟩, ?_, ⟨hbox3, ?_, ?_, new_keys h.keys (fun j q hq => hno j q (by rw [← hn]; exact (List.getElem?_eq_some_iff.1 hq).1) hq), ?_⟩, ?_, rfl, rfl, tv_snoc, by simp, hT2.trans hT3 hM2, fun b hb => ?_⟩
      · exact congrArg (fun z => Ending.returned (.int .i64 z)) (by omega)
      · rw [List.map_append, List.flatMap_append, List.length_append, hn]
        exact hfs3
      · rw [List.map_append, List.length_append, hn]
        exact hcs3
      · intro q hq
        rcases List.mem_append.1 hq with hq | hq
        · exact h.fit q hq
        · rw [List.mem_singleton.1 hq]; exact ⟨hp, hc⟩
      · rw [List.getElem?_append_right (by omega), hn, Nat.sub_self]; rfl
      · rcases hM3 b hb with e | e
        · exact hM2 b e
        · have := hT2.size; exact .inr (by omega)

end Go.Proofs.Ytmgafcbhoamkkaa
