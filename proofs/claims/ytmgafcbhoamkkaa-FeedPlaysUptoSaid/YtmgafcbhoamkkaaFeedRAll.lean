/-
  The walk of the document's table's All: the feeds that say something, rising.
-/
import Derived.Test.YtmgafcbhoamkkaaFeedFind
import Derived.BigRegion
import Derived.BigQuiet
import Derived.LoopTactic
import Derived.Outline
namespace Go.Proofs.Ytmgafcbhoamkkaa
open Go.RowKit Go.ChangeMaps
set_option linter.unusedSimpArgs false

theorem ins_sorted {pre post : List F} {x : F} (h : (pre ++ post).Pairwise ltF) (h1 : ∀ y ∈ post, ltF x y) (h2 : ∀ pre' y, pre = pre' ++ [y] → ltF y x) : (pre ++ x :: post).Pairwise ltF := by
  rw [List.pairwise_append] at h ⊢
  obtain ⟨a1, a2, a3⟩ := h
  refine ⟨a1, List.pairwise_cons.2 ⟨h1, a2⟩, fun a ha b hb => ?_⟩
  rcases List.mem_cons.1 hb with rfl | hb
  · rcases List.eq_nil_or_concat pre with rfl | ⟨pre', y, rfl⟩
    · cases ha
    · rw [List.concat_eq_append] at ha a1 h2
      have hy := h2 pre' y rfl
      rcases List.mem_append.1 ha with ha | ha
      · exact ltF_tr _ _ _ ((List.pairwise_append.1 a1).2.2 a ha y (by simp)) hy
      · rw [List.mem_singleton.1 ha]; exact hy
  · exact a3 a ha b hb

theorem not_lt {x y : F} (h : ¬ ltF x y) (hk : ¬ (x.1 = y.1 ∧ x.2.1 = y.2.1)) : ltF y x := by unfold ltF at *; omega

/-- An own row of feeds, at a place. -/
theorem row_at {w : World} {B g cap n : Nat} {l : List F} (h : w.ownsRow B 23 4 (.slice (some ⟨g, 0, none⟩) n cap) n (l.flatMap encF)) : g < w.heap.size ∧ B ≤ g ∧ n ≤ cap ∧ (∀ o, w.frozen? ⟨g, o, none⟩ = false) ∧
    ∀ i q, l[i]? = some q → w.cell? ⟨g, i * 4, none⟩ = some (.int .i64 q.1) ∧ w.cell? ⟨g, i * 4 + 1, none⟩ = some (.int .i64 q.2.1) ∧ w.cell? ⟨g, i * 4 + 2, none⟩ = some (.int .i64 q.2.2.1) ∧ w.cell? ⟨g, i * 4 + 3, none⟩ = some (.int .i64 q.2.2.2) := by
  have hn : l.length * 4 = n * 4 := by rw [← flat4_len]; exact h.1
  rcases h.2 with ⟨h1, -⟩ | ⟨g', cap', cur, e1, h2, h3, h4, h5, h6, h7⟩
  · cases h1
  · cases e1
    refine ⟨lt_of_heap h3, h2, h4, fun o => by simp [World.frozen?, h3], fun i q hi => ?_⟩
    have hil : i < l.length := (List.getElem?_eq_some_iff.1 hi).1
    have e : ∀ j u, j < 4 → (encF q)[j]? = some u → w.cell? ⟨g, i * 4 + j, none⟩ = some u := fun j u hj hu => by
      have e1 := flat4_get l i q hi j hj
      rw [hu, ← h7, List.getElem?_take, if_pos (by omega), Array.getElem?_toList] at e1
      simp [World.cell?, h3, e1]
    exact ⟨e 0 _ (by omega) rfl, e 1 _ (by omega) rfl, e 2 _ (by omega) rfl, e 3 _ (by omega) rfl⟩

/-- A feed of an own row is written. -/
def put4 (w : World) (g i : Nat) (x : F) : World := (((w.setCell ⟨g, i * 4, none⟩ (.int .i64 x.1)).setCell ⟨g, i * 4 + 1, none⟩ (.int .i64 x.2.1)).setCell ⟨g, i * 4 + 2, none⟩ (.int .i64 x.2.2.1)).setCell ⟨g, i * 4 + 3, none⟩ (.int .i64 x.2.2.2)
theorem row_put {w : World} {B g cap n : Nat} {l : List F} (h : w.ownsRow B 23 4 (.slice (some ⟨g, 0, none⟩) n cap) n (l.flatMap encF)) {i : Nat} (hi : i < l.length) (x : F) :
    (put4 w g i x).ownsRow B 23 4 (.slice (some ⟨g, 0, none⟩) n cap) n ((l.set i x).flatMap encF) := by
  have h2 := own_set (own_set (own_set (own_set h (i * 4) (.int .i64 x.1)) (i * 4 + 1) (.int .i64 x.2.1)) (i * 4 + 2) (.int .i64 x.2.2.1)) (i * 4 + 3) (.int .i64 x.2.2.2)
  rw [flat_set _ _ _ _ _ _ hi] at h2
  exact h2
theorem own_drew {w : World} {B : Nat} {e : TypeId} {s n : Nat} {v : Value} {xs : List Value} (h : w.ownsRow B e s v n xs) : w.drew.ownsRow B e s v n xs := own_kept h fun _ _ => rfl
theorem below_put {w0 w : World} {B g : Nat} (h : Below B w0 w) (hg : B ≤ g) (i : Nat) (x : F) : Below B w0 (put4 w g i x) :=
  (((h.setCell (p := ⟨g, i * 4, none⟩) hg _).setCell (p := ⟨g, i * 4 + 1, none⟩) hg _).setCell (p := ⟨g, i * 4 + 2, none⟩) hg _).setCell (p := ⟨g, i * 4 + 3, none⟩) hg _

theorem set_swap (pre : List F) (y x : F) (post : List F) : ((pre ++ y :: x :: post).set (pre.length + 1) y).set pre.length x = pre ++ x :: y :: post := by
  rw [List.set_append_right _ _ (by omega), List.set_append_right _ _ (by omega)]
  rw [show pre.length + 1 - pre.length = 1 from by omega, Nat.sub_self]
  rfl

def RAllDone (w : World) (R : List Pl) (e : Ending) (w' : World) : Prop := ∃ v l, e = .returned v ∧ FdR w' v l ∧ l.Perm (got R) ∧ l.Pairwise ltF ∧ Below w.heap.size w w'

theorem got_take (R : List Pl) (i : Nat) (q : Pl) (hq : R[i]? = some q) : got (R.take (i + 1)) = got (R.take i) ++ if live q then [q.fd] else [] := by
  obtain ⟨hi, rfl⟩ := List.getElem?_eq_some_iff.1 hq
  rw [List.take_succ_eq_append_getElem hi, got_snoc]

theorem own_fd {w : World} {B : Nat} {v : Value} {l : List F} (h : w.ownsRow B 23 4 v l.length (l.flatMap encF)) (hlen : l.length ≤ 4398046511104) : FdR w v l := by
  obtain ⟨p, cap, rfl, -, -, hp⟩ := own_slice h
  refine ⟨p, cap, rfl, hlen, fun h0 => ?_⟩
  obtain ⟨g, rfl, hg⟩ := hp h0
  obtain ⟨-, -, -, -, hr⟩ := row_at h
  refine ⟨g, 0, rfl, hg, fun i x hi j u hj => ?_⟩
  obtain ⟨r0, r1, r2, r3⟩ := hr i x hi
  rw [Nat.zero_add]
  match j, hj with
  | 0, hj => cases hj; exact r0
  | 1, hj => cases hj; exact r1
  | 2, hj => cases hj; exact r2
  | 3, hj => cases hj; exact r3
  | j + 4, hj => simp [encF] at hj

set_option maxRecDepth 100000 in
set_option maxHeartbeats 20000000 in
theorem rAll_any (rb : Nat) (vF vC : Value) (R : List Pl) (w : World) (h : RefAt w rb vF vC R) (hlen : R.length ≤ 4000000000000) :
    Calls Try.prog 23 #[.pointer (some ⟨rb, 0, none⟩)] w (RAllDone w R) := by
  obtain ⟨z0, z1, f0, f1, hrb⟩ := refs_box h.box
  obtain ⟨pF, capF, rfl, hcF, hnF, -⟩ := own_slice h.fs
  obtain ⟨i0, hi0, hz0, hz1, hz2⟩ := info_parts infoFeed
  obtain ⟨n, hn⟩ : ∃ n, R.length = n := ⟨_, rfl⟩
  have HI := hide (And.intro hn h)
  rw [hn] at hlen hcF z0
  clear hn h
  go_enter Try.func23, Try.ntmps23
  go_wp2
  go_loopw [3, 4] (fun c3 c4 wr => ∃ (i : Nat) (S : List F), i ≤ n ∧ c4 = .int .i64 i ∧ wr.ownsRow w.heap.size 23 4 c3 S.length (S.flatMap encF) ∧ S.Perm (got (R.take i)) ∧ S.Pairwise ltF ∧ Below w.heap.size w wr) (fun _ c4 _ => n - (intOf c4).toNat)
  case atStart => exact ⟨0, [], Nat.zero_le _, rfl, World.ownsRow_nil _ _ _ _, by rw [List.take_zero]; exact List.Perm.refl _, List.Pairwise.nil, Below.refl _ _⟩
  case round =>
    obtain ⟨i, S, hin, rfl, hown, hperm, hsort, hb⟩ := hrel
    have z0' := (hb.cell (p := ⟨rb, 0, none⟩) hrb).trans z0
    have hrb' := Nat.lt_of_lt_of_le hrb hb.size
    by_cases hlt : i < n
    · obtain ⟨hn, h⟩ := HI.out
      obtain ⟨g, cap, e1, -, hgl, -, hrow⟩ := h.rowF (by omega)
      cases e1
      obtain ⟨q, hq⟩ : ∃ q, R[i]? = some q := ⟨_, List.getElem?_eq_getElem (by omega)⟩
      obtain ⟨y0, y1, y2, y3⟩ := hrow i q hq
      have y0 := (hb.cell (p := ⟨g, i * 4, none⟩) hgl).trans y0
      have y1 := (hb.cell (p := ⟨g, i * 4 + 1, none⟩) hgl).trans y1
      have y2 := (hb.cell (p := ⟨g, i * 4 + 2, none⟩) hgl).trans y2
      have y3 := (hb.cell (p := ⟨g, i * 4 + 3, none⟩) hgl).trans y3
      have hlt' : (i : Int) < n := by omega
      have hi0' : (0 : Int) ≤ i := by omega
      have hgt := got_take R i q hq
      have hap : ApartF (got (R.take (i + 1))) := got_apart (h.keys.sublist (List.take_sublist _ _))
      have hSl : S.length ≤ i := by
        have := hperm.length_eq
        have h2 : (got (R.take i)).length ≤ (R.take i).length := by unfold got; rw [List.length_map]; exact List.length_filter_le _ _
        rw [List.length_take] at h2
        omega
      have HQ := hide (And.intro hown (And.intro hperm (And.intro hsort (And.intro hb (And.intro hgt hap)))))
      obtain ⟨x0, x1, qb, x2, x3, qt⟩ := q
      dsimp only at y0 y1 y2 y3
      clear hrow h hn hq hown hperm hsort hb hgt hap
      go_upto_region 6 with fail
      refine genF (fun U => U.heap[wr.heap.size]? = some (.cells #[.int .i64 x0, .int .i64 x1, .int .i64 x2, .int .i64 x3] 23 (0, 0)) ∧ Below wr.heap.size wr U) ⟨heap_alloc_new wr _, (Below.refl _ _).alloc (Nat.le_refl _) _⟩ ?_
      rintro U ⟨hbox, hbU⟩
      obtain ⟨u0, u1, u2, u3, hul⟩ := cells4 hbox
      have HU := hide hbU
      clear hbU hbox y0 y1 y2 y3 z0'
      by_cases hdead : x2 = 0 ∧ x3 = -1
      · obtain ⟨rfl, rfl⟩ := hdead
        go_wp2
        obtain ⟨hown, hperm, hsort, hb, hgt, hap⟩ := HQ.out
        have hd : live ⟨x0, x1, qb, 0, -1, qt⟩ = false := by simp [live]
        rw [hd, if_neg (by simp), List.append_nil] at hgt
        exact ⟨⟨i + 1, S, by omega, by go_num, own_below hown HU.out, by rw [hgt]; exact hperm, hsort, hb.trans (HU.out.mono hb.size)⟩, by simp [intOf]; omega⟩
      · have hl : live ⟨x0, x1, qb, x2, x3, qt⟩ = true := by
          unfold live
          cases hl : (x2 == 0 && x3 == -1)
          · simp [hl]
          · rw [Bool.and_eq_true, beq_iff_eq, beq_iff_eq] at hl
            exact absurd hl hdead
        have hownU := own_below HQ.out.1 HU.out
        have hszU := HQ.out.2.2.2.1.size
        have hszU2 := HU.out.size
        rcases (show x2 ≠ 0 ∨ (x2 = 0 ∧ x3 ≠ -1) by omega) with e1 | ⟨rfl, e2⟩
        · skip
          go_upto_region 8 with (at_builtin; refine wpList_append_own_at _ rfl (.tmp 31) (.tmp 33) 35 rfl w.heap.size 23 i0 _ 4 32 Try.underlying35 hi0 hz0 hz1 hz2 rfl (by decide) _ S.length (S.flatMap encF) rfl (hownU.alloc _) ⟨U.heap.size, 0, none⟩ 1 1 [.int .i64 x0, .int .i64 x1, .int .i64 x2, .int .i64 x3] rfl rfl (newc _ _ _) (fun u hu => by simp at hu; rcases hu with rfl | rfl | rfl | rfl <;> rfl) (by simp only [maxLen]; omega) (by omega) (by rw [Deep.nblk_alloc]; omega) ?_; intro v1 w3 hown1 hgrow1 hnn1 hob1; obtain ⟨p1, cap1, rfl, hcap1, -, hp1⟩ := own_slice hown1; obtain ⟨g1, rfl, hg1⟩ := hp1 (by omega))
          have hb3 := below_own (((HQ.out.2.2.2.1.trans (HU.out.mono HQ.out.2.2.2.1.size)).alloc (by omega) (.cells ⟨[.int .i64 x0, .int .i64 x1, .int .i64 x2, .int .i64 x3]⟩ 23))) hgrow1 (hownU.alloc _) (by rw [Deep.nblk_alloc]; omega)
          have HM0 := hide (And.intro (show w3.ownsRow w.heap.size 23 4 (.slice (some ⟨g1, 0, none⟩) (S.length + 1) cap1) (S.length + 1) ((S ++ [(x0, x1, x2, x3)]).flatMap encF) by rw [List.flatMap_append]; exact hown1) hb3)
          obtain ⟨m, hm⟩ : ∃ m, S.length = m := ⟨_, rfl⟩
          rw [hm] at HM0 hcap1 hSl ⊢
          have HMM := hide hm
          clear hown1 hgrow1 hnn1 hob1 hb3 hownU u0 u1 u2 u3 hm
          go_wp2
          go_loopw [6] (fun c6 wx => ∃ (pre post : List F), c6 = .int .i64 (pre.length : Nat) ∧ wx.ownsRow w.heap.size 23 4 (.slice (some ⟨g1, 0, none⟩) (m + 1) cap1) (m + 1) ((pre ++ (x0, x1, x2, x3) :: post).flatMap encF) ∧ pre ++ post = S ∧ (∀ y ∈ post, ltF (x0, x1, x2, x3) y) ∧ Below w.heap.size w wx) (fun c6 _ => (intOf c6).toNat)
          case atStart => exact ⟨S, [], by rw [HMM.out], HM0.out.1, List.append_nil _, (fun y hy => nomatch hy), HM0.out.2⟩
          case round =>
            clear HM0
            obtain ⟨pre, post, rfl, hownM, hpp, hpost, hbM⟩ := hrel
            have hlen2 : pre.length + post.length = m := by rw [← HMM.out, ← hpp, List.length_append]
            have HM := hide (And.intro hownM (And.intro hpp (And.intro hpost hbM)))
            rcases List.eq_nil_or_concat pre with rfl | ⟨pre', y, rfl⟩
            · clear hownM hpp hpost hbM
              go_upto_region 9 with fail
              refine wp_region_later (by kernel_rfl) (by kernel_rfl) ?_
              repeat (first
                | go_big_quiet_step (fail)
                | quiet_step (fail))
              refine wpQuiet_nil ?_
              rintro w2 ⟨⟨wz, hbz⟩, hwz⟩
              have hb3 : Below wr.heap.size wr w2 := by rw [hwz]; exact hbz
              clear hwz hbz wz
              have HB3 := hide hb3
              clear hb3
              go_wp2
              obtain ⟨hown, hpp, hpost, hb⟩ := HM.out
              obtain ⟨-, hperm, hsort, -, hgt, hap⟩ := HQ.out
              rw [if_pos hl] at hgt
              have hgt : got (R.take (i + 1)) = got (R.take i) ++ [(x0, x1, x2, x3)] := hgt
              have hS2 : ([] ++ (x0, x1, x2, x3) :: post).Perm (got (R.take (i + 1))) := by
                rw [hgt]
                exact (List.perm_middle.trans (List.Perm.cons _ (by rw [hpp]))).trans ((List.Perm.cons _ hperm).trans (List.perm_append_comm (l₁ := [_]) (l₂ := got (R.take i))))
              have hS3 : ([] ++ (x0, x1, x2, x3) :: post).length = m + 1 := by rw [List.length_append, List.length_cons]; simp at hlen2 ⊢; omega
              refine ⟨⟨i + 1, [] ++ (x0, x1, x2, x3) :: post, by omega, by go_num, by rw [hS3]; exact own_below hown HB3.out, hS2, ins_sorted (by rw [hpp]; exact hsort) hpost ?_, hb.trans (HB3.out.mono hb.size)⟩, by simp [intOf]; omega⟩
              intro pre' y e
              simp at e
            · rw [List.concat_eq_append] at *
              obtain ⟨k, hk⟩ : ∃ k, pre'.length = k := ⟨_, rfl⟩
              have hpl : ((pre' ++ [y]).length : Nat) = k + 1 := by rw [List.length_append, hk]; rfl
              rw [hpl] at hlen2 ⊢
              obtain ⟨hgl3, hgB, -, hfr3, hrow3⟩ := row_at hownM
              have hA := hrow3 k y (by rw [List.append_assoc, List.getElem?_append_right (by omega), hk, Nat.sub_self]; rfl)
              have hB := hrow3 (k + 1) (x0, x1, x2, x3) (by rw [List.getElem?_append_right (by omega), hpl, Nat.sub_self]; rfl)
              obtain ⟨y0, y1, y2, y3⟩ := y
              obtain ⟨a0, a1, a2, a3⟩ := hA
              obtain ⟨b0, b1, b2, b3⟩ := hB
              dsimp only at a0 a1 a2 a3 b0 b1 b2 b3
              have hkm : k + 1 < m + 1 := by omega
              clear hownM hpp hpost hbM hrow3 hpl
              have hpl2 : ((k + 1 : Nat) : Int) = (k : Int) + 1 := by omega
              rw [hpl2]
              have q0 : (0 : Int) ≤ (k : Int) := by omega
              have q1 : (0 : Int) < (k : Int) + 1 := by omega
              have q2 : (k : Int) + 1 < ((m + 1 : Nat) : Int) := by omega
              have q3 : (k : Int) < ((m + 1 : Nat) : Int) := by omega
              clear hpl2
              by_cases g0 : x0 < y0
              · skip
                go_upto_region 9 with fail
                refine wp_region_later (by kernel_rfl) (by kernel_rfl) ?_
                repeat (first
                  | go_big_quiet_step (fail)
                  | quiet_step (fail))
                refine wpQuiet_nil ?_
                rintro w2 ⟨⟨wz, hbz⟩, hwz⟩
                have hb3 : Below wr.heap.size wr w2 := by rw [hwz]; exact hbz
                clear hwz hbz wz
                have HB3 := hide hb3
                clear hb3
                clear a0 a1 a2 a3 b0 b1 b2 b3
                have hown3 := own_below HM.out.1 HB3.out
                obtain ⟨hgl4, -, -, hfr4, hrow4⟩ := row_at hown3
                obtain ⟨a0, a1, a2, a3⟩ := hrow4 k (y0, y1, y2, y3) (by rw [List.append_assoc, List.getElem?_append_right (by omega), hk, Nat.sub_self]; rfl)
                obtain ⟨b0, b1, b2, b3⟩ := hrow4 (k + 1) (x0, x1, x2, x3) (by rw [List.getElem?_append_right (by simp; omega)]; simp [hk])
                dsimp only at a0 a1 a2 a3 b0 b1 b2 b3
                have fA0 := hfr4 (k * 4)
                have fA1 := hfr4 (k * 4 + 1)
                have fA2 := hfr4 (k * 4 + 2)
                have fA3 := hfr4 (k * 4 + 3)
                have fB0 := hfr4 ((k + 1) * 4)
                have fB1 := hfr4 ((k + 1) * 4 + 1)
                have fB2 := hfr4 ((k + 1) * 4 + 2)
                have fB3 := hfr4 ((k + 1) * 4 + 3)
                have HR3 := hide hown3
                clear hown3 hfr4 hrow4
                go_upto_region 11 with fail
                go_region
                have hset : (((pre' ++ [(y0, y1, y2, y3)]) ++ (x0, x1, x2, x3) :: post).set (k + 1) (y0, y1, y2, y3)).set k (x0, x1, x2, x3) = pre' ++ (x0, x1, x2, x3) :: (y0, y1, y2, y3) :: post := by
                  rw [List.append_assoc, ← hk]; exact set_swap pre' (y0, y1, y2, y3) (x0, x1, x2, x3) post
                have hR4 := row_put (row_put HR3.out (i := k + 1) (by simp [hk]) (y0, y1, y2, y3)) (i := k) (by simp [hk] <;> omega) (x0, x1, x2, x3)
                rw [hset] at hR4
                have hR5 := own_drew hR4
                have hB4 := (below_put (below_put (HM.out.2.2.2.trans (HB3.out.mono HM.out.2.2.2.size)) hgB (k + 1) (y0, y1, y2, y3)) hgB k (x0, x1, x2, x3)).drew
                dsimp only [put4] at hR5 hB4
                have HR4 := hide hR5
                have HB4 := hide hB4
                clear hR4 hR5 hB4
                clear a0 a1 a2 a3 b0 b1 b2 b3 fA0 fA1 fA2 fA3 fB0 fB1 fB2 fB3
                go_wp2
                refine ⟨⟨pre', (y0, y1, y2, y3) :: post, by first | (rw [hk]; done) | (rw [hk]; go_num), HR4.out, by rw [← HM.out.2.1, List.append_assoc]; rfl, fun z hz => ?_, HB4.out⟩, by first | (simp [intOf]; done) | (simp [intOf]; omega)⟩
                rcases List.mem_cons.1 hz with rfl | hz
                · exact (.inl g0)
                · exact HM.out.2.2.1 z hz
              · by_cases g2 : x0 = y0
                · subst g2
                  by_cases g3 : x1 < y1
                  · skip
                    go_upto_region 9 with fail
                    refine wp_region_later (by kernel_rfl) (by kernel_rfl) ?_
                    repeat (first
                      | go_big_quiet_step (fail)
                      | quiet_step (fail))
                    refine wpQuiet_nil ?_
                    rintro w2 ⟨⟨wz, hbz⟩, hwz⟩
                    have hb3 : Below wr.heap.size wr w2 := by rw [hwz]; exact hbz
                    clear hwz hbz wz
                    have HB3 := hide hb3
                    clear hb3
                    clear a0 a1 a2 a3 b0 b1 b2 b3
                    have hown3 := own_below HM.out.1 HB3.out
                    obtain ⟨hgl4, -, -, hfr4, hrow4⟩ := row_at hown3
                    obtain ⟨a0, a1, a2, a3⟩ := hrow4 k (x0, y1, y2, y3) (by rw [List.append_assoc, List.getElem?_append_right (by omega), hk, Nat.sub_self]; rfl)
                    obtain ⟨b0, b1, b2, b3⟩ := hrow4 (k + 1) (x0, x1, x2, x3) (by rw [List.getElem?_append_right (by simp; omega)]; simp [hk])
                    dsimp only at a0 a1 a2 a3 b0 b1 b2 b3
                    have fA0 := hfr4 (k * 4)
                    have fA1 := hfr4 (k * 4 + 1)
                    have fA2 := hfr4 (k * 4 + 2)
                    have fA3 := hfr4 (k * 4 + 3)
                    have fB0 := hfr4 ((k + 1) * 4)
                    have fB1 := hfr4 ((k + 1) * 4 + 1)
                    have fB2 := hfr4 ((k + 1) * 4 + 2)
                    have fB3 := hfr4 ((k + 1) * 4 + 3)
                    have HR3 := hide hown3
                    clear hown3 hfr4 hrow4
                    go_upto_region 11 with fail
                    go_region
                    have hset : (((pre' ++ [(x0, y1, y2, y3)]) ++ (x0, x1, x2, x3) :: post).set (k + 1) (x0, y1, y2, y3)).set k (x0, x1, x2, x3) = pre' ++ (x0, x1, x2, x3) :: (x0, y1, y2, y3) :: post := by
                      rw [List.append_assoc, ← hk]; exact set_swap pre' (x0, y1, y2, y3) (x0, x1, x2, x3) post
                    have hR4 := row_put (row_put HR3.out (i := k + 1) (by simp [hk]) (x0, y1, y2, y3)) (i := k) (by simp [hk] <;> omega) (x0, x1, x2, x3)
                    rw [hset] at hR4
                    have hR5 := own_drew hR4
                    have hB4 := (below_put (below_put (HM.out.2.2.2.trans (HB3.out.mono HM.out.2.2.2.size)) hgB (k + 1) (x0, y1, y2, y3)) hgB k (x0, x1, x2, x3)).drew
                    dsimp only [put4] at hR5 hB4
                    have HR4 := hide hR5
                    have HB4 := hide hB4
                    clear hR4 hR5 hB4
                    clear a0 a1 a2 a3 b0 b1 b2 b3 fA0 fA1 fA2 fA3 fB0 fB1 fB2 fB3
                    go_wp2
                    refine ⟨⟨pre', (x0, y1, y2, y3) :: post, by first | (rw [hk]; done) | (rw [hk]; go_num), HR4.out, by rw [← HM.out.2.1, List.append_assoc]; rfl, fun z hz => ?_, HB4.out⟩, by first | (simp [intOf]; done) | (simp [intOf]; omega)⟩
                    rcases List.mem_cons.1 hz with rfl | hz
                    · exact (.inr ⟨rfl, g3⟩)
                    · exact HM.out.2.2.1 z hz
                  · skip
                    go_upto_region 9 with fail
                    refine wp_region_later (by kernel_rfl) (by kernel_rfl) ?_
                    repeat (first
                      | go_big_quiet_step (fail)
                      | quiet_step (fail))
                    refine wpQuiet_nil ?_
                    rintro w2 ⟨⟨wz, hbz⟩, hwz⟩
                    have hb3 : Below wr.heap.size wr w2 := by rw [hwz]; exact hbz
                    clear hwz hbz wz
                    have HB3 := hide hb3
                    clear hb3
                    clear a0 a1 a2 a3 b0 b1 b2 b3
                    go_wp2
                    obtain ⟨hown, hpp, hpost, hb⟩ := HM.out
                    obtain ⟨-, hperm, hsort, -, hgt, hap⟩ := HQ.out
                    rw [if_pos hl] at hgt
                    have hgt : got (R.take (i + 1)) = got (R.take i) ++ [(x0, x1, x2, x3)] := hgt
                    have hS2 : ((pre' ++ [(x0, y1, y2, y3)]) ++ (x0, x1, x2, x3) :: post).Perm (got (R.take (i + 1))) := by
                      rw [hgt]
                      exact (List.perm_middle.trans (List.Perm.cons _ (by rw [hpp]))).trans ((List.Perm.cons _ hperm).trans (List.perm_append_comm (l₁ := [_]) (l₂ := got (R.take i))))
                    have hS3 : ((pre' ++ [(x0, y1, y2, y3)]) ++ (x0, x1, x2, x3) :: post).length = m + 1 := by simp only [List.length_append, List.length_cons, List.length_nil]; omega
                    refine ⟨⟨i + 1, (pre' ++ [(x0, y1, y2, y3)]) ++ (x0, x1, x2, x3) :: post, by omega, by go_num, by rw [hS3]; exact own_below hown HB3.out, hS2, ins_sorted (by rw [hpp]; exact hsort) hpost ?_, hb.trans (HB3.out.mono hb.size)⟩, by simp [intOf]; omega⟩
                    intro pre2 y2 e
                    obtain ⟨-, e⟩ := List.append_inj' e rfl
                    simp only [List.cons.injEq, and_true] at e
                    subst e
                    have hk3 : ApartF ((pre' ++ [(x0, y1, y2, y3)]) ++ (x0, x1, x2, x3) :: post) := (List.Perm.pairwise_iff (fun {a b} h e => h ⟨e.1.symm, e.2.symm⟩) hS2).2 hap
                    have hk4 := (List.pairwise_append.1 hk3).2.2 (x0, y1, y2, y3) (by simp) (x0, x1, x2, x3) (by simp)
                    exact not_lt (by unfold ltF; dsimp only; omega) (fun e => hk4 ⟨e.1.symm, e.2.symm⟩)
                · have g1 : (x0 == y0) = false := by simpa using g2
                  go_upto_region 9 with fail
                  refine wp_region_later (by kernel_rfl) (by kernel_rfl) ?_
                  repeat (first
                    | go_big_quiet_step (fail)
                    | quiet_step (fail))
                  refine wpQuiet_nil ?_
                  rintro w2 ⟨⟨wz, hbz⟩, hwz⟩
                  have hb3 : Below wr.heap.size wr w2 := by rw [hwz]; exact hbz
                  clear hwz hbz wz
                  have HB3 := hide hb3
                  clear hb3
                  clear a0 a1 a2 a3 b0 b1 b2 b3
                  go_wp2
                  obtain ⟨hown, hpp, hpost, hb⟩ := HM.out
                  obtain ⟨-, hperm, hsort, -, hgt, hap⟩ := HQ.out
                  rw [if_pos hl] at hgt
                  have hgt : got (R.take (i + 1)) = got (R.take i) ++ [(x0, x1, x2, x3)] := hgt
                  have hS2 : ((pre' ++ [(y0, y1, y2, y3)]) ++ (x0, x1, x2, x3) :: post).Perm (got (R.take (i + 1))) := by
                    rw [hgt]
                    exact (List.perm_middle.trans (List.Perm.cons _ (by rw [hpp]))).trans ((List.Perm.cons _ hperm).trans (List.perm_append_comm (l₁ := [_]) (l₂ := got (R.take i))))
                  have hS3 : ((pre' ++ [(y0, y1, y2, y3)]) ++ (x0, x1, x2, x3) :: post).length = m + 1 := by simp only [List.length_append, List.length_cons, List.length_nil]; omega
                  refine ⟨⟨i + 1, (pre' ++ [(y0, y1, y2, y3)]) ++ (x0, x1, x2, x3) :: post, by omega, by go_num, by rw [hS3]; exact own_below hown HB3.out, hS2, ins_sorted (by rw [hpp]; exact hsort) hpost ?_, hb.trans (HB3.out.mono hb.size)⟩, by simp [intOf]; omega⟩
                  intro pre2 y2 e
                  obtain ⟨-, e⟩ := List.append_inj' e rfl
                  simp only [List.cons.injEq, and_true] at e
                  subst e
                  have hk3 : ApartF ((pre' ++ [(y0, y1, y2, y3)]) ++ (x0, x1, x2, x3) :: post) := (List.Perm.pairwise_iff (fun {a b} h e => h ⟨e.1.symm, e.2.symm⟩) hS2).2 hap
                  have hk4 := (List.pairwise_append.1 hk3).2.2 (y0, y1, y2, y3) (by simp) (x0, x1, x2, x3) (by simp)
                  exact not_lt (by unfold ltF; dsimp only; omega) (fun e => hk4 ⟨e.1.symm, e.2.symm⟩)
        · skip
          go_upto_region 8 with (at_builtin; refine wpList_append_own_at _ rfl (.tmp 31) (.tmp 33) 35 rfl w.heap.size 23 i0 _ 4 32 Try.underlying35 hi0 hz0 hz1 hz2 rfl (by decide) _ S.length (S.flatMap encF) rfl (hownU.alloc _) ⟨U.heap.size, 0, none⟩ 1 1 [.int .i64 x0, .int .i64 x1, .int .i64 0, .int .i64 x3] rfl rfl (newc _ _ _) (fun u hu => by simp at hu; rcases hu with rfl | rfl | rfl | rfl <;> rfl) (by simp only [maxLen]; omega) (by omega) (by rw [Deep.nblk_alloc]; omega) ?_; intro v1 w3 hown1 hgrow1 hnn1 hob1; obtain ⟨p1, cap1, rfl, hcap1, -, hp1⟩ := own_slice hown1; obtain ⟨g1, rfl, hg1⟩ := hp1 (by omega))
          have hb3 := below_own (((HQ.out.2.2.2.1.trans (HU.out.mono HQ.out.2.2.2.1.size)).alloc (by omega) (.cells ⟨[.int .i64 x0, .int .i64 x1, .int .i64 0, .int .i64 x3]⟩ 23))) hgrow1 (hownU.alloc _) (by rw [Deep.nblk_alloc]; omega)
          have HM0 := hide (And.intro (show w3.ownsRow w.heap.size 23 4 (.slice (some ⟨g1, 0, none⟩) (S.length + 1) cap1) (S.length + 1) ((S ++ [(x0, x1, 0, x3)]).flatMap encF) by rw [List.flatMap_append]; exact hown1) hb3)
          obtain ⟨m, hm⟩ : ∃ m, S.length = m := ⟨_, rfl⟩
          rw [hm] at HM0 hcap1 hSl ⊢
          have HMM := hide hm
          clear hown1 hgrow1 hnn1 hob1 hb3 hownU u0 u1 u2 u3 hm
          go_wp2
          go_loopw [6] (fun c6 wx => ∃ (pre post : List F), c6 = .int .i64 (pre.length : Nat) ∧ wx.ownsRow w.heap.size 23 4 (.slice (some ⟨g1, 0, none⟩) (m + 1) cap1) (m + 1) ((pre ++ (x0, x1, 0, x3) :: post).flatMap encF) ∧ pre ++ post = S ∧ (∀ y ∈ post, ltF (x0, x1, 0, x3) y) ∧ Below w.heap.size w wx) (fun c6 _ => (intOf c6).toNat)
          case atStart => exact ⟨S, [], by rw [HMM.out], HM0.out.1, List.append_nil _, (fun y hy => nomatch hy), HM0.out.2⟩
          case round =>
            clear HM0
            obtain ⟨pre, post, rfl, hownM, hpp, hpost, hbM⟩ := hrel
            have hlen2 : pre.length + post.length = m := by rw [← HMM.out, ← hpp, List.length_append]
            have HM := hide (And.intro hownM (And.intro hpp (And.intro hpost hbM)))
            rcases List.eq_nil_or_concat pre with rfl | ⟨pre', y, rfl⟩
            · clear hownM hpp hpost hbM
              go_upto_region 9 with fail
              refine wp_region_later (by kernel_rfl) (by kernel_rfl) ?_
              repeat (first
                | go_big_quiet_step (fail)
                | quiet_step (fail))
              refine wpQuiet_nil ?_
              rintro w2 ⟨⟨wz, hbz⟩, hwz⟩
              have hb3 : Below wr.heap.size wr w2 := by rw [hwz]; exact hbz
              clear hwz hbz wz
              have HB3 := hide hb3
              clear hb3
              go_wp2
              obtain ⟨hown, hpp, hpost, hb⟩ := HM.out
              obtain ⟨-, hperm, hsort, -, hgt, hap⟩ := HQ.out
              rw [if_pos hl] at hgt
              have hgt : got (R.take (i + 1)) = got (R.take i) ++ [(x0, x1, 0, x3)] := hgt
              have hS2 : ([] ++ (x0, x1, 0, x3) :: post).Perm (got (R.take (i + 1))) := by
                rw [hgt]
                exact (List.perm_middle.trans (List.Perm.cons _ (by rw [hpp]))).trans ((List.Perm.cons _ hperm).trans (List.perm_append_comm (l₁ := [_]) (l₂ := got (R.take i))))
              have hS3 : ([] ++ (x0, x1, 0, x3) :: post).length = m + 1 := by rw [List.length_append, List.length_cons]; simp at hlen2 ⊢; omega
              refine ⟨⟨i + 1, [] ++ (x0, x1, 0, x3) :: post, by omega, by go_num, by rw [hS3]; exact own_below hown HB3.out, hS2, ins_sorted (by rw [hpp]; exact hsort) hpost ?_, hb.trans (HB3.out.mono hb.size)⟩, by simp [intOf]; omega⟩
              intro pre' y e
              simp at e
            · rw [List.concat_eq_append] at *
              obtain ⟨k, hk⟩ : ∃ k, pre'.length = k := ⟨_, rfl⟩
              have hpl : ((pre' ++ [y]).length : Nat) = k + 1 := by rw [List.length_append, hk]; rfl
              rw [hpl] at hlen2 ⊢
              obtain ⟨hgl3, hgB, -, hfr3, hrow3⟩ := row_at hownM
              have hA := hrow3 k y (by rw [List.append_assoc, List.getElem?_append_right (by omega), hk, Nat.sub_self]; rfl)
              have hB := hrow3 (k + 1) (x0, x1, 0, x3) (by rw [List.getElem?_append_right (by omega), hpl, Nat.sub_self]; rfl)
              obtain ⟨y0, y1, y2, y3⟩ := y
              obtain ⟨a0, a1, a2, a3⟩ := hA
              obtain ⟨b0, b1, b2, b3⟩ := hB
              dsimp only at a0 a1 a2 a3 b0 b1 b2 b3
              have hkm : k + 1 < m + 1 := by omega
              clear hownM hpp hpost hbM hrow3 hpl
              have hpl2 : ((k + 1 : Nat) : Int) = (k : Int) + 1 := by omega
              rw [hpl2]
              have q0 : (0 : Int) ≤ (k : Int) := by omega
              have q1 : (0 : Int) < (k : Int) + 1 := by omega
              have q2 : (k : Int) + 1 < ((m + 1 : Nat) : Int) := by omega
              have q3 : (k : Int) < ((m + 1 : Nat) : Int) := by omega
              clear hpl2
              by_cases g0 : x0 < y0
              · skip
                go_upto_region 9 with fail
                refine wp_region_later (by kernel_rfl) (by kernel_rfl) ?_
                repeat (first
                  | go_big_quiet_step (fail)
                  | quiet_step (fail))
                refine wpQuiet_nil ?_
                rintro w2 ⟨⟨wz, hbz⟩, hwz⟩
                have hb3 : Below wr.heap.size wr w2 := by rw [hwz]; exact hbz
                clear hwz hbz wz
                have HB3 := hide hb3
                clear hb3
                clear a0 a1 a2 a3 b0 b1 b2 b3
                have hown3 := own_below HM.out.1 HB3.out
                obtain ⟨hgl4, -, -, hfr4, hrow4⟩ := row_at hown3
                obtain ⟨a0, a1, a2, a3⟩ := hrow4 k (y0, y1, y2, y3) (by rw [List.append_assoc, List.getElem?_append_right (by omega), hk, Nat.sub_self]; rfl)
                obtain ⟨b0, b1, b2, b3⟩ := hrow4 (k + 1) (x0, x1, 0, x3) (by rw [List.getElem?_append_right (by simp; omega)]; simp [hk])
                dsimp only at a0 a1 a2 a3 b0 b1 b2 b3
                have fA0 := hfr4 (k * 4)
                have fA1 := hfr4 (k * 4 + 1)
                have fA2 := hfr4 (k * 4 + 2)
                have fA3 := hfr4 (k * 4 + 3)
                have fB0 := hfr4 ((k + 1) * 4)
                have fB1 := hfr4 ((k + 1) * 4 + 1)
                have fB2 := hfr4 ((k + 1) * 4 + 2)
                have fB3 := hfr4 ((k + 1) * 4 + 3)
                have HR3 := hide hown3
                clear hown3 hfr4 hrow4
                go_upto_region 11 with fail
                go_region
                have hset : (((pre' ++ [(y0, y1, y2, y3)]) ++ (x0, x1, 0, x3) :: post).set (k + 1) (y0, y1, y2, y3)).set k (x0, x1, 0, x3) = pre' ++ (x0, x1, 0, x3) :: (y0, y1, y2, y3) :: post := by
                  rw [List.append_assoc, ← hk]; exact set_swap pre' (y0, y1, y2, y3) (x0, x1, 0, x3) post
                have hR4 := row_put (row_put HR3.out (i := k + 1) (by simp [hk]) (y0, y1, y2, y3)) (i := k) (by simp [hk] <;> omega) (x0, x1, 0, x3)
                rw [hset] at hR4
                have hR5 := own_drew hR4
                have hB4 := (below_put (below_put (HM.out.2.2.2.trans (HB3.out.mono HM.out.2.2.2.size)) hgB (k + 1) (y0, y1, y2, y3)) hgB k (x0, x1, 0, x3)).drew
                dsimp only [put4] at hR5 hB4
                have HR4 := hide hR5
                have HB4 := hide hB4
                clear hR4 hR5 hB4
                clear a0 a1 a2 a3 b0 b1 b2 b3 fA0 fA1 fA2 fA3 fB0 fB1 fB2 fB3
                go_wp2
                refine ⟨⟨pre', (y0, y1, y2, y3) :: post, by first | (rw [hk]; done) | (rw [hk]; go_num), HR4.out, by rw [← HM.out.2.1, List.append_assoc]; rfl, fun z hz => ?_, HB4.out⟩, by first | (simp [intOf]; done) | (simp [intOf]; omega)⟩
                rcases List.mem_cons.1 hz with rfl | hz
                · exact (.inl g0)
                · exact HM.out.2.2.1 z hz
              · by_cases g2 : x0 = y0
                · subst g2
                  by_cases g3 : x1 < y1
                  · skip
                    go_upto_region 9 with fail
                    refine wp_region_later (by kernel_rfl) (by kernel_rfl) ?_
                    repeat (first
                      | go_big_quiet_step (fail)
                      | quiet_step (fail))
                    refine wpQuiet_nil ?_
                    rintro w2 ⟨⟨wz, hbz⟩, hwz⟩
                    have hb3 : Below wr.heap.size wr w2 := by rw [hwz]; exact hbz
                    clear hwz hbz wz
                    have HB3 := hide hb3
                    clear hb3
                    clear a0 a1 a2 a3 b0 b1 b2 b3
                    have hown3 := own_below HM.out.1 HB3.out
                    obtain ⟨hgl4, -, -, hfr4, hrow4⟩ := row_at hown3
                    obtain ⟨a0, a1, a2, a3⟩ := hrow4 k (x0, y1, y2, y3) (by rw [List.append_assoc, List.getElem?_append_right (by omega), hk, Nat.sub_self]; rfl)
                    obtain ⟨b0, b1, b2, b3⟩ := hrow4 (k + 1) (x0, x1, 0, x3) (by rw [List.getElem?_append_right (by simp; omega)]; simp [hk])
                    dsimp only at a0 a1 a2 a3 b0 b1 b2 b3
                    have fA0 := hfr4 (k * 4)
                    have fA1 := hfr4 (k * 4 + 1)
                    have fA2 := hfr4 (k * 4 + 2)
                    have fA3 := hfr4 (k * 4 + 3)
                    have fB0 := hfr4 ((k + 1) * 4)
                    have fB1 := hfr4 ((k + 1) * 4 + 1)
                    have fB2 := hfr4 ((k + 1) * 4 + 2)
                    have fB3 := hfr4 ((k + 1) * 4 + 3)
                    have HR3 := hide hown3
                    clear hown3 hfr4 hrow4
                    go_upto_region 11 with fail
                    go_region
                    have hset : (((pre' ++ [(x0, y1, y2, y3)]) ++ (x0, x1, 0, x3) :: post).set (k + 1) (x0, y1, y2, y3)).set k (x0, x1, 0, x3) = pre' ++ (x0, x1, 0, x3) :: (x0, y1, y2, y3) :: post := by
                      rw [List.append_assoc, ← hk]; exact set_swap pre' (x0, y1, y2, y3) (x0, x1, 0, x3) post
                    have hR4 := row_put (row_put HR3.out (i := k + 1) (by simp [hk]) (x0, y1, y2, y3)) (i := k) (by simp [hk] <;> omega) (x0, x1, 0, x3)
                    rw [hset] at hR4
                    have hR5 := own_drew hR4
                    have hB4 := (below_put (below_put (HM.out.2.2.2.trans (HB3.out.mono HM.out.2.2.2.size)) hgB (k + 1) (x0, y1, y2, y3)) hgB k (x0, x1, 0, x3)).drew
                    dsimp only [put4] at hR5 hB4
                    have HR4 := hide hR5
                    have HB4 := hide hB4
                    clear hR4 hR5 hB4
                    clear a0 a1 a2 a3 b0 b1 b2 b3 fA0 fA1 fA2 fA3 fB0 fB1 fB2 fB3
                    go_wp2
                    refine ⟨⟨pre', (x0, y1, y2, y3) :: post, by first | (rw [hk]; done) | (rw [hk]; go_num), HR4.out, by rw [← HM.out.2.1, List.append_assoc]; rfl, fun z hz => ?_, HB4.out⟩, by first | (simp [intOf]; done) | (simp [intOf]; omega)⟩
                    rcases List.mem_cons.1 hz with rfl | hz
                    · exact (.inr ⟨rfl, g3⟩)
                    · exact HM.out.2.2.1 z hz
                  · skip
                    go_upto_region 9 with fail
                    refine wp_region_later (by kernel_rfl) (by kernel_rfl) ?_
                    repeat (first
                      | go_big_quiet_step (fail)
                      | quiet_step (fail))
                    refine wpQuiet_nil ?_
                    rintro w2 ⟨⟨wz, hbz⟩, hwz⟩
                    have hb3 : Below wr.heap.size wr w2 := by rw [hwz]; exact hbz
                    clear hwz hbz wz
                    have HB3 := hide hb3
                    clear hb3
                    clear a0 a1 a2 a3 b0 b1 b2 b3
                    go_wp2
                    obtain ⟨hown, hpp, hpost, hb⟩ := HM.out
                    obtain ⟨-, hperm, hsort, -, hgt, hap⟩ := HQ.out
                    rw [if_pos hl] at hgt
                    have hgt : got (R.take (i + 1)) = got (R.take i) ++ [(x0, x1, 0, x3)] := hgt
                    have hS2 : ((pre' ++ [(x0, y1, y2, y3)]) ++ (x0, x1, 0, x3) :: post).Perm (got (R.take (i + 1))) := by
                      rw [hgt]
                      exact (List.perm_middle.trans (List.Perm.cons _ (by rw [hpp]))).trans ((List.Perm.cons _ hperm).trans (List.perm_append_comm (l₁ := [_]) (l₂ := got (R.take i))))
                    have hS3 : ((pre' ++ [(x0, y1, y2, y3)]) ++ (x0, x1, 0, x3) :: post).length = m + 1 := by simp only [List.length_append, List.length_cons, List.length_nil]; omega
                    refine ⟨⟨i + 1, (pre' ++ [(x0, y1, y2, y3)]) ++ (x0, x1, 0, x3) :: post, by omega, by go_num, by rw [hS3]; exact own_below hown HB3.out, hS2, ins_sorted (by rw [hpp]; exact hsort) hpost ?_, hb.trans (HB3.out.mono hb.size)⟩, by simp [intOf]; omega⟩
                    intro pre2 y2 e
                    obtain ⟨-, e⟩ := List.append_inj' e rfl
                    simp only [List.cons.injEq, and_true] at e
                    subst e
                    have hk3 : ApartF ((pre' ++ [(x0, y1, y2, y3)]) ++ (x0, x1, 0, x3) :: post) := (List.Perm.pairwise_iff (fun {a b} h e => h ⟨e.1.symm, e.2.symm⟩) hS2).2 hap
                    have hk4 := (List.pairwise_append.1 hk3).2.2 (x0, y1, y2, y3) (by simp) (x0, x1, 0, x3) (by simp)
                    exact not_lt (by unfold ltF; dsimp only; omega) (fun e => hk4 ⟨e.1.symm, e.2.symm⟩)
                · have g1 : (x0 == y0) = false := by simpa using g2
                  go_upto_region 9 with fail
                  refine wp_region_later (by kernel_rfl) (by kernel_rfl) ?_
                  repeat (first
                    | go_big_quiet_step (fail)
                    | quiet_step (fail))
                  refine wpQuiet_nil ?_
                  rintro w2 ⟨⟨wz, hbz⟩, hwz⟩
                  have hb3 : Below wr.heap.size wr w2 := by rw [hwz]; exact hbz
                  clear hwz hbz wz
                  have HB3 := hide hb3
                  clear hb3
                  clear a0 a1 a2 a3 b0 b1 b2 b3
                  go_wp2
                  obtain ⟨hown, hpp, hpost, hb⟩ := HM.out
                  obtain ⟨-, hperm, hsort, -, hgt, hap⟩ := HQ.out
                  rw [if_pos hl] at hgt
                  have hgt : got (R.take (i + 1)) = got (R.take i) ++ [(x0, x1, 0, x3)] := hgt
                  have hS2 : ((pre' ++ [(y0, y1, y2, y3)]) ++ (x0, x1, 0, x3) :: post).Perm (got (R.take (i + 1))) := by
                    rw [hgt]
                    exact (List.perm_middle.trans (List.Perm.cons _ (by rw [hpp]))).trans ((List.Perm.cons _ hperm).trans (List.perm_append_comm (l₁ := [_]) (l₂ := got (R.take i))))
                  have hS3 : ((pre' ++ [(y0, y1, y2, y3)]) ++ (x0, x1, 0, x3) :: post).length = m + 1 := by simp only [List.length_append, List.length_cons, List.length_nil]; omega
                  refine ⟨⟨i + 1, (pre' ++ [(y0, y1, y2, y3)]) ++ (x0, x1, 0, x3) :: post, by omega, by go_num, by rw [hS3]; exact own_below hown HB3.out, hS2, ins_sorted (by rw [hpp]; exact hsort) hpost ?_, hb.trans (HB3.out.mono hb.size)⟩, by simp [intOf]; omega⟩
                  intro pre2 y2 e
                  obtain ⟨-, e⟩ := List.append_inj' e rfl
                  simp only [List.cons.injEq, and_true] at e
                  subst e
                  have hk3 : ApartF ((pre' ++ [(y0, y1, y2, y3)]) ++ (x0, x1, 0, x3) :: post) := (List.Perm.pairwise_iff (fun {a b} h e => h ⟨e.1.symm, e.2.symm⟩) hS2).2 hap
                  have hk4 := (List.pairwise_append.1 hk3).2.2 (y0, y1, y2, y3) (by simp) (x0, x1, 0, x3) (by simp)
                  exact not_lt (by unfold ltF; dsimp only; omega) (fun e => hk4 ⟨e.1.symm, e.2.symm⟩)
    · have : i = n := by omega
      subst this
      have HQ := hide (And.intro hown (And.intro hperm (And.intro hsort hb)))
      clear hown hperm hsort hb
      go_wp2
      go_ret
      obtain ⟨hown, hperm, hsort, hb⟩ := HQ.out
      have hR : R.take i = R := by rw [← HI.out.1, List.take_length]
      rw [hR] at hperm
      have hle : (got R).length ≤ R.length := by unfold got; rw [List.length_map]; exact List.length_filter_le _ _
      exact ⟨_, S, rfl, own_fd hown (by have := hperm.length_eq; have := HI.out.1; omega), hperm, hsort, hb⟩

end Go.Proofs.Ytmgafcbhoamkkaa
