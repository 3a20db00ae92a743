/-
  The walks of See, the table's and the document's, over any slice of kinds: what they leave.
-/
import Derived.Test.YtmgafcbhoamkkaaFeedROps
import Derived.Test.YtmgafcbhoamkkaaFeedOpsR
import Derived.LoopTactic
namespace Go.Proofs.Ytmgafcbhoamkkaa
open Go.RowKit Go.ChangeMaps
set_option linter.unusedSimpArgs false

/-- A slice of ints whose block is one of Q. -/
def KsR (w : World) (Q : Nat → Prop) (v : Value) (ks : List Int) : Prop :=
  ∃ p c, v = .slice p ks.length c ∧ ks.length ≤ 17592186043904 ∧ (0 < ks.length → ∃ b o, p = some ⟨b, o, none⟩ ∧ Q b ∧ b < w.heap.size ∧ ∀ j, j < ks.length → w.cell? ⟨b, o + j, none⟩ = some (.int .i64 (ks.getD j 0)))

set_option maxRecDepth 100000 in
set_option maxHeartbeats 2000000 in
theorem sees_any (tb mb : Nat) (L : List Pl) (p c : Int) (ks : List Int) (hp : fits p) (hc : fits c) (w : World) (h : TabAt w tb mb L) {Q : Nat → Prop} {v : Value} (hv : KsR w Q v ks) (hQ : ∀ b, Q b → ¬ Mine mb L b) :
    Calls Try.prog 11 #[.pointer (some ⟨tb, 0, none⟩), .int .i64 p, .int .i64 c, v] w (SeeDone w tb mb L p c ks) := by
  obtain ⟨pv, cap, rfl, hlen, hkc⟩ := hv
  obtain ⟨n, hn⟩ : ∃ n, ks.length = n := ⟨_, rfl⟩
  rw [hn] at hlen hkc ⊢
  go_enter Try.func11, Try.ntmps11
  go_wp2_with (go_at_call 25; refine (place_any tb mb L p c hp hc w h).mono ?_; rintro e w1 ⟨L1, q, rfl, ht, hq, htv, hT, hM⟩)
  have hcell := ht.cells q (List.mem_of_find?_eq_some hq)
  have key := find_key hq
  have hk1 : 0 < n → ∃ b o, pv = some ⟨b, o, none⟩ ∧ b ≠ q.blk ∧ b < w1.heap.size ∧ ∀ j, j < n → w1.cell? ⟨b, o + j, none⟩ = some (.int .i64 (ks.getD j 0)) := fun h0 => by
    obtain ⟨b, o, rfl, hQb, hb, hcs⟩ := hkc h0
    refine ⟨b, o, rfl, fun e => ?_, Nat.lt_of_lt_of_le hb hT.size, fun j hj => ?_⟩
    · rcases hM q.blk (.inr ⟨q, List.mem_of_find?_eq_some hq, rfl⟩) with h1 | h1
      · exact hQ b hQb (e ▸ h1)
      · omega
    · rw [World.cell?_of_block (w := w) (hT.block b hb (hQ b hQb))]; exact hcs j hj
  obtain ⟨qp, qc, qb, qm, qk, qt⟩ := q
  dsimp only at key hk1
  obtain ⟨rfl, rfl⟩ := key
  have X : Hid (TabAt w1 tb mb L1 ∧ L1.find? (nameKey qp qc) = some ⟨qp, qc, qb, qm, qk, qt⟩ ∧ (∀ p' c', tv L1 p' c' = tv L p' c') ∧ Turned (Mine mb L) w w1 ∧ (∀ b, Mine mb L1 b → Mine mb L b ∨ w.heap.size ≤ b)) := ⟨ht, hq, htv, hT, hM⟩
  have HK := hide (And.intro hk1 hn)
  clear h ht hq htv hT hM hp hc hkc hQ hk1 hn
  go_loopw [17] (fun i wr => ∃ k : Nat, k ≤ n ∧ i = .int .i64 k ∧ wr.heap[qb]? = some (.cells #[.int .i64 qp, .int .i64 qc, .int .i64 (addKs qm (ks.take k)), .int .i64 qk, .int .i64 qt] 56 (0, 0)) ∧ Turned (fun b => b = qb) w1 wr)
    (fun i _ => n - (intOf i).toNat)
  case atStart => exact ⟨0, Nat.zero_le _, rfl, hcell, Turned.refl _ _⟩
  case round =>
    obtain ⟨k, hkl, rfl, hb, htw⟩ := hrel
    obtain ⟨⟨-, -, c2, -, -⟩, ⟨f2, -, -, -, -⟩⟩ := place_cells hb
    by_cases hlt : k < n
    · obtain ⟨b0, o0, rfl, hne, hg1, hk1⟩ := HK.out.1 (by omega)
      obtain ⟨x, hx⟩ : ∃ x, x = ks.getD k 0 := ⟨_, rfl⟩
      have hcx : wr.cell? ⟨b0, o0 + k, none⟩ = some (.int .i64 x) := by
        rw [hx, World.cell?_of_block (w := w1) (htw.block b0 hg1 hne)]; exact hk1 k hlt
      have hstep := addKs_step qm ks k (by have := HK.out.2; omega)
      rw [← hx] at hstep
      have HS : Hid (addKs qm (ks.take (k + 1)) = addK (addKs qm (ks.take k)) x) := hstep
      have HB : Hid (wr.heap[qb]? = some (.cells #[.int .i64 qp, .int .i64 qc, .int .i64 (addKs qm (ks.take k)), .int .i64 qk, .int .i64 qt] 56 (0, 0)) ∧ Turned (fun b => b = qb) w1 wr) := ⟨hb, htw⟩
      clear hx hstep hk1 hb htw hcell
      generalize hM0 : addKs qm (ks.take k) = m0 at *
      clear hM0
      have hlt' : (k : Int) < n := by omega
      have hk0 : (0 : Int) ≤ k := by omega
      by_cases hr : 1 ≤ x ∧ x ≤ 62
      · have HR : Hid (addK m0 x = bits BinOp.or .i64 m0 (bitK x)) := if_pos hr
        obtain ⟨hr1, hr2⟩ := hr
        go_wp2
        go_region
        go_wp2
        refine ⟨⟨k + 1, by omega, by go_num, ?_, ?_⟩, by simp [intOf]; omega⟩
        · rw [HS.out, HR.out]
          exact setCell_self HB.out.1 _
        · exact (HB.out.2.setCell (p := ⟨qb, 2, none⟩) (.inl rfl) _).trans (T := fun _ => False) ⟨rfl, rfl, rfl, Nat.le_refl _, fun _ _ _ => rfl⟩ (fun _ h => h.elim)
      · have HR : Hid (addK m0 x = m0) := if_neg hr
        by_cases hr1 : 1 ≤ x
        · have hr2 : 62 < x := by omega
          clear hr
          go_wp2
          refine ⟨⟨k + 1, by omega, by go_num, ?_, HB.out.2⟩, by simp [intOf]; omega⟩
          rw [HS.out, HR.out]; exact HB.out.1
        · clear hr
          go_wp2
          refine ⟨⟨k + 1, by omega, by go_num, ?_, HB.out.2⟩, by simp [intOf]; omega⟩
          rw [HS.out, HR.out]; exact HB.out.1
    · have : k = n := by omega
      subst this
      obtain ⟨ht, hq, htv, hT, hM⟩ := X.out
      have hn := HK.out.2
      have HB : Hid (wr.heap[qb]? = some (.cells #[.int .i64 qp, .int .i64 qc, .int .i64 (addKs qm ks), .int .i64 qk, .int .i64 qt] 56 (0, 0)) ∧ Turned (fun b => b = qb) w1 wr) := ⟨by rw [← hn, List.take_length] at hb; exact hb, htw⟩
      have HD := done_of ht hq htv hT hM (addKs qm ks) qk qt HB.out.1 HB.out.2
      have e1 : tv L qp qc = (qm, qk, qt) := by rw [← htv]; exact tv_found hq
      have HF : Hid (SeeDone w tb mb L qp qc ks (.returned (.tuple #[])) wr) := ⟨rfl, by rw [e1]; exact HD⟩
      clear ht hq htv hT hM HD e1 HB hb htw c2 f2 hcell hn
      go_wp2
      go_end0
      exact HF.out

def RSeeDone (w : World) (rb : Nat) (vF vC : Value) (R : List Pl) (p c : Int) (ks : List Int) (e : Ending) (w' : World) : Prop :=
  e = .returned (.tuple #[]) ∧ RefDone w rb vF vC (putT (tv R) p c (addKs (tv R p c).1 ks, (tv R p c).2.1, (tv R p c).2.2)) (R.length + 1) w'

set_option maxRecDepth 100000 in
set_option maxHeartbeats 4000000 in
theorem rSee_any (rb : Nat) (vF vC : Value) (R : List Pl) (p c : Int) (ks : List Int) (hp : fits p) (hc : fits c) (w : World) (h : RefAt w rb vF vC R) (hlen : R.length ≤ 4000000000000) {v : Value} (hv : KsR w (fun b => b < rb) v ks) :
    Calls Try.prog 16 #[.pointer (some ⟨rb, 0, none⟩), .int .i64 p, .int .i64 c, v] w (RSeeDone w rb vF vC R p c ks) := by
  obtain ⟨pv, cap, rfl, hlenk, hkc⟩ := hv
  obtain ⟨n, hn⟩ : ∃ n, ks.length = n := ⟨_, rfl⟩
  rw [hn] at hlenk hkc ⊢
  have HF := hide (find_any rb vF vC R p c hp hc w h hlen)
  have HW := hide h
  clear h
  go_enter Try.func16, Try.ntmps16
  go_upto_region 1 with (go_at_call 31; refine HF.out.mono ?_; rintro e w1 ⟨vF1, vC1, R1, i, q, rfl, hr1, hq, key1, key2, htv, hl, hT, hM⟩)
  subst key1 key2
  have hil : i < R1.length := (List.getElem?_eq_some_iff.1 hq).1
  obtain ⟨g, capF, rfl, hcapF, -, -, -⟩ := hr1.rowF (by omega)
  have hrb1 : rb < w1.heap.size := lt_of_heap hr1.box
  have hk1 : 0 < n → ∃ b o, pv = some ⟨b, o, none⟩ ∧ b < rb ∧ b < w1.heap.size ∧ ∀ j, j < n → w1.cell? ⟨b, o + j, none⟩ = some (.int .i64 (ks.getD j 0)) := fun h0 => by
    obtain ⟨b, o, rfl, hQb, hb, hcs⟩ := hkc h0
    refine ⟨b, o, rfl, hQb, Nat.lt_of_lt_of_le hb hT.size, fun j hj => ?_⟩
    rw [World.cell?_of_block (w := w) (hT.block b hb (fun hm => by have := (HW.out.lt hm).2; omega))]; exact hcs j hj
  have hown := fun b hb => (hr1.lt (b := b) hb).2
  obtain ⟨N, hN⟩ : ∃ N, R1.length = N := ⟨_, rfl⟩
  have X := hide (And.intro hr1 (And.intro hq (And.intro htv (And.intro hl (And.intro hT (And.intro hM hN))))))
  have HK := hide (And.intro hk1 hn)
  have hl1 : R1.length ≤ 4000000000001 := by omega
  rw [hN] at hil hcapF hl1
  have hgB : rb + 1 ≤ g := (own_block hr1.fs (b := g) rfl).1
  clear hr1 hq htv hl hT hM hkc hk1 hn hN HF hown
  have hi' : (i : Int) < N := by omega
  have hi0 : (0 : Int) ≤ i := by omega
  go_wp2
  go_loopw [9] (fun c9 wr => ∃ k : Nat, k ≤ n ∧ c9 = .int .i64 k ∧ RefAt wr rb (.slice (some ⟨g, 0, none⟩) R1.length capF) vC1 (R1.set i { q with m := addKs q.m (ks.take k) }) ∧ Turned (RMine rb (.slice (some ⟨g, 0, none⟩) R1.length capF) vC1) w1 wr) (fun c9 _ => n - (intOf c9).toNat)
  case atStart =>
    refine ⟨0, Nat.zero_le _, rfl, ?_, Turned.refl _ _⟩
    have e : R1.set i { q with m := addKs q.m (ks.take 0) } = R1 := by
      rw [show ({ q with m := addKs q.m (ks.take 0) } : Pl) = q from by cases q; rfl]
      refine List.ext_getElem (by simp) fun j h1 h2 => ?_
      rw [List.getElem_set]
      split
      · rename_i e2; subst e2; exact ((List.getElem?_eq_some_iff.1 X.out.2.1).2).symm
      · rfl
    rw [e]
    exact X.out.1
  case round =>
    obtain ⟨k, hkl, rfl, hr, htw⟩ := hrel
    by_cases hlt : k < n
    · obtain ⟨b0, o0, rfl, hb0, hg1, hk1⟩ := HK.out.1 (by omega)
      obtain ⟨x, hx⟩ : ∃ x, x = ks.getD k 0 := ⟨_, rfl⟩
      have hcx : wr.cell? ⟨b0, o0 + k, none⟩ = some (.int .i64 x) := by
        rw [hx, World.cell?_of_block (w := w1) (htw.block b0 hg1 (fun hm => by have := (X.out.1.lt hm).2; omega))]; exact hk1 k hlt
      have hstep := addKs_step q.m ks k (by have := HK.out.2; omega)
      rw [← hx] at hstep
      have HS : Hid (addKs q.m (ks.take (k + 1)) = addK (addKs q.m (ks.take k)) x) := hstep
      have hN := X.out.2.2.2.2.2.2
      have hset : (R1.set i { q with m := addKs q.m (ks.take k) }).length = R1.length := List.length_set
      obtain ⟨g', cap', e1, -, hgl, hfr, hrow⟩ := hr.rowF (by rw [hset]; omega)
      rw [hset] at e1
      cases e1
      obtain ⟨x0, -, f0, -, hrb⟩ := refs_box hr.box
      obtain ⟨-, -, y2, -⟩ := hrow i { q with m := addKs q.m (ks.take k) } (by rw [List.getElem?_set_self (by omega)])
      dsimp only at y2
      have z2 := hfr (i * 4 + 2)
      have HB := hide (And.intro hr htw)
      rw [hN] at x0
      have hne : g ≠ rb := by omega
      have hne2 : b0 ≠ g := by omega
      have hne3 : b0 ≠ rb := by omega
      have hgw : b0 < wr.heap.size := Nat.lt_of_lt_of_le hg1 htw.size
      clear hx hstep hk1 hr htw hrow hfr hset hN
      generalize hM0 : addKs q.m (ks.take k) = m0 at *
      clear hM0
      have hlt' : (k : Int) < n := by omega
      have hk0 : (0 : Int) ≤ k := by omega
      by_cases hr : 1 ≤ x ∧ x ≤ 62
      · have HR : Hid (addK m0 x = bits BinOp.or .i64 m0 (bitK x)) := if_pos hr
        obtain ⟨hr1, hr2⟩ := hr
        go_upto_region 5 with fail
        go_region
        go_wp2
        refine ⟨⟨k + 1, by omega, by go_num, ?_, ?_⟩, by simp [intOf]; omega⟩
        · rw [HS.out, HR.out]
          have hl2 : (R1.set i { q with m := m0 }).length = R1.length := List.length_set
          have h2 := HB.out.1
          rw [← hl2] at h2
          have h3 := h2.setM (i := i) (q := { q with m := m0 }) (by rw [List.getElem?_set_self (by have := X.out.2.2.2.2.2.2; omega)]) (bits BinOp.or .i64 m0 (bitK x))
          rw [hl2, List.set_set] at h3
          exact h3.kept fun _ _ => rfl
        · exact (HB.out.2.setCell (p := ⟨g, i * 4 + 2, none⟩) (.inl (.inr (.inl rfl))) _).trans (T := fun _ => False) ⟨rfl, rfl, rfl, Nat.le_refl _, fun _ _ _ => rfl⟩ (fun _ h => h.elim)
      · have HR : Hid (addK m0 x = m0) := if_neg hr
        by_cases hr1 : 1 ≤ x
        · have hr2 : 62 < x := by omega
          clear hr
          go_wp2
          refine ⟨⟨k + 1, by omega, by go_num, ?_, HB.out.2⟩, by simp [intOf]; omega⟩
          rw [HS.out, HR.out]; exact HB.out.1
        · clear hr
          go_wp2
          refine ⟨⟨k + 1, by omega, by go_num, ?_, HB.out.2⟩, by simp [intOf]; omega⟩
          rw [HS.out, HR.out]; exact HB.out.1
    · have : k = n := by omega
      subst this
      have HB := hide (And.intro hr htw)
      clear hr htw
      go_wp2
      go_end0
      obtain ⟨hr, htw⟩ := HB.out
      obtain ⟨hr1, hq, htv, hl, hT, hM, hN⟩ := X.out
      rw [← HK.out.2, List.take_length] at hr
      refine ⟨rfl, ?_⟩
      rw [tv_of hr1.keys hq htv]
      exact refDone_of hr1 hq htv hl hT hM (addKs q.m ks) q.k q.t hr htw

end Go.Proofs.Ytmgafcbhoamkkaa
