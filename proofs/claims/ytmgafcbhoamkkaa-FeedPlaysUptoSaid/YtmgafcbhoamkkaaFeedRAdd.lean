/-
  The walk of the document's table's Add: what feeds leave of it.
-/
import Derived.Test.YtmgafcbhoamkkaaFeedROps
import Derived.StillTailTactics
import Derived.LoopTactic
namespace Go.Proofs.Ytmgafcbhoamkkaa
open Go.RowKit Go.ChangeMaps
set_option linter.unusedSimpArgs false

theorem RefDone.after {w wr w' : World} {rb N : Nat} {vF vC vF1 vC1 : Value} {T : Tv} (hT : Turned (RMine rb vF vC) w wr) (hM : ∀ b, RMine rb vF1 vC1 b → RMine rb vF vC b ∨ w.heap.size ≤ b) (h : RefDone wr rb vF1 vC1 T N w') : RefDone w rb vF vC T N w' := by
  obtain ⟨vF', vC', R', a, b, c, d, e⟩ := h
  refine ⟨vF', vC', R', a, b, c, hT.trans d hM, fun b hb => ?_⟩
  rcases e b hb with h | h
  · exact hM b h
  · have := hT.size; exact .inr (by omega)

theorem RefDone.drew {w w' : World} {rb N : Nat} {vF vC : Value} {T : Tv} (h : RefDone w rb vF vC T N w') : RefDone w rb vF vC T N w'.drew := by
  obtain ⟨vF', vC', R', a, b, c, d, e⟩ := h
  exact ⟨vF', vC', R', a.kept fun _ _ => rfl, b, c, d.trans (T := fun _ => False) ⟨rfl, rfl, rfl, Nat.le_refl _, fun _ _ _ => rfl⟩ (fun _ h => h.elim), e⟩

def RAddDone (w : World) (rb : Nat) (vF vC : Value) (R : List Pl) (fs : List F) (e : Ending) (w' : World) : Prop :=
  e = .returned (.tuple #[]) ∧ RefDone w rb vF vC (fs.foldl addT (tv R)) (R.length + fs.length) w'

set_option maxRecDepth 100000 in
set_option maxHeartbeats 4000000 in
theorem rAdd_any (rb : Nat) (vF vC : Value) (R : List Pl) (fs : List F) (w : World) (h : RefAt w rb vF vC R) (hlen : R.length + fs.length ≤ 4000000000000) {v : Value} (hv : FeedsR w (fun b => b < rb) v fs) :
    Calls Try.prog 21 #[.pointer (some ⟨rb, 0, none⟩), v] w (RAddDone w rb vF vC R fs) := by
  obtain ⟨pv, cap, rfl, hlenk, -, hfit, hcell⟩ := hv
  obtain ⟨n, hn⟩ : ∃ n, fs.length = n := ⟨_, rfl⟩
  have HI := hide (And.intro hn (And.intro hfit (And.intro hcell h)))
  rw [hn] at hlenk hlen ⊢
  clear hn hfit hcell h
  go_enter Try.func21, Try.ntmps21
  go_wp2
  go_loopw [4] (fun c4 wr => ∃ k : Nat, k ≤ n ∧ c4 = .int .i64 k ∧ RefDone w rb vF vC ((fs.take k).foldl addT (tv R)) (R.length + k) wr) (fun c4 _ => n - (intOf c4).toNat)
  case atStart => exact ⟨0, Nat.zero_le _, rfl, vF, vC, R, HI.out.2.2.2, rfl, Nat.le_refl _, Turned.refl _ _, fun _ h => .inl h⟩
  case round =>
    obtain ⟨k, hk, rfl, hd⟩ := hrel
    by_cases hlt : k < n
    · obtain ⟨hn, hfit, hcell, h⟩ := HI.out
      obtain ⟨b, o, rfl, hQb, hbl, hc⟩ := hcell (by omega)
      obtain ⟨x, hx⟩ : ∃ x, fs[k]? = some x := ⟨_, List.getElem?_eq_getElem (by omega)⟩
      have hfx := hfit x (List.mem_of_getElem? hx)
      have hd := hd.drew
      obtain ⟨vF1, vC1, R1, hr1, htv1, hl1, hT1, hM1⟩ := hd
      have hw : ∀ o', wr.drew.cell? ⟨b, o', none⟩ = w.cell? ⟨b, o', none⟩ := fun o' => World.cell?_of_block (hT1.block b hbl (fun hm => by have := (h.lt hm).2; omega))
      obtain ⟨x0, x1, x2, x3⟩ := x
      have c0 := (hw _).trans (hc k _ hx 0 _ rfl)
      have c1 := (hw _).trans (hc k _ hx 1 _ rfl)
      have c2 := (hw _).trans (hc k _ hx 2 _ rfl)
      have c3 := (hw _).trans (hc k _ hx 3 _ rfl)
      simp only [Nat.add_zero] at c0 c1 c2 c3
      dsimp only at c0 c1 c2 c3 hfx
      have hbl' : b < wr.drew.heap.size := Nat.lt_of_lt_of_le hbl hT1.size
      have hlt' : (k : Int) < n := by omega
      have hk0 : (0 : Int) ≤ k := by omega
      have HP := hide (fun V (hV : RefAt V rb vF1 vC1 R1) => find_any rb vF1 vC1 R1 x0 x1 hfx.1 hfx.2 V hV (by omega))
      have HX := hide (And.intro hx (And.intro htv1 (And.intro hl1 (And.intro hT1 (And.intro hM1 (And.intro hn hr1))))))
      clear hcell hc hx h hn hfit hw hfx HI htv1 hl1 hT1 hM1 hr1
      go_upto_region 3 with fail
      refine wp_region_still_tail 11 (by kernel_rfl) (by kernel_rfl) ?_
      simp only [List.take_succ_cons, List.take_zero, List.drop_succ_cons, List.drop_zero]
      change wpStill _ _ wr.drew (fun a' => wpList _ _ _ _ a' wr.drew) _ _
      generalize wr.drew = V at *
      repeat still_step
      refine wpStill_nil ?_
      go_upto_region 4 with (go_at_call 31; refine (HP.out _ HX.out.2.2.2.2.2.2).mono ?_; rintro e w1 ⟨vF2, vC2, R2, i, q, rfl, hr2, hq, key1, key2, htv, hl, hT, hM⟩)
      subst key1 key2
      have hil : i < R2.length := (List.getElem?_eq_some_iff.1 hq).1
      obtain ⟨g, capF, rfl, hcapF, hgl, hfr, hrow⟩ := hr2.rowF (by omega)
      obtain ⟨y0, y1, f0, f1, hrb⟩ := refs_box hr2.box
      obtain ⟨r0, r1, r2, r3⟩ := hrow i q hq
      obtain ⟨N, hN⟩ : ∃ N, R2.length = N := ⟨_, rfl⟩
      have hVw : ∀ o', w1.cell? ⟨b, o', none⟩ = V.cell? ⟨b, o', none⟩ := fun o' => World.cell?_of_block (hT.block b hbl' (fun hm => by have := (HX.out.2.2.2.2.2.2.lt hm).2; omega))
      have d0 := (hVw _).trans c0
      have d1 := (hVw _).trans c1
      have d2 := (hVw _).trans c2
      have d3 := (hVw _).trans c3
      have hbl1 : b < w1.heap.size := Nat.lt_of_lt_of_le hbl' hT.size
      have hgB : rb + 1 ≤ g := (own_block hr2.fs (b := g) rfl).1
      have hne : g ≠ rb := by omega
      have hne2 : b ≠ g := by omega
      have hne3 : b ≠ rb := by omega
      have etv := tv_of hr2.keys hq htv
      obtain ⟨m', hm'⟩ : ∃ m', bits BinOp.or .i64 q.m x2 = m' := ⟨_, rfl⟩
      obtain ⟨k', hk'⟩ : ∃ k', fj q.k x3 = k' := ⟨_, rfl⟩
      have HD : Hid (∀ w2, Below w1.heap.size w1 w2 → RefDone w rb vF vC ((fs.take (k + 1)).foldl addT (tv R)) (R.length + (k + 1)) ((((w2.setCell ⟨g, i * 4, none⟩ (.int .i64 q.p)).setCell ⟨g, i * 4 + 1, none⟩ (.int .i64 q.c)).setCell ⟨g, i * 4 + 2, none⟩ (.int .i64 m')).setCell ⟨g, i * 4 + 3, none⟩ (.int .i64 k'))) := by
        refine hide fun w2 hb2 => ?_
        obtain ⟨hx, htv1, hl1, hT1, hM1, hn, hr1⟩ := HX.out
        have h1 := refDone_of hr2 hq htv hl hT hM m' k' q.t ((hr2.below hb2).setF hq m' k') ((Turned.of_below hb2).trans (turned_put4 w2 (RMine rb (.slice (some ⟨g, 0, none⟩) R2.length capF) vC2) g (.inr (.inl rfl)) _ _ _ _ _ _ _ _) fun _ => .inl)
        have h2 := RefDone.after hT1 hM1 h1
        have hkf : k < fs.length := (List.getElem?_eq_some_iff.1 hx).1
        have hxk : fs[k] = (q.p, q.c, x2, x3) := (List.getElem?_eq_some_iff.1 hx).2
        have e3 : putT (tv R1) q.p q.c (m', k', q.t) = (fs.take (k + 1)).foldl addT (tv R) := by
          rw [List.take_succ_eq_append_getElem hkf, List.foldl_append, ← htv1, hxk]
          funext p c
          simp only [List.foldl_cons, List.foldl_nil, addT, putT]
          split
          · rename_i e
            obtain ⟨rfl, rfl⟩ := e
            rw [etv, ← hm', ← hk']
          · rfl
        rw [e3] at h2
        obtain ⟨a1, a2, a3, a4, a5, a6, a7, a8⟩ := h2
        exact ⟨a1, a2, a3, a4, a5, by omega, a7, a8⟩
      have hJ := fun w => rJoin_any q.p q.c q.m q.k q.p q.c x2 x3 w
      rw [hm', hk'] at hJ
      rw [hN] at hil hcapF y0
      have hi' : (i : Int) < N := by omega
      have hi0 : (0 : Int) ≤ i := by omega
      have HH := hide (And.intro hr2 hq)
      have z0 := hfr (i * 4)
      have HJ := hide hJ
      obtain ⟨qp, qc, qb, qm, qk, qt⟩ := q
      dsimp only at r0 r1 r2 r3 d0 d1 HD HJ
      clear hr2 hq htv hl hT hM hrow hfr hJ etv HX HP hVw c0 c1 c2 c3 hm' hk' hd y1 f1
      go_region_with (go_at_call 8; refine (HJ.out _).mono ?_; rintro e w2 ⟨rfl, hb2⟩; obtain ⟨s0, s1, s2, s3, t0, t1, t2, t3, hgl2, s4, hrb2⟩ := row_after HH.out.1 HH.out.2 ⟨hb2.os, hb2.tape, hb2.output, hb2.size, hb2.block⟩)
      all_goals (
        have HB2 := hide (show Below w1.heap.size w1 w2 from ⟨hb2.os, hb2.tape, hb2.output, hb2.size, hb2.block⟩)
        clear hb2 s0 s1 s2 s3 t0 t1 t2 t3 s4
        go_wp2
        exact ⟨⟨k + 1, by omega, by go_num, HD.out w2 HB2.out⟩, by simp [intOf]; omega⟩)
    · have : k = n := by omega
      subst this
      have HX := hide hd
      clear hd
      go_wp2
      go_end0
      exact ⟨rfl, by have := HX.out; rw [← HI.out.1, List.take_length] at this; exact this⟩

end Go.Proofs.Ytmgafcbhoamkkaa
