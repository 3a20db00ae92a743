/-
  The walks of the document's table's See, Call, Enter, Add, At: what they leave.
-/
import Derived.Test.YtmgafcbhoamkkaaFeedFind
import Derived.Test.YtmgafcbhoamkkaaFeedCall
import Derived.BigRegion
import Derived.BigQuiet
namespace Go.Proofs.Ytmgafcbhoamkkaa
open Go.RowKit Go.ChangeMaps
set_option linter.unusedSimpArgs false

/-- What a table says, with one place turned. -/
def putT (T : Tv) (p c : Int) (x : Int × Int × Int) : Tv := fun p' c' => if p' = p ∧ c' = c then x else T p' c'

/-- From the place that was found, written, to what is left. -/
theorem refDone_of {w w1 w' : World} {rb : Nat} {vF vC vF1 vC1 : Value} {R R1 : List Pl} {i : Nat} {q : Pl} (hr1 : RefAt w1 rb vF1 vC1 R1) (hq : R1[i]? = some q) (htv : ∀ p' c', tv R1 p' c' = tv R p' c') (hl : R1.length ≤ R.length + 1)
    (hT : Turned (RMine rb vF vC) w w1) (hM : ∀ b, RMine rb vF1 vC1 b → RMine rb vF vC b ∨ w.heap.size ≤ b) (m k t : Int) (hr2 : RefAt w' rb vF1 vC1 (R1.set i { q with m := m, k := k, t := t })) (hT2 : Turned (RMine rb vF1 vC1) w1 w') :
    RefDone w rb vF vC (putT (tv R) q.p q.c (m, k, t)) (R.length + 1) w' := by
  refine ⟨vF1, vC1, _, hr2, ?_, by rw [List.length_set]; exact hl, hT.trans hT2 hM, hM⟩
  funext p' c'
  rw [tv_set hr1.keys hq, htv]
  rfl

theorem tv_of {R R1 : List Pl} (ha : R1.Pairwise fun q r => ¬ (q.p = r.p ∧ q.c = r.c)) {i : Nat} {q : Pl} (hq : R1[i]? = some q) (htv : ∀ p' c', tv R1 p' c' = tv R p' c') : tv R q.p q.c = (q.m, q.k, q.t) := by
  rw [← htv]; exact tv_found (find_at ha hq)

def REnterDone (w : World) (rb : Nat) (vF vC : Value) (R : List Pl) (p c : Int) (e : Ending) (w' : World) : Prop :=
  e = .returned (.int .i64 (wrap64 ((tv R p c).2.2 + 1))) ∧ RefDone w rb vF vC (putT (tv R) p c ((tv R p c).1, (tv R p c).2.1, wrap64 ((tv R p c).2.2 + 1))) (R.length + 1) w'

set_option maxRecDepth 100000 in
set_option maxHeartbeats 2000000 in
theorem rEnter_any (rb : Nat) (vF vC : Value) (R : List Pl) (p c : Int) (hp : fits p) (hc : fits c) (w : World) (h : RefAt w rb vF vC R) (hlen : R.length ≤ 4000000000000) :
    Calls Try.prog 20 #[.pointer (some ⟨rb, 0, none⟩), .int .i64 p, .int .i64 c] w (REnterDone w rb vF vC R p c) := by
  have HF := hide (find_any rb vF vC R p c hp hc w h hlen)
  clear h
  go_enter Try.func20, Try.ntmps20
  go_upto_region 2 with (go_at_call 31; refine HF.out.mono ?_; rintro e w1 ⟨vF1, vC1, R1, i, q, rfl, hr1, hq, key1, key2, htv, hl, hT, hM⟩)
  subst key1 key2
  have hil : i < R1.length := (List.getElem?_eq_some_iff.1 hq).1
  obtain ⟨g, cap, rfl, hcap, hgl, hfr, hrow⟩ := hr1.rowC (by omega)
  obtain ⟨x0, x1, f0, f1, hrb⟩ := refs_box hr1.box
  have y := hrow i q hq
  have z := hfr i
  have hne : g ≠ rb := by have := (own_block hr1.cs (b := g) rfl).1; omega
  obtain ⟨n, hn⟩ : ∃ n, R1.length = n := ⟨_, rfl⟩
  obtain ⟨t, ht⟩ : ∃ t, q.t = t := ⟨_, rfl⟩
  have HD : Hid (tv R q.p q.c = (q.m, q.k, t) ∧ RefDone w rb vF vC (putT (tv R) q.p q.c (q.m, q.k, wrap64 (t + 1))) (R.length + 1) (w1.setCell ⟨g, i, none⟩ (.int .i64 (wrap64 (t + 1))))) := by
    rw [← ht]
    exact hide ⟨tv_of hr1.keys hq htv, refDone_of hr1 hq htv hl hT hM q.m q.k _ (hr1.setC hq _) ((Turned.refl _ _).setCell (p := ⟨g, i, none⟩) (.inl (.inr (.inr rfl))) _)⟩
  rw [ht] at y
  rw [hn] at hil hcap x1
  have hi' : (i : Int) < n := by omega
  have hi0 : (0 : Int) ≤ i := by omega
  clear hr1 hq htv hl hT hM hrow hfr HF hn ht
  go_wp2
  go_ret
  unfold REnterDone
  rw [HD.out.1]
  exact ⟨rfl, HD.out.2⟩

/-- A feed's four cells as the walk writes them. -/
theorem turned_put4 (w : World) (S : Nat → Prop) (g : Nat) (hg : S g) (a b c d : Nat) (v0 v1 v2 v3 : Value) : Turned S w ((((w.setCell ⟨g, a, none⟩ v0).setCell ⟨g, b, none⟩ v1).setCell ⟨g, c, none⟩ v2).setCell ⟨g, d, none⟩ v3) :=
  ((((Turned.refl S w).setCell (p := ⟨g, a, none⟩) (.inl hg) _).setCell (p := ⟨g, b, none⟩) (.inl hg) _).setCell (p := ⟨g, c, none⟩) (.inl hg) _).setCell (p := ⟨g, d, none⟩) (.inl hg) _

/-- A feed's cells, in a later world. -/
theorem row_after {w w' : World} {rb g cap n : Nat} {vC : Value} {R : List Pl} {i : Nat} {q : Pl} (h : RefAt w rb (.slice (some ⟨g, 0, none⟩) n cap) vC R) (hq : R[i]? = some q) (hb : Below w.heap.size w w') :
    w'.cell? ⟨g, i * 4, none⟩ = some (.int .i64 q.p) ∧ w'.cell? ⟨g, i * 4 + 1, none⟩ = some (.int .i64 q.c) ∧ w'.cell? ⟨g, i * 4 + 2, none⟩ = some (.int .i64 q.m) ∧ w'.cell? ⟨g, i * 4 + 3, none⟩ = some (.int .i64 q.k) ∧
    w'.frozen? ⟨g, i * 4, none⟩ = false ∧ w'.frozen? ⟨g, i * 4 + 1, none⟩ = false ∧ w'.frozen? ⟨g, i * 4 + 2, none⟩ = false ∧ w'.frozen? ⟨g, i * 4 + 3, none⟩ = false ∧ g < w'.heap.size ∧ w'.cell? ⟨rb, 0, none⟩ = some (.slice (some ⟨g, 0, none⟩) n cap) ∧ rb < w'.heap.size := by
  obtain ⟨g', cap', e, -, hgl, hfr, hrow⟩ := (h.below hb).rowF (by have := (List.getElem?_eq_some_iff.1 hq).1; omega)
  cases e
  obtain ⟨a, b, c, d⟩ := hrow i q hq
  have hx := refs_box (h.below hb).box
  exact ⟨a, b, c, d, hfr _, hfr _, hfr _, hfr _, hgl, hx.1, hx.2.2.2.2⟩

def RCallDone (w : World) (rb : Nat) (vF vC : Value) (R : List Pl) (p c n : Int) (e : Ending) (w' : World) : Prop :=
  e = .returned (.tuple #[]) ∧ RefDone w rb vF vC (putT (tv R) p c ((tv R p c).1, fj (tv R p c).2.1 (clN n), (tv R p c).2.2)) (R.length + 1) w'

theorem or_zero' (m : Int) (hm : (Lit.int .i64 m).wf = true) : bits .or .i64 m 0 = m := by rw [or64_comm]; exact or64_zero m hm

set_option maxRecDepth 100000 in
set_option maxHeartbeats 4000000 in
theorem rCall_any (rb : Nat) (vF vC : Value) (R : List Pl) (p c n : Int) (hp : fits p) (hc : fits c) (w : World) (h : RefAt w rb vF vC R) (hlen : R.length ≤ 4000000000000) (hm : fits (tv R p c).1) :
    Calls Try.prog 18 #[.pointer (some ⟨rb, 0, none⟩), .int .i64 p, .int .i64 c, .int .i64 n] w (RCallDone w rb vF vC R p c n) := by
  have HF := hide (find_any rb vF vC R p c hp hc w h hlen)
  have HN : Hid (clN n = if n < 0 then -2 else n) := rfl
  clear h
  by_cases hn0 : n < 0
  all_goals (
    go_enter Try.func18, Try.ntmps18
    go_upto_region 1 with (go_at_call 31; refine HF.out.mono ?_; rintro e w1 ⟨vF1, vC1, R1, i, q, rfl, hr1, hq, key1, key2, htv, hl, hT, hM⟩)
    subst key1 key2
    have hil : i < R1.length := (List.getElem?_eq_some_iff.1 hq).1
    obtain ⟨g, cap, rfl, hcap, hgl, hfr, hrow⟩ := hr1.rowF (by omega)
    obtain ⟨x0, x1, f0, f1, hrb⟩ := refs_box hr1.box
    obtain ⟨y0, y1, y2, y3⟩ := hrow i q hq
    obtain ⟨N, hN⟩ : ∃ N, R1.length = N := ⟨_, rfl⟩
    have etv := tv_of hr1.keys hq htv
    rw [etv] at hm
    have hcn := HN.out
    first | rw [if_pos (by omega)] at hcn | rw [if_neg (by omega)] at hcn
    obtain ⟨k', hk'⟩ : ∃ k', fj q.k (clN n) = k' := ⟨_, rfl⟩
    have HD : Hid (tv R q.p q.c = (q.m, q.k, q.t) ∧ ∀ w2, Below w1.heap.size w1 w2 → RefDone w rb vF vC (putT (tv R) q.p q.c (q.m, k', q.t)) (R.length + 1) ((((w2.setCell ⟨g, i * 4, none⟩ (.int .i64 q.p)).setCell ⟨g, i * 4 + 1, none⟩ (.int .i64 q.c)).setCell ⟨g, i * 4 + 2, none⟩ (.int .i64 q.m)).setCell ⟨g, i * 4 + 3, none⟩ (.int .i64 k'))) :=
      hide ⟨etv, fun w2 hb2 => refDone_of hr1 hq htv hl hT hM q.m k' q.t ((hr1.below hb2).setF hq q.m k') ((Turned.of_below hb2).trans (turned_put4 w2 (RMine rb (.slice (some ⟨g, 0, none⟩) R1.length cap) vC1) g (.inr (.inl rfl)) _ _ _ _ _ _ _ _) fun _ => .inl)⟩
    have hJ := fun w => rJoin_any q.p q.c q.m q.k 0 0 0 (clN n) w
    rw [or_zero' q.m hm, hk', hcn] at hJ
    rw [hN] at hil hcap x0
    have hi' : (i : Int) < N := by omega
    have hi0 : (0 : Int) ≤ i := by omega
    have HH := hide (And.intro hr1 hq)
    have z0 := hfr (i * 4)
    have hne : g ≠ rb := by have := (own_block hr1.fs (b := g) rfl).1; omega
    obtain ⟨qp, qc, qb, qm, qk, qt⟩ := q
    dsimp only at y0 y1 y2 y3 HD hJ hk' hm
    have HJ := hide hJ
    clear hr1 hq htv hl hT hM hrow hfr HF hJ etv hm HN
    go_upto_region 3 with fail
    go_region_with (go_at_call 8; refine (HJ.out _).mono ?_; rintro e w2 ⟨rfl, hb2⟩; obtain ⟨s0, s1, s2, s3, t0, t1, t2, t3, hgl2, s4, hrb2⟩ := row_after HH.out.1 HH.out.2 ⟨hb2.os, hb2.tape, hb2.output, hb2.size, hb2.block⟩)
    all_goals (
      have HB2 := hide (show Below w1.heap.size w1 w2 from ⟨hb2.os, hb2.tape, hb2.output, hb2.size, hb2.block⟩)
      clear hb2 s0 s1 s2 s3 t0 t1 t2 t3 s4
      go_end0
      refine ⟨rfl, ?_⟩
      rw [HD.out.1]
      dsimp only
      rw [hk']
      exact HD.out.2 w2 HB2.out))


end Go.Proofs.Ytmgafcbhoamkkaa
