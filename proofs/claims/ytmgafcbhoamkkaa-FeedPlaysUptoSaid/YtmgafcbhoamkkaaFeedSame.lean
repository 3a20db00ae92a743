/-
  The walk of tandemlaw14.same over two slices that hold the same feeds: it answers true.
-/
import Derived.Test.YtmgafcbhoamkkaaFeedAdd
import Derived.BigRegion
import Derived.BigQuiet
namespace Go.Proofs.Ytmgafcbhoamkkaa
open Go.RowKit Go.ChangeMaps
set_option linter.unusedSimpArgs false

/-- A slice that holds these feeds. -/
def FdR (w : World) (v : Value) (l : List F) : Prop :=
  ∃ p c, v = .slice p l.length c ∧ l.length ≤ 4398046511104 ∧ (0 < l.length → ∃ b o, p = some ⟨b, o, none⟩ ∧ b < w.heap.size ∧ ∀ i x, l[i]? = some x → ∀ j u, (encF x)[j]? = some u → w.cell? ⟨b, o + i * 4 + j, none⟩ = some u)

theorem FdR.below {w w' : World} {v : Value} {l : List F} (h : FdR w v l) (hb : Below w.heap.size w w') : FdR w' v l := by
  obtain ⟨p, c, h1, h2, h3⟩ := h
  refine ⟨p, c, h1, h2, fun h0 => ?_⟩
  obtain ⟨b, o, e1, e2, e3⟩ := h3 h0
  exact ⟨b, o, e1, Nat.lt_of_lt_of_le e2 hb.size, fun i x hi j u hj => (hb.cell (p := ⟨b, o + i * 4 + j, none⟩) e2).trans (e3 i x hi j u hj)⟩

/-- What All gives is such a slice. -/
theorem AllDone.fd {w w' : World} {L : List Pl} {e : Ending} (h : AllDone w L e w') (hl : (got L).length ≤ 4398046511104) : ∃ v l, e = .returned v ∧ FdR w' v l ∧ l.Perm (got L) ∧ l.Pairwise ltF ∧ Below w.heap.size w w' := by
  obtain ⟨l, p, c, he, hp, hs, hc, hb⟩ := h
  refine ⟨_, l, he, ⟨p, c, rfl, by rw [hp.length_eq]; exact hl, fun h0 => ?_⟩, hp, hs, hb⟩
  obtain ⟨g, e1, e2, e3⟩ := hc h0
  exact ⟨g, 0, e1, e2, fun i x hi j u hj => by rw [Nat.zero_add]; exact e3 i x hi j u hj⟩

set_option maxRecDepth 100000 in
set_option maxHeartbeats 2000000 in
theorem same_any (l : List F) {v1 v2 : Value} (w : World) (h1 : FdR w v1 l) (h2 : FdR w v2 l) : Calls Try.prog 15 #[v1, v2] w fun e w' => e = .returned (.bool true) ∧ Below w.heap.size w w' := by
  obtain ⟨p1, c1, rfl, hlen, hc1⟩ := h1
  obtain ⟨p2, c2, rfl, -, hc2⟩ := h2
  obtain ⟨n, hn⟩ : ∃ n, l.length = n := ⟨_, rfl⟩
  have HI := hide (And.intro hn (And.intro hc1 hc2))
  rw [hn] at hlen ⊢
  clear hn hc1 hc2
  go_enter Try.func15, Try.ntmps15
  go_wp2
  go_loopw [5] (fun c5 wr => ∃ k : Nat, k ≤ n ∧ c5 = .int .i64 k ∧ Below w.heap.size w wr) (fun c5 _ => n - (intOf c5).toNat)
  case atStart => exact ⟨0, Nat.zero_le _, rfl, Below.refl _ _⟩
  case round =>
    obtain ⟨k, hk, rfl, hb⟩ := hrel
    by_cases hlt : k < n
    · obtain ⟨hn, hc1, hc2⟩ := HI.out
      obtain ⟨b1, o1, rfl, hl1, hc1⟩ := hc1 (by omega)
      obtain ⟨b2, o2, rfl, hl2, hc2⟩ := hc2 (by omega)
      obtain ⟨x, hx⟩ : ∃ x, l[k]? = some x := ⟨_, List.getElem?_eq_getElem (by omega)⟩
      have e0 := (hb.cell (p := ⟨b1, _, none⟩) hl1).trans (hc1 k x hx 0 _ rfl)
      have e1 := (hb.cell (p := ⟨b1, _, none⟩) hl1).trans (hc1 k x hx 1 _ rfl)
      have e2 := (hb.cell (p := ⟨b1, _, none⟩) hl1).trans (hc1 k x hx 2 _ rfl)
      have e3 := (hb.cell (p := ⟨b1, _, none⟩) hl1).trans (hc1 k x hx 3 _ rfl)
      have f0 := (hb.cell (p := ⟨b2, _, none⟩) hl2).trans (hc2 k x hx 0 _ rfl)
      have f1 := (hb.cell (p := ⟨b2, _, none⟩) hl2).trans (hc2 k x hx 1 _ rfl)
      have f2 := (hb.cell (p := ⟨b2, _, none⟩) hl2).trans (hc2 k x hx 2 _ rfl)
      have f3 := (hb.cell (p := ⟨b2, _, none⟩) hl2).trans (hc2 k x hx 3 _ rfl)
      simp only [Nat.add_zero] at e0 f0
      obtain ⟨x0, x1, x2, x3⟩ := x
      dsimp only at e0 e1 e2 e3 f0 f1 f2 f3
      have hl1' := Nat.lt_of_lt_of_le hl1 hb.size
      have hl2' := Nat.lt_of_lt_of_le hl2 hb.size
      have hlt' : (k : Int) < n := by omega
      have hk0 : (0 : Int) ≤ k := by omega
      have HB := hide hb
      clear hc1 hc2 hx hn hb HI hl1 hl2
      go_upto_region 6 with fail
      refine wp_region_later (by kernel_rfl) (by kernel_rfl) ?_
      repeat (first
        | go_big_quiet_step (fail)
        | quiet_step (fail))
      refine wpQuiet_nil ?_
      rintro w2 ⟨⟨wz, hbz⟩, hwz⟩
      have hb3 : Below wr.heap.size wr w2 := by rw [hwz]; exact hbz
      clear hwz hbz wz
      have HB3 := hide (HB.out.trans (hb3.mono HB.out.size))
      clear hb3 e0 e1 e2 e3 f0 f1 f2 f3
      go_wp2
      exact ⟨⟨k + 1, by omega, by go_num, HB3.out⟩, by simp [intOf]; omega⟩
    · have : k = n := by omega
      subst this
      have HB := hide hb
      clear hb
      go_wp2
      go_ret
      exact ⟨rfl, HB.out⟩

end Go.Proofs.Ytmgafcbhoamkkaa
