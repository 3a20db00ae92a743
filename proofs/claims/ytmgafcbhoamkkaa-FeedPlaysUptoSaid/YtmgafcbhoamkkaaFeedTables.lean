/-
  The walk of tandemlaw14.FeedTables: it answers true.
-/
import Derived.Test.YtmgafcbhoamkkaaFeedSame
import Derived.Test.YtmgafcbhoamkkaaFeedSortOk
import Derived.Test.YtmgafcbhoamkkaaFeedAwake
import Derived.Laws.AppendOwnNone
import Derived.Maps.AppendAt
import Derived.LoopTactic
import Derived.Outline
namespace Go.Proofs.Ytmgafcbhoamkkaa
open Go.RowKit Go.ChangeMaps Go.BigFrame
set_option linter.unusedSimpArgs false

/-- More feeds. -/
theorem Joined.more {w w1 w2 : World} {tb mb : Nat} {L L1 L2 : List Pl} {l l2 : List F} (h : Joined w tb mb L l w1 L1) {w1' : World} (hb : Below w1.heap.size w1 w1') (k : Joined w1' tb mb L1 l2 w2 L2) : Joined w tb mb L (l ++ l2) w2 L2 := by
  refine ⟨k.tab, by rw [List.foldl_append, ← h.says, k.says], ?_, fun b hb2 => ?_⟩
  · have h5 : Turned (Mine mb L1) w1 w2 := (Turned.of_below hb).trans k.turned fun _ => .inl
    exact h.turned.trans h5 h.mine
  · rcases k.mine b hb2 with e | e
    · exact h.mine b e
    · have := hb.size; have := h.turned.size; exact .inr (by omega)

theorem keys_of {L : List Pl} {w : World} {tb mb : Nat} (h : TabAt w tb mb L) : L.Pairwise fun q r => ¬ (q.p = r.p ∧ q.c = r.c) := apart_of h.keys

/-- Where no feed fits, nothing turns. -/
theorem addTs_other : ∀ (l : List F) (T : Tv) (p c : Int), (∀ x ∈ l, ¬ (p = x.1 ∧ c = x.2.1)) → l.foldl addT T p c = T p c
  | [], _, _, _, _ => rfl
  | x :: l, T, p, c, h => by
    rw [List.foldl_cons, addTs_other l _ p c fun y hy => h y (by simp [hy])]
    unfold addT
    rw [if_neg (h x (by simp))]

theorem sub_len {X : Type} : ∀ (D L : List X), D.Nodup → (∀ x ∈ D, x ∈ L) → D.length ≤ L.length
  | [], _, _, _ => Nat.zero_le _
  | d :: D, L, hn, hs => by
    obtain ⟨L1, L2, rfl⟩ := List.append_of_mem (hs d (by simp))
    obtain ⟨h1, h2⟩ := List.nodup_cons.1 hn
    have h3 := sub_len D (L1 ++ L2) h2 fun x hx => by
      have := hs x (by simp [hx])
      simp only [List.mem_append, List.mem_cons] at this ⊢
      rcases this with h | rfl | h
      · exact .inl h
      · exact absurd hx h1
      · exact .inr h
    simp only [List.length_append, List.length_cons] at h3 ⊢
    omega

/-- No more places say something than feeds were handed in. -/
theorem got_few {L : List Pl} {l : List F} (ha : L.Pairwise fun q r => ¬ (q.p = r.p ∧ q.c = r.c)) (h : tv L = l.foldl addT tv0) : (got L).length ≤ l.length := by
  have h1 : ((got L).map fun x => (x.1, x.2.1)).Nodup := by
    unfold List.Nodup
    rw [List.pairwise_map]
    refine (got_apart ha).imp fun {a b} hab e => hab ?_
    simp only [Prod.mk.injEq] at e
    exact e
  have h2 := sub_len _ (l.map fun x => (x.1, x.2.1)) h1 fun y hy => by
    obtain ⟨x, hx, rfl⟩ := List.mem_map.1 hy
    obtain ⟨e1, e2, e3⟩ := (mem_got ha x).1 hx
    rw [List.mem_map]
    refine Classical.byContradiction fun hno => e3 ?_
    have e := addTs_other l tv0 x.1 x.2.1 fun z hz hk => hno ⟨z, hz, by rw [hk.1, hk.2]⟩
    rw [← h] at e
    rw [e] at e1 e2
    exact ⟨e1.symm, e2.symm⟩
  simpa using h2

theorem own_feeds {w : World} {B : Nat} {v : Value} {fs : List F} (h : w.ownsRow B 23 4 v fs.length (fs.flatMap encF)) (hlen : fs.length ≤ 4398046510976) (hf : ∀ x ∈ fs, fits x.1 ∧ fits x.2.1) : FeedsR w (fun b => B ≤ b) v fs := by
  rcases h.2 with ⟨rfl, h0⟩ | ⟨g, cap, cur, rfl, -⟩
  · exact ⟨none, 0, by rw [h0], hlen, fun _ => rfl, hf, fun h => by omega⟩
  · obtain ⟨hH, hg, hB⟩ := holds_own h
    refine ⟨some ⟨g, 0, none⟩, cap, rfl, hlen, (fun h => nomatch h), hf, fun h0 => ⟨g, 0, rfl, hB, hg, fun i x hi j u hj => ?_⟩⟩
    have hi' : i < fs.toArray.size := by have := (List.getElem?_eq_some_iff.1 hi).1; simpa using this
    have hj' : j < 4 := by have := (List.getElem?_eq_some_iff.1 hj).1; simpa [encF] using this
    have e := (hH.cell hi' hj').1
    have e1 : fs.toArray[i]! = x := by
      rw [getElem!_pos fs.toArray i hi']
      have hi2 : i < fs.length := by simpa using hi'
      rw [List.getElem?_eq_getElem hi2] at hi
      simpa using hi
    have hl : j < (encF x).length := by simp [encF]; omega
    have e2 : (encF x)[j]! = u := by
      rw [List.getElem?_eq_getElem hl] at hj
      rw [getElem!_pos _ j hl]
      exact Option.some.inj hj
    rw [e1, e2] at e
    exact e

theorem below_turned_t {S : Nat → Prop} {B : Nat} {w u v : World} (h : Below B w u) (hT : Turned S u v) (hS : ∀ b, S b → B ≤ b) (hB : B ≤ u.heap.size) : Below B w v :=
  ⟨hT.os.trans h.os, hT.tape.trans h.tape, hT.output.trans h.output, Nat.le_trans h.size hT.size, fun k hk => (hT.block k (by omega) (fun e => by have := hS k e; omega)).trans (h.block k hk)⟩
theorem tmod_bt (y : Int) (n : Int) (hn : 0 < n) : -n < y.tmod n ∧ y.tmod n < n := ⟨by have := Int.lt_tmod_of_pos y hn; omega, Int.tmod_lt_of_pos y hn⟩

/-- One feed in a slice just made. -/
theorem FeedsR.one (w : World) (x : F) (hx : fits x.1 ∧ fits x.2.1) : FeedsR (w.alloc (.cells ⟨encF x⟩ 23)) (fun b => b = w.heap.size) (.slice (some ⟨w.heap.size, 0, none⟩) 1 1) [x] := by
  refine ⟨_, _, rfl, by simp, (fun h => nomatch h), fun y hy => by rw [List.mem_singleton.1 hy]; exact hx, fun _ => ⟨_, 0, rfl, rfl, by rw [Deep.nblk_alloc]; omega, fun i y hi j u hj => ?_⟩⟩
  have hi0 : i = 0 := by have := (List.getElem?_eq_some_iff.1 hi).1; simp at this; exact this
  subst hi0
  cases hi
  have e := newc w (encF x) 23 j u hj
  rw [add_none] at e
  simpa using e

/-- 'append([]api.Feed(nil), fs...)'. -/
theorem wpList_copy {ops : Array Oper} {Q : Exit → Act → World → Prop} {rest : List Oper} {o : Oper} {a : Act} (w : World) (hgd : o.guard = none) (x : Operand)
    (ho : o.op = .call { callee := .builtin .append, args := #[.const (.slice none 0 0), x], argTypes := #[35, 35] }) {Qf : Nat → Prop} {v : Value} {fs : List F} (hx : a.eval x = v) (hf : FeedsR w Qf v fs)
    (h : ∀ v' w', FeedsR w' (fun b => w.heap.size ≤ b) v' fs → Below w.heap.size w w' → wpList Try.prog ops Q rest (a.put o.dst v') w') : wpList Try.prog ops Q (o :: rest) a w := by
  obtain ⟨p, c, rfl, hlen, hn, hfit, hc⟩ := hf
  obtain ⟨i0, hi, hz0, hz1, hz2⟩ := info_parts infoFeed
  have hnil : w.ownsRow w.heap.size 23 4 (.slice none 0 0) 0 [] := World.ownsRow_nil _ _ _ _
  by_cases h0 : 0 < fs.length
  · obtain ⟨b, o', rfl, -, hlt, hcell⟩ := hc h0
    refine wpList_append_own_at w hgd _ x 35 ho w.heap.size 23 i0 _ 4 32 Try.underlying35 hi hz0 hz1 hz2 rfl (by decide) (.slice none 0 0) 0 [] rfl hnil ⟨b, o', none⟩ fs.length c (fs.flatMap encF) hx (by rw [flat4_len]) ?_ ?_ ?_ ?_ (Nat.le_refl _) ?_
    · intro j u hj
      have hjm : j < fs.length * 4 := by have := (List.getElem?_eq_some_iff.1 hj).1; rw [flat4_len] at this; exact this
      obtain ⟨y, hy⟩ : ∃ y, fs[j / 4]? = some y := ⟨_, List.getElem?_eq_getElem (by omega)⟩
      have e := flat4_get fs (j / 4) y hy (j % 4) (by omega)
      rw [show j / 4 * 4 + j % 4 = j from by omega, hj] at e
      have e2 := hcell (j / 4) y hy (j % 4) u e.symm
      rw [add_none, show o' + j = o' + j / 4 * 4 + j % 4 from by omega]
      exact e2
    · intro u hu
      obtain ⟨y, -, hu⟩ := List.mem_flatMap.1 hu
      simp only [encF, List.mem_cons, List.not_mem_nil, or_false] at hu
      rcases hu with rfl | rfl | rfl | rfl <;> rfl
    · simp only [maxLen]; omega
    · omega
    · intro v1 w1 hown hgrow _ _
      rw [Nat.zero_add, List.nil_append] at hown
      exact h v1 w1 (own_feeds hown hlen hfit) (below_own (Below.refl _ _) hgrow hnil (Nat.le_refl _))
  · have h0 : fs.length = 0 := by omega
    have hm0 : fs = [] := List.eq_nil_of_length_eq_zero h0
    subst hm0
    cases p with
    | none =>
      obtain rfl := hn rfl
      refine wpList_append_own_none hgd _ x 35 ho w.heap.size 23 i0 4 Try.underlying35 hi (.slice none 0 0) 0 [] rfl hnil hx ?_
      exact h _ _ ⟨none, 0, rfl, hlen, fun _ => rfl, hfit, fun h => by simp at h⟩ (Below.refl _ _)
    | some ad =>
      refine wpList_append_own_at w hgd _ x 35 ho w.heap.size 23 i0 _ 4 32 Try.underlying35 hi hz0 hz1 hz2 rfl (by decide) (.slice none 0 0) 0 [] rfl hnil ad 0 c [] hx (by simp) (fun j u hj => by simp at hj) (fun u hu => by simp at hu) (by simp [maxLen]) (by simp) (Nat.le_refl _) ?_
      intro v1 w1 hown hgrow _ _
      exact h v1 w1 (own_feeds (fs := []) hown hlen hfit) (below_own (Below.refl _ _) hgrow hnil (Nat.le_refl _))

set_option maxRecDepth 100000 in
set_option maxHeartbeats 4000000 in
theorem tables_any {v1 v2 : Value} {fs : List F} {zs : List Int} {w : World} (h1 : FeedsR w (fun _ => True) v1 fs) (h2 : IntsR w v2 zs) : Calls Try.prog 5 #[v1, v2] w fun e w' => e = .returned (.bool true) ∧ Below w.heap.size w w' := by
  obtain ⟨p1, c1, rfl, hl1, hn1, hf1, hc1⟩ := id h1
  obtain ⟨p2, c2, rfl, hl2, -⟩ := id h2
  obtain ⟨i0, hi0, hz0, hz1, hz2⟩ := info_parts infoFeed
  go_enter Try.func5, Try.ntmps5
  go_wp2_with (go_at_call 10; fail)
  refine (new_any _).mono ?_
  rintro e w1 ⟨rfl, ha1, hb1⟩
  go_wp2_with (go_at_call 10; fail)
  refine (new_any _).mono ?_
  rintro e w2 ⟨rfl, hbt, hb2⟩
  go_upto_region 5 with fail
  have hs1 := hb1.size
  have hs1' := lt_of_heap ha1.tab
  have hs2 := hb2.size
  have hs2' := lt_of_heap hbt.tab
  have hf2 := h1.below (hb1.trans (hb2.mono hs1))
  have ha2 := ha1.below hb2
  go_wp2_with (at_builtin; refine wpList_copy _ rfl _ rfl rfl hf2 ?_; intro v3 w3 hf3 hb3)
  refine (add_any (w.heap.size + 1) w.heap.size [] fs w3 (ha2.below hb3) hf3 (fun b hb hm => by rw [mine_nil] at hm; omega)).mono ?_
  rintro e w4 ⟨rfl, La, hJa⟩
  have hB4 : Below w.heap.size w w4 := below_turned_t (hb1.trans ((hb2.trans (hb3.mono hs2)).mono hs1)) hJa.turned (fun b hb => by rw [mine_nil] at hb; omega) (by have := hb3.size; omega)
  have hTb : TabAt w4 (w1.heap.size + 1) w1.heap.size [] := by
    have h3 := hbt.below hb3
    refine h3.kept (hJa.turned.block _ (lt_of_heap h3.tab) (by rw [mine_nil]; omega)) (hJa.turned.block _ (mine_lt h3 (.inl rfl)) (by rw [mine_nil]; omega)) (fun q hq => nomatch hq)
  have hne : ∀ b, (b = w.heap.size + 1 ∨ Mine w.heap.size La b) → b ≠ w1.heap.size ∧ b < w4.heap.size := by
    rintro b (rfl | hb)
    · exact ⟨by omega, by have := hB4.size; exact lt_of_heap hJa.tab.tab⟩
    · refine ⟨fun e => ?_, mine_lt hJa.tab hb⟩
      rcases hJa.mine b hb with h | h
      · rw [mine_nil] at h; omega
      · have := hb3.size; omega
  have hsz : w.heap.size ≤ w1.heap.size := by omega
  generalize w1.heap.size = B at *
  have hfew : (got La).length ≤ 4398046510976 := Nat.le_trans (got_few (keys_of hJa.tab) hJa.says) hl1
  have HA := hide (And.intro hJa.tab (And.intro hJa.says (And.intro hTb (And.intro hne (And.intro hB4 (And.intro hfew (And.intro h1 (And.intro h2 hsz))))))))
  clear hJa hTb hne hB4 hfew h1 h2 hf2 hf3 ha1 ha2 hbt hb1 hb2 hb3 hs1 hs2 hs1' hs2' hi0 hz0 hz1 hz2 hc1 hf1 hn1
  obtain ⟨n1, hn1⟩ : ∃ n, fs.length = n := ⟨_, rfl⟩
  obtain ⟨n2, hn2⟩ : ∃ n, zs.length = n := ⟨_, rfl⟩
  rw [hn1] at hl1 ⊢
  rw [hn2] at hl2 ⊢
  have HN := hide (And.intro hn1 hn2)
  clear hn1 hn2
  go_upto_region 6 with fail
  go_wp2
  go_loopw [7] (fun c7 wr => ∃ (k : Nat) (l : List F) (Lb : List Pl), k ≤ n2 ∧ c7 = .int .i64 k ∧ (∀ x ∈ l, x ∈ fs) ∧ Joined w4 (B + 1) B [] l wr Lb) (fun c7 _ => n2 - (intOf c7).toNat)
  case atStart => exact ⟨0, [], [], Nat.zero_le _, rfl, (fun x hx => nomatch hx), .zero HA.out.2.2.1⟩
  case round =>
    obtain ⟨k, l, Lb, hk, rfl, hsub, hj⟩ := hrel
    have hbU : Below w.heap.size w wr := below_turned_t HA.out.2.2.2.2.1 hj.turned (fun b hb => by rw [mine_nil] at hb; have := HA.out.2.2.2.2.2.2.2.2; omega) HA.out.2.2.2.2.1.size
    rcases (show (k < n2 ∧ 0 < n1) ∨ (k < n2 ∧ n1 = 0) ∨ n2 ≤ k by omega) with ⟨hlt, h0⟩ | ⟨hlt, h0⟩ | hge
    · obtain ⟨-, -, -, -, -, -, h1, h2, -⟩ := HA.out
      obtain ⟨hn1, hn2⟩ := HN.out
      obtain ⟨p, c, e1, -, -, hfit, hc1⟩ := h1.below hbU
      cases e1
      obtain ⟨b1, o1, rfl, -, hbl1, hc1⟩ := hc1 (by omega)
      obtain ⟨p, c, e2, -, hc2⟩ := h2.below hbU
      cases e2
      obtain ⟨b2, o2, rfl, hbl2, hc2⟩ := hc2 (by omega)
      have y2 := hc2 k (by omega)
      obtain ⟨z, hz⟩ : ∃ z, zs.getD k 0 = z := ⟨_, rfl⟩
      rw [hz] at y2
      have hlt' : (k : Int) < n2 := by omega
      have h0' : (0 : Int) < n1 := by omega
      have hk0 : (0 : Int) ≤ k := by omega
      obtain ⟨t1, t2⟩ := tmod_bt z n1 h0'
      have HX := hide (And.intro hsub (And.intro hj (And.intro hbU (And.intro hc1 hfit))))
      clear hsub hj hbU hc1 hc2 hz h1 h2 hn1 hn2 hfit
      go_upto_if 41 with fail
      go_cut [8] from 22 to 50 (fun s8 wx => ∃ kk : Nat, s8 = .int .i64 kk ∧ kk < n1 ∧ wx = wr)
      case first =>
        by_cases hneg : z.tmod n1 < 0
        · go_wp2_with fail
          all_goals go_meet
          exact ⟨(-(z.tmod n1)).toNat, by go_num, by omega, rfl⟩
        · go_wp2_with fail
          all_goals go_meet
          exact ⟨(z.tmod n1).toNat, by go_num, by omega, rfl⟩
      case rest =>
        obtain ⟨kk, rfl, hkk, rfl⟩ := hcut
        clear t1 t2 y2 hbl2 hlt'
        obtain ⟨hsub, hj, hbU, hc1, hfit⟩ := HX.out
        obtain ⟨hn1, hn2⟩ := HN.out
        obtain ⟨x, hx⟩ : ∃ x, fs[kk]? = some x := ⟨_, List.getElem?_eq_getElem (by omega)⟩
        have hmx := List.mem_of_getElem? hx
        have e0 := hc1 kk x hx 0 _ rfl
        have e1 := hc1 kk x hx 1 _ rfl
        have e2 := hc1 kk x hx 2 _ rfl
        have e3 := hc1 kk x hx 3 _ rfl
        simp only [Nat.add_zero] at e0
        have hR := FeedsR.one wc x (hfit x hmx)
        have HAdd := hide (add_any (B + 1) B Lb [x] _ (hj.tab.below ((Below.refl _ _).alloc (Nat.le_refl _) _)) hR (fun b hb hm => by have := mine_lt hj.tab hm; omega))
        obtain ⟨x0, x1, x2, x3⟩ := x
        dsimp only at e0 e1 e2 e3
        have hkk' : (kk : Int) < n1 := by omega
        have hkk0 : (0 : Int) ≤ kk := by omega
        clear hsub hj hbU hc1 hfit hn1 hn2 hx hR
        go_wp2_with (go_at_call 14; fail)
        refine HAdd.out.mono ?_
        rintro e w6 ⟨rfl, Lc, hjc⟩
        obtain ⟨hsub, hj, hbU, hc1, hfit⟩ := HX.out
        have HJ := hide (hj.more ((Below.refl _ _).alloc (Nat.le_refl _) _) hjc)
        have HS := hide (show ∀ x ∈ l ++ [(x0, x1, x2, x3)], x ∈ fs from fun x hx => by
          rcases List.mem_append.1 hx with hx | hx
          · exact hsub x hx
          · rw [List.mem_singleton.1 hx]; exact hmx)
        clear hsub hj hbU hc1 hfit hjc e0 e1 e2 e3 hmx HAdd
        go_wp2
        exact ⟨⟨k + 1, _, Lc, by omega, by go_num, HS.out, HJ.out⟩, by simp [intOf]; omega⟩
    all_goals (
      have HX := hide (And.intro hsub hj)
      clear hsub hj hbU
      go_upto_region 13 with fail
      go_wp2
      go_loopw [9] (fun c9 wr => ∃ (j : Nat) (l : List F) (Lb : List Pl), j ≤ n1 ∧ c9 = .int .i64 ((j : Int) - 1) ∧ (∀ x ∈ l, x ∈ fs) ∧ (∀ i x, j ≤ i → fs[i]? = some x → x ∈ l) ∧ Joined w4 (B + 1) B [] l wr Lb) (fun c9 _ => (intOf c9 + 1).toNat)
      case atStart =>
        refine ⟨n1, l, Lb, Nat.le_refl _, by go_num, HX.out.1, fun i x hi hx => ?_, HX.out.2⟩
        have := (List.getElem?_eq_some_iff.1 hx).1
        have := HN.out.1
        omega
      case round =>
        clear HX
        obtain ⟨j, l, Lb, hjn, rfl, hsub, hall, hj⟩ := hrel
        have hbU : Below w.heap.size w wr := below_turned_t HA.out.2.2.2.2.1 hj.turned (fun b hb => by rw [mine_nil] at hb; have := HA.out.2.2.2.2.2.2.2.2; omega) HA.out.2.2.2.2.1.size
        by_cases hj0 : 0 < j
        · first
          | (exfalso; omega)
          | (
            obtain ⟨-, -, -, -, -, -, h1, -, -⟩ := HA.out
            obtain ⟨hn1, hn2⟩ := HN.out
            obtain ⟨p, c, e1, -, -, hfit, hc1⟩ := h1.below hbU
            cases e1
            obtain ⟨b1, o1, rfl, -, hbl1, hc1⟩ := hc1 (by omega)
            obtain ⟨m, rfl⟩ : ∃ m, j = m + 1 := ⟨j - 1, by omega⟩
            obtain ⟨x, hx⟩ : ∃ x, fs[m]? = some x := ⟨_, List.getElem?_eq_getElem (by omega)⟩
            have hmx := List.mem_of_getElem? hx
            have e0 := hc1 m x hx 0 _ rfl
            have e1 := hc1 m x hx 1 _ rfl
            have e2 := hc1 m x hx 2 _ rfl
            have e3 := hc1 m x hx 3 _ rfl
            simp only [Nat.add_zero] at e0
            have hR := FeedsR.one wr x (hfit x hmx)
            have HAdd := hide (add_any (B + 1) B Lb [x] _ (hj.tab.below ((Below.refl _ _).alloc (Nat.le_refl _) _)) hR (fun b hb hm => by have := mine_lt hj.tab hm; omega))
            rw [show ((m + 1 : Nat) : Int) - 1 = (m : Int) by omega]
            have hm1 : (m : Int) < n1 := by omega
            have hm0 : (0 : Int) ≤ m := by omega
            obtain ⟨x0, x1, x2, x3⟩ := x
            dsimp only at e0 e1 e2 e3
            have HX := hide (And.intro hsub (And.intro hall (And.intro hj hx)))
            clear hsub hall hj hbU hc1 hfit hn1 hn2 hx hR h1 hj0
            go_wp2_with (go_at_call 14; fail)
            refine HAdd.out.mono ?_
            rintro e w6 ⟨rfl, Lc, hjc⟩
            obtain ⟨hsub, hall, hj, hx⟩ := HX.out
            have HJ := hide (hj.more ((Below.refl _ _).alloc (Nat.le_refl _) _) hjc)
            have HS := hide (show (∀ x ∈ l ++ [(x0, x1, x2, x3)], x ∈ fs) ∧ (∀ i x, m ≤ i → fs[i]? = some x → x ∈ l ++ [(x0, x1, x2, x3)]) from ⟨fun x hx => by
              rcases List.mem_append.1 hx with hx | hx
              · exact hsub x hx
              · rw [List.mem_singleton.1 hx]; exact hmx, fun i x hi hxi => by
              by_cases e : i = m
              · rw [e, hx] at hxi
                cases hxi
                simp
              · exact List.mem_append_left _ (hall i x (by omega) hxi)⟩)
            clear hsub hall hj hjc hx e0 e1 e2 e3 hmx HAdd
            go_wp2
            exact ⟨⟨m, _, Lc, by omega, by go_num, HS.out.1, HS.out.2, HJ.out⟩, by first | (simp [intOf]; done) | (simp [intOf]; omega)⟩)
        · obtain rfl : j = 0 := by omega
          obtain ⟨hta, hsa, htb, hne, hB4, hfew, -, -, hwB⟩ := HA.out
          have hlen := HN.out.1
          have htA : TabAt wr (w.heap.size + 1) w.heap.size La := by
            have hk : ∀ b, (b = w.heap.size + 1 ∨ Mine w.heap.size La b) → wr.heap[b]? = w4.heap[b]? := fun b hb => by
              obtain ⟨e1, e2⟩ := hne b hb
              exact hj.turned.block b e2 (by rw [mine_nil]; exact e1)
            exact hta.kept (hk _ (.inl rfl)) (hk _ (.inr (.inl rfl))) fun q hq => hk _ (.inr (.inr ⟨q, hq, rfl⟩))
          have hmem : ∀ x, x ∈ l ↔ x ∈ fs := fun x => ⟨hsub x, fun hx => by
            obtain ⟨i, hi⟩ := List.mem_iff_getElem?.1 hx
            exact hall i x (Nat.zero_le _) hi⟩
          have htv : tv La = tv Lb := by rw [hsa, hj.says]; exact addTs_same (fun x => (hmem x).symm) _
          have htv2 : ∀ p c, (tv La p c).1 = (tv Lb p c).1 ∧ (tv La p c).2.1 = (tv Lb p c).2.1 := fun p c => by rw [htv]; exact ⟨rfl, rfl⟩
          have hsz2 := got_size (keys_of htA) (keys_of hj.tab) htv2
          have HAllA := hide (all_any sort_ok none_ok (w.heap.size + 1) w.heap.size La wr htA (by omega))
          have HAllB := hide (fun w5 (h5 : Below wr.heap.size wr w5) => all_any sort_ok none_ok (B + 1) B Lb w5 (hj.tab.below h5) (by omega))
          have HX := hide (And.intro (keys_of htA) (And.intro (keys_of hj.tab) (And.intro htv2 (And.intro hsz2 (And.intro hfew hbU)))))
          clear hta hsa htb hne hB4 hfew htA hmem htv htv2 hsz2 hsub hall hj hbU hlen hjn
          go_wp2_with (go_at_call 13; fail)
          refine HAllA.out.mono ?_
          rintro e w5 hd5
          obtain ⟨va, la, rfl, hfa, hpa, hsa, hb5⟩ := hd5.fd (by have := HX.out.2.2.2.2.1; omega)
          go_wp2_with (go_at_call 13; fail)
          refine (HAllB.out w5 hb5).mono ?_
          rintro e w6 hd6
          obtain ⟨vb, lb, rfl, hfb, hpb, hsb, hb6⟩ := hd6.fd (by have := HX.out.2.2.2.2.1; have := HX.out.2.2.2.1; omega)
          obtain rfl := all_same HX.out.1 HX.out.2.1 HX.out.2.2.1 hpa hpb hsa hsb
          have hfa6 := hfa.below hb6
          go_wp2_with (go_at_call 15; fail)
          refine (same_any la w6 hfa6 hfb).mono ?_
          rintro e w7 ⟨rfl, hb7⟩
          have HB7 := hide (HX.out.2.2.2.2.2.trans ((hb5.trans ((hb6.trans (hb7.mono hb6.size)).mono hb5.size)).mono HX.out.2.2.2.2.2.size))
          clear hfa hfb hfa6 hpa hpb hsa hsb hb5 hb6 hb7 HX HAllA HAllB hd5 hd6
          go_wp2_with (go_at_call 9; fail)
          refine (awake_any w7).mono ?_
          rintro e w8 ⟨rfl, hb8⟩
          have HB8 := hide (HB7.out.trans (hb8.mono HB7.out.size))
          clear hb8
          go_wp2
          go_ret
          exact ⟨rfl, HB8.out⟩)

end Go.Proofs.Ytmgafcbhoamkkaa
