/-
  The walks of prim.Do and of the law's desk.do, for a primitive of the map of words.
-/
import Derived.Test.YtafignheedbnbaaGreatDoorPhF
import Derived.Test.YtafignheedbnbaaGreatDoorPhI
import Derived.Deep.RegionWith
import Derived.Test.YtafignheedbnbaaGreatDoorPhD
import Derived.Test.YtafignheedbnbaaGreatDoorLaw
namespace Go.Proofs.YtafignheedbnbaaGreatDoor
open Go.RowKit Go.BigFrame
set_option linter.unusedSimpArgs false
set_option linter.unusedVariables false

/-- What is known of a primitive, ahead of its call: its function turns the store so, and comes to v. -/
structure Does (S : Sto) (w : World) (h h' : List Ob) (sy sy' : List (ByteArray × Nat)) (i : Nat) (xs : List Nat) (v : Nat) : Prop where
  i85 : i < 85
  fn : ∃ f, findT (primT.getD i ([], 0, 0)).1 wordsT = some f ∧ (∀ (args : Array Value) (W : World), (callFunc f args).run Tryz.prog W = .ok (.enter f args) W) ∧
    ∀ (W : World) (cb : Nat) (M' : Nat → Prop) (A' : Option Addr) (c' : Nat), PAt W S M' h sy cb (nm i) A' c' xs → Below S.B w W → Calls Tryz.prog f #[.pointer (some ⟨cb, 0, none⟩)] W (Grew S M' W h' sy' (.int .u64 v))
  often : (oftenNames.all fun t => !((nm i).toList == t)) = true
  n0 : 0 < xs.length
  n1 : xs.length ≤ 1000
  le : least i ≤ xs.length
  mo : most i < 0 ∨ (xs.length : Int) ≤ most i
  may : MayAll h xs


theorem Turns.keep {S' : Nat → Prop} {B : Nat} {w0 a b : World} (hb : Below B w0 a) (h : Turns S' a b) (hs : ∀ i, S' i → B ≤ i) (hB : B ≤ w0.heap.size) : Below B w0 b :=
  ⟨h.os.trans hb.os, h.tape.trans hb.tape, h.output.trans hb.output, Nat.le_trans hb.size h.size, fun i hi => (h.block i (by have := hb.size; omega) fun e => by have := hs i e; omega).trans (hb.block i hi)⟩

set_option maxHeartbeats 1000000 in
theorem pdo_any {w0 w : World} {S : Sto} {M : Nat → Prop} {h h' : List Ob} {sy sy' : List (ByteArray × Nat)} (k : SAt w S M h sy) (hB : S.B ≤ w0.heap.size) (hb0 : Below S.B w0 w) {i v : Nat} {xs : List Nat} (d : Does S w0 h h' sy sy' i xs v) {A : Option Addr} {c : Nat} (hsl : SlU w M A xs) :
    Calls Tryz.prog 20 #[.pointer (some ⟨S.sb, 0, none⟩), .int .i64 i, .slice A xs.length c] w (Grew S M w h' sy' (.tuple #[.int .u64 v, .slice none 0 0, .int .i64 0])) := by
  have HK := hide (And.intro k (And.intro hB (And.intro hb0 hsl)))
  obtain ⟨f, hf1, hf2, hf3⟩ := d.fn
  have HF := hide (And.intro hf1 (And.intro hf2 hf3))
  have HD := hide d
  have HT := hide (fun (w1 : World) (tb cb j : Nat) (hb1 : Below w.heap.size w w1) (ht : TabAt w1 tb cb) (hcb : w1.heap[cb]? = some (.cells #[.pointer none, .string ⟨#[]⟩, .slice none 0 0, .slice none 0 0, .int .i64 0] 151 (0, 0))) (hc : w.heap.size ≤ cb) (htb : w.heap.size ≤ tb)
      (hj : Instr.findNow .string (.string (nm i)) (wordsOf cb).toList 0 = some (some (j, .func (.func f) #[.pointer (some ⟨cb, 0, none⟩)] #[]))) =>
    tdo_words (k.below hb1) ht hcb ⟨k.far hc, k.far htb⟩ i d.i85 hj (c := c) d.n0 d.n1 d.le d.mo (hsl.below hb1) d.may (v := v) hf2 (fun W A' c' hca => often_no hca d.often)
      (fun W M' A' c' h1 h2 h3 h4 h5 => hf3 W cb M' A' c' ⟨h1, h2, h3, h4⟩ (Turns.keep (hb0.trans (hb1.mono (by have := hb0.size; omega))) h5 (fun b e => by
        rcases e with e | e
        · exact (k.lt b e).1
        · have := hb0.size; omega) hB)))
  obtain ⟨n, hn⟩ : ∃ n, xs.length = n := ⟨_, rfl⟩
  rw [hn] at HT ⊢
  clear k hsl hb0 hf1 hf2 hf3 d hn hB
  go_enter Tryz.func20, Tryz.ntmps20
  go_wp2_with (go_at_call 55; fail)
  refine (newt_any w).mono ?_
  rintro e w1 ⟨tb, cb, rfl, ht, hcb, hc, htb, hb1⟩
  obtain ⟨j, hj⟩ := words_find HF.out.1 cb
  have HT1 := hide (HT.out w1 tb cb j hb1 ht hcb hc htb hj)
  have H1 := hide (And.intro hb1 hc)
  clear ht hcb hc htb hb1 hj
  go_wp2_with (go_at_call 56; fail)
  refine HT1.out.mono ?_
  rintro e w2 ⟨rfl, M2, k2, t2, m2⟩
  have H2 := hide (And.intro k2 (And.intro t2 m2))
  clear k2 t2 m2
  go_wp2
  refine bodyPost_ret (v := .tuple #[.int .u64 v, .slice none 0 0, .int .i64 0]) (by simp [results, Tryz.results20, go_sem]) rfl ?_
  obtain ⟨k2, t2, m2⟩ := H2.out
  obtain ⟨hb1, hc⟩ := H1.out
  refine ⟨rfl, M2, k2, ⟨(Turns.of_below hb1).trans' t2 fun b hb e => ?_, fun b e => ?_⟩⟩
  · rcases e with e | e
    · exact e
    · omega
  · rcases m2 b e with e | e
    · exact .inl e
    · exact .inr (by have := hb1.size; omega)

set_option maxHeartbeats 1000000 in
theorem ddo_any {w0 w : World} {S : Sto} {M : Nat → Prop} {h h' : List Ob} {sy sy' : List (ByteArray × Nat)} (k : SAt w S M h sy) (hB : S.B ≤ w0.heap.size) (hb0 : Below S.B w0 w) {i v : Nat} {xs : List Nat} (d : Does S w0 h h' sy sy' i xs v) {A : Option Addr} {c : Nat} (hsl : SlU w M A xs) :
    Calls Tryz.prog 26 #[.agg #[.pointer (some ⟨S.sb, 0, none⟩)], .string (nm i), .slice A xs.length c] w (Grew S M w h' sy' (.int .u64 v)) := by
  have HP := hide (fun (w1 : World) (hb : Below w.heap.size w w1) => pdo_any (k.below hb) hB (hb0.trans (hb.mono (by have := hb0.size; omega))) d (c := c) (hsl.below hb))
  have HN := hide (fun (w1 : World) => number_any (nm i) w1)
  rw [lastN_at (i := i) (by have := d.i85; omega) rfl 92 (Nat.le_refl _), if_pos (by have := d.i85; omega)] at HN
  obtain ⟨n, hn⟩ : ∃ n, xs.length = n := ⟨_, rfl⟩
  rw [hn] at HP ⊢
  generalize nm i = s at *
  clear k hsl hb0 d hn hB
  go_enter Tryz.func26, Tryz.ntmps26
  go_upto_region 1 with fail
  refine genW (fun U => U.cell? ⟨w.heap.size, 0, none⟩ = some (.pointer (some ⟨S.sb, 0, none⟩)) ∧ w.heap.size < U.heap.size ∧ Below w.heap.size w U) ⟨by simp, by simp, (Below.refl _ _).alloc (Nat.le_refl _) _⟩ ?_
  intro U hU
  obtain ⟨b, hb⟩ : ∃ b, w.heap.size = b := ⟨_, rfl⟩
  rw [hb]
  have HU := hide hU
  rw [hb] at hU
  obtain ⟨d0, hbl, -⟩ := hU
  have HB := hide hb
  have HNU := hide ((HN.out U.drew).mono fun e w1 ⟨e1, hb1⟩ => (show e = Ending.returned (Value.int .i64 i) ∧ w1.cell? ⟨b, 0, none⟩ = some (Value.pointer (some ⟨S.sb, 0, none⟩)) ∧ Below w.heap.size w w1 from ⟨e1, (hb1.cell (p := ⟨b, 0, none⟩) hbl).trans d0, HU.out.2.2.drew.trans (hb1.mono HU.out.2.2.drew.size)⟩))
  clear hb
  go_region_with (first
    | (go_at_call 21; refine HNU.out.mono ?_; rintro e w1 ⟨rfl, d1, hb1⟩)
    | (go_at_call 20; refine (HP.out _ hb1).mono ?_; rintro e w2 ⟨rfl, M2, k2, s2⟩))
  all_goals
    have H2 := hide (And.intro k2 ((Step.of_below M hb1).trans s2))
    clear k2 s2 hb1 d1
    go_wp2
    go_ret
    exact ⟨rfl, M2, H2.out.1, H2.out.2⟩

end Go.Proofs.YtafignheedbnbaaGreatDoor

/-
  The walks of tandemlaw00.Place and of the law's desk.list: a list of small numbers.
-/
namespace Go.Proofs.YtafignheedbnbaaGreatDoor
open Go.RowKit Go.BigFrame
set_option linter.unusedSimpArgs false
set_option linter.unusedVariables false

/-- A number in a place below n. -/
def placeN (v : Int) (n : Nat) : Nat := if v.tmod n < 0 then (v.tmod n + n).toNat else (v.tmod n).toNat
theorem placeN_lt (v : Int) (n : Nat) (hn : 1 ≤ n) : placeN v n < n := by
  have h1 := Int.tmod_lt_of_pos v (show (0 : Int) < n by omega)
  have h2 := Int.lt_tmod_of_pos v (show (0 : Int) < n by omega)
  unfold placeN
  split <;> omega

set_option maxHeartbeats 400000 in
theorem place_any (v : Int) (n : Nat) (w : World) (hn : 1 ≤ n) (hn2 : n ≤ 1000) :
    Calls Tryz.prog 28 #[.int .i64 v, .int .i64 n] w fun e w' => e = .returned (.int .i64 (placeN v n)) ∧ w = w' := by
  have hn0 : ((n : Int) == 0) = false := beq_eq_false_iff_ne.2 (by omega)
  have hn' : ¬ (n : Int) = 0 := by omega
  have h1 := Int.tmod_lt_of_pos v (show (0 : Int) < n by omega)
  have h2 : -(n : Int) < v.tmod n := by
    have := Int.lt_tmod_of_pos v (show (0 : Int) < n by omega)
    omega
  by_cases hv : v.tmod n < 0
  · have hp : (placeN v n : Int) = v.tmod n + n := by unfold placeN; rw [if_pos hv]; omega
    have HP := hide hp
    clear hp
    go_enter Tryz.func28, Tryz.ntmps28
    go_wp2
    go_ret
    exact ⟨ret_int HP.out.symm, rfl⟩
  · have hp : (placeN v n : Int) = v.tmod n := by unfold placeN; rw [if_neg hv]; omega
    have HP := hide hp
    clear hp
    go_enter Tryz.func28, Tryz.ntmps28
    go_wp2
    go_ret
    exact ⟨ret_int HP.out.symm, rfl⟩

/-- The words of small numbers. -/
def fixW (zs : List Int) : List Nat := zs.map fun z => 4 * placeN z 1000 + 1
theorem fixW_len (zs : List Int) : (fixW zs).length = zs.length := by simp [fixW]
theorem fixW_may (h : List Ob) (zs : List Int) : MayAll h (fixW zs) := fun x hx => by
  obtain ⟨z, -, rfl⟩ := List.mem_map.1 hx
  have := placeN_lt z 1000 (by omega)
  exact ⟨by omega, by omega, fun h0 => by omega⟩

section
variable {w w' : World} {S : Sto} {M : Nat → Prop} {h : List Ob} {sy : List (ByteArray × Nat)}

set_option maxHeartbeats 2000000 in
theorem dlist_any (k : SAt w S M h sy) {v : Value} {zs : List Int} (hi : IntsR w v zs) (hn : zs.length ≤ 1000) (hroom : 3 * zs.length + used h ≤ S.sz) :
    Calls Tryz.prog 25 #[.agg #[.pointer (some ⟨S.sb, 0, none⟩)], v] w (Grew S M w (chainO h 10 (fixW zs)).1 sy (.int .u64 (hd (chainO h 10 (fixW zs)).2 10 : Nat))) := by
  obtain ⟨iW, hiW, hW0, hW1, hW2⟩ := info_parts ph_infoW
  obtain ⟨p, c, rfl, -, hcells⟩ := hi
  have HC := hide hcells
  have HL := hide (fun (w1 : World) (hb : Below w.heap.size w w1) (A' : Option Addr) (c' : Nat) (hs : SlU w1 M A' (fixW zs)) => list_at (k.below hb) (c := c') hs (fixW_may h zs) (by rw [fixW_len]; exact hroom))
  rw [fixW_len] at HL
  have HK := hide k
  obtain ⟨n, hN⟩ : ∃ n, zs.length = n := ⟨_, rfl⟩
  obtain ⟨lw, hlw⟩ : ∃ lw, hd (chainO h 10 (fixW zs)).2 10 = lw := ⟨_, rfl⟩
  have HN := hide hN
  rw [hN] at hn ⊢
  rw [hN, hlw] at HL
  rw [hlw]
  clear k hcells hroom hN hlw
  go_enter Tryz.func25, Tryz.ntmps25
  go_upto_region 1 with fail
  refine genW (fun U => U.cell? ⟨w.heap.size, 0, none⟩ = some (.pointer (some ⟨S.sb, 0, none⟩)) ∧ w.heap.size < U.heap.size ∧ Below w.heap.size w U) ⟨by simp, by simp, (Below.refl _ _).alloc (Nat.le_refl _) _⟩ ?_
  intro U hU
  obtain ⟨b, hb⟩ : ∃ b, w.heap.size = b := ⟨_, rfl⟩
  have HU := hide (And.intro hU hb)
  rw [hb]
  clear hU hb
  go_wp2
  go_loopw [5, 6] (fun l q wr => ∃ (k : Nat) (a : Option Addr) (cp : Nat), k ≤ n ∧ q = .int .i64 k ∧ l = .slice a k cp ∧ Row U ((fixW zs).take k) (.slice a k cp) wr ∧ Below U.heap.size U wr) (fun _ q _ => n - (intOf q).toNat)
  case atStart => exact ⟨0, none, 0, Nat.zero_le _, rfl, rfl, ⟨by simp, .inl ⟨rfl, by simp⟩⟩, Below.refl _ _⟩
  case round =>
    obtain ⟨k, a, cp, hk, rfl, rfl, hr, hbw⟩ := hrel
    by_cases hlt : k < n
    · obtain ⟨b0, o0, rfl, hbl, hcs⟩ := HC.out (by have := HN.out; omega)
      obtain ⟨z, hz⟩ : ∃ z, zs.getD k 0 = z := ⟨_, rfl⟩
      have hbU := HU.out.1.2.2.trans (hbw.mono HU.out.1.2.2.size)
      have hc := (hbU.cell (p := ⟨b0, o0 + k, none⟩) hbl).trans (hcs k (by have := HN.out; omega))
      rw [hz] at hc
      have hpl := placeN_lt z 1000 (by omega)
      have HPl := hide (place_any z 1000 wr (by omega) (by omega))
      obtain ⟨pl, hpl2⟩ : ∃ pl, placeN z 1000 = pl := ⟨_, rfl⟩
      rw [hpl2] at HPl hpl
      have hown := ph_kept (w' := wr.alloc (.cells #[.int .u64 ((pl : Int) * 4 + 1)] 29)) hr fun b e => Below.heap_alloc wr _ b (ph_own hr e).2.1
      have hl3 : ((fixW zs).take k).length = k := by rw [List.length_take, fixW_len]; have := HN.out; omega
      rw [hl3] at hown
      have HO := hide hown
      have HX := hide (And.intro hz (And.intro hpl2 (And.intro hbw hr)))
      have HC3 := hide (show (wr.alloc (.cells #[.int .u64 ((pl : Int) * 4 + 1)] 29)).cell? ⟨wr.heap.size, 0, none⟩ = some (.int .u64 ((pl : Int) * 4 + 1)) by simp)
      have HB3 := hide (show U.heap.size ≤ (wr.alloc (.cells #[.int .u64 ((pl : Int) * 4 + 1)] 29)).heap.size by have := hbw.size; simp; omega)
      have hk1 : 0 < k + 1 := Nat.succ_pos k
      have HMX := hide (And.intro (show k + 1 ≤ maxLen by simp only [maxLen]; omega) (show (k + 1) * 8 ≤ 140737488355328 by omega))
      have hlt' : (k : Int) < n := by omega
      have hk0 : (0 : Int) ≤ k := by omega
      clear hcs hbU hz hpl2 hown hl3 hr hbw
      go_wp2_with (go_at_call 28; fail)
      refine HPl.out.mono ?_
      rintro e w1 ⟨rfl, rfl⟩
      clear hc
      go_upto_region 4 with (at_builtin; refine wpList_append1 _ rfl (.tmp 15) (.tmp 24) 66 rfl U.heap.size 29 iW _ 8 Tryz.underlying66 hiW hW0 hW1 hW2 rfl (.slice a k cp) k _ rfl HO.out wr.heap.size _ rfl HC3.out rfl HMX.out.1 HMX.out.2 HB3.out ?_; intro v4 w4 hown4 hgrow4; obtain ⟨G, cap, hform, hGB, hGl⟩ := hown4.form hk1; subst hform)
      have hb4 : Below U.heap.size U w4 := below_own (HX.out.2.2.1.alloc HX.out.2.2.1.size _) hgrow4 HO.out HB3.out
      have H4 := hide (And.intro hb4 hown4)
      clear hb4 hown4 hgrow4 hGB hGl
      go_wp2
      refine ⟨⟨k + 1, some ⟨G, 0, none⟩, cap, by omega, by go_num, rfl, ?_, H4.out.1⟩, by simp [intOf]; omega⟩
      have hzk : zs[k]? = some z := by
        have := HX.out.1
        rw [List.getD_eq_getElem?_getD, List.getElem?_eq_getElem (by have := HN.out; omega)] at this
        rw [List.getElem?_eq_getElem (by have := HN.out; omega)]
        simpa using this
      have hfk : (fixW zs)[k]? = some (4 * pl + 1) := by
        unfold fixW
        rw [List.getElem?_map, hzk]
        simp [HX.out.2.1]
      have hts : (fixW zs).take (k + 1) = (fixW zs).take k ++ [4 * pl + 1] := by
        have hyk := (List.getElem?_eq_some_iff.1 hfk)
        rw [List.take_succ_eq_append_getElem hyk.1, hyk.2]
      have hown4 := H4.out.2
      show World.ownsRow _ _ _ _ _ ((fixW zs).take (k + 1)).length _
      rw [hts, List.map_append, List.length_append, List.length_take, Nat.min_eq_left (by rw [fixW_len]; have := HN.out; omega)]
      have e : List.map wV [4 * pl + 1] = [Value.int .u64 ((pl : Int) * 4 + 1)] := by
        have e0 : ((4 * pl + 1 : Nat) : Int) = (pl : Int) * 4 + 1 := by omega
        simp only [List.map_cons, List.map_nil, wV]
        rw [e0]
      rw [e]
      exact hown4
    · obtain rfl : k = n := by omega
      have hbU := HU.out.1.2.2.trans (hbw.mono HU.out.1.2.2.size)
      have e1 : (fixW zs).take k = fixW zs := List.take_of_length_le (by rw [fixW_len]; have := HN.out; omega)
      rw [e1] at hr
      have hs : SlU wr M a (fixW zs) := by
        obtain ⟨A', c', e2, hs⟩ := hr.form M (fun b e => by have := (HK.out.lt b e).2; have := HU.out.1.2.2.size; omega)
        cases e2
        exact hs
      have HL1 := hide (HL.out wr hbU a cp hs)
      have d0 : wr.cell? ⟨b, 0, none⟩ = some (.pointer (some ⟨S.sb, 0, none⟩)) := by
        rw [← HU.out.2, hbw.cell (p := ⟨w.heap.size, 0, none⟩) HU.out.1.2.1]; exact HU.out.1.1
      have HB := hide hbU
      clear hr hs hbU hbw e1
      go_wp2_with (go_at_call 33; fail)
      refine HL1.out.mono ?_
      rintro e w2 ⟨rfl, M2, k2, s2⟩
      have H2 := hide (And.intro k2 s2)
      clear k2 s2 d0
      go_wp2
      go_ret
      exact ⟨rfl, M2, H2.out.1, (Step.of_below M HB.out).trans H2.out.2⟩

end
end Go.Proofs.YtafignheedbnbaaGreatDoor
