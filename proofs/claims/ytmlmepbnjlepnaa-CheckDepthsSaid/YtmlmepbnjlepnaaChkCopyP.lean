/-
  The walk of tandemlaw00.CopyProtos: the same protos, in new memory.
-/
import Derived.Test.YtmlmepbnjlepnaaChkCopyL
namespace Go.Proofs.Ytmlmepbnjlepnaa
open Go.RowKit Go.BigFrame
set_option linter.unusedSimpArgs false

def CopyPDone (w : World) (L : List PrV) (e : Ending) (w' : World) : Prop :=
  ∃ psa cap L', e = .returned (.slice psa L'.length cap) ∧ PsAt w' psa L' ∧ prs L' = prs L ∧ Below w.heap.size w w'

theorem prs_snoc (L : List PrV) (v : PrV) : prs (L ++ [v]) = prs L ++ [v.pr] := by unfold prs; simp

theorem prs_take {L : List PrV} {k : Nat} {v : PrV} (h : L[k]? = some v) : prs (L.take (k + 1)) = prs (L.take k) ++ [v.pr] := by
  rw [take_snoc h, prs_snoc]

/-- Behind the last append: the protos in memory. -/
theorem psAt_own {w : World} {B : Nat} {psa : Option Addr} {cap : Nat} {L : List PrV} (h : w.ownsRow B 32 7 (.slice psa L.length cap) L.length (L.flatMap PrV.cells)) (hc : ∀ v ∈ L, CodeI w v.ca v.pr.code) (hlen : L.length ≤ 140737488351232)
    (hnc : ∀ p ∈ prs L, p.nc ≤ 140737488351232) (hnn : ∀ p ∈ prs L, p.nn ≤ 140737488351232) (hnk : ∀ p ∈ prs L, p.code.length ≤ 5864062014635) (hnb : ∀ p ∈ prs L, ∀ x ∈ p.code, x.b ≤ 9223372036854775807) : PsAt w psa L := by
  have hm : ∀ v ∈ L, v.pr ∈ prs L := fun v hv => List.mem_map.2 ⟨v, hv, rfl⟩
  refine ⟨fun i hi => ?_, fun v hv => (hc v hv).at, hlen, fun v hv => hnc _ (hm v hv), fun v hv => hnn _ (hm v hv), fun v hv => hnk _ (hm v hv), fun v hv => hnb _ (hm v hv)⟩
  rcases h.2 with ⟨h1, h2⟩ | ⟨g, cap', cur, h1, h2, h3, h4, h5, h6, h7⟩
  · omega
  · cases h1
    obtain ⟨v, hv⟩ : ∃ v, L[i]? = some v := ⟨_, List.getElem?_eq_getElem hi⟩
    refine ⟨g, 0, v, rfl, lt_of_heap h3, hv, fun j hj => ?_⟩
    have e := cells_get L i v hv j hj
    rw [← h7, List.getElem?_take, if_pos (by omega), Array.getElem?_toList] at e
    rw [← e, Nat.zero_add]
    simp [World.cell?, h3]

theorem box_store {w : World} {b : Nat} {cs : List Value} {W : World} (h : BoxP w b cs) (hb : W.heap.size ≤ b) (hw : Below W.heap.size W w) (i : Nat) (v : Value) : BoxP (w.setCell ⟨b, i, none⟩ v) b (cs.set i v) ∧ Below W.heap.size W (w.setCell ⟨b, i, none⟩ v) :=
  ⟨h.set i v, hw.setCell (p := ⟨b, i, none⟩) hb v⟩

set_option maxRecDepth 100000 in
set_option maxHeartbeats 4000000 in
theorem copyProtos_any (psa : Option Addr) (cap : Nat) (L : List PrV) (w : World) (hps : PsAt w psa L) (hsrc : ∀ v ∈ L, SrcR w v) (hlen : L.length ≤ 1256584717421) :
    Calls Try.prog 11 #[.slice psa L.length cap] w (CopyPDone w L) := by
  obtain ⟨i0, hi, hz0, hz1, hz2⟩ := info_parts infoProto
  obtain ⟨n, hn⟩ : ∃ n, L.length = n := ⟨_, rfl⟩
  have HI := hide (And.intro hn (And.intro hps hsrc))
  rw [hn] at hlen ⊢
  clear hn hps hsrc
  go_enter Try.func11, Try.ntmps11
  go_wp2
  go_loopw [3, 4] (fun c3 c4 wr => ∃ (k : Nat) (L' : List PrV), k ≤ n ∧ c4 = .int .i64 k ∧ L'.length = k ∧ wr.ownsRow w.heap.size 32 7 c3 k (L'.flatMap PrV.cells) ∧ prs L' = prs (L.take k) ∧ (∀ v ∈ L', CodeI wr v.ca v.pr.code) ∧ Below w.heap.size w wr)
    (fun _ c4 _ => n - (intOf c4).toNat)
  case atStart => exact ⟨0, [], Nat.zero_le _, rfl, rfl, World.ownsRow_nil _ _ _ _, by rw [List.take_zero], (fun v hv => nomatch hv), Below.refl _ _⟩
  case round =>
    obtain ⟨k, L', hk, rfl, hLk, hown, hprs, hcode, hb⟩ := hrel
    by_cases hlt : k < n
    · obtain ⟨hn, hps, hsrc⟩ := HI.out
      obtain ⟨b, o, v, rfl, hbl, hv, hc⟩ := hps.row k (by omega)
      have hmem := List.mem_of_getElem? hv
      have hs := (hsrc v hmem).below hb
      have hnk := hps.nk v hmem
      have e0 := (hb.cell (p := ⟨b, o + k * 7 + 0, none⟩) hbl).trans (hc 0 (by omega))
      have e1 := (hb.cell (p := ⟨b, o + k * 7 + 1, none⟩) hbl).trans (hc 1 (by omega))
      have e2 := (hb.cell (p := ⟨b, o + k * 7 + 2, none⟩) hbl).trans (hc 2 (by omega))
      have e3 := (hb.cell (p := ⟨b, o + k * 7 + 3, none⟩) hbl).trans (hc 3 (by omega))
      have e4 := (hb.cell (p := ⟨b, o + k * 7 + 4, none⟩) hbl).trans (hc 4 (by omega))
      have e5 := (hb.cell (p := ⟨b, o + k * 7 + 5, none⟩) hbl).trans (hc 5 (by omega))
      have e6 := (hb.cell (p := ⟨b, o + k * 7 + 6, none⟩) hbl).trans (hc 6 (by omega))
      simp only [Nat.add_zero, PrV.cells, List.getElem?_cons_zero, List.getElem?_cons_succ] at e0 e1 e2 e3 e4 e5 e6
      have hbl' : b < wr.heap.size := Nat.lt_of_lt_of_le hbl hb.size
      have hlt' : (k : Int) < n := by omega
      have hk0 : (0 : Int) ≤ k := by omega
      have HR := hide (And.intro hLk (And.intro hown (And.intro hprs (And.intro hcode (And.intro hb (And.intro hv hnk))))))
      obtain ⟨hs1, hs2, ⟨d, hd1, hd2⟩, hs4⟩ := hs
      have HS := hide (And.intro hs1 (And.intro hs2 (And.intro hd1 (And.intro hd2 hs4))))
      have hbs := hb.size
      clear hLk hown hprs hcode hb hps hsrc hc hv hmem hs1 hs2 hd1 hd2 hs4 hnk hn
      go_upto_region 6 with fail
      refine genW (fun U => BoxP U wr.heap.size [.string v.nm, .int .i64 v.pr.args, .int .i64 v.pr.free, .bool v.pr.rest, .slice v.ca v.pr.code.length v.ccap, .slice v.ka v.pr.nc v.kcap, .slice v.na v.pr.nn v.ncap] ∧ Below wr.heap.size wr U) ⟨Deep.blk_alloc_new wr _, (Below.refl _ _).alloc (Nat.le_refl _) _⟩ ?_
      rintro U ⟨hbox, hbU⟩
      obtain ⟨bx, hbx⟩ : ∃ bx, wr.heap.size = bx := ⟨_, rfl⟩
      rw [hbx] at hbox
      have hW0 : w.heap.size ≤ bx := by omega
      have HU := hide (And.intro hbox (And.intro hbU (HS.out.1.below hbU)))
      obtain ⟨d0, d1, d2, d3, d4, d5, d6, hbxl, df⟩ := boxP7 hbox
      have df4 := df 4
      clear e0 e1 e2 e3 e4 e5 e6 hbox hbU df
      simp only [hbx]
      go_upto_region 7 with (at_builtin; refine wpList_copyI _ rfl _ rfl (v := v) rfl HU.out.2.2 HS.out.2.1 HR.out.2.2.2.2.2.2 ?_; intro p1 q1 w3 hI1 hb3; obtain ⟨g0, g1, g2, g3, g4, g5, g6, hbx3, gf⟩ := boxP7 (HU.out.1.below hb3))
      refine genW (fun U => BoxP U bx [.string v.nm, .int .i64 v.pr.args, .int .i64 v.pr.free, .bool v.pr.rest, .slice p1 v.pr.code.length q1, .slice v.ka v.pr.nc v.kcap, .slice v.na v.pr.nn v.ncap] ∧ Below wr.heap.size wr U ∧ CodeI U p1 v.pr.code) ?_ ?_
      · have hb1 := HU.out.1.below hb3
        have h1 := box_store (W := wr) hb1 (by omega) (HU.out.2.1.trans (hb3.mono (by have := HU.out.2.1.size; omega))) 4 (.slice p1 v.pr.code.length q1)
        exact ⟨h1.1, h1.2, hI1.set hb1 4 _⟩
      rintro U2 ⟨hbox, hbU, hI⟩
      have HU2 := hide (And.intro hbox (And.intro hbU hI))
      have hcs := copyAll_any d U2 (fun _ => True) _ (HS.out.2.2.2.1.stays (stays_below (hbU.mono (Nat.le_refl _))))
      have HC := hide hcs
      clear hI1 hb3 d0 d1 d2 d3 d4 d5 d6 df4 g0 g1 g2 g3 g4 g5 g6 gf HU hcs
      obtain ⟨d0, d1, d2, d3, d4, d5, d6, hbxl, df⟩ := boxP7 hbox
      have df5 := df 5
      clear hbox hbU hI df
      go_upto_region 8 with (go_at_call 18; refine HC.out.mono ?_; rintro e w4 ⟨v2, rfl, hm2, hb4⟩; obtain ⟨p2, q2, rfl, -⟩ := id hm2; obtain ⟨g0, g1, g2, g3, g4, g5, g6, hbx4, gf⟩ := boxP7 (HU2.out.1.below hb4))
      refine genW (fun U => BoxP U bx [.string v.nm, .int .i64 v.pr.args, .int .i64 v.pr.free, .bool v.pr.rest, .slice p1 v.pr.code.length q1, .slice p2 v.pr.nc q2, .slice v.na v.pr.nn v.ncap] ∧ Below wr.heap.size wr U ∧ CodeI U p1 v.pr.code) ?_ ?_
      · have hb1 := HU2.out.1.below hb4
        have h1 := box_store (W := wr) hb1 (by omega) (HU2.out.2.1.trans (hb4.mono (by have := HU2.out.2.1.size; omega))) 5 (.slice p2 d.len q2)
        rw [← HS.out.2.2.1]
        exact ⟨h1.1, h1.2, (HU2.out.2.2.below hb4).set hb1 5 _⟩
      rintro U3 ⟨hbox, hbU, hI⟩
      have HU3 := hide (And.intro hbox (And.intro hbU hI))
      have HN := hide (HS.out.2.2.2.2.below hbU)
      clear hm2 hb4 d0 d1 d2 d3 d4 d5 d6 df5 g0 g1 g2 g3 g4 g5 g6 gf HU2 HC
      obtain ⟨d0, d1, d2, d3, d4, d5, d6, hbxl, df⟩ := boxP7 hbox
      have df6 := df 6
      clear hbox hbU hI df
      go_upto_region 9 with (at_builtin; refine wpList_copyN _ rfl _ rfl rfl HN.out ?_; intro p3 q3 w5 hb5; obtain ⟨g0, g1, g2, g3, g4, g5, g6, hbx5, gf⟩ := boxP7 (HU3.out.1.below hb5))
      refine genW (fun U => BoxP U bx [.string v.nm, .int .i64 v.pr.args, .int .i64 v.pr.free, .bool v.pr.rest, .slice p1 v.pr.code.length q1, .slice p2 v.pr.nc q2, .slice p3 v.pr.nn q3] ∧ Below wr.heap.size wr U ∧ CodeI U p1 v.pr.code) ?_ ?_
      · have hb1 := HU3.out.1.below hb5
        have h1 := box_store (W := wr) hb1 (by omega) (HU3.out.2.1.trans (hb5.mono (by have := HU3.out.2.1.size; omega))) 6 (.slice p3 v.pr.nn q3)
        exact ⟨h1.1, h1.2, (HU3.out.2.2.below hb5).set hb1 6 _⟩
      rintro U4 ⟨hbox, hbU, hI⟩
      have HU4 := hide (And.intro hbox (And.intro hbU hI))
      clear hb5 d0 d1 d2 d3 d4 d5 d6 df6 g0 g1 g2 g3 g4 g5 g6 gf HU3 HN
      obtain ⟨d0, d1, d2, d3, d4, d5, d6, hbxl, df⟩ := boxP7 hbox
      have hbs4 := hbU.size
      clear hbox hbU hI df
      go_wp2_with (at_builtin; refine wpList_append_own_at _ rfl (.tmp 28) (.tmp 30) 38 rfl w.heap.size 32 i0 _ 7 112 Try.underlying38 hi hz0 hz1 hz2 rfl (by decide) _ k (L'.flatMap PrV.cells) rfl ((own_below HR.out.2.1 HU4.out.2.1).alloc _) ⟨U4.heap.size, 0, none⟩ 1 1 (PrV.cells ⟨v.nm, v.pr, p1, q1, p2, q2, p3, q3⟩) rfl rfl (new_cells _ _ _) cells_one (by simp only [maxLen]; omega) (by omega) (by rw [Deep.nblk_alloc]; omega) ?_; intro v6 w6 hown6 hgrow6 _ hat6)
      obtain ⟨hLk, hown, hprs, hcode, hb, hv, -⟩ := HR.out
      have hownU := own_below hown HU4.out.2.1
      refine ⟨⟨k + 1, L' ++ [⟨v.nm, v.pr, p1, q1, p2, q2, p3, q3⟩], by omega, by go_num, by rw [List.length_append, hLk]; rfl, by rw [List.flatMap_append]; simpa using hown6, by rw [prs_snoc, prs_take hv, hprs], ?_, ?_⟩, by simp [intOf]; omega⟩
      · intro v' hv'
        rcases List.mem_append.1 hv' with h | h
        · exact (((hcode v' h).below HU4.out.2.1).below ((Below.refl _ _).alloc (Nat.le_refl _) _)).grown hgrow6 (hownU.alloc _)
        · rw [List.mem_singleton.1 h]
          exact (HU4.out.2.2.below ((Below.refl _ _).alloc (Nat.le_refl _) _)).grown hgrow6 (hownU.alloc _)
      · exact below_own ((hb.trans (HU4.out.2.1.mono hb.size)).alloc (by omega) _) hgrow6 (hownU.alloc _) (by rw [Deep.nblk_alloc]; omega)
    · obtain rfl : k = n := by omega
      have HR := hide (And.intro hLk (And.intro hown (And.intro hprs (And.intro hcode hb))))
      clear hLk hown hprs hcode hb
      go_wp2
      go_ret
      obtain ⟨hLk, hown, hprs, hcode, hb⟩ := HR.out
      obtain ⟨hn, hps, hsrc⟩ := HI.out
      rw [← hn, List.take_length] at hprs
      obtain ⟨p, c, rfl⟩ := own_form' hown
      have hall : ∀ {P : Pr → Prop}, (∀ v ∈ L, P v.pr) → ∀ q ∈ prs L', P q := fun h q hq => by
        rw [hprs] at hq
        obtain ⟨v, hv, rfl⟩ := List.mem_map.1 hq
        exact h v hv
      refine ⟨p, c, L', by rw [hLk]; rfl, psAt_own (by rw [hLk]; exact hown) hcode (by omega) (hall hps.nc) (hall hps.nn) (hall hps.nk) (hall hps.nb), hprs, hb⟩

end Go.Proofs.Ytmlmepbnjlepnaa
