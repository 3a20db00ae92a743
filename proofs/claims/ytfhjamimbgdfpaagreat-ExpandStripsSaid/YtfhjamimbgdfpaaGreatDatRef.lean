/-
  The walk of tandemref08.Strip: what comes back reads as what was handed in, without its marks.
-/
import Derived.Test.YtfhjamimbgdfpaaGreatDatStrip
namespace Go.Proofs.YtfhjamimbgdfpaaGreat
open Go.RowKit Go.BigFrame

def RefOk (x : Hd × DL × DL) : Prop := ∀ (W : World) (N : Nat) (cs : List Value), N ≤ W.heap.size → ElemR W (fun b => b < N) cs x → Calls Tryz.prog 10 #[.agg ⟨cs⟩] W (StripE W N (stripE x))

set_option maxRecDepth 100000 in
set_option maxHeartbeats 8000000 in
theorem ref_of {x : Hd × DL × DL} (hi : ∀ e ∈ x.2.1.elems, RefOk e) (hr : ∀ e ∈ x.2.2.elems, RefOk e) : RefOk x := by
  intro W N cs hN h
  obtain ⟨vm, vi, vr, rfl, h1, h2, h3⟩ := h
  obtain ⟨⟨kd, n0, ng, mg, tx⟩, di, dr⟩ := x
  dsimp only at hi hr h1 h2 h3
  unfold headV
  dsimp only
  obtain ⟨i0, hi0, hz0, hz1, hz2⟩ := info_parts infoDatum
  obtain ⟨n', hn'⟩ : ∃ n', (if kd = 5 then 0 else n0) = n' := ⟨_, rfl⟩
  obtain ⟨bx, hbx⟩ : ∃ bx, W.heap.size = bx := ⟨_, rfl⟩
  obtain ⟨pm, qm, rfl, -⟩ := id h1
  obtain ⟨pi, qi, rfl, hli, hri⟩ := h2
  obtain ⟨pr, qr, rfl, hlr, hrr⟩ := h3
  obtain ⟨n, hn⟩ : ∃ n, di.len = n := ⟨_, rfl⟩
  obtain ⟨m, hm⟩ : ∃ m, dr.len = m := ⟨_, rfl⟩
  rw [hn] at hli hri ⊢
  rw [hm] at hlr hrr ⊢
  have HH := hide (And.intro (And.intro hi hr) (And.intro h1 (And.intro hri hrr)))
  clear hi hr h1 hri hrr
  go_enter Tryz.func10, Tryz.ntmps10
  go_upto_region 1 with fail
  refine genW (fun U => BoxD U W.heap.size [.int .i64 kd, .int .i64 n0, .bool ng, .slice pm mg.length qm, .string tx, .slice pi n qi, .slice pr m qr] ∧ BoxD U (W.heap.size + 1) [.int .i64 0, .int .i64 0, .bool false, .slice none 0 0, .string ⟨#[]⟩, .slice none 0 0, .slice none 0 0] ∧ Below W.heap.size W U ∧ U.heap.size = W.heap.size + 2) (twoB W _ _) ?_
  intro U hU
  rw [hbx] at hU
  obtain ⟨hB, hZ, hW, hsz⟩ := hU
  obtain ⟨c0, c1, c2, c3, c4, c5, c6, cf⟩ := box7 hB
  have H1 := hide (And.intro hB (And.intro hZ (And.intro hW hsz)))
  clear hB hZ hW hsz
  go_upto_if 9 with fail
  go_cut [1] from 7 to 10 (fun s1 wx => s1 = .pointer (some ⟨bx, 0, none⟩) ∧ BoxD wx bx [.int .i64 kd, .int .i64 n', .bool ng, .slice pm mg.length qm, .string tx, .slice pi n qi, .slice pr m qr] ∧ BoxD wx (bx + 1) [.int .i64 0, .int .i64 0, .bool false, .slice none 0 0, .string ⟨#[]⟩, .slice none 0 0, .slice none 0 0] ∧ Below bx W wx ∧ wx.heap.size = bx + 2)
  case first =>
    by_cases hk : kd = 5
    · rw [if_pos hk] at hn'
      subst hn'
      have hk' : (kd == 5) = true := by simp [hk]
      clear hk
      go_wp2_with fail
      all_goals go_meet
      obtain ⟨hB, hZ, hW, hsz⟩ := H1.out
      exact ⟨rfl, hB.set 1 _, hZ.other (by simp), hW.setCell (p := ⟨bx, 1, none⟩) (Nat.le_refl _) _, by simpa [World.setCell] using hsz⟩
    · rw [if_neg hk] at hn'
      subst hn'
      have hk' : (kd == 5) = false := by simp [hk]
      clear hk
      go_wp2_with fail
      all_goals go_meet
      obtain ⟨hB, hZ, hW, hsz⟩ := H1.out
      exact ⟨rfl, hB, hZ, hW, hsz⟩
  case rest =>
    obtain ⟨rfl, hB, hZ, hWc, hsz⟩ := hcut
    clear c0 c1 c2 c3 c4 c5 c6 cf H1
    rw [← hbx] at hWc
    have hWs := hWc.size
    have H1 := hide (And.intro hB (And.intro hZ (And.intro hWc hsz)))
    clear hB hZ hWc
    go_wp2
    go_loopw [3, 4] (fun c3 c4 wr => ∃ (k : Nat) (css : List (List Value)), k ≤ n ∧ c4 = .int .i64 k ∧ wr.ownsRow wc.heap.size 27 7 c3 k css.flatten ∧ ElemsR wr (fun b => (b < N ∨ wc.heap.size ≤ b) ∧ c3.ownBlock ≠ some b) css ((di.elems.map stripE).take k) ∧ Below wc.heap.size wc wr)
      (fun _ c4 _ => n - (intOf c4).toNat)
    case atStart => exact ⟨0, [], Nat.zero_le _, rfl, World.ownsRow_nil _ _ _ _, ⟨by simp, fun k cs e h => by simp at h⟩, Below.refl _ _⟩
    case round =>
      obtain ⟨k, css, hk, rfl, hown, hel, hb⟩ := hrel
      obtain ⟨c0, c1, c2, c3, c4, c5, c6, cf⟩ := box7 (H1.out.1.below hb)
      have hbs := hb.size
      by_cases hlt : k < n
      · obtain ⟨b, o, rfl, hq, hbl, hrow⟩ := HH.out.2.2.1 (by omega)
        obtain ⟨x, hx⟩ : ∃ x, di.elems[k]? = some x := ⟨_, List.getElem?_eq_getElem (by rw [← hn] at hlt; exact hlt)⟩
        obtain ⟨cs, he, hc⟩ := hrow.elem k x hx
        have hcp := HH.out.1.1 x (List.mem_of_getElem? hx) wr N cs (by omega) (he.stays ((stays_below H1.out.2.2.1).trans (stays_below hb)))
        have hc := hc.stays ((hb.block b (Nat.lt_of_lt_of_le hbl hWs)).trans (H1.out.2.2.1.block b hbl))
        obtain ⟨vm', vi', vr', rfl, -⟩ := he
        obtain ⟨⟨kd', nn, ng', mg', tx'⟩, di', dr'⟩ := x
        have e0 := hc 0 _ rfl
        have e1 := hc 1 _ rfl
        have e2 := hc 2 _ rfl
        have e3 := hc 3 _ rfl
        have e4 := hc 4 _ rfl
        have e5 := hc 5 _ rfl
        have e6 := hc 6 _ rfl
        simp only [Nat.add_zero] at e0 e1 e2 e3 e4 e5 e6
        have HR := hide (And.intro hown (And.intro hel (And.intro hb hx)))
        have HC := hide hcp
        have hlt' : (k : Int) < n := by omega
        have hk0 : (0 : Int) ≤ k := by omega
        clear hown hel hb hrow hc hcp hx hq
        go_wp2_with (first
          | (at_builtin; refine wpList_append_own_at _ rfl (.tmp 18) (.tmp 25) 25 rfl wc.heap.size 27 i0 _ 7 112 Tryz.underlying25 hi0 hz0 hz1 hz2 rfl (by decide) _ k css.flatten rfl ((own_below HR.out.1 hb1).alloc _) ⟨u1.heap.size, 0, none⟩ 1 1 (headV (stripH ⟨kd', nn, ng', mg', tx'⟩) ym yi yr) rfl rfl (new_cells _ _ _) hE'.one (by simp only [maxLen]; omega) (by omega) (by rw [Deep.nblk_alloc]; have := hb1.size; omega) ?_; intro v1 w1 hown1 hgrow1 _ hat)
          | (go_at_call 10; refine HC.out.mono ?_; rintro e u1 ⟨cs', rfl, hE', hb1⟩; obtain ⟨ym, yi, yr, rfl, -⟩ := id hE'; dsimp only [headV, stripE]))
        obtain ⟨hown, hel, hb, hx⟩ := HR.out
        have hs1 := hb1.size
        refine ⟨⟨k + 1, css ++ [headV (stripH ⟨kd', nn, ng', mg', tx'⟩) ym yi yr], by omega, by go_num, by rw [flatten_snoc]; exact hown1, ?_, ?_⟩, by simp [intOf]; omega⟩
        · rw [take_snoc (x := stripE (⟨kd', nn, ng', mg', tx'⟩, di', dr')) (by rw [List.getElem?_map, hx]; rfl)]
          refine (hel.stays (app_staysP _ hgrow1 hat hb1 (fun b h _ => h))).snoc (hE'.stays (app_staysP _ hgrow1 hat (Below.refl _ _) (fun b h _ => ⟨h.elim .inl fun h => .inr (by omega), fun e => ?_⟩)))
          have := hown.lt b e
          rcases h with h | h <;> omega
        · exact below_own ((hb.trans (hb1.mono hb.size)).alloc (by omega) _) hgrow1 ((own_below hown hb1).alloc _) (by rw [Deep.nblk_alloc]; omega)
      · obtain rfl : k = n := by omega
        have hge : ¬ ((k : Int) < k) := by omega
        have hsl : SliceR wr (fun b => b < N ∨ wc.heap.size ≤ b) u3 (strip di) := by
          refine own_slice (by rw [strip_len, hn]; exact hown) ?_ (by rw [strip_len]; omega) (fun g hg => .inr (hown.lt g hg).1)
          rw [List.take_of_length_le (by rw [List.length_map]; exact Nat.le_of_eq hn)] at hel
          rw [strip_elems]
          exact hel.stays (stays_refl fun b h _ => h.1)
        obtain ⟨p1, q1, rfl, -⟩ := id hsl
        rw [strip_len, hn] at hsl ⊢
        have HS := hide (And.intro hsl hb)
        clear hown hel hsl hb
        go_upto_region 9 with fail
        refine genW (fun U => BoxD U bx [.int .i64 kd, .int .i64 n', .bool ng, .slice pm mg.length qm, .string tx, .slice p1 k q1, .slice pr m qr] ∧ BoxD U (bx + 1) [.int .i64 0, .int .i64 0, .bool false, .slice none 0 0, .string ⟨#[]⟩, .slice none 0 0, .slice none 0 0] ∧ Below W.heap.size W U ∧ bx + 2 ≤ U.heap.size ∧ SliceR U (fun b => b < N ∨ bx + 2 ≤ b) (.slice p1 k q1) (strip di)) ?_ ?_
        · obtain ⟨hB, hZ, hWc, hsz⟩ := H1.out
          obtain ⟨hsl, hb⟩ := HS.out
          exact ⟨(hB.below hb).set 5 _, (hZ.below hb).other (by simp), (hWc.trans (hb.mono hWc.size)).setCell (p := ⟨bx, 5, none⟩) (by simp only; omega) _, by rw [Deep.nblk_setCell]; omega, hsl.stays ⟨by rw [Deep.nblk_setCell]; exact Nat.le_refl _, fun b hq _ => ⟨hq.elim .inl fun h => .inr (by omega), Deep.blk_setCell_other _ _ _ _ (by simp only; omega)⟩⟩⟩
        clear c0 c1 c2 c3 c4 c5 c6 cf HS H1 hbs hWs hsz hge
        intro U hU
        obtain ⟨hB, hZ, hWU, hsz, hsl⟩ := hU
        have hWs := hWU.size
        have H1 := hide (And.intro hB (And.intro hZ (And.intro hWU hsl)))
        clear hB hZ hWU hsl
        go_wp2
        go_loopw [5, 6] (fun c3 c4 wr => ∃ (k : Nat) (css : List (List Value)), k ≤ m ∧ c4 = .int .i64 k ∧ wr.ownsRow U.heap.size 27 7 c3 k css.flatten ∧ ElemsR wr (fun b => (b < N ∨ U.heap.size ≤ b) ∧ c3.ownBlock ≠ some b) css ((dr.elems.map stripE).take k) ∧ Below U.heap.size U wr)
          (fun _ c4 _ => m - (intOf c4).toNat)
        case atStart => exact ⟨0, [], Nat.zero_le _, rfl, World.ownsRow_nil _ _ _ _, ⟨by simp, fun k cs e h => by simp at h⟩, Below.refl _ _⟩
        case round =>
          obtain ⟨j, css, hj, rfl, hown, hel, hb⟩ := hrel
          obtain ⟨c0, c1, c2, c3, c4, c5, c6, cf⟩ := box7 (H1.out.1.below hb)
          have hbs := hb.size
          by_cases hlt : j < m
          · obtain ⟨b, o, rfl, hq, hbl, hrow⟩ := HH.out.2.2.2 (by omega)
            obtain ⟨x, hx⟩ : ∃ x, dr.elems[j]? = some x := ⟨_, List.getElem?_eq_getElem (by rw [← hm] at hlt; exact hlt)⟩
            obtain ⟨cs, he, hc⟩ := hrow.elem j x hx
            have hcp := HH.out.1.2 x (List.mem_of_getElem? hx) wr N cs (by omega) (he.stays ((stays_below H1.out.2.2.1).trans (stays_below hb)))
            have hc := hc.stays ((hb.block b (Nat.lt_of_lt_of_le hbl hWs)).trans (H1.out.2.2.1.block b hbl))
            obtain ⟨vm', vi', vr', rfl, -⟩ := he
            obtain ⟨⟨kd', nn, ng', mg', tx'⟩, di', dr'⟩ := x
            have e0 := hc 0 _ rfl
            have e1 := hc 1 _ rfl
            have e2 := hc 2 _ rfl
            have e3 := hc 3 _ rfl
            have e4 := hc 4 _ rfl
            have e5 := hc 5 _ rfl
            have e6 := hc 6 _ rfl
            simp only [Nat.add_zero] at e0 e1 e2 e3 e4 e5 e6
            have HR := hide (And.intro hown (And.intro hel (And.intro hb hx)))
            have HC := hide hcp
            have hlt' : (j : Int) < m := by omega
            have hk0 : (0 : Int) ≤ j := by omega
            clear hown hel hb hrow hc hcp hx hq
            go_wp2_with (first
              | (at_builtin; refine wpList_append_own_at _ rfl (.tmp 36) (.tmp 43) 25 rfl U.heap.size 27 i0 _ 7 112 Tryz.underlying25 hi0 hz0 hz1 hz2 rfl (by decide) _ j css.flatten rfl ((own_below HR.out.1 hb1).alloc _) ⟨u1.heap.size, 0, none⟩ 1 1 (headV (stripH ⟨kd', nn, ng', mg', tx'⟩) ym yi yr) rfl rfl (new_cells _ _ _) hE'.one (by simp only [maxLen]; omega) (by omega) (by rw [Deep.nblk_alloc]; have := hb1.size; omega) ?_; intro v1 w1 hown1 hgrow1 _ hat)
              | (go_at_call 10; refine HC.out.mono ?_; rintro e u1 ⟨cs', rfl, hE', hb1⟩; obtain ⟨ym, yi, yr, rfl, -⟩ := id hE'; dsimp only [headV, stripE]))
            obtain ⟨hown, hel, hb, hx⟩ := HR.out
            have hs1 := hb1.size
            refine ⟨⟨j + 1, css ++ [headV (stripH ⟨kd', nn, ng', mg', tx'⟩) ym yi yr], by omega, by go_num, by rw [flatten_snoc]; exact hown1, ?_, ?_⟩, by simp [intOf]; omega⟩
            · rw [take_snoc (x := stripE (⟨kd', nn, ng', mg', tx'⟩, di', dr')) (by rw [List.getElem?_map, hx]; rfl)]
              refine (hel.stays (app_staysP _ hgrow1 hat hb1 (fun b h _ => h))).snoc (hE'.stays (app_staysP _ hgrow1 hat (Below.refl _ _) (fun b h _ => ⟨h.elim .inl fun h => .inr (by omega), fun e => ?_⟩)))
              have := hown.lt b e
              rcases h with h | h <;> omega
            · exact below_own ((hb.trans (hb1.mono hb.size)).alloc (by omega) _) hgrow1 ((own_below hown hb1).alloc _) (by rw [Deep.nblk_alloc]; omega)
          · obtain rfl : j = m := by omega
            have hge : ¬ ((j : Int) < j) := by omega
            have hsl2 : SliceR wr (fun b => b < N ∨ U.heap.size ≤ b) u5 (strip dr) := by
              refine own_slice (by rw [strip_len, hm]; exact hown) ?_ (by rw [strip_len]; omega) (fun g hg => .inr (hown.lt g hg).1)
              rw [List.take_of_length_le (by rw [List.length_map]; exact Nat.le_of_eq hm)] at hel
              rw [strip_elems]
              exact hel.stays (stays_refl fun b h _ => h.1)
            clear hown hel
            obtain ⟨p2, q2, rfl, -⟩ := id hsl2
            rw [strip_len, hm] at hsl2 ⊢
            have HS := hide (And.intro hsl2 hb)
            clear hsl2 hb
            go_upto_region 15 with fail
            refine genW (fun U => BoxD U bx [.int .i64 kd, .int .i64 n', .bool ng, .slice pm mg.length qm, .string tx, .slice p1 k q1, .slice p2 j q2] ∧ BoxD U (bx + 1) [.int .i64 0, .int .i64 0, .bool false, .slice none 0 0, .string ⟨#[]⟩, .slice none 0 0, .slice none 0 0] ∧ Below W.heap.size W U ∧ bx + 2 ≤ U.heap.size ∧ SliceR U (fun b => b < N ∨ bx + 2 ≤ b) (.slice p1 k q1) (strip di) ∧ SliceR U (fun b => b < N ∨ bx + 2 ≤ b) (.slice p2 j q2) (strip dr)) ?_ ?_
            · obtain ⟨hB, hZ, hWU, hsl⟩ := H1.out
              obtain ⟨hsl2, hb⟩ := HS.out
              have one : ∀ (Q : Nat → Prop), (∀ b, Q b → b < N ∨ bx + 2 ≤ b) → Stays wr (wr.setCell ⟨bx, 6, none⟩ (.slice p2 j q2)) Q (fun b => b < N ∨ bx + 2 ≤ b) := fun Q hQ => ⟨by rw [Deep.nblk_setCell]; exact Nat.le_refl _, fun b hq _ => ⟨hQ b hq, Deep.blk_setCell_other _ _ _ _ (by have := hQ b hq; simp only; omega)⟩⟩
              exact ⟨(hB.below hb).set 6 _, (hZ.below hb).other (by simp), (hWU.trans (hb.mono hWU.size)).setCell (p := ⟨bx, 6, none⟩) (by simp only; omega) _, by rw [Deep.nblk_setCell]; omega, hsl.stays ((stays_below hb).trans (one _ fun b h => h)), hsl2.stays (one _ fun b h => h.elim .inl fun h => .inr (by omega))⟩
            clear c0 c1 c2 c3 c4 c5 c6 cf HS H1 hbs hWs hsz hge
            intro V hV
            obtain ⟨hB, hZ, hW, hsz, hsi, hsr⟩ := hV
            obtain ⟨c0, c1, c2, c3, c4, c5, c6, cf⟩ := box7 hB
            obtain ⟨d0, d1, d2, d3, d4, d5, d6, df⟩ := box7 hZ
            have hmg : MagR V (fun b => b < N ∨ bx + 2 ≤ b) (.slice pm mg.length qm) mg := HH.out.2.1.stays ((stays_below hW).trans (stays_refl fun b h _ => .inl h))
            have H1 := hide (And.intro hB (And.intro hZ (And.intro hW (And.intro hsz (And.intro hmg (And.intro hsi hsr))))))
            clear hB hZ hW hsz hmg hsi hsr
            go_wp2_with fail
            obtain ⟨hB, hZ, hW, hsz, hmg, hsi, hsr⟩ := H1.out
            have hZ5 := ((((((hZ.set 0 (.int .i64 kd)).set 1 (.int .i64 n')).set 2 (.bool ng)).set 3 (.slice pm mg.length qm)).set 4 (.string tx)).set 5 (.slice p1 k q1)).set 6 (.slice p2 j q2)
            have one : ∀ (w : World) (o : Nat) (v : Value), Stays w (w.setCell ⟨bx + 1, o, none⟩ v) (fun b => b < N ∨ bx + 2 ≤ b) (fun b => b < N ∨ bx + 2 ≤ b) := fun w o v => ⟨by rw [Deep.nblk_setCell]; exact Nat.le_refl _, fun b hq _ => ⟨hq, Deep.blk_setCell_other _ _ _ _ (by simp only; omega)⟩⟩
            have st := ((((((one V 0 (.int .i64 kd)).trans (one _ 1 (.int .i64 n'))).trans (one _ 2 (.bool ng))).trans (one _ 3 (.slice pm mg.length qm))).trans (one _ 4 (.string tx))).trans (one _ 5 (.slice p1 k q1))).trans (one _ 6 (.slice p2 j q2))
            have bw : ∀ (w : World) (o : Nat) (v : Value), Below W.heap.size W w → Below W.heap.size W (w.setCell ⟨bx + 1, o, none⟩ v) := fun w o v h => h.setCell (p := ⟨bx + 1, o, none⟩) (by simp only; omega) v
            subst hn'
            refine bodyPost_ret (v := .agg ⟨headV (stripH ⟨kd, n0, ng, mg, tx⟩) (.slice pm mg.length qm) (.slice p1 k q1) (.slice p2 j q2)⟩) (results_cell_row Tryz.results10 _ _ (bx + 1) 27 ⟨_⟩ (0, 0) _ (by kernel_rfl) hZ5 Tryz.underlying27 rfl infoDatum7) rfl ?_
            refine ⟨_, rfl, ⟨_, _, _, rfl, (hmg.stays st).stays (stays_refl fun b h _ => h.elim .inl fun h => .inr (by omega)), (hsi.stays st).stays (stays_refl fun b h _ => h.elim .inl fun h => .inr (by omega)), (hsr.stays st).stays (stays_refl fun b h _ => h.elim .inl fun h => .inr (by omega))⟩, ?_⟩
            exact bw _ _ _ (bw _ _ _ (bw _ _ _ (bw _ _ _ (bw _ _ _ (bw _ _ _ (bw _ _ _ hW))))))

theorem ref_all : ∀ d : DL, ∀ e ∈ d.elems, RefOk e := DL.ind fun _ IH e he => ref_of (IH e he).1 (IH e he).2

end Go.Proofs.YtfhjamimbgdfpaaGreat
