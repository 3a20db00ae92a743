/-
  The walks of expand.stripped and expand.Strip: what comes back reads as what was handed in, without its marks.
-/
import Derived.Test.YtfhjamimbgdfpaaGreatDatum
import Derived.Test.YtfhjamimbgdfpaaGreatDatCopy
import Derived.Deep.OwnRows
import Derived.Deep.LoopGhost
import Derived.Outline
import Derived.Deep.CutRange
import Derived.Deep.RegionWith
namespace Go.Proofs.YtfhjamimbgdfpaaGreat
open Go.RowKit Go.BigFrame

def stripH (h : Hd) : Hd := { h with n := if h.kind = 5 then 0 else h.n }
def strip : DL → DL
  | .nil => .nil
  | .cons h i r n => .cons (stripH h) (strip i) (strip r) (strip n)
def stripE (x : Hd × DL × DL) : Hd × DL × DL := (stripH x.1, strip x.2.1, strip x.2.2)
theorem strip_elems : ∀ d : DL, (strip d).elems = d.elems.map stripE
  | .nil => rfl
  | .cons h i r n => by simp [strip, DL.elems, stripE, strip_elems n]
theorem strip_len (d : DL) : (strip d).len = d.len := by simp [DL.len, strip_elems]

/-- What Strip gives. -/
def StripS (W : World) (N : Nat) (d : DL) (e : Ending) (w' : World) : Prop := ∃ v, e = .returned v ∧ SliceR w' (fun b => b < N ∨ W.heap.size ≤ b) v d ∧ Below W.heap.size W w'
def StripE (W : World) (N : Nat) (x : Hd × DL × DL) (e : Ending) (w' : World) : Prop := ∃ cs, e = .returned (.agg ⟨cs⟩) ∧ ElemR w' (fun b => b < N ∨ W.heap.size ≤ b) cs x ∧ Below W.heap.size W w'

def StripAllOk (d : DL) : Prop := ∀ (W : World) (N : Nat) (v : Value), N ≤ W.heap.size → SliceR W (fun b => b < N) v d → Calls Tryz.prog 20 #[v] W (StripS W N (strip d))

set_option maxRecDepth 100000 in
set_option maxHeartbeats 4000000 in
theorem strip_of {x : Hd × DL × DL} (hi : StripAllOk x.2.1) (hr : StripAllOk x.2.2) {W : World} {N : Nat} {cs : List Value} (hN : N ≤ W.heap.size) (h : ElemR W (fun b => b < N) cs x) : Calls Tryz.prog 8 #[.agg ⟨cs⟩] W (StripE W N (stripE x)) := by
  obtain ⟨vm, vi, vr, rfl, h1, h2, h3⟩ := h
  obtain ⟨⟨kd, n, ng, mg, tx⟩, di, dr⟩ := x
  dsimp only at hi hr h1 h2 h3
  unfold headV
  dsimp only
  obtain ⟨n', hn'⟩ : ∃ n', (if kd = 5 then 0 else n) = n' := ⟨_, rfl⟩
  obtain ⟨bx, hbx⟩ : ∃ bx, W.heap.size = bx := ⟨_, rfl⟩
  obtain ⟨pm, qm, rfl, -⟩ := id h1
  have HH := hide (And.intro (And.intro hi hr) (And.intro h1 (And.intro h2 h3)))
  clear hi hr h1 h2 h3
  go_enter Tryz.func8, Tryz.ntmps8
  go_upto_region 1 with fail
  refine genW (fun U => BoxD U W.heap.size [.int .i64 kd, .int .i64 n, .bool ng, .slice pm mg.length qm, .string tx, vi, vr] ∧ BoxD U (W.heap.size + 1) [.int .i64 0, .int .i64 0, .bool false, .slice none 0 0, .string ⟨#[]⟩, .slice none 0 0, .slice none 0 0] ∧ Below W.heap.size W U ∧ U.heap.size = W.heap.size + 2) (twoB W _ _) ?_
  intro U hU
  rw [hbx] at hU
  obtain ⟨hB, hZ, hW, hsz⟩ := hU
  obtain ⟨c0, c1, c2, c3, c4, c5, c6, cf⟩ := box7 hB
  have H1 := hide (And.intro hB (And.intro hZ (And.intro hW hsz)))
  clear hB hZ hW hsz
  go_upto_if 5 with fail
  go_cut [1] from 3 to 6 (fun s1 wx => s1 = .pointer (some ⟨bx, 0, none⟩) ∧ BoxD wx bx [.int .i64 kd, .int .i64 n', .bool ng, .slice pm mg.length qm, .string tx, vi, vr] ∧ BoxD wx (bx + 1) [.int .i64 0, .int .i64 0, .bool false, .slice none 0 0, .string ⟨#[]⟩, .slice none 0 0, .slice none 0 0] ∧ Below bx W wx ∧ wx.heap.size = bx + 2)
  case first =>
    by_cases hk : kd = 5
    · rw [if_pos hk] at hn'
      subst hn'
      have hk' : (kd == 5) = true := by simp [hk]
      go_wp2_with fail
      all_goals go_meet
      obtain ⟨hB, hZ, hW, hsz⟩ := H1.out
      exact ⟨rfl, hB.set 1 _, hZ.other (by simp), hW.setCell (p := ⟨bx, 1, none⟩) (Nat.le_refl _) _, by simpa [World.setCell] using hsz⟩
    · rw [if_neg hk] at hn'
      subst hn'
      have hk' : (kd == 5) = false := by simp [hk]
      go_wp2_with fail
      all_goals go_meet
      obtain ⟨hB, hZ, hW, hsz⟩ := H1.out
      exact ⟨rfl, hB, hZ, hW, hsz⟩
  case rest =>
    obtain ⟨rfl, hB, hZ, hW, hsz⟩ := hcut
    clear c0 c1 c2 c3 c4 c5 c6 cf H1
    obtain ⟨c0, c1, c2, c3, c4, c5, c6, cf⟩ := box7 hB
    rw [← hbx] at hW
    have HI := hide (fun (U' : World) (hb : Below wc.heap.size wc U') => HH.out.1.1 U' N vi (by have := hW.size; have := hb.size; omega) (HH.out.2.2.1.stays ((stays_below hW).trans (stays_below hb))))
    have HR := hide (fun (U' : World) (hb : Below wc.heap.size wc U') => HH.out.1.2 U' N vr (by have := hW.size; have := hb.size; omega) (HH.out.2.2.2.stays ((stays_below hW).trans (stays_below hb))))
    have hmg := HH.out.2.1.stays (stays_below hW)
    have H1 := hide (And.intro hB (And.intro hZ (And.intro hW (And.intro hsz hmg))))
    clear hB hZ hW hsz hmg
    go_upto_region 3 with fail
    go_cut [1] from 7 to 14 (fun s1 wx => s1 = .pointer (some ⟨bx, 0, none⟩) ∧ ∃ p1 q1 p2 q2, BoxD wx bx [.int .i64 kd, .int .i64 n', .bool ng, .slice pm mg.length qm, .string tx, .slice p1 (strip di).len q1, .slice p2 (strip dr).len q2] ∧ BoxD wx (bx + 1) [.int .i64 0, .int .i64 0, .bool false, .slice none 0 0, .string ⟨#[]⟩, .slice none 0 0, .slice none 0 0] ∧ Below W.heap.size W wx ∧ bx + 2 ≤ wx.heap.size ∧ MagR wx (fun b => b < N ∨ bx + 2 ≤ b) (.slice pm mg.length qm) mg ∧ SliceR wx (fun b => b < N ∨ bx + 2 ≤ b) (.slice p1 (strip di).len q1) (strip di) ∧ SliceR wx (fun b => b < N ∨ bx + 2 ≤ b) (.slice p2 (strip dr).len q2) (strip dr))
    case first =>
      go_region_with (first
        | (go_at_call 20; refine (HR.out u1 hw1).mono ?_; rintro e u2 ⟨v2, rfl, hm2, hb2⟩; obtain ⟨p2, q2, rfl, -⟩ := id hm2; have hw2 := hw1.trans (hb2.mono hw1.size); obtain ⟨x0, x1, x2, x3, x4, x5, x6, xf⟩ := box7 (H1.out.1.below hw2))
        | (go_at_call 20; refine (HI.out _ ((Below.refl _ _).drew)).mono ?_; rintro e u1 ⟨v1, rfl, hm1, hb1⟩; obtain ⟨p1, q1, rfl, -⟩ := id hm1; have hw1 : Below wc.heap.size wc u1 := ((Below.refl _ wc).drew).trans hb1; obtain ⟨d0, d1, d2, d3, d4, d5, d6, df⟩ := box7 (H1.out.1.below hw1)))
      all_goals (go_wp2_with fail; go_meet)
      all_goals
        obtain ⟨hB, hZ, hW, hsz, hmg⟩ := H1.out
        have hs1 := hw1.size
        have hs2 := hb2.size
        have st1 : Stays wc u2 (fun b => b < N) (fun b => b < N ∨ bx + 2 ≤ b) := (stays_below hw2).trans (stays_refl fun b h _ => .inl h)
        have st2 : Stays u1 u2 (fun b => b < N ∨ wc.heap.size ≤ b) (fun b => b < N ∨ bx + 2 ≤ b) := (stays_below hb2).trans (stays_refl fun b h _ => h.elim .inl fun h => .inr (by omega))
        have one : ∀ (w : World) (o : Nat) (v : Value), Stays w (w.setCell ⟨bx, o, none⟩ v) (fun b => b < N ∨ bx + 2 ≤ b) (fun b => b < N ∨ bx + 2 ≤ b) := fun w o v => ⟨by rw [Deep.nblk_setCell]; exact Nat.le_refl _, fun b hq _ => ⟨hq, Deep.blk_setCell_other _ _ _ _ (by simp only; omega)⟩⟩
        have two := (one u2 5 (.slice p1 (strip di).len q1)).trans (one _ 6 (.slice p2 (strip dr).len q2))
        refine ⟨rfl, p1, q1, p2, q2, ((hB.below hw2).set 5 _).set 6 _, ((hZ.below hw2).other (by simp)).other (by simp), ((hW.trans (hw2.mono hW.size)).setCell (p := ⟨bx, 5, none⟩) (by simp only; omega) _).setCell (p := ⟨bx, 6, none⟩) (by simp only; omega) _, ?_, (hmg.stays st1).stays two, (hm1.stays st2).stays two, (hm2.stays (stays_refl fun b h _ => h.elim .inl fun h => .inr (by omega))).stays two⟩
        rw [Deep.nblk_setCell, Deep.nblk_setCell]
        omega
    case rest =>
      clear c0 c1 c2 c3 c4 c5 c6 cf H1 HI HR
      obtain ⟨rfl, p1, q1, p2, q2, hB, hZ, hW, hsz, hmg, hsi, hsr⟩ := hcut
      obtain ⟨c0, c1, c2, c3, c4, c5, c6, cf⟩ := box7 hB
      obtain ⟨d0, d1, d2, d3, d4, d5, d6, df⟩ := box7 hZ
      have H1 := hide (And.intro hB (And.intro hZ (And.intro hW (And.intro hsz (And.intro hmg (And.intro hsi hsr))))))
      clear hB hZ hW hsz hmg hsi hsr
      go_wp2_with fail
      obtain ⟨hB, hZ, hW, hsz, hmg, hsi, hsr⟩ := H1.out
      have hZ5 := ((((((hZ.set 0 (.int .i64 kd)).set 1 (.int .i64 n')).set 2 (.bool ng)).set 3 (.slice pm mg.length qm)).set 4 (.string tx)).set 5 (.slice p1 (strip di).len q1)).set 6 (.slice p2 (strip dr).len q2)
      have one : ∀ (w : World) (o : Nat) (v : Value), Stays w (w.setCell ⟨bx + 1, o, none⟩ v) (fun b => b < N ∨ bx + 2 ≤ b) (fun b => b < N ∨ bx + 2 ≤ b) := fun w o v => ⟨by rw [Deep.nblk_setCell]; exact Nat.le_refl _, fun b hq _ => ⟨hq, Deep.blk_setCell_other _ _ _ _ (by simp only; omega)⟩⟩
      have st := ((((((one wc 0 (.int .i64 kd)).trans (one _ 1 (.int .i64 n'))).trans (one _ 2 (.bool ng))).trans (one _ 3 (.slice pm mg.length qm))).trans (one _ 4 (.string tx))).trans (one _ 5 (.slice p1 (strip di).len q1))).trans (one _ 6 (.slice p2 (strip dr).len q2))
      have bw : ∀ (w : World) (o : Nat) (v : Value), Below W.heap.size W w → Below W.heap.size W (w.setCell ⟨bx + 1, o, none⟩ v) := fun w o v h => h.setCell (p := ⟨bx + 1, o, none⟩) (by simp only; omega) v
      subst hn'
      refine bodyPost_ret (v := .agg ⟨headV (stripH ⟨kd, n, ng, mg, tx⟩) (.slice pm mg.length qm) (.slice p1 (strip di).len q1) (.slice p2 (strip dr).len q2)⟩) (results_cell_row Tryz.results8 _ _ (bx + 1) 27 ⟨_⟩ (0, 0) _ (by kernel_rfl) hZ5 Tryz.underlying27 rfl infoDatum7) rfl ?_
      refine ⟨_, rfl, ⟨_, _, _, rfl, (hmg.stays st).stays (stays_refl fun b h _ => h.elim .inl fun h => .inr (by omega)), (hsi.stays st).stays (stays_refl fun b h _ => h.elim .inl fun h => .inr (by omega)), (hsr.stays st).stays (stays_refl fun b h _ => h.elim .inl fun h => .inr (by omega))⟩, ?_⟩
      exact bw _ _ _ (bw _ _ _ (bw _ _ _ (bw _ _ _ (bw _ _ _ (bw _ _ _ (bw _ _ _ hW))))))

set_option maxRecDepth 100000 in
set_option maxHeartbeats 4000000 in
theorem stripped_any : ∀ d, StripAllOk d := DL.ind fun d IH => by
  intro W N v hN h
  obtain ⟨p, c, rfl, hlen, h1⟩ := h
  obtain ⟨i0, hi, hz0, hz1, hz2⟩ := info_parts infoDatum
  obtain ⟨n, hn⟩ : ∃ n, d.len = n := ⟨_, rfl⟩
  rw [hn] at hlen h1 ⊢
  have HI := hide (And.intro IH (And.intro h1 hn))
  clear IH h1 hn
  go_enter Tryz.func20, Tryz.ntmps20
  go_wp2
  go_loopw [3, 8] (fun c3 c8 wr => ∃ (k : Nat) (css : List (List Value)), k ≤ n ∧ c8 = .int .i64 k ∧ wr.ownsRow W.heap.size 27 7 c3 k css.flatten ∧ ElemsR wr (fun b => (b < N ∨ W.heap.size ≤ b) ∧ c3.ownBlock ≠ some b) css ((d.elems.map stripE).take k) ∧ Below W.heap.size W wr)
    (fun _ c8 _ => n - (intOf c8).toNat)
  case atStart => exact ⟨0, [], Nat.zero_le _, rfl, World.ownsRow_nil _ _ _ _, ⟨by simp, fun k cs e h => by simp at h⟩, Below.refl _ _⟩
  case round =>
    obtain ⟨k, css, hk, rfl, hown, hel, hb⟩ := hrel
    by_cases hlt : k < n
    · obtain ⟨IH, h1, hn⟩ := HI.out
      obtain ⟨b, o, rfl, hq, hbl, hrow⟩ := h1 (by omega)
      obtain ⟨x, hx⟩ : ∃ x, d.elems[k]? = some x := ⟨_, List.getElem?_eq_getElem (by rw [← hn] at hlt; exact hlt)⟩
      obtain ⟨cs, he, hc⟩ := hrow.elem k x hx
      have hIx := IH x (List.mem_of_getElem? hx)
      have hcp := fun (U : World) (hU : Below wr.heap.size wr U) => strip_of hIx.1 hIx.2 (W := U) (by have := hb.size; have := hU.size; omega) (he.stays ((stays_below hb).trans (stays_below hU)))
      have hc := hc.stays (hb.block b hbl)
      obtain ⟨vm, vi, vr, rfl, ⟨pm, qm, rfl, -⟩, ⟨pi, qi, rfl, -⟩, ⟨pr, qr, rfl, -⟩⟩ := he
      obtain ⟨⟨kd, nn, ng, mg, tx⟩, di, dr⟩ := x
      have e0 := hc 0 _ rfl
      have e1 := hc 1 _ rfl
      have e2 := hc 2 _ rfl
      have e3 := hc 3 _ rfl
      have e4 := hc 4 _ rfl
      have e5 := hc 5 _ rfl
      have e6 := hc 6 _ rfl
      simp only [Nat.add_zero] at e0 e1 e2 e3 e4 e5 e6
      have HR := hide (And.intro hown (And.intro hel (And.intro hb hx)))
      have HC := hide hcp
      have hlt' : (k : Int) < n := by omega
      have hk0 : (0 : Int) ≤ k := by omega
      have hbs := hb.size
      clear hown hel hb IH h1 hn hrow hc hcp hIx hx hq
      go_upto_region 5 with fail
      refine genW (fun U => BoxD U wr.heap.size [.int .i64 kd, .int .i64 nn, .bool ng, .slice pm mg.length qm, .string tx, .slice pi di.len qi, .slice pr dr.len qr] ∧ Below wr.heap.size wr U) ⟨Deep.blk_alloc_new _ _, (Below.refl _ _).alloc (Nat.le_refl _) _⟩ ?_
      intro U hU
      obtain ⟨hB, hwU⟩ := hU
      obtain ⟨c0, c1, c2, c3', c4, c5, c6, cf⟩ := box7 hB
      clear e0 e1 e2 e3 e4 e5 e6 hB
      go_wp2_with (first
        | (at_builtin; refine wpList_append_own_at _ rfl (.tmp 12) (.tmp 15) 25 rfl W.heap.size 27 i0 _ 7 112 Tryz.underlying25 hi hz0 hz1 hz2 rfl (by decide) _ k css.flatten rfl ((own_below HR.out.1 hw1).alloc _) ⟨u1.heap.size, 0, none⟩ 1 1 (headV (stripH ⟨kd, nn, ng, mg, tx⟩) vm' vi' vr') rfl rfl (new_cells _ _ _) hE'.one (by simp only [maxLen]; omega) (by omega) (by rw [Deep.nblk_alloc]; have := hw1.size; omega) ?_; intro v1 w1 hown1 hgrow1 _ hat)
        | (go_at_call 8; refine (HC.out U hwU).mono ?_; rintro e u1 ⟨cs', rfl, hE', hb1⟩; have hw1 := hwU.trans (hb1.mono hwU.size); obtain ⟨vm', vi', vr', rfl, -⟩ := id hE'; dsimp only [headV, stripE]))
      obtain ⟨hown, hel, hb, hx⟩ := HR.out
      have hs1 := hw1.size
      refine ⟨⟨k + 1, css ++ [headV (stripH ⟨kd, nn, ng, mg, tx⟩) vm' vi' vr'], by omega, by go_num, by rw [flatten_snoc]; exact hown1, ?_, ?_⟩, by simp [intOf]; omega⟩
      · rw [take_snoc (x := stripE (⟨kd, nn, ng, mg, tx⟩, di, dr)) (by rw [List.getElem?_map, hx]; rfl)]
        have hsU := hwU.size
        refine (hel.stays (app_staysP _ hgrow1 hat hw1 (fun b h _ => h))).snoc (hE'.stays (app_staysP _ hgrow1 hat (Below.refl _ _) (fun b h _ => ⟨h.elim .inl fun h => .inr (by have := hb.size; omega), fun e => ?_⟩)))
        have := hown.lt b e
        rcases h with h | h <;> omega
      · exact below_own ((hb.trans (hw1.mono hb.size)).alloc (by have := hb.size; omega) _) hgrow1 ((own_below hown hw1).alloc _) (by rw [Deep.nblk_alloc]; have := hb.size; omega)
    · obtain rfl : k = n := by omega
      have HR := hide (And.intro hown (And.intro hel hb))
      have hge : ¬ ((k : Int) < k) := by omega
      clear hown hel hb
      go_wp2
      go_ret
      obtain ⟨hown, hel, hb⟩ := HR.out
      obtain ⟨IH, h1, hn⟩ := HI.out
      refine ⟨_, rfl, own_slice (by rw [strip_len, hn]; exact hown) ?_ (by rw [strip_len]; omega) (fun g hg => .inr (hown.lt g hg).1), hb⟩
      rw [List.take_of_length_le (by rw [List.length_map]; exact Nat.le_of_eq hn)] at hel
      rw [strip_elems]
      exact hel.stays (stays_refl fun b h _ => h.1)

end Go.Proofs.YtfhjamimbgdfpaaGreat
