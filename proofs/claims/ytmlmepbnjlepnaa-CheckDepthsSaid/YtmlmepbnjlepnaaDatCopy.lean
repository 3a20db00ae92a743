/-
  The walks of tandemlaw00.CopyLimbs, Copy, CopyAll: what comes back reads as what was handed in, and lies in new memory.
-/
import Derived.Test.YtmlmepbnjlepnaaDatum
import Derived.Deep.OwnRows
import Derived.Deep.LoopGhost
import Derived.Outline
import Derived.Deep.CutRange
import Derived.Laws.AppendOwnNone
namespace Go.Proofs.Ytmlmepbnjlepnaa
open Go.RowKit Go.BigFrame

theorem infoU32 : (Try.prog.info? 87).map (fun i => (i.zero, i.size, i.bytes)) = some (some (.int .u32 0), 1, 4) := by kernel_rfl
theorem infoDatum : (Try.prog.info? 28).map (fun i => (i.zero, i.size, i.bytes)) = some (some (.agg #[.int .i64 0, .int .i64 0, .bool false, .slice none 0 0, .string ⟨#[]⟩, .slice none 0 0, .slice none 0 0]), 7, 112) := by kernel_rfl

theorem infoDatum7 : (Try.prog.info? 28).map (·.size) = some 7 := by kernel_rfl

/-- What a copy gives: a value that reads so, in new memory. -/
def MagDone (W : World) (m : List Int) (e : Ending) (w' : World) : Prop := ∃ v, e = .returned v ∧ MagR w' (fun b => W.heap.size ≤ b) v m ∧ Below W.heap.size W w'
def SliceDone (W : World) (d : DL) (e : Ending) (w' : World) : Prop := ∃ v, e = .returned v ∧ SliceR w' (fun b => W.heap.size ≤ b) v d ∧ Below W.heap.size W w'
def ElemDone (W : World) (x : Hd × DL × DL) (e : Ending) (w' : World) : Prop := ∃ cs, e = .returned (.agg ⟨cs⟩) ∧ ElemR w' (fun b => W.heap.size ≤ b) cs x ∧ Below W.heap.size W w'

theorem own_mag {w : World} {B : Nat} {ty : TypeId} {v : Value} {m : List Int} (h : w.ownsRow B ty 1 v m.length (m.map (.int .u32))) (hlen : m.length ≤ 35184372087808) : MagR w (fun b => B ≤ b) v m := by
  rcases h.2 with ⟨rfl, h0⟩ | ⟨g, cap, cur, rfl, hg, hc, hn, hm, hsz, ht⟩
  · exact ⟨none, 0, by rw [h0], fun _ => rfl, hlen, fun h => by omega⟩
  · refine ⟨some ⟨g, 0, none⟩, cap, rfl, (fun h => nomatch h), hlen, fun h0 => ⟨g, 0, rfl, hg, (Array.getElem?_eq_some_iff.1 hc).1, fun j hj => ?_⟩⟩
    have e1 : cur.toList[j]? = some (Value.int .u32 (m.getD j 0)) := by
      have e2 : (cur.toList.take (m.length * 1))[j]? = (m.map (Value.int .u32))[j]? := by rw [ht]
      rw [List.getElem?_take, if_pos (by omega)] at e2
      rw [e2, List.getElem?_map, List.getElem?_eq_getElem hj]
      simp [List.getD, hj]
    rw [Array.getElem?_toList] at e1
    simp [World.cell?, hc, e1]

theorem copyLimbs_any {W : World} {Q : Nat → Prop} {v : Value} {m : List Int} (h : MagR W Q v m) : Calls Try.prog 28 #[v] W (MagDone W m) := by
  obtain ⟨p, c, rfl, hn, hlen, h1⟩ := h
  obtain ⟨i0, hi, hz0, hz1, hz2⟩ := info_parts infoU32
  by_cases hm : 0 < m.length
  · obtain ⟨b, o, rfl, -, hlt, hc⟩ := h1 hm
    go_enter Try.func28, Try.ntmps28
    go_wp2_with (at_builtin; refine wpList_append_own_at _ rfl _ _ 23 rfl W.heap.size 87 i0 _ 1 4 Try.underlying23 hi hz0 hz1 hz2 rfl (by decide) (.slice none 0 0) 0 [] rfl (World.ownsRow_nil _ _ _ _) ⟨b, o, none⟩ m.length c (m.map (.int .u32)) rfl (by simp) ?c1 ?c2 ?c3 ?c4 (Nat.le_refl _) ?_; rotate_left 4; intro v1 w1 hown hgrow _ _)
    case c1 =>
      intro j u hj
      have hjm : j < m.length := by have := (List.getElem?_eq_some_iff.1 hj).1; simpa using this
      rw [List.getElem?_map, List.getElem?_eq_getElem hjm] at hj
      cases hj
      have e := hc j hjm
      rw [show (⟨b, o, none⟩ : Addr).add j = ⟨b, o + j, none⟩ from by unfold Addr.add; split <;> simp_all, e]
      simp [List.getD, hjm]
    case c2 =>
      intro u hu
      obtain ⟨x, -, rfl⟩ := List.mem_map.1 hu
      rfl
    case c3 => simp only [maxLen]; omega
    case c4 => omega
    rw [Nat.zero_add, List.nil_append] at hown
    go_ret
    exact ⟨v1, rfl, own_mag hown hlen, below_own (Below.refl _ _) hgrow (World.ownsRow_nil _ _ 87 1) (Nat.le_refl _)⟩
  · have h0 : m.length = 0 := by omega
    have hm0 : m = [] := List.eq_nil_of_length_eq_zero h0
    subst hm0
    cases p with
    | none =>
      obtain rfl := hn rfl
      go_enter Try.func28, Try.ntmps28
      go_wp2_with (at_builtin; refine wpList_append_own_none rfl _ _ 23 rfl W.heap.size 87 i0 1 Try.underlying23 hi (.slice none 0 0) 0 [] rfl (World.ownsRow_nil _ _ _ _) rfl ?_)
      go_ret
      exact ⟨_, rfl, ⟨none, 0, rfl, fun _ => rfl, hlen, fun h => by simp at h⟩, Below.refl _ _⟩
    | some ad =>
      go_enter Try.func28, Try.ntmps28
      go_wp2_with (at_builtin; refine wpList_append_own_at _ rfl _ _ 23 rfl W.heap.size 87 i0 _ 1 4 Try.underlying23 hi hz0 hz1 hz2 rfl (by decide) (.slice none 0 0) 0 [] rfl (World.ownsRow_nil _ _ _ _) ad 0 c [] rfl (by simp) (fun j u hj => by simp at hj) (fun u hu => by simp at hu) (by simp [maxLen]) (by simp) (Nat.le_refl _) ?_; intro v1 w1 hown hgrow _ _)
      go_ret
      exact ⟨v1, rfl, own_mag (m := []) hown hlen, below_own (Below.refl _ _) hgrow (World.ownsRow_nil _ _ 87 1) (Nat.le_refl _)⟩

/-! ### Copy, CopyAll -/
/-- A datum's block. -/
def BoxD (w : World) (b : Nat) (cs : List Value) : Prop := w.heap[b]? = some (.cells ⟨cs⟩ 28 (0, 0))

theorem box7 {w : World} {b : Nat} {c0 c1 c2 c3 c4 c5 c6 : Value} (h : BoxD w b [c0, c1, c2, c3, c4, c5, c6]) :
    w.cell? ⟨b, 0, none⟩ = some c0 ∧ w.cell? ⟨b, 1, none⟩ = some c1 ∧ w.cell? ⟨b, 2, none⟩ = some c2 ∧ w.cell? ⟨b, 3, none⟩ = some c3 ∧ w.cell? ⟨b, 4, none⟩ = some c4 ∧ w.cell? ⟨b, 5, none⟩ = some c5 ∧ w.cell? ⟨b, 6, none⟩ = some c6 ∧ ∀ o, w.frozen? ⟨b, o, none⟩ = false := by
  unfold BoxD at h
  simp [World.cell?, World.frozen?, h]

theorem BoxD.set {w : World} {b : Nat} {cs : List Value} (h : BoxD w b cs) (i : Nat) (v : Value) : BoxD (w.setCell ⟨b, i, none⟩ v) b (cs.set i v) := by
  unfold BoxD at h ⊢
  simp [World.setCell, Array.getElem?_modify, h]

theorem BoxD.below {w w' : World} {b : Nat} {cs : List Value} (h : BoxD w b cs) (hb : Below w.heap.size w w') : BoxD w' b cs := (hb.block b (Array.getElem?_eq_some_iff.1 h).1).trans h

theorem BoxD.other {w : World} {b : Nat} {cs : List Value} (h : BoxD w b cs) {a : Addr} {v : Value} (hne : b ≠ a.block) : BoxD (w.setCell a v) b cs := (Deep.blk_setCell_other _ _ _ _ hne).trans h

def CopyAllOk (d : DL) : Prop := ∀ (W : World) (Q : Nat → Prop) (v : Value), SliceR W Q v d → Calls Try.prog 18 #[v] W (SliceDone W d)

/-- A store into a box leaves what lies above it. -/
theorem stays_set {w : World} {bx n o : Nat} {v : Value} {Q : Nat → Prop} (hn : bx < n) (hQ : ∀ b, Q b → b < w.heap.size → n ≤ b) : Stays w (w.setCell ⟨bx, o, none⟩ v) Q (fun b => n ≤ b) :=
  ⟨by rw [Deep.nblk_setCell]; exact Nat.le_refl _, fun b hq hlt => ⟨hQ b hq hlt, Deep.blk_setCell_other _ _ _ _ (by have := hQ b hq hlt; simp; omega)⟩⟩

set_option maxRecDepth 100000 in
set_option maxHeartbeats 2000000 in
theorem copy_of {x : Hd × DL × DL} (hi : CopyAllOk x.2.1) (hr : CopyAllOk x.2.2) {W : World} {Q : Nat → Prop} {cs : List Value} (h : ElemR W Q cs x) : Calls Try.prog 25 #[.agg ⟨cs⟩] W (ElemDone W x) := by
  obtain ⟨vm, vi, vr, rfl, h1, h2, h3⟩ := h
  obtain ⟨⟨kd, n, ng, mg, tx⟩, di, dr⟩ := x
  dsimp only at hi hr h1 h2 h3
  unfold headV
  dsimp only
  obtain ⟨bx, hbx⟩ : ∃ bx, W.heap.size = bx := ⟨_, rfl⟩
  have HH := hide (And.intro hi (And.intro hr (And.intro h1 (And.intro h2 h3))))
  clear hi hr h1 h2 h3
  go_enter Try.func25, Try.ntmps25
  go_upto_region 1 with fail
  refine genW (fun U => BoxD U W.heap.size [.int .i64 kd, .int .i64 n, .bool ng, vm, .string tx, vi, vr] ∧ BoxD U (W.heap.size + 1) [.int .i64 0, .int .i64 0, .bool false, .slice none 0 0, .string ⟨#[]⟩, .slice none 0 0, .slice none 0 0] ∧ Below W.heap.size W U ∧ U.heap.size = W.heap.size + 2) (twoB W _ _) ?_
  intro U hU
  rw [hbx] at hU
  obtain ⟨hB, hZ, hW, hsz⟩ := hU
  obtain ⟨c0, c1, c2, c3, c4, c5, c6, cf⟩ := box7 hB
  rw [← hbx] at hW
  have H1 := hide (And.intro hB (And.intro hZ (And.intro hW hsz)))
  have HM := hide (copyLimbs_any (HH.out.2.2.1.stays (stays_below hW)))
  clear hB hZ hW hsz
  go_upto_region 2 with (go_at_call 28; refine HM.out.mono ?_; rintro e u1 ⟨v1, rfl, hm1, hb1⟩; obtain ⟨p1, q1, rfl, -⟩ := id hm1; obtain ⟨d0, d1, d2, d3, d4, d5, d6, df⟩ := box7 (H1.out.1.below hb1))
  refine genW (fun U => BoxD U bx [.int .i64 kd, .int .i64 n, .bool ng, .slice p1 mg.length q1, .string tx, vi, vr] ∧ BoxD U (bx + 1) [.int .i64 0, .int .i64 0, .bool false, .slice none 0 0, .string ⟨#[]⟩, .slice none 0 0, .slice none 0 0] ∧ Below W.heap.size W U ∧ bx + 2 ≤ U.heap.size ∧ MagR U (fun b => bx + 2 ≤ b) (.slice p1 mg.length q1) mg) ?_ ?_
  · obtain ⟨hB, hZ, hW, hsz⟩ := H1.out
    exact ⟨(hB.below hb1).set 3 _, (hZ.below hb1).other (by simp), (hW.trans (hb1.mono hW.size)).setCell (p := ⟨bx, 3, none⟩) (by simp only; omega) _, by rw [Deep.nblk_setCell]; have := hb1.size; omega, hm1.stays (stays_set (by omega) (fun b hq _ => by omega))⟩
  clear HM hb1 hm1 c0 c1 c2 c3 c4 c5 c6 cf d0 d1 d2 d3 d4 d5 d6 df H1
  intro U2 hU
  obtain ⟨hB, hZ, hW, hsz, hmg⟩ := hU
  obtain ⟨c0, c1, c2, c3, c4, c5, c6, cf⟩ := box7 hB
  have H1 := hide (And.intro hB (And.intro hZ (And.intro hW (And.intro hsz hmg))))
  have HM := hide (HH.out.1 U2 Q vi (HH.out.2.2.2.1.stays (stays_below hW)))
  clear hB hZ hW hsz hmg
  go_upto_region 3 with (go_at_call 18; refine HM.out.mono ?_; rintro e u2 ⟨v2, rfl, hm2, hb2⟩; obtain ⟨p2, q2, rfl, -⟩ := id hm2; obtain ⟨d0, d1, d2, d3, d4, d5, d6, df⟩ := box7 (H1.out.1.below hb2))
  refine genW (fun U => BoxD U bx [.int .i64 kd, .int .i64 n, .bool ng, .slice p1 mg.length q1, .string tx, .slice p2 di.len q2, vr] ∧ BoxD U (bx + 1) [.int .i64 0, .int .i64 0, .bool false, .slice none 0 0, .string ⟨#[]⟩, .slice none 0 0, .slice none 0 0] ∧ Below W.heap.size W U ∧ bx + 2 ≤ U.heap.size ∧ MagR U (fun b => bx + 2 ≤ b) (.slice p1 mg.length q1) mg ∧ SliceR U (fun b => bx + 2 ≤ b) (.slice p2 di.len q2) di) ?_ ?_
  · obtain ⟨hB, hZ, hW, hsz, hmg⟩ := H1.out
    exact ⟨(hB.below hb2).set 5 _, (hZ.below hb2).other (by simp), (hW.trans (hb2.mono hW.size)).setCell (p := ⟨bx, 5, none⟩) (by simp only; omega) _, by rw [Deep.nblk_setCell]; have := hb2.size; omega, hmg.stays ((stays_below hb2).trans (stays_set (by omega) (fun b hq _ => hq))), hm2.stays (stays_set (by omega) (fun b hq _ => by omega))⟩
  clear HM hb2 hm2 c0 c1 c2 c3 c4 c5 c6 cf d0 d1 d2 d3 d4 d5 d6 df H1
  intro U3 hU
  obtain ⟨hB, hZ, hW, hsz, hmg, hsi⟩ := hU
  obtain ⟨c0, c1, c2, c3, c4, c5, c6, cf⟩ := box7 hB
  have H1 := hide (And.intro hB (And.intro hZ (And.intro hW (And.intro hsz (And.intro hmg hsi)))))
  have HM := hide (HH.out.2.1 U3 Q vr (HH.out.2.2.2.2.stays (stays_below hW)))
  clear hB hZ hW hsz hmg hsi
  go_upto_region 4 with (go_at_call 18; refine HM.out.mono ?_; rintro e u3 ⟨v3, rfl, hm3, hb3⟩; obtain ⟨p3, q3, rfl, -⟩ := id hm3; obtain ⟨d0, d1, d2, d3, d4, d5, d6, df⟩ := box7 (H1.out.1.below hb3))
  refine genW (fun U => BoxD U bx [.int .i64 kd, .int .i64 n, .bool ng, .slice p1 mg.length q1, .string tx, .slice p2 di.len q2, .slice p3 dr.len q3] ∧ BoxD U (bx + 1) [.int .i64 0, .int .i64 0, .bool false, .slice none 0 0, .string ⟨#[]⟩, .slice none 0 0, .slice none 0 0] ∧ Below W.heap.size W U ∧ bx + 2 ≤ U.heap.size ∧ MagR U (fun b => bx + 2 ≤ b) (.slice p1 mg.length q1) mg ∧ SliceR U (fun b => bx + 2 ≤ b) (.slice p2 di.len q2) di ∧ SliceR U (fun b => bx + 2 ≤ b) (.slice p3 dr.len q3) dr) ?_ ?_
  · obtain ⟨hB, hZ, hW, hsz, hmg, hsi⟩ := H1.out
    exact ⟨(hB.below hb3).set 6 _, (hZ.below hb3).other (by simp), (hW.trans (hb3.mono hW.size)).setCell (p := ⟨bx, 6, none⟩) (by simp only; omega) _, by rw [Deep.nblk_setCell]; have := hb3.size; omega, hmg.stays ((stays_below hb3).trans (stays_set (by omega) (fun b hq _ => hq))), hsi.stays ((stays_below hb3).trans (stays_set (by omega) (fun b hq _ => hq))), hm3.stays (stays_set (by omega) (fun b hq _ => by omega))⟩
  clear HM hb3 hm3 c0 c1 c2 c3 c4 c5 c6 cf d0 d1 d2 d3 d4 d5 d6 df H1
  intro U4 hU
  obtain ⟨hB, hZ, hW, hsz, hmg, hsi, hsr⟩ := hU
  obtain ⟨c0, c1, c2, c3, c4, c5, c6, cf⟩ := box7 hB
  obtain ⟨d0, d1, d2, d3, d4, d5, d6, df⟩ := box7 hZ
  have H1 := hide (And.intro hB (And.intro hZ (And.intro hW (And.intro hsz (And.intro hmg (And.intro hsi hsr))))))
  clear hB hZ hW hsz hmg hsi hsr
  go_wp2_with fail
  obtain ⟨hB, hZ, hW, hsz, hmg, hsi, hsr⟩ := H1.out
  have hZ5 := ((((((hZ.set 0 (.int .i64 kd)).set 1 (.int .i64 n)).set 2 (.bool ng)).set 3 (.slice p1 mg.length q1)).set 4 (.string tx)).set 5 (.slice p2 di.len q2)).set 6 (.slice p3 dr.len q3)
  have one : ∀ (w : World) (o : Nat) (v : Value), Stays w (w.setCell ⟨bx + 1, o, none⟩ v) (fun b => bx + 2 ≤ b) (fun b => bx + 2 ≤ b) := fun w o v => stays_set (by omega) (fun b hq _ => hq)
  have st := ((((((one U4 0 (.int .i64 kd)).trans (one _ 1 (.int .i64 n))).trans (one _ 2 (.bool ng))).trans (one _ 3 (.slice p1 mg.length q1))).trans (one _ 4 (.string tx))).trans (one _ 5 (.slice p2 di.len q2))).trans (one _ 6 (.slice p3 dr.len q3))
  have bw : ∀ (w : World) (o : Nat) (v : Value), Below W.heap.size W w → Below W.heap.size W (w.setCell ⟨bx + 1, o, none⟩ v) := fun w o v h => h.setCell (p := ⟨bx + 1, o, none⟩) (by simp only; omega) v
  refine bodyPost_ret (v := .agg ⟨headV ⟨kd, n, ng, mg, tx⟩ (.slice p1 mg.length q1) (.slice p2 di.len q2) (.slice p3 dr.len q3)⟩) (results_cell_row Try.results25 _ _ (bx + 1) 28 ⟨_⟩ (0, 0) _ (by kernel_rfl) hZ5 Try.underlying28 rfl infoDatum7) rfl ?_
  refine ⟨_, rfl, ⟨_, _, _, rfl, (hmg.stays st).stays (stays_refl fun b h _ => by omega), (hsi.stays st).stays (stays_refl fun b h _ => by omega), (hsr.stays st).stays (stays_refl fun b h _ => by omega)⟩, ?_⟩
  exact bw _ _ _ (bw _ _ _ (bw _ _ _ (bw _ _ _ (bw _ _ _ (bw _ _ _ (bw _ _ _ hW))))))

set_option maxRecDepth 100000 in
set_option maxHeartbeats 2000000 in
theorem copyAll_any : ∀ d, CopyAllOk d := DL.ind fun d IH => by
  intro W Q v h
  obtain ⟨p, c, rfl, hlen, h1⟩ := h
  obtain ⟨i0, hi, hz0, hz1, hz2⟩ := info_parts infoDatum
  obtain ⟨n, hn⟩ : ∃ n, d.len = n := ⟨_, rfl⟩
  rw [hn] at hlen h1 ⊢
  have HI := hide (And.intro IH (And.intro h1 hn))
  clear IH h1 hn
  go_enter Try.func18, Try.ntmps18
  go_wp2
  go_loopw [3, 4] (fun c3 c4 wr => ∃ (k : Nat) (css : List (List Value)), k ≤ n ∧ c4 = .int .i64 k ∧ wr.ownsRow W.heap.size 28 7 c3 k css.flatten ∧ ElemsR wr (fun b => W.heap.size ≤ b ∧ c3.ownBlock ≠ some b) css (d.elems.take k) ∧ Below W.heap.size W wr)
    (fun _ c4 _ => n - (intOf c4).toNat)
  case atStart => exact ⟨0, [], Nat.zero_le _, rfl, World.ownsRow_nil _ _ _ _, ⟨by simp, fun k cs e h => by simp at h⟩, Below.refl _ _⟩
  case round =>
    obtain ⟨k, css, hk, rfl, hown, hel, hb⟩ := hrel
    by_cases hlt : k < n
    · obtain ⟨IH, h1, hn⟩ := HI.out
      obtain ⟨b, o, rfl, hq, hbl, hrow⟩ := h1 (by omega)
      obtain ⟨x, hx⟩ : ∃ x, d.elems[k]? = some x := ⟨_, List.getElem?_eq_getElem (by rw [← hn] at hlt; exact hlt)⟩
      obtain ⟨cs, he, hc⟩ := hrow.elem k x hx
      have hIx := IH x (List.mem_of_getElem? hx)
      have hcp := copy_of hIx.1 hIx.2 (he.stays (stays_below hb))
      have hc := hc.stays (hb.block b hbl)
      obtain ⟨vm, vi, vr, rfl, -⟩ := he
      obtain ⟨⟨kd, nn, ng, mg, tx⟩, di, dr⟩ := x
      have e0 := hc 0 _ rfl
      have e1 := hc 1 _ rfl
      have e2 := hc 2 _ rfl
      have e3 := hc 3 _ rfl
      have e4 := hc 4 _ rfl
      have e5 := hc 5 _ rfl
      have e6 := hc 6 _ rfl
      simp only [Nat.add_zero] at e0 e1 e2 e3 e4 e5 e6
      have HR := hide (And.intro hown (And.intro hel (And.intro hb hx)))
      have HC := hide hcp
      have hlt' : (k : Int) < n := by omega
      have hk0 : (0 : Int) ≤ k := by omega
      have hbs := hb.size
      clear hown hel hb IH h1 hn hrow hc hcp hIx hx hq
      go_wp2_with (first
        | (at_builtin; refine wpList_append_own_at _ rfl (.tmp 11) (.tmp 17) 26 rfl W.heap.size 28 i0 _ 7 112 Try.underlying26 hi hz0 hz1 hz2 rfl (by decide) _ k css.flatten rfl ((own_below HR.out.1 hb1).alloc _) ⟨u1.heap.size, 0, none⟩ 1 1 (headV ⟨kd, nn, ng, mg, tx⟩ vm' vi' vr') rfl rfl (new_cells _ _ _) hE'.one (by simp only [maxLen]; omega) (by omega) (by rw [Deep.nblk_alloc]; have := hb1.size; omega) ?_; intro v1 w1 hown1 hgrow1 _ hat)
        | (go_at_call 25; refine HC.out.mono ?_; rintro e u1 ⟨cs', rfl, hE', hb1⟩; obtain ⟨vm', vi', vr', rfl, -⟩ := id hE'; dsimp only [headV]))
      obtain ⟨hown, hel, hb, hx⟩ := HR.out
      refine ⟨⟨k + 1, css ++ [headV ⟨kd, nn, ng, mg, tx⟩ vm' vi' vr'], by omega, by go_num, by rw [flatten_snoc]; exact hown1, ?_, ?_⟩, by simp [intOf]; omega⟩
      · rw [take_snoc hx]
        refine (hel.stays (app_stays _ hgrow1 hat hb1 (fun b h _ => h))).snoc (hE'.stays (app_stays _ hgrow1 hat (Below.refl _ _) (fun b h _ => ⟨by omega, fun e => ?_⟩)))
        have := (hown.lt b e).2
        omega
      · exact below_own ((hb.trans (hb1.mono hb.size)).alloc (by have := hb1.size; omega) _) hgrow1 ((own_below hown hb1).alloc _) (by rw [Deep.nblk_alloc]; have := hb1.size; omega)
    · obtain rfl : k = n := by omega
      have HR := hide (And.intro hown (And.intro hel hb))
      have hge : ¬ ((k : Int) < k) := by omega
      clear hown hel hb
      go_wp2
      go_ret
      obtain ⟨hown, hel, hb⟩ := HR.out
      obtain ⟨IH, h1, hn⟩ := HI.out
      refine ⟨_, rfl, own_slice (by rw [hn]; exact hown) ?_ (by omega) (fun g hg => (hown.lt g hg).1), hb⟩
      rw [← hn, DL.len, List.take_length] at hel
      exact hel.stays (stays_refl fun b h _ => h.1)

end Go.Proofs.Ytmlmepbnjlepnaa
