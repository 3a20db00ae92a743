/-
  The walks of Store.Num and call.at, call.index for small numbers.
-/
import Derived.Test.YtafignheedbnbaaGreatDoorPhJ
import Derived.Test.YtafignheedbnbaaGreatDoorPwAll
import Derived.Deep.RegionWith
import Derived.Deep.CutRange
namespace Go.Proofs.YtafignheedbnbaaGreatDoor
open Go.RowKit Go.BigFrame
set_option linter.unusedSimpArgs false
set_option linter.unusedVariables false

def NumDone (w : World) (e : Ending) (w' : World) : Prop := ∃ a l c, e = .returned (.tuple #[.agg #[.bool false, .slice a l c], .bool true]) ∧ Below w.heap.size w w'

set_option maxHeartbeats 1000000 in
theorem num_fix (p : Value) (n : Nat) (hn : n < 130) (w : World) : Calls Tryz.prog 23 #[p, .int .u64 (4 * n + 1 : Nat)] w (NumDone w) := by
  have HI := hide (fun w1 => int_fix n (by omega) w1)
  have HO := hide (fun w1 => of_any n hn w1)
  obtain ⟨x, hx⟩ : ∃ x, 4 * n + 1 = x := ⟨_, rfl⟩
  rw [hx] at HI ⊢
  clear hx hn
  go_enter Tryz.func23, Tryz.ntmps23
  go_wp2_with (go_at_call 59; fail)
  refine (HI.out _).mono ?_
  rintro e w1 ⟨rfl, rfl⟩
  go_upto_region 3 with fail
  refine genW (fun U => U.heap[w.heap.size]? = some (.cells #[.bool false, .slice none 0 0] 24 (0, 0)) ∧ Below w.heap.size w U) ⟨Deep.blk_alloc_new _ _, (Below.refl _ _).alloc (Nat.le_refl _) _⟩ ?_
  intro U hU
  obtain ⟨b, hb⟩ : ∃ b, w.heap.size = b := ⟨_, rfl⟩
  rw [hb]
  have HU := hide (And.intro hU hb)
  clear hU hb
  go_wp2_with (go_at_call 51; fail)
  refine (HO.out U).mono ?_
  rintro e w2 ⟨a, l, c, rfl, hb2⟩
  obtain ⟨⟨hZ, hW⟩, hb⟩ := HU.out
  have hZ2 := (hb2.block _ (ph_lt hZ)).trans hZ
  rw [hb] at hZ2
  have z0 : w2.cell? ⟨b, 0, none⟩ = some (.bool false) := by simp [World.cell?, hZ2]
  have z1 : w2.cell? ⟨b, 1, none⟩ = some (.slice none 0 0) := by simp [World.cell?, hZ2]
  have zf : ∀ o, w2.frozen? ⟨b, o, none⟩ = false := fun o => by simp [World.frozen?, hZ2]
  have HZ := hide (And.intro hZ2 (And.intro (hW.trans (hb2.mono hW.size)) hb))
  clear hZ hW hb hb2 hZ2
  go_wp2
  obtain ⟨hZ, hW, hb⟩ := HZ.out
  have hV : ((w2.setCell ⟨b, 0, none⟩ (.bool false)).setCell ⟨b, 1, none⟩ (.slice a l c)).heap[b]? = some (.cells #[.bool false, .slice a l c] 24 (0, 0)) := by
    simp [World.setCell, Array.getElem?_modify, hZ]
  have hB : Below w.heap.size w ((w2.setCell ⟨b, 0, none⟩ (.bool false)).setCell ⟨b, 1, none⟩ (.slice a l c)) := (hW.setCell (p := ⟨b, 0, none⟩) (by show w.heap.size ≤ b; omega) _).setCell (p := ⟨b, 1, none⟩) (by show w.heap.size ≤ b; omega) _
  generalize ((w2.setCell ⟨b, 0, none⟩ (.bool false)).setCell ⟨b, 1, none⟩ (.slice a l c)) = V at *
  have v0 : V.cell? ⟨b, 0, none⟩ = some (.bool false) := by simp [World.cell?, hV]
  have v1 : V.cell? ⟨b, 1, none⟩ = some (.slice a l c) := by simp [World.cell?, hV]
  exact bodyPost_ret (v := .tuple #[.agg #[.bool false, .slice a l c], .bool true]) (by simp [results, Tryz.results23, go_sem, v0, v1]) rfl ⟨a, l, c, rfl, hB⟩

def NumPut (w : World) (e : Ending) (w' : World) : Prop := ∃ a l c, e = .returned (.tuple #[.agg #[.bool false, .slice a l c], .bool true]) ∧ w'.heap[w.heap.size]? = some (.cells #[.bool false, .slice none 0 0] 24 (0, 0)) ∧ Below w.heap.size w w'
theorem num_cells {w : World} {b : Nat} (h : w.heap[b]? = some (.cells #[.bool false, .slice none 0 0] 24 (0, 0))) : w.cell? ⟨b, 0, none⟩ = some (.bool false) ∧ w.cell? ⟨b, 1, none⟩ = some (.slice none 0 0) ∧ ∀ o, w.frozen? ⟨b, o, none⟩ = false :=
  ⟨by simp [World.cell?, h], by simp [World.cell?, h], fun o => by simp [World.frozen?, h]⟩
def NumAt (w : World) (s6 s7 : Value) (wx : World) : Prop := ∃ pb a l cc, s6 = .pointer (some ⟨pb, 0, none⟩) ∧ s7 = .bool true ∧ wx.heap[pb]? = some (.cells #[.bool false, .slice a l cc] 24 (0, 0)) ∧ Below w.heap.size w wx
theorem num_endA {w w1 : World} {a : Option Addr} {l c : Nat} (hz : w1.heap[w.heap.size]? = some (.cells #[.bool false, .slice none 0 0] 24 (0, 0))) (hb : Below w.heap.size w w1) :
    NumAt w (.pointer (some ⟨w.heap.size, 0, none⟩)) (.bool true) ((w1.setCell ⟨w.heap.size, 0, none⟩ (.bool false)).setCell ⟨w.heap.size, 1, none⟩ (.slice a l c)) :=
  ⟨w.heap.size, a, l, c, rfl, rfl, by simp [World.setCell, Array.getElem?_modify, hz], (hb.setCell (p := ⟨w.heap.size, 0, none⟩) (Nat.le_refl _) _).setCell (p := ⟨w.heap.size, 1, none⟩) (Nat.le_refl _) _⟩
theorem num_endB {w w1 : World} {a : Option Addr} {l c : Nat} (hb : Below w.heap.size w w1) :
    NumAt w (.pointer (some ⟨w1.heap.size, 0, none⟩)) (.bool true) (w1.alloc (.cells #[.bool false, .slice a l c] 24)) :=
  ⟨w1.heap.size, a, l, c, rfl, rfl, Deep.blk_alloc_new _ _, hb.alloc hb.size _⟩

section
variable {w w' : World} {S : Sto} {M M' : Nat → Prop} {h h' : List Ob} {sy sy' : List (ByteArray × Nat)} {cb : Nat} {nm : ByteArray} {A : Option Addr} {c : Nat} {xs : List Nat}

set_option maxHeartbeats 1000000 in
theorem at_fix (k : PAt w S M h sy cb nm A c xs) (j n : Nat) (hj : xs[j]? = some (4 * n + 1)) (hn : n < 130) (hl : xs.length ≤ 1000) : Calls Tryz.prog 195 #[.pointer (some ⟨cb, 0, none⟩), .int .i64 j] w fun e w' => e = .returned (.tuple #[.int .i64 n, .string ⟨#[]⟩]) ∧ Below w.heap.size w w' := by
  have HNum := hide (fun w1 => num_fix (.pointer (some ⟨S.sb, 0, none⟩)) n hn w1)
  have HI := hide (fun w1 => int_fix n (by omega) w1)
  have HK := hide k
  obtain ⟨p0, -, p2, -⟩ := k.cells
  obtain ⟨L, rfl, hcell, hjl⟩ := k.arg hj
  have HJ := hide hj
  obtain ⟨x, hx⟩ : ∃ x, 4 * n + 1 = x := ⟨_, rfl⟩
  rw [hx] at HNum HI hcell
  have HX := hide hx
  have hcbl := k.call.cells.2.2.2.2.2.1
  have hLl : L < w.heap.size := by
    rcases k.args with h0 | ⟨L', h1, h2, -⟩
    · rw [h0] at hjl; simp at hjl
    · cases h1; exact h2
  obtain ⟨m, hm⟩ : ∃ m, xs.length = m := ⟨_, rfl⟩
  rw [hm] at p2 hjl hl
  have hj' : (j : Int) < m := by omega
  have hj0 : (0 : Int) ≤ j := by omega
  have HM := hide hm
  clear k hj hx hm hn
  go_enter Tryz.func195, Tryz.ntmps195
  go_upto_region 1 with fail
  go_cut [6, 7] from 8 to 22 (fun s6 s7 wx => NumAt w s6 s7 wx)
  case first =>
    rename_i J K' hJ hM
    have HA := hide (show Calls Tryz.prog 23 #[.pointer (some ⟨S.sb, 0, none⟩), .int .u64 x] (w.drew.alloc (.cells #[.bool false, .slice none 0 0] 24)) fun e w' => NumPut w e w' from (HNum.out _).mono fun e w' ⟨a, l, c, e1, hb⟩ => by
      have hb0 : Below w.heap.size w (w.drew.alloc (.cells #[.bool false, .slice none 0 0] 24)) := (Below.refl w.heap.size w).drew.alloc (Nat.le_refl _) _
      exact ⟨a, l, c, e1, (hb.block _ (by show w.heap.size < (w.drew.alloc _).heap.size; simp)).trans (Deep.blk_alloc_new w.drew _), hb0.trans (hb.mono hb0.size)⟩)
    have HB := hide (show Calls Tryz.prog 23 #[.pointer (some ⟨S.sb, 0, none⟩), .int .u64 x] w.drew fun e w' => NumDone w e w' from (HNum.out _).mono fun e w' ⟨a, l, c, e1, hb⟩ => ⟨a, l, c, e1, (Below.refl w.heap.size w).drew.trans hb⟩)
    go_region_with (first
      | (go_at_call 23; refine HA.out.mono ?_; rintro e w1 ⟨a, l, cc, rfl, hz, hb1⟩; obtain ⟨z0, z1, zf⟩ := num_cells hz)
      | (go_at_call 23; refine HB.out.mono ?_; rintro e w1 ⟨a, l, cc, rfl, hb1⟩))
    all_goals
      refine hM _ _ (Met.intro (hJ _ _ ?_))
      (repeat apply Exists.intro)
      refine ⟨?rel, rfl⟩
      case rel => first | exact num_endA hz hb1 | exact num_endB hb1
  case rest =>
    obtain ⟨pb, a, l, cc, rfl, rfl, hZ, hB⟩ := hcut
    have hk := HK.out.below hB
    obtain ⟨q0, -, q2, -⟩ := hk.cells
    obtain ⟨L', hL', hcell', -⟩ := hk.arg HJ.out
    cases hL'
    rw [HX.out] at hcell'
    rw [HM.out] at q2
    have z0 : wc.cell? ⟨pb, 0, none⟩ = some (.bool false) := by simp [World.cell?, hZ]
    have H1 := hide hB
    clear hZ hB hk p0 p2 hcell HNum
    go_wp2_with (go_at_call 59; fail)
    refine (HI.out _).mono ?_
    rintro e w1 ⟨rfl, rfl⟩
    go_wp2
    go_ret2
    exact ⟨rfl, H1.out⟩

end
end Go.Proofs.YtafignheedbnbaaGreatDoor
