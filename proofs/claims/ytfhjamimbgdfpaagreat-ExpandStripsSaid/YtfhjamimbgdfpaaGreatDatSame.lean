/-
  The walks of tandemlaw00.SameLimbs, SameNum, Same, SameAll: what reads the same is the same.
-/
import Derived.Test.YtfhjamimbgdfpaaGreatDatum
import Derived.Test.YtfhjamimbgdfpaaGreatDatCopy
import Derived.Deep.OwnRows
import Derived.Deep.LoopGhost
import Derived.Outline
import Derived.Deep.CutRange
namespace Go.Proofs.YtfhjamimbgdfpaaGreat
open Go.RowKit Go.BigFrame

/-- The answer is yes. -/
def Yes (W : World) (e : Ending) (w' : World) : Prop := e = .returned (.bool true) ∧ Below W.heap.size W w'

set_option maxRecDepth 100000 in
set_option maxHeartbeats 1000000 in
theorem sameLimbs_any {W : World} {Q1 Q2 : Nat → Prop} {v1 v2 : Value} {m : List Int} (h1 : MagR W Q1 v1 m) (h2 : MagR W Q2 v2 m) : Calls Tryz.prog 28 #[v1, v2] W (Yes W) := by
  obtain ⟨p1, c1, rfl, -, hlen, h1⟩ := h1
  obtain ⟨p2, c2, rfl, -, -, h2⟩ := h2
  obtain ⟨n, hn⟩ : ∃ n, m.length = n := ⟨_, rfl⟩
  rw [hn] at h1 h2 hlen ⊢
  have HH := hide (And.intro h1 h2)
  clear h1 h2 hn
  go_enter Tryz.func28, Tryz.ntmps28
  go_wp2
  go_loopw [5] (fun c wr => ∃ k : Nat, k ≤ n ∧ c = .int .i64 k ∧ Below W.heap.size W wr) (fun c _ => n - (intOf c).toNat)
  case atStart => exact ⟨0, Nat.zero_le _, rfl, Below.refl _ _⟩
  case round =>
    obtain ⟨k, hk, rfl, hb⟩ := hrel
    by_cases hlt : k < n
    · obtain ⟨h1, h2⟩ := HH.out
      obtain ⟨b1, o1, rfl, -, hl1, hc1⟩ := h1 (by omega)
      obtain ⟨b2, o2, rfl, -, hl2, hc2⟩ := h2 (by omega)
      have e1 := (hb.cell (p := ⟨b1, o1 + k, none⟩) hl1).trans (hc1 k hlt)
      have e2 := (hb.cell (p := ⟨b2, o2 + k, none⟩) hl2).trans (hc2 k hlt)
      have hlt' : (k : Int) < n := by omega
      have hk0 : (0 : Int) ≤ k := by omega
      have HB := hide hb
      clear h1 h2 hc1 hc2 hb
      go_upto_region 6 with fail
      go_region
      go_wp2
      refine ⟨⟨k + 1, by omega, by go_num, ?_⟩, by simp [intOf]; omega⟩
      repeat (first | exact HB.out | apply Below.drew)
    · obtain rfl : k = n := by omega
      have hge : ¬ ((k : Int) < k) := by omega
      go_wp2
      go_ret
      exact ⟨rfl, hb⟩

set_option maxRecDepth 100000 in
set_option maxHeartbeats 1000000 in
theorem sameNum_any {W : World} {Q1 Q2 : Nat → Prop} {v1 v2 : Value} {m : List Int} {g : Bool} (h1 : MagR W Q1 v1 m) (h2 : MagR W Q2 v2 m) : Calls Tryz.prog 18 #[.agg #[.bool g, v1], .agg #[.bool g, v2]] W (Yes W) := by
  obtain ⟨p1, c1, rfl, -⟩ := id h1
  obtain ⟨p2, c2, rfl, -⟩ := id h2
  have HH := hide (And.intro h1 h2)
  clear h1 h2
  have HT := hide (fun a b => twoB W a b)
  go_enter Tryz.func18, Tryz.ntmps18
  go_upto_region 1 with fail
  refine genW (fun U => (U.heap[W.heap.size]? = some (.cells #[.bool g, .slice p1 m.length c1] 24 (0, 0))) ∧ (U.heap[W.heap.size + 1]? = some (.cells #[.bool g, .slice p2 m.length c2] 24 (0, 0))) ∧ Below W.heap.size W U ∧ U.heap.size = W.heap.size + 2) (HT.out _ _) ?_
  intro U hU
  obtain ⟨hx, hy, hb, hs⟩ := hU
  have x0 : U.cell? ⟨W.heap.size, 0, none⟩ = some (.bool g) := by simp [World.cell?, hx]
  have x1 : U.cell? ⟨W.heap.size, 1, none⟩ = some (.slice p1 m.length c1) := by simp [World.cell?, hx]
  have y0 : U.cell? ⟨W.heap.size + 1, 0, none⟩ = some (.bool g) := by simp [World.cell?, hy]
  have y1 : U.cell? ⟨W.heap.size + 1, 1, none⟩ = some (.slice p2 m.length c2) := by simp [World.cell?, hy]
  have HL := hide (sameLimbs_any (HH.out.1.stays (stays_below hb)) (HH.out.2.stays (stays_below hb)))
  have HB := hide hb
  clear hx hy hb hs HT
  go_wp2_with (go_at_call 28; refine HL.out.mono ?_; rintro e u1 ⟨rfl, hb1⟩)
  go_ret
  exact ⟨rfl, HB.out.trans (hb1.mono HB.out.size)⟩

def SameAllOk (d : DL) : Prop := ∀ (W : World) (Q1 Q2 : Nat → Prop) (v1 v2 : Value), SliceR W Q1 v1 d → SliceR W Q2 v2 d → Calls Tryz.prog 19 #[v1, v2] W (Yes W)

set_option maxRecDepth 100000 in
set_option maxHeartbeats 2000000 in
theorem same_of {x : Hd × DL × DL} (hi : SameAllOk x.2.1) (hr : SameAllOk x.2.2) {W : World} {Q1 Q2 : Nat → Prop} {cs1 cs2 : List Value} (h1 : ElemR W Q1 cs1 x) (h2 : ElemR W Q2 cs2 x) :
    Calls Tryz.prog 7 #[.agg ⟨cs1⟩, .agg ⟨cs2⟩] W (Yes W) := by
  obtain ⟨vm, vi, vr, rfl, a1, a2, a3⟩ := h1
  obtain ⟨wm, wi, wr, rfl, b1, b2, b3⟩ := h2
  obtain ⟨⟨kd, n, ng, mg, tx⟩, di, dr⟩ := x
  dsimp only at hi hr a1 a2 a3 b1 b2 b3
  unfold headV
  dsimp only
  obtain ⟨bx, hbx⟩ : ∃ bx, W.heap.size = bx := ⟨_, rfl⟩
  have HH := hide (And.intro (And.intro hi hr) (And.intro (And.intro a1 b1) (And.intro (And.intro a2 b2) (And.intro a3 b3))))
  clear hi hr a1 a2 a3 b1 b2 b3
  go_enter Tryz.func7, Tryz.ntmps7
  go_upto_region 1 with fail
  refine genW (fun U => BoxD U W.heap.size [.int .i64 kd, .int .i64 n, .bool ng, vm, .string tx, vi, vr] ∧ BoxD U (W.heap.size + 1) [.int .i64 kd, .int .i64 n, .bool ng, wm, .string tx, wi, wr] ∧ Below W.heap.size W U ∧ U.heap.size = W.heap.size + 2) (twoB W _ _) ?_
  intro U hU
  rw [hbx] at hU
  obtain ⟨hB, hZ, hW, hsz⟩ := hU
  rw [← hbx] at hW
  obtain ⟨c0, c1, c2, c3, c4, c5, c6, -⟩ := box7 hB
  obtain ⟨d0, d1, d2, d3, d4, d5, d6, -⟩ := box7 hZ
  have HB := hide (And.intro hB (And.intro hZ hW))
  have HN := hide (sameNum_any (g := ng) (HH.out.2.1.1.stays (stays_below hW)) (HH.out.2.1.2.stays (stays_below hW)))
  have HI := hide (fun (U' : World) (hb : Below U.heap.size U U') => HH.out.1.1 U' _ _ vi wi (HH.out.2.2.1.1.stays ((stays_below hW).trans (stays_below hb))) (HH.out.2.2.1.2.stays ((stays_below hW).trans (stays_below hb))))
  have HR := hide (fun (U' : World) (hb : Below U.heap.size U U') => HH.out.1.2 U' _ _ vr wr (HH.out.2.2.2.1.stays ((stays_below hW).trans (stays_below hb))) (HH.out.2.2.2.2.stays ((stays_below hW).trans (stays_below hb))))
  clear hB hZ hW hsz
  go_wp2_with (first
    | (go_at_call 18; refine HN.out.mono ?_; rintro e u1 ⟨rfl, hb1⟩; obtain ⟨c10, c11, c12, c13, c14, c15, c16, -⟩ := box7 (HB.out.1.below hb1); obtain ⟨d10, d11, d12, d13, d14, d15, d16, -⟩ := box7 (HB.out.2.1.below hb1))
    | (go_at_call 19; refine (HR.out u2 hbb).mono ?_; rintro e u3 ⟨rfl, hb3⟩)
    | (go_at_call 19; refine (HI.out u1 hb1).mono ?_; rintro e u2 ⟨rfl, hb2⟩; have hbb := hb1.trans (hb2.mono hb1.size); obtain ⟨c20, c21, c22, c23, c24, c25, c26, -⟩ := box7 (HB.out.1.below hbb); obtain ⟨d20, d21, d22, d23, d24, d25, d26, -⟩ := box7 (HB.out.2.1.below hbb)))
  go_ret
  exact ⟨rfl, HB.out.2.2.trans ((hbb.trans (hb3.mono hbb.size)).mono HB.out.2.2.size)⟩

set_option maxRecDepth 100000 in
set_option maxHeartbeats 2000000 in
theorem sameAll_any : ∀ d, SameAllOk d := DL.ind fun d IH => by
  intro W Q1 Q2 v1 v2 h1 h2
  obtain ⟨p1, c1, rfl, hlen, h1⟩ := h1
  obtain ⟨p2, c2, rfl, -, h2⟩ := h2
  obtain ⟨n, hn⟩ : ∃ n, d.len = n := ⟨_, rfl⟩
  rw [hn] at h1 h2 hlen ⊢
  have HH := hide (And.intro IH (And.intro h1 (And.intro h2 hn)))
  clear IH h1 h2 hn
  go_enter Tryz.func19, Tryz.ntmps19
  go_wp2
  go_loopw [5] (fun c wr => ∃ k : Nat, k ≤ n ∧ c = .int .i64 k ∧ Below W.heap.size W wr) (fun c _ => n - (intOf c).toNat)
  case atStart => exact ⟨0, Nat.zero_le _, rfl, Below.refl _ _⟩
  case round =>
    obtain ⟨k, hk, rfl, hb⟩ := hrel
    by_cases hlt : k < n
    · obtain ⟨IH, h1, h2, hn⟩ := HH.out
      obtain ⟨b1, o1, rfl, -, hl1, hr1⟩ := h1 (by omega)
      obtain ⟨b2, o2, rfl, -, hl2, hr2⟩ := h2 (by omega)
      obtain ⟨x, hx⟩ : ∃ x, d.elems[k]? = some x := ⟨_, List.getElem?_eq_getElem (by rw [← hn] at hlt; exact hlt)⟩
      obtain ⟨cs1, he1, hc1⟩ := hr1.elem k x hx
      obtain ⟨cs2, he2, hc2⟩ := hr2.elem k x hx
      have hIx := IH x (List.mem_of_getElem? hx)
      have HS0 := (fun y : Later wr => same_of hIx.1 hIx.2 (W := after wr y) (he1.stays (stays_below (hb.trans (y.2.mono hb.size)))) (he2.stays (stays_below (hb.trans (y.2.mono hb.size)))))
      have hc1 := hc1.stays (hb.block b1 hl1)
      have hc2 := hc2.stays (hb.block b2 hl2)
      obtain ⟨vm, vi, vr, rfl, -⟩ := he1
      obtain ⟨wm, wi, wz, rfl, -⟩ := he2
      obtain ⟨⟨kd, nn, ng, mg, tx⟩, di, dr⟩ := x
      have e0 := hc1 0 _ rfl
      have e1 := hc1 1 _ rfl
      have e2 := hc1 2 _ rfl
      have e3 := hc1 3 _ rfl
      have e4 := hc1 4 _ rfl
      have e5 := hc1 5 _ rfl
      have e6 := hc1 6 _ rfl
      have f0 := hc2 0 _ rfl
      have f1 := hc2 1 _ rfl
      have f2 := hc2 2 _ rfl
      have f3 := hc2 3 _ rfl
      have f4 := hc2 4 _ rfl
      have f5 := hc2 5 _ rfl
      have f6 := hc2 6 _ rfl
      simp only [Nat.add_zero] at e0 f0
      have HS : Hid (∀ y : Later wr, Calls Tryz.prog 7 #[.agg #[.int .i64 kd, .int .i64 nn, .bool ng, vm, .string tx, vi, vr], .agg #[.int .i64 kd, .int .i64 nn, .bool ng, wm, .string tx, wi, wz]] (after wr y) fun e w' => e = .returned (.bool true) ∧ Below (after wr y).heap.size (after wr y) w') := hide HS0
      clear HS0
      have hl1 := Nat.lt_of_lt_of_le hl1 hb.size
      have hl2 := Nat.lt_of_lt_of_le hl2 hb.size
      have hlt' : (k : Int) < n := by omega
      have hk0 : (0 : Int) ≤ k := by omega
      have HB := hide hb
      clear h1 h2 hc1 hc2 hr1 hr2 hIx IH hx hn
      go_upto_region 6 with fail
      refine wp_region_later (by kernel_rfl) (by kernel_rfl) ?_
      repeat (first
        | go_big_quiet_step (first | (go_at_call 7; with_reducible exact later_of (HS.out _)))
        | quiet_step (first | (go_at_call 7; with_reducible exact later_of (HS.out _))))
      refine wpQuiet_nil ?_
      rintro _ ⟨⟨w2, hb2⟩, rfl⟩
      have HB2 := hide (HB.out.trans (hb2.mono HB.out.size))
      clear hb2
      go_wp2
      exact ⟨⟨k + 1, by omega, by go_num, HB2.out⟩, by simp [intOf]; omega⟩
    · obtain rfl : k = n := by omega
      have hge : ¬ ((k : Int) < k) := by omega
      go_wp2
      go_ret
      exact ⟨rfl, hb⟩

end Go.Proofs.YtfhjamimbgdfpaaGreat
