/-
  The walk of the checker's method proto.
-/
import Derived.Test.YtmlmepbnjlepnaaChkProtoL
namespace Go.Proofs.Ytmlmepbnjlepnaa
open Go.RowKit Go.BigFrame

set_option maxRecDepth 100000 in
set_option maxHeartbeats 4000000 in
theorem proto_any (cb pb : Nat) (psa : Option Addr) (pcap : Nat) (L : List PrV) (i : Nat) (v : PrV) (w : World) (h : ChkAt w cb pb (.slice psa L.length pcap)) (hps : PsAt w psa L) (hv : L[i]? = some v) (hh : headB v.pr i = true) :
    Calls Try.prog 16 #[.pointer (some ⟨cb, 0, none⟩), .int .i64 i] w (ProtoDone w v.pr.code.length (protoR (prs L) v.pr)) := by
  have hi : i < L.length := (List.getElem?_eq_some_iff.1 hv).1
  have hlen := hps.len
  have hvk := hps.nk v (List.mem_of_getElem? hv)
  obtain ⟨b, o, v', rfl, hb, hv', hc⟩ := hps.row i hi
  obtain rfl : v = v' := Option.some.inj (hv.symm.trans hv')
  have q0 := h.ps
  have hcb := lt_of_heap h.chk
  have e0 := hc 0 (by omega)
  have e1 := hc 1 (by omega)
  have e2 := hc 2 (by omega)
  have e3 := hc 3 (by omega)
  have e4 := hc 4 (by omega)
  have e5 := hc 5 (by omega)
  have e6 := hc 6 (by omega)
  obtain ⟨nm, ⟨pa, pf, pr, code, nc, nn⟩, ca, ccap, ka, kcap, na, ncap⟩ := v
  simp [PrV.cells] at e0 e1 e2 e3 e4 e5 e6
  dsimp only at hvk ⊢
  obtain ⟨n, hn⟩ : ∃ n, n = code.length := ⟨_, rfl⟩
  have hmk := run_make_row' (P := Try.prog) 42 3 (.int .i64 0) 8 Try.underlying42 info3' rfl .i64 .i64 n (by omega) (by omega)
  have hmb := run_make_row' (P := Try.prog) 68 4 (.bool false) 1 Try.underlying68 info4' rfl .i64 .i64 n (by omega) (by omega)
  have hi0 : (0 : Int) ≤ i := by omega
  have hi1 : (i : Int) < L.length := by omega
  have hn0 : 1 ≤ n := by rw [hn]; simp [headB] at hh; omega
  rw [← hn] at e4 hvk ⊢
  have HH := hide (And.intro h (And.intro hps (And.intro hv (And.intro hh hn))))
  clear h hps hc hv hv' hh hn
  go_enter Try.func16, Try.ntmps16
  go_wp2
  go_region
  go_wp2
  obtain ⟨db, hdb⟩ : ∃ db, w.heap.size = db := ⟨_, rfl⟩
  have b1 : Below w.heap.size w (((w.alloc (Obj.cells (madeCells #[Value.int IntKind.i64 0] n) 3)).alloc (Obj.cells #[Value.string nm, Value.int IntKind.i64 pa, Value.int IntKind.i64 pf, Value.bool pr, Value.slice ca n ccap, Value.slice ka nc kcap, Value.slice na nn ncap, Value.slice (some { block := w.heap.size, off := 0 }) n n] 60)).drew) := by
    repeat (first | exact Below.refl _ _ | apply Below.drew | apply below_drewN | refine Below.alloc ?_ (by simp <;> omega) _)
  have d1 : World.rowIs (((w.alloc (Obj.cells (madeCells #[Value.int IntKind.i64 0] n) 3)).alloc (Obj.cells #[Value.string nm, Value.int IntKind.i64 pa, Value.int IntKind.i64 pf, Value.bool pr, Value.slice ca n ccap, Value.slice ka nc kcap, Value.slice na nn ncap, Value.slice (some { block := w.heap.size, off := 0 }) n n] 60)).drew) db 3 n (fun _ => .int .i64 0) := by
    rw [← hdb]; exact ((World.rowIs_made _ _ _ _).alloc _).drew
  have x1 : (((w.alloc (Obj.cells (madeCells #[Value.int IntKind.i64 0] n) 3)).alloc (Obj.cells #[Value.string nm, Value.int IntKind.i64 pa, Value.int IntKind.i64 pf, Value.bool pr, Value.slice ca n ccap, Value.slice ka nc kcap, Value.slice na nn ncap, Value.slice (some { block := w.heap.size, off := 0 }) n n] 60)).drew).heap[db + 1]? = some (.cells #[Value.string nm, Value.int IntKind.i64 pa, Value.int IntKind.i64 pf, Value.bool pr, Value.slice ca n ccap, Value.slice ka nc kcap, Value.slice na nn ncap, Value.slice (some { block := db, off := 0 }) n n] 60 (0, 0)) := by
    rw [← hdb, show ∀ W : World, W.drew.heap = W.heap from fun _ => rfl]
    have e := Deep.blk_alloc_new (w.alloc (Obj.cells (madeCells #[Value.int IntKind.i64 0] n) 3)) (Obj.cells #[Value.string nm, Value.int IntKind.i64 pa, Value.int IntKind.i64 pf, Value.bool pr, Value.slice ca n ccap, Value.slice ka nc kcap, Value.slice na nn ncap, Value.slice (some { block := w.heap.size, off := 0 }) n n] 60)
    rwa [Deep.nblk_alloc] at e
  have s1 : (((w.alloc (Obj.cells (madeCells #[Value.int IntKind.i64 0] n) 3)).alloc (Obj.cells #[Value.string nm, Value.int IntKind.i64 pa, Value.int IntKind.i64 pf, Value.bool pr, Value.slice ca n ccap, Value.slice ka nc kcap, Value.slice na nn ncap, Value.slice (some { block := w.heap.size, off := 0 }) n n] 60)).drew).heap.size = db + 2 := by
    rw [← hdb, show ∀ W : World, W.drew.heap = W.heap from fun _ => rfl, Deep.nblk_alloc, Deep.nblk_alloc]
  generalize hW1 : (((w.alloc (Obj.cells (madeCells #[Value.int IntKind.i64 0] n) 3)).alloc (Obj.cells #[Value.string nm, Value.int IntKind.i64 pa, Value.int IntKind.i64 pf, Value.bool pr, Value.slice ca n ccap, Value.slice ka nc kcap, Value.slice na nn ncap, Value.slice (some { block := w.heap.size, off := 0 }) n n] 60)).drew) = W1 at *
  clear hW1
  simp only [hdb]
  have H1 := hide (And.intro b1 (And.intro hdb s1))
  clear b1 hdb s1 hmk e0 e1 e2 e3 e4 e5 e6 hb q0
  go_loopw [44] (fun c wr => ∃ k : Nat, k ≤ n ∧ c = .int .i64 k ∧ wr.rowIs db 3 n (fun j => .int .i64 (if j < k then -1 else 0)) ∧ wr.heap[db + 1]? = some (.cells #[Value.string nm, Value.int IntKind.i64 pa, Value.int IntKind.i64 pf, Value.bool pr, Value.slice ca n ccap, Value.slice ka nc kcap, Value.slice na nn ncap, Value.slice (some { block := db, off := 0 }) n n] 60 (0, 0)) ∧ Below db W1 wr ∧ wr.heap.size = db + 2)
    (fun c _ => n - (intOf c).toNat)
  case atStart => exact ⟨0, Nat.zero_le _, rfl, d1.congr (fun j hj => by simp), x1, Below.refl _ _, H1.out.2.2⟩
  case round =>
    obtain ⟨k, hkl, rfl, hd, hx, hb, hs⟩ := hrel
    obtain ⟨c0, c1, c2, c3, c4, c5, c6, c7⟩ := box_cells hx
    clear d1 x1
    by_cases hlt : k < n
    · have hck := hd.cell hlt
      have hfk := hd.frozen k
      have HH2 := hide (And.intro hd (And.intro hx (And.intro hb hs)))
      have hlt' : (k : Int) < n := by omega
      have hk0 : (0 : Int) ≤ k := by omega
      clear hd hx hb hs
      go_wp2
      obtain ⟨hd, hx, hb, hs⟩ := HH2.out
      refine ⟨⟨k + 1, by omega, by go_num, (hd.set k _).congr (fun j hj => ?_), ?_, hb.setCell (Nat.le_refl _) _, ?_⟩, by simp [intOf]; omega⟩
      · by_cases e : j = k
        · simp [e]
        · have : (j < k + 1) = (j < k) := by simp; omega
          simp [e, this]
      · rw [Deep.blk_setCell_other _ _ _ _ (by simp)]; exact hx
      · simpa [World.setCell] using hs
    · obtain rfl : n = k := by omega
      have HH2 := hide (And.intro hd (And.intro hx (And.intro hb hs)))
      have hcz := hd.cell (i := 0) (by omega)
      have hfz := hd.frozen 0
      simp only [show 0 < n from by omega, if_true] at hcz
      have hpa : 0 ≤ pa ∧ pa ≤ 64 := by
        have := HH.out.2.2.2.1
        simp [headB, inB] at this
        omega
      have hn1 : n ≤ 65536 := by
        have h1 := HH.out.2.2.2.1
        have h2 := HH.out.2.2.2.2
        simp [headB] at h1
        omega
      have hpa0 := hpa.1
      have hpa1 := hpa.2
      have hmc : (madeCells #[Value.bool false] n)[0]? = some (.bool false) := by simp [madeCells, show 0 < n from by omega]
      clear hd hx hb hs hlt hkl hpa hlen hvk
      go_upto_region 7 with (fail)
      go_region
      go_upto_if 68 with (fail)
      go_cut [7] from 54 to 76 (fun s7 wx => s7 = .pointer (some ⟨db + 1, 0, none⟩) ∧ DsAt wx db n ((List.replicate n (-1)).set 0 (if pr then pa + 1 else pa)) ∧ wx.heap[db + 1]? = some (.cells #[Value.string nm, Value.int IntKind.i64 pa, Value.int IntKind.i64 pf, Value.bool pr, Value.slice ca n ccap, Value.slice ka nc kcap, Value.slice na nn ncap, Value.slice (some { block := db, off := 0 }) n n] 60 (0, 0)) ∧ Below db W1 wx ∧ wx.heap.size = db + 2)
      case first =>
        obtain ⟨hd, hx, hb, hs⟩ := HH2.out
        have eD : ∀ d : Int, DsAt (wr.setCell ⟨db, 0, none⟩ (.int .i64 d)) db n ((List.replicate n (-1)).set 0 d) := fun d =>
          (World.rowIs.set hd 0 (.int .i64 d)).congr fun j hj => by
            rw [getD_set _ _ _ _ _ (by simp; omega)]
            split
            · rfl
            · simp [List.getD, hj]
        have eX : ∀ (W : World) (v : Value), W.heap[db + 1]? = wr.heap[db + 1]? → (W.setCell ⟨db, 0, none⟩ v).heap[db + 1]? = wr.heap[db + 1]? := fun W v h => (Deep.blk_setCell_other _ _ _ _ (by simp)).trans h
        have HE := hide (And.intro eD eX)
        clear eD eX hd hx hb hs
        cases pr
        · go_wp2_with fail
          all_goals go_meet
          obtain ⟨eD, eX⟩ := HE.out
          obtain ⟨hd, hx, hb, hs⟩ := HH2.out
          exact ⟨rfl, eD pa, (eX _ _ rfl).trans hx, (hb.setCell (p := ⟨db, 0, none⟩) (Nat.le_refl _) _).drew, by simpa [World.setCell, World.drew] using hs⟩
        · go_wp2_with fail
          all_goals go_meet
          obtain ⟨eD, eX⟩ := HE.out
          obtain ⟨hd, hx, hb, hs⟩ := HH2.out
          refine ⟨rfl, ?_, (eX _ _ (eX _ _ rfl)).trans hx, ((hb.setCell (p := ⟨db, 0, none⟩) (Nat.le_refl _) _).setCell (p := ⟨db, 0, none⟩) (Nat.le_refl _) _).drew, by simpa [World.setCell, World.drew] using hs⟩
          have e := (eD pa).set (by simp) (i := 0) (by omega) (pa + 1)
          rw [List.set_set] at e
          go_simp
          exact e
      case rest =>
        obtain ⟨rfl, hd, hx, hb, hs⟩ := hcut
        clear c0 c1 c2 c3 c4 c5 c6 c7 hcz hfz HH2
        obtain ⟨c0, c1, c2, c3, c4, c5, c6, c7⟩ := box_cells hx
        have HH2 := hide (And.intro hd (And.intro hx (And.intro hb hs)))
        have HS := hide hs
        clear hd hx hb
        go_wp2
        obtain ⟨hd, hx, hb, hs⟩ := HH2.out
        have hn := HH.out.2.2.2.2
        clear c0 c1 c2 c3 c4 c5 c6 c7 HS HH2 hmb
        go_loopg [10] (fuel ⟨pa, pf, pr, code, nc, nn⟩) (fun gk c10 wr => ∃ s : St, c10 = .int .i64 s.pc ∧ Fine ⟨pa, pf, pr, code, nc, nn⟩ s ∧ runP (prs L) ⟨pa, pf, pr, code, nc, nn⟩ gk s = some (protoR (prs L) ⟨pa, pf, pr, code, nc, nn⟩) ∧ DsAt wr db n s.ds ∧ OpAt wr (db + 2) n s.op ∧ wr.heap[db + 1]? = some (.cells #[Value.string nm, Value.int IntKind.i64 pa, Value.int IntKind.i64 pf, Value.bool pr, Value.slice ca n ccap, Value.slice ka nc kcap, Value.slice na nn ncap, Value.slice (some { block := db, off := 0 }) n n] 60 (0, 0)) ∧ Below db W1 wr ∧ db + 2 < wr.heap.size)
        case atStart =>
          refine ⟨start ⟨pa, pf, pr, code, nc, nn⟩, rfl, start_fine (by dsimp only; omega) hpa0 hpa1, protoR_run (by dsimp only; omega) hpa0 hpa1, ?_, ?_, ?_, ?_, ?_⟩
          · unfold start; dsimp only; rw [← hn]
            exact (World.rowIs.alloc hd _)
          · have e := World.rowIs_alloc wc ((madeCells #[Value.bool false] n).setIfInBounds 0 (Value.bool true)) 4 (fun i => .bool (((List.replicate n false).set 0 true).getD i false)) (op_start n hn0)
            rw [hs] at e
            simp only [Array.size_setIfInBounds, size_madeCells] at e
            unfold start; dsimp only; rw [← hn]
            exact e
          · exact (Deep.blk_alloc_lt _ _ _ (by omega)).trans hx
          · exact hb.alloc (by omega) _
          · show db + 2 < (wc.alloc _).heap.size
            rw [Deep.nblk_alloc]; omega
        case round =>
          obtain ⟨s, rfl, hf, hr, hd, ho, hx, hb, hs⟩ := hrel
          have hs1 : db + 1 < wr.heap.size := by omega
          have hs0 : db < wr.heap.size := by omega
          by_cases hpc : s.pc < n
          · have hpc1 : (s.pc : Int) < n := by omega
            have hpc0 : (0 : Int) ≤ s.pc := by omega
            have hcop := World.rowIs.cell ho hpc
            have hfop := World.rowIs.frozen ho s.pc
            obtain ⟨c0, c1, c2, c3, c4, c5, c6, c7⟩ := box_cells hx
            by_cases hop : s.op.getD s.pc false = false
            · rw [hop] at hcop
              obtain ⟨g, hg, hr'⟩ := runP_go hr (by dsimp only; omega) (step_closed hop)
              have HZ := hide (And.intro hg (And.intro hr' (And.intro hf (And.intro hd (And.intro ho (And.intro hx (And.intro hb hs)))))))
              clear hr' hg hf hr hd ho hx hb hs hop
              go_wp2
              obtain ⟨hg, hr', hf, hd, ho, hx, hb, hs⟩ := HZ.out
              go_roundg g
              case measure => exact hg
              case rel => exact ⟨⟨s.ds, s.op, s.pc + 1⟩, by go_simp, hf, hr', hd, ho, hx, hb, hs⟩
            · replace hop : s.op.getD s.pc false = true := by simpa using hop
              rw [hop] at hcop
              obtain ⟨bc, oc, hca, hbc, k0, k1, k2⟩ := (HH.out.2.1.code _ (List.mem_of_getElem? HH.out.2.2.1)) s.pc (by dsimp only; omega)
              dsimp only at hca k0 k1 k2
              subst hca
              have hbw : Below w.heap.size w wr := H1.out.1.trans (by rw [H1.out.2.1]; exact hb)
              rw [← hbw.cell (p := ⟨bc, _, none⟩) hbc] at k0 k1 k2
              have hbc2 : bc < wr.heap.size := Nat.lt_of_lt_of_le hbc hbw.size
              have hbc1 : bc < db := by have := H1.out.2.1; omega
              have hbc3 : ¬ bc = db + 2 := by omega
              have hbc4 : ¬ db + 2 = bc := by omega
              generalize hx0 : code.getD s.pc ⟨0, 0, 0⟩ = x at k0 k1 k2
              obtain ⟨xo, xa, xb⟩ := x
              dsimp only at k0 k1 k2
              have hins : insAt ⟨pa, pf, pr, code, nc, nn⟩ s.pc = ⟨xo, xa, xb⟩ := hx0
              have hdep := hf.2.2 s.pc (by dsimp only; omega) hop
              have HZ := hide (And.intro hr (And.intro hf (And.intro hd (And.intro ho (And.intro hx (And.intro hb (And.intro hs (And.intro hbw (And.intro hop (And.intro hins hdep))))))))))
              clear hr hf hd ho hx hb hbw hop hx0 hins hdep hn
              go_upto_region 18 with (fail)
              refine gen_world (fun W => Rnd W db n s.ds (s.op.set s.pc false) #[Value.string nm, Value.int IntKind.i64 pa, Value.int IntKind.i64 pf, Value.bool pr, Value.slice (some ⟨bc, oc, none⟩) n ccap, Value.slice ka nc kcap, Value.slice na nn ncap, Value.slice (some { block := db, off := 0 }) n n] wr.heap.size ⟨xo, xa, xb⟩ ∧ Below db W1 W ∧ wr.heap.size < W.heap.size) ?_ ?_
              · obtain ⟨hr, hf, hd, ho, hx, hb, hs', hbw, hop, hins, hdep⟩ := HZ.out
                refine ⟨⟨World.rowIs.alloc (World.rowIs.setOther hd (by simp) _) _, World.rowIs.alloc (OpAt.set ho (hf.2.1.trans HH.out.2.2.2.2.symm) hpc false) _, ?_, ?_⟩, (hb.setCell (p := ⟨db + 2, s.pc, none⟩) (by simp) _).alloc (by rw [Deep.nblk_setCell]; omega) _, ?_⟩
                · exact (Deep.blk_alloc_lt _ _ _ (by rw [Deep.nblk_setCell]; omega)).trans ((Deep.blk_setCell_other _ _ _ _ (by simp)).trans hx)
                · have e := Deep.blk_alloc_new (wr.setCell ⟨db + 2, s.pc, none⟩ (.bool false)) (.cells #[.int .i64 xo, .int .i64 xa, .int .i64 xb] 34 (0, 0))
                  rw [Deep.nblk_setCell] at e
                  exact e
                · rw [Deep.nblk_alloc, Deep.nblk_setCell]; omega
              intro W hWW
              obtain ⟨hW, hbW, hsW⟩ := hWW
              obtain ⟨b0, b1, b2, b3, b4, b5, b6, b7⟩ := box_cells hW.box
              obtain ⟨x0, x1, x2⟩ := three_cells hW.x
              have hW1 := lt_of_heap hW.box
              have hbwW : Below w.heap.size w W := H1.out.1.trans (by rw [H1.out.2.1]; exact hbW)
              have Hops := hide (fun y : Later W => operands_at cb pb _ pcap L w (after W y) HH.out.1 HH.out.2.1 (hbwW.trans (y.2.mono hbwW.size)) nm ⟨pa, pf, pr, code, nc, nn⟩ (HH.out.2.1.nc _ (List.mem_of_getElem? HH.out.2.2.1)) (HH.out.2.1.nn _ (List.mem_of_getElem? HH.out.2.2.1)) (.slice (some ⟨bc, oc, none⟩) n ccap) ka kcap na ncap ⟨xo, xa, xb⟩)
              have HW := hide (And.intro hW (And.intro hbW (And.intro hsW hbwW)))
              clear hW hbW hbwW k0 k1 k2 c0 c1 c2 c3 c4 c5 c6 c7 hcop hfop
              by_cases he : opsE (prs L) ⟨pa, pf, pr, code, nc, nn⟩ ⟨xo, xa, xb⟩ = 0
              · obtain ⟨k, hk, hk22, hka, hkb⟩ := ops_fine he
                dsimp only at hk hka hkb
                subst hk
                have hbr : xb ≤ 9223372036854775807 := by
                  have e := HZ.out.2.2.2.2.2.2.2.2.2.1
                  have hl : s.pc < code.length := by have := HH.out.2.2.2.2; omega
                  unfold insAt at e
                  rw [List.getD, List.getElem?_eq_getElem hl] at e
                  have m := HH.out.2.1.nb _ (List.mem_of_getElem? HH.out.2.2.1) _ (List.getElem_mem hl)
                  simp only [Option.getD_some] at e
                  rw [e] at m
                  exact m
                have HO := hide he
                rw [he] at Hops
                clear he
                refine wp_region_later (by kernel_rfl) (by kernel_rfl) ?_
                repeat (first
                  | go_big_quiet_step (first | (go_at_call 22; with_reducible exact later_of (Hops.out _)))
                  | quiet_step (first | (go_at_call 22; with_reducible exact later_of (Hops.out _))))
                refine wpQuiet_nil ?_
                rintro w2 ⟨⟨wz, hbz⟩, hwz⟩
                have hb2 : Below W.heap.size W w2 := by rw [hwz]; exact hbz
                clear hwz hbz wz
                obtain ⟨hW, hbW, hsW, hbwW⟩ := HW.out
                have hW2 := hW.below hb2
                have hbW2 := hbW.trans (hb2.mono (by omega))
                have hbw2 := hbwW.trans (hb2.mono hbwW.size)
                have hs2 := Nat.lt_of_lt_of_le hsW hb2.size
                clear hb2 HW hW hbW hbwW Hops b0 b1 b2 b3 b4 b5 b6 b7 x0 x1 x2 hW1 hsW
                obtain ⟨b0, b1, b2, b3, b4, b5, b6, b7⟩ := box_cells hW2.box
                obtain ⟨x0, x1, x2⟩ := three_cells hW2.x
                have hw1 := lt_of_heap hW2.box
                have hw0 := World.rowIs.lt hW2.ds
                have hcd := World.rowIs.cell hW2.ds hpc
                have hdep := HZ.out.2.2.2.2.2.2.2.2.2.2
                obtain ⟨d, hd⟩ : ∃ d, s.ds.getD s.pc 0 = d := ⟨_, rfl⟩
                rw [hd] at hcd hdep
                have HD := hide hd
                clear hd
                have Hstk := hide (fun y : Later w2 => stack_any cb pb _ ⟨k, xa, xb⟩ k d (after w2 y) (HH.out.1.below (hbw2.trans (y.2.mono hbw2.size))) hdep.1 hdep.2 hk22 rfl hka (fun h => ⟨hkb h, hbr⟩))
                have HW2 := hide (And.intro hW2 (And.intro hbW2 (And.intro hbw2 (And.intro hs2 (And.intro hka (And.intro hkb hbr))))))
                clear hW2 hbW2 hbw2 hka hkb hbr hdep
                by_cases hst : (stackE ⟨k, xa, xb⟩ d).2 = 0
                · rw [hst] at Hstk
                  have HST := hide hst
                  clear hst
                  generalize hdd : (stackE ⟨k, xa, xb⟩ d).1 = dd at *
                  have HDD := hide hdd
                  clear hdd
                  go_upto_region 21 with fail
                  refine wp_region_later (by kernel_rfl) (by kernel_rfl) ?_
                  repeat (first
                    | go_big_quiet_step (first | (go_at_call 23; with_reducible exact later_of (Hstk.out _)))
                    | quiet_step (first | (go_at_call 23; with_reducible exact later_of (Hstk.out _))))
                  refine wpQuiet_nil ?_
                  rintro w3 ⟨⟨wz, hbz⟩, hwz⟩
                  have hb3 : Below w2.heap.size w2 w3 := by rw [hwz]; exact hbz
                  clear hwz hbz wz
                  obtain ⟨hW2, hbW2, hbw2, hs2, hka, hkb, hbr⟩ := HW2.out
                  have hW3 := hW2.below hb3
                  have hbW3 := hbW2.trans (hb3.mono (by omega))
                  have hbw3 := hbw2.trans (hb3.mono hbw2.size)
                  have hs3 := Nat.lt_of_lt_of_le hs2 hb3.size
                  clear hb3 HW2 hW2 hbW2 hbw2 hs2 Hstk b0 b1 b2 b3 b4 b5 b6 b7 x0 x1 x2 hw1 hw0 hcd
                  obtain ⟨x0, x1, x2⟩ := three_cells hW3.x
                  have hwant := (HH.out.1.below hbw3).want k hk22
                  have hcb3 := Nat.lt_of_lt_of_le hcb hbw3.size
                  have HG := hide (goes_any cb k xa xb s.pc (wantT k) w3 hk22 hcb3 hwant hpc0 (by omega))
                  have HON := hide (onward HZ.out.1 HZ.out.2.1 hpc HH.out.2.2.2.2 HZ.out.2.2.2.2.2.2.2.2.1 HZ.out.2.2.2.2.2.2.2.2.2.1 HO.out (by rw [HD.out]; exact HST.out))
                  rw [HD.out, HDD.out] at HON
                  have HW3 := hide (And.intro hW3 (And.intro hbW3 (And.intro hbw3 (And.intro hs3 (And.intro hka (And.intro hkb hbr))))))
                  clear hW3 hbW3 hbw3 hka hkb hbr hwant
                  generalize hl : goesW (wantT k) xa s.pc = l at *
                  have HL := hide hl
                  clear hl
                  go_wp2_with (go_at_call 24; refine HG.out.mono ?_; rintro _ w4 hg; obtain ⟨psl, gcap, rfl, hgc, hb4⟩ := goes_form hg; clear hg)
                  have hW4 : Rnd w4 db n s.ds (s.op.set s.pc false) #[Value.string nm, Value.int IntKind.i64 pa, Value.int IntKind.i64 pf, Value.bool pr, Value.slice (some ⟨bc, oc, none⟩) n ccap, Value.slice ka nc kcap, Value.slice na nn ncap, Value.slice (some { block := db, off := 0 }) n n] wr.heap.size ⟨k, xa, xb⟩ ∧ Below db W1 w4 ∧ Below w.heap.size w w4 ∧ wr.heap.size < w4.heap.size := by
                    obtain ⟨hW3, hbW3, hbw3, hs3, -⟩ := HW3.out
                    exact ⟨hW3.below hb4, hbW3.trans (hb4.mono (by omega)), hbw3.trans (hb4.mono hbw3.size), Nat.lt_of_lt_of_le hs3 hb4.size⟩
                  have HW4 := hide hW4
                  have hl2 := HON.out.len
                  clear hW4 hb4 HW3 HG x0 x1 x2 hcb3
                  go_loopw [142] (fun c w5 => ∃ j : Nat, j ≤ l.length ∧ c = .int .i64 j ∧ (∀ t ∈ l.take j, inB t n = true) ∧ Below w4.heap.size w4 w5)
                    (fun c _ => l.length - (intOf c).toNat)
                  case atStart => exact ⟨0, Nat.zero_le _, rfl, by simp, Below.refl _ _⟩
                  case round =>
                    obtain ⟨j, hjl, rfl, hall, hb5⟩ := hrel
                    by_cases hlt : j < l.length
                    · obtain ⟨g, hpsl, hg1, hg2, hgcell⟩ := hgc j hlt
                      subst hpsl
                      obtain ⟨t, ht⟩ : ∃ t, l.getD j 0 = t := ⟨_, rfl⟩
                      have hmem : t ∈ l := by rw [← ht, List.getD, List.getElem?_eq_getElem hlt]; exact List.getElem_mem hlt
                      have htk := take_succ_getD l j hlt
                      rw [ht] at hgcell htk
                      rw [← hb5.cell (p := ⟨g, j, none⟩) hg2] at hgcell
                      have hlt' : (j : Int) < l.length := by omega
                      have hj0 : (0 : Int) ≤ j := by omega
                      cases hin : inB t n
                      · have HR := hide (HON.out.jump t hmem hin)
                        have HF := hide (HW4.out.2.2.1.trans (hb5.mono HW4.out.2.2.1.size))
                        clear hall hb5 hgc ht hmem htk hg1 hg2
                        go_wp2_with (go_at_call 17; refine (in_any _ _ _).mono ?_; rintro e w' ⟨rfl, rfl⟩)
                        refine bodyPost_ret (v := .tuple #[.pointer none, .int .i64 s.pc, .int .i64 32]) (by simp [results, Try.results16, go_sem]) rfl ⟨HF.out, ?_⟩
                        rw [HR.out]
                      · have HZ5 := hide (And.intro hall (And.intro hb5 (And.intro htk hin)))
                        clear hall hb5 hgc ht hmem htk hg1 hg2
                        go_wp2_with (go_at_call 17; refine (in_any _ _ _).mono ?_; rintro e w' ⟨rfl, rfl⟩)
                        obtain ⟨hall, hb5, htk, hin⟩ := HZ5.out
                        refine ⟨⟨j + 1, by omega, by go_num, ?_, hb5⟩, by simp [intOf]; omega⟩
                        rw [htk]
                        intro t' ht'
                        rcases List.mem_append.1 ht' with h1 | h1
                        · exact hall t' h1
                        · rw [List.mem_singleton.1 h1]; exact hin
                    · obtain rfl : j = l.length := by omega
                      rw [List.take_length] at hall
                      have hW5 := HW4.out.1.below hb5
                      have hbW5 := HW4.out.2.1.trans (hb5.mono (by have := lt_of_heap HW4.out.1.box; omega))
                      have hbw5 := HW4.out.2.2.1.trans (hb5.mono HW4.out.2.2.1.size)
                      have hs5 := Nat.lt_of_lt_of_le HW4.out.2.2.2 hb5.size
                      have hgo := HON.out.go hall
                      have hno := HON.out.none hall
                      have hsl : s.ds.length = n ∧ s.op.length = n := ⟨HZ.out.2.1.1.trans HH.out.2.2.2.2.symm, HZ.out.2.1.2.1.trans HH.out.2.2.2.2.symm⟩
                      clear hb5 hgc HW4 hlt hjl HON
                      obtain ⟨x0, x1, x2⟩ := three_cells hW5.x
                      have hwant := (HH.out.1.below hbw5).want k hk22
                      have hcb5 := Nat.lt_of_lt_of_le hcb hbw5.size
                      have HG := goes_any cb k xa xb s.pc (wantT k) wr hk22 hcb5 hwant hpc0 (by omega)
                      rw [HL.out] at HG
                      have HG := hide HG
                      have HW5 := hide (And.intro hW5 (And.intro hbW5 (And.intro hs5 (And.intro hgo (And.intro hno (And.intro hall hsl))))))
                      clear hW5 hbW5 hbw5 hwant hgo hno hall hsl
                      go_wp2_with (go_at_call 24; refine HG.out.mono ?_; rintro _ w6 hg; obtain ⟨psl2, gcap2, rfl, hgc, hb6⟩ := goes_form hg; clear hg)
                      have hstart : (DsAt w6 db n s.ds ∧ OpAt w6 (db + 2) n (s.op.set s.pc false) ∧ w6.heap[db + 1]? = some (.cells #[Value.string nm, Value.int IntKind.i64 pa, Value.int IntKind.i64 pf, Value.bool pr, Value.slice (some ⟨bc, oc, none⟩) n ccap, Value.slice ka nc kcap, Value.slice na nn ncap, Value.slice (some { block := db, off := 0 }) n n] 60 (0, 0))) ∧ Below db W1 w6 ∧ (∀ i, i < l.length → ∃ g, psl2 = some ⟨g, 0, none⟩ ∧ db + 2 < g ∧ w6.cell? ⟨g, i, none⟩ = some (.int .i64 (l.getD i 0))) := by
                        obtain ⟨hW5, hbW5, hs5, -⟩ := HW5.out
                        have hW6 := hW5.below hb6
                        refine ⟨⟨hW6.ds, hW6.op, hW6.box⟩, hbW5.trans (hb6.mono (by omega)), fun i hi => ?_⟩
                        obtain ⟨g, h1, h2, h3, h4⟩ := hgc i hi
                        exact ⟨g, h1, by omega, h4⟩
                      have HST6 := hide hstart
                      have HW6 := hide HW5.out.2.2.2
                      have hdw := HW5.out.2.1.size
                      clear hstart hgc hb6 HW5 HG x0 x1 x2 hcb5 hs5 hdw
                      go_loopw [15, 158] (fun c15 c w7 => ∃ (j : Nat) (r : List Int × List Bool × Int), j ≤ l.length ∧ c = .int .i64 j ∧ c15 = .int .i64 r.2.2 ∧ land dd (l.take j) (s.ds, s.op.set s.pc false, (s.pc : Int) + 1) = some r ∧ r.1.length = n ∧ r.2.1.length = n ∧ DsAt w7 db n r.1 ∧ OpAt w7 (db + 2) n r.2.1 ∧ w7.heap[db + 1]? = some (.cells #[Value.string nm, Value.int IntKind.i64 pa, Value.int IntKind.i64 pf, Value.bool pr, Value.slice (some ⟨bc, oc, none⟩) n ccap, Value.slice ka nc kcap, Value.slice na nn ncap, Value.slice (some { block := db, off := 0 }) n n] 60 (0, 0)) ∧ Below db W1 w7 ∧
                          (∀ i, i < l.length → ∃ g, psl2 = some ⟨g, 0, none⟩ ∧ db + 2 < g ∧ w7.cell? ⟨g, i, none⟩ = some (.int .i64 (l.getD i 0))))
                        (fun _ c _ => l.length - (intOf c).toNat)
                      case atStart =>
                        obtain ⟨h1, h2, h3⟩ := HST6.out
                        exact ⟨0, _, Nat.zero_le _, rfl, rfl, rfl, HW6.out.2.2.2.1, by simpa using HW6.out.2.2.2.2, h1.1, h1.2.1, h1.2.2, h2, h3⟩
                      case round =>
                        obtain ⟨j, r, hjl, rfl, rfl, hland, hr1, hr2, hd7, ho7, hx7, hb7, hg7⟩ := hrel
                        obtain ⟨rds, rop, least⟩ := r
                        dsimp only at hr1 hr2 hd7 ho7
                        by_cases hlt : j < l.length
                        · obtain ⟨g, hpsl, hg1, hgcell⟩ := hg7 j hlt
                          subst hpsl
                          have hmem : l.getD j 0 ∈ l := by rw [List.getD, List.getElem?_eq_getElem hlt]; exact List.getElem_mem hlt
                          have hin := HW6.out.2.2.1 _ hmem
                          simp only [inB, Bool.and_eq_true, decide_eq_true_eq] at hin
                          obtain ⟨t, ht⟩ := Int.eq_ofNat_of_zero_le hin.1
                          have htn : t < n := by omega
                          have htn' : (t : Int) < n := by omega
                          have ht0 : (0 : Int) ≤ t := by omega
                          have hlt' : (j : Int) < l.length := by omega
                          have hj0 : (0 : Int) ≤ j := by omega
                          obtain ⟨b0, b1, b2, b3, b4, b5, b6, b7⟩ := box_cells hx7
                          have hcd := World.rowIs.cell hd7 htn
                          have hco := World.rowIs.cell ho7 htn
                          have hfd := World.rowIs.frozen hd7 t
                          have hfo := World.rowIs.frozen ho7 t
                          have hgd : ¬ g = db := by omega
                          have hgo2 : ¬ g = db + 2 := by omega
                          have Hnew := land_new hlt hland
                          have Hsame := land_same hlt hland
                          have Hbad := land_bad hlt hland
                          rw [ht, Int.toNat_natCast] at Hnew Hsame Hbad
                          rw [ht] at hgcell
                          obtain ⟨dt, hdt⟩ : ∃ dt, rds.getD t 0 = dt := ⟨_, rfl⟩
                          dsimp only at Hnew Hsame Hbad
                          rw [hdt] at Hnew Hsame Hbad hcd
                          have HZ7 := hide (And.intro hr1 (And.intro hr2 (And.intro hd7 (And.intro ho7 (And.intro hx7 (And.intro hb7 (And.intro hg7 hdt)))))))
                          clear hland hr1 hr2 hd7 ho7 hx7 hb7 hg7 hmem hin ht hg1 hdt
                          by_cases hneg : dt < 0
                          · have HN := hide (Hnew hneg)
                            clear Hnew Hsame Hbad
                            go_wp2
                            obtain ⟨hr1, hr2, hd7, ho7, hx7, hb7, hg7, hdt⟩ := HZ7.out
                            refine ⟨⟨j + 1, (rds.set t dd, rop.set t true, min least t), by omega, by go_num, ?_, HN.out, by simpa using hr1, by simpa using hr2, ?_, ?_, ?_, ?_, ?_⟩, by simp [intOf]; omega⟩
                            · exact congrArg (Value.int .i64) (by dsimp only; rw [Int.min_def]; split <;> split <;> omega)
                            · exact World.rowIs.setOther (DsAt.set hd7 hr1 htn dd) (by simp) _
                            · exact OpAt.set (World.rowIs.setOther ho7 (by simp) _) hr2 htn true
                            · exact (Deep.blk_setCell_other _ _ _ _ (by simp)).trans ((Deep.blk_setCell_other _ _ _ _ (by simp)).trans hx7)
                            · exact (hb7.setCell (p := ⟨db, t, none⟩) (Nat.le_refl _) _).setCell (p := ⟨db + 2, t, none⟩) (by simp) _
                            · intro i2 hi2
                              obtain ⟨g', h1, h2, h3⟩ := hg7 i2 hi2
                              refine ⟨g', h1, h2, ?_⟩
                              rw [World.cell?_of_block (w := wr) ((Deep.blk_setCell_other _ _ _ _ (by dsimp only; omega)).trans (Deep.blk_setCell_other _ _ _ _ (by dsimp only; omega)))]
                              exact h3
                          · by_cases hsame : dt = dd
                            · have HN := hide (Hsame hneg hsame)
                              have hne : (dt != dd) = false := by simp [hsame]
                              clear Hnew Hsame Hbad hsame
                              go_wp2
                              obtain ⟨hr1, hr2, hd7, ho7, hx7, hb7, hg7, hdt⟩ := HZ7.out
                              exact ⟨⟨j + 1, (rds, rop, least), by omega, by go_num, rfl, HN.out, hr1, hr2, hd7, ho7, hx7, hb7, hg7⟩, by simp [intOf]; omega⟩
                            · have hR := HW6.out.2.1 (Hbad hneg hsame)
                              have hne : (dt != dd) = true := by simp [hsame]
                              have HR := hide hR
                              clear Hnew Hsame Hbad hR hsame
                              go_wp2
                              refine bodyPost_ret (v := .tuple #[.pointer none, .int .i64 s.pc, .int .i64 31]) (by simp [results, Try.results16, go_sem]) rfl ⟨?_, ?_⟩
                              · exact H1.out.1.trans (by rw [H1.out.2.1]; exact HZ7.out.2.2.2.2.2.1)
                              · rw [HR.out]
                        · obtain rfl : j = l.length := by omega
                          rw [List.take_length] at hland
                          obtain ⟨⟨g, hg, hrun⟩, hfine, hl0, hl1⟩ := HW6.out.1 _ hland
                          have hsz := lt_of_heap ((World.rowIs.lt ho7) |> fun _ => hx7)
                          have hso := World.rowIs.lt ho7
                          have HZ7 := hide (And.intro hg (And.intro hrun (And.intro hfine (And.intro hd7 (And.intro ho7 (And.intro hx7 (And.intro hb7 hso)))))))
                          clear hland hr1 hr2 hd7 ho7 hx7 hb7 hg7 hg hrun hfine hso hsz
                          obtain ⟨lt, hlt2⟩ := Int.eq_ofNat_of_zero_le hl0
                          dsimp only at hlt2
                          subst hlt2
                          go_wp2
                          obtain ⟨hg, hrun, hfine, hd7, ho7, hx7, hb7, hso⟩ := HZ7.out
                          go_roundg g
                          case measure => exact hg
                          case rel => exact ⟨⟨rds, rop, lt⟩, rfl, hfine, hrun, hd7, ho7, hx7, hb7, hso⟩
                · obtain ⟨hr, hf, hd', ho, hx, hb, hs', hbw, hop, hins, hdep⟩ := HZ.out
                  have hR := runP_bad hr (by have := HH.out.2.2.2.2; dsimp only; omega) (step_stack hop (by rw [hins]; exact HO.out) (by rw [hins, HD.out]; exact hst))
                  rw [hins, HD.out] at hR
                  have HW3 := hide (HW2.out.2.2.1)
                  generalize (stackE ⟨k, xa, xb⟩ d).2 = ev at *
                  generalize (stackE ⟨k, xa, xb⟩ d).1 = dd at *
                  have he' : (ev != 0) = true := by simpa using hst
                  have HR := hide hR
                  clear hr hf hd' ho hx hb hs' hbw hop hins hdep hst hR
                  go_upto_region 21 with fail
                  refine wp_region_later (by kernel_rfl) (by kernel_rfl) ?_
                  repeat (first
                    | go_big_quiet_step (first | (go_at_call 23; with_reducible exact later_of (Hstk.out _)))
                    | quiet_step (first | (go_at_call 23; with_reducible exact later_of (Hstk.out _))))
                  refine wpQuiet_nil ?_
                  rintro w3 ⟨⟨wz, hbz⟩, hwz⟩
                  have HF := hide (HW3.out.trans ((show Below w2.heap.size w2 w3 by rw [hwz]; exact hbz).mono HW3.out.size))
                  clear hwz hbz wz
                  go_wp2
                  refine bodyPost_ret (v := .tuple #[.pointer none, .int .i64 s.pc, .int .i64 ev]) (by simp [results, Try.results16, go_sem]) rfl ⟨HF.out, ?_⟩
                  rw [HR.out]
              · obtain ⟨hr, hf, hd, ho, hx, hb, hs', hbw, hop, hins, hdep⟩ := HZ.out
                have hR := runP_bad hr (by have := HH.out.2.2.2.2; dsimp only; omega) (step_ops hop (by rw [hins]; exact he))
                rw [hins] at hR
                generalize opsE (prs L) ⟨pa, pf, pr, code, nc, nn⟩ ⟨xo, xa, xb⟩ = ev at *
                have he' : (ev != 0) = true := by simpa using he
                have HR := hide hR
                clear hr hf hd ho hx hb hs' hbw hop hins hdep he hR
                refine wp_region_later (by kernel_rfl) (by kernel_rfl) ?_
                repeat (first
                  | go_big_quiet_step (first | (go_at_call 22; with_reducible exact later_of (Hops.out _)))
                  | quiet_step (first | (go_at_call 22; with_reducible exact later_of (Hops.out _))))
                refine wpQuiet_nil ?_
                rintro _ ⟨⟨w2, hb2⟩, rfl⟩
                have HF := hide (HW.out.2.2.2.trans (hb2.mono HW.out.2.2.2.size))
                clear hb2
                go_wp2
                refine bodyPost_ret (v := .tuple #[.pointer none, .int .i64 s.pc, .int .i64 ev]) (by simp [results, Try.results16, go_sem]) rfl ⟨HF.out, ?_⟩
                rw [HR.out]
          · have hR := runP_end hr (by dsimp only; omega)
            have hpc' : (n : Int) ≤ s.pc := by omega
            have HZ := hide (And.intro hR (And.intro hf (And.intro hd (And.intro hx (And.intro hb hs)))))
            clear hR hf hr hd ho hx hb hs
            go_wp2
            refine bodyPost_ret (v := .tuple #[.pointer (some ⟨db + 1, 0, none⟩), .int .i64 0, .int .i64 0]) (by simp [results, Try.results16, go_sem]) rfl ?_
            obtain ⟨hR, hf, hd, hx, hb, hs⟩ := HZ.out
            obtain ⟨hb1, hdb, hsz⟩ := H1.out
            refine ⟨hb1.trans (by rw [hdb]; exact hb), ?_⟩
            rw [hR]
            exact ⟨_, _, rfl, (box_cells hx).2.2.2.2.2.2.2, hd, hf.1.trans hn.symm, by omega, by omega⟩

end Go.Proofs.Ytmlmepbnjlepnaa
