/-
  The walk of the document's walk through a proto.
-/
import Derived.Test.YtmlmepbnjlepnaaChkOwn2
import Derived.Test.YtmlmepbnjlepnaaChkRun
import Derived.Deep.CutBlock
import Derived.LoopTactic
namespace Go.Proofs.Ytmlmepbnjlepnaa
open Go.RowKit Go.BigFrame
set_option linter.unusedSimpArgs false
set_option linter.unusedVariables false

/-- What the document's walk leaves. -/
def RWalkDone (w : World) (r : Res) (e : Ending) (w' : World) : Prop :=
  Below w.heap.size w w' ∧ match r with
    | .bad pc er => e = .returned (.tuple #[.slice none 0 0, .int .i64 pc, .int .i64 er])
    | .ok ds => ∃ g, e = .returned (.tuple #[.slice (some ⟨g, 0, none⟩) ds.length ds.length, .int .i64 0, .int .i64 0]) ∧ w'.rowIs g 3 ds.length (fun i => .int .i64 (ds.getD i 0))

def undone (dn : List Bool) : Nat := (dn.filter fun b => !b).length

theorem undone_set {dn : List Bool} {k : Nat} (hk : k < dn.length) (h : dn.getD k false = false) : undone (dn.set k true) + 1 = undone dn := by
  have := filter_set_len (fun b => !b) dn k true hk
  unfold undone
  have e : dn[k]?.getD true = false := by
    rw [List.getElem?_eq_getElem hk] at *
    simpa [List.getD, hk] using h
  rw [e] at this
  simp at this
  omega

theorem undone_start (n : Nat) : undone (List.replicate n false) = n := by
  unfold undone
  rw [List.filter_eq_self.2 (fun b hb => by rw [(List.mem_replicate.1 hb).2]; rfl), List.length_replicate]

/-- What a round holds fast. -/
structure RW (w wr : World) (bb n : Nat) (D : List Int) (dn : List Bool) (box : Array Value) : Prop where
  ds : DsAt wr (bb + 1) n D
  dn : OpAt wr (bb + 2) n dn
  box : wr.heap[bb]? = some (.cells box 32 (0, 0))
  below : Below w.heap.size w wr

theorem RW.later {w wr wr' : World} {bb n : Nat} {D : List Int} {dn : List Bool} {box : Array Value} (h : RW w wr bb n D dn box) (hb : Below wr.heap.size wr wr') : RW w wr' bb n D dn box :=
  ⟨World.rowIs.of_block h.ds (hb.block _ (World.rowIs.lt h.ds)), World.rowIs.of_block h.dn (hb.block _ (World.rowIs.lt h.dn)), (hb.block _ (lt_of_heap h.box)).trans h.box, h.below.trans (hb.mono h.below.size)⟩

theorem RW.setD {w wr : World} {bb n : Nat} {D : List Int} {dn : List Bool} {box : Array Value} (h : RW w wr bb n D dn box) (hbb : w.heap.size ≤ bb) (hl : D.length = n) {i : Nat} (hi : i < n) (d : Int) : RW w (wr.setCell ⟨bb + 1, i, none⟩ (.int .i64 d)) bb n (D.set i d) dn box :=
  ⟨DsAt.set h.ds hl hi d, World.rowIs.setOther h.dn (by simp) _, (Deep.blk_setCell_other _ _ _ _ (by simp)).trans h.box, h.below.setCell (p := ⟨bb + 1, i, none⟩) (by simp only; omega) _⟩

theorem RW.setN {w wr : World} {bb n : Nat} {D : List Int} {dn : List Bool} {box : Array Value} (h : RW w wr bb n D dn box) (hbb : w.heap.size ≤ bb) (hl : dn.length = n) {i : Nat} (hi : i < n) (d : Bool) : RW w (wr.setCell ⟨bb + 2, i, none⟩ (.bool d)) bb n D (dn.set i d) box :=
  ⟨World.rowIs.setOther h.ds (by simp) _, OpAt.set h.dn hl hi d, (Deep.blk_setCell_other _ _ _ _ (by simp)).trans h.box, h.below.setCell (p := ⟨bb + 2, i, none⟩) (by simp only; omega) _⟩

/-- The same, and the instruction's box. -/
structure RX (w W : World) (bb n : Nat) (D : List Int) (dn : List Bool) (box : Array Value) (t : Nat) (x : Ins) : Prop where
  rw : RW w W bb n D dn box
  x : W.heap[t]? = some (.cells #[.int .i64 x.op, .int .i64 x.a, .int .i64 x.b] 34 (0, 0))

theorem RX.later {w W W' : World} {bb n t : Nat} {D : List Int} {dn : List Bool} {box : Array Value} {x : Ins} (h : RX w W bb n D dn box t x) (hb : Below W.heap.size W W') : RX w W' bb n D dn box t x :=
  ⟨h.rw.later hb, (hb.block _ (lt_of_heap h.x)).trans h.x⟩

theorem rx_begin {w wr : World} {bb n : Nat} {D : List Int} {dn : List Bool} {box : Array Value} (h : RW w wr bb n D dn box) (hbb : w.heap.size ≤ bb) (hl : dn.length = n) {a : Nat} (ha : a < n) (x : Ins) :
    RX w ((wr.setCell ⟨bb + 2, a, none⟩ (.bool true)).alloc (.cells #[.int .i64 x.op, .int .i64 x.a, .int .i64 x.b] 34)) bb n D (dn.set a true) box wr.heap.size x := by
  refine ⟨(h.setN hbb hl ha true).later ((Below.refl _ _).alloc (Nat.le_refl _) _), ?_⟩
  have e := Deep.blk_alloc_new (wr.setCell ⟨bb + 2, a, none⟩ (.bool true)) (.cells #[.int .i64 x.op, .int .i64 x.a, .int .i64 x.b] 34 (0, 0))
  rw [Deep.nblk_setCell] at e
  exact e

theorem ins_cells {w : World} {b : Nat} {t : TypeId} {c0 c1 c2 : Value} (h : w.heap[b]? = some (.cells #[c0, c1, c2] t (0, 0))) :
    w.cell? ⟨b, 0, none⟩ = some c0 ∧ w.cell? ⟨b, 1, none⟩ = some c1 ∧ w.cell? ⟨b, 2, none⟩ = some c2 ∧ b < w.heap.size := by
  have hl := lt_of_heap h
  refine ⟨?_, ?_, ?_, hl⟩ <;> simp [World.cell?, h]

theorem stack_need {x : Ins} {d : Int} (h : d < needOf x) : (stackE x d).2 = 31 := by unfold stackE; rw [if_pos h]
theorem stack_slot {x : Ins} {d : Int} (h : ¬ d < needOf x) (hs : (x.op = 2 ∨ x.op = 21 ∨ x.op = 19) ∧ inB x.a (if x.op = 19 then d - 1 else d) = false) : (stackE x d).2 = 33 := by
  unfold stackE; rw [if_neg h, if_pos hs]
theorem stack_big {x : Ins} {d : Int} (h : ¬ d < needOf x) (hs : ¬ ((x.op = 2 ∨ x.op = 21 ∨ x.op = 19) ∧ inB x.a (if x.op = 19 then d - 1 else d) = false)) (hd : d ≤ 4096) (hb : 4096 < d + turnR x) : (stackE x d).2 = 31 := by
  unfold stackE; rw [if_neg h, if_neg hs, if_pos]
  unfold turnR at hb
  split at hb
  · omega
  · exact hb
theorem stack_fine {x : Ins} {d : Int} (h : ¬ d < needOf x) (hs : ¬ ((x.op = 2 ∨ x.op = 21 ∨ x.op = 19) ∧ inB x.a (if x.op = 19 then d - 1 else d) = false)) (hd : d ≤ 4096) (hb : ¬ 4096 < d + turnR x) (ha : (wantT x.op.toNat).byA = true → 0 ≤ x.a) : (stackE x d).2 = 0 := by
  unfold stackE; rw [if_neg h, if_neg hs, if_neg]
  unfold turnR at hb
  split at hb
  · rename_i ho
    obtain ⟨op, a, b⟩ := x
    dsimp only at ho ha
    rcases ho with rfl | rfl
    · have := ha rfl
      simp [moreOf, wantT]
      omega
    · simp [moreOf, wantT]
      omega
  · exact hb

theorem turn_bounds {k : Nat} {a b : Int} (hk : k < 22) (ha : (wantT k).byA = true → 0 ≤ a ∧ a ≤ 4096) (hb : (wantT k).byB = true → 0 ≤ b) (hb2 : b ≤ 9223372036854775807) : -9223372036854775807 ≤ turnR ⟨k, a, b⟩ ∧ turnR ⟨k, a, b⟩ ≤ 1 := by
  rcases k with _ | _ | _ | _ | _ | _ | _ | _ | _ | _ | _ | _ | _ | _ | _ | _ | _ | _ | _ | _ | _ | _ | k
  all_goals first
  | omega
  | (simp [wantT] at ha hb
     simp [turnR, moreOf, wantT]
     done)
  | (simp [wantT] at ha hb
     simp [turnR, moreOf, wantT]
     omega)
  | (simp [turnR, moreOf, wantT]
     done)
  | (simp [turnR, moreOf, wantT]
     omega)

/-- A list made at once. -/
theorem list_made (w : World) (l : List Int) (t : TypeId) : ∀ i, i < l.length → ∃ g, (some (⟨w.heap.size, 0, none⟩ : Addr)) = some ⟨g, 0, none⟩ ∧ w.heap.size ≤ g ∧ g < (w.alloc (.cells ⟨l.map (.int .i64)⟩ t)).heap.size ∧ (w.alloc (.cells ⟨l.map (.int .i64)⟩ t)).cell? ⟨g, i, none⟩ = some (.int .i64 (l.getD i 0)) := by
  intro i hi
  have e : (w.alloc (.cells ⟨l.map (.int .i64)⟩ t)).heap[w.heap.size]? = some (.cells ⟨l.map (.int .i64)⟩ t (0, 0)) := Deep.blk_alloc_new _ _
  refine ⟨w.heap.size, rfl, Nat.le_refl _, lt_of_heap e, ?_⟩
  rw [cell_row e, List.getElem?_map, List.getElem?_eq_getElem hi]
  simp [List.getD, hi]

theorem landR_app {d : Int} : ∀ (l r D : List Int), landR d (l ++ r) D = (landR d l D).bind (landR d r)
  | [], r, D => rfl
  | t :: l, r, D => by
    simp only [List.cons_append, landR]
    split
    · rfl
    · exact landR_app l r _

theorem landR_len {d : Int} : ∀ (l D D' : List Int), landR d l D = some D' → D'.length = D.length
  | [], D, D', h => by simp only [landR, Option.some.injEq] at h; rw [h]
  | t :: l, D, D', h => by
    simp only [landR] at h
    split at h
    · cases h
    · have := landR_len l _ D' h
      rw [List.length_set] at this; exact this

theorem landR_turn {x : Ins} {k : Int} {d : Int} {D : List Int} : landR (d + moreOf x) (nextR x k) D = landR (d + turnR x) (nextR x k) D := by
  by_cases h : x.op = 12 ∨ x.op = 13
  · have : nextR x k = [] := by unfold nextR; rw [if_pos (by omega)]
    rw [this]; rfl
  · unfold turnR; rw [if_neg h]

theorem rw_begin (w : World) (n : Nat) (box : Array Value) :
    (((w.alloc (.cells box 32)).alloc (.cells (madeCells #[.int .i64 0] n) 3)).alloc (.cells (madeCells #[.bool false] n) 4)).rowIs (w.heap.size + 1) 3 n (fun _ => .int .i64 0) ∧
    OpAt (((w.alloc (.cells box 32)).alloc (.cells (madeCells #[.int .i64 0] n) 3)).alloc (.cells (madeCells #[.bool false] n) 4)) (w.heap.size + 2) n (List.replicate n false) ∧
    (((w.alloc (.cells box 32)).alloc (.cells (madeCells #[.int .i64 0] n) 3)).alloc (.cells (madeCells #[.bool false] n) 4)).heap[w.heap.size]? = some (.cells box 32 (0, 0)) ∧
    Below w.heap.size w (((w.alloc (.cells box 32)).alloc (.cells (madeCells #[.int .i64 0] n) 3)).alloc (.cells (madeCells #[.bool false] n) 4)) := by
  refine ⟨?_, ?_, ?_, ?_⟩
  · have e : ((w.alloc (.cells box 32)).alloc (.cells (madeCells #[.int .i64 0] n) 3)).rowIs (w.alloc (.cells box 32)).heap.size 3 n (fun _ => .int .i64 0) := World.rowIs_made _ _ _ _
    rw [Deep.nblk_alloc] at e
    exact e.alloc _
  · have e : (((w.alloc (.cells box 32)).alloc (.cells (madeCells #[.int .i64 0] n) 3)).alloc (.cells (madeCells #[.bool false] n) 4)).rowIs ((w.alloc (.cells box 32)).alloc (.cells (madeCells #[.int .i64 0] n) 3)).heap.size 4 n (fun _ => .bool false) := World.rowIs_made _ _ _ _
    rw [Deep.nblk_alloc, Deep.nblk_alloc] at e
    exact e.congr fun j hj => by simp [List.getD, hj]
  · rw [Deep.blk_alloc_lt _ _ _ (by rw [Deep.nblk_alloc, Deep.nblk_alloc]; omega), Deep.blk_alloc_lt _ _ _ (by rw [Deep.nblk_alloc]; omega)]
    exact Deep.blk_alloc_new _ _
  · exact ((((Below.refl _ w).alloc (Nat.le_refl _) _).alloc (by rw [Deep.nblk_alloc]; omega) _).alloc (by rw [Deep.nblk_alloc, Deep.nblk_alloc]; omega) _)

theorem rw_cells {w : World} {b : Nat} {t : TypeId} {c0 c1 c2 c3 c4 c5 c6 : Value} (h : w.heap[b]? = some (.cells #[c0, c1, c2, c3, c4, c5, c6] t (0, 0))) :
    w.cell? ⟨b, 0, none⟩ = some c0 ∧ w.cell? ⟨b, 1, none⟩ = some c1 ∧ w.cell? ⟨b, 2, none⟩ = some c2 ∧ w.cell? ⟨b, 3, none⟩ = some c3 ∧ w.cell? ⟨b, 4, none⟩ = some c4 ∧ w.cell? ⟨b, 5, none⟩ = some c5 ∧ w.cell? ⟨b, 6, none⟩ = some c6 ∧ b < w.heap.size := by
  have hl := lt_of_heap h
  refine ⟨?_, ?_, ?_, ?_, ?_, ?_, ?_, hl⟩ <;> simp [World.cell?, h]

set_option maxRecDepth 100000 in
set_option maxHeartbeats 8000000 in
theorem rwalk_any (psa : Option Addr) (pcap : Nat) (L : List PrV) (v : PrV) (w : World) (hps : PsAt w psa L) (hv : v ∈ L) (h1 : 1 ≤ v.pr.code.length) (h2 : v.pr.code.length ≤ 65536) (ha : 0 ≤ v.pr.args) (ha2 : v.pr.args ≤ 64) :
    Calls Try.prog 21 #[.slice psa L.length pcap, .agg ⟨v.cells⟩] w (RWalkDone w (protoR (prs L) v.pr)) := by
  have hlen := hps.len
  have hcode := hps.code v hv
  have hnc := hps.nc v hv
  have hnn := hps.nn v hv
  have hnb := hps.nb v hv
  obtain ⟨nm, ⟨pa, pf, pr, code, nc, nn⟩, ca, ccap, ka, kcap, na, ncap⟩ := v
  simp only [PrV.cells] at *
  obtain ⟨n, hn⟩ : ∃ n, code.length = n := ⟨_, rfl⟩
  rw [hn] at h1 h2 ⊢
  have hmk := run_make_row' (P := Try.prog) 42 3 (.int .i64 0) 8 Try.underlying42 info3' rfl .i64 .i64 n (by omega) (by omega)
  have hmb := run_make_row' (P := Try.prog) 68 4 (.bool false) 1 Try.underlying68 info4' rfl .i64 .i64 n (by omega) (by omega)
  have HH := hide (And.intro hps (And.intro hcode (And.intro hnc (And.intro hnn (And.intro hnb hn)))))
  clear hps hcode hnc hnn hnb hn hv
  go_enter Try.func21, Try.ntmps21
  go_upto_region 3 with fail
  refine genO (fun U => U.rowIs (w.heap.size + 1) 3 n (fun _ => .int .i64 0) ∧ OpAt U (w.heap.size + 2) n (List.replicate n false) ∧ U.heap[w.heap.size]? = some (.cells ⟨[.string nm, .int .i64 pa, .int .i64 pf, .bool pr, .slice ca n ccap, .slice ka nc kcap, .slice na nn ncap]⟩ 32 (0, 0)) ∧ Below w.heap.size w U) (rw_begin w n ⟨[.string nm, .int .i64 pa, .int .i64 pf, .bool pr, .slice ca n ccap, .slice ka nc kcap, .slice na nn ncap]⟩) ?_
  intro U hU
  obtain ⟨bb, hbb⟩ : ∃ bb, w.heap.size = bb := ⟨_, rfl⟩
  rw [hbb] at hU
  simp only [hbb, Nat.add_assoc, Nat.reduceAdd]
  obtain ⟨hr, ho, hx, hb⟩ := hU
  rw [← hbb] at hb
  have hwb : w.heap.size ≤ bb := by omega
  have HU := hide (And.intro hr (And.intro ho (And.intro hx hb)))
  clear hr ho hx hb hmk hmb
  go_wp2
  go_loopw [9] (fun c wr => ∃ k : Nat, k ≤ n ∧ c = .int .i64 k ∧ wr.rowIs (bb + 1) 3 n (fun j => .int .i64 (if j < k then -1 else 0)) ∧ OpAt wr (bb + 2) n (List.replicate n false) ∧ wr.heap[bb]? = some (.cells ⟨[.string nm, .int .i64 pa, .int .i64 pf, .bool pr, .slice ca n ccap, .slice ka nc kcap, .slice na nn ncap]⟩ 32 (0, 0)) ∧ Below w.heap.size w wr)
    (fun c _ => n - (intOf c).toNat)
  case atStart => exact ⟨0, Nat.zero_le _, rfl, HU.out.1.congr (fun j hj => by simp), HU.out.2.1, HU.out.2.2.1, HU.out.2.2.2⟩
  case round =>
    obtain ⟨k, hkl, rfl, hd, ho, hx, hb⟩ := hrel
    clear HU
    by_cases hlt : k < n
    · have hck := hd.cell hlt
      have hfk := hd.frozen k
      have hl1 := World.rowIs.lt hd
      have HH2 := hide (And.intro hd (And.intro ho (And.intro hx hb)))
      have hlt' : (k : Int) < n := by omega
      have hk0 : (0 : Int) ≤ k := by omega
      clear hd ho hx hb
      go_wp2
      obtain ⟨hd, ho, hx, hb⟩ := HH2.out
      refine ⟨⟨k + 1, by omega, by go_num, (hd.set k _).congr (fun j hj => ?_), World.rowIs.setOther ho (by simp) _, ?_, hb.setCell (p := ⟨bb + 1, k, none⟩) (by simp only; omega) _⟩, by simp [intOf]; omega⟩
      · by_cases e : j = k
        · simp [e]
        · have : (j < k + 1) = (j < k) := by simp; omega
          simp [e, this]
      · rw [Deep.blk_setCell_other _ _ _ _ (by simp)]; exact hx
    · obtain rfl : n = k := by omega
      have hd2 : DsAt wr (bb + 1) n (List.replicate n (-1)) := hd.congr fun j hj => by
        simp [List.getD, hj]
      have HW0 := hide (show RW w wr bb n (List.replicate n (-1)) (List.replicate n false) ⟨[.string nm, .int .i64 pa, .int .i64 pf, .bool pr, .slice ca n ccap, .slice ka nc kcap, .slice na nn ncap]⟩ from ⟨hd2, ho, hx, hb⟩)
      obtain ⟨c0, c1, c2, c3, c4, c5, c6, hbl⟩ := rw_cells hx
      have hcz := hd2.cell (i := 0) (by omega)
      have hfz := hd2.frozen 0
      have hl1 := World.rowIs.lt hd2
      clear hd hd2 ho hx hb hlt hkl
      go_upto_if 43 with fail
      go_cut [9] from 44 (fun s9 wx => RW w wx bb n ((List.replicate n (-1)).set 0 (if pr then pa + 1 else pa)) (List.replicate n false) ⟨[.string nm, .int .i64 pa, .int .i64 pf, .bool pr, .slice ca n ccap, .slice ka nc kcap, .slice na nn ncap]⟩)
      case first => as_aux_lemma =>
        cases pr
        · go_wp2_with fail
          all_goals go_meet
          exact HW0.out.setD hwb (by simp) (by omega) pa
        · go_wp2_with fail
          all_goals go_meet
          have e := (HW0.out.setD hwb (by simp) (by omega) (i := 0) pa).setD hwb (by simp) (by omega) (i := 0) (pa + 1)
          rw [List.set_set] at e
          first | (go_simp; done) | (go_simp; exact e)
      case rest => as_aux_lemma =>
        clear c0 c1 c2 c3 c4 c5 c6 hcz hfz HW0 hbl hl1
        have HR := hide hcut
        clear hcut
        have hstart := rinv_start (ps := prs L) (p := ⟨pa, pf, pr, code, nc, nn⟩) (by have := HH.out.2.2.2.2.2; dsimp only; omega) ha ha2
        have HS := hide hstart
        clear hstart
        generalize hwc : wc = W0 at *
        clear hwc
        go_wp2
        go_loopg [10] n (fun gk c10 wr => ∃ (D : List Int) (dn : List Bool), RInv (prs L) ⟨pa, pf, pr, code, nc, nn⟩ D dn ∧ undone dn = gk ∧ RW w wr bb n D dn ⟨[.string nm, .int .i64 pa, .int .i64 pf, .bool pr, .slice ca n ccap, .slice ka nc kcap, .slice na nn ncap]⟩)
        case atStart =>
          refine ⟨_, _, HS.out, by show undone (List.replicate code.length false) = n; rw [HH.out.2.2.2.2.2]; exact undone_start n, ?_⟩
          have := HR.out
          unfold start
          dsimp only
          rw [HH.out.2.2.2.2.2]
          exact this
        case round =>
          clear HR HS
          obtain ⟨D, dn, hI, hu, hW⟩ := hrel
          have HI := hide (And.intro hI (And.intro hu hW))
          clear hI hu hW
          go_wp2
          go_loop [10, 11] (fun c10 c11 => ∃ j : Nat, j ≤ n ∧ c11 = .int .i64 ((j : Int) - 1) ∧ ((c10 = .int .i64 (-1) ∧ ∀ i, j ≤ i → i < n → ¬ openAt D dn i) ∨ ∃ a : Nat, c10 = .int .i64 a ∧ j ≤ a ∧ a < n ∧ openAt D dn a ∧ ∀ i, j ≤ i → i < a → ¬ openAt D dn i)) (fun _ c11 => (intOf c11 + 1).toNat)
          case atStart => exact ⟨n, Nat.le_refl _, rfl, .inl ⟨rfl, fun i h1 h2 => by omega⟩⟩
          case round =>
            obtain ⟨j, hjn, rfl, hj⟩ := hrel
            by_cases hj0 : 0 < j
            · obtain ⟨m, rfl⟩ : ∃ m, j = m + 1 := ⟨j - 1, by omega⟩
              rw [show ((m + 1 : Nat) : Int) - 1 = (m : Int) by omega]
              have hcd := World.rowIs.cell HI.out.2.2.ds (i := m) (by omega)
              have hcn := World.rowIs.cell HI.out.2.2.dn (i := m) (by omega)
              have hl1 := World.rowIs.lt HI.out.2.2.ds
              have hl2 := World.rowIs.lt HI.out.2.2.dn
              have hm0 : (0 : Int) ≤ m := by omega
              have hmn : (m : Int) < n := by omega
              have HJ := hide hj
              obtain ⟨d, hd⟩ : ∃ d, D.getD m 0 = d := ⟨_, rfl⟩
              obtain ⟨q, hq⟩ : ∃ q, dn.getD m false = q := ⟨_, rfl⟩
              rw [hd] at hcd
              rw [hq] at hcn
              have HO := hide (show openAt D dn m ↔ (0 ≤ d ∧ q = false) by unfold openAt; rw [hd, hq])
              clear hj hd hq
              by_cases hd0 : 0 ≤ d
              · cases q
                · go_wp2
                  refine ⟨⟨m, by omega, by go_num, .inr ⟨m, rfl, Nat.le_refl _, by omega, HO.out.2 ⟨hd0, rfl⟩, fun i h1 h2 => by omega⟩⟩, by first | (simp [intOf]; done) | (simp [intOf]; omega)⟩
                · have hno : ¬ openAt D dn m := fun h => by have := (HO.out.1 h).2; cases this
                  have HNO := hide hno
                  clear hno
                  rcases HJ.out with ⟨rfl, h1⟩ | ⟨a, rfl, h1, h2, h3, h4⟩
                  · have H1 := hide h1
                    clear h1
                    go_wp2
                    refine ⟨⟨m, by omega, by go_num, .inl ⟨rfl, fun i h2 h3 => ?_⟩⟩, by first | (simp [intOf]; done) | (simp [intOf]; omega)⟩
                    by_cases e : i = m
                    · rw [e]; exact HNO.out
                    · exact H1.out i (by omega) h3
                  · have H1 := hide (And.intro h3 h4)
                    clear h3 h4
                    go_wp2
                    refine ⟨⟨m, by omega, by go_num, .inr ⟨a, rfl, by omega, h2, H1.out.1, fun i h5 h6 => ?_⟩⟩, by first | (simp [intOf]; done) | (simp [intOf]; omega)⟩
                    by_cases e : i = m
                    · rw [e]; exact HNO.out
                    · exact H1.out.2 i (by omega) h6
              · have hno : ¬ openAt D dn m := fun h => by have := (HO.out.1 h).1; omega
                have HNO := hide hno
                clear hno
                rcases HJ.out with ⟨rfl, h1⟩ | ⟨a, rfl, h1, h2, h3, h4⟩
                · have H1 := hide h1
                  clear h1
                  go_wp2
                  refine ⟨⟨m, by omega, by go_num, .inl ⟨rfl, fun i h2 h3 => ?_⟩⟩, by first | (simp [intOf]; done) | (simp [intOf]; omega)⟩
                  by_cases e : i = m
                  · rw [e]; exact HNO.out
                  · exact H1.out i (by omega) h3
                · have H1 := hide (And.intro h3 h4)
                  clear h3 h4
                  go_wp2
                  refine ⟨⟨m, by omega, by go_num, .inr ⟨a, rfl, by omega, h2, H1.out.1, fun i h5 h6 => ?_⟩⟩, by first | (simp [intOf]; done) | (simp [intOf]; omega)⟩
                  by_cases e : i = m
                  · rw [e]; exact HNO.out
                  · exact H1.out.2 i (by omega) h6
            · obtain rfl : j = 0 := by omega
              rcases hj with ⟨rfl, hno⟩ | ⟨a, rfl, -, han, hop, hlow⟩
              · have hres := RInv.none HI.out.1 fun i hi => hno i (Nat.zero_le _) (by have := HH.out.2.2.2.2.2; dsimp only at hi; omega)
                have HRes := hide hres
                clear hno hres
                go_wp2
                go_ret3
                refine ⟨HI.out.2.2.below, ?_⟩
                rw [HRes.out]
                have hl := HI.out.1.len.1
                dsimp only at hl
                rw [HH.out.2.2.2.2.2] at hl
                exact ⟨bb + 1, by rw [hl]; rfl, by rw [hl]; exact HI.out.2.2.ds⟩
              · have hRd := RInv.round HI.out.1 (k := a) (by have := HH.out.2.2.2.2.2; dsimp only; omega) hop (fun i hi => hlow i (Nat.zero_le _) hi)
                have hdl : dn.length = n := by have := HI.out.1.len.2; dsimp only at this; rw [HH.out.2.2.2.2.2] at this; exact this
                have hDl : D.length = n := by have := HI.out.1.len.1; dsimp only at this; rw [HH.out.2.2.2.2.2] at this; exact this
                have hund := undone_set (dn := dn) (k := a) (by omega) hop.2
                have htop := HI.out.1.top a (by have := HH.out.2.2.2.2.2; dsimp only; omega)
                have hd0 := hop.1
                obtain ⟨d, hd⟩ : ∃ d, D.getD a 0 = d := ⟨_, rfl⟩
                rw [hd] at htop hd0
                -- the code's cells
                obtain ⟨bc, oc, hca, hbc, k0, k1, k2⟩ := HH.out.2.1 a (by have := HH.out.2.2.2.2.2; dsimp only; omega)
                dsimp only at hca k0 k1 k2
                subst hca
                have hbw := HI.out.2.2.below
                rw [← hbw.cell (p := ⟨bc, _, none⟩) hbc] at k0 k1 k2
                have hbc2 : bc < wr.heap.size := Nat.lt_of_lt_of_le hbc hbw.size
                have hbcb : bc < bb := by omega
                have hcn := World.rowIs.frozen HI.out.2.2.dn a
                have hcc := World.rowIs.cell HI.out.2.2.dn han
                rw [hop.2] at hcc
                have hl2 := World.rowIs.lt HI.out.2.2.dn
                generalize hx0 : code.getD a ⟨0, 0, 0⟩ = x at k0 k1 k2
                have hins : insAt ⟨pa, pf, pr, code, nc, nn⟩ a = x := hx0
                rw [hins] at hRd
                have hxb : x.b ≤ 9223372036854775807 := by
                  have hal : a < code.length := by have := HH.out.2.2.2.2.2; omega
                  have m := HH.out.2.2.2.2.1 _ (List.getElem_mem hal)
                  rw [← hx0, List.getD, List.getElem?_eq_getElem hal]
                  exact m
                have HX := hide (And.intro hRd (And.intro hdl (And.intro hDl (And.intro hund (And.intro hd (And.intro hop hxb))))))
                have ha0 : (0 : Int) ≤ a := by omega
                have han' : (a : Int) < n := by omega
                obtain ⟨xo, xa, xb⟩ := x
                dsimp only at k0 k1 k2
                obtain ⟨c0, c1, c2, c3, c4, c5, c6, hbl⟩ := rw_cells HI.out.2.2.box
                clear hRd hdl hDl hund hd hop hxb hins hx0 hlow hbw hj0
                go_upto_region 20 with fail
                refine genO (fun W => RX w W bb n D (dn.set a true) ⟨[.string nm, .int .i64 pa, .int .i64 pf, .bool pr, .slice (some ⟨bc, oc, none⟩) n ccap, .slice ka nc kcap, .slice na nn ncap]⟩ wr.heap.size ⟨xo, xa, xb⟩) (rx_begin HI.out.2.2 hwb HX.out.2.1 han ⟨xo, xa, xb⟩) ?_
                intro W hRX
                obtain ⟨tb, htb⟩ : ∃ tb, wr.heap.size = tb := ⟨_, rfl⟩
                rw [htb] at hRX
                simp only [htb]
                clear k0 k1 k2 c0 c1 c2 c3 c4 c5 c6 hbl hcn hcc hl2 hbc2
                have HRX := hide hRX
                clear hRX
                obtain ⟨c0, c1, c2, c3, c4, c5, c6, hbl⟩ := rw_cells HRX.out.rw.box
                obtain ⟨x0, x1, x2, htl⟩ := ins_cells HRX.out.x
                dsimp only at x0 x1 x2
                have hcd := World.rowIs.cell HRX.out.rw.ds han
                have hl1 := World.rowIs.lt HRX.out.rw.ds
                rw [HX.out.2.2.2.2.1] at hcd
                have HOwn := hide (rown_any psa (prs L) pcap nm pr (some ⟨bc, oc, none⟩) n ccap ka kcap na ncap ⟨pa, pf, pr, code, nc, nn⟩ ⟨xo, xa, xb⟩ W (by rw [prs_len]; exact hlen) HH.out.2.2.1 HH.out.2.2.2.1 (fun i hi => by
                  obtain ⟨b, o, v, e1, e2, e3, e4⟩ := (HH.out.1.below HRX.out.rw.below).row i (by rw [prs_len] at hi; exact hi)
                  refine ⟨b, o, e1, e2, ?_⟩
                  rw [e4 2 (by omega), freeOf_prs e3]; rfl))
                rw [prs_len] at HOwn
                go_upto_region 22 with (go_at_call 26; refine HOwn.out.mono ?_; rintro e w2 ⟨rfl, hb2⟩)
                have hRX2 := HRX.out.later hb2
                have HRX := hide hRX2
                clear hRX2 hb2 c0 c1 c2 c3 c4 c5 c6 hbl x0 x1 x2 htl hcd hl1 HOwn
                obtain ⟨eo, heo⟩ : ∃ eo, opsE (prs L) ⟨pa, pf, pr, code, nc, nn⟩ ⟨xo, xa, xb⟩ = eo := ⟨_, rfl⟩
                rw [heo]
                have HEo := hide heo
                clear heo
                by_cases he : eo = 0
                · subst he
                  have hk := opsE_known HEo.out
                  obtain ⟨kk, hkk, hk22, hka, hkb⟩ := ops_fine HEo.out
                  dsimp only at hk hkk hka hkb
                  subst hkk
                  have HK := hide (And.intro hk (And.intro hka hkb))
                  clear hk hka hkb
                  obtain ⟨x0, x1, x2, htl⟩ := ins_cells HRX.out.x
                  dsimp only at x0 x1 x2
                  have HWn := hide (rwants_any ⟨kk, xa, xb⟩ HK.out.1 (by dsimp only; rw [Int.toNat_natCast]; exact HK.out.2.1) (by dsimp only; rw [Int.toNat_natCast]; exact fun h => ⟨HK.out.2.2 h, HX.out.2.2.2.2.2.2⟩) w2)
                  go_upto_region 25 with (go_at_call 27; refine HWn.out.mono ?_; rintro e w3 ⟨rfl, hb3⟩)
                  have hRX3 := HRX.out.later hb3
                  have HRX := hide hRX3
                  clear hRX3 hb3 x0 x1 x2 htl HWn
                  obtain ⟨nd, hnd⟩ : ∃ nd, needOf ⟨kk, xa, xb⟩ = nd := ⟨_, rfl⟩
                  obtain ⟨tu, htu⟩ : ∃ tu, turnR ⟨kk, xa, xb⟩ = tu := ⟨_, rfl⟩
                  rw [hnd, htu]
                  have HN := hide (And.intro hnd htu)
                  clear hnd htu
                  by_cases hneed : d < nd
                  · go_wp2
                    go_ret3
                    refine ⟨HRX.out.rw.below, ?_⟩
                    have hst : (stackE ⟨kk, xa, xb⟩ (D.getD a 0)).2 = 31 := by rw [HX.out.2.2.2.2.1]; exact stack_need (by rw [HN.out.1]; exact hneed)
                    rw [HX.out.1.stack HEo.out (by rw [hst]; decide), hst]
                    rfl
                  · obtain ⟨sl, hsl⟩ : ∃ sl : Int, (if (kk : Int) = 19 then d - 1 else d) = sl := ⟨_, rfl⟩
                    have HSl := hide hsl
                    clear hsl
                    obtain ⟨x0, x1, x2, htl⟩ := ins_cells HRX.out.x
                    dsimp only at x0 x1 x2
                    go_upto_if 104 with fail
                    go_cut [17] from 49 to 202 (fun s17 wx => s17 = .int .i64 sl ∧ wx = w3)
                    case first => as_aux_lemma =>
                      by_cases h19 : (kk : Int) = 19
                      · have hsl := HSl.out
                        rw [if_pos h19] at hsl
                        subst hsl
                        go_wp2_with fail
                        all_goals go_meet
                        exact ⟨rfl, rfl⟩
                      · have hsl := HSl.out
                        rw [if_neg h19] at hsl
                        subst hsl
                        go_wp2_with fail
                        all_goals go_meet
                        exact ⟨rfl, rfl⟩
                    case rest => as_aux_lemma =>
                      obtain ⟨rfl, rfl⟩ := hcut
                      obtain ⟨bad, hbad⟩ : ∃ bad : Bool, decide (((kk : Int) = 2 ∨ (kk : Int) = 21 ∨ (kk : Int) = 19) ∧ inB xa sl = false) = bad := ⟨_, rfl⟩
                      have HBad := hide hbad
                      clear hbad
                      go_upto_region 30 with fail
                      go_cut [126] from 49 to 202 (fun s126 wx => s126 = .bool bad ∧ wx = wc)
                      case first => as_aux_lemma =>
                        by_cases g2 : (kk : Int) = 2
                        · cases hI : inB xa sl
                          all_goals (
                            go_wp2_with (go_at_call 20; refine (rin_any _ _ _).mono ?_; rintro e w' ⟨rfl, rfl⟩)
                            all_goals go_meet
                            exact ⟨by rw [← HBad.out]; simp [g2, hI], rfl⟩)
                        · by_cases g21 : (kk : Int) = 21
                          · cases hI : inB xa sl
                            all_goals (
                              go_wp2_with (go_at_call 20; refine (rin_any _ _ _).mono ?_; rintro e w' ⟨rfl, rfl⟩)
                              all_goals go_meet
                              exact ⟨by rw [← HBad.out]; simp [g21, hI], rfl⟩)
                          · by_cases g19 : (kk : Int) = 19
                            · cases hI : inB xa sl
                              all_goals (
                                go_wp2_with (go_at_call 20; refine (rin_any _ _ _).mono ?_; rintro e w' ⟨rfl, rfl⟩)
                                all_goals go_meet
                                exact ⟨by rw [← HBad.out]; simp [g19, hI], rfl⟩)
                            · go_wp2_with fail
                              all_goals go_meet
                              exact ⟨by rw [← HBad.out]; simp [g2, g21, g19], rfl⟩
                      case rest => as_aux_lemma =>
                        obtain ⟨rfl, rfl⟩ := hcut
                        obtain ⟨w4, hw4⟩ : ∃ W, W = wc := ⟨_, rfl⟩
                        subst hw4
                        cases bad
                        · by_cases hbig : 4096 < d + tu
                          · have hnot : ¬ (((kk : Int) = 2 ∨ (kk : Int) = 21 ∨ (kk : Int) = 19) ∧ inB xa (if (kk : Int) = 19 then d - 1 else d) = false) := by
                              rw [HSl.out]; exact of_decide_eq_false HBad.out
                            have HNot := hide hnot
                            clear hnot
                            have htu1 : -9223372036854775807 ≤ tu ∧ tu ≤ 1 := by rw [← HN.out.2]; exact turn_bounds hk22 HK.out.2.1 HK.out.2.2 HX.out.2.2.2.2.2.2
                            obtain ⟨ht1, ht2⟩ := htu1
                            go_wp2
                            go_ret3
                            refine ⟨HRX.out.rw.below, ?_⟩
                            have hst : (stackE ⟨kk, xa, xb⟩ (D.getD a 0)).2 = 31 := by rw [HX.out.2.2.2.2.1]; exact stack_big (by rw [HN.out.1]; omega) HNot.out htop (by rw [HN.out.2]; exact hbig)
                            rw [HX.out.1.stack HEo.out (by rw [hst]; decide), hst]
                            rfl
                          · have hnot : ¬ (((kk : Int) = 2 ∨ (kk : Int) = 21 ∨ (kk : Int) = 19) ∧ inB xa (if (kk : Int) = 19 then d - 1 else d) = false) := by
                              rw [HSl.out]; exact of_decide_eq_false HBad.out
                            have hst : (stackE ⟨kk, xa, xb⟩ (D.getD a 0)).2 = 0 := by
                              rw [HX.out.2.2.2.2.1]
                              exact stack_fine (by rw [HN.out.1]; omega) hnot htop (by rw [HN.out.2]; exact hbig) (fun h => (HK.out.2.1 (by simpa using h)).1)
                            have HSt := hide hst
                            have htu1 : -9223372036854775807 ≤ tu ∧ tu ≤ 1 := by rw [← HN.out.2]; exact turn_bounds hk22 HK.out.2.1 HK.out.2.2 HX.out.2.2.2.2.2.2
                            obtain ⟨ht1, ht2⟩ := htu1
                            clear hnot hst HBad
                            obtain ⟨l, hl⟩ : ∃ l, nextR ⟨kk, xa, xb⟩ a = l := ⟨_, rfl⟩
                            have HL := hide hl
                            clear hl
                            have hxal := HRX.out.rw.below.size
                            go_upto_block 6 with fail
                            go_cut [18] from 49 to 202 (fun s18 wx => ∃ p cap, s18 = .slice p l.length cap ∧ (∀ i, i < l.length → ∃ g, p = some ⟨g, 0, none⟩ ∧ w4.heap.size ≤ g ∧ g < wx.heap.size ∧ wx.cell? ⟨g, i, none⟩ = some (.int .i64 (l.getD i 0))) ∧ Below w4.heap.size w4 wx)
                            case first => as_aux_lemma =>
                              by_cases g13 : (kk : Int) = 13
                              · have hl : l = [] := by rw [← HL.out]; simp [nextR, g13]
                                subst hl
                                go_wp2_with fail
                                all_goals go_meet
                                exact ⟨none, 0, rfl, (fun i hi => by simp at hi), Below.refl _ _⟩
                              · by_cases g12 : (kk : Int) = 12
                                · have hl : l = [] := by rw [← HL.out]; simp [nextR, g12]
                                  subst hl
                                  go_wp2_with fail
                                  all_goals go_meet
                                  exact ⟨none, 0, rfl, (fun i hi => by simp at hi), Below.refl _ _⟩
                                · by_cases g14 : (kk : Int) = 14
                                  · have hl : l = [xa] := by rw [← HL.out]; simp [nextR, g14]
                                    subst hl
                                    go_wp2_with fail
                                    all_goals go_meet
                                    exact ⟨some ⟨w4.heap.size, 0, none⟩, 1, rfl, list_made w4 [xa] 3, (Below.refl _ _).alloc (Nat.le_refl _) _⟩
                                  · by_cases g15 : (kk : Int) = 15
                                    · have hl : l = [(a : Int) + 1, xa] := by rw [← HL.out]; simp [nextR, g15]
                                      subst hl
                                      go_wp2_with fail
                                      all_goals go_meet
                                      exact ⟨some ⟨w4.heap.size, 0, none⟩, 2, rfl, list_made w4 [(a : Int) + 1, xa] 3, (Below.refl _ _).alloc (Nat.le_refl _) _⟩
                                    · have hl : l = [(a : Int) + 1] := by rw [← HL.out]; simp only [nextR]; rw [if_neg (by omega), if_neg g14, if_neg g15]
                                      subst hl
                                      go_wp2_with fail
                                      all_goals go_meet
                                      exact ⟨some ⟨w4.heap.size, 0, none⟩, 1, rfl, list_made w4 [(a : Int) + 1] 3, (Below.refl _ _).alloc (Nat.le_refl _) _⟩
                            case rest => as_aux_lemma =>
                              obtain ⟨pl, lcap, rfl, hlc, hb5⟩ := hcut
                              have hl2 : l.length ≤ 2 := by
                                rw [← HL.out]; unfold nextR; split
                                · simp
                                · split
                                  · simp
                                  · split <;> simp
                              have hbt : bb + 1 < w4.heap.size := World.rowIs.lt HRX.out.rw.ds
                              have hRX5 := HRX.out.later hb5
                              have HR5 := hide (And.intro hRX5.rw hlc)
                              clear hRX5 hlc hb5 x0 x1 x2 htl
                              go_wp2
                              go_loopw [19] (fun c19 wx => ∃ j : Nat, j ≤ l.length ∧ c19 = .int .i64 j ∧ (∀ t ∈ l.take j, inB t n = true) ∧ Below wc.heap.size wc wx) (fun c19 _ => l.length - (intOf c19).toNat)
                              case atStart => exact ⟨0, Nat.zero_le _, rfl, (fun t ht => by simp at ht), Below.refl _ _⟩
                              case round => as_aux_lemma =>
                                obtain ⟨j, hjl, rfl, hall, hb6⟩ := hrel
                                by_cases hlt : j < l.length
                                · obtain ⟨g, hpl, hg1, hg2, hgc⟩ := HR5.out.2 j hlt
                                  subst hpl
                                  have hgc6 := (hb6.cell (p := ⟨g, j, none⟩) hg2).trans hgc
                                  have hg6 : g < wr.heap.size := Nat.lt_of_lt_of_le hg2 hb6.size
                                  obtain ⟨c0, c1, c2, c3, c4, c5, c6, hbl⟩ := rw_cells (HR5.out.1.later hb6).box
                                  obtain ⟨t, ht⟩ : ∃ t, l.getD j 0 = t := ⟨_, rfl⟩
                                  rw [ht] at hgc6
                                  have HJ := hide (And.intro hall (And.intro hb6 ht))
                                  clear hgc hall hb6 ht
                                  have hlt' : (j : Int) < l.length := by omega
                                  have hj0 : (0 : Int) ≤ j := by omega
                                  have hlj : l[j]? = some t := by
                                    rw [← HJ.out.2.2, List.getD, List.getElem?_eq_getElem hlt]; rfl
                                  have HLJ := hide hlj
                                  clear hlj
                                  cases hin : inB t n
                                  · go_upto_region 47 with fail
                                    go_quiet ((go_at_call 20; exact Calls.quiet_of_same (rin_any _ _ _)))
                                    go_wp2
                                    go_ret3
                                    refine ⟨by repeat (first | exact (HR5.out.1.later HJ.out.2.1).below | apply Below.drew | apply below_drewN), ?_⟩
                                    rw [HX.out.1.jump HEo.out HSt.out ⟨t, by rw [HL.out]; exact List.mem_of_getElem? HLJ.out, by dsimp only; rw [HH.out.2.2.2.2.2]; exact hin⟩]
                                    rfl
                                  · go_upto_region 47 with fail
                                    go_quiet ((go_at_call 20; exact Calls.quiet_of_same (rin_any _ _ _)))
                                    go_wp2
                                    refine ⟨⟨j + 1, by omega, by go_num, fun t' ht' => ?_, by repeat (first | exact HJ.out.2.1 | apply Below.drew | apply below_drewN)⟩, by simp [intOf]; omega⟩
                                    rw [List.take_add_one, HLJ.out] at ht'
                                    rcases List.mem_append.1 ht' with h | h
                                    · exact HJ.out.1 t' h
                                    · simp at h; rw [h]; exact hin
                                · have hje : j = l.length := by omega
                                  rw [hje, List.take_length] at hall
                                  have HAll := hide hall
                                  have HR6 := hide (And.intro (HR5.out.1.later hb6) (show ∀ i, i < l.length → ∃ g, pl = some ⟨g, 0, none⟩ ∧ w4.heap.size ≤ g ∧ g < wr.heap.size ∧ wr.cell? ⟨g, i, none⟩ = some (.int .i64 (l.getD i 0)) from fun i hi => by
                                    obtain ⟨g, e1, e2, e3, e4⟩ := HR5.out.2 i hi
                                    exact ⟨g, e1, e2, Nat.lt_of_lt_of_le e3 hb6.size, (hb6.cell (p := ⟨g, i, none⟩) e3).trans e4⟩))
                                  clear hall hb6 HR5
                                  have hjn : ¬ ((j : Int) < l.length) := by omega
                                  have HR7 := hide (show RW w wr bb n D (dn.set a true) ⟨[.string nm, .int .i64 pa, .int .i64 pf, .bool pr, .slice (some ⟨bc, oc, none⟩) n ccap, .slice ka nc kcap, .slice na nn ncap]⟩ from HR6.out.1)
                                  go_wp2
                                  go_loopw [20] (fun c20 wx => ∃ (j : Nat) (D' : List Int), j ≤ l.length ∧ c20 = .int .i64 j ∧ landR (d + tu) (l.take j) D = some D' ∧ RW w wx bb n D' (dn.set a true) ⟨[.string nm, .int .i64 pa, .int .i64 pf, .bool pr, .slice (some ⟨bc, oc, none⟩) n ccap, .slice ka nc kcap, .slice na nn ncap]⟩ ∧ (∀ i, i < l.length → ∃ g, pl = some ⟨g, 0, none⟩ ∧ w4.heap.size ≤ g ∧ g < wx.heap.size ∧ wx.cell? ⟨g, i, none⟩ = some (.int .i64 (l.getD i 0)))) (fun c20 _ => l.length - (intOf c20).toNat)
                                  case atStart => exact ⟨0, D, Nat.zero_le _, rfl, rfl, HR7.out, HR6.out.2⟩
                                  case round => as_aux_lemma =>
                                    clear HR6 HR7
                                    obtain ⟨j2, D', hjl2, rfl, hland, hRW, hlc⟩ := hrel
                                    by_cases hlt2 : j2 < l.length
                                    · obtain ⟨g, hpl, hg1, hg2, hgc⟩ := hlc j2 hlt2
                                      subst hpl
                                      obtain ⟨t, ht⟩ : ∃ t, l[j2]? = some t := ⟨_, List.getElem?_eq_getElem hlt2⟩
                                      have hgt : l.getD j2 0 = t := by rw [List.getD, ht]; rfl
                                      have htin := HAll.out t (List.mem_of_getElem? ht)
                                      simp only [inB, Bool.and_eq_true, decide_eq_true_eq] at htin
                                      obtain ⟨q, rfl⟩ : ∃ q : Nat, t = q := ⟨t.toNat, by omega⟩
                                      rw [hgt] at hgc
                                      have hqn : q < n := by omega
                                      have hDl' : D'.length = n := by rw [landR_len _ _ _ hland]; exact HX.out.2.2.1
                                      have hcd := World.rowIs.cell hRW.ds hqn
                                      have hfd := World.rowIs.frozen hRW.ds q
                                      have hl1 := World.rowIs.lt hRW.ds
                                      obtain ⟨dq, hdq⟩ : ∃ dq, D'.getD q 0 = dq := ⟨_, rfl⟩
                                      rw [hdq] at hcd
                                      have hgb : ¬ g = bb + 1 := by omega
                                      have hgb2 : ¬ bb + 1 = g := by omega
                                      have hstep : landR (d + tu) (l.take (j2 + 1)) D = if 0 ≤ dq ∧ dq ≠ d + tu then none else some (D'.set q (d + tu)) := by
                                        rw [List.take_add_one, ht, landR_app, hland]
                                        show landR (d + tu) [(q : Int)] D' = _
                                        simp only [landR, Int.toNat_natCast, hdq]
                                      have HJ := hide (And.intro hland (And.intro hRW (And.intro hlc (And.intro hDl' hstep))))
                                      have hlt2' : (j2 : Int) < l.length := by omega
                                      have hj20 : (0 : Int) ≤ j2 := by omega
                                      have hq0 : (0 : Int) ≤ q := by omega
                                      have hqn' : (q : Int) < n := by omega
                                      clear hland hRW hlc hDl' hstep hdq ht hgt htin
                                      by_cases c1 : 0 ≤ dq
                                      · by_cases c2 : dq = d + tu
                                        · have hs2 := HJ.out.2.2.2.2
                                          rw [if_neg (by omega)] at hs2
                                          have HS2 := hide hs2
                                          clear hs2
                                          go_wp2
                                          refine ⟨⟨j2 + 1, D'.set q (d + tu), by omega, by go_num, HS2.out, HJ.out.2.1.setD hwb HJ.out.2.2.2.1 hqn (d + tu), fun i hi => ?_⟩, by simp [intOf]; omega⟩
                                          obtain ⟨g', e1, e2, e3, e4⟩ := HJ.out.2.2.1 i hi
                                          cases e1
                                          exact ⟨g, rfl, e2, by rw [Deep.nblk_setCell]; exact e3, (World.cell?_of_block (Deep.blk_setCell_other _ _ _ _ hgb)).trans e4⟩
                                        · have hs2 := HJ.out.2.2.2.2
                                          rw [if_pos ⟨c1, c2⟩] at hs2
                                          have HS2 := hide hs2
                                          clear hs2
                                          go_wp2
                                          go_ret3
                                          refine ⟨HJ.out.2.1.below, ?_⟩
                                          have hnone : landR (d + tu) l D = none := by
                                            rw [← List.take_append_drop (j2 + 1) l, landR_app, HS2.out]
                                            rfl
                                          have htn := landR_turn (x := ⟨kk, xa, xb⟩) (k := a) (d := d) (D := D)
                                          rw [HN.out.2, HL.out, hnone] at htn
                                          rw [HX.out.1.land HEo.out HSt.out (by rw [HL.out]; intro t ht; dsimp only; rw [HH.out.2.2.2.2.2]; exact HAll.out t ht) (by rw [HX.out.2.2.2.2.1, HL.out]; exact htn)]
                                          rfl
                                      · have hs2 := HJ.out.2.2.2.2
                                        rw [if_neg (by omega)] at hs2
                                        have HS2 := hide hs2
                                        clear hs2
                                        go_wp2
                                        refine ⟨⟨j2 + 1, D'.set q (d + tu), by omega, by go_num, HS2.out, HJ.out.2.1.setD hwb HJ.out.2.2.2.1 hqn (d + tu), fun i hi => ?_⟩, by simp [intOf]; omega⟩
                                        obtain ⟨g', e1, e2, e3, e4⟩ := HJ.out.2.2.1 i hi
                                        cases e1
                                        exact ⟨g, rfl, e2, by rw [Deep.nblk_setCell]; exact e3, (World.cell?_of_block (Deep.blk_setCell_other _ _ _ _ hgb)).trans e4⟩
                                    · have hje2 : j2 = l.length := by omega
                                      rw [hje2, List.take_length] at hland
                                      have hjn2 : ¬ ((j2 : Int) < l.length) := by omega
                                      have htn := landR_turn (x := ⟨kk, xa, xb⟩) (k := a) (d := d) (D := D)
                                      rw [HN.out.2, HL.out, hland] at htn
                                      have hnext := HX.out.1.next D' HEo.out HSt.out (by rw [HL.out]; intro t ht; dsimp only; rw [HH.out.2.2.2.2.2]; exact HAll.out t ht) (by rw [HX.out.2.2.2.2.1, HL.out]; exact htn)
                                      have HE := hide (And.intro hnext hRW)
                                      clear hland htn hnext hRW hlc
                                      go_wp2
                                      go_roundg (undone (dn.set a true))
                                      case measure =>
                                        have e1 := HX.out.2.2.2.1
                                        have e2 := HI.out.2.1
                                        omega
                                      case rel => exact ⟨D', dn.set a true, HE.out.1, rfl, HE.out.2⟩
                        · go_wp2
                          go_ret3
                          refine ⟨HRX.out.rw.below, ?_⟩
                          have hyes : (((kk : Int) = 2 ∨ (kk : Int) = 21 ∨ (kk : Int) = 19) ∧ inB xa (if (kk : Int) = 19 then d - 1 else d) = false) := by
                            rw [HSl.out]; exact of_decide_eq_true HBad.out
                          have hst : (stackE ⟨kk, xa, xb⟩ (D.getD a 0)).2 = 33 := by rw [HX.out.2.2.2.2.1]; exact stack_slot (by rw [HN.out.1]; omega) hyes
                          rw [HX.out.1.stack HEo.out (by rw [hst]; decide), hst]
                          rfl
                · have heb : (eo != 0) = true := by simpa using he
                  go_wp2
                  go_ret3
                  refine ⟨HRX.out.rw.below, ?_⟩
                  rw [HX.out.1.own (by rw [HEo.out]; exact he), HEo.out]
                  rfl

end Go.Proofs.Ytmlmepbnjlepnaa
