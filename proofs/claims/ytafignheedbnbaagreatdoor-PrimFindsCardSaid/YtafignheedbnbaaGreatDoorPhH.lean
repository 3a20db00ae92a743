/-
  The walk of the table's Do, for a primitive of the map of words, with arguments that may be: what its function does.
-/
import Derived.Test.YtafignheedbnbaaGreatDoorPhG
import Derived.Test.YtafignheedbnbaaGreatDoorPhD
import Derived.StillTailTactics
import Derived.Deep.RegionLaw
import Derived.Deep.AppendLies
namespace Go.Proofs.YtafignheedbnbaaGreatDoor
open Go.RowKit Go.BigFrame
set_option linter.unusedSimpArgs false
set_option linter.unusedVariables false

/-- What Do has laid ahead of the primitive's own work. -/
structure DoAt (w : World) (S : Sto) (M : Nat → Prop) (h : List Ob) (sy : List (ByteArray × Nat)) (tb cb pbk i : Nat) (A : Option Addr) (c : Nat) (xs : List Nat) : Prop where
  st : SAt w S M h sy
  tab : TabAt w tb cb
  call : CallAt w cb S.sb (nm i) A xs.length c
  args : SlU w M A xs
  far : ¬ M cb ∧ ¬ M tb ∧ ¬ M pbk
  prim : w.heap[pbk]? = some (.cells #[.string (nm i), .int .i64 (least i), .int .i64 (most i)] 109 (0, 0))

theorem DoAt.below {w w' : World} {S : Sto} {M : Nat → Prop} {h : List Ob} {sy : List (ByteArray × Nat)} {tb cb pbk i : Nat} {A : Option Addr} {c : Nat} {xs : List Nat} (k : DoAt w S M h sy tb cb pbk i A c xs) (hb : Below w.heap.size w w') : DoAt w' S M h sy tb cb pbk i A c xs :=
  ⟨k.st.below hb, k.tab.below hb, (hb.block _ (ph_lt k.call)).trans k.call, k.args.below hb, k.far, (hb.block _ (ph_lt k.prim)).trans k.prim⟩

theorem CallAt.cells {w : World} {cb sb : Nat} {nm : ByteArray} {A : Option Addr} {n c : Nat} (h : CallAt w cb sb nm A n c) : w.cell? ⟨cb, 0, none⟩ = some (.pointer (some ⟨sb, 0, none⟩)) ∧ w.cell? ⟨cb, 1, none⟩ = some (.string nm) ∧ w.cell? ⟨cb, 2, none⟩ = some (.slice A n c) ∧ w.cell? ⟨cb, 3, none⟩ = some (.slice none 0 0) ∧ w.cell? ⟨cb, 4, none⟩ = some (.int .i64 0) ∧ cb < w.heap.size ∧ ∀ o, w.frozen? ⟨cb, o, none⟩ = false := by
  unfold CallAt at h
  exact ⟨by simp [World.cell?, h], by simp [World.cell?, h], by simp [World.cell?, h], by simp [World.cell?, h], by simp [World.cell?, h], ph_lt h, fun o => by simp [World.frozen?, h]⟩

theorem run_lookup_found {P : Program} {t kt et : TypeId} (hm : P.underlying t = some (.map kt et)) (hk : P.underlying kt = some .string) {w : World} {r clock j : Nat} {es : Array MapEntry} {s : ByteArray} {v : Value} (hb : w.heap[r]? = some (.map es clock)) (hf : Instr.findNow .string (.string s) es.toList 0 = some (some (j, v))) :
    (Instr.lookup t (.map (some r)) (.string s) false).run P w = .ok v w := by
  have hc : ∀ b, (Instr.checkKey b 10000 kt (.string s)).run P w = .ok () w := fun b => MapKept.run_checkKey (k := .string s) hk (by simp [MapKept.IsKey]) b 9999
  simp [Instr.lookup, run_underlying hm, MapKept.run_getObj_map hb, hc, MapKept.run_findKey hk hf, Result.andThen]

theorem below_of_none {w w' : World} (h : w.drew.grownBy w' (Value.slice none 0 0).ownBlock) : Below w.heap.size w w' :=
  ⟨h.os, h.tape, h.output, h.size, fun b hb => h.block b hb (by simp [Value.ownBlock])⟩

/-- A world behind the store of a whole call. -/
def callSet (w : World) (cb sb : Nat) (nm : ByteArray) (v : Value) : World :=
  ((((w.setCell ⟨cb, 0, none⟩ (.pointer (some ⟨sb, 0, none⟩))).setCell ⟨cb, 1, none⟩ (.string nm)).setCell ⟨cb, 2, none⟩ v).setCell ⟨cb, 3, none⟩ (.slice none 0 0)).setCell ⟨cb, 4, none⟩ (.int .i64 0)

theorem callSet_at {w : World} {cb sb : Nat} {nm : ByteArray} {G : Option Addr} {n c : Nat} {x0 x1 x2 x3 x4 : Value} (h : w.heap[cb]? = some (.cells #[x0, x1, x2, x3, x4] 151 (0, 0))) : CallAt (callSet w cb sb nm (.slice G n c)) cb sb nm G n c := by
  unfold CallAt callSet
  simp [World.setCell, Array.getElem?_modify, h]
theorem callSet_other {w : World} {cb sb : Nat} {nm : ByteArray} {v : Value} {b : Nat} (h : b ≠ cb) : (callSet w cb sb nm v).heap[b]? = w.heap[b]? := by
  unfold callSet
  rw [Below.heap_setCell _ _ _ _ h, Below.heap_setCell _ _ _ _ h, Below.heap_setCell _ _ _ _ h, Below.heap_setCell _ _ _ _ h, Below.heap_setCell _ _ _ _ h]
theorem callSet_size {w : World} {cb sb : Nat} {nm : ByteArray} {v : Value} : (callSet w cb sb nm v).heap.size = w.heap.size := by simp [callSet, World.setCell]

/-- A primitive has been done: the store has grown, its call may be written. -/
def DidAt (S : Sto) (M : Nat → Prop) (cb : Nat) (w : World) (h' : List Ob) (sy' : List (ByteArray × Nat)) (v : Value) (e : Ending) (w' : World) : Prop :=
  e = .returned v ∧ ∃ M', SAt w' S M' h' sy' ∧ Turns (fun b => M b ∨ b = cb) w w' ∧ ∀ b, M' b → M b ∨ w.heap.size ≤ b

set_option maxHeartbeats 4000000 in
set_option maxRecDepth 100000 in
theorem tdo_words {w : World} {S : Sto} {M : Nat → Prop} {h h' : List Ob} {sy sy' : List (ByteArray × Nat)} (k : SAt w S M h sy) {tb cb : Nat} (ht : TabAt w tb cb) (hcb : w.heap[cb]? = some (.cells #[.pointer none, .string ⟨#[]⟩, .slice none 0 0, .slice none 0 0, .int .i64 0] 151 (0, 0))) (hfar : ¬ M cb ∧ ¬ M tb)
    (i : Nat) (hi : i < 85) {f j : Nat} (hw : Instr.findNow .string (.string (nm i)) (wordsOf cb).toList 0 = some (some (j, .func (.func f) #[.pointer (some ⟨cb, 0, none⟩)] #[])))
    {A : Option Addr} {c : Nat} {xs : List Nat} (hn0 : 0 < xs.length) (hn : xs.length ≤ 1000) (hle : least i ≤ xs.length) (hmo : most i < 0 ∨ (xs.length : Int) ≤ most i) (hsl : SlU w M A xs) (hx : MayAll h xs) {v : Nat}
    (HE : ∀ (args : Array Value) (W : World), (callFunc f args).run Tryz.prog W = .ok (.enter f args) W)
    (HOf : ∀ (W : World) (A' : Option Addr) (c' : Nat), CallAt W cb S.sb (nm i) A' xs.length c' → Calls Tryz.prog 100 #[.pointer (some ⟨cb, 0, none⟩)] W fun e w' => e = .returned (.tuple #[.int .u64 0, .bool false]) ∧ Below W.heap.size W w')
    (HF : ∀ (W : World) (M' : Nat → Prop) (A' : Option Addr) (c' : Nat), SAt W S M' h sy → CallAt W cb S.sb (nm i) A' xs.length c' → SlU W M' A' xs → ¬ M' cb → Turns (fun b => M b ∨ b = cb) w W → Calls Tryz.prog f #[.pointer (some ⟨cb, 0, none⟩)] W (Grew S M' W h' sy' (.int .u64 v))) :
    Calls Tryz.prog 56 #[.pointer (some ⟨tb, 0, none⟩), .pointer (some ⟨S.sb, 0, none⟩), .int .i64 i, .slice A xs.length c] w (DidAt S M cb w h' sy' (.tuple #[.int .u64 v, .slice none 0 0, .int .i64 0])) := by
  have HG := hide (tget_any ht i (by omega))
  have HK := hide (And.intro k (And.intro ht (And.intro hcb (And.intro hfar (And.intro hsl hx)))))
  have HW := hide hw
  have HN := hide (And.intro hle hmo)
  obtain ⟨n, hN⟩ : ∃ n, xs.length = n := ⟨_, rfl⟩
  have HX := hide hN
  rw [hN] at hn0 hn ⊢
  clear k ht hcb hfar hsl hx hw hle hmo hN
  go_enter Tryz.func56, Tryz.ntmps56
  go_upto_region 2 with (go_at_call 96; refine HG.out.mono ?_; rintro e w1 ⟨rfl, hb1⟩)
  obtain ⟨pb, hpb⟩ : ∃ pb, w1.heap.size = pb := ⟨_, rfl⟩
  refine genW (fun U => SAt U S M h sy ∧ TabAt U tb cb ∧ U.heap[cb]? = some (.cells #[.pointer none, .string ⟨#[]⟩, .slice none 0 0, .slice none 0 0, .int .i64 0] 151 (0, 0)) ∧ SlU U M A xs ∧ ¬ M pb ∧ U.heap[pb]? = some (.cells #[.string (nm i), .int .i64 (least i), .int .i64 (most i)] 109 (0, 0)) ∧ Below w.heap.size w U) ?_ ?_
  · obtain ⟨k, ht, hcb, hfar, hsl, hx⟩ := HK.out
    have hb2 := hb1.alloc hb1.size (.cells #[.string (nm i), .int .i64 (least i), .int .i64 (most i)] 109)
    exact ⟨k.below hb2, ht.below hb2, (hb2.block _ (ph_lt hcb)).trans hcb, hsl.below hb2, k.far (by have := hb1.size; omega), by rw [← hpb]; exact Deep.blk_alloc_new _ _, hb2⟩
  intro U hU
  rw [hpb]
  have HU := hide hU
  have HC := hide (tcontrol_any hU.2.1 i hi)
  clear hb1 hpb hU
  go_upto_region 4 with (go_at_call 97; refine HC.out.mono ?_; rintro e w2 ⟨rfl, hb2⟩)
  obtain ⟨k, ht, hcb, hsl, hfp, hpr, hbU⟩ := HU.out
  have hbU2 := hbU.trans (hb2.mono hbU.size)
  have k := k.below hb2
  have ht := ht.below hb2
  have hcb := (hb2.block _ (ph_lt hcb)).trans hcb
  have hsl := hsl.below hb2
  have hpr := (hb2.block _ (ph_lt hpr)).trans hpr
  obtain ⟨pp, mb, -, tc1, tc2, -, -, htl⟩ := ht.cells
  have HU2 := hide (And.intro k (And.intro ht (And.intro hcb (And.intro hsl (And.intro hfp (And.intro hpr hbU2))))))
  clear hb2 HC HU k ht hcb hsl hfp hpr hbU hbU2 tc2
  go_upto_region 5 with fail
  go_cut [13] from 33 to 45 (fun s13 wx => s13 = .pointer (some ⟨cb, 0, none⟩) ∧ ∃ A' c', DoAt wx S M h sy tb cb pb i A' c' xs ∧ Turns (fun b => M b ∨ b = cb) w wx)
  case first =>
    rename_i J K' hJ hM
    have hnn : xs ≠ [] := fun e => by have := HX.out; rw [e] at this; simp at this; omega
    obtain ⟨L, rfl, hLl, hLM, hLc⟩ := HU2.out.2.2.2.1.resolve_left hnn
    obtain ⟨iW, hiW, hW0, hW1, hW2⟩ := info_parts ph_infoW
    have HA := hide (show ∀ j u, (xs.map wV)[j]? = some u → w2.drew.cell? ((⟨L, 0, none⟩ : Addr).add j) = some u from fun j u hu => by
      rw [List.getElem?_map] at hu
      obtain ⟨x, hx1, rfl⟩ := Option.map_eq_some_iff.1 hu
      rw [Addr.add_lit, Nat.zero_add]
      exact hLc j x hx1)
    have HO1 := hide (show ∀ u ∈ xs.map wV, u.oneCell' = true from fun u hu => by obtain ⟨x, -, rfl⟩ := List.mem_map.1 hu; rfl)
    have HLn := hide (show (xs.map wV).length = n * 1 by rw [List.length_map, Nat.mul_one]; exact HX.out)
    have HB1 := hide (show 0 + n ≤ maxLen by simp only [maxLen]; omega)
    have HB2 := hide (show (0 + n) * 8 ≤ 140737488355328 by omega)
    have HOwn := hide (show w2.drew.ownsRow w2.heap.size 29 1 (.slice none 0 0) 0 [] from ⟨rfl, .inl ⟨rfl, rfl⟩⟩)
    have HCB := hide (show ∀ w3, Below w2.heap.size w2 w3 → w3.cell? ⟨pb, 0, none⟩ = some (.string (nm i)) ∧ w3.cell? ⟨cb, 0, none⟩ = some (.pointer none) ∧ w3.cell? ⟨cb, 1, none⟩ = some (.string ⟨#[]⟩) ∧ w3.cell? ⟨cb, 2, none⟩ = some (.slice none 0 0) ∧ w3.cell? ⟨cb, 3, none⟩ = some (.slice none 0 0) ∧ w3.cell? ⟨cb, 4, none⟩ = some (.int .i64 0) ∧ ∀ o, w3.frozen? ⟨cb, o, none⟩ = false from fun w3 hb => by
      obtain ⟨-, -, hcb, -, -, hpr, -⟩ := HU2.out
      have hcb := (hb.block _ (ph_lt hcb)).trans hcb
      have hpr := (hb.block _ (ph_lt hpr)).trans hpr
      exact ⟨by simp [World.cell?, hpr], by simp [World.cell?, hcb], by simp [World.cell?, hcb], by simp [World.cell?, hcb], by simp [World.cell?, hcb], by simp [World.cell?, hcb], fun o => by simp [World.frozen?, hcb]⟩)
    have HEnd := hide (show ∀ w3, Below w2.heap.size w2 w3 → ∀ G cap, w3.ownsRow w2.heap.size 29 1 (.slice (some ⟨G, 0, none⟩) n cap) n (xs.map wV) → ∃ A' c', DoAt (((((w3.setCell ⟨cb, 0, none⟩ (.pointer (some ⟨S.sb, 0, none⟩))).setCell ⟨cb, 1, none⟩ (.string (nm i))).setCell ⟨cb, 2, none⟩ (.slice (some ⟨G, 0, none⟩) n cap)).setCell ⟨cb, 3, none⟩ (.slice none 0 0)).setCell ⟨cb, 4, none⟩ (.int .i64 0)) S M h sy tb cb pb i A' c' xs ∧ Turns (fun b => M b ∨ b = cb) w (((((w3.setCell ⟨cb, 0, none⟩ (.pointer (some ⟨S.sb, 0, none⟩))).setCell ⟨cb, 1, none⟩ (.string (nm i))).setCell ⟨cb, 2, none⟩ (.slice (some ⟨G, 0, none⟩) n cap)).setCell ⟨cb, 3, none⟩ (.slice none 0 0)).setCell ⟨cb, 4, none⟩ (.int .i64 0)) from fun w3 hb G cap hown => by
      obtain ⟨k, ht, hcb, hsl, hfp, hpr, hbU⟩ := HU2.out
      obtain ⟨-, -, -, hfar, -, -⟩ := HK.out
      change ∃ A' c', DoAt (callSet w3 cb S.sb (nm i) (.slice (some ⟨G, 0, none⟩) n cap)) S M h sy tb cb pb i A' c' xs ∧ Turns (fun b => M b ∨ b = cb) w (callSet w3 cb S.sb (nm i) (.slice (some ⟨G, 0, none⟩) n cap))
      have hcb3 := (hb.block _ (ph_lt hcb)).trans hcb
      obtain ⟨hGB, hGl, cG, hG⟩ := ph_own hown (b := G) rfl
      have hcl := ph_lt hcb
      have hGc : G ≠ cb := by omega
      have hne : ∀ {b : Nat} {o : Obj}, w2.heap[b]? = some o → (∀ c, o ≠ .cells c 151 (0, 0)) → b ≠ cb := fun hb2 hno e => by
        subst e; rw [hcb] at hb2; exact hno _ (Option.some.inj hb2).symm
      have k3 := k.below hb
      obtain ⟨⟨pp, mb, hT1, hT2, hT3⟩⟩ := ht
      refine ⟨some ⟨G, 0, none⟩, cap, ⟨k3.kept (by rw [callSet_size]; exact Nat.le_refl _) fun b e => callSet_other (by rintro rfl; exact hfar.1 e), ⟨⟨pp, mb, ?_, ?_, ?_⟩⟩, by rw [HX.out]; exact callSet_at hcb3, ?_, ⟨hfar.1, hfar.2, hfp⟩, ?_⟩, ?_⟩
      · rw [callSet_other (hne hT1 (by simp)), hb.block _ (ph_lt hT1)]; exact hT1
      · show (callSet _ _ _ _ _).heap[pp]? = _
        rw [callSet_other (hne hT2 (by simp)), hb.block _ (ph_lt hT2)]; exact hT2
      · rw [callSet_other (hne hT3 (by simp)), hb.block _ (ph_lt hT3)]; exact hT3
      · refine .inr ⟨G, rfl, by rw [callSet_size]; exact hGl, k.far (by omega), fun j x hx => ?_⟩
        have e := hown.cells (g := G) rfl j (wV x) (by rw [List.getElem?_map, hx]; rfl)
        rw [Addr.add_lit, Nat.zero_add] at e
        rw [World.cell?_of_block (w := w3) (callSet_other hGc)]
        exact e
      · rw [callSet_other (hne hpr (by simp)), hb.block _ (ph_lt hpr)]; exact hpr
      · have h0 : Turns (fun b => M b ∨ b = cb) w w3 := Turns.of_below (hbU.trans (hb.mono hbU.size))
        unfold callSet
        exact ((((h0.setCell (.inl (.inr rfl)) _).setCell (.inl (.inr rfl)) _).setCell (.inl (.inr rfl)) _).setCell (.inl (.inr rfl)) _).setCell (.inl (.inr rfl)) _)
    obtain ⟨p0, d0, d1, d2, d3, d4, d5⟩ := HCB.out w2 (Below.refl _ _)
    clear d0 d1 d3 d4 d5 hLl hLM hLc tc1 htl
    go_region_law ((refine step_append_lies _ rfl (.tmp 41) (.tmp 42) 66 (by rfl) w2.heap.size 29 iW _ 1 8 Tryz.underlying66 hiW hW0 hW1 hW2 rfl (by decide) (.slice none 0 0) 0 [] (by simp [Act.eval, Act.put]) HOwn.out ⟨L, 0, none⟩ n c (xs.map wV) (by simp [Act.eval, Act.put]) HLn.out HA.out HO1.out hn0 HB1.out HB2.out (Nat.le_refl _) w2.heap.size rfl ?_; intro G cap w3 hown3 hgrow3 hat3 hlt3; have hb3 := below_of_none hgrow3; obtain ⟨q0, e0, e1, e2, e3, e4, e5⟩ := HCB.out w3 hb3))
    all_goals
      refine hM _ _ (Met.intro (hJ _ _ ?_))
      (repeat apply Exists.intro)
      refine ⟨?rel, rfl⟩
      case rel =>
        exact ⟨rfl, HEnd.out w3 hb3 G cap (by simpa using hown3)⟩
  case rest =>
    obtain ⟨rfl, A', c', hD, hT⟩ := hcut
    obtain ⟨d0, d1, d2, d3, d4, dl, df⟩ := hD.call.cells
    rw [HX.out] at d2
    have HD := hide (And.intro hD hT)
    clear hD hT d0 d1 d3 d4 df tc1 htl HU2
    go_wp2
    go_loopw [51] (fun q wr => ∃ k : Nat, k ≤ n ∧ q = .int .i64 k ∧ Below wc.heap.size wc wr) (fun q _ => n - (intOf q).toNat)
    case atStart => exact ⟨0, Nat.zero_le _, rfl, Below.refl _ _⟩
    case round =>
      obtain ⟨k, hk, rfl, hbw⟩ := hrel
      have hDr := HD.out.1.below hbw
      by_cases hlt : k < n
      · obtain ⟨x, hxk⟩ : ∃ x, xs[k]? = some x := ⟨_, List.getElem?_eq_getElem (by have := HX.out; omega)⟩
        have hmem := List.mem_of_getElem? hxk
        obtain ⟨hx64, hm3, hm0⟩ := HK.out.2.2.2.2.2 x hmem
        rcases hDr.args with h0 | ⟨L, rfl, hL1, hL2, hL3⟩
        · rw [h0] at hxk; simp at hxk
        have hcx := hL3 k x hxk
        obtain ⟨c0, -, -, hsb, -⟩ := hDr.st.cells
        obtain ⟨v1, v2, hh, -⟩ := hDr.st.hp
        have HIs := hide (is_any hh x hx64)
        have hm := and_mask x 2 hx64 (by omega)
        have hA : bits BinOp.and IntKind.u64 (x : Int) 3 = ((x % 4 : Nat) : Int) := by simpa using hm
        have hA3 : (bits BinOp.and IntKind.u64 (x : Int) 3 == 3) = false := by rw [hA]; exact beq_eq_false_iff_ne.2 (by omega)
        have HB := hide hbw
        have hlt' : (k : Int) < n := by omega
        have hk0 : (0 : Int) ≤ k := by omega
        clear hL2 hL3 hh hm hbw hmem hxk hDr d2
        by_cases h0 : x % 4 = 0
        · have hA0 : (bits BinOp.and IntKind.u64 (x : Int) 3 == 0) = true := by rw [hA, h0]; rfl
          have hi2 := hm0 h0
          rw [hi2] at HIs
          clear hA h0 hi2 hm0 hm3
          go_wp2_with (go_at_call 98; refine HIs.out.mono ?_; rintro e w3 ⟨rfl, hb3⟩)
          exact ⟨⟨k + 1, by omega, by go_num, HB.out.trans (hb3.mono HB.out.size)⟩, by simp [intOf]; omega⟩
        · have hA0 : (bits BinOp.and IntKind.u64 (x : Int) 3 == 0) = false := by rw [hA]; exact beq_eq_false_iff_ne.2 (by omega)
          clear hA h0 hm0 hm3 HIs
          go_wp2
          exact ⟨⟨k + 1, by omega, by go_num, HB.out⟩, by simp [intOf]; omega⟩
      · obtain rfl : k = n := by omega
        have hpr := hDr.prim
        have p1 : wr.cell? ⟨pb, 1, none⟩ = some (.int .i64 (least i)) := by simp [World.cell?, hpr]
        have p2 : wr.cell? ⟨pb, 2, none⟩ = some (.int .i64 (most i)) := by simp [World.cell?, hpr]
        have HOf1 := hide (HOf wr A' c' hDr.call)
        have HR := hide (And.intro hDr hbw)
        obtain ⟨hle, hmo⟩ := HN.out
        rw [HX.out] at hle hmo
        have hle' : ¬ (k : Int) < least i := by omega
        clear hbw hDr d2 hpr hlt hk hle
        generalize least i = lo at *
        generalize most i = mo at *
        rcases (show ¬ (0 : Int) ≤ mo ∨ (0 : Int) ≤ mo ∧ ¬ mo < k by omega) with f0 | ⟨f0, f1⟩
        all_goals
          clear hmo
          go_upto_region 15 with (go_at_call 100; refine HOf1.out.mono ?_; rintro e w4 ⟨rfl, hb4⟩)
          have hD4 := HR.out.1.below hb4
          have hb4' := HR.out.2.trans (hb4.mono HR.out.2.size)
          obtain ⟨pp, mb', -, tc1, tc2, -, hmb, htl⟩ := hD4.tab.cells
          obtain ⟨d0, d1, d2, d3, d4, dl', df⟩ := hD4.call.cells
          have HR4 := hide (And.intro hD4 hb4')
          clear d0 d2 d3 d4 df hD4 hb4 hb4' tc1 p1 p2
          go_upto_region 16 with fail
          refine wp_region_still_tail 9 (by kernel_rfl) (by kernel_rfl) ?_
          simp only [List.take_succ_cons, List.take_zero, List.drop_succ_cons, List.drop_zero]
          change wpStill _ _ w4.drew (fun a' => wpList _ _ _ _ a' w4.drew) _ _
          have hlook : (Instr.lookup 152 (.map (some mb')) (.string (nm i)) false).run Tryz.prog w4.drew = .ok (.func (.func f) #[.pointer (some ⟨cb, 0, none⟩)] #[]) w4.drew := run_lookup_found Tryz.underlying152 Tryz.underlying9 hmb HW.out
          have d1' : w4.drew.cell? ⟨cb, 1, none⟩ = some (.string (nm i)) := d1
          have tc2' : w4.drew.cell? ⟨tb, 2, none⟩ = some (.map (some mb')) := tc2
          have HR5 := hide (show DoAt w4.drew S M h sy tb cb pb i A' c' xs ∧ Below wc.heap.size wc w4.drew from ⟨HR4.out.1.below (Below.refl _ _).drew, HR4.out.2.drew⟩)
          clear d1 tc2 hmb HR4
          generalize w4.drew = V at *
          repeat still_step
          refine wpStill_nil ?_
          go_wp2_with fail
          have hc5 := HR5.out.1.call
          refine (HF V M A' c' HR5.out.1.st hc5 HR5.out.1.args HR5.out.1.far.1 (HD.out.2.below HR5.out.2)).mono ?_
          rintro e w6 ⟨rfl, M6, k6, s6⟩
          have hc6 : CallAt w6 cb S.sb (nm i) A' xs.length c' := (s6.keeps (ph_lt hc5) HR5.out.1.far.1).trans hc5
          obtain ⟨d0, d1, d2, d3, d4, dl', df⟩ := hc6.cells
          have H6 := hide (And.intro k6 s6)
          clear k6 s6 hc5 hc6 d0 d1 d2 df hlook d1' tc2' HE
          go_upto_region 19 with fail
          generalize w6 = V6 at *
          refine wp_region_later (by kernel_rfl) (by kernel_rfl) ?_
          repeat (first
            | go_big_quiet_step (fail)
            | quiet_step (fail))
          refine wpQuiet_nil ?_
          rintro w7 ⟨⟨wz, hbz⟩, hwz⟩
          have hb7 : Below V6.heap.size V6 w7 := by rw [hwz]; exact hbz
          clear hwz hbz wz
          have HB7 := hide hb7
          clear hb7
          go_wp2
          refine bodyPost_ret (v := .tuple #[.int .u64 v, .slice none 0 0, .int .i64 0]) (by simp [results, Tryz.results56, go_sem]) rfl ?_
          obtain ⟨k6, s6⟩ := H6.out
          obtain ⟨hD5, hb5⟩ := HR5.out
          obtain ⟨hDw, hT⟩ := HD.out
          refine ⟨rfl, M6, k6.below HB7.out, ?_, fun b e => ?_⟩
          · have s := (Step.of_below M hb5).trans (s6.below HB7.out)
            exact hT.trans' s.turns fun b _ e => .inl e
          · rcases s6.mine b e with e | e
            · exact .inl e
            · exact .inr (by have := hb5.size; have := hT.size; omega)

end Go.Proofs.YtafignheedbnbaaGreatDoor
