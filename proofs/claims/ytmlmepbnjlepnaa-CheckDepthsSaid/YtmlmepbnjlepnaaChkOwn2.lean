/-
  The walk of the document's own, at the instructions that make a closure and that call a primitive.
-/
import Derived.Test.YtmlmepbnjlepnaaChkOwn
import Derived.Test.YtmlmepbnjlepnaaChkProg
import Derived.LoopTactic
import Derived.Outline
import Derived.Deep.CutRange
namespace Go.Proofs.Ytmlmepbnjlepnaa
open Go.RowKit Go.BigFrame
set_option linter.unusedSimpArgs false
set_option linter.unusedVariables false

theorem genO {P : Program} {c : Code} {Q : Exit → Act → World → Prop} {a : Act} {w0 : World} (F : World → Prop) (h : F w0) (k : ∀ W, F W → Code.wp P c Q a W) : Code.wp P c Q a w0 := k _ h

section
variable (psa : Option Addr) (n pcap : Nat) (nm : ByteArray) (pargs pfree : Int) (pr : Bool) (ka : Option Addr) (nk kcap : Nat) (ca : Option Addr) (nc ccap : Nat) (na : Option Addr) (nn ncap : Nat)

set_option maxRecDepth 100000 in
set_option maxHeartbeats 4000000 in
theorem rown_10_bad (a b : Int) (w : World) (hn : n ≤ 140737488351232) (h : (inB a n && inB b 65) = false) :
    Calls Try.prog 26 (ownArgs psa n pcap nm pargs pfree pr ka nk kcap ca nc ccap na nn ncap 10 a b) w fun e w' => e = .returned (.int .i64 33) ∧ Below w.heap.size w w' := by
  unfold ownArgs
  have hab : inB a n = false ∨ (inB a n = true ∧ inB b 65 = false) := by
    cases h1 : inB a n
    · exact .inl rfl
    · rw [h1] at h; exact .inr ⟨rfl, by simpa using h⟩
  clear h
  rcases hab with h1 | ⟨h1, h2⟩ <;>
  · go_enter Try.func26, Try.ntmps26
    go_wp2_with (first
      | (go_at_call 29; refine (named_any _ (by omega) _).mono ?_; rintro e w' ⟨rfl, rfl⟩; simp only [wantT, Int.reduceToNat])
      | (go_at_call 20; refine (rin_any _ _ _).mono ?_; rintro e w' ⟨rfl, rfl⟩))
    go_ret
    exact ⟨rfl, by repeat (first | exact Below.refl _ _ | apply Below.drew | apply below_drewN | refine Below.alloc ?_ (by simp <;> omega) _)⟩

set_option maxRecDepth 100000 in
set_option maxHeartbeats 4000000 in
theorem rown_10 (a b f : Int) (bb o i : Nat) (w : World) (hn : n ≤ 140737488351232) (hpsa : psa = some ⟨bb, o, none⟩) (hbl : bb < w.heap.size) (hai : a = i) (hin : i < n) (hcell : w.cell? ⟨bb, o + i * 7 + 2, none⟩ = some (.int .i64 f)) (h1 : inB a n = true) (h2 : inB b 65 = true) :
    Calls Try.prog 26 (ownArgs psa n pcap nm pargs pfree pr ka nk kcap ca nc ccap na nn ncap 10 a b) w fun e w' => e = .returned (.int .i64 (if f = b then 0 else 34)) ∧ Below w.heap.size w w' := by
  unfold ownArgs
  subst hpsa hai
  have hin' : (i : Int) < n := by omega
  have hi0 : (0 : Int) ≤ i := by omega
  by_cases hfb : f = b
  · rw [if_pos hfb]
    subst hfb
    go_enter Try.func26, Try.ntmps26
    go_wp2_with (first
      | (go_at_call 29; refine (named_any _ (by omega) _).mono ?_; rintro e w' ⟨rfl, rfl⟩; simp only [wantT, Int.reduceToNat])
      | (go_at_call 20; refine (rin_any _ _ _).mono ?_; rintro e w' ⟨rfl, rfl⟩))
    go_quiet (fail)
    go_wp2
    go_ret
    exact ⟨rfl, by repeat (first | exact Below.refl _ _ | apply Below.drew | apply below_drewN | refine Below.alloc ?_ (by simp <;> omega) _)⟩
  · rw [if_neg hfb]
    have hfb' : (f != b) = true := by simpa using hfb
    go_enter Try.func26, Try.ntmps26
    go_wp2_with (first
      | (go_at_call 29; refine (named_any _ (by omega) _).mono ?_; rintro e w' ⟨rfl, rfl⟩; simp only [wantT, Int.reduceToNat])
      | (go_at_call 20; refine (rin_any _ _ _).mono ?_; rintro e w' ⟨rfl, rfl⟩))
    go_quiet (fail)
    go_wp2
    go_ret
    exact ⟨rfl, by repeat (first | exact Below.refl _ _ | apply Below.drew | apply below_drewN | refine Below.alloc ?_ (by simp <;> omega) _)⟩

set_option maxRecDepth 100000 in
set_option maxHeartbeats 4000000 in
theorem rown_16_bad (a b : Int) (w : World) (h : inB a 92 = false) :
    Calls Try.prog 26 (ownArgs psa n pcap nm pargs pfree pr ka nk kcap ca nc ccap na nn ncap 16 a b) w fun e w' => e = .returned (.int .i64 33) ∧ Below w.heap.size w w' := by
  unfold ownArgs
  go_enter Try.func26, Try.ntmps26
  go_wp2_with (first
    | (go_at_call 29; refine (named_any _ (by omega) _).mono ?_; rintro e w' ⟨rfl, rfl⟩; simp only [wantT, Int.reduceToNat])
    | (go_at_call 14; refine (prims_any _).mono ?_; rintro e w' ⟨rfl, rfl⟩)
    | (go_at_call 20; refine (rin_any _ _ _).mono ?_; rintro e w' ⟨rfl, rfl⟩))
  go_ret
  exact ⟨rfl, by repeat (first | exact Below.refl _ _ | apply Below.drew | apply below_drewN | refine Below.alloc ?_ (by simp <;> omega) _)⟩

set_option maxRecDepth 100000 in
set_option maxHeartbeats 4000000 in
theorem rown_16 (i : Nat) (b : Int) (r : List UInt8 × Int × Int) (w : World) (hi : i < 92) (hr : primT[i]? = some r) (h : inB i 92 = true) :
    Calls Try.prog 26 (ownArgs psa n pcap nm pargs pfree pr ka nk kcap ca nc ccap na nn ncap 16 i b) w fun e w' => e = .returned (.int .i64 (if 85 ≤ (i : Int) ∨ b < r.2.1 ∨ (0 ≤ r.2.2 ∧ r.2.2 < b) then 34 else 0)) ∧ Below w.heap.size w w' := by
  unfold ownArgs
  obtain ⟨g1, g2⟩ := prims_get i r hr
  obtain ⟨nm', l, m⟩ := r
  dsimp only at g1 g2 ⊢
  obtain ⟨res, hres⟩ : ∃ res : Int, (if 85 ≤ (i : Int) ∨ b < l ∨ (0 ≤ m ∧ m < b) then 34 else 0) = res := ⟨_, rfl⟩
  rw [hres]
  have hi' : (i : Int) < 92 := by omega
  have hi0 : (0 : Int) ≤ i := by omega
  go_enter Try.func26, Try.ntmps26
  go_upto_region 34 with (first
    | (go_at_call 29; refine (named_any _ (by omega) _).mono ?_; rintro e w' ⟨rfl, rfl⟩; simp only [wantT, Int.reduceToNat])
    | (go_at_call 14; refine (prims_any _).mono ?_; rintro e w' ⟨rfl, rfl⟩)
    | (go_at_call 20; refine (rin_any _ _ _).mono ?_; rintro e w' ⟨rfl, rfl⟩))
  refine genO (fun U => U.cell? ⟨w.heap.size + 1, 1, none⟩ = some (.int .i64 i) ∧ U.cell? ⟨w.heap.size + 1, 2, none⟩ = some (.int .i64 b) ∧ U.cell? ⟨w.heap.size + 2, i * 3 + 1, none⟩ = some (.int .i64 l) ∧ U.cell? ⟨w.heap.size + 2, i * 3 + 2, none⟩ = some (.int .i64 m) ∧ w.heap.size + 2 < U.heap.size ∧ Below w.heap.size w U) ?_ ?_
  · obtain ⟨e1, e2, e3⟩ := blk3 w (.cells ⟨[.string nm, .int .i64 pargs, .int .i64 pfree, .bool pr, .slice ka nk kcap, .slice ca nc ccap, .slice na nn ncap]⟩ 32) (.cells ⟨[.int .i64 16, .int .i64 i, .int .i64 b]⟩ 34) (.cells ⟨primsV⟩ 67)
    refine ⟨(cell_row e1 1).trans rfl, (cell_row e1 2).trans rfl, (cell_row e2 _).trans g1, (cell_row e2 _).trans g2, by rw [e3]; omega, ?_⟩
    exact ((((Below.refl _ w).alloc (Nat.le_refl _) _).alloc (by rw [Deep.nblk_alloc]; omega) _).alloc (by rw [Deep.nblk_alloc, Deep.nblk_alloc]; omega) _)
  rintro U ⟨c1, c2, c3, c4, hU, hbU⟩
  have hU1 : w.heap.size + 1 < U.heap.size := by omega
  have HB := hide hbU
  clear hbU g1 g2 hr
  by_cases k1 : 85 ≤ (i : Int)
  · rw [if_pos (.inl k1)] at hres
    subst hres
    go_quiet (fail)
    go_wp2
    go_ret
    exact ⟨rfl, by repeat (first | exact HB.out | apply Below.drew | apply below_drewN)⟩
  · by_cases k2 : b < l
    · rw [if_pos (.inr (.inl k2))] at hres
      subst hres
      go_quiet (fail)
      go_wp2
      go_ret
      exact ⟨rfl, by repeat (first | exact HB.out | apply Below.drew | apply below_drewN)⟩
    · by_cases k3 : 0 ≤ m
      · by_cases k4 : m < b
        · rw [if_pos (.inr (.inr ⟨k3, k4⟩))] at hres
          subst hres
          go_quiet (fail)
          go_wp2
          go_ret
          exact ⟨rfl, by repeat (first | exact HB.out | apply Below.drew | apply below_drewN)⟩
        · rw [if_neg (by omega)] at hres
          subst hres
          go_quiet (fail)
          go_wp2
          go_ret
          exact ⟨rfl, by repeat (first | exact HB.out | apply Below.drew | apply below_drewN)⟩
      · rw [if_neg (by omega)] at hres
        subst hres
        go_quiet (fail)
        go_wp2
        go_ret
        exact ⟨rfl, by repeat (first | exact HB.out | apply Below.drew | apply below_drewN)⟩

end

theorem known_op2 {op : Int} (h : (inB op 22 && (wantT op.toNat).known) = true) : 1 ≤ op ∧ op ≤ 21 := by
  rw [Bool.and_eq_true] at h
  obtain ⟨h1, h2⟩ := h
  simp only [inB, Bool.and_eq_true, decide_eq_true_eq] at h1
  refine ⟨?_, by omega⟩
  rcases (show op = 0 ∨ 1 ≤ op by omega) with e | e
  · rw [e] at h2; cases h2
  · exact e

theorem prims_least : ∀ (i : Nat) (r : List UInt8 × Int × Int), primT[i]? = some r → 0 ≤ r.2.1 := by
  have h : primT.all (fun r => decide (0 ≤ r.2.1)) = true := by decide +kernel
  intro i r hr
  have := List.all_eq_true.1 h r (List.mem_of_getElem? hr)
  simpa using this

theorem primT_len : primT.length = 92 := by decide +kernel

/-- own, of any instruction. -/
theorem rown_any (psa : Option Addr) (ps : List Pr) (pcap : Nat) (nm : ByteArray) (pr : Bool) (ka : Option Addr) (nk kcap : Nat) (ca : Option Addr) (ccap : Nat) (na : Option Addr) (ncap : Nat) (p : Pr) (x : Ins) (w : World)
    (hn : ps.length ≤ 140737488351232) (hnc : p.nc ≤ 140737488351232) (hnn : p.nn ≤ 140737488351232)
    (hf : ∀ i, i < ps.length → ∃ b o, psa = some ⟨b, o, none⟩ ∧ b < w.heap.size ∧ w.cell? ⟨b, o + i * 7 + 2, none⟩ = some (.int .i64 (freeOf ps i))) :
    Calls Try.prog 26 #[.slice psa ps.length pcap, .agg #[.string nm, .int .i64 p.args, .int .i64 p.free, .bool pr, .slice ka nk kcap, .slice ca p.nc ccap, .slice na p.nn ncap], .agg #[.int .i64 x.op, .int .i64 x.a, .int .i64 x.b]] w
      fun e w' => e = .returned (.int .i64 (opsE ps p x)) ∧ Below w.heap.size w w' := by
  obtain ⟨op, a, b⟩ := x
  dsimp only
  by_cases hop : 1 ≤ op ∧ op ≤ 21
  · have hk : (inB op 22 && (wantT op.toNat).known) = true := by
      rcases ops21 hop with h | h | h | h | h | h | h | h | h | h | h | h | h | h | h | h | h | h | h | h | h <;> subst h <;> rfl
    unfold opsE
    dsimp only
    rw [if_neg (by rw [hk]; decide)]
    cases hq : ((!(wantT op.toNat).a && decide (a ≠ 0)) || (!(wantT op.toNat).b && decide (b ≠ 0)))
    · rw [if_neg (by simp)]
      rcases ops21 hop with h | h | h | h | h | h | h | h | h | h | h | h | h | h | h | h | h | h | h | h | h
      · subst h
        have hb : b = 0 := by simpa [wantT] using hq
        subst hb
        have e := rown_1 psa ps.length pcap nm p.args p.free pr ka nk kcap ca p.nc ccap na p.nn ncap a w hnc
        cases hc : inB a p.nc <;> simpa [hc, okB, kindB, ownArgs] using e
      · exact rown_none psa ps.length pcap nm p.args p.free pr ka nk kcap ca p.nc ccap na p.nn ncap op a b w (by omega) hq |>.mono fun e w' ⟨h1, h2⟩ => ⟨by rw [h1]; subst h; rfl, h2⟩
      · subst h
        have hb : b = 0 := by simpa [wantT] using hq
        subst hb
        have e := rown_3 psa ps.length pcap nm p.args p.free pr ka nk kcap ca p.nc ccap na p.nn ncap a w
        cases hc : inB a p.free <;> simpa [hc, okB, kindB, ownArgs] using e
      · subst h
        have hb : b = 0 := by simpa [wantT] using hq
        subst hb
        have e := rown_4 psa ps.length pcap nm p.args p.free pr ka nk kcap ca p.nc ccap na p.nn ncap 4 a w (by omega) hnn
        cases hc : inB a p.nn <;> simpa [hc, okB, kindB, ownArgs] using e
      · subst h
        have hb : b = 0 := by simpa [wantT] using hq
        subst hb
        have e := rown_4 psa ps.length pcap nm p.args p.free pr ka nk kcap ca p.nc ccap na p.nn ncap 5 a w (by omega) hnn
        cases hc : inB a p.nn <;> simpa [hc, okB, kindB, ownArgs] using e
      · subst h
        have hb : b = 0 := by simpa [wantT] using hq
        subst hb
        have e := rown_4 psa ps.length pcap nm p.args p.free pr ka nk kcap ca p.nc ccap na p.nn ncap 6 a w (by omega) hnn
        cases hc : inB a p.nn <;> simpa [hc, okB, kindB, ownArgs] using e
      · exact rown_none psa ps.length pcap nm p.args p.free pr ka nk kcap ca p.nc ccap na p.nn ncap op a b w (by omega) hq |>.mono fun e w' ⟨h1, h2⟩ => ⟨by rw [h1]; subst h; rfl, h2⟩
      · exact rown_none psa ps.length pcap nm p.args p.free pr ka nk kcap ca p.nc ccap na p.nn ncap op a b w (by omega) hq |>.mono fun e w' ⟨h1, h2⟩ => ⟨by rw [h1]; subst h; rfl, h2⟩
      · exact rown_none psa ps.length pcap nm p.args p.free pr ka nk kcap ca p.nc ccap na p.nn ncap op a b w (by omega) hq |>.mono fun e w' ⟨h1, h2⟩ => ⟨by rw [h1]; subst h; rfl, h2⟩
      · subst h
        cases hc : (inB a ps.length && inB b 65)
        · have e := rown_10_bad psa ps.length pcap nm p.args p.free pr ka nk kcap ca p.nc ccap na p.nn ncap a b w hn hc
          have hc' : okB ps p ⟨10, a, b⟩ = false := hc
          rw [if_pos (by rw [hc']; rfl)]
          exact e
        · have hc' : okB ps p ⟨10, a, b⟩ = true := hc
          rw [if_neg (by rw [hc']; decide)]
          rw [Bool.and_eq_true] at hc
          obtain ⟨bb, o, i, e1, e2, e3, e4, e5⟩ := own_prs ps ps.length psa w rfl hf hc.1
          have e := rown_10 psa ps.length pcap nm p.args p.free pr ka nk kcap ca p.nc ccap na p.nn ncap a b (freeOf ps a) bb o i w hn e1 e2 e3 e4 e5 hc.1 hc.2
          by_cases hfb : freeOf ps a = b
          · have hkd : kindB ps ⟨10, a, b⟩ = true := decide_eq_true hfb
            rw [if_neg (by rw [hkd]; decide)]
            rw [if_pos hfb] at e
            exact e
          · have hkd : kindB ps ⟨10, a, b⟩ = false := decide_eq_false hfb
            rw [if_pos (by rw [hkd]; rfl)]
            rw [if_neg hfb] at e
            exact e
      · subst h
        have hb : b = 0 := by simpa [wantT] using hq
        subst hb
        have e := rown_11 psa ps.length pcap nm p.args p.free pr ka nk kcap ca p.nc ccap na p.nn ncap 11 a 65 w (by omega)
        cases hc : inB a 65 <;> simpa [hc, okB, kindB, ownArgs] using e
      · subst h
        have hb : b = 0 := by simpa [wantT] using hq
        subst hb
        have e := rown_11 psa ps.length pcap nm p.args p.free pr ka nk kcap ca p.nc ccap na p.nn ncap 12 a 65 w (by omega)
        cases hc : inB a 65 <;> simpa [hc, okB, kindB, ownArgs] using e
      · exact rown_none psa ps.length pcap nm p.args p.free pr ka nk kcap ca p.nc ccap na p.nn ncap op a b w (by omega) hq |>.mono fun e w' ⟨h1, h2⟩ => ⟨by rw [h1]; subst h; rfl, h2⟩
      · exact rown_none psa ps.length pcap nm p.args p.free pr ka nk kcap ca p.nc ccap na p.nn ncap op a b w (by omega) hq |>.mono fun e w' ⟨h1, h2⟩ => ⟨by rw [h1]; subst h; rfl, h2⟩
      · exact rown_none psa ps.length pcap nm p.args p.free pr ka nk kcap ca p.nc ccap na p.nn ncap op a b w (by omega) hq |>.mono fun e w' ⟨h1, h2⟩ => ⟨by rw [h1]; subst h; rfl, h2⟩
      · subst h
        cases hc : inB a 92
        · have e := rown_16_bad psa ps.length pcap nm p.args p.free pr ka nk kcap ca p.nc ccap na p.nn ncap a b w hc
          have hc' : okB ps p ⟨16, a, b⟩ = false := hc
          rw [if_pos (by rw [hc']; rfl)]
          exact e
        · have hc' : okB ps p ⟨16, a, b⟩ = true := hc
          rw [if_neg (by rw [hc']; decide)]
          have hc2 := hc
          simp only [inB, Bool.and_eq_true, decide_eq_true_eq] at hc2
          obtain ⟨i, rfl⟩ : ∃ i : Nat, a = i := ⟨a.toNat, by omega⟩
          obtain ⟨r, hr⟩ : ∃ r, primT[i]? = some r := ⟨_, List.getElem?_eq_getElem (by rw [primT_len]; omega)⟩
          have e := rown_16 psa ps.length pcap nm p.args p.free pr ka nk kcap ca p.nc ccap na p.nn ncap i b r w (by omega) hr hc
          have h0 := prims_least i r hr
          have hpo : primOf (i : Int) = r.2 := by unfold primOf; rw [Int.toNat_natCast, hr]
          by_cases hbad : 85 ≤ (i : Int) ∨ b < r.2.1 ∨ (0 ≤ r.2.2 ∧ r.2.2 < b)
          · have hkd : kindB ps ⟨16, i, b⟩ = false := by
              unfold kindB
              dsimp only
              rw [if_neg (by decide), if_pos rfl, hpo]
              rw [Bool.eq_false_iff]
              intro hall
              simp only [Bool.and_eq_true, Bool.or_eq_true, decide_eq_true_eq] at hall
              omega
            rw [if_pos (by rw [hkd]; rfl)]
            rw [if_pos hbad] at e
            exact e
          · have hkd : kindB ps ⟨16, i, b⟩ = true := by
              unfold kindB
              dsimp only
              rw [if_neg (by decide), if_pos rfl, hpo]
              simp only [Bool.and_eq_true, Bool.or_eq_true, decide_eq_true_eq]
              omega
            rw [if_neg (by rw [hkd]; decide)]
            rw [if_neg hbad] at e
            exact e
      · exact rown_none psa ps.length pcap nm p.args p.free pr ka nk kcap ca p.nc ccap na p.nn ncap op a b w (by omega) hq |>.mono fun e w' ⟨h1, h2⟩ => ⟨by rw [h1]; subst h; rfl, h2⟩
      · subst h
        have hb : b = 0 := by simpa [wantT] using hq
        subst hb
        have e := rown_11 psa ps.length pcap nm p.args p.free pr ka nk kcap ca p.nc ccap na p.nn ncap 18 a 4097 w (by omega)
        cases hc : inB a 4097 <;> simpa [hc, okB, kindB, ownArgs] using e
      · exact rown_none psa ps.length pcap nm p.args p.free pr ka nk kcap ca p.nc ccap na p.nn ncap op a b w (by omega) hq |>.mono fun e w' ⟨h1, h2⟩ => ⟨by rw [h1]; subst h; rfl, h2⟩
      · exact rown_none psa ps.length pcap nm p.args p.free pr ka nk kcap ca p.nc ccap na p.nn ncap op a b w (by omega) hq |>.mono fun e w' ⟨h1, h2⟩ => ⟨by rw [h1]; subst h; rfl, h2⟩
      · exact rown_none psa ps.length pcap nm p.args p.free pr ka nk kcap ca p.nc ccap na p.nn ncap op a b w (by omega) hq |>.mono fun e w' ⟨h1, h2⟩ => ⟨by rw [h1]; subst h; rfl, h2⟩
    · rw [if_pos rfl]
      exact rown_named psa ps.length pcap nm p.args p.free pr ka nk kcap ca p.nc ccap na p.nn ncap op a b w hop hq
  · have e := rown_out psa ps.length pcap nm p.args p.free pr ka nk kcap ca p.nc ccap na p.nn ncap op a b w hop
    unfold opsE
    dsimp only
    rw [if_pos]
    · exact e
    · cases hk : (inB op 22 && (wantT op.toNat).known)
      · rfl
      · exact absurd (known_op2 hk) hop

end Go.Proofs.Ytmlmepbnjlepnaa
