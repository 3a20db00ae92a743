/-
  What the calls of the law PrimFinds come to.
-/
import Derived.Test.YtafignheedbnbaaGreatDoorPhN
import Derived.Test.YtafignheedbnbaaGreatDoorPhFind
import Derived.Test.YtafignheedbnbaaGreatDoorPhTurns
namespace Go.Proofs.YtafignheedbnbaaGreatDoor
open Go.RowKit
set_option linter.unusedSimpArgs false
set_option linter.unusedVariables false

section
variable {S : Sto} {w0 : World} {h : List Ob} {sy : List (ByteArray × Nat)}

theorem does_memv {ws zs : List Nat} (hl : Lst h ws (zs.map fun z => 4 * z + 1) 10) (hus : used h ≤ 16777216) (hz : ∀ z ∈ zs, z < 12) (hu : zs.length ≤ used h) {q r : Nat} (hq : q < 12) (hr : Found q zs (fun f => hd (ws.drop f) 10) r) : Does S w0 h h sy sy 49 [4 * q + 1, hd ws 10] r where
  i85 := by omega
  fn := ⟨145, by decide +kernel, fun _ _ => by kernel_rfl, fun W cb M' A' c' k hb => memv_any k (by decide +kernel) hl hz hu hq rfl hr⟩
  often := by decide +kernel
  n0 := by simp
  n1 := by simp
  le := by show least 49 ≤ ((2 : Nat) : Int); decide +kernel
  mo := by right; show ((2 : Nat) : Int) ≤ most 49; decide +kernel
  may := may2 (fix_may h q (by omega)) (hd_may hl hus 0)

theorem does_assv {ws ps zs : List Nat} (hl : Lst h ws ps 10) (hps : ∀ (j z : Nat), zs[j]? = some z → ∃ m v, h[m]? = some (pairO (4 * z + 1) v) ∧ ps[j]? = some (4 * start h m)) (hpl : ps.length = zs.length) (hus : used h ≤ 16777216) (hz : ∀ z ∈ zs, z < 12) (hu : zs.length ≤ used h) {q r : Nat} (hq : q < 12) (hr : Found q zs (fun f => ps.getD f 0) r) : Does S w0 h h sy sy 52 [4 * q + 1, hd ws 10] r where
  i85 := by omega
  fn := ⟨146, by decide +kernel, fun _ _ => by kernel_rfl, fun W cb M' A' c' k hb => assv_any k (by decide +kernel) hl hps hpl hz hu hq rfl hr⟩
  often := by decide +kernel
  n0 := by simp
  n1 := by simp
  le := by show least 52 ≤ ((2 : Nat) : Int); decide +kernel
  mo := by right; show ((2 : Nat) : Int) ≤ most 52; decide +kernel
  may := may2 (fix_may h q (by omega)) (hd_may hl hus 0)

/-- The law has gone on, and what else has stayed. -/
def AdvS (w0 : World) (S : Sto) (D : Nat) (W : World) (M : Nat → Prop) (h' : List Ob) (v : Value) (e : Ending) (w' : World) : Prop := e = .returned v ∧ ∃ M', LAt w0 S D w' M' h' [] ∧ Step M W M' w'

theorem ddo_atS {D : Nat} {W : World} {M : Nat → Prop} {h' : List Ob} (k : LAt w0 S D W M h []) {i v : Nat} {xs : List Nat} (d : Does S w0 h h' [] [] i xs v) (s : ByteArray) (hs : s = nm i) (vs : Array Value) (hvs : vs = (xs.map wV).toArray) (m : Nat) (hm : m = xs.length) :
    Calls Tryz.prog 26 #[.agg #[.pointer (some ⟨S.sb, 0, none⟩)], .string s, .slice (some ⟨W.heap.size, 0, none⟩) m m] (W.alloc (.cells vs 29)) (AdvS w0 S D W M h' (.int .u64 v)) := by
  subst hs hvs hm
  have hb : Below W.heap.size W (W.alloc (.cells (xs.map wV).toArray 29)) := (Below.refl _ _).alloc (Nat.le_refl _) _
  have k2 := k.below hb
  refine (ddo_any k2.st (Nat.le_of_eq k.base) (k.base ▸ k2.low) d (c := xs.length) (SlU.one_new (k.st.far (Nat.le_refl _)) _)).mono ?_
  rintro e w' ⟨rfl, M', k', s'⟩
  exact ⟨rfl, M', k2.step s' k', (Step.of_below M hb).trans s'⟩

/-- The pairs of numbers and places, behind a heap. -/
def prsO (h1 : List Ob) (zs : List Nat) : Nat → List Ob
  | 0 => h1
  | k + 1 => prsO h1 zs k ++ [pairO (4 * zs.getD k 0 + 1) (4 * k + 1)]
def prsW (h1 : List Ob) (zs : List Nat) (k : Nat) : List Nat := (List.range k).map fun j => 4 * used (prsO h1 zs j)
theorem prsO_used (h1 : List Ob) (zs : List Nat) : ∀ k, used (prsO h1 zs k) = used h1 + 3 * k
  | 0 => rfl
  | k + 1 => by
    show used (prsO h1 zs k ++ [_]) = _
    rw [used_app, prsO_used h1 zs k]; simp [pairO, Ob.size]; omega
theorem prsO_len (h1 : List Ob) (zs : List Nat) : ∀ k, (prsO h1 zs k).length = h1.length + k
  | 0 => rfl
  | k + 1 => by
    show (prsO h1 zs k ++ [_]).length = _
    rw [List.length_append, prsO_len h1 zs k]; simp; omega
theorem prsO_ext (h1 : List Ob) (zs : List Nat) (j : Nat) : ∀ k, j ≤ k → ∃ g, prsO h1 zs k = prsO h1 zs j ++ g
  | 0, hj => by obtain rfl : j = 0 := by omega
                exact ⟨[], by simp⟩
  | k + 1, hj => by
    by_cases e : j = k + 1
    · subst e; exact ⟨[], by simp⟩
    · obtain ⟨g, hg⟩ := prsO_ext h1 zs j k (by omega)
      exact ⟨g ++ [pairO (4 * zs.getD k 0 + 1) (4 * k + 1)], by show prsO h1 zs k ++ [_] = _; rw [hg, List.append_assoc]⟩
theorem prsO_at (h1 : List Ob) (zs : List Nat) (k j : Nat) (hj : j < k) (g : List Ob) : (prsO h1 zs k ++ g)[h1.length + j]? = some (pairO (4 * zs.getD j 0 + 1) (4 * j + 1)) ∧ 4 * start (prsO h1 zs k ++ g) (h1.length + j) = 4 * used (prsO h1 zs j) := by
  obtain ⟨g2, hg⟩ := prsO_ext h1 zs (j + 1) k (by omega)
  have hl := prsO_len h1 zs j
  have e : prsO h1 zs k ++ g = (prsO h1 zs j ++ [pairO (4 * zs.getD j 0 + 1) (4 * j + 1)]) ++ (g2 ++ g) := by
    rw [hg, List.append_assoc]; rfl
  rw [e]
  refine ⟨?_, ?_⟩
  · rw [List.getElem?_append_left (by simp; omega), ← hl]; simp
  · rw [start_app _ _ _ (by simp; omega), ← hl, start_end]

end

/-- The calls of PrimFinds: xw the list, ps the pairs, yw their list; tl the list's tails. -/
structure FindsK (w0 : World) (S : Sto) (D : Nat) (zs : List Nat) (q : Nat) (hp : Nat → List Ob) (h3 : List Ob) (xw yw mw qw : Nat) (ps : List Nat) (tl : Nat → Nat) : Prop where
  pl : ps.length = zs.length
  list : ∀ (W : World) (M : Nat → Prop) (v : Value), LAt w0 S D W M [] [] → IntsR W v (zs.map fun (z : Nat) => (z : Int)) → Calls Tryz.prog 25 #[.agg #[.pointer (some ⟨S.sb, 0, none⟩)], v] W (AdvS w0 S D W M (hp 0) (.int .u64 xw))
  cons : ∀ (W : World) (M : Nat → Prop) (j z : Nat), zs[j]? = some z → LAt w0 S D W M (hp j) [] → Calls Tryz.prog 32 #[.pointer (some ⟨S.sb, 0, none⟩), .int .u64 ((z : Int) * 4 + 1), .int .u64 ((j : Int) * 4 + 1)] W (AdvS w0 S D W M (hp (j + 1)) (.tuple #[.int .u64 (ps.getD j 0 : Nat), .bool true]))
  listY : ∀ (W : World) (M : Nat → Prop) (A : Option Addr) (c : Nat), LAt w0 S D W M (hp zs.length) [] → SlU W M A ps → Calls Tryz.prog 33 #[.pointer (some ⟨S.sb, 0, none⟩), .slice A zs.length c] W (AdvS w0 S D W M h3 (.tuple #[.int .u64 yw, .bool true]))
  memv : ∀ (W : World) (M : Nat → Prop), LAt w0 S D W M h3 [] → Calls Tryz.prog 26 #[.agg #[.pointer (some ⟨S.sb, 0, none⟩)], .string ⟨#[109, 101, 109, 118]⟩, .slice (some ⟨W.heap.size, 0, none⟩) 2 2] (W.alloc (.cells #[.int .u64 ((q : Int) * 4 + 1), .int .u64 xw] 29)) (AdvS w0 S D W M h3 (.int .u64 mw))
  assv : ∀ (W : World) (M : Nat → Prop), LAt w0 S D W M h3 [] → Calls Tryz.prog 26 #[.agg #[.pointer (some ⟨S.sb, 0, none⟩)], .string ⟨#[97, 115, 115, 118]⟩, .slice (some ⟨W.heap.size, 0, none⟩) 2 2] (W.alloc (.cells #[.int .u64 ((q : Int) * 4 + 1), .int .u64 yw] 29)) (AdvS w0 S D W M h3 (.int .u64 qw))
  tail : ∀ (W : World) (M : Nat → Prop) (f : Nat), f ≤ zs.length → LAt w0 S D W M h3 [] → Calls Tryz.prog 26 #[.agg #[.pointer (some ⟨S.sb, 0, none⟩)], .string ⟨#[108, 105, 115, 116, 45, 116, 97, 105, 108]⟩, .slice (some ⟨W.heap.size, 0, none⟩) 2 2] (W.alloc (.cells #[.int .u64 xw, .int .u64 ((f : Int) * 4 + 1)] 29)) (AdvS w0 S D W M h3 (.int .u64 (tl f)))
  foundM : Found q zs tl mw
  foundA : Found q zs (fun f => ps.getD f 0) qw

theorem fix_cast' (k : Nat) : ((4 * k + 1 : Nat) : Int) = (k : Int) * 4 + 1 := by omega
theorem placeN_small (z : Nat) (hz : z < 1000) : placeN (z : Int) 1000 = z := by
  have e : (z : Int).tmod (1000 : Nat) = z := Int.tmod_eq_of_lt (by omega) (by omega)
  unfold placeN
  rw [e, if_neg (by omega)]
  omega
theorem fixW_small (zs : List Nat) (hz : ∀ z ∈ zs, z < 12) : fixW (zs.map fun (z : Nat) => (z : Int)) = zs.map fun z => 4 * z + 1 := by
  unfold fixW
  rw [List.map_map]
  refine List.map_congr_left fun z hm => ?_
  show 4 * placeN (z : Int) 1000 + 1 = _
  rw [placeN_small z (by have := hz z hm; omega)]

theorem found_ex (q : Nat) (zs : List Nat) (at_ : Nat → Nat) : ∃ r, Found q zs at_ r := by
  by_cases h : ∃ f : Nat, zs[f]? = some q
  · obtain ⟨f, hf⟩ := h
    have gen : ∀ n : Nat, ∀ f, f ≤ n → zs[f]? = some q → ∃ f : Nat, zs[f]? = some q ∧ ∀ j : Nat, j < f → zs[j]? ≠ some q := by
      intro n
      induction n with
      | zero => intro f h1 h2; exact ⟨f, h2, fun j hj => by omega⟩
      | succ n ih =>
        intro f h1 h2
        by_cases h3 : ∃ j, j < f ∧ zs[j]? = some q
        · obtain ⟨j, hj, h4⟩ := h3
          exact ih j (by omega) h4
        · exact ⟨f, h2, fun j hj e => h3 ⟨j, hj, e⟩⟩
    obtain ⟨f, h1, h2⟩ := gen f f (Nat.le_refl _) hf
    exact ⟨at_ f, .inl ⟨f, h1, h2, rfl⟩⟩
  · exact ⟨2, .inr ⟨fun j e => h ⟨j, e⟩, rfl⟩⟩

theorem finds_calls {w0 : World} {S : Sto} {D : Nat} {zs : List Nat} {q : Nat} (hsz : S.sz = 3000) (hB : S.B = w0.heap.size) (hz : ∀ z ∈ zs, z < 12) (hn : zs.length ≤ 50) (hq : q < 12) :
    ∃ hp h3 xw yw mw qw ps tl, FindsK w0 S D zs q hp h3 xw yw mw qw ps tl := by
  obtain ⟨X, hX⟩ : ∃ X, (zs.map fun z => 4 * z + 1) = X := ⟨_, rfl⟩
  have hXl : X.length = zs.length := by rw [← hX, List.length_map]
  obtain ⟨h1, hh1⟩ : ∃ h1, (chainO [] 10 X).1 = h1 := ⟨_, rfl⟩
  obtain ⟨ws, hws⟩ : ∃ ws, (chainO [] 10 X).2 = ws := ⟨_, rfl⟩
  have l1 : Lst h1 ws X 10 := by rw [← hh1, ← hws]; exact chainO_lst [] 10 X
  have u1 : used h1 = 1 + 3 * zs.length := by rw [← hh1, chainO_used, hXl]; rfl
  obtain ⟨ps, hps⟩ : ∃ ps, prsW h1 zs zs.length = ps := ⟨_, rfl⟩
  have hpl : ps.length = zs.length := by rw [← hps]; simp [prsW]
  have hpg : ∀ j, j < zs.length → ps[j]? = some (4 * used (prsO h1 zs j)) := fun j hj => by
    rw [← hps]; unfold prsW
    rw [List.getElem?_map, List.getElem?_range hj]; rfl
  have up := prsO_used h1 zs
  obtain ⟨g, hg⟩ := chainO_ext (prsO h1 zs zs.length) 10 ps
  have l3 : Lst (chainO (prsO h1 zs zs.length) 10 ps).1 (chainO (prsO h1 zs zs.length) 10 ps).2 ps 10 := chainO_lst _ _ _
  have u3 : used (chainO (prsO h1 zs zs.length) 10 ps).1 = used (prsO h1 zs zs.length) + 3 * zs.length := by rw [chainO_used, hpl]
  obtain ⟨gp, hgp⟩ := prsO_ext h1 zs 0 zs.length (by omega)
  have lx : Lst (chainO (prsO h1 zs zs.length) 10 ps).1 ws X 10 := by
    rw [hg, hgp]; exact (l1.grow (g := gp)).grow
  have hat : ∀ (j z : Nat), zs[j]? = some z → ∃ m v, (chainO (prsO h1 zs zs.length) 10 ps).1[m]? = some (pairO (4 * z + 1) v) ∧ ps[j]? = some (4 * start (chainO (prsO h1 zs zs.length) 10 ps).1 m) := by
    intro j z hj
    have hjl := (List.getElem?_eq_some_iff.1 hj).1
    obtain ⟨e1, e2⟩ := prsO_at h1 zs zs.length j hjl g
    rw [← hg] at e1 e2
    have ez : zs.getD j 0 = z := by rw [List.getD_eq_getElem?_getD, hj]; rfl
    rw [ez] at e1
    exact ⟨_, _, e1, by rw [e2]; exact hpg j hjl⟩
  have hpm : ∀ h', used h' ≤ 16777216 → (∃ g', h' = prsO h1 zs zs.length ++ g') → MayAll h' ps := by
    rintro h' hu ⟨g', rfl⟩ x hx
    obtain ⟨j, hj, rfl⟩ := List.getElem_of_mem hx
    have e := hpg j (by omega)
    rw [List.getElem?_eq_getElem hj] at e
    obtain ⟨e1, e2⟩ := prsO_at h1 zs zs.length j (by omega) g'
    rw [Option.some.inj e, ← e2]
    exact obj_may e1 hu
  generalize hh3 : (chainO (prsO h1 zs zs.length) 10 ps).1 = h3 at *
  generalize hyw : (chainO (prsO h1 zs zs.length) 10 ps).2 = wy at *
  obtain ⟨mw, hmw⟩ := found_ex q zs fun f => hd (ws.drop f) 10
  obtain ⟨qw, hqw⟩ := found_ex q zs fun f => ps.getD f 0
  have un := up zs.length
  refine ⟨prsO h1 zs, h3, hd ws 10, hd wy 10, mw, qw, ps, fun f => hd (ws.drop f) 10, ⟨hpl, fun W M v L hi => ?_, fun W M j z hj L => ?_, fun W M A c L hs => ?_, fun W M L => ?_, fun W M L => ?_, fun W M f hf L => ?_, hmw, hqw⟩⟩
  · have e := dlist_any L.st hi (by rw [List.length_map]; omega) (by rw [hsz, List.length_map]; have : used ([] : List Ob) = 1 := rfl; omega)
    rw [fixW_small zs hz, hX, hh1, hws] at e
    refine e.mono ?_
    rintro e w' ⟨rfl, M', k', s'⟩
    exact ⟨rfl, M', L.step s' k', s'⟩
  · have hjl := (List.getElem?_eq_some_iff.1 hj).1
    have hz12 := hz z (List.mem_of_getElem? hj)
    have uj := up j
    have e := cons_at L.st (a := 4 * z + 1) (b := 4 * j + 1) (may2 (fix_may _ z (by omega)) (fix_may _ j (by omega))) (by omega)
    rw [fix_cast', fix_cast'] at e
    refine e.mono ?_
    rintro e w' ⟨rfl, M', k', s'⟩
    have ez : zs.getD j 0 = z := by rw [List.getD_eq_getElem?_getD, hj]; rfl
    refine ⟨by rw [List.getD_eq_getElem?_getD, hpg j hjl]; rfl, M', L.step s' ?_, s'⟩
    show SAt w' S M' (prsO h1 zs j ++ [pairO (4 * zs.getD j 0 + 1) (4 * j + 1)]) []
    rw [ez]; exact k'
  · have e := list_at L.st (c := c) hs (hpm _ (by omega) ⟨[], by simp⟩) (by rw [hpl, hsz]; omega)
    rw [hpl, hh3, hyw] at e
    refine e.mono ?_
    rintro e w' ⟨rfl, M', k', s'⟩
    exact ⟨rfl, M', L.step s' k', s'⟩
  · exact ddo_atS L (does_memv (hX ▸ lx) (by omega) hz (by omega) hq hmw) _ (by kernel_rfl) _ (by simp only [List.map_cons, List.map_nil, wV, fix_cast']) 2 rfl
  · exact ddo_atS L (does_assv l3 hat hpl (by omega) hz (by omega) hq hqw) _ (by kernel_rfl) _ (by simp only [List.map_cons, List.map_nil, wV, fix_cast']) 2 rfl
  · exact ddo_atS L (does_ltail lx (by omega) (n := f) (by omega) (by omega) (by omega)) _ (by kernel_rfl) _ (by simp only [List.map_cons, List.map_nil, wV, fix_cast']) 2 rfl

end Go.Proofs.YtafignheedbnbaaGreatDoor

/-
  The walk of tandemlaw12.PrimFinds.
-/
namespace Go.Proofs.YtafignheedbnbaaGreatDoor
open Go.RowKit Go.BigFrame
set_option linter.unusedSimpArgs false
set_option linter.unusedVariables false

theorem infoIntF : (Tryz.prog.info? 3).map (fun i => (i.zero, i.size, i.bytes)) = some (some (.int .i64 0), 1, 8) := by kernel_rfl

/-- A natural number as an int. -/
def iV (n : Nat) : Value := .int .i64 (n : Int)
def RowI (w0 : World) (qs : List Nat) (v : Value) (w : World) : Prop := w.ownsRow w0.heap.size 3 1 v qs.length (qs.map iV)

/-- Small numbers, read in place: a block between B0 and B1, not the store's. -/
def SmR (W : World) (M : Nat → Prop) (B1 : Nat) (A : Option Addr) (qs : List Nat) : Prop :=
  0 < qs.length → ∃ b, A = some ⟨b, 0, none⟩ ∧ b < B1 ∧ b < W.heap.size ∧ ¬ M b ∧ ∀ j q : Nat, qs[j]? = some q → W.cell? ⟨b, j, none⟩ = some (.int .i64 q)
theorem SmR.step {W W' : World} {M M' : Nat → Prop} {B1 : Nat} {A : Option Addr} {qs : List Nat} (h : SmR W M B1 A qs) (s : Step M W M' W') : SmR W' M' B1 A qs := fun h0 => by
  obtain ⟨b, h1, h2, h3, h4, h5⟩ := h h0
  exact ⟨b, h1, h2, Nat.lt_of_lt_of_le h3 s.turns.size, s.far h3 h4, fun j q hq => (s.cell h3 h4).trans (h5 j q hq)⟩
theorem SmR.grown {W W' : World} {M : Nat → Prop} {B1 : Nat} {A : Option Addr} {qs : List Nat} (h : SmR W M B1 A qs) {row : Option Nat} (hg : W.grownBy W' row) (hr : ∀ g, row = some g → B1 ≤ g) : SmR W' M B1 A qs := fun h0 => by
  obtain ⟨b, h1, h2, h3, h4, h5⟩ := h h0
  refine ⟨b, h1, h2, Nat.lt_of_lt_of_le h3 hg.size, h4, fun j q hq => ?_⟩
  rw [hg.cell_far ⟨b, j, none⟩ h3 fun e => by have := hr b e.symm; omega]
  exact h5 j q hq
theorem LAt.grown {S : Sto} {w0 : World} {h : List Ob} {sy : List (ByteArray × Nat)} {D : Nat} {W W' : World} {M : Nat → Prop} (k : LAt w0 S D W M h sy) {row : Option Nat} (hg : W.grownBy W' row) (hr : ∀ g, row = some g → w0.heap.size ≤ g ∧ D < g ∧ ¬ M g) : LAt w0 S D W' M h sy :=
  ⟨k.st.kept hg.size fun b e => hg.block b (k.st.lt b e).2 fun e2 => (hr b e2.symm).2.2 e, k.base, k.low.grown hg k.low.size fun g e => (hr g e).1, (hg.block D (ph_lt k.desk) fun e2 => by have := hr D e2.symm; omega).trans k.desk, k.far⟩

theorem RowI.form {w0 w : World} {qs : List Nat} {v : Value} (h : RowI w0 qs v w) (M : Nat → Prop) (hM : ∀ b, M b → b < w0.heap.size) : ∃ A c, v = .slice A qs.length c ∧ SmR w M w.heap.size A qs := by
  unfold RowI at h
  by_cases h0 : 0 < qs.length
  · obtain ⟨G, cap, e, hGB, hGl⟩ := h.form h0
    subst e
    refine ⟨some ⟨G, 0, none⟩, cap, rfl, fun _ => ⟨G, rfl, hGl, hGl, fun hm => by have := hM G hm; omega, fun j x hx => ?_⟩⟩
    have e := h.cells (g := G) rfl j (iV x) (by rw [List.getElem?_map, hx]; rfl)
    rw [show (⟨G, 0, none⟩ : Addr).add j = ⟨G, j, none⟩ from by unfold Addr.add; split <;> simp_all] at e
    exact e
  · have hq : qs = [] := List.eq_nil_of_length_eq_zero (by omega)
    subst hq
    rcases h.2 with ⟨rfl, -⟩ | ⟨g, cap, cur, rfl, -⟩
    · exact ⟨none, 0, rfl, fun h => by simp at h⟩
    · exact ⟨_, cap, rfl, fun h => by simp at h⟩

theorem SmR.ints {W : World} {M : Nat → Prop} {B1 : Nat} {A : Option Addr} {qs : List Nat} {c : Nat} (h : SmR W M B1 A qs) (hn : qs.length ≤ 50) : IntsR W (.slice A qs.length c) (qs.map fun (z : Nat) => (z : Int)) := by
  refine ⟨A, c, by rw [List.length_map], by rw [List.length_map]; omega, fun h0 => ?_⟩
  rw [List.length_map] at h0
  obtain ⟨b, h1, h2, h3, h4, h5⟩ := h h0
  refine ⟨b, 0, h1, h3, fun j hj => ?_⟩
  rw [List.length_map] at hj
  rw [Nat.zero_add, h5 j qs[j] (List.getElem?_eq_getElem hj)]
  simp [List.getD, hj]

/-- Words in a row of the law's own, apart from the store and the small numbers. -/
def RowU (W : World) (M : Nat → Prop) (B1 : Nat) (v : Value) (xs : List Nat) : Prop := W.ownsRow B1 29 1 v xs.length (xs.map wV) ∧ ∀ g, v.ownBlock = some g → ¬ M g
theorem RowU.step {W W' : World} {M M' : Nat → Prop} {B1 : Nat} {v : Value} {xs : List Nat} (h : RowU W M B1 v xs) (s : Step M W M' W') : RowU W' M' B1 v xs :=
  ⟨ph_kept h.1 fun b e => s.keeps (ph_own h.1 e).2.1 (h.2 b e), fun g e => s.far (ph_own h.1 e).2.1 (h.2 g e)⟩
theorem RowU.form {W : World} {M : Nat → Prop} {B1 : Nat} {v : Value} {xs : List Nat} (h : RowU W M B1 v xs) : ∃ A c, v = .slice A xs.length c ∧ SlU W M A xs := by
  obtain ⟨h, hf⟩ := h
  by_cases h0 : 0 < xs.length
  · obtain ⟨G, cap, e, hGB, hGl⟩ := h.form h0
    subst e
    refine ⟨some ⟨G, 0, none⟩, cap, rfl, .inr ⟨G, rfl, hGl, hf G rfl, fun j x hx => ?_⟩⟩
    have e := h.cells (g := G) rfl j (wV x) (by rw [List.getElem?_map, hx]; rfl)
    rw [show (⟨G, 0, none⟩ : Addr).add j = ⟨G, j, none⟩ from by unfold Addr.add; split <;> simp_all] at e
    exact e
  · have hq : xs = [] := List.eq_nil_of_length_eq_zero (by omega)
    subst hq
    rcases h.2 with ⟨rfl, -⟩ | ⟨g, cap, cur, rfl, -⟩
    · exact ⟨none, 0, rfl, .inl rfl⟩
    · exact ⟨_, cap, rfl, .inl rfl⟩

theorem take_snoc {α : Type} {l : List α} {k : Nat} {x : α} (h : l[k]? = some x) : l.take (k + 1) = l.take k ++ [x] := by
  have hyk := (List.getElem?_eq_some_iff.1 h)
  rw [List.take_succ_eq_append_getElem hyk.1, hyk.2]

/-- What the loop downward has found. -/
def First (qs : List Nat) (q j : Nat) (x : Int) : Prop := (x = -1 ∧ ∀ l, j ≤ l → qs[l]? ≠ some q) ∨ ∃ m : Nat, x = m ∧ qs[m]? = some q ∧ ∀ l, j ≤ l → l < m → qs[l]? ≠ some q

set_option maxRecDepth 100000 in
set_option maxHeartbeats 8000000 in
theorem finds_any {w0 : World} {p : Option Addr} {n0 c : Nat} {zs0 : List Int} (qv : Int) (ha : IntsR w0 (.slice p n0 c) zs0) (hc : n0 ≤ c) :
    Calls Tryz.prog 8 #[.slice p n0 c, .int .i64 qv] w0 fun e w' => e = .returned (.bool true) ∧ Below w0.heap.size w0 w' := by
  have hbig : n0 ≤ 17592186043904 := by obtain ⟨p', c', e, h1, h2⟩ := ha; cases e; exact h1
  obtain ⟨iI, hiI, hI0, hI1, hI2⟩ := info_parts infoIntF
  obtain ⟨iW, hiW, hW0, hW1, hW2⟩ := info_parts ph_infoW
  have HA := hide ha
  clear ha
  go_enter Tryz.func8, Tryz.ntmps8
  go_upto_if 24 with fail
  go_cut [0] from 25 to 26 (fun s0 wx => ∃ (n : Nat) (zs : List Int), s0 = .slice p n c ∧ wx = w0 ∧ n ≤ 50 ∧ IntsR w0 (.slice p n c) zs)
  case first =>
    by_cases hl : 50 < n0
    · have hl' : (50 : Int) < n0 := by omega
      have hl2 : (50 : Int) ≤ c := by omega
      go_wp2
      all_goals go_meet
      exact ⟨50, _, rfl, rfl, by omega, (HA.out.take hl).1⟩
    · have hl' : ¬ (50 : Int) < n0 := by omega
      go_wp2
      all_goals go_meet
      exact ⟨n0, _, rfl, rfl, by omega, HA.out⟩
  case rest =>
    obtain ⟨n, zs, rfl, rfl, hn, hr⟩ := hcut
    have HR := hide hr
    have hzl : zs.length = n := by obtain ⟨p', c', e, h1, h2⟩ := hr; cases e; rfl
    have HN := hide hzl
    clear hr hzl hbig hc
    go_wp2_with (go_at_call 12; fail)
    refine (vnew_any _ 3000 (by omega) (by omega)).mono ?_
    rintro e w1 ⟨S, M, rfl, hsz, hB, k1, hb1⟩
    have H1 := hide (And.intro hsz (And.intro hB (And.intro k1 hb1)))
    clear hsz hB k1 hb1
    go_upto_region 7 with fail
    refine genW (fun U => ∃ M, LAt wc S w1.heap.size U M [] []) ?_ ?_
    · obtain ⟨hsz, hB, k1, hb1⟩ := H1.out
      have hb : Below w1.heap.size w1 (w1.alloc (.cells #[.pointer (some ⟨S.sb, 0, none⟩)] 54)) := (Below.refl _ _).alloc (Nat.le_refl _) _
      exact ⟨M, k1.below hb, hB, hb1.trans (hb.mono hb1.size), Deep.blk_alloc_new _ _, k1.far (Nat.le_refl _)⟩
    intro U hU
    obtain ⟨D, hD⟩ : ∃ D, w1.heap.size = D := ⟨_, rfl⟩
    rw [hD] at hU ⊢
    obtain ⟨M0, L0⟩ := hU
    obtain ⟨qs, hqs⟩ : ∃ qs, zs.map (fun z => placeN z 12) = qs := ⟨_, rfl⟩
    have hql : qs.length = n := by rw [← hqs, List.length_map]; exact HN.out
    have hq12 : ∀ z ∈ qs, z < 12 := by
      rw [← hqs]; intro z hz
      obtain ⟨x, -, rfl⟩ := List.mem_map.1 hz
      exact placeN_lt x 12 (by omega)
    have hpk := placeN_lt qv 12 (by omega)
    have HPk := hide (fun w => place_any qv 12 w (by omega) (by omega))
    obtain ⟨q, hq⟩ : ∃ q, placeN qv 12 = q := ⟨_, rfl⟩
    rw [hq] at hpk HPk
    obtain ⟨hp, h3, xw, yw, mw, qw, ps, tl, T⟩ := finds_calls (D := D) H1.out.1 H1.out.2.1 hq12 (by omega) hpk
    have HT := hide T
    have HQ := hide (And.intro hqs (And.intro hql hq12))
    have HL0 := hide L0
    clear T L0 hq hD hqs hql hq12
    go_wp2
    go_loopw [8, 9] (fun s i wr => ∃ (j : Nat), j ≤ n ∧ i = .int .i64 j ∧ RowI U (qs.take j) s wr ∧ (∃ A cp, s = .slice A j cp) ∧ Below U.heap.size U wr) (fun _ i _ => n - (intOf i).toNat)
    case atStart => exact ⟨0, Nat.zero_le _, rfl, ⟨by simp, .inl ⟨rfl, by simp⟩⟩, ⟨_, _, rfl⟩, Below.refl _ _⟩
    case round =>
      obtain ⟨j, hj, rfl, hrow, ⟨sA, scp, rfl⟩, hbw⟩ := hrel
      by_cases hlt : j < n
      · obtain ⟨b0, o0, hp, hbl, hcs⟩ : ∃ b o, p = some ⟨b, o, none⟩ ∧ b < wc.heap.size ∧ ∀ j, j < zs.length → wc.cell? ⟨b, o + j, none⟩ = some (.int .i64 (zs.getD j 0)) := by
          obtain ⟨p', c', e, -, h2⟩ := HR.out
          cases e
          exact h2 (by have := HN.out; omega)
        subst hp
        obtain ⟨z, hz⟩ : ∃ z, zs.getD j 0 = z := ⟨_, rfl⟩
        have hlow := HL0.out.low.trans (hbw.mono HL0.out.low.size)
        have hc := (hlow.cell (p := ⟨b0, o0 + j, none⟩) hbl).trans (hcs j (by have := HN.out; omega))
        rw [hz] at hc
        have HPz := hide (fun w => place_any z 12 w (by omega) (by omega))
        have hqj : qs[j]? = some (placeN z 12) := by
          rw [← HQ.out.1, List.getElem?_map, List.getElem?_eq_getElem (by have := HN.out; omega)]
          rw [List.getD_eq_getElem?_getD, List.getElem?_eq_getElem (by have := HN.out; omega)] at hz
          rw [← hz]; rfl
        obtain ⟨pz, hpz⟩ : ∃ pz, placeN z 12 = pz := ⟨_, rfl⟩
        rw [hpz] at HPz hqj
        have hl3 : (qs.take j).length = j := by rw [List.length_take]; have := HQ.out.2.1; omega
        have hown := ph_kept (w' := wr.alloc (.cells #[.int .i64 (pz : Int)] 3)) hrow fun b e => Below.heap_alloc wr _ b (ph_own hrow e).2.1
        rw [hl3] at hown
        have HO := hide hown
        have HX := hide (And.intro hqj hbw)
        have HC3 := hide (show (wr.alloc (.cells #[.int .i64 (pz : Int)] 3)).cell? ⟨wr.heap.size, 0, none⟩ = some (.int .i64 (pz : Int)) by simp)
        have HB3 := hide (show U.heap.size ≤ (wr.alloc (.cells #[.int .i64 (pz : Int)] 3)).heap.size by have := hbw.size; simp; omega)
        have hk1 : 0 < j + 1 := Nat.succ_pos j
        have HMX := hide (And.intro (show j + 1 ≤ maxLen by simp only [maxLen]; omega) (show (j + 1) * 8 ≤ 140737488355328 by omega))
        have hlt' : (j : Int) < n := by omega
        have hk0 : (0 : Int) ≤ j := by omega
        clear hcs hz hpz hown hl3 hrow hbw hlow hqj
        go_wp2_with (go_at_call 28; fail)
        refine (HPz.out _).mono ?_
        rintro e u3 ⟨rfl, rfl⟩
        clear hc
        go_wp2_with (at_builtin; refine wpList_append1 _ rfl (.tmp 45) (.tmp 51) 52 rfl U.heap.size 3 iI _ 8 Tryz.underlying52 hiI hI0 hI1 hI2 rfl (.slice sA j scp) j _ rfl HO.out wr.heap.size _ rfl HC3.out rfl HMX.out.1 HMX.out.2 HB3.out ?_; intro v4 w4 hown4 hgrow4; obtain ⟨G, cap, hform, hGB, hGl⟩ := hown4.form hk1; subst hform)
        refine ⟨⟨j + 1, by omega, by go_num, ?_, ⟨_, _, rfl⟩, below_own (HX.out.2.alloc HX.out.2.size _) hgrow4 HO.out HB3.out⟩, by simp [intOf]; omega⟩
        show World.ownsRow _ _ _ _ _ (qs.take (j + 1)).length _
        rw [take_snoc HX.out.1, List.map_append, List.length_append, List.length_take, Nat.min_eq_left (by have := HQ.out.2.1; omega)]
        exact hown4
      · obtain rfl : j = n := by omega
        have L1 := HL0.out.below hbw
        have hM0 : ∀ b, M0 b → b < U.heap.size := fun b e => (HL0.out.st.lt b e).2
        have htk : qs.take j = qs := List.take_of_length_le (by have := HQ.out.2.1; omega)
        rw [htk] at hrow
        obtain ⟨A1, c1, e1, hs1⟩ := hrow.form M0 hM0
        rw [HQ.out.2.1] at e1
        cases e1
        have hin := hs1.ints (c := scp) (by have := HQ.out.2.1; omega)
        rw [HQ.out.2.1] at hin
        obtain ⟨d0, dl⟩ := L1.dcell
        have HL1 := hide (And.intro L1 (And.intro hs1 hin))
        clear L1 hM0 htk hrow hs1 hin hbw hlt
        go_wp2_with (go_at_call 25; fail)
        refine (HT.out.list _ _ _ HL1.out.1 HL1.out.2.2).mono ?_
        rintro e u2 ⟨rfl, M2, L2, s2⟩
        have hs2 := (HL1.out.2.1.step s2)
        obtain ⟨B1, hB1⟩ : ∃ B1, wr.heap.size = B1 := ⟨_, rfl⟩
        have hBl : B1 ≤ u2.heap.size := by rw [← hB1]; exact s2.turns.size
        have hDB : D < B1 := by rw [← hB1]; exact dl
        have hwB : wc.heap.size ≤ B1 := by rw [← hB1]; exact HL1.out.1.low.size
        rw [hB1] at hs2
        have HL2 := hide (And.intro L2 (And.intro hs2 (And.intro hBl (And.intro hDB hwB))))
        clear d0 dl L2 s2 hs2 hBl hDB hwB hB1
        go_wp2
        go_loopw [11, 12] (fun v i wr => ∃ (m : Nat) (M' : Nat → Prop), m ≤ j ∧ i = .int .i64 m ∧ RowU wr M' B1 v (ps.take m) ∧ (∃ A cp, v = .slice A m cp) ∧ LAt wc S D wr M' (hp m) [] ∧ SmR wr M' B1 sA qs ∧ B1 ≤ wr.heap.size) (fun _ i _ => j - (intOf i).toNat)
        case atStart => exact ⟨0, M2, Nat.zero_le _, rfl, ⟨⟨by simp, .inl ⟨rfl, by simp⟩⟩, fun g e => by simp [Value.ownBlock] at e⟩, ⟨_, _, rfl⟩, HL2.out.1, HL2.out.2.1, HL2.out.2.2.1⟩
        case round =>
          obtain ⟨m, M3, hm, rfl, hrow, ⟨pA, pcp, rfl⟩, L3, hsm, hBs⟩ := hrel
          by_cases hlt : m < j
          · obtain ⟨z, hz⟩ : ∃ z, qs[m]? = some z := ⟨_, List.getElem?_eq_getElem (by have := HQ.out.2.1; omega)⟩
            obtain ⟨pv, hpv⟩ : ∃ pv, ps[m]? = some pv := ⟨_, List.getElem?_eq_getElem (by have := HQ.out.2.1; have := HT.out.pl; omega)⟩
            have hpg : ps.getD m 0 = pv := by rw [List.getD_eq_getElem?_getD, hpv]; rfl
            have hz12 := HQ.out.2.2 z (List.mem_of_getElem? hz)
            obtain ⟨b0, rfl, hb1, hb2, hb3, hcs⟩ := hsm (by have := HQ.out.2.1; omega)
            have hc := hcs m z hz
            have HC := hide (HT.out.cons _ _ m z hz L3)
            rw [hpg] at HC
            have HX := hide (And.intro hpv (And.intro hrow hsm))
            have hlt' : (m : Int) < j := by omega
            have hm0 : (0 : Int) ≤ m := by omega
            have hz0 : (0 : Int) ≤ z := by omega
            have hz1 : (z : Int) < 12 := by omega
            clear hcs hz hpv hpg hrow hsm L3 hb1 hb3 hz12
            go_wp2_with (go_at_call 32; fail)
            refine HC.out.mono ?_
            rintro e u3 ⟨rfl, M4, L4, s4⟩
            have hrow4 := HX.out.2.1.step s4
            have hsm4 := HX.out.2.2.step s4
            have hl3 : (ps.take m).length = m := by rw [List.length_take]; have := HQ.out.2.1; have := HT.out.pl; omega
            have hown := ph_kept (w' := u3.alloc (.cells #[.int .u64 (pv : Int)] 29)) hrow4.1 fun b e => Below.heap_alloc u3 _ b (ph_own hrow4.1 e).2.1
            rw [hl3] at hown
            have HO := hide hown
            have HB3 := hide (show B1 ≤ (u3.alloc (.cells #[.int .u64 (pv : Int)] 29)).heap.size by have := s4.turns.size; simp; omega)
            have HX4 := hide (And.intro L4 (And.intro hrow4 hsm4))
            have HON := hide (show ∀ u ∈ [Value.int .u64 (pv : Int)], u.oneCell' = true by intro u hu; simp at hu; subst hu; rfl)
            have hk1 : 0 < m + 1 := Nat.succ_pos m
            have HMX := hide (And.intro (show m + 1 ≤ maxLen by simp only [maxLen]; omega) (show (m + 1) * 8 ≤ 140737488355328 by omega))
            clear hc hrow4 hsm4 L4 s4 hl3 hown hz0 hz1 hb2 hBs
            go_wp2_with (at_builtin; refine wpList_append_own_at _ rfl (.tmp 80) (.tmp 82) 66 rfl B1 29 iW _ 1 8 Tryz.underlying66 hiW hW0 hW1 hW2 rfl (by decide) (.slice pA m pcp) m _ rfl HO.out ⟨u3.heap.size, 0, none⟩ 1 1 [.int .u64 (pv : Int)] rfl rfl (cell_one_new _ _ _) HON.out HMX.out.1 HMX.out.2 HB3.out ?_; intro v4 w4 hown4 hgrow4 _ hloc4; obtain ⟨G, cap, hform, hGB, hGl⟩ := hown4.form hk1; subst hform)
            have e80 : ∀ g, (Value.slice pA m pcp).ownBlock = some g → B1 ≤ g ∧ g < u3.heap.size ∧ ¬ M4 g := fun g e => ⟨(ph_own HX4.out.2.1.1 e).1, (ph_own HX4.out.2.1.1 e).2.1, HX4.out.2.1.2 g e⟩
            have L5 := (HX4.out.1.below ((Below.refl _ _).alloc (Nat.le_refl _) (.cells #[.int .u64 (pv : Int)] 29))).grown hgrow4 fun g e => ⟨Nat.le_trans HL2.out.2.2.2.2 (e80 g e).1, Nat.lt_of_lt_of_le HL2.out.2.2.2.1 (e80 g e).1, (e80 g e).2.2⟩
            have hsm5 := (HX4.out.2.2.step (Step.of_below M4 ((Below.refl _ _).alloc (Nat.le_refl _) (.cells #[.int .u64 (pv : Int)] 29)))).grown hgrow4 fun g e => (e80 g e).1
            refine ⟨⟨m + 1, M4, by omega, by go_num, ⟨?_, fun g e => ?_⟩, ⟨_, _, rfl⟩, L5, hsm5, Nat.le_trans HB3.out hgrow4.size⟩, by simp [intOf]; omega⟩
            · show World.ownsRow _ _ _ _ _ (ps.take (m + 1)).length _
              rw [take_snoc HX.out.1, List.map_append, List.length_append, List.length_take, Nat.min_eq_left (by have := HQ.out.2.1; have := HT.out.pl; omega)]
              exact hown4
            · rcases hloc4 with hl | hl
              · exact (e80 g (hl ▸ e)).2.2
              · rw [hl] at e
                have e2 : (u3.alloc (.cells #[.int .u64 (pv : Int)] 29)).heap.size = g := Option.some.inj e
                have e3 : u3.heap.size + 1 = g := by simpa using e2
                exact HX4.out.1.st.far (by omega)
          · obtain rfl : m = j := by omega
            have hpl : ps.length = m := by have := HQ.out.2.1; have := HT.out.pl; omega
            have htk : ps.take m = ps := List.take_of_length_le (by omega)
            rw [htk] at hrow
            obtain ⟨A2, c2, e2, hs3⟩ := hrow.form
            rw [hpl] at e2
            cases e2
            have HY := fun A c hs => HT.out.listY wr M3 A c (by rw [HQ.out.2.1]; exact L3) hs
            rw [HQ.out.2.1] at HY
            have HC := hide (HY pA pcp hs3)
            have HX := hide (And.intro hs3 hsm)
            clear hrow hsm L3 hs3 htk HY hBs hlt
            go_wp2_with (go_at_call 33; fail)
            refine HC.out.mono ?_
            rintro e u4 ⟨rfl, M4, L4, s4⟩
            have hs4 := HX.out.1.step s4
            have hsm4 := HX.out.2.step s4
            have HX4 := hide (And.intro L4 (And.intro hs4 (And.intro hsm4 hpl)))
            clear hs4 hsm4 L4 s4 hpl
            go_wp2_with (go_at_call 28; fail)
            refine (HPk.out _).mono ?_
            rintro e u5 ⟨rfl, rfl⟩
            go_wp2
            go_loopw [18, 19] (fun f i wr => ∃ (l : Nat) (x : Int), l ≤ m ∧ i = .int .i64 ((l : Int) - 1) ∧ f = .int .i64 x ∧ First qs q l x ∧ -1 ≤ x ∧ Below u4.heap.size u4 wr) (fun _ i _ => (intOf i + 1).toNat)
            case atStart =>
              refine ⟨m, -1, Nat.le_refl _, by go_num, rfl, .inl ⟨rfl, fun l hl e => ?_⟩, by omega, Below.refl _ _⟩
              have := (List.getElem?_eq_some_iff.1 e).1
              have := HQ.out.2.1
              omega
            case round =>
              obtain ⟨l, x, hl, rfl, rfl, hf, hx1, hb⟩ := hrel
              by_cases hlt : 0 < l
              · obtain ⟨k, rfl⟩ : ∃ k, l = k + 1 := ⟨l - 1, by omega⟩
                obtain ⟨z, hz⟩ : ∃ z, qs[k]? = some z := ⟨_, List.getElem?_eq_getElem (by have := HQ.out.2.1; omega)⟩
                obtain ⟨b0, rfl, hb1, hb2, hb3, hcs⟩ := HX4.out.2.2.1 (by have := HQ.out.2.1; omega)
                have hc := (hb.cell (p := ⟨b0, k, none⟩) hb2).trans (hcs k z hz)
                have ek : ((k + 1 : Nat) : Int) - 1 = k := by omega
                rw [ek]
                have hz12 := HQ.out.2.2 z (List.mem_of_getElem? hz)
                have HF := hide (And.intro hz (And.intro hf hb))
                have hlt' : (k : Int) < m := by omega
                have hk0 : (0 : Int) ≤ k := by omega
                clear hcs hz hf hb hb1 hb2 hb3 ek
                by_cases hzq : z = q
                · subst hzq
                  go_wp2
                  exact ⟨⟨k, k, by omega, by go_num, rfl, .inr ⟨k, rfl, HF.out.1, fun l h1 h2 => by omega⟩, by omega, HF.out.2.2⟩, by simp [intOf]⟩
                · have hzq' : ((z : Int) == (q : Int)) = false := beq_eq_false_iff_ne.2 (by omega)
                  go_wp2
                  refine ⟨⟨k, x, by omega, by go_num, rfl, ?_, hx1, HF.out.2.2⟩, by simp [intOf]⟩
                  have hno : ∀ l, k ≤ l → ¬ k + 1 ≤ l → qs[l]? ≠ some q := fun l h1 h2 e => by
                    obtain rfl : l = k := by omega
                    rw [HF.out.1] at e
                    exact hzq (Option.some.inj e)
                  rcases HF.out.2.1 with ⟨h1, h2⟩ | ⟨y, h1, h2, h3⟩
                  · exact .inl ⟨h1, fun l hl => by
                      by_cases h4 : k + 1 ≤ l
                      · exact h2 l h4
                      · exact hno l hl h4⟩
                  · exact .inr ⟨y, h1, h2, fun l hl hly => by
                      by_cases h4 : k + 1 ≤ l
                      · exact h3 l h4 hly
                      · exact hno l hl h4⟩
              · obtain rfl : l = 0 := by omega
                have e0 : ((0 : Nat) : Int) - 1 = -1 := by omega
                rw [e0]
                have L5 := HX4.out.1.below hb
                have hs5 := HX4.out.2.1.below hb
                obtain ⟨d0, dl⟩ := L5.dcell
                have HX5 := hide (And.intro L5 hs5)
                clear L5 hs5 hb hlt e0
                go_wp2_with (go_at_call 26; fail)
                refine (HT.out.memv _ _ HX5.out.1).mono ?_
                rintro e u6 ⟨rfl, M6, L6, s6⟩
                clear d0 dl
                obtain ⟨d0, dl⟩ := L6.dcell
                have HX6 := hide (And.intro L6 (HX5.out.2.step s6))
                clear L6 s6
                go_wp2_with (go_at_call 26; fail)
                refine (HT.out.assv _ _ HX6.out.1).mono ?_
                rintro e u7 ⟨rfl, M7, L7, s7⟩
                clear d0 dl
                obtain ⟨d0, dl⟩ := L7.dcell
                have HX7 := hide (And.intro L7 (HX6.out.2.step s7))
                clear L7 s7
                rcases hf with ⟨rfl, h2⟩ | ⟨f, rfl, h2, h3⟩
                · obtain rfl : mw = 2 := HT.out.foundM.miss fun l _ => h2 l (Nat.zero_le _)
                  obtain rfl : qw = 2 := HT.out.foundA.miss fun l _ => h2 l (Nat.zero_le _)
                  clear h2 d0 dl
                  go_wp2_with (go_at_call 14; fail)
                  refine (prim_awake _).mono ?_
                  rintro e u8 ⟨rfl, hb8⟩
                  have HX8 := hide (HX7.out.1.low.trans (hb8.mono HX7.out.1.low.size))
                  clear hb8
                  go_wp2
                  go_ret
                  exact ⟨rfl, HX8.out⟩
                · obtain rfl : mw = tl f := HT.out.foundM.hit h2 fun l hl => h3 l (Nat.zero_le _) hl
                  obtain rfl : qw = ps.getD f 0 := HT.out.foundA.hit h2 fun l hl => h3 l (Nat.zero_le _) hl
                  have hfm : f < m := by have := (List.getElem?_eq_some_iff.1 h2).1; have := HQ.out.2.1; omega
                  have HF := hide hfm
                  have hf' : ¬ (f : Int) < 0 := by omega
                  have hf0 : (0 : Int) ≤ f := by omega
                  have hfm' : (f : Int) < m := by omega
                  clear h2 h3
                  go_wp2_with (go_at_call 26; fail)
                  refine (HT.out.tail _ _ f (by have := HF.out; have := HQ.out.2.1; omega) HX7.out.1).mono ?_
                  rintro e u8 ⟨rfl, M8, L8, s8⟩
                  have hs8 := HX7.out.2.step s8
                  obtain ⟨L, rfl, hL, -, hLc⟩ : ∃ L, pA = some ⟨L, 0, none⟩ ∧ L < u8.heap.size ∧ True ∧ u8.cell? ⟨L, f, none⟩ = some (.int .u64 (ps.getD f 0 : Nat)) := by
                    rcases hs8 with h0 | ⟨L, h1, h2, h3, h4⟩
                    · rw [h0] at HX4; have := HX4.out.2.2.2; have := HF.out; simp at *; omega
                    · refine ⟨L, h1, h2, trivial, h4 f _ ?_⟩
                      have := HX4.out.2.2.2
                      rw [List.getD_eq_getElem?_getD, List.getElem?_eq_getElem (by have := HF.out; omega)]; rfl
                  have HX8 := hide L8.low
                  clear d0 dl hs8 L8 s8
                  go_wp2_with (go_at_call 14; fail)
                  refine (prim_awake _).mono ?_
                  rintro e u9 ⟨rfl, hb9⟩
                  have HX9 := hide (HX8.out.trans (hb9.mono HX8.out.size))
                  clear hb9 hLc
                  go_wp2
                  go_ret
                  exact ⟨rfl, HX9.out⟩

end Go.Proofs.YtafignheedbnbaaGreatDoor
