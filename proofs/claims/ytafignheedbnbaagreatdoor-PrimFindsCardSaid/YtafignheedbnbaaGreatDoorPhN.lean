/-
  What single primitives do, as 'Does': list->vector, list-tail, list-ref, vector-ref, vector-set!, set-car!; and the law's desk.do at a slice just made.
-/
import Derived.Test.YtafignheedbnbaaGreatDoorPhM
import Derived.Test.YtafignheedbnbaaGreatDoorPhL
namespace Go.Proofs.YtafignheedbnbaaGreatDoor
open Go.RowKit
set_option linter.unusedSimpArgs false
set_option linter.unusedVariables false

theorem fix_may (h : List Ob) (n : Nat) (hn : n < 1000000) : 4 * n + 1 < 18446744073709551616 ∧ mayB h (4 * n + 1) := ⟨by omega, by omega, fun h0 => by omega⟩
theorem obj_may {h : List Ob} {m : Nat} {o : Ob} (hm : h[m]? = some o) (hu : used h ≤ 16777216) : 4 * start h m < 18446744073709551616 ∧ mayB h (4 * start h m) := by
  have := start_lt hm
  exact ⟨by omega, by omega, fun _ => isB_at hm⟩
theorem hd_may {h : List Ob} {ws ys : List Nat} (hl : Lst h ws ys 10) (hu : used h ≤ 16777216) (k : Nat) : hd (ws.drop k) 10 < 18446744073709551616 ∧ mayB h (hd (ws.drop k) 10) := by
  by_cases hk : k < ys.length
  · obtain ⟨m, hm, e, -⟩ := hl.at_ (List.getElem?_eq_getElem hk)
    rw [e]; exact obj_may hm hu
  · rw [hd_all ws 10 k (by have := hl.len; omega)]
    exact ⟨by omega, by omega, fun h0 => by omega⟩
theorem may1 {h : List Ob} {a : Nat} (ha : a < 18446744073709551616 ∧ mayB h a) : MayAll h [a] := fun x hx => by simp at hx; subst hx; exact ha
theorem may2 {h : List Ob} {a b : Nat} (ha : a < 18446744073709551616 ∧ mayB h a) (hb : b < 18446744073709551616 ∧ mayB h b) : MayAll h [a, b] := fun x hx => by simp at hx; rcases hx with rfl | rfl <;> assumption
theorem may3 {h : List Ob} {a b c : Nat} (ha : a < 18446744073709551616 ∧ mayB h a) (hb : b < 18446744073709551616 ∧ mayB h b) (hc : c < 18446744073709551616 ∧ mayB h c) : MayAll h [a, b, c] := fun x hx => by simp at hx; rcases hx with rfl | rfl | rfl <;> assumption

section
variable {S : Sto} {w0 : World} {h : List Ob} {sy : List (ByteArray × Nat)}

theorem does_lvec {ws ys : List Nat} (hl : Lst h ws ys 10) (hu : ys.length ≤ used h) (hus : used h ≤ 16777216) (hmay : MayAll h ys) (hroom : 1 + ys.length + used h ≤ S.sz) (hn : ys.length ≤ 1048576) : Does S w0 h (h ++ [vecO ys]) sy sy 60 [hd ws 10] (4 * used h) where
  i85 := by omega
  fn := ⟨153, by decide +kernel, fun _ _ => by kernel_rfl, fun W cb M' A' c' k hb => lvec_any k hl hu rfl hmay hroom hn⟩
  often := by decide +kernel
  n0 := by simp
  n1 := by simp
  le := by show least 60 ≤ ((1 : Nat) : Int); decide +kernel
  mo := by right; show ((1 : Nat) : Int) ≤ most 60; decide +kernel
  may := may1 (hd_may hl hus 0)

theorem does_ltail {ws ys : List Nat} (hl : Lst h ws ys 10) (hus : used h ≤ 16777216) {n : Nat} (hn : n ≤ ys.length) (hn2 : n < 130) (hy : ys.length ≤ 100000) : Does S w0 h h sy sy 47 [hd ws 10, 4 * n + 1] (hd (ws.drop n) 10) where
  i85 := by omega
  fn := ⟨144, by decide +kernel, fun _ _ => by kernel_rfl, fun W cb M' A' c' k hb => ltail_any k (by decide +kernel) hl rfl hn hn2 hy⟩
  often := by decide +kernel
  n0 := by simp
  n1 := by simp
  le := by show least 47 ≤ ((2 : Nat) : Int); decide +kernel
  mo := by right; show ((2 : Nat) : Int) ≤ most 47; decide +kernel
  may := may2 (hd_may hl hus 0) (fix_may h n (by omega))

theorem does_lref {ws ys : List Nat} (hl : Lst h ws ys 10) (hus : used h ≤ 16777216) {n y : Nat} (hn : ys[n]? = some y) (hn2 : n < 130) (hy : ys.length ≤ 100000) : Does S w0 h h sy sy 46 [hd ws 10, 4 * n + 1] y where
  i85 := by omega
  fn := ⟨144, by decide +kernel, fun _ _ => by kernel_rfl, fun W cb M' A' c' k hb => lref_any k (by decide +kernel) hl rfl hn hn2 hy⟩
  often := by decide +kernel
  n0 := by simp
  n1 := by simp
  le := by show least 46 ≤ ((2 : Nat) : Int); decide +kernel
  mo := by right; show ((2 : Nat) : Int) ≤ most 46; decide +kernel
  may := may2 (hd_may hl hus 0) (fix_may h n (by omega))

theorem does_vref {m n y : Nat} {l : List Nat} (hm : h[m]? = some (vecO l)) (hus : used h ≤ 16777216) (hn : l[n]? = some y) (hn2 : n < 130) : Does S w0 h h sy sy 57 [4 * start h m, 4 * n + 1] y where
  i85 := by omega
  fn := ⟨150, by decide +kernel, fun _ _ => by kernel_rfl, fun W cb M' A' c' k hb => vref_any k hm rfl hn hn2⟩
  often := by decide +kernel
  n0 := by simp
  n1 := by simp
  le := by show least 57 ≤ ((2 : Nat) : Int); decide +kernel
  mo := by right; show ((2 : Nat) : Int) ≤ most 57; decide +kernel
  may := may2 (obj_may hm hus) (fix_may h n (by omega))

theorem does_vset {m n x : Nat} {l : List Nat} (hm : h[m]? = some (vecO l)) (hus : used h ≤ 16777216) (hn : n < l.length) (hn2 : n < 130) (hx : x < 18446744073709551616 ∧ mayB h x) : Does S w0 h (h.set m ((vecO l).setT n x)) sy sy 58 [4 * start h m, 4 * n + 1, x] 14 where
  i85 := by omega
  fn := ⟨151, by decide +kernel, fun _ _ => by kernel_rfl, fun W cb M' A' c' k hb => vset_any k hm rfl hn hn2 hx.1 hx.2⟩
  often := by decide +kernel
  n0 := by simp
  n1 := by simp
  le := by show least 58 ≤ ((3 : Nat) : Int); decide +kernel
  mo := by right; show ((3 : Nat) : Int) ≤ most 58; decide +kernel
  may := may3 (obj_may hm hus) (fix_may h n (by omega)) hx

theorem does_setcar {m a b x : Nat} {g : Int} (hg : w0.cell? ⟨0, 0, none⟩ = some (.int .i64 g)) (hg0 : 0 < S.B) (hg1 : S.B ≤ w0.heap.size) (hm : h[m]? = some (pairO a b)) (hus : used h ≤ 16777216) (hx : x < 18446744073709551616 ∧ mayB h x) : Does S w0 h (h.set m ((pairO a b).setT 0 x)) sy sy 40 [4 * start h m, x] 14 where
  i85 := by omega
  fn := ⟨139, by decide +kernel, fun _ _ => by kernel_rfl, fun W cb M' A' c' k hb => setcar_any k ((hb.cell (p := ⟨0, 0, none⟩) hg0).trans hg) (fun e => by have := (k.st.lt 0 e).1; omega) (by have := hb.size; omega) (by decide +kernel) (by decide +kernel) hm rfl hx.1 hx.2⟩
  often := by decide +kernel
  n0 := by simp
  n1 := by simp
  le := by show least 40 ≤ ((2 : Nat) : Int); decide +kernel
  mo := by right; show ((2 : Nat) : Int) ≤ most 40; decide +kernel
  may := may2 (obj_may hm hus) hx

/-- The law at work: the store, its desk. -/
structure LAt (w0 : World) (S : Sto) (D : Nat) (W : World) (M : Nat → Prop) (h : List Ob) (sy : List (ByteArray × Nat)) : Prop where
  st : SAt W S M h sy
  base : S.B = w0.heap.size
  low : Below w0.heap.size w0 W
  desk : W.heap[D]? = some (.cells #[.pointer (some ⟨S.sb, 0, none⟩)] 54 (0, 0))
  far : ¬ M D

/-- The law has gone on: a primitive has come to n. -/
def Adv (w0 : World) (S : Sto) (D : Nat) (h' : List Ob) (sy' : List (ByteArray × Nat)) (n : Int) (e : Ending) (w' : World) : Prop := e = .returned (.int .u64 n) ∧ ∃ M', LAt w0 S D w' M' h' sy'

theorem LAt.step {S : Sto} {D : Nat} {W W' : World} {M M' : Nat → Prop} {h' : List Ob} {sy' : List (ByteArray × Nat)} (k : LAt w0 S D W M h sy) (s : Step M W M' W') (h1 : SAt W' S M' h' sy') : LAt w0 S D W' M' h' sy' :=
  ⟨h1, k.base, Turns.keep k.low s.turns (fun b e => by have := (k.st.lt b e).1; have := k.base; omega) (Nat.le_refl _), (s.keeps (ph_lt k.desk) k.far).trans k.desk, s.far (ph_lt k.desk) k.far⟩
theorem LAt.below {S : Sto} {D : Nat} {W W' : World} {M : Nat → Prop} (k : LAt w0 S D W M h sy) (hb : Below W.heap.size W W') : LAt w0 S D W' M h sy := k.step (Step.of_below M hb) (k.st.below hb)
theorem LAt.dcell {S : Sto} {D : Nat} {W : World} {M : Nat → Prop} (k : LAt w0 S D W M h sy) : W.cell? ⟨D, 0, none⟩ = some (.pointer (some ⟨S.sb, 0, none⟩)) ∧ D < W.heap.size := ⟨by simp [World.cell?, k.desk], ph_lt k.desk⟩

/-- The law's desk does a primitive of a slice just made. -/
theorem ddo_at {S : Sto} {D : Nat} {W : World} {M : Nat → Prop} {h' : List Ob} {sy' : List (ByteArray × Nat)} (k : LAt w0 S D W M h sy) {i v : Nat} {xs : List Nat} (d : Does S w0 h h' sy sy' i xs v) (s : ByteArray) (hs : s = nm i) (vs : Array Value) (hvs : vs = (xs.map wV).toArray) (m : Nat) (hm : m = xs.length) :
    Calls Tryz.prog 26 #[.agg #[.pointer (some ⟨S.sb, 0, none⟩)], .string s, .slice (some ⟨W.heap.size, 0, none⟩) m m] (W.alloc (.cells vs 29)) (Adv w0 S D h' sy' v) := by
  subst hs hvs hm
  have hb : Below W.heap.size W (W.alloc (.cells (xs.map wV).toArray 29)) := (Below.refl _ _).alloc (Nat.le_refl _) _
  have k2 := k.below hb
  refine (ddo_any k2.st (Nat.le_of_eq k.base) (k.base ▸ k2.low) d (c := xs.length) (SlU.one_new (k.st.far (Nat.le_refl _)) _)).mono ?_
  rintro e w' ⟨rfl, M', k', s'⟩
  exact ⟨rfl, M', k2.step s' k'⟩

end
end Go.Proofs.YtafignheedbnbaaGreatDoor
