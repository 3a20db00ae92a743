/-
  From a law's walk to what its row says: the call answers true, what was there stands as it stood, so the arguments read as they read.
-/
import Derived.Test.YtafignheedbnbaaGreatDoorLib
import Derived.ProofKit
import Derived.OpenShut
import Derived.SizedLaws
import Derived.Lib.SmallJoins
import Derived.ChangeArms
namespace Go.Proofs.YtafignheedbnbaaGreatDoor
open Go.RowKit Go.ChangeShapes Go.WideShapes Go.ChangeAt

theorem own : ownKnob Tryz.prog.godebug = none := by kernel_rfl
theorem laidOut : laidOutB Tryz.prog = true := by kernel_rfl

section
variable {H : Type} {enc : TypeId × Value → H}

theorem trodAll_below {P : Program} (hl : laidOutB P = true) {W W' : World} (hb : Below W.heap.size W W') : ∀ {ts : List TypeId} {vs : List Value} {ds : List (DataW H)} {ps : List MemPlace},
    (ts.all fun t => P.readableRec t && decide (t < P.types.size)) = true → DataW.TrodAll enc P W 0 (fun _ => true) true ts vs ds ps → (∀ x ∈ ps, x.block < W.heap.size) →
    DataW.TrodAll enc P W' 0 (fun b => decide (b < W.heap.size)) true ts vs ds ps
  | [], [], [], _, _, h, _ => h
  | t :: ts, _ :: _, _ :: _, _, hT, ⟨p, q, h1, h2, e⟩, hs => by
    simp only [List.all_cons, Bool.and_eq_true, decide_eq_true_eq] at hT
    exact ⟨p, q, Below.trod hl hT.1.1 hT.1.2 h1 hb (fun x hx => hs x (by rw [e]; exact List.mem_append_left _ hx)),
      trodAll_below hl hb hT.2 h2 (fun x hx => hs x (by rw [e]; exact List.mem_append_right _ hx)), e⟩

/-- WHAT A LAW's ROW ASKS behind the call. -/
theorem law_post {s : ChangeSpec} {f : Func} {b : Bool} (hread : (f.params.toList.all fun t => Tryz.prog.readableRec t && decide (t < Tryz.prog.types.size)) = true) (hres : f.resultTypes = #[4]) (hv : s.vars = [])
    {W W' : World} {args : Array Value} {ds gs : List (DataW H)} {before : List MemPlace} (hW : DataW.Whole enc Tryz.prog f.params.toList s.vars false W args.toList ds gs before)
    (hfn : s.fn H (ds ++ gs) = { results := [.lit (.bool b)], args := ds }) (hb : Below W.heap.size W W') : s.post enc Tryz.prog f false true false false W args (.bool b) W' := by
  have hW' := hW
  obtain ⟨p, q, hA, hV, rfl, hfz, hnd⟩ := hW
  rw [hv] at hV
  obtain ⟨rfl, rfl⟩ := trodVars_none hV
  refine ⟨ds, [], p ++ [], [], p, [], hW', ?_, ?_, ?_, hb.frame _, fun h => by cases h⟩
  · rw [hfn, hres]
    exact trodAll_mk1 (shut_bool Tryz.underlying4 b)
  · rw [hfn]
    exact trodAll_below laidOut hb hread hA (fun x hx => hW'.lt x (List.mem_append_left _ hx))
  · rw [hfn, hv]
    rfl

end
end Go.Proofs.YtafignheedbnbaaGreatDoor

/-
  What a law's argument is, where it is a slice of ints: its cells; no condition.
-/
namespace Go.Proofs.YtafignheedbnbaaGreatDoor
open Go.RowKit Go.ChangeShapes Go.WideShapes Go.ChangeAt

/-- A slice of ints. -/
def IntsR (w : World) (v : Value) (zs : List Int) : Prop :=
  ∃ p c, v = .slice p zs.length c ∧ zs.length ≤ 17592186043904 ∧ (0 < zs.length → ∃ b o, p = some ⟨b, o, none⟩ ∧ b < w.heap.size ∧ ∀ j, j < zs.length → w.cell? ⟨b, o + j, none⟩ = some (.int .i64 (zs.getD j 0)))

theorem IntsR.below {w w' : World} {v : Value} {zs : List Int} (h : IntsR w v zs) (hb : Below w.heap.size w w') : IntsR w' v zs := by
  obtain ⟨p, c, h1, h2, h3⟩ := h
  refine ⟨p, c, h1, h2, fun h0 => ?_⟩
  obtain ⟨b, o, e1, e2, e3⟩ := h3 h0
  exact ⟨b, o, e1, Nat.lt_of_lt_of_le e2 hb.size, fun j hj => (hb.cell (p := ⟨b, o + j, none⟩) e2).trans (e3 j hj)⟩

set_option maxRecDepth 100000
section
variable {H : Type} {enc : TypeId × Value → H} {w : World} {held : Bool}

theorem int_choose {R : Nat → Int → Prop} : ∀ (n : Nat), (∀ i, i < n → ∃ a, R i a) → ∃ l : List Int, l.length = n ∧ ∀ (i : Nat) (a : Int), l[i]? = some a → R i a
  | 0, _ => ⟨[], rfl, fun i a h => by simp at h⟩
  | n + 1, h => by
    obtain ⟨l, hl, hr⟩ := int_choose n fun i hi => h i (by omega)
    obtain ⟨a, ha⟩ := h n (by omega)
    refine ⟨l ++ [a], by simp [hl], fun i x hx => ?_⟩
    by_cases hi : i < l.length
    · rw [List.getElem?_append_left hi] at hx; exact hr i x hx
    · have hi' : i = n := by
        have := (List.getElem?_eq_some_iff.1 hx).1
        simp [hl] at this; omega
      subst hi'
      rw [← hl, List.getElem?_append_right (Nat.le_refl _), Nat.sub_self] at hx
      cases hx
      exact ha

theorem one_cell_at {a : Addr} {v : Value} (h : w.cells? 0 a 1 = some [v]) : a.spot = none ∧ a.block < w.heap.size ∧ w.cell? a = some v := by
  obtain ⟨-, hl, hc⟩ := World.cells?_some h
  have h0 := hc 0 (by omega)
  simp [Addr.add] at h0
  refine ⟨?_, World.cells?_block h (by omega), h0⟩
  cases hs : a.spot with
  | none => rfl
  | some s =>
    exfalso
    unfold World.cell? at h0
    split at h0
    · simp [hs] at h0
    · cases h0

theorem size_i64 : Tryz.prog.cellsOf 3 = 1 := by kernel_rfl
theorem bytes_i64 : Tryz.prog.bytesOf 3 = 8 := by kernel_rfl

theorem read_ints {fuel : Nat} {cs : List Value} {x : DataW H × List MemPlace} (h : DataW.trod enc Tryz.prog w 0 (fun _ => true) held fuel 52 cs = some x) (hs : (x.1.weights Tryz.prog 52).all (· ≤ reachBytes) = true) :
    ∃ v zs, cs = [v] ∧ IntsR w v zs := by
  rcases DataW.trod_slice Tryz.underlying52 h with ⟨rfl, rfl⟩ | ⟨a, len, cap, elems, rest, n, rfl, rfl, rfl, -, -, -, hel, hi, -, -⟩
  · exact ⟨_, [], rfl, none, 0, rfl, by simp, fun h => by simp at h⟩
  · rw [size_i64] at hi
    have hsz : len * 8 ≤ reachBytes := by
      unfold DataW.weights at hs
      rw [Tryz.underlying52] at hs
      rw [List.all_cons, Bool.and_eq_true] at hs
      have e := hs.1
      rw [decide_eq_true_iff, bytes_i64, List.length_map, List.length_map, hel] at e
      omega
    by_cases hl0 : len = 0
    · subst hl0
      exact ⟨_, [], rfl, some a, cap, rfl, by simp, fun h => by simp at h⟩
    have hcs : ∀ i, i < len → ∃ k : Int, (a.add (i * 1)).spot = none ∧ (a.add (i * 1)).block < w.heap.size ∧ w.cell? (a.add (i * 1)) = some (.int .i64 k) := by
      intro i hlt
      have e := hi i hlt
      obtain ⟨y, hy⟩ : ∃ y, elems[i]? = some y := ⟨_, List.getElem?_eq_getElem (by omega)⟩
      rw [hy, Option.bind_eq_some_iff] at e
      obtain ⟨cs', h1, h2⟩ := e
      obtain ⟨k, rfl, -⟩ := DataW.trod_int Tryz.underlying3 h2
      exact ⟨k, one_cell_at h1⟩
    obtain ⟨b, o, rfl, hb⟩ : ∃ b o, a = ⟨b, o, none⟩ ∧ b < w.heap.size := by
      obtain ⟨k, h1, h2, -⟩ := hcs 0 (by omega)
      rw [Nat.zero_mul, show a.add 0 = a from by simp [Addr.add]] at h1 h2
      obtain ⟨b, o, s⟩ := a
      dsimp only at h1 h2
      subst h1
      exact ⟨b, o, rfl, h2⟩
    obtain ⟨m, hm, hr⟩ := int_choose (R := fun i k => w.cell? ⟨b, o + i, none⟩ = some (.int .i64 k)) len (fun i hlt => by
      obtain ⟨k, -, -, h3⟩ := hcs i hlt
      rw [show (⟨b, o, none⟩ : Addr).add (i * 1) = ⟨b, o + i, none⟩ from by unfold Addr.add; split <;> simp_all] at h3
      exact ⟨k, h3⟩)
    refine ⟨_, m, rfl, some ⟨b, o, none⟩, cap, by rw [hm], by rw [hm]; simp only [reachBytes] at hsz; omega, fun h0 => ⟨b, o, rfl, hb, fun j hj => ?_⟩⟩
    rw [hr j m[j] (List.getElem?_eq_getElem hj)]
    simp [List.getD, hj]

end
end Go.Proofs.YtafignheedbnbaaGreatDoor
