/-
  CHECK's steps told one by one: what a run of steps says of the first; landing by index.
-/
import Derived.Test.YtmlmepbnjlepnaaChkStep
namespace Go.Proofs.Ytmlmepbnjlepnaa

variable {ps : List Pr} {p : Pr} {s s' : St} {f : Nat} {R : Res}

theorem runP_end (h : runP ps p f s = some R) (hpc : ¬ s.pc < p.code.length) : R = .ok s.ds := by
  cases f with
  | zero => cases h
  | succ f =>
    unfold runP at h
    rw [if_neg hpc] at h
    exact (Option.some.inj h).symm

theorem runP_bad {pc : Nat} {e : Int} (h : runP ps p f s = some R) (hpc : s.pc < p.code.length) (hst : step ps p s = .bad pc e) : R = .bad pc e := by
  cases f with
  | zero => cases h
  | succ f =>
    unfold runP at h
    rw [if_pos hpc, hst] at h
    exact (Option.some.inj h).symm

theorem runP_go (h : runP ps p f s = some R) (hpc : s.pc < p.code.length) (hst : step ps p s = .go s') : ∃ g, g < f ∧ runP ps p g s' = some R := by
  cases f with
  | zero => cases h
  | succ f =>
    unfold runP at h
    rw [if_pos hpc, hst] at h
    exact ⟨f, by omega, h⟩

theorem step_closed (h : s.op.getD s.pc false = false) : step ps p s = .go ⟨s.ds, s.op, s.pc + 1⟩ := by
  unfold step; rw [if_pos h]

theorem step_ops (h : s.op.getD s.pc false = true) (h1 : opsE ps p (insAt p s.pc) ≠ 0) : step ps p s = .bad s.pc (opsE ps p (insAt p s.pc)) := by
  unfold step; rw [if_neg (by simp only [h]; decide)]
  unfold work; dsimp only; rw [if_pos h1]

theorem step_stack (h : s.op.getD s.pc false = true) (h1 : opsE ps p (insAt p s.pc) = 0) (h2 : (stackE (insAt p s.pc) (s.ds.getD s.pc 0)).2 ≠ 0) : step ps p s = .bad s.pc (stackE (insAt p s.pc) (s.ds.getD s.pc 0)).2 := by
  unfold step; rw [if_neg (by simp only [h]; decide)]
  unfold work; dsimp only; rw [if_neg (fun h5 => h5 h1), if_pos h2]

theorem step_jump (h : s.op.getD s.pc false = true) (h1 : opsE ps p (insAt p s.pc) = 0) (h2 : (stackE (insAt p s.pc) (s.ds.getD s.pc 0)).2 = 0)
    (t : Int) (ht : t ∈ goesL (insAt p s.pc) s.pc) (h3 : inB t p.code.length = false) : step ps p s = .bad s.pc 32 := by
  unfold step; rw [if_neg (by simp only [h]; decide)]
  unfold work; dsimp only; rw [if_neg (fun h5 => h5 h1), if_neg (fun h5 => h5 h2), if_pos]
  rw [Bool.eq_false_iff]
  intro h4
  rw [List.all_eq_true] at h4
  have := h4 t ht
  rw [h3] at this
  cases this

theorem step_land (h : s.op.getD s.pc false = true) (h1 : opsE ps p (insAt p s.pc) = 0) (h2 : (stackE (insAt p s.pc) (s.ds.getD s.pc 0)).2 = 0)
    (h3 : ∀ t ∈ goesL (insAt p s.pc) s.pc, inB t p.code.length = true) (h4 : land (stackE (insAt p s.pc) (s.ds.getD s.pc 0)).1 (goesL (insAt p s.pc) s.pc) (s.ds, s.op.set s.pc false, (s.pc : Int) + 1) = none) : step ps p s = .bad s.pc 31 := by
  unfold step; rw [if_neg (by simp only [h]; decide)]
  unfold work; dsimp only; rw [if_neg (fun h5 => h5 h1), if_neg (fun h5 => h5 h2), if_neg (by simpa using h3), h4]

theorem step_go {r : List Int × List Bool × Int} (h : s.op.getD s.pc false = true) (h1 : opsE ps p (insAt p s.pc) = 0) (h2 : (stackE (insAt p s.pc) (s.ds.getD s.pc 0)).2 = 0)
    (h3 : ∀ t ∈ goesL (insAt p s.pc) s.pc, inB t p.code.length = true) (h4 : land (stackE (insAt p s.pc) (s.ds.getD s.pc 0)).1 (goesL (insAt p s.pc) s.pc) (s.ds, s.op.set s.pc false, (s.pc : Int) + 1) = some r) : step ps p s = .go ⟨r.1, r.2.1, r.2.2.toNat⟩ := by
  unfold step; rw [if_neg (by simp only [h]; decide)]
  unfold work; dsimp only; rw [if_neg (fun h5 => h5 h1), if_neg (fun h5 => h5 h2), if_neg (by simpa using h3), h4]

theorem land_append (d : Int) : ∀ (l m : List Int) (s : List Int × List Bool × Int), land d (l ++ m) s = (land d l s).bind (land d m)
  | [], m, s => rfl
  | t :: l, m, s => by
    simp only [List.cons_append, land]
    split
    · exact land_append d l m _
    · split
      · exact land_append d l m s
      · rfl

theorem take_succ_getD (l : List Int) (k : Nat) (hk : k < l.length) : l.take (k + 1) = l.take k ++ [l.getD k 0] := by
  rw [List.take_add_one, List.getElem?_eq_getElem hk, List.getD, List.getElem?_eq_getElem hk]
  rfl

theorem land_new {d : Int} {l : List Int} {k : Nat} {s r : List Int × List Bool × Int} (hk : k < l.length) (h : land d (l.take k) s = some r) (hn : r.1.getD (l.getD k 0).toNat 0 < 0) :
    land d (l.take (k + 1)) s = some (r.1.set (l.getD k 0).toNat d, r.2.1.set (l.getD k 0).toNat true, min r.2.2 (l.getD k 0)) := by
  rw [take_succ_getD l k hk, land_append, h]
  simp only [Option.bind_some, land]
  rw [if_pos hn]

theorem land_same {d : Int} {l : List Int} {k : Nat} {s r : List Int × List Bool × Int} (hk : k < l.length) (h : land d (l.take k) s = some r) (hn : ¬ r.1.getD (l.getD k 0).toNat 0 < 0) (he : r.1.getD (l.getD k 0).toNat 0 = d) :
    land d (l.take (k + 1)) s = some r := by
  rw [take_succ_getD l k hk, land_append, h]
  simp only [Option.bind_some, land]
  rw [if_neg hn, if_pos he]

theorem land_bad {d : Int} {l : List Int} {k : Nat} {s r : List Int × List Bool × Int} (hk : k < l.length) (h : land d (l.take k) s = some r) (hn : ¬ r.1.getD (l.getD k 0).toNat 0 < 0) (he : ¬ r.1.getD (l.getD k 0).toNat 0 = d) :
    land d l s = none := by
  have e : land d (l.take (k + 1)) s = none := by
    rw [take_succ_getD l k hk, land_append, h]
    simp only [Option.bind_some, land]
    rw [if_neg hn, if_neg he]
  rw [← List.take_append_drop (k + 1) l, land_append, e]
  rfl

end Go.Proofs.Ytmlmepbnjlepnaa
