/-
  A table as what it says of each place, and what feeds make of it: in whatever order, however often; two tables that say the same give the same list. No function of the program in sight; no condition.
-/
import Derived.Test.YtmgafcbhoamkkaaFeedAllW
import Derived.Test.YtmgafcbhoamkkaaFeedJoinsWalk
namespace Go.Proofs.Ytmgafcbhoamkkaa
open Go.RowKit

theorem foldl_absorb {S X : Type} {f : S → X → S} (hs : ∀ s x y, f (f s x) y = f (f s y) x) (hi : ∀ s x, f (f s x) x = f s x) : ∀ (l : List X) (s : S) (x : X), x ∈ l → f (l.foldl f s) x = l.foldl f s
  | [], _, _, h => by cases h
  | a :: l, s, x, h => by
    rw [List.foldl_cons]
    rcases List.mem_cons.1 h with rfl | h
    · clear h
      have : ∀ (l : List X) (s : S), f (l.foldl f (f s x)) x = l.foldl f (f s x) := by
        intro l
        induction l with
        | nil => intro s; exact hi s x
        | cons b l ih => intro s; rw [List.foldl_cons, hs]; exact ih _
      exact this l s
    · exact foldl_absorb hs hi l _ x h

theorem foldl_absorbs {S X : Type} {f : S → X → S} (hs : ∀ s x y, f (f s x) y = f (f s y) x) (hi : ∀ s x, f (f s x) x = f s x) (l : List X) (s : S) : ∀ (l' : List X), (∀ x ∈ l', x ∈ l) → l'.foldl f (l.foldl f s) = l.foldl f s
  | [], _ => rfl
  | b :: l', h => by
    rw [List.foldl_cons, foldl_absorb hs hi l s b (h b (by simp))]
    exact foldl_absorbs hs hi l s l' fun x hx => h x (by simp [hx])

theorem foldl_swap {S X : Type} {f : S → X → S} (hs : ∀ s x y, f (f s x) y = f (f s y) x) : ∀ (l : List X) (s : S) (x : X), l.foldl f (f s x) = f (l.foldl f s) x
  | [], _, _ => rfl
  | a :: l, s, x => by rw [List.foldl_cons, List.foldl_cons, hs, foldl_swap hs l]

theorem foldl_swaps {S X : Type} {f : S → X → S} (hs : ∀ s x y, f (f s x) y = f (f s y) x) (l : List X) : ∀ (l' : List X) (s : S), l.foldl f (l'.foldl f s) = l'.foldl f (l.foldl f s)
  | [], _ => rfl
  | b :: l', s => by rw [List.foldl_cons, List.foldl_cons, foldl_swaps hs l l', foldl_swap hs]

/-- Lists with the same members. -/
theorem foldl_same {S X : Type} {f : S → X → S} (hs : ∀ s x y, f (f s x) y = f (f s y) x) (hi : ∀ s x, f (f s x) x = f s x) {l l' : List X} (h : ∀ x, x ∈ l ↔ x ∈ l') (s : S) : l.foldl f s = l'.foldl f s := by
  rw [← foldl_absorbs hs hi l s l' fun x hx => (h x).2 hx, foldl_swaps hs, foldl_absorbs hs hi l' s l fun x hx => (h x).1 hx]

theorem sorted_same {X : Type} {lt : X → X → Prop} (hir : ∀ x, ¬ lt x x) (htr : ∀ x y z, lt x y → lt y z → lt x z) : ∀ {l l' : List X}, l.Pairwise lt → l'.Pairwise lt → (∀ x, x ∈ l ↔ x ∈ l') → l = l'
  | [], [], _, _, _ => rfl
  | [], b :: l', _, _, h => by have := (h b).2 (by simp); cases this
  | a :: l, [], _, _, h => by have := (h a).1 (by simp); cases this
  | a :: l, b :: l', h1, h2, h => by
    obtain ⟨a1, a2⟩ := List.pairwise_cons.1 h1
    obtain ⟨b1, b2⟩ := List.pairwise_cons.1 h2
    have hab : a = b := by
      rcases List.mem_cons.1 ((h a).1 (by simp)) with e | e
      · exact e
      rcases List.mem_cons.1 ((h b).2 (by simp)) with e2 | e2
      · exact e2.symm
      exact absurd (htr _ _ _ (a1 b e2) (b1 a e)) (hir a)
    subst hab
    congr 1
    refine sorted_same hir htr a2 b2 fun x => ⟨fun hx => ?_, fun hx => ?_⟩
    · rcases List.mem_cons.1 ((h x).1 (by simp [hx])) with rfl | e
      · exact absurd (a1 x hx) (hir x)
      · exact e
    · rcases List.mem_cons.1 ((h x).2 (by simp [hx])) with rfl | e
      · exact absurd (b1 x hx) (hir x)
      · exact e

/-- What a table says of each place. -/
abbrev Tv := Int → Int → Int × Int × Int
def tv0 : Tv := fun _ _ => (0, -1, 0)

/-- One feed joined to what was seen. -/
def addT (T : Tv) (x : F) : Tv := fun p c => if p = x.1 ∧ c = x.2.1 then (bits BinOp.or .i64 (T p c).1 x.2.2.1, fj (T p c).2.1 x.2.2.2, (T p c).2.2) else T p c

theorem or_swap (a b c : Int) : bits .or .i64 (bits .or .i64 a b) c = bits .or .i64 (bits .or .i64 a c) b := by rw [or64_assoc, or64_comm b c, ← or64_assoc]
theorem or_again (a b : Int) : bits .or .i64 (bits .or .i64 a b) b = bits .or .i64 a b := by rw [or64_comm a b, or64_left]
theorem fj_swap (a b c : Int) : fj (fj a b) c = fj (fj a c) b := by rw [fj_assoc, fj_comm b c, ← fj_assoc]
theorem fj_again (a b : Int) : fj (fj a b) b = fj a b := by rw [fj_comm a b, fj_left]

theorem addT_swap (T : Tv) (x y : F) : addT (addT T x) y = addT (addT T y) x := by
  funext p c
  unfold addT
  by_cases h1 : p = x.1 ∧ c = x.2.1
  · by_cases h2 : p = y.1 ∧ c = y.2.1
    · simp only [if_pos h1, if_pos h2]
      rw [or_swap, fj_swap]
    · simp only [if_pos h1, if_neg h2]
  · by_cases h2 : p = y.1 ∧ c = y.2.1
    · simp only [if_neg h1, if_pos h2]
    · simp only [if_neg h1, if_neg h2]

theorem addT_again (T : Tv) (x : F) : addT (addT T x) x = addT T x := by
  funext p c
  unfold addT
  by_cases h1 : p = x.1 ∧ c = x.2.1
  · simp only [if_pos h1]
    rw [or_again, fj_again]
  · simp only [if_neg h1]

/-- Lists of feeds with the same members make the same table. -/
theorem addTs_same {l l' : List F} (h : ∀ x, x ∈ l ↔ x ∈ l') (T : Tv) : l.foldl addT T = l'.foldl addT T := foldl_same addT_swap addT_again h T

theorem mem_got {L : List Pl} (ha : L.Pairwise fun q r => ¬ (q.p = r.p ∧ q.c = r.c)) (x : F) : x ∈ got L ↔ (tv L x.1 x.2.1).1 = x.2.2.1 ∧ (tv L x.1 x.2.1).2.1 = x.2.2.2 ∧ ¬ (x.2.2.1 = 0 ∧ x.2.2.2 = -1) := by
  unfold got
  constructor
  · intro h
    obtain ⟨q, hq, rfl⟩ := List.mem_map.1 h
    obtain ⟨h1, h2⟩ := List.mem_filter.1 hq
    have e : tv L q.p q.c = (q.m, q.k, q.t) := by unfold tv; rw [find_mem ha h1]
    unfold Pl.fd
    dsimp only
    rw [e]
    refine ⟨rfl, rfl, fun hh => ?_⟩
    unfold live at h2
    rw [hh.1, hh.2] at h2
    cases h2
  · rintro ⟨h1, h2, h3⟩
    cases hq : L.find? (nameKey x.1 x.2.1) with
    | none =>
      unfold tv at h1 h2
      rw [hq] at h1 h2
      exact absurd ⟨h1.symm, h2.symm⟩ h3
    | some q =>
      have e := tv_found hq
      rw [e] at h1 h2
      obtain ⟨k1, k2⟩ := find_key hq
      refine List.mem_map.2 ⟨q, List.mem_filter.2 ⟨List.mem_of_find?_eq_some hq, ?_⟩, ?_⟩
      · unfold live
        dsimp only at h1 h2
        rw [h1, h2]
        cases hl : (x.2.2.1 == 0 && x.2.2.2 == -1)
        · rfl
        · rw [Bool.and_eq_true, beq_iff_eq, beq_iff_eq] at hl
          exact absurd hl h3
      · unfold Pl.fd
        dsimp only at h1 h2
        rw [k1, k2, h1, h2]

theorem got_same {L L' : List Pl} (h : L.Pairwise fun q r => ¬ (q.p = r.p ∧ q.c = r.c)) (h' : L'.Pairwise fun q r => ¬ (q.p = r.p ∧ q.c = r.c)) (ht : ∀ p c, (tv L p c).1 = (tv L' p c).1 ∧ (tv L p c).2.1 = (tv L' p c).2.1) (x : F) : x ∈ got L ↔ x ∈ got L' := by
  rw [mem_got h, mem_got h', (ht _ _).1, (ht _ _).2]

theorem got_nodup {L : List Pl} (h : L.Pairwise fun q r => ¬ (q.p = r.p ∧ q.c = r.c)) : (got L).Nodup := by
  refine (got_apart h).imp fun {a b} hab e => hab ?_
  rw [e]; exact ⟨rfl, rfl⟩

theorem got_size {L L' : List Pl} (h : L.Pairwise fun q r => ¬ (q.p = r.p ∧ q.c = r.c)) (h' : L'.Pairwise fun q r => ¬ (q.p = r.p ∧ q.c = r.c)) (ht : ∀ p c, (tv L p c).1 = (tv L' p c).1 ∧ (tv L p c).2.1 = (tv L' p c).2.1) : (got L).length = (got L').length :=
  ((List.perm_ext_iff_of_nodup (got_nodup h) (got_nodup h')).2 (got_same h h' ht)).length_eq

theorem ltF_irr (x : F) : ¬ ltF x x := by unfold ltF; omega
theorem ltF_tr (x y z : F) (h1 : ltF x y) (h2 : ltF y z) : ltF x z := by unfold ltF at *; omega

/-- What All gives of two tables that say the same. -/
theorem all_same {L L' : List Pl} (h : L.Pairwise fun q r => ¬ (q.p = r.p ∧ q.c = r.c)) (h' : L'.Pairwise fun q r => ¬ (q.p = r.p ∧ q.c = r.c)) (ht : ∀ p c, (tv L p c).1 = (tv L' p c).1 ∧ (tv L p c).2.1 = (tv L' p c).2.1)
    {l l' : List F} (hp : l.Perm (got L)) (hp' : l'.Perm (got L')) (hs : l.Pairwise ltF) (hs' : l'.Pairwise ltF) : l = l' :=
  sorted_same ltF_irr ltF_tr hs hs' fun x => by rw [hp.mem_iff, hp'.mem_iff]; exact got_same h h' ht x

end Go.Proofs.Ytmgafcbhoamkkaa
