/- A verified executor of the program's code, part XDrA; no condition. -/
import Derived.Test.YtafignheedbnbaaGreatDoorXOps
namespace Go.Proofs.YtafignheedbnbaaGreatDoor.X
open Go
set_option linter.unusedVariables false
set_option linter.unusedSimpArgs false

theorem fillP_congr {f g : Opd → V} : ∀ (ps : List (Nat × Nat × Opd)) (cs : List V), (∀ x ∈ pOpds ps, f x = g x) → fillP f ps cs = fillP g ps cs
  | [], _, _ => rfl
  | (off, sz, x) :: r, cs, h => by
    have h1 : f x = g x := h x (by simp [pOpds])
    have ih := fun cs => fillP_congr r cs (fun y hy => h y (by simp [pOpds] at hy ⊢; exact .inr hy))
    simp only [fillP, h1, ih]
theorem mm_congr {F G : Fr} (mx : Bool) : ∀ (xs : List Opd) (v : V), (∀ x ∈ xs, ev F x = ev G x) → mm mx F xs v = mm mx G xs v
  | [], _, _ => rfl
  | x :: r, v, h => by
    have h1 : ev F x = ev G x := h x (by simp)
    have ih := fun v => mm_congr mx r v (fun y hy => h y (by simp [hy]))
    cases v <;> simp only [mm, h1, ih]
theorem bndO_congr {F G : Fr} {x : Option Opd} {a b : Nat} (h : ∀ y ∈ x.toList, ev F y = ev G y) : bndO F x a b = bndO G x a b := by
  cases x with
  | none => rfl
  | some y => simp only [bndO, h y (by simp)]
theorem doX_congr {o : XO} {F G : Fr} {H : Hp} (h : ∀ x ∈ o.opds, ev F x = ev G x) : doX o F H = doX o G H := by
  cases o with
  | build z ps => simp only [doX, fillP_congr ps z h]
  | bslice s z l ps => simp only [doX, fillP_congr ps z h]
  | min xs =>
    cases xs with
    | nil => rfl
    | cons x r => simp only [doX, mm_congr false r _ (fun y hy => h y (by simp [XO.opds, hy])), h x (by simp [XO.opds])]
  | max xs =>
    cases xs with
    | nil => rfl
    | cons x r => simp only [doX, mm_congr true r _ (fun y hy => h y (by simp [XO.opds, hy])), h x (by simp [XO.opds])]
  | mkfunc fn l m =>
    have h1 : l.map (ev F) = l.map (ev G) := List.map_congr_left fun x hx => h x (by simp [XO.opds, hx])
    have h2 : m.map (ev F) = m.map (ev G) := List.map_congr_left fun x hx => h x (by simp [XO.opds, hx])
    simp only [doX, h1, h2]
  | sliceS x a b =>
    simp only [XO.opds, List.mem_cons, List.mem_append] at h
    have h1 := h x (.inl rfl)
    have h2 : ∀ m n, bndO F a m n = bndO G a m n := fun m n => bndO_congr fun y hy => h y (.inr (.inl hy))
    have h3 : ∀ m n, bndO F b m n = bndO G b m n := fun m n => bndO_congr fun y hy => h y (.inr (.inr hy))
    simp only [doX, h1, h2, h3]
  | sliceL s x a b c =>
    simp only [XO.opds, List.mem_cons, List.mem_append] at h
    have h1 := h x (.inl rfl)
    have h2 : ∀ m n, bndO F a m n = bndO G a m n := fun m n => bndO_congr fun y hy => h y (.inr (.inl (.inl hy)))
    have h3 : ∀ m n, bndO F b m n = bndO G b m n := fun m n => bndO_congr fun y hy => h y (.inr (.inl (.inr hy)))
    have h4 : ∀ m n, bndO F c m n = bndO G c m n := fun m n => bndO_congr fun y hy => h y (.inr (.inr hy))
    simp only [doX, h1, h2, h3, h4]
  | sliceA n s x a b c =>
    simp only [XO.opds, List.mem_cons, List.mem_append] at h
    have h1 := h x (.inl rfl)
    have h2 : ∀ m n, bndO F a m n = bndO G a m n := fun m n => bndO_congr fun y hy => h y (.inr (.inl (.inl hy)))
    have h3 : ∀ m n, bndO F b m n = bndO G b m n := fun m n => bndO_congr fun y hy => h y (.inr (.inl (.inr hy)))
    have h4 : ∀ m n, bndO F c m n = bndO G c m n := fun m n => bndO_congr fun y hy => h y (.inr (.inr hy))
    simp only [doX, h1, h2, h3, h4]
  | _ => simp only [XO.opds, List.mem_cons, List.not_mem_nil, or_false, forall_eq_or_imp, forall_eq] at h; simp only [doX, h]
theorem opX_congr {E : Env} {run : Run} {o : XO} {F G : Fr} {H : Hp} (h : ∀ x ∈ o.opds, ev F x = ev G x) : opX E run o F H = opX E run o G H := by
  cases o with
  | call f l =>
    have h1 : l.map (ev F) = l.map (ev G) := List.map_congr_left fun x hx => h x hx
    simp only [opX, h1]
  | dyn f l =>
    have h1 : l.map (ev F) = l.map (ev G) := List.map_congr_left fun x hx => h x (by simp [XO.opds, hx])
    simp only [opX, h1, h f (by simp [XO.opds])]
  | dfr f l =>
    have h1 : l.map (ev F) = l.map (ev G) := List.map_congr_left fun x hx => h x (by simp [XO.opds, hx])
    simp only [opX, h1, h f (by simp [XO.opds])]
  | invoke n x l =>
    have h1 : l.map (ev F) = l.map (ev G) := List.map_congr_left fun y hy => h y (by simp [XO.opds, hy])
    simp only [opX, h1, h x (by simp [XO.opds])]
  | _ => exact doX_congr (H := H) h
theorem opX_plain {E : Env} {run : Run} {o : XO} {F : Fr} {H : Hp} (h : o.kind ≤ 2) : opX E run o F H = doX o F H := by
  cases o <;> first | rfl | (simp [XO.kind] at h)

theorem eqV_next (t : Tr Blk) (m n : P) : (∀ (k : EqK) (x y : V), eqV ⟨t, m⟩ k x y = eqV ⟨t, n⟩ k x y) := by
  have hp : ∀ a b, ptrEq ⟨t, m⟩ a b = ptrEq ⟨t, n⟩ a b := fun a b => by cases a <;> cases b <;> rfl
  intro k
  refine EqK.rec (motive_1 := fun k => ∀ x y, eqV ⟨t, m⟩ k x y = eqV ⟨t, n⟩ k x y) (motive_2 := fun ps => ∀ xs ys, eqP ⟨t, m⟩ ps xs ys = eqP ⟨t, n⟩ ps xs ys)
    (motive_3 := fun q => ∀ x y, eqV ⟨t, m⟩ q.2.2 x y = eqV ⟨t, n⟩ q.2.2 x y) (motive_4 := fun q => ∀ x y, eqV ⟨t, m⟩ q.2 x y = eqV ⟨t, n⟩ q.2 x y) ?_ ?_ ?_ ?_ ?_ ?_ ?_ ?_ ?_ ?_ ?_ ?_ ?_ k
  all_goals try (intro x y; rfl)
  · intro ps ih x y; simp only [eqV]; split
    · exact ih _ _
    · rfl
  · rintro ⟨off, sz, k⟩ r h1 h2 xs ys
    simp only [eqP]
    split
    · rename_i x y e1 e2
      simp only [show eqV ⟨t, m⟩ k x y = eqV ⟨t, n⟩ k x y from h1 x y, h2]
    · rfl
  all_goals (intro a q h; exact h)
theorem findK_next (t : Tr Blk) (m n : P) (k : EqK) (key : V) : ∀ (l : List (V × V × Nat)) (i : Nat), findK ⟨t, m⟩ k key l i = findK ⟨t, n⟩ k key l i
  | [], _ => rfl
  | (k', v, b) :: r, i => by simp only [findK, eqV_next t m n, findK_next t m n k key r]

theorem eqV_blind {k : EqK} (h : k = .bool ∨ k = .int ∨ k = .str ∨ k = .slc ∨ k = .map ∨ k = .fn ∨ k = .ifc) (H G : Hp) (x y : V) : eqV H k x y = eqV G k x y := by
  rcases h with rfl | rfl | rfl | rfl | rfl | rfl | rfl <;> rfl

theorem eq_kind0 {neg : Bool} {k : EqK} {x y : Opd} (h : (XO.eq neg k x y).kind = 0) : k = .bool ∨ k = .int ∨ k = .str ∨ k = .slc ∨ k = .map ∨ k = .fn ∨ k = .ifc := by
  cases k <;> simp_all [XO.kind]
theorem kind_len {k : Nat} {x : Opd} : (XO.len k x).kind = if k = 2 then 1 else 0 := by
  rcases k with _ | _ | _ | k <;> rfl
theorem snd_eq {F : Option V} {H H' : Hp} {v : V} (h : (match F with | some u => some (u, H) | none => none) = some (v, H')) : F = some v ∧ H' = H := by
  cases F <;> simp_all
set_option maxHeartbeats 1000000 in
/-- what hangs on nothing -/
theorem doX_P {o : XO} {F : Fr} {H H' : Hp} {v : V} (hk : o.kind = 0) (h : doX o F H = some (v, H')) : H' = H ∧ ∀ G, doX o F G = some (v, G) := by
  cases o with
  | eq neg k x y =>
    have hb := eqV_blind (eq_kind0 hk)
    simp only [doX] at h ⊢
    split at h
    · rename_i b hb'
      simp at h; obtain ⟨rfl, rfl⟩ := h
      exact ⟨rfl, fun G => by rw [hb G H, hb']⟩
    · cases h
  | len k x =>
    rw [kind_len] at hk
    simp only [doX] at h ⊢
    split at h <;> first | (simp at h; obtain ⟨rfl, rfl⟩ := h; exact ⟨rfl, fun G => rfl⟩) | (simp at hk; done) | cases h
  | _ =>
    first
    | (simp [XO.kind] at hk; done)
    | (cases h; done)
    | (simp only [doX, cond_eq_ite] at h ⊢
       repeat' split at h
       all_goals first
         | (cases h; done)
         | (simp only [Option.some.injEq, Prod.mk.injEq] at h; obtain ⟨h1, h2⟩ := h; refine ⟨h2.symm, fun G => ?_⟩; rw [← h1] <;> first | rfl | (simp only [*]; done) | (simp [*]; done) | (split <;> simp_all)))
set_option maxHeartbeats 1000000 in
/-- what only reads -/
theorem doX_Q {o : XO} {F : Fr} {t : Tr Blk} {m : P} {H' : Hp} {v : V} (hk : o.kind = 1) (h : doX o F ⟨t, m⟩ = some (v, H')) : H' = ⟨t, m⟩ ∧ ∀ n, doX o F ⟨t, n⟩ = some (v, ⟨t, n⟩) := by
  have e1 : ∀ b i n, Hp.load ⟨t, n⟩ b i = Hp.load ⟨t, m⟩ b i := fun _ _ _ => rfl
  have e2 : ∀ b i k n, Hp.loadn ⟨t, n⟩ b i k = Hp.loadn ⟨t, m⟩ b i k := fun _ _ _ _ => rfl
  have e3 : ∀ b n, Hp.get ⟨t, n⟩ b = Hp.get ⟨t, m⟩ b := fun _ _ => rfl
  have e4 : ∀ n k x y, eqV ⟨t, n⟩ k x y = eqV ⟨t, m⟩ k x y := fun n k x y => eqV_next t n m k x y
  have e5 : ∀ n k x l i, findK ⟨t, n⟩ k x l i = findK ⟨t, m⟩ k x l i := fun n k x l i => findK_next t n m k x l i
  cases o with
  | len k x =>
    rw [kind_len] at hk
    simp only [doX] at h ⊢
    split at h <;> first
      | (simp at hk; done)
      | (cases h; done)
      | (simp at h; obtain ⟨rfl, rfl⟩ := h; exact ⟨rfl, fun G => rfl⟩)
      | (split at h <;> first | (cases h; done) | (simp only [Option.some.injEq, Prod.mk.injEq] at h; obtain ⟨h1, h2⟩ := h; refine ⟨h2.symm, fun n => ?_⟩; rw [← h1] <;> simp_all))
  | _ =>
    first
    | (simp [XO.kind] at hk; done)
    | (cases h; done)
    | (simp only [doX, cond_eq_ite] at h ⊢
       simp only [e1, e2, e3, e4, e5]
       repeat' split at h
       all_goals first
         | (cases h; done)
         | (simp only [Option.some.injEq, Prod.mk.injEq] at h; obtain ⟨h1, h2⟩ := h; refine ⟨h2.symm, fun n => ?_⟩; rw [← h1] <;> first | rfl | (simp only [*]; done) | (simp [*]; done) | (split <;> simp_all)))
set_option maxHeartbeats 1000000 in
/-- what makes memory -/
theorem doX_N {o : XO} {F : Fr} {H H' : Hp} {v : V} (hk : o.kind = 2) (h : doX o F H = some (v, H')) : ∃ x, H' = H.new x ∧ ∀ G : Hp, G.next = H.next → doX o F G = some (v, G.new x) := by
  cases o with
  | eq neg k x y => exfalso; cases k <;> simp [XO.kind] at hk
  | len k x => exfalso; rw [kind_len] at hk; split at hk <;> cases hk
  | _ =>
    first
    | (simp [XO.kind] at hk; done)
    | (cases h; done)
    | (simp only [doX, cond_eq_ite, Hp.newRow] at h ⊢
       repeat' split at h
       all_goals first
         | (cases h; done)
         | (simp only [Option.some.injEq, Prod.mk.injEq] at h; obtain ⟨h1, h2⟩ := h; refine ⟨_, h2.symm, fun G hG => ?_⟩; rw [← h1, hG] <;> first | rfl | (simp only [*]; done) | (simp [*]; done) | (simp_all)))
