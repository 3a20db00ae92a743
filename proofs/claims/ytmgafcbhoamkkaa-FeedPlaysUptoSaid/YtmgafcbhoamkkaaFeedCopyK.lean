/-
  'append([]int(nil), kinds...)' at a step of a region that draws its order. No condition.
-/
import Derived.Test.YtmgafcbhoamkkaaFeedSees
import Derived.Maps.AppendAt
import Derived.Laws.AppendOwnNone
import Derived.Deep.RegionLaw
namespace Go.Proofs.Ytmgafcbhoamkkaa
open Go.RowKit
set_option linter.unusedSimpArgs false

theorem own_ints {w : World} {B : Nat} {v : Value} {ks : List Int} (h : w.ownsRow B 3 1 v ks.length (ks.map fun k => .int .i64 k)) (hlen : ks.length ≤ 17592186043904) : KsR w (fun b => B ≤ b) v ks := by
  obtain ⟨p, cap, rfl, -, -, hp⟩ := own_slice h
  refine ⟨p, cap, rfl, hlen, fun h0 => ?_⟩
  obtain ⟨g, rfl, hg⟩ := hp h0
  rcases h.2 with ⟨h1, -⟩ | ⟨g', cap', cur, e1, h2, h3, h4, h5, h6, h7⟩
  · cases h1
  · cases e1
    refine ⟨g, 0, rfl, h2, hg, fun j hj => ?_⟩
    have e1 : (ks.map fun k => Value.int .i64 k)[j]? = some (.int .i64 (ks.getD j 0)) := by
      rw [List.getElem?_map, List.getElem?_eq_getElem hj]
      simp [List.getD, hj]
    rw [← h7, List.getElem?_take, if_pos (by omega), Array.getElem?_toList] at e1
    rw [Nat.zero_add]
    simp [World.cell?, h3, e1]

theorem run_copyK (w : World) {v : Value} {ks : List Int} (hf : IntsR w v ks) (hz : NoneZ v) :
    ∃ v' w', (Builtin.append_ #[27, 27] 27 #[.slice none 0 0, v]).run Try.prog w = .ok v' w' ∧ KsR w' (fun b => w.heap.size ≤ b) v' ks ∧ Below w.heap.size w w' := by
  obtain ⟨p, c, rfl, hlen, hc⟩ := hf
  obtain ⟨i0, hi, hz0, hz1, hz2⟩ := info_parts infoInt
  have hnil : w.ownsRow w.heap.size 3 1 (.slice none 0 0) 0 [] := World.ownsRow_nil _ _ _ _
  by_cases h0 : 0 < ks.length
  · obtain ⟨b, o', rfl, hlt, hcell⟩ := hc h0
    obtain ⟨v', w', hr, hown, hgrow, -, -⟩ := run_append_own_at (P := Try.prog) w w.heap.size 27 27 3 i0 _ 1 8 Try.underlying27 hi hz0 hz1 hz2 rfl (by decide) (.slice none 0 0) 0 [] hnil ⟨b, o', none⟩ ks.length c (ks.map fun k => .int .i64 k) (by simp)
      (fun j u hj => by
        rw [List.getElem?_map] at hj
        obtain ⟨k, hk, rfl⟩ := Option.map_eq_some_iff.1 hj
        have hjl := (List.getElem?_eq_some_iff.1 hk).1
        rw [add_none, hcell j hjl]
        simp [List.getD, hk]) (fun u hu => by
        obtain ⟨k, -, rfl⟩ := List.mem_map.1 hu
        rfl) (by simp only [maxLen]; omega) (by omega) (Nat.le_refl _)
    rw [Nat.zero_add, List.nil_append] at hown
    exact ⟨v', w', hr, own_ints hown hlen, below_own (Below.refl _ _) hgrow hnil (Nat.le_refl _)⟩
  · have hm0 : ks = [] := List.eq_nil_of_length_eq_zero (by omega)
    subst hm0
    cases p with
    | none =>
      obtain rfl := hz _ _ rfl
      exact ⟨_, _, run_append_owned_none (P := Try.prog) (w := w) w.heap.size 27 27 3 i0 1 Try.underlying27 hi (.slice none 0 0) 0 [] hnil, ⟨none, 0, rfl, by simp, fun h => by simp at h⟩, Below.refl _ _⟩
    | some ad =>
      obtain ⟨v', w', hr, hown, hgrow, -, -⟩ := run_append_own_at (P := Try.prog) w w.heap.size 27 27 3 i0 _ 1 8 Try.underlying27 hi hz0 hz1 hz2 rfl (by decide) (.slice none 0 0) 0 [] hnil ad 0 c [] (by simp)
        (fun j u hj => by simp at hj) (fun u hu => by simp at hu) (by simp [maxLen]) (by simp) (Nat.le_refl _)
      exact ⟨v', w', hr, own_ints (ks := []) hown (by simp), below_own (Below.refl _ _) hgrow hnil (Nat.le_refl _)⟩

theorem step_copyK {w : World} {ops : Array Oper} {o : Oper} {a : Act} {K : Act → World → Prop} {Q : Exit → Act → World → Prop} {E : Prop} (hgd : o.guard = none) (hty : o.type = 27) (x : Operand)
    (ho : o.op = .call { callee := .builtin .append, args := #[.const (.slice none 0 0), x], argTypes := #[27, 27] }) {v : Value} {ks : List Int} (hx : a.eval x = v) (hf : IntsR w v ks) (hz : NoneZ v)
    (h : ∀ v' w', KsR w' (fun b => w.heap.size ≤ b) v' ks → Below w.heap.size w w' → K (a.put o.dst v') w') : if Region.wanted o (yielded ops a.tmps) = true then Oper.wp Try.prog o a w K Q else E := by
  have hw : Region.wanted o (yielded ops a.tmps) = true := by simp [Region.wanted, hgd]
  rw [if_pos hw]
  obtain ⟨v', w', hr, h1, h2⟩ := run_copyK w hf hz
  unfold Oper.wp execOp
  simp only [ho, hty, resolve, invoke, builtin, Sem.run_bind, Sem.run_pure, Result.andThen_ok, List.map_toArray, List.map_cons, List.map_nil, Act.eval, hr]
  have hx' : a.eval x = v := hx
  first
  | (simp only [hx', hr, Result.andThen_ok]; exact h v' w' h1 h2)
  | (simp only [Act.eval] at hx'; simp only [hx', hr, Result.andThen_ok]; exact h v' w' h1 h2)

end Go.Proofs.Ytmgafcbhoamkkaa
