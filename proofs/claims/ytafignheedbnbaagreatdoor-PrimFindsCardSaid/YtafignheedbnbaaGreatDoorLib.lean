/-
  Small lemmas of this seat's own, used by its walks: append of one element to a slice that the call owns; what stays below a block's number.
-/
import Derived.Test.YtafignheedbnbaaGreatDoorRows
import Derived.WalkKit
import Derived.WalkSpells
import Derived.WalkLawsBesides
import Derived.BigRegion
import Derived.Deep.WholeRow
import Derived.BigQuiet
import Derived.Deep.QuietTactic
namespace Go.Proofs.YtafignheedbnbaaGreatDoor
open Go.RowKit

theorem wpList_append1 {P : Program} (w : World) {ops : Array Oper} {rest : List Oper} {o : Oper} {a : Act} {Q : Exit → Act → World → Prop} (hgd : o.guard = none) (s x : Operand) (t : TypeId)
    (ho : o.op = .call { callee := .builtin .append, args := #[s, x], argTypes := #[t, t] })
    (base : Nat) (e : TypeId) (i : TypeInfo) (z : Value) (bytes : Nat) (ht : P.underlying t = some (.slice e)) (hi : P.info? e = some i) (hz : i.zero = some z)
    (hsize : i.size = 1) (hby : i.bytes = bytes) (hzs : z.cells.size = 1)
    (v : Value) (n : Nat) (xs : List Value) (hs : a.eval s = v) (hown : w.ownsRow base e 1 v n xs)
    (g : Nat) (u : Value) (hx : a.eval x = .slice (some ⟨g, 0, none⟩) 1 1) (hcell : w.cell? ⟨g, 0, none⟩ = some u) (h1 : u.oneCell' = true)
    (h63 : n + 1 ≤ maxLen) (hbytes : (n + 1) * bytes ≤ 140737488355328) (hbase : base ≤ w.heap.size)
    (h : ∀ v' w', w'.ownsRow base e 1 v' (n + 1) (xs ++ [u]) → w.grownBy w' v.ownBlock → wpList P ops Q rest (a.put o.dst v') w') : wpList P ops Q (o :: rest) a w :=
  wpList_append_own w hgd s x t ho base e i z 1 bytes ht hi hz hsize hby hzs (by decide) v n xs hs hown ⟨g, 0, none⟩ 1 1 [u] hx rfl
    (by intro j u' hj; match j, hj with | 0, hj => simp at hj; subst hj; simpa [Addr.add] using hcell) (by intro u' hu; simp at hu; subst hu; exact h1) h63 hbytes hbase
    (fun v' w' h2 h3 _ => h v' w' h2 h3)

def OwnInts (w : World) (l : List Int) (e : Ending) (w' : World) : Prop :=
  ∃ v, e = .returned v ∧ w'.ownsRow w.heap.size 3 1 v l.length (l.map (Value.int .i64)) ∧ Below w.heap.size w w'


theorem hide {p : Prop} (h : p) : Hid p := h
theorem ret_int {k : IntKind} {a b : Int} (h : a = b) : Ending.returned (.int k a) = Ending.returned (.int k b) := by rw [h]
theorem ret_bool {a b : Bool} (h : a = b) : Ending.returned (.bool a) = Ending.returned (.bool b) := by rw [h]

/-- Behind an append to a slice of the call's own. -/
theorem below_own {B : Nat} {a w w' : World} {e : TypeId} {size n : Nat} {v : Value} {xs : List Value} (h : Below B a w) (hg : w.grownBy w' v.ownBlock) (hown : w.ownsRow B e size v n xs) (hB : B ≤ w.heap.size) : Below B a w' := by
  refine h.grown hg hB fun k hk => ?_
  rcases hown.2 with ⟨rfl, _⟩ | ⟨g, cap, cur, rfl, hg, _⟩
  · simp [Value.ownBlock] at hk
  · simp [Value.ownBlock] at hk; omega

/-- Behind a make or an append to a nil slice: what was there reads as it did. -/
theorem bgrow {W w1 : World} {row : Option Nat} (hg : W.grownBy w1 row) (hrow : row = none) :
    (∀ b o, b < W.heap.size → w1.cell? ⟨b, o, none⟩ = W.cell? ⟨b, o, none⟩) ∧ (∀ b o, b < W.heap.size → w1.frozen? ⟨b, o, none⟩ = W.frozen? ⟨b, o, none⟩) ∧ W.heap.size ≤ w1.heap.size := by
  subst hrow
  exact ⟨fun b o h => World.cell?_of_block (w := W) (hg.block b h (by simp)), fun b o h => World.frozen?_of_block (w := W) (hg.block b h (by simp)), hg.size⟩

@[go_sem] theorem drewN_size (w : World) (n : Nat) : (w.drewN n).heap.size = w.heap.size := rfl

/-- Operations that the kernel can run by itself, one behind the other. -/
def runL (P : Program) : List Oper → Act → World → Option (Act × World)
  | [], a, w => some (a, w)
  | o :: r, a, w => if o.guard.isNone then
      match (execOp a.eval o).run P w with
      | .ok (.value v) w' => runL P r (a.put o.dst v) w'
      | .ok .skip w' => runL P r (a.put o.dst undef) w'
      | _ => none
    else none

theorem wpList_run {P : Program} {ops : Array Oper} {Q : Exit → Act → World → Prop} {rest : List Oper} : ∀ {l : List Oper} {a a' : Act} {w w' : World}, runL P l a w = some (a', w') → wpList P ops Q rest a' w' → wpList P ops Q (l ++ rest) a w
  | [], a, a', w, w', h, k => by
    simp only [runL, Option.some.injEq, Prod.mk.injEq] at h
    obtain ⟨rfl, rfl⟩ := h
    exact k
  | o :: l, a, a', w, w', h, k => by
    unfold runL at h
    split at h
    · rename_i hg
      refine wpList_plain (by simpa using hg) fun K hK => ?_
      unfold Oper.wp
      split at h
      · rename_i v w1 hr
        rw [hr]; exact hK _ _ (wpList_run h k)
      · rename_i w1 hr
        rw [hr]; exact hK _ _ (wpList_run h k)
      · cases h
    · cases h

theorem wpList_runs {P : Program} {ops : Array Oper} {Q : Exit → Act → World → Prop} (n : Nat) {l : List Oper} {a : Act} {w : World} (a' : Act) (w' : World) (h : runL P (l.take n) a w = some (a', w')) (k : wpList P ops Q (l.drop n) a' w') : wpList P ops Q l a w := by
  have := wpList_run (rest := l.drop n) (ops := ops) h k
  rwa [List.take_append_drop] at this

theorem wpList_store_new {P : Program} {ops : Array Oper} {Q : Exit → Act → World → Prop} {rest : List Oper} {o : Oper} {a : Act} (w : World) (hgd : o.guard = none) (ty : TypeId) (x y : Operand) (ho : o.op = .store ty x y) (c c' : Array Value)
    (hx : a.eval x = .pointer (some ⟨w.heap.size, 0, none⟩)) (hy : a.eval y = .agg c') (hi : (P.info? ty).map (·.size) = some c'.size) (hs : c.size = c'.size) (h1 : c'.all (·.oneCell') = true)
    (h : wpList P ops Q rest (a.put o.dst undef) (w.alloc (.cells c' ty))) : wpList P ops Q (o :: rest) a (w.alloc (.cells c ty)) :=
  wpList_plain hgd fun _ hK => by
    unfold Oper.wp execOp
    simp only [ho, hx, hy, Sem.run_bind, run_storeAt_new w ty c c' hi hs h1, Result.andThen_ok, Sem.run_pure]
    exact hK _ _ h

/-- A world in which all that was in W stands as it stood. -/
def Later (W : World) := { w : World // Below W.heap.size W w }
instance (W : World) : Nonempty (Later W) := ⟨⟨W, Below.refl _ _⟩⟩
def after (W : World) (x : Later W) : World := x.1
@[go_sem] theorem after_cell (W : World) (x : Later W) (b o : Nat) (h : b < W.heap.size) : (after W x).cell? ⟨b, o, none⟩ = W.cell? ⟨b, o, none⟩ := x.2.cell (p := ⟨b, o, none⟩) h
@[go_sem] theorem after_frozen (W : World) (x : Later W) (b o : Nat) (h : b < W.heap.size) : (after W x).frozen? ⟨b, o, none⟩ = W.frozen? ⟨b, o, none⟩ := x.2.frozen (p := ⟨b, o, none⟩) h
theorem after_heap (W : World) (x : Later W) (b : Nat) (h : b < W.heap.size) : (after W x).heap[b]? = W.heap[b]? := x.2.block b h
theorem after_size (W : World) (x : Later W) : W.heap.size ≤ (after W x).heap.size := x.2.size

/-- A region that draws its order, whose operations read what was there and whose callees at most make new blocks: one walk of the text's order. -/
theorem wp_region_later {P : Program} {id : Nat} {Q : Exit → Act → World → Prop} {a : Act} {w : World} {l : List Oper} (hm : P.follows .mixedOrders = true) (hB : Region.lexB .any l.toArray = true)
    (h : wpQuiet P l.toArray (fun w' => ∃ x : Later w, w' = after w x) (fun a' => ∀ w', (∃ x : Later w, w' = after w x) → Q .normal a' w') l a) : (Code.region id l.toArray true).wp P Q a w :=
  wp_region_quiet (C := fun w' => ∃ x : Later w, w' = after w x) hm hB ⟨⟨_, (Below.refl w.heap.size w).drew⟩, rfl⟩ (by simpa using h)

/-- A callee's contract, met in a later world. -/
theorem later_of {P : Program} {f : FuncId} {args : Array Value} {w : World} {x : Later w} {v : Value}
    (h : Calls P f args (after w x) fun e w' => e = .returned v ∧ Below (after w x).heap.size (after w x) w') : Calls P f args (after w x) fun e w'' => e = .returned v ∧ ∃ y : Later w, w'' = after w y :=
  h.mono fun _ w'' ⟨he, hb⟩ => ⟨he, ⟨w'', x.2.trans (hb.mono (after_size w x))⟩, rfl⟩

end Go.Proofs.YtafignheedbnbaaGreatDoor
