/-
  A map literal of many bound methods, laid down in one go: what the map holds. The walk of call.words. No condition.
-/
import Derived.Test.YtafignheedbnbaaGreatDoorPhC
import Derived.MapKept
import Derived.Test.YtafignheedbnbaaGreatDoorPhE
namespace Go.Proofs.YtafignheedbnbaaGreatDoor
open Go.RowKit Go.BigFrame
set_option linter.unusedSimpArgs false
set_option linter.unusedVariables false

theorem push_set {α : Type} (a : Array α) (x y : α) : (a.push x).setIfInBounds a.size y = a.push y := by
  apply Array.toList_inj.1
  rw [Array.toList_setIfInBounds, Array.toList_push, Array.toList_push, List.set_append_right _ _ (by simp)]
  simp

theorem run_update_new {P : Program} (mty kt et : TypeId) (s : ByteArray) (val : Value) (hm : P.underlying mty = some (.map kt et)) (hk : P.underlying kt = some .string) (W : World) (es : Array MapEntry) (clock : Nat)
    (hf : Instr.findNow .string (.string s) es.toList 0 = some none) :
    (Instr.mapUpdate mty (.map (some W.heap.size)) (.string s) val).run P (W.alloc (.map es clock)) = .ok () (W.alloc (.map (es.push { key := .string s, val := val, born := clock }) (clock + 1))) := by
  have hb : (W.alloc (.map es clock)).heap[W.heap.size]? = some (.map es clock) := heap_alloc_new W _
  have hc : (Instr.checkKey false 10000 kt (.string s)).run P (W.alloc (.map es clock)) = .ok () (W.alloc (.map es clock)) := MapKept.run_checkKey (k := .string s) hk (by simp [MapKept.IsKey]) false 9999
  have e : ({ W.alloc (.map es clock) with heap := (W.alloc (.map es clock)).heap.setIfInBounds W.heap.size (.map (es.push { key := .string s, val := val, born := clock }) (clock + 1)) } : World) = W.alloc (.map (es.push { key := .string s, val := val, born := clock }) (clock + 1)) := by
    have e2 := push_set W.heap (.map es clock) (.map (es.push { key := .string s, val := val, born := clock }) (clock + 1))
    show World.mk .. = World.mk ..
    exact congrArg (fun h => ({ W with heap := h } : World)) e2
  simp [Instr.mapUpdate, run_underlying hm, MapKept.run_getObj_map hb, hc, MapKept.run_findKey hk hf, MapKept.run_setObj_map _ hb, Result.andThen]
  exact e

def dstNe (mt : Nat) : Option Nat → Bool
  | some d => !(Nat.beq d mt)
  | none => true

/-- The operations of a map literal of function values: moves, bound methods, insertions of new text keys. -/
def litRun (mt : Nat) (mty : TypeId) : List Oper → Act → Array MapEntry → Nat → Option (Act × Array MapEntry × Nat)
  | [], a, es, c => some (a, es, c)
  | o :: r, a, es, c =>
    if o.guard.isNone && dstNe mt o.dst then
      match o.op with
      | .move x => litRun mt mty r (a.put o.dst (a.eval x)) es c
      | .makeFunc (.func f) xs ys => if ys.isEmpty then litRun mt mty r (a.put o.dst (.func (.func f) (xs.map a.eval) #[])) es c else none
      | .insert t (.tmp k) (.const (.string s)) y =>
        if Nat.beq t mty && Nat.beq k mt then
          match Instr.findNow .string (.string s) es.toList 0 with
          | some none => litRun mt mty r (a.put o.dst undef) (es.push { key := .string s, val := a.eval y, born := c }) (c + 1)
          | _ => none
        else none
      | _ => none
    else none

theorem eval_put_ne {a : Act} {mt : Nat} {d : Option Nat} {v : Value} (h : dstNe mt d = true) : (a.put d v).eval (.tmp mt) = a.eval (.tmp mt) := by
  cases d with
  | none => rfl
  | some d =>
    have hne : d ≠ mt := fun e => by subst e; simp [dstNe] at h
    simp [Act.put, Act.eval, hne]

theorem wpList_litRun {P : Program} {mty kt et : TypeId} (hm : P.underlying mty = some (.map kt et)) (hk : P.underlying kt = some .string) {ops : Array Oper} {Q : Exit → Act → World → Prop} {rest : List Oper} (W : World) {mt : Nat} :
    ∀ {l : List Oper} {a a' : Act} {es es' : Array MapEntry} {c c' : Nat}, litRun mt mty l a es c = some (a', es', c') → a.eval (.tmp mt) = .map (some W.heap.size) → wpList P ops Q rest a' (W.alloc (.map es' c')) → wpList P ops Q (l ++ rest) a (W.alloc (.map es c))
  | [], a, a', es, es', c, c', h, hv, k => by
    simp only [litRun, Option.some.injEq, Prod.mk.injEq] at h
    obtain ⟨rfl, rfl, rfl⟩ := h
    exact k
  | o :: l, a, a', es, es', c, c', h, hv, k => by
    unfold litRun at h
    split at h
    · rename_i hg
      rw [Bool.and_eq_true] at hg
      obtain ⟨hg, hd⟩ := hg
      refine wpList_plain (by simpa using hg) fun K hK => ?_
      unfold Oper.wp execOp
      split at h
      · rename_i x ho
        simp only [ho, Sem.run_pure]
        exact hK _ _ (wpList_litRun hm hk W h (by rw [eval_put_ne hd]; exact hv) k)
      · rename_i f xs ys ho
        split at h
        · rename_i hy
          have hy' : ys = #[] := by simpa using hy
          subst hy'
          have e0 : Array.map a.eval #[] = #[] := by simp
          simp only [ho, e0, Instr.makeFunc, Sem.run_bind, Sem.run_pure, Result.andThen_ok]
          exact hK _ _ (wpList_litRun hm hk W h (by rw [eval_put_ne hd]; exact hv) k)
        · cases h
      · rename_i t x s y ho
        split at h
        · rename_i ht
          rw [Bool.and_eq_true] at ht
          have ht1 : t = mty := Nat.eq_of_beq_eq_true ht.1
          have ht2 : x = mt := Nat.eq_of_beq_eq_true ht.2
          subst ht1 ht2
          split at h
          · rename_i hf
            have hr := run_update_new (P := P) t kt et s (a.eval y) hm hk W es c hf
            have hs : a.eval (.const (.string s)) = .string s := rfl
            simp only [ho, hv, hs, Sem.run_bind, hr, Result.andThen_ok, Sem.run_pure]
            exact hK _ _ (wpList_litRun hm hk W h (by rw [eval_put_ne hd]; exact hv) k)
          · cases h
        · cases h
      · cases h
    · cases h

theorem wpList_litRuns {P : Program} {mty kt et : TypeId} (hm : P.underlying mty = some (.map kt et)) (hk : P.underlying kt = some .string) {ops : Array Oper} {Q : Exit → Act → World → Prop} (W : World) {mt : Nat} (n : Nat)
    {l : List Oper} {a : Act} (a' : Act) {es : Array MapEntry} (es' : Array MapEntry) {c : Nat} (c' : Nat) (h : litRun mt mty (l.take n) a es c = some (a', es', c')) (hv : a.eval (.tmp mt) = .map (some W.heap.size)) (k : wpList P ops Q (l.drop n) a' (W.alloc (.map es' c'))) : wpList P ops Q l a (W.alloc (.map es c)) := by
  have := wpList_litRun (rest := l.drop n) (ops := ops) hm hk W h hv k
  rwa [List.take_append_drop] at this


def secondOps : Option Code → List Oper
  | some (.seq _ (.seq (.region _ ops _) _)) => ops.toList
  | _ => []
def wordsAct (cb H : Nat) : Act := ⟨((((Array.replicate 145 undef).setIfInBounds 0 (.pointer (some ⟨cb, 0, none⟩))).setIfInBounds 2 (.map none))).setIfInBounds 3 (.map (some H)), []⟩
noncomputable def wordsRun (cb H : Nat) : Option (Act × Array MapEntry × Nat) := litRun 3 152 (((secondOps Tryz.f95.body).drop 1).take 210) (wordsAct cb H) #[] 0
/-- What call.words puts into its map, for the call at block cb. -/
noncomputable def wordsOf (cb : Nat) : Array MapEntry := ((wordsRun cb 0).getD (⟨#[], []⟩, #[], 0)).2.1


set_option maxRecDepth 100000 in
theorem words_run (cb H : Nat) : wordsRun cb H = some (((wordsRun cb H).getD (⟨#[], []⟩, #[], 0)).1, wordsOf cb, 70) := by kernel_rfl

end Go.Proofs.YtafignheedbnbaaGreatDoor

/-
  The walk of call.words: the map of the bound methods.
-/
namespace Go.Proofs.YtafignheedbnbaaGreatDoor
open Go.RowKit Go.BigFrame

noncomputable def wordsEnd (cb H : Nat) : Act := ((wordsRun cb H).getD (⟨#[], []⟩, #[], 0)).1

theorem put_size (a : Act) (d : Option Nat) (v : Value) : (a.put d v).tmps.size = a.tmps.size := by cases d <;> simp [Act.put]
theorem put_defers (a : Act) (d : Option Nat) (v : Value) : (a.put d v).defers = a.defers := by cases d <;> rfl

theorem litRun_keeps {mt : Nat} {mty : TypeId} : ∀ {l : List Oper} {a a' : Act} {es es' : Array MapEntry} {c c' : Nat}, litRun mt mty l a es c = some (a', es', c') → a'.eval (.tmp mt) = a.eval (.tmp mt) ∧ a'.tmps.size = a.tmps.size ∧ a'.defers = a.defers
  | [], a, a', es, es', c, c', h => by
    simp only [litRun, Option.some.injEq, Prod.mk.injEq] at h
    obtain ⟨rfl, rfl, rfl⟩ := h
    exact ⟨rfl, rfl, rfl⟩
  | o :: l, a, a', es, es', c, c', h => by
    unfold litRun at h
    split at h
    · rename_i hg
      rw [Bool.and_eq_true] at hg
      obtain ⟨hg, hd⟩ := hg
      split at h
      · obtain ⟨h1, h2, h3⟩ := litRun_keeps h
        exact ⟨h1.trans (eval_put_ne hd), h2.trans (put_size ..), h3.trans (put_defers ..)⟩
      · split at h
        · obtain ⟨h1, h2, h3⟩ := litRun_keeps h
          exact ⟨h1.trans (eval_put_ne hd), h2.trans (put_size ..), h3.trans (put_defers ..)⟩
        · cases h
      · split at h
        · split at h
          · obtain ⟨h1, h2, h3⟩ := litRun_keeps h
            exact ⟨h1.trans (eval_put_ne hd), h2.trans (put_size ..), h3.trans (put_defers ..)⟩
          · cases h
        · cases h
      · cases h
    · cases h

theorem wordsAct_ok (cb H : Nat) : ((wordsAct cb H).eval (.tmp 3), (wordsAct cb H).tmps.size, (wordsAct cb H).defers) = (.map (some H), 145, []) := by kernel_rfl
theorem wordsEnd_ok (cb H : Nat) : (wordsEnd cb H).eval (.tmp 3) = .map (some H) ∧ (wordsEnd cb H).tmps.size = 145 ∧ (wordsEnd cb H).defers = [] := by
  have e := wordsAct_ok cb H
  simp only [Prod.mk.injEq] at e
  obtain ⟨e1, e2, e3⟩ := e
  have hr : wordsRun cb H = some (wordsEnd cb H, wordsOf cb, 70) := words_run cb H
  generalize wordsEnd cb H = A at *
  unfold wordsRun at hr
  obtain ⟨h1, h2, h3⟩ := litRun_keeps hr
  exact ⟨h1.trans e1, h2.trans e2, h3.trans e3⟩

theorem wpList_move1 {P : Program} {ops : Array Oper} {Q : Exit → Act → World → Prop} {rest : List Oper} {o : Oper} {a : Act} {w : World} (hg : o.guard = none) (x : Operand) (ho : o.op = .move x ∨ o.op = .assign x) (k : wpList P ops Q rest (a.put o.dst (a.eval x)) w) : wpList P ops Q (o :: rest) a w := by
  refine wpList_plain hg fun K hK => ?_
  unfold Oper.wp execOp
  rcases ho with ho | ho <;> simp only [ho, Sem.run_pure] <;> exact hK _ _ k

set_option maxRecDepth 100000 in
theorem words_any (cb : Nat) (w : World) : Calls Tryz.prog 95 #[.pointer (some ⟨cb, 0, none⟩)] w fun e w' => e = .returned (.map (some w.heap.size)) ∧ w' = w.alloc (.map (wordsOf cb) 70) := by
  refine calls_of_wp Tryz.func95 rfl ?_
  refine wp_seq_k fun K hK => ?_
  refine wp_region_lit (wpList_runs 1 ⟨((Array.replicate 145 undef).setIfInBounds 0 (.pointer (some ⟨cb, 0, none⟩))).setIfInBounds 2 (.map none), []⟩ w (by kernel_rfl) (wpList_nil ?_))
  refine hK _ _ ?_
  clear hK K
  refine wp_seq_k fun K hK => ?_
  refine wp_region_lit (wpList_runs 1 (wordsAct cb w.heap.size) (w.alloc (.map #[] 0)) (by kernel_rfl) ?_)
  refine wpList_litRuns Tryz.underlying152 Tryz.underlying9 w 210 (wordsEnd cb w.heap.size) (wordsOf cb) 70 (words_run cb w.heap.size) rfl ?_
  obtain ⟨h1', h2', h3'⟩ := wordsEnd_ok cb w.heap.size
  generalize wordsEnd cb w.heap.size = A at *
  refine wpList_runs 2 ((A.put (some 144) (A.eval (.tmp 3))).put (some 2) ((A.put (some 144) (A.eval (.tmp 3))).eval (.tmp 144))) (w.alloc (.map (wordsOf cb) 70)) (by kernel_rfl) (wpList_nil ?_)
  have e1 : (A.put (some 144) (A.eval (.tmp 3))).eval (.tmp 144) = .map (some w.heap.size) := by rw [h1']; simp [Act.put, Act.eval, h2']
  rw [e1]
  refine hK _ _ (wp_ret ?_)
  exact bodyPost_ret (v := .map (some w.heap.size)) (by simp [results, Tryz.results95, go_sem, Act.put, h2']) (by rw [put_defers, put_defers]; exact h3') ⟨rfl, rfl⟩

end Go.Proofs.YtafignheedbnbaaGreatDoor

/-
  What the map of the bound methods holds, as a table; a name's function is found in it.
-/
namespace Go.Proofs.YtafignheedbnbaaGreatDoor
open Go.RowKit

def wordsT : List (List UInt8 × Nat) := [([113,117,111,116,105,101,110,116], 129), ([114,101,109,97,105,110,100,101,114], 129), ([109,111,100,117,108,111], 129), ([97,98,115], 130), ([109,105,110], 131), ([109,97,120], 131), ([103,99,100], 132), ([101,120,112,116], 133), ([122,101,114,111,63], 134), ([112,111,115,105,116,105,118,101,63], 134), ([110,101,103,97,116,105,118,101,63], 134), ([111,100,100,63], 134), ([101,118,101,110,63], 134), ([110,117,109,98,101,114,45,62,115,116,114,105,110,103], 135), ([115,116,114,105,110,103,45,62,110,117,109,98,101,114], 136), ([101,113,118,63], 137), ([101,113,117,97,108,63], 137), ([110,117,109,98,101,114,63], 138), ([98,111,111,108,101,97,110,63], 138), ([108,105,115,116,63], 138), ([115,121,109,98,111,108,63], 138), ([115,116,114,105,110,103,63], 138), ([99,104,97,114,63], 138), ([118,101,99,116,111,114,63], 138), ([112,114,111,99,101,100,117,114,101,63], 138), ([99,111,110,100,105,116,105,111,110,63], 138), ([115,101,116,45,99,97,114,33], 139), ([115,101,116,45,99,100,114,33], 139), ([108,105,115,116], 140), ([108,101,110,103,116,104], 141), ([97,112,112,101,110,100], 142), ([114,101,118,101,114,115,101], 143), ([108,105,115,116,45,114,101,102], 144), ([108,105,115,116,45,116,97,105,108], 144), ([109,101,109,113], 145), ([109,101,109,118], 145), ([109,101,109,98,101,114], 145), ([97,115,115,113], 146), ([97,115,115,118], 146), ([97,115,115,111,99], 146), ([118,101,99,116,111,114], 147), ([109,97,107,101,45,118,101,99,116,111,114], 148), ([118,101,99,116,111,114,45,108,101,110,103,116,104], 149), ([118,101,99,116,111,114,45,114,101,102], 150), ([118,101,99,116,111,114,45,115,101,116,33], 151), ([118,101,99,116,111,114,45,62,108,105,115,116], 152), ([108,105,115,116,45,62,118,101,99,116,111,114], 153), ([118,101,99,116,111,114,45,102,105,108,108,33], 154), ([115,116,114,105,110,103,45,108,101,110,103,116,104], 155), ([115,116,114,105,110,103,45,114,101,102], 156), ([115,116,114,105,110,103,45,97,112,112,101,110,100], 157), ([115,117,98,115,116,114,105,110,103], 158), ([115,116,114,105,110,103,61,63], 159), ([115,116,114,105,110,103,60,63], 159), ([115,116,114,105,110,103,45,62,108,105,115,116], 160), ([108,105,115,116,45,62,115,116,114,105,110,103], 161), ([115,116,114,105,110,103,45,62,115,121,109,98,111,108], 162), ([115,121,109,98,111,108,45,62,115,116,114,105,110,103], 163), ([99,104,97,114,45,62,105,110,116,101,103,101,114], 164), ([105,110,116,101,103,101,114,45,62,99,104,97,114], 165), ([99,104,97,114,61,63], 166), ([99,104,97,114,60,63], 166), ([119,114,105,116,101], 167), ([100,105,115,112,108,97,121], 167), ([110,101,119,108,105,110,101], 167), ([119,114,105,116,101,45,99,104,97,114], 167), ([99,111,110,100,105,116,105,111,110,45,99,108,97,115,115], 168), ([99,111,110,100,105,116,105,111,110,45,109,101,115,115,97,103,101], 168), ([99,111,110,100,105,116,105,111,110,45,105,114,114,105,116,97,110,116,115], 168), ([118,111,105,100], 169)]
set_option maxRecDepth 100000 in
theorem words_eq (cb : Nat) : (wordsOf cb).toList.map (fun e => (e.key, e.val)) = wordsT.map fun p => (Value.string ⟨p.1.toArray⟩, Value.func (.func p.2) #[.pointer (some ⟨cb, 0, none⟩)] #[]) := by kernel_rfl

def findT (l : List UInt8) : List (List UInt8 × Nat) → Option Nat
  | [] => none
  | (a, f) :: r => if a = l then some f else findT l r

theorem ba_beq : ∀ x y : ByteArray, (x == y) = (x.data == y.data)
  | ⟨_⟩, ⟨_⟩ => rfl

theorem findNow_of (l : List UInt8) (P : Value) (f : Nat) : ∀ (T : List (List UInt8 × Nat)) (es : List MapEntry) (i : Nat), es.map (fun e => (e.key, e.val)) = T.map (fun p => (Value.string ⟨p.1.toArray⟩, Value.func (.func p.2) #[P] #[])) → findT l T = some f →
    ∃ j, Instr.findNow .string (.string ⟨l.toArray⟩) es i = some (some (j, .func (.func f) #[P] #[]))
  | [], [], i, _, h => by cases h
  | [], e :: es, i, h, _ => by simp at h
  | (a, g) :: T, [], i, h, _ => by simp at h
  | (a, g) :: T, e :: es, i, h, hf => by
    simp only [List.map_cons, List.cons.injEq, Prod.mk.injEq] at h
    obtain ⟨⟨hk, hv⟩, ht⟩ := h
    unfold findT at hf
    unfold Instr.findNow
    rw [hk]
    by_cases ha : a = l
    · rw [if_pos ha] at hf
      cases hf
      subst ha
      refine ⟨i, ?_⟩
      simp [Instr.sameNow, hv, ba_beq]
    · rw [if_neg ha] at hf
      obtain ⟨j, hj⟩ := findNow_of l P f T es (i + 1) ht hf
      refine ⟨j, ?_⟩
      have hne : ((⟨l.toArray⟩ : ByteArray) == ⟨a.toArray⟩) = false := by
        rw [ba_beq, beq_eq_false_iff_ne]
        intro e
        apply ha
        have e2 := congrArg Array.toList e
        simpa using e2.symm
      simp [Instr.sameNow, hne, hj]

theorem words_find {i f : Nat} (h : findT (primT.getD i ([], 0, 0)).1 wordsT = some f) (cb : Nat) : ∃ j, Instr.findNow .string (.string (nm i)) (wordsOf cb).toList 0 = some (some (j, .func (.func f) #[.pointer (some ⟨cb, 0, none⟩)] #[])) :=
  findNow_of _ _ f wordsT _ 0 (words_eq cb) h

theorem find_test : findT (primT.getD 60 ([], 0, 0)).1 wordsT = some 153 := by decide +kernel

end Go.Proofs.YtafignheedbnbaaGreatDoor
