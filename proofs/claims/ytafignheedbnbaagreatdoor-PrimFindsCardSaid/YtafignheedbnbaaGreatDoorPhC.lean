/-
  'append(s, make([]T, k)...)' onto a slice that the call owns, of elements of one cell: what it leaves. No function of the program in sight; no condition.
-/
import Derived.Test.YtafignheedbnbaaGreatDoorPhB
import Derived.Lib.AppendZerosOnto
import Derived.Outline
import Derived.Deep.AppendLies
import Derived.Deep.OwnRows
import Derived.Carry
import Derived.Deep.WholeRow
namespace Go.Proofs.YtafignheedbnbaaGreatDoor
open Go.RowKit
set_option linter.unusedSimpArgs false

theorem run_append_room_zeros {P : Program} (w : World) (t tn ty e : TypeId) (i : TypeInfo) (z : Value) (kq kn : IntKind) (ht : P.underlying t = some (.slice e)) (htn : P.underlying tn = some (.int kn)) (hi : P.info? e = some i) (hz : i.zero = some z)
    (g sLen sCap : Nat) (cur : Array Value) (hg : w.heap[g]? = some (.cells cur e (0, 0))) (k : Nat) (h0 : 0 < k) (hs : 0 < i.size) (hzc : z.cells.size = i.size) (h1 : ∀ u ∈ (Builtin.zeroCells z.cells k).toList, u.oneCell' = true)
    (hk63 : k ≤ 9223372036854775807) (h48 : k * i.bytes ≤ 281474976710656) (hroom : sLen + k ≤ sCap) (hfit : sLen * i.size + k * i.size ≤ cur.size) :
    (Builtin.append_ #[t, tn] ty #[.slice (some ⟨g, 0, none⟩) sLen sCap, .int kq k]).run P w =
      .ok (.slice (some ⟨g, 0, none⟩) (sLen + k) sCap) (w.setRow g (cur.toList.take (sLen * i.size) ++ (Builtin.zeroCells z.cells k).toList ++ cur.toList.drop (sLen * i.size + (Builtin.zeroCells z.cells k).toList.length)).toArray) := by
  have hk : k ≠ 0 := by omega
  have hw : IntKind.i64.wrap (k : Int) = k := by rw [IntKind.wrap_i64]; omega
  have h48i : ¬ (281474976710656 < (k : Int) * (i.bytes : Int)) := by
    rw [← Int.natCast_mul]
    omega
  have hneg : ¬ ((k : Int) < 0) := by omega
  have hns : ¬ (k * i.size = 0) := Nat.mul_ne_zero hk (by omega)
  have hl : (Builtin.zeroCells z.cells k).toList.length = k * i.size := by rw [Array.length_toList, size_zeroCells, hzc]
  have hst := run_storeCells_at P g (sLen * i.size) e (Builtin.zeroCells z.cells k).toList 0 cur w hg (by rw [hl]; simpa using hfit) h1
  simp only [Nat.add_zero] at hst
  simp [Builtin.append_, run_underlying ht, run_underlying htn, sizeOf, typeInfo, zeroValue, hi, hz, asInt, asIntOf, hw, hroom, hneg, hns, h48i, Addr.add_lit, hst]

theorem zeroCells_one (u : Value) (k : Nat) : (Builtin.zeroCells #[u] k).toList = List.replicate k u := by
  refine List.ext_getElem (by simp [Builtin.zeroCells]) fun j h1 h2 => ?_
  simp [Builtin.zeroCells, Nat.mod_one]

theorem run_append_own_zeros {P : Program} (w : World) (base : Nat) (t tn ty e : TypeId) (i : TypeInfo) (z u : Value) (bytes : Nat) (kq kn : IntKind) (ht : P.underlying t = some (.slice e)) (htn : P.underlying tn = some (.int kn)) (hi : P.info? e = some i) (hz : i.zero = some z)
    (hzc : z.cells = #[u]) (hu : u.oneCell' = true) (hsize : i.size = 1) (hby : i.bytes = bytes) (v : Value) (n : Nat) (hn0 : 0 < n) (xs : List Value) (hown : w.ownsRow base e 1 v n xs) (k : Nat) (h0 : 0 < k)
    (h63 : n + k ≤ maxLen) (hbytes : (n + k) * bytes ≤ 140737488355328) (hbase : base ≤ w.heap.size) :
    ∃ v' w', (Builtin.append_ #[t, tn] ty #[v, .int kq k]).run P w = .ok v' w' ∧ w'.ownsRow base e 1 v' (n + k) (xs ++ List.replicate k u) ∧ w.grownBy w' v.ownBlock ∧ (v'.ownBlock = v.ownBlock ∨ v'.ownBlock = some w.heap.size) := by
  have hsmall : n + k ≤ 9223372036854775807 := by simp only [maxLen] at h63; omega
  have hlen : (xs ++ List.replicate k u).length = (n + k) * 1 := by rw [List.length_append, List.length_replicate, hown.1]; omega
  have hkb : k * bytes ≤ (n + k) * bytes := Nat.mul_le_mul_right _ (by omega)
  rcases hown.2 with ⟨-, h1⟩ | ⟨g, cap, cur, rfl, hbg, hg, hnc, hcm, hcs, htake⟩
  · omega
  · by_cases hroom : n + k ≤ cap
    · have hr := run_append_room_zeros (P := P) w t tn ty e i z kq kn ht htn hi hz g n cap cur hg k h0 (by omega) (by rw [hzc, hsize]; rfl) (fun x hx => by
        rw [hzc, zeroCells_one] at hx
        rw [(List.mem_replicate.1 hx).2]; exact hu) (by omega) (by rw [hby]; omega) hroom (by rw [hsize]; omega)
      rw [hzc, zeroCells_one, hsize, Nat.mul_one] at hr
      refine ⟨_, _, hr, ⟨hlen, .inr ⟨g, cap, _, rfl, hbg, setRow_heap w g cur _ e _ hg, hroom, hcm, ?_, ?_⟩⟩, ⟨rfl, rfl, rfl, by simp, fun j _ hj => setRow_other w g j _ (fun e => hj (by simp [Value.ownBlock, e]))⟩, Or.inl rfl⟩
      · simp only [List.size_toArray, List.length_append, List.length_take, List.length_drop, Array.length_toList, List.length_replicate]
        omega
      · rw [Nat.mul_one] at htake
        rw [htake, ← hlen]
        exact List.take_left
    · have holds : ∀ j x, xs[j]? = some x → w.cell? ((⟨g, 0, none⟩ : Addr).add j) = some x := hown.cells (g := g) rfl
      have hold : (Builtin.firstCells i.size n (.slice (some ⟨g, 0, none⟩) n cap)).run P w.drew = .ok xs.toArray w.drew := run_firstCells_some (P := P) w.drew i.size n ⟨g, 0, none⟩ n cap xs (by rw [hsize]; exact hown.1) holds
      have hr := Go.Lib.run_append_grow_zeros (P := P) w t tn ty e i z kq kn ht htn hi hz (some ⟨g, 0, none⟩) n cap xs hold k h0 (by omega) (by omega) (by omega) (by rw [hby]; omega) (by rw [hby]; exact growslice_fits (by omega) hbytes)
      have hge := grownCap_ge w (n + k) cap e
      have hcm2 : grownCap w (n + k) cap e ≤ maxLen := grownCap_le_maxLen w (n + k) cap e h63
      refine ⟨_, _, hr, ⟨hlen, .inr ⟨w.heap.size, _, _, rfl, hbase, heap_alloc_new w.drew _, hge, hcm2, ?_, ?_⟩⟩, ⟨rfl, rfl, rfl, by simp, fun j hj _ => heap_alloc_old w.drew _ hj⟩, Or.inr rfl⟩
      · simp only [Array.size_append, List.size_toArray, size_zeroCells, hzc, hown.1]
        simp
        omega
      · simp only [Array.toList_append, List.append_assoc, hzc, zeroCells_one]
        rw [← List.append_assoc, ← hlen]
        exact List.take_left

/-- The same for the walk: at the list of a plain region's operations. -/
theorem wpList_append_own_zeros {P : Program} (w : World) {ops : Array Oper} {rest : List Oper} {o : Oper} {a : Act} {Q : Exit → Act → World → Prop} (hgd : o.guard = none) (s x : Operand) (t tn : TypeId)
    (ho : o.op = .call { callee := .builtin .append, args := #[s, x], argTypes := #[t, tn] }) (base : Nat) (e : TypeId) (i : TypeInfo) (z u : Value) (bytes : Nat) (kq kn : IntKind) (ht : P.underlying t = some (.slice e)) (htn : P.underlying tn = some (.int kn)) (hi : P.info? e = some i) (hz : i.zero = some z)
    (hzc : z.cells = #[u]) (hu : u.oneCell' = true) (hsize : i.size = 1) (hby : i.bytes = bytes) (v : Value) (n : Nat) (hn0 : 0 < n) (xs : List Value) (hs : a.eval s = v) (hown : w.ownsRow base e 1 v n xs) (k : Nat) (h0 : 0 < k) (hx : a.eval x = .int kq k)
    (h63 : n + k ≤ maxLen) (hbytes : (n + k) * bytes ≤ 140737488355328) (hbase : base ≤ w.heap.size)
    (h : ∀ v' w', w'.ownsRow base e 1 v' (n + k) (xs ++ List.replicate k u) → w.grownBy w' v.ownBlock → (v'.ownBlock = v.ownBlock ∨ v'.ownBlock = some w.heap.size) → wpList P ops Q rest (a.put o.dst v') w') : wpList P ops Q (o :: rest) a w := by
  refine wpList_plain hgd fun K hK => ?_
  obtain ⟨v', w', hr, h2, h3, h4⟩ := run_append_own_zeros (P := P) w base t tn o.type e i z u bytes kq kn ht htn hi hz hzc hu hsize hby v n hn0 xs hown k h0 h63 hbytes hbase
  unfold Oper.wp execOp
  simp only [ho, resolve, invoke, builtin, Sem.run_bind, Sem.run_pure, Result.andThen_ok, List.map_toArray, List.map_cons, List.map_nil, hs, hx, hr]
  exact hK _ _ (h v' w' h2 h3 h4)

end Go.Proofs.YtafignheedbnbaaGreatDoor

/-
  The walk of the heap's half.lay: an object is laid down behind the others.
-/
namespace Go.Proofs.YtafignheedbnbaaGreatDoor
open Go.RowKit Go.BigFrame
set_option linter.unusedSimpArgs false
set_option linter.unusedVariables false

theorem ph_infoW : (Tryz.prog.info? 29).map (fun i => (i.zero, i.size, i.bytes)) = some (some (.int .u64 0), 1, 8) := by kernel_rfl
theorem ph_infoB : (Tryz.prog.info? 4).map (fun i => (i.zero, i.size, i.bytes)) = some (some (.bool false), 1, 1) := by kernel_rfl

/-- An object has been laid down. -/
def Laid (B hb sz : Nat) (v1 v2 : Value) (w : World) (h' : List Ob) (v : Value) (e : Ending) (w' : World) : Prop :=
  e = .returned v ∧ ∃ v1' v2', HpAt w' B hb sz v1' v2' h' ∧ Turns (HMine hb v1 v2) w w' ∧ ∀ b, HMine hb v1' v2' b → HMine hb v1 v2 b ∨ w.heap.size ≤ b

theorem Turns.grown {S : Nat → Prop} {a b c : World} (h : Turns S a b) {row : Option Nat} (hg : b.grownBy c row) (hr : ∀ i, i < a.heap.size → row = some i → S i) : Turns S a c :=
  ⟨hg.os.trans h.os, hg.tape.trans h.tape, hg.output.trans h.output, Nat.le_trans h.size hg.size, fun i hi hn => (hg.block i (Nat.lt_of_lt_of_le hi h.size) fun e => hn (hr i hi e.symm)).trans (h.block i hi hn)⟩

theorem app_ok {h : List Ob} {o : Ob} (hh : ∀ x ∈ h, x.Ok) (ho : o.Ok) : ∀ x ∈ h ++ [o], x.Ok := fun x hx => by
  rcases List.mem_append.1 hx with h1 | h1
  · exact hh x h1
  · simp only [List.mem_singleton] at h1; subst h1; exact ho

theorem own_block_ne {w : World} {B B' : Nat} {e e' : TypeId} {s s' n n' : Nat} {v v' : Value} {xs xs' : List Value} (h : w.ownsRow B e s v n xs) (h' : w.ownsRow B' e' s' v' n' xs') (hne : e ≠ e') : ∀ b, v.ownBlock = some b → v'.ownBlock ≠ some b := fun b e1 e2 => by
  obtain ⟨-, -, c, h1⟩ := ph_own h e1
  obtain ⟨-, -, c', h2⟩ := ph_own h' e2
  rw [h1] at h2; simp only [Option.some.injEq, Obj.cells.injEq] at h2; exact hne h2.2.1

/-- The heap's struct, its two rows, on the way of laying an object down. -/
structure MidLay (w : World) (B hb sz : Nat) (v1 v2 : Value) (n1 n2 : Nat) (xs ys : List Value) (u1 u2 : Value) (M : Nat → Prop) (w0 : World) : Prop where
  box : w.heap[hb]? = some (.cells #[.int .i64 sz, v1, v2, u1, u2, .int .i64 0, .int .i64 0] 138 (0, 0))
  ws : w.ownsRow B 29 1 v1 n1 xs
  bs : w.ownsRow B 4 1 v2 n2 ys
  turns : Turns M w0 w
  own1 : ∀ b, v1.ownBlock = some b → M b ∨ w0.heap.size ≤ b
  own2 : ∀ b, v2.ownBlock = some b → M b ∨ w0.heap.size ≤ b
  low : w0.heap.size ≤ w.heap.size
  hbM : M hb

theorem MidLay.cells {w : World} {B hb sz : Nat} {v1 v2 : Value} {n1 n2 : Nat} {xs ys : List Value} {u1 u2 : Value} {M : Nat → Prop} {w0 : World} (k : MidLay w B hb sz v1 v2 n1 n2 xs ys u1 u2 M w0) : w.cell? ⟨hb, 1, none⟩ = some v1 ∧ w.cell? ⟨hb, 2, none⟩ = some v2 ∧ w.frozen? ⟨hb, 1, none⟩ = false ∧ w.frozen? ⟨hb, 2, none⟩ = false ∧ hb < w.heap.size :=
  ⟨by simp [World.cell?, k.box], by simp [World.cell?, k.box], by simp [World.frozen?, k.box], by simp [World.frozen?, k.box], ph_lt k.box⟩

theorem box_ne {w : World} {B : Nat} {e : TypeId} {s n : Nat} {v : Value} {xs : List Value} (h : w.ownsRow B e s v n xs) {hb : Nat} {c : Array Value} {t : TypeId} (hbox : w.heap[hb]? = some (.cells c t (0, 0))) (hne : t ≠ e) : v.ownBlock ≠ some hb := fun e1 => by
  obtain ⟨-, -, c', h1⟩ := ph_own h e1
  rw [hbox] at h1; simp only [Option.some.injEq, Obj.cells.injEq] at h1; exact hne h1.2.1

theorem MidLay.words {w w1 : World} {B hb sz : Nat} {v1 v2 : Value} {n1 n2 : Nat} {xs ys : List Value} {u1 u2 : Value} {M : Nat → Prop} {w0 : World} (k : MidLay w B hb sz v1 v2 n1 n2 xs ys u1 u2 M w0) {v1' : Value} {n1' : Nat} {xs' : List Value}
    (hown : w1.ownsRow B 29 1 v1' n1' xs') (hg : w.grownBy w1 v1.ownBlock) (hat : v1'.ownBlock = v1.ownBlock ∨ v1'.ownBlock = some w.heap.size) : MidLay (w1.setCell ⟨hb, 1, none⟩ v1') B hb sz v1' v2 n1' n2 xs' ys u1 u2 M w0 := by
  have hl := ph_lt k.box
  have hbox1 : w1.heap[hb]? = some (.cells #[.int .i64 sz, v1, v2, u1, u2, .int .i64 0, .int .i64 0] 138 (0, 0)) := (hg.block hb hl fun e => box_ne k.ws k.box (by decide) e.symm).trans k.box
  have hbs1 : w1.ownsRow B 4 1 v2 n2 ys := ph_kept k.bs fun b e => hg.block b (ph_own k.bs e).2.1 fun e2 => own_block_ne k.ws k.bs (by decide) b e2.symm e
  have h1 := Turns.grown k.turns hg fun i hi e => (k.own1 i e).elim id fun h => by omega
  refine ⟨by simp [World.setCell, Array.getElem?_modify, hbox1], ownsRow_setCell_other hown (a := ⟨hb, 1, none⟩) (box_ne hown hbox1 (by decide)) _, ownsRow_setCell_other hbs1 (a := ⟨hb, 1, none⟩) (box_ne hbs1 hbox1 (by decide)) _, h1.setCell (.inl k.hbM) _, fun b e => ?_, k.own2, by simpa [World.setCell] using Nat.le_trans k.low hg.size, k.hbM⟩
  rcases hat with h | h
  · exact k.own1 b (h ▸ e)
  · rw [h] at e; cases e; exact .inr k.low

theorem MidLay.begins {w w1 : World} {B hb sz : Nat} {v1 v2 : Value} {n1 n2 : Nat} {xs ys : List Value} {u1 u2 : Value} {M : Nat → Prop} {w0 : World} (k : MidLay w B hb sz v1 v2 n1 n2 xs ys u1 u2 M w0) {v2' : Value} {n2' : Nat} {ys' : List Value}
    (hown : w1.ownsRow B 4 1 v2' n2' ys') (hg : w.grownBy w1 v2.ownBlock) (hat : v2'.ownBlock = v2.ownBlock ∨ v2'.ownBlock = some w.heap.size) : MidLay (w1.setCell ⟨hb, 2, none⟩ v2') B hb sz v1 v2' n1 n2' xs ys' u1 u2 M w0 := by
  have hl := ph_lt k.box
  have hbox1 : w1.heap[hb]? = some (.cells #[.int .i64 sz, v1, v2, u1, u2, .int .i64 0, .int .i64 0] 138 (0, 0)) := (hg.block hb hl fun e => box_ne k.bs k.box (by decide) e.symm).trans k.box
  have hws1 : w1.ownsRow B 29 1 v1 n1 xs := ph_kept k.ws fun b e => hg.block b (ph_own k.ws e).2.1 fun e2 => own_block_ne k.ws k.bs (by decide) b e e2.symm
  have h1 := Turns.grown k.turns hg fun i hi e => (k.own2 i e).elim id fun h => by omega
  refine ⟨by simp [World.setCell, Array.getElem?_modify, hbox1], ownsRow_setCell_other hws1 (a := ⟨hb, 2, none⟩) (box_ne hws1 hbox1 (by decide)) _, ownsRow_setCell_other hown (a := ⟨hb, 2, none⟩) (box_ne hown hbox1 (by decide)) _, h1.setCell (.inl k.hbM) _, k.own1, fun b e => ?_, by simpa [World.setCell] using Nat.le_trans k.low hg.size, k.hbM⟩
  rcases hat with h | h
  · exact k.own2 b (h ▸ e)
  · rw [h] at e; cases e; exact .inr k.low

theorem genW {P : Program} {c : Code} {Q : Exit → Act → World → Prop} {a : Act} {w0 : World} (F : World → Prop) (h : F w0) (k : ∀ W, F W → Code.wp P c Q a W) : Code.wp P c Q a w0 := k _ h

set_option maxRecDepth 100000 in
set_option maxHeartbeats 2000000 in
theorem lay_at {w : World} {B hb sz : Nat} {v1 v2 : Value} {h : List Ob} (k : HpAt w B hb sz v1 v2 h) (o : Ob) (ho : o.Ok) (hroom : used h + o.size ≤ sz) {L c : Nat} (hLl : L < w.heap.size) (hL : ¬ HMine hb v1 v2 L)
    (hcells : ∀ j u, (o.ws.map wV)[j]? = some u → w.cell? ((⟨L, 0, none⟩ : Addr).add j) = some u) :
    Calls Tryz.prog 114 #[.pointer (some ⟨hb, 1, none⟩), .slice (some ⟨L, 0, none⟩) o.size c] w (Laid B hb sz v1 v2 w (h ++ [o]) (.int .u64 (4 * used h : Nat))) := by
  obtain ⟨iW, hiW, hW0, hW1, hW2⟩ := info_parts ph_infoW
  obtain ⟨iB, hiB, hB0, hB1, hB2⟩ := info_parts ph_infoB
  have hus : used h ≤ 16777216 := Nat.le_trans k.room k.small
  have hup := used_pos h
  have hos := o.size_pos
  have hsm := k.small
  have hBl : B ≤ w.heap.size := by have := (k.lt (b := hb) (.inl rfl)); omega
  obtain ⟨u1, u2, hbox⟩ := k.box
  obtain ⟨g1, cap1, e1, hg1l, hg1n, -, -⟩ := k.word
  obtain ⟨g2, cap2, e2, hg2l, hg2n, -, -⟩ := k.begin
  have hc0 : w.cell? ⟨hb, 1, none⟩ = some v1 := by simp [World.cell?, hbox]
  have hf0 : w.frozen? ⟨hb, 1, none⟩ = false := by simp [World.frozen?, hbox]
  subst e1 e2
  have h12 : g1 ≠ g2 := fun e => own_block_ne k.ws k.bs (by decide) g1 rfl (by rw [e]; rfl)
  have HK := hide (And.intro k (And.intro ho (And.intro hroom (And.intro hbox (And.intro hBl (And.intro h12 (And.intro hg1n (And.intro hg2n (And.intro hg1l (And.intro hg2l hL))))))))))
  have HC := hide hcells
  obtain ⟨n, hn⟩ : ∃ n, used h = n := ⟨_, rfl⟩
  obtain ⟨m, hm⟩ : ∃ m, o.size = m := ⟨_, rfl⟩
  have hroom' : n + m ≤ sz := by omega
  have HN := hide (And.intro hn hm)
  have hws : (o.ws.map wV).length = m * 1 := by rw [List.length_map, o.ws_len]; omega
  rw [hn] at hus hup hc0 ⊢
  rw [hm] at hos ⊢
  have HWs := hide hws
  clear hn hm hcells hroom k ho hbox hBl h12 hg1n hg2n hL hws
  go_enter Tryz.func114, Tryz.ntmps114
  have hown0 : w.ownsRow B 29 1 (.slice (some ⟨g1, 0, none⟩) n cap1) n ((hpW h).map wV) := by have e := HK.out.1.ws; rwa [HN.out.1] at e
  have hm0 : MidLay w B hb sz (.slice (some ⟨g1, 0, none⟩) n cap1) (.slice (some ⟨g2, 0, none⟩) n cap2) n n ((hpW h).map wV) ((hpB h).map .bool) u1 u2 (HMine hb (.slice (some ⟨g1, 0, none⟩) n cap1) (.slice (some ⟨g2, 0, none⟩) n cap2)) w := by
    obtain ⟨k, -, -, hbox, -⟩ := HK.out
    have e1 := k.ws
    have e2 := k.bs
    rw [HN.out.1] at e1 e2 hbox
    exact ⟨hbox, e1, e2, Turns.refl w, fun b e => .inl (.inr (.inl e)), fun b e => .inl (.inr (.inr e)), Nat.le_refl _, .inl rfl⟩
  have hnm : 0 < n + m := by omega
  have HX := hide (box_ne hm0.ws hm0.box (by decide))
  have HM := hide hm0
  have HO := hide hown0
  clear hm0 hown0
  go_upto_region 3 with (at_builtin; refine wpList_append_own_at _ rfl (.tmp 17) (.tmp 18) 66 rfl B 29 iW _ 1 8 Tryz.underlying66 hiW hW0 hW1 hW2 rfl (by decide) _ n _ rfl HO.out ⟨L, 0, none⟩ m c (o.ws.map wV) rfl HWs.out HC.out ?_ ?_ ?_ HK.out.2.2.2.2.1 ?_; rotate_right; intro v1' w1 hown1 hgrow1 _ hat1; obtain ⟨G, cap, hform, hGB, hGl⟩ := hown1.form hnm; subst hform; obtain ⟨-, -, f1, f2, hl1⟩ := HM.out.cells; have e1 : w1.cell? ⟨hb, 1, none⟩ = w.cell? ⟨hb, 1, none⟩ := World.cell?_of_block (w := w) (hgrow1.block hb hl1 fun e => HX.out e.symm); have e2 : w1.frozen? ⟨hb, 1, none⟩ = w.frozen? ⟨hb, 1, none⟩ := World.frozen?_of_block (w := w) (hgrow1.block hb hl1 fun e => HX.out e.symm))
  refine genW (fun U => MidLay U B hb sz (.slice (some ⟨G, 0, none⟩) (n + m) cap) (.slice (some ⟨g2, 0, none⟩) n cap2) (n + m) n ((hpW h).map wV ++ o.ws.map wV) ((hpB h).map .bool) u1 u2 (HMine hb (.slice (some ⟨g1, 0, none⟩) n cap1) (.slice (some ⟨g2, 0, none⟩) n cap2)) w) (HM.out.words hown1 hgrow1 hat1) ?_
  intro U hU
  have HU := hide hU
  obtain ⟨a1, a2, a3, a4, a5⟩ := hU.cells
  have HX2 := hide (box_ne hU.bs hU.box (by decide))
  have HB2 := hide (Nat.le_trans HK.out.2.2.2.2.1 hU.low)
  clear hU hown1 hgrow1 hat1 hGB hGl e1 e2 a3 f1 f2 a1
  go_upto_region 4 with (at_builtin; refine wpList_append_own_zeros _ rfl (.tmp 26) (.tmp 28) 126 3 rfl B 4 iB _ _ 1 .i64 .i64 Tryz.underlying126 Tryz.underlying3 hiB hB0 rfl rfl hB1 hB2 _ n ?_ _ rfl HU.out.bs m ?_ rfl ?_ ?_ HB2.out ?_; rotate_right; intro v2' w2 hown2 hgrow2 hat2; obtain ⟨G2, cap2', hform2, hG2B, hG2l⟩ := hown2.form hnm; subst hform2; have e1 : w2.cell? ⟨hb, 2, none⟩ = U.cell? ⟨hb, 2, none⟩ := World.cell?_of_block (w := U) (hgrow2.block hb a5 fun e => HX2.out e.symm); have e2 : w2.frozen? ⟨hb, 2, none⟩ = U.frozen? ⟨hb, 2, none⟩ := World.frozen?_of_block (w := U) (hgrow2.block hb a5 fun e => HX2.out e.symm))
  refine genW (fun V => MidLay V B hb sz (.slice (some ⟨G, 0, none⟩) (n + m) cap) (.slice (some ⟨G2, 0, none⟩) (n + m) cap2') (n + m) (n + m) ((hpW h).map wV ++ o.ws.map wV) ((hpB h).map .bool ++ List.replicate m (.bool false)) u1 u2 (HMine hb (.slice (some ⟨g1, 0, none⟩) n cap1) (.slice (some ⟨g2, 0, none⟩) n cap2)) w) (HU.out.begins hown2 hgrow2 hat2) ?_
  intro V hV
  have hbl : ((hpB h).map Value.bool).length = n := by rw [List.length_map, hp_len]; exact HN.out.1
  have hcell : V.cell? ⟨G2, n, none⟩ = some (.bool false) := by
    have e := hV.bs.cells (g := G2) rfl n (.bool false) (by
      rw [List.getElem?_append_right (by omega), hbl, Nat.sub_self, List.getElem?_replicate, if_pos (by omega)])
    rwa [Addr.add_lit, Nat.zero_add] at e
  have hfr : V.frozen? ⟨G2, n, none⟩ = false := by
    obtain ⟨-, -, c', e⟩ := ph_own hV.bs (b := G2) rfl
    simp [World.frozen?, e]
  have hb4 : (4 : Int) * n / 4 = n := by omega
  have hlt : (n : Int) < ((n + m : Nat) : Int) := by omega
  obtain ⟨-, a2', -, -, -⟩ := hV.cells
  have HV := hide (And.intro hV hbl)
  clear hV hbl hown2 hgrow2 hat2 hG2B hG2l e1 e2 a2 a4 a5 HX HX2
  go_wp2
  go_ret
  obtain ⟨hV, hbl⟩ := HV.out
  obtain ⟨k, ho, hroom, -⟩ := HK.out
  have hus : used (h ++ [o]) = n + m := by rw [used_app, HN.out.1, HN.out.2]
  refine ⟨ret_int (show (4 * (n : Int)) = ((4 * n : Nat) : Int) by omega), .slice (some ⟨G, 0, none⟩) (n + m) cap, .slice (some ⟨G2, 0, none⟩) (n + m) cap2', ⟨⟨u1, u2, ?_⟩, ?_, ?_, app_ok k.ok ho, by rw [hus]; exact hroom', k.low, k.small⟩, ?_, ?_⟩
  · rw [Below.heap_setCell _ _ _ _ (by rintro rfl; exact box_ne hV.bs hV.box (by decide) rfl)]
    exact hV.box
  · rw [hus, hpW_app, List.map_append]
    exact ownsRow_setCell_other hV.ws (a := ⟨G2, n, none⟩) (fun e => own_block_ne hV.ws hV.bs (by decide) G2 e rfl) _
  · rw [hus, hpB_app, List.map_append]
    have e := ph_set hV.bs n (.bool true)
    have e2 : ((hpB h).map Value.bool ++ List.replicate m (Value.bool false)).set n (Value.bool true) = (hpB h).map Value.bool ++ o.bs.map Value.bool := by
      rw [List.set_append_right _ _ (by omega), hbl, Nat.sub_self]
      unfold Ob.bs
      have hm1 : m = (o.ts.length + o.rs.length) + 1 := by have := HN.out.2; unfold Ob.size at this; omega
      rw [hm1, List.replicate_succ, List.set_cons_zero, List.map_cons, List.map_replicate]
    rw [e2] at e
    exact e
  · exact hV.turns.setCell (hV.own2 G2 rfl) _
  · rintro b (rfl | e | e)
    · exact .inl (.inl rfl)
    · exact hV.own1 b e
    · exact hV.own2 b e
  all_goals first | (simp only [maxLen]; omega) | omega | rfl | (intro u hu; obtain ⟨x, -, rfl⟩ := List.mem_map.1 hu; rfl)

end Go.Proofs.YtafignheedbnbaaGreatDoor

/-
  The walks of heap.empty, heap.New, value.New: an empty store.
-/
namespace Go.Proofs.YtafignheedbnbaaGreatDoor
open Go.RowKit Go.BigFrame
set_option linter.unusedSimpArgs false
set_option linter.unusedVariables false

def Emptied (w : World) (e : Ending) (w' : World) : Prop :=
  ∃ g1 g2, e = .returned (.agg #[.slice (some ⟨g1, 0, none⟩) 1 1, .slice (some ⟨g2, 0, none⟩) 1 1]) ∧ w.heap.size ≤ g1 ∧ w.heap.size ≤ g2 ∧ w'.heap[g1]? = some (.cells #[.int .u64 0] 29 (0, 0)) ∧ w'.heap[g2]? = some (.cells #[.bool false] 4 (0, 0)) ∧ Below w.heap.size w w'

set_option maxHeartbeats 1000000 in
theorem empty_any (w : World) : Calls Tryz.prog 80 #[] w (Emptied w) := by
  go_enter Tryz.func80, Tryz.ntmps80
  go_wp2
  refine bodyPost_ret (v := .agg #[.slice (some ⟨w.heap.size + 1, 0, none⟩) 1 1, .slice (some ⟨w.heap.size + 1 + 1, 0, none⟩) 1 1]) (by simp [results, Tryz.results80, go_sem]) rfl ?_
  refine ⟨w.heap.size + 1, w.heap.size + 1 + 1, rfl, by omega, by omega, ?_, ?_, (((Below.refl _ _).alloc (Nat.le_refl _) _).alloc (by simp) _).alloc (by simp; omega) _⟩
  · rw [Deep.blk_alloc_lt _ _ _ (by rw [Deep.nblk_alloc, Deep.nblk_alloc]; omega)]
    have e := Deep.blk_alloc_new (w.alloc (.cells #[.slice (some ⟨w.heap.size + 1, 0, none⟩) 1 1, .slice (some ⟨w.heap.size + 1 + 1, 0, none⟩) 1 1] 128)) (.cells #[.int .u64 0] 29)
    rwa [Deep.nblk_alloc] at e
  · have e := Deep.blk_alloc_new ((w.alloc (.cells #[.slice (some ⟨w.heap.size + 1, 0, none⟩) 1 1, .slice (some ⟨w.heap.size + 1 + 1, 0, none⟩) 1 1] 128)).alloc (.cells #[.int .u64 0] 29)) (.cells #[.bool false] 4)
    rwa [Deep.nblk_alloc, Deep.nblk_alloc] at e

theorem own_one {w : World} {B g : Nat} {e : TypeId} {v : Value} (h : w.heap[g]? = some (.cells #[v] e (0, 0))) (hB : B ≤ g) : w.ownsRow B e 1 (.slice (some ⟨g, 0, none⟩) 1 1) 1 [v] :=
  ⟨rfl, .inr ⟨g, 1, #[v], rfl, hB, h, Nat.le_refl _, by simp [maxLen], rfl, rfl⟩⟩

def HeapNew (n : Nat) (w : World) (e : Ending) (w' : World) : Prop :=
  ∃ hb v1 v2, e = .returned (.tuple #[.pointer (some ⟨hb, 0, none⟩), .int .i64 0]) ∧ HpAt w' w.heap.size hb n v1 v2 [] ∧ Below w.heap.size w w'

set_option maxHeartbeats 1000000 in
theorem hnew_any (w : World) (n : Nat) (h2 : 2 ≤ n) (hm : n ≤ 1048576) : Calls Tryz.prog 43 #[.int .i64 n] w (HeapNew n w) := by
  have f1 : ¬ (n : Int) < 2 := by omega
  have f2 : ¬ (1048576 : Int) < n := by omega
  go_enter Tryz.func43, Tryz.ntmps43
  go_wp2_with (go_at_call 80; fail)
  refine (empty_any w).mono ?_
  rintro e w1 ⟨g1, g2, rfl, hg1, hg2, hw1, hw2, hb1⟩
  have H1 := hide (And.intro hg1 (And.intro hg2 (And.intro hw1 (And.intro hw2 hb1))))
  clear hg1 hg2 hw1 hw2 hb1
  go_wp2_with (go_at_call 80; fail)
  refine (empty_any w1).mono ?_
  rintro e w2 ⟨g3, g4, rfl, hg3, hg4, hw3, hw4, hb2⟩
  have H2 := hide hb2
  clear hg3 hg4 hw3 hw4 hb2
  go_wp2
  go_ret2
  obtain ⟨hg1, hg2, hw1, hw2, hb1⟩ := H1.out
  have hb2 := H2.out
  have hs1 := hb1.size
  have hs2 := hb2.size
  have l1 := ph_lt hw1
  have l2 := ph_lt hw2
  refine ⟨w2.heap.size, _, _, rfl, ⟨⟨_, _, Deep.blk_alloc_new w2 _⟩, own_one (v := .int .u64 0) (g := g1) ?_ hg1, own_one (v := .bool false) (g := g2) ?_ hg2, by simp, by simp [used, hpW, wsL]; omega, by omega, by omega⟩, (hb1.trans (hb2.mono hs1)).alloc (by omega) _⟩
  · rw [Deep.blk_alloc_lt _ _ _ (by omega), hb2.block _ l1]; exact hw1
  · rw [Deep.blk_alloc_lt _ _ _ (by omega), hb2.block _ l2]; exact hw2

def StoreNew (n : Nat) (w : World) (e : Ending) (w' : World) : Prop :=
  ∃ S M, e = .returned (.tuple #[.pointer (some ⟨S.sb, 0, none⟩), .int .i64 0]) ∧ S.sz = n ∧ S.B = w.heap.size ∧ SAt w' S M [] [] ∧ Below w.heap.size w w'

set_option maxHeartbeats 1000000 in
theorem vnew_any (w : World) (n : Nat) (h2 : 2 ≤ n) (hm : n ≤ 1048576) : Calls Tryz.prog 12 #[.int .i64 n] w (StoreNew n w) := by
  have hmm := @run_makeMap Tryz.prog
  go_enter Tryz.func12, Tryz.ntmps12
  go_wp2_with (go_at_call 43; fail)
  refine (hnew_any w n h2 hm).mono ?_
  rintro e w1 ⟨hb, v1, v2, rfl, hh, hb1⟩
  have H1 := hide (And.intro hh hb1)
  clear hh hb1
  go_wp2
  go_ret2
  obtain ⟨hh, hb1⟩ := H1.out
  have hs1 := hb1.size
  have hb2 : Below w1.heap.size w1 ((w1.alloc (.map #[] 0)).alloc (.cells #[.pointer (some ⟨hb, 0, none⟩), .map (some w1.heap.size), .slice none 0 0, .int .i64 0] 75)) := ((Below.refl _ _).alloc (Nat.le_refl _) _).alloc (by simp) _
  have hh2 := hh.below hb2
  refine ⟨⟨w.heap.size, w1.heap.size + 1, hb, w1.heap.size, n⟩, fun b => HMine hb v1 v2 b ∨ b = w1.heap.size + 1 ∨ b = w1.heap.size, rfl, rfl, rfl, ⟨⟨v1, v2, hh2, fun b e => .inl e⟩, ⟨.slice none 0 0, ?_, ⟨rfl, .inl ⟨rfl, rfl⟩⟩, fun b e => by simp [Value.ownBlock] at e⟩, ⟨#[], 0, ?_, rfl⟩, ⟨.inr (.inl rfl), .inr (.inr rfl)⟩, ?_⟩, hb1.trans (hb2.mono hs1)⟩
  · have e := Deep.blk_alloc_new (w1.alloc (.map #[] 0)) (.cells #[.pointer (some ⟨hb, 0, none⟩), .map (some w1.heap.size), .slice none 0 0, .int .i64 0] 75)
    rwa [Deep.nblk_alloc] at e
  · show (World.alloc _ _).heap[w1.heap.size]? = _
    rw [Deep.blk_alloc_lt _ _ _ (by rw [Deep.nblk_alloc]; omega)]
    exact Deep.blk_alloc_new _ _
  · rintro b (e | rfl | rfl)
    · have := hh2.lt e; exact ⟨this.2, this.1⟩
    · exact ⟨by show w.heap.size ≤ _; omega, by rw [Deep.nblk_alloc, Deep.nblk_alloc]; omega⟩
    · exact ⟨by show w.heap.size ≤ _; omega, by rw [Deep.nblk_alloc, Deep.nblk_alloc]; omega⟩

end Go.Proofs.YtafignheedbnbaaGreatDoor
