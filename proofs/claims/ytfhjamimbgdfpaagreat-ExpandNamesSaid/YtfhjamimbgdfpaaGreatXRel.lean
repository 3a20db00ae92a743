/- A verified executor, part XRel: laws of the executor; no condition. -/
import Derived.Test.YtfhjamimbgdfpaaGreatXComp
import Derived.Below
import Derived.Deep.Draws
import Derived.Tactics
namespace Go.Proofs.YtfhjamimbgdfpaaGreat.X
open Go
set_option linter.unusedSimpArgs false
set_option linter.unusedVariables false

/-! ## Positions and tries -/
theorem P.toNat_ofF : ∀ f n, n < f → (P.ofF f n).toNat = n
  | 0, _, hn => by omega
  | f + 1, 0, _ => rfl
  | f + 1, m + 1, hn => by
    have ih := P.toNat_ofF f (m / 2) (by omega)
    have e : P.ofF (f + 1) (m + 1) = (bif Nat.beq (Nat.mod m 2) 0 then .o (P.ofF f (Nat.div m 2)) else .i (P.ofF f (Nat.div m 2))) := rfl
    have hm : Nat.mod m 2 = m % 2 := rfl
    have hd : Nat.div m 2 = m / 2 := rfl
    rw [e, hm, hd]
    rcases Nat.mod_two_eq_zero_or_one m with h2 | h2
    · rw [h2]; show (P.o _).toNat = _; simp only [P.toNat, ih]; omega
    · rw [h2]; show (P.i _).toNat = _; simp only [P.toNat, ih]; omega
@[simp] theorem P.toNat_of (n : Nat) : (P.of n).toNat = n := P.toNat_ofF _ _ (by omega)
theorem P.of_inj {m n : Nat} (e : P.of m = P.of n) : m = n := by have := congrArg P.toNat e; simpa using this
theorem P.toNat_inj : ∀ {p q : P}, p.toNat = q.toNat → p = q
  | .h, .h, _ => rfl
  | .h, .o _, e => by simp [P.toNat] at e
  | .h, .i _, e => by simp [P.toNat] at e
  | .o _, .h, e => by simp [P.toNat] at e
  | .i _, .h, e => by simp [P.toNat] at e
  | .o p, .o q, e => by rw [P.toNat_inj (p := p) (q := q) (by simp only [P.toNat] at e; omega)]
  | .i p, .i q, e => by rw [P.toNat_inj (p := p) (q := q) (by simp only [P.toNat] at e; omega)]
  | .o p, .i q, e => by simp only [P.toNat] at e; omega
  | .i p, .o q, e => by simp only [P.toNat] at e; omega
theorem P.of_toNat (p : P) : P.of p.toNat = p := P.toNat_inj (by simp)
theorem P.toNat_succ : ∀ p : P, p.succ.toNat = p.toNat + 1
  | .h => rfl
  | .o p => by show 2 * p.toNat + 2 = 2 * p.toNat + 1 + 1; omega
  | .i p => by
    have := P.toNat_succ p
    show 2 * p.succ.toNat + 1 = 2 * p.toNat + 2 + 1
    omega
theorem P.succ_ne (p : P) : p.succ ≠ p := fun h => by have := congrArg P.toNat h; rw [P.toNat_succ] at this; omega

@[simp] theorem Tr.get_lf {α : Type} (p : P) : (Tr.lf : Tr α).get p = none := by cases p <;> rfl
@[simp] theorem Tr.get_h {α : Type} (l : Tr α) (v : Option α) (r : Tr α) : (Tr.nd l v r).get .h = v := rfl
@[simp] theorem Tr.get_o {α : Type} (l : Tr α) (v : Option α) (r : Tr α) (p : P) : (Tr.nd l v r).get (.o p) = l.get p := rfl
@[simp] theorem Tr.get_i {α : Type} (l : Tr α) (v : Option α) (r : Tr α) (p : P) : (Tr.nd l v r).get (.i p) = r.get p := rfl
@[simp] theorem Tr.put_h {α : Type} (l : Tr α) (v x : Option α) (r : Tr α) : (Tr.nd l x r).put v .h = .nd l v r := rfl
@[simp] theorem Tr.put_o {α : Type} (l : Tr α) (v x : Option α) (r : Tr α) (p : P) : (Tr.nd l x r).put v (.o p) = .nd (l.put v p) x r := rfl
@[simp] theorem Tr.put_i {α : Type} (l : Tr α) (v x : Option α) (r : Tr α) (p : P) : (Tr.nd l x r).put v (.i p) = .nd l x (r.put v p) := rfl
@[simp] theorem Tr.lf_h {α : Type} (v : Option α) : (Tr.lf : Tr α).put v .h = .nd .lf v .lf := rfl
@[simp] theorem Tr.lf_o {α : Type} (v : Option α) (p : P) : (Tr.lf : Tr α).put v (.o p) = .nd (Tr.lf.put v p) none .lf := rfl
@[simp] theorem Tr.lf_i {α : Type} (v : Option α) (p : P) : (Tr.lf : Tr α).put v (.i p) = .nd .lf none (Tr.lf.put v p) := rfl
theorem Tr.get_put {α : Type} (v : Option α) : ∀ (p : P) (t : Tr α) (q : P), (t.put v p).get q = if q = p then v else t.get q
  | .h, .lf, q => by cases q <;> simp
  | .h, .nd l x r, q => by cases q <;> simp
  | .o p, .lf, q => by
    cases q with
    | o q => simp [Tr.get_put v p .lf q]
    | _ => simp
  | .o p, .nd l x r, q => by
    cases q with
    | o q => simp [Tr.get_put v p l q]
    | _ => simp
  | .i p, .lf, q => by
    cases q with
    | i q => simp [Tr.get_put v p .lf q]
    | _ => simp
  | .i p, .nd l x r, q => by
    cases q with
    | i q => simp [Tr.get_put v p r q]
    | _ => simp
theorem Tr.get_put_same {α : Type} (v : Option α) (p : P) (t : Tr α) : (t.put v p).get p = v := by rw [Tr.get_put, if_pos rfl]
theorem Tr.get_put_ne {α : Type} (v : Option α) {p q : P} (t : Tr α) (h : q ≠ p) : (t.put v p).get q = t.get q := by rw [Tr.get_put, if_neg h]

/-! ## Values -/
/-- Where an abstract block lies: the real block, its first cell there, how many cells the real block has. -/
structure RB where
  r : Nat
  b : Nat
  n : Nat
abbrev Ren := P → Option RB
/-- the values of tokens -/
structure Sg where
  val : Nat → Value
  prog : Program
mutual
inductive VR (σ : Sg) (ρ : Ren) : V → Value → Prop
  | bool (b : Bool) : VR σ ρ (.bool b) (.bool b)
  | int (k : IntKind) (n : Int) : VR σ ρ (.int k n) (.int k n)
  | str (s : ByteArray) : VR σ ρ (.str s.size (digits s.data.toList)) (.string s)
  | ptrN : VR σ ρ (.ptr none) (.pointer none)
  | ptr {p : P} {b : RB} (i : Nat) (h : ρ p = some b) : VR σ ρ (.ptr (some (p, i))) (.pointer (some ⟨b.r, b.b + i, none⟩))
  | slcN : VR σ ρ (.slice none 0 0 (some 0)) (.slice none 0 0)
  | slc {p : P} {b : RB} {i sz l cap : Nat} {c : Option Nat} (h : ρ p = some b) (hl : l ≤ cap) (hc : ∀ k, c = some k → cap = k) (hn : b.b + i + cap * sz ≤ b.n) :
      VR σ ρ (.slice (some (p, i)) sz l c) (.slice (some ⟨b.r, b.b + i, none⟩) l cap)
  | slc0 {p : P} {b : RB} {i sz : Nat} {c : Option Nat} {x : Addr} (h : ρ p = some b) (hc : ∀ k, c = some k → 0 = k) : VR σ ρ (.slice (some (p, i)) sz 0 c) (.slice (some x) 0 0)
  | mapN : VR σ ρ (.map none) (.map none)
  | map {p : P} {b : RB} (h : ρ p = some b) : VR σ ρ (.map (some p)) (.map (some b.r))
  | func (fn : Fn) {a b : List V} {x y : List Value} (h1 : VRs σ ρ a x) (h2 : VRs σ ρ b y) : VR σ ρ (.func fn a b) (.func fn ⟨x⟩ ⟨y⟩)
  | meth {nm : String} {t f : Nat} {v : V} {x : Value} (hm : methFit σ.prog t nm = some f) (h : VR σ ρ v x) : VR σ ρ (.func (.func f) [v] []) (.func (.method nm) ⟨[.iface t x]⟩ ⟨[]⟩)
  | nilFunc : VR σ ρ .nilFunc .nilFunc
  | iface (t : Nat) {v : V} {x : Value} (h : VR σ ρ v x) : VR σ ρ (.iface t v) (.iface t x)
  | nilIface : VR σ ρ .nilIface .nilIface
  | agg {a : List V} {x : List Value} (h : VRs σ ρ a x) : VR σ ρ (.agg a) (.agg ⟨x⟩)
  | tuple {a : List V} {x : List Value} (h : VRs σ ρ a x) : VR σ ρ (.tuple a) (.tuple ⟨x⟩)
  | sym (i : Nat) : VR σ ρ (.sym i) (σ.val i)
inductive VRs (σ : Sg) (ρ : Ren) : List V → List Value → Prop
  | nil : VRs σ ρ [] []
  | cons {v : V} {x : Value} {a : List V} {y : List Value} (h : VR σ ρ v x) (t : VRs σ ρ a y) : VRs σ ρ (v :: a) (x :: y)
end
/-- tokens stand for values of one cell that are no aggregates -/
def SgOk (σ : Sg) : Prop := ∀ i, match σ.val i with | .agg _ => False | .tuple _ => False | _ => True

def Ren.le (ρ ρ' : Ren) : Prop := ∀ p b, ρ p = some b → ρ' p = some b
theorem Ren.le.refl (ρ : Ren) : ρ.le ρ := fun _ _ h => h
theorem Ren.le.trans {a b c : Ren} (h : a.le b) (k : b.le c) : a.le c := fun p x hp => k p x (h p x hp)
mutual
theorem VR.mono {σ : Sg} {ρ ρ' : Ren} (hr : ρ.le ρ') : ∀ {v : V} {x : Value}, VR σ ρ v x → VR σ ρ' v x
  | _, _, .bool b => .bool b
  | _, _, .int k n => .int k n
  | _, _, .str s => .str s
  | _, _, .ptrN => .ptrN
  | _, _, .ptr i h => .ptr i (hr _ _ h)
  | _, _, .slcN => .slcN
  | _, _, .slc h hl hc hn => .slc (hr _ _ h) hl hc hn
  | _, _, .slc0 h hc => .slc0 (hr _ _ h) hc
  | _, _, .mapN => .mapN
  | _, _, .map h => .map (hr _ _ h)
  | _, _, .func fn h1 h2 => .func fn (h1.mono hr) (h2.mono hr)
  | _, _, .meth hm h => .meth hm (h.mono hr)
  | _, _, .nilFunc => .nilFunc
  | _, _, .iface t h => .iface t (h.mono hr)
  | _, _, .nilIface => .nilIface
  | _, _, .agg h => .agg (h.mono hr)
  | _, _, .tuple h => .tuple (h.mono hr)
  | _, _, .sym i => .sym i
theorem VRs.mono {σ : Sg} {ρ ρ' : Ren} (hr : ρ.le ρ') : ∀ {v : List V} {x : List Value}, VRs σ ρ v x → VRs σ ρ' v x
  | _, _, .nil => .nil
  | _, _, .cons h t => .cons (h.mono hr) (t.mono hr)
end
theorem VRs.length {σ : Sg} {ρ : Ren} : ∀ {v : List V} {x : List Value}, VRs σ ρ v x → v.length = x.length
  | _, _, .nil => rfl
  | _, _, .cons _ t => by simp [t.length]
theorem VRs.append {σ : Sg} {ρ : Ren} : ∀ {v w : List V} {x y : List Value}, VRs σ ρ v x → VRs σ ρ w y → VRs σ ρ (v ++ w) (x ++ y)
  | _, _, _, _, .nil, h => h
  | _, _, _, _, .cons h t, k => .cons h (t.append k)
theorem VRs.get {σ : Sg} {ρ : Ren} : ∀ {v : List V} {x : List Value}, VRs σ ρ v x → ∀ {i : Nat} {u : V}, v[i]? = some u → ∃ y, x[i]? = some y ∧ VR σ ρ u y
  | _, _, .nil, i, u, h => by simp at h
  | _, _, .cons h t, 0, u, hu => by simp at hu; subst hu; exact ⟨_, rfl, h⟩
  | _, _, .cons h t, i + 1, u, hu => by simp at hu; obtain ⟨y, hy, hr⟩ := t.get hu; exact ⟨y, by simpa using hy, hr⟩
theorem VRs.take {σ : Sg} {ρ : Ren} : ∀ {v : List V} {x : List Value}, VRs σ ρ v x → ∀ n, VRs σ ρ (v.take n) (x.take n)
  | _, _, .nil, n => by simp; exact .nil
  | _, _, .cons h t, 0 => .nil
  | _, _, .cons h t, n + 1 => .cons h (t.take n)
theorem VRs.drop {σ : Sg} {ρ : Ren} : ∀ {v : List V} {x : List Value}, VRs σ ρ v x → ∀ n, VRs σ ρ (v.drop n) (x.drop n)
  | _, _, .nil, n => by simp; exact .nil
  | _, _, .cons h t, 0 => .cons h t
  | _, _, .cons h t, n + 1 => t.drop n
theorem VRs.replicate {σ : Sg} {ρ : Ren} {v : V} {x : Value} (h : VR σ ρ v x) : ∀ n, VRs σ ρ (List.replicate n v) (List.replicate n x)
  | 0 => .nil
  | n + 1 => .cons h (VRs.replicate h n)
theorem VR.undef (σ : Sg) (ρ : Ren) : VR σ ρ V.undef Go.undef := .tuple .nil
theorem VR.cells {σ : Sg} {ρ : Ren} {v : V} {x : Value} (hs : SgOk σ) (h : VR σ ρ v x) : VRs σ ρ v.cells x.cells.toList := by
  cases h with
  | agg h => exact h
  | sym i =>
    have hx := hs i
    have : (σ.val i).cells = #[σ.val i] := by
      generalize σ.val i = y at hx ⊢
      cases y <;> first | rfl | exact hx.elim
    rw [this]; exact .cons (.sym i) .nil
  | func fn h1 h2 => exact .cons (.func fn h1 h2) .nil
  | tuple h => exact .cons (.tuple h) .nil
  | bool b => exact .cons (.bool b) .nil
  | int k n => exact .cons (.int k n) .nil
  | str s => exact .cons (.str s) .nil
  | ptrN => exact .cons .ptrN .nil
  | ptr i h => exact .cons (.ptr i h) .nil
  | slcN => exact .cons .slcN .nil
  | slc h hl hc hn => exact .cons (.slc h hl hc hn) .nil
  | slc0 h hc => exact .cons (.slc0 h hc) .nil
  | mapN => exact .cons .mapN .nil
  | map h => exact .cons (.map h) .nil
  | meth hm h => exact .cons (.meth hm h) .nil
  | nilFunc => exact .cons .nilFunc .nil
  | iface t h => exact .cons (.iface t h) .nil
  | nilIface => exact .cons .nilIface .nil
mutual
theorem absV_sound (σ : Sg) (ρ : Ren) : ∀ {x : Value} {v : V}, absV x = some v → VR σ ρ v x
  | .bool b, v, h => by simp [absV] at h; subst h; exact .bool b
  | .int k n, v, h => by simp [absV] at h; subst h; exact .int k n
  | .string s, v, h => by simp [absV] at h; subst h; exact .str s
  | .pointer none, v, h => by simp [absV] at h; subst h; exact .ptrN
  | .pointer (some _), v, h => by simp [absV] at h
  | .slice none 0 0, v, h => by simp [absV] at h; subst h; exact .slcN
  | .slice none 0 (_ + 1), v, h => by simp [absV] at h
  | .slice none (_ + 1) _, v, h => by simp [absV] at h
  | .slice (some _) _ _, v, h => by simp [absV] at h
  | .map none, v, h => by simp [absV] at h; subst h; exact .mapN
  | .map (some _), v, h => by simp [absV] at h
  | .nilFunc, v, h => by simp [absV] at h; subst h; exact .nilFunc
  | .nilIface, v, h => by simp [absV] at h; subst h; exact .nilIface
  | .func (.func f) ⟨[]⟩ ⟨[]⟩, v, h => by simp [absV] at h; subst h; exact .func _ .nil .nil
  | .func (.func f) ⟨_ :: _⟩ _, v, h => by simp [absV] at h
  | .func (.func f) ⟨[]⟩ ⟨_ :: _⟩, v, h => by simp [absV] at h
  | .func (.method _) _ _, v, h => by simp [absV] at h
  | .func (.methodOf _ _) _ _, v, h => by simp [absV] at h
  | .func (.via ..) _ _, v, h => by simp [absV] at h
  | .func (.yield _) _ _, v, h => by simp [absV] at h
  | .agg ⟨l⟩, v, h => by
    simp only [absV, Option.map_eq_some_iff] at h
    obtain ⟨a, ha, rfl⟩ := h
    exact .agg (absVs_sound σ ρ ha)
  | .tuple ⟨l⟩, v, h => by
    simp only [absV, Option.map_eq_some_iff] at h
    obtain ⟨a, ha, rfl⟩ := h
    exact .tuple (absVs_sound σ ρ ha)
  | .float _ _, v, h => by simp [absV] at h
  | .complex _ _ _, v, h => by simp [absV] at h
  | .chan _, v, h => by simp [absV] at h
  | .iface _ _, v, h => by simp [absV] at h
theorem absVs_sound (σ : Sg) (ρ : Ren) : ∀ {x : List Value} {v : List V}, absVs x = some v → VRs σ ρ v x
  | [], v, h => by simp [absVs] at h; subst h; exact .nil
  | y :: r, v, h => by
    unfold absVs at h
    split at h
    · rename_i a l ha hl
      simp at h; subst h
      exact .cons (absV_sound σ ρ ha) (absVs_sound σ ρ hl)
    · cases h
end

/-! ## Memory -/
/-- One abstract block and where it lies. -/
def BlkR (σ : Sg) (ρ : Ren) (w : World) (b : RB) : Blk → Prop
  | .cells c _ pl => ∃ cs e lo hi, w.heap[b.r]? = some (.cells cs e (lo, hi)) ∧ cs.size = b.n ∧ (∀ j v, c.get (P.of j) = some v → ∃ x, cs[b.b + j]? = some x ∧ VR σ ρ v x) ∧ (∀ j, j < b.n → ¬ (lo ≤ j ∧ j < hi)) ∧ (pl = true → lo = 0 ∧ hi = 0 ∧ 0 < b.n)
  | .map es cl => ∃ es' : Array MapEntry, w.heap[b.r]? = some (.map es' cl) ∧ VRs σ ρ (es.map (·.1)) (es'.toList.map (·.key)) ∧ VRs σ ρ (es.map (·.2.1)) (es'.toList.map (·.val)) ∧ es.map (·.2.2) = es'.toList.map (·.born)
  | .siter len n pos => ∃ s : ByteArray, w.heap[b.r]? = some (.stringIter s pos) ∧ s.size = len ∧ digits s.data.toList = n
structure HR (σ : Sg) (ρ : Ren) (H : Hp) (w : World) : Prop where
  inj : ∀ p q x y b c, H.get p = some x → H.get q = some y → ρ p = some b → ρ q = some c → b.r = c.r → p = q
  blk : ∀ p x, H.get p = some x → ∃ b, ρ p = some b ∧ BlkR σ ρ w b x
  fresh : ∀ p b, ρ p = some b → p.toNat < H.next.toNat
/-- what a step does to memory: what is not the abstract memory's own stands as it stood -/
structure Stp (ρ : Ren) (H : Hp) (w : World) (ρ' : Ren) (H' : Hp) (w' : World) : Prop where
  os : w'.os = w.os
  tape : w'.tape = w.tape
  output : w'.output = w.output
  size : w.heap.size ≤ w'.heap.size
  le : ρ.le ρ'
  next : H.next.toNat ≤ H'.next.toNat
  old : ∀ p b, ρ' p = some b → ρ p = some b ∨ (H.next.toNat ≤ p.toNat ∧ p.toNat < H'.next.toNat)
  own : ∀ p x b, H'.get p = some x → ρ' p = some b → w.heap.size ≤ b.r ∨ ∃ q y c, H.get q = some y ∧ ρ q = some c ∧ c.r = b.r
  frame : ∀ r, r < w.heap.size → (∀ p x b, H.get p = some x → ρ p = some b → b.r ≠ r) → w'.heap[r]? = w.heap[r]?
theorem Stp.refl (ρ : Ren) (H : Hp) (w : World) : Stp ρ H w ρ H w :=
  ⟨rfl, rfl, rfl, Nat.le_refl _, .refl _, Nat.le_refl _, fun _ _ h => .inl h, fun p x b h1 h2 => .inr ⟨p, x, b, h1, h2, rfl⟩, fun _ _ _ => rfl⟩
theorem Stp.trans {ρ ρ' ρ'' : Ren} {H H' H'' : Hp} {w w' w'' : World} (h : Stp ρ H w ρ' H' w') (k : Stp ρ' H' w' ρ'' H'' w'') : Stp ρ H w ρ'' H'' w'' where
  os := k.os.trans h.os
  tape := k.tape.trans h.tape
  output := k.output.trans h.output
  size := Nat.le_trans h.size k.size
  le := h.le.trans k.le
  next := Nat.le_trans h.next k.next
  old := fun p b hp => by
    have := h.next
    have := k.next
    rcases k.old p b hp with h1 | h1
    · rcases h.old p b h1 with h2 | h2
      · exact .inl h2
      · exact .inr (by omega)
    · exact .inr (by omega)
  own := fun p x b hp hb => by
    rcases k.own p x b hp hb with h1 | ⟨q, y, c, h1, h2, h3⟩
    · exact .inl (Nat.le_trans h.size h1)
    · rcases h.own q y c h1 h2 with h4 | ⟨q', y', c', h4, h5, h6⟩
      · exact .inl (h3 ▸ h4)
      · exact .inr ⟨q', y', c', h4, h5, h6.trans h3⟩
  frame := fun r hr hf => by
    rw [k.frame r (Nat.lt_of_lt_of_le hr h.size), h.frame r hr hf]
    intro p x b hp hb e
    rcases h.own p x b hp hb with h1 | ⟨q, y, c, h1, h2, h3⟩
    · omega
    · exact hf q y c h1 h2 (h3.trans e)
theorem Stp.drew {ρ ρ' : Ren} {H H' : Hp} {w w' : World} (h : Stp ρ H w ρ' H' w') : Stp ρ H w ρ' H' { w' with drawn := w'.drawn + 1 } :=
  ⟨h.os, h.tape, h.output, h.size, h.le, h.next, h.old, h.own, h.frame⟩
theorem Stp.of_drew {ρ ρ' : Ren} {H H' : Hp} {w w' : World} (h : Stp ρ H { w with drawn := w.drawn + 1 } ρ' H' w') : Stp ρ H w ρ' H' w' :=
  ⟨h.os, h.tape, h.output, h.size, h.le, h.next, h.old, h.own, h.frame⟩
theorem BlkR.mono {σ : Sg} {ρ ρ' : Ren} {w w' : World} {b : RB} (hr : ρ.le ρ') (hw : w'.heap[b.r]? = w.heap[b.r]?) : ∀ {x : Blk}, BlkR σ ρ w b x → BlkR σ ρ' w' b x
  | .cells c _ pl, ⟨cs, e, lo, hi, h1, h2, h3, h4, h5⟩ => ⟨cs, e, lo, hi, hw.trans h1, h2, fun j v hj => let ⟨x, hx, hv⟩ := h3 j v hj; ⟨x, hx, hv.mono hr⟩, h4, h5⟩
  | .map es cl, ⟨es', h1, h2, h3, h4⟩ => ⟨es', hw.trans h1, h2.mono hr, h3.mono hr, h4⟩
  | .siter _ _ _, ⟨s, h1, h2, h3⟩ => ⟨s, hw.trans h1, h2, h3⟩
theorem BlkR.lt {σ : Sg} {ρ : Ren} {w : World} {b : RB} {x : Blk} (h : BlkR σ ρ w b x) : b.r < w.heap.size := by
  have key : ∀ o : Obj, w.heap[b.r]? = some o → b.r < w.heap.size := fun o ho => (Array.getElem?_eq_some_iff.1 ho).1
  cases x with
  | cells c n pl => obtain ⟨cs, e, lo, hi, h1, -⟩ := h; exact key _ h1
  | map es cl => obtain ⟨es', h1, -⟩ := h; exact key _ h1
  | siter _ _ _ => obtain ⟨s, h1, -⟩ := h; exact key _ h1
theorem HR.drew {σ : Sg} {ρ : Ren} {H : Hp} {w : World} (h : HR σ ρ H w) : HR σ ρ H { w with drawn := w.drawn + 1 } :=
  ⟨h.inj, fun p x hp => let ⟨b, hb, hr⟩ := h.blk p x hp; ⟨b, hb, hr.mono (.refl _) rfl⟩, h.fresh⟩

theorem Hp.get_new (H : Hp) (x : Blk) (p : P) : (H.new x).get p = if p = H.next then some x else H.get p := by unfold Hp.get Hp.new; rw [Tr.get_put]
theorem Hp.get_set (H : Hp) (q : P) (x : Blk) (p : P) : (H.set q x).get p = if p = q then some x else H.get p := by unfold Hp.get Hp.set; rw [Tr.get_put]
theorem Hp.get_kill (H : Hp) (q : P) (p : P) : (H.kill q).get p = if p = q then none else H.get p := by unfold Hp.get Hp.kill; rw [Tr.get_put]

/-- A new block: the real one, the new abstract one's name. -/
def Ren.add (ρ : Ren) (p : P) (b : RB) : Ren := fun q => if q = p then some b else ρ q
theorem Ren.add_le {σ : Sg} {ρ : Ren} {H : Hp} {w : World} (h : HR σ ρ H w) (b : RB) : ρ.le (ρ.add H.next b) := fun p c hp => by
  unfold Ren.add
  rw [if_neg]
  · exact hp
  · rintro rfl
    have := h.fresh _ _ hp
    omega
theorem HR.live {σ : Sg} {ρ : Ren} {H : Hp} {w : World} (h : HR σ ρ H w) {p : P} {x : Blk} (hp : H.get p = some x) : p.toNat < H.next.toNat := by
  obtain ⟨b, hb, -⟩ := h.blk p x hp
  exact h.fresh p b hb
theorem HR.new {σ : Sg} {ρ : Ren} {H : Hp} {w : World} (h : HR σ ρ H w) (o : Obj) (x : Blk) (n : Nat)
    (hx : BlkR σ (ρ.add H.next ⟨w.heap.size, 0, n⟩) { w with heap := w.heap.push o } ⟨w.heap.size, 0, n⟩ x) :
    HR σ (ρ.add H.next ⟨w.heap.size, 0, n⟩) (H.new x) { w with heap := w.heap.push o } ∧ Stp ρ H w (ρ.add H.next ⟨w.heap.size, 0, n⟩) (H.new x) { w with heap := w.heap.push o } := by
  have hle := Ren.add_le h ⟨w.heap.size, 0, n⟩
  have hother : ∀ r, r < w.heap.size → (w.heap.push o)[r]? = w.heap[r]? := fun r hr => by rw [Array.getElem?_push, if_neg (by omega)]
  have hnext : (H.new x).next.toNat = H.next.toNat + 1 := P.toNat_succ _
  refine ⟨⟨?_, ?_, ?_⟩, ⟨rfl, rfl, rfl, by simp, hle, by omega, ?_, ?_, fun r hr _ => hother r hr⟩⟩
  · intro p q y z b c hp hq hb hc hbc
    rw [Hp.get_new] at hp hq
    unfold Ren.add at hb hc
    by_cases e1 : p = H.next <;> by_cases e2 : q = H.next
    · rw [e1, e2]
    · rw [if_pos e1] at hb
      rw [if_neg e2] at hc hq
      obtain ⟨c', hc', hr⟩ := h.blk q z hq
      rw [hc'] at hc; cases hc; cases hb
      have := hr.lt
      simp at hbc; omega
    · rw [if_pos e2] at hc
      rw [if_neg e1] at hb hp
      obtain ⟨c', hc', hr⟩ := h.blk p y hp
      rw [hc'] at hb; cases hc; cases hb
      have := hr.lt
      simp at hbc; omega
    · rw [if_neg e1] at hb hp
      rw [if_neg e2] at hc hq
      exact h.inj p q y z b c hp hq hb hc hbc
  · intro p y hp
    rw [Hp.get_new] at hp
    by_cases e : p = H.next
    · rw [if_pos e] at hp; cases hp
      exact ⟨_, by unfold Ren.add; rw [if_pos e], hx⟩
    · rw [if_neg e] at hp
      obtain ⟨b, hb, hr⟩ := h.blk p y hp
      exact ⟨b, hle _ _ hb, hr.mono hle (hother _ hr.lt)⟩
  · intro p b hb
    unfold Ren.add at hb
    by_cases e : p = H.next
    · rw [e]; omega
    · rw [if_neg e] at hb
      have := h.fresh p b hb
      omega
  · intro p b hb
    unfold Ren.add at hb
    by_cases e : p = H.next
    · rw [e]; exact .inr (by omega)
    · rw [if_neg e] at hb; exact .inl hb
  · intro p y b hp hb
    rw [Hp.get_new] at hp
    unfold Ren.add at hb
    by_cases e : p = H.next
    · rw [if_pos e] at hb; cases hb; exact .inl (Nat.le_refl _)
    · rw [if_neg e] at hp hb
      exact .inr ⟨p, y, b, hp, hb, rfl⟩
end Go.Proofs.YtfhjamimbgdfpaaGreat.X
