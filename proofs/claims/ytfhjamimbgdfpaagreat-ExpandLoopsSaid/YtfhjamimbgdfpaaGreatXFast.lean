/- A verified executor, part XFast: laws of the executor; no condition. -/
import Derived.Test.YtfhjamimbgdfpaaGreatXCore
namespace Go.Proofs.YtfhjamimbgdfpaaGreat.X
open Go
set_option linter.unusedSimpArgs false
set_option linter.unusedVariables false
noncomputable section

/-! The executor once more, of recursors whose branches are closed terms: the kernel runs it some ten times as fast. -/
def succF : P → P := @P.rec (fun _ => P) (.o .h) (fun p _ => .i p) (fun _ ih => .o ih)
theorem succF_eq : ∀ p, succF p = P.succ p
  | .h => rfl
  | .o p => rfl
  | .i p => congrArg P.o (succF_eq p)
def ofG : Nat → Nat → P := @Nat.rec (fun _ => Nat → P) (fun _ => .h) (fun _ ih => @Nat.rec (fun _ => P) .h (fun m _ => @Bool.rec (fun _ => P) (.i (ih (Nat.div m 2))) (.o (ih (Nat.div m 2))) (Nat.beq (Nat.mod m 2) 0)))
theorem ofG_eq : ∀ f n, ofG f n = P.ofF f n
  | 0, _ => rfl
  | f + 1, 0 => rfl
  | f + 1, m + 1 => by
    have ih := ofG_eq f (Nat.div m 2)
    show @Bool.rec (fun _ => P) (.i (ofG f (Nat.div m 2))) (.o (ofG f (Nat.div m 2))) (Nat.beq (Nat.mod m 2) 0) = (bif Nat.beq (Nat.mod m 2) 0 then .o (P.ofF f (Nat.div m 2)) else .i (P.ofF f (Nat.div m 2)))
    rw [ih]
    cases Nat.beq (Nat.mod m 2) 0 <;> rfl
def pOf (n : Nat) : P := ofG (Nat.succ n) n
theorem pOf_eq (n : Nat) : pOf n = P.of n := ofG_eq _ _

def getV : P → Tr V → Option V := @P.rec (fun _ => Tr V → Option V)
  (@Tr.rec V (fun _ => Option V) none (fun _ v _ _ _ => v))
  (fun _ ih => @Tr.rec V (fun _ => Option V) none (fun l _ _ _ _ => ih l))
  (fun _ ih => @Tr.rec V (fun _ => Option V) none (fun _ _ r _ _ => ih r))
def getB : P → Tr Blk → Option Blk := @P.rec (fun _ => Tr Blk → Option Blk)
  (@Tr.rec Blk (fun _ => Option Blk) none (fun _ v _ _ _ => v))
  (fun _ ih => @Tr.rec Blk (fun _ => Option Blk) none (fun l _ _ _ _ => ih l))
  (fun _ ih => @Tr.rec Blk (fun _ => Option Blk) none (fun _ _ r _ _ => ih r))
def getN : P → Tr XFn → Option XFn := @P.rec (fun _ => Tr XFn → Option XFn)
  (@Tr.rec XFn (fun _ => Option XFn) none (fun _ v _ _ _ => v))
  (fun _ ih => @Tr.rec XFn (fun _ => Option XFn) none (fun l _ _ _ _ => ih l))
  (fun _ ih => @Tr.rec XFn (fun _ => Option XFn) none (fun _ _ r _ _ => ih r))
def putV : P → Option V → Tr V → Tr V := @P.rec (fun _ => Option V → Tr V → Tr V)
  (fun v => @Tr.rec V (fun _ => Tr V) (.nd .lf v .lf) (fun l _ r _ _ => .nd l v r))
  (fun _ ih v => @Tr.rec V (fun _ => Tr V) (.nd (ih v .lf) none .lf) (fun l x r _ _ => .nd (ih v l) x r))
  (fun _ ih v => @Tr.rec V (fun _ => Tr V) (.nd .lf none (ih v .lf)) (fun l x r _ _ => .nd l x (ih v r)))
def putB : P → Option Blk → Tr Blk → Tr Blk := @P.rec (fun _ => Option Blk → Tr Blk → Tr Blk)
  (fun v => @Tr.rec Blk (fun _ => Tr Blk) (.nd .lf v .lf) (fun l _ r _ _ => .nd l v r))
  (fun _ ih v => @Tr.rec Blk (fun _ => Tr Blk) (.nd (ih v .lf) none .lf) (fun l x r _ _ => .nd (ih v l) x r))
  (fun _ ih v => @Tr.rec Blk (fun _ => Tr Blk) (.nd .lf none (ih v .lf)) (fun l x r _ _ => .nd l x (ih v r)))
theorem getV_eq : ∀ (p : P) (t : Tr V), getV p t = t.get p
  | .h, .lf => rfl
  | .h, .nd _ _ _ => rfl
  | .o p, .lf => rfl
  | .o p, .nd l _ _ => getV_eq p l
  | .i p, .lf => rfl
  | .i p, .nd _ _ r => getV_eq p r
theorem getB_eq : ∀ (p : P) (t : Tr Blk), getB p t = t.get p
  | .h, .lf => rfl
  | .h, .nd _ _ _ => rfl
  | .o p, .lf => rfl
  | .o p, .nd l _ _ => getB_eq p l
  | .i p, .lf => rfl
  | .i p, .nd _ _ r => getB_eq p r
theorem getN_eq : ∀ (p : P) (t : Tr XFn), getN p t = t.get p
  | .h, .lf => rfl
  | .h, .nd _ _ _ => rfl
  | .o p, .lf => rfl
  | .o p, .nd l _ _ => getN_eq p l
  | .i p, .lf => rfl
  | .i p, .nd _ _ r => getN_eq p r
theorem putV_eq (v : Option V) : ∀ (p : P) (t : Tr V), putV p v t = t.put v p
  | .h, .lf => rfl
  | .h, .nd _ _ _ => rfl
  | .o p, .lf => congrArg (fun x => Tr.nd x none .lf) (putV_eq v p .lf)
  | .o p, .nd l x r => congrArg (fun y => Tr.nd y x r) (putV_eq v p l)
  | .i p, .lf => congrArg (fun x => Tr.nd .lf none x) (putV_eq v p .lf)
  | .i p, .nd l x r => congrArg (fun y => Tr.nd l x y) (putV_eq v p r)
theorem putB_eq (v : Option Blk) : ∀ (p : P) (t : Tr Blk), putB p v t = t.put v p
  | .h, .lf => rfl
  | .h, .nd _ _ _ => rfl
  | .o p, .lf => congrArg (fun x => Tr.nd x none .lf) (putB_eq v p .lf)
  | .o p, .nd l x r => congrArg (fun y => Tr.nd y x r) (putB_eq v p l)
  | .i p, .lf => congrArg (fun x => Tr.nd .lf none x) (putB_eq v p .lf)
  | .i p, .nd l x r => congrArg (fun y => Tr.nd l x y) (putB_eq v p r)

def orU : Option V → V := @Option.rec V (fun _ => V) V.undef (fun v => v)
def evF : Opd → Fr → V := @Opd.rec (fun _ => Fr → V) (fun p F => orU (getV p F)) (fun v _ => v)
theorem orU_eq (x : Option V) : orU x = x.getD V.undef := by cases x <;> rfl
theorem evF_eq (F : Fr) : ∀ x, evF x F = ev F x
  | .t p => by show orU (getV p F) = _; rw [orU_eq, getV_eq]; rfl
  | .c v => rfl
def evs : List Opd → Fr → List V := @List.rec Opd (fun _ => Fr → List V) (fun _ => []) (fun x _ ih F => evF x F :: ih F)
theorem evs_eq (F : Fr) : ∀ l, evs l F = l.map (ev F)
  | [] => rfl
  | x :: r => by show evF x F :: evs r F = _; rw [evF_eq, evs_eq F r]; rfl

/-! ## Forms of values -/
def ptrA : V → Option (P × Nat) := fun v => @V.casesOn (fun _ => Option (P × Nat)) v (fun _ => none) (fun _ _ => none) (fun _ _ => none) (fun a => a) (fun _ _ _ _ => none) (fun _ => none) (fun _ _ _ => none) none (fun _ _ => none) none (fun _ => none) (fun _ => none) (fun _ => none)
def cellsF : V → List V := fun v => match v with | .agg cs => cs | v => [v]

/-! ## Memory -/
def cellF : Nat → Blk → Option V := fun i => @Blk.rec (fun _ => Option V) (fun c _ _ => getV (pOf i) c) (fun _ _ => none) (fun _ _ _ => none)
def oVV (f : Blk → Option V) : Option Blk → Option V := @Option.rec Blk (fun _ => Option V) none f
def loadF (H : Hp) (b : P) (i : Nat) : Option V := oVV (cellF i) (getB b H.t)
theorem loadF_eq (H : Hp) (b : P) (i : Nat) : loadF H b i = H.load b i := by
  unfold loadF Hp.load Hp.get oVV
  rw [getB_eq]
  cases Tr.get b H.t with
  | none => rfl
  | some k => cases k <;> first | rfl | (show getV (pOf i) _ = _; rw [getV_eq, pOf_eq])
def rowG : Nat → Nat → Tr V → Option (List V) := @Nat.rec (fun _ => Nat → Tr V → Option (List V)) (fun _ _ => some [])
  (fun _ ih i t => @Option.rec V (fun _ => Option (List V)) none (fun v => @Option.rec (List V) (fun _ => Option (List V)) none (fun l => some (v :: l)) (ih (Nat.succ i) t)) (getV (pOf i) t))
theorem rowG_eq (t : Tr V) : ∀ n i, rowG n i t = rowGet t n i
  | 0, _ => rfl
  | n + 1, i => by
    have ih := rowG_eq t n (i + 1)
    show @Option.rec V (fun _ => Option (List V)) none (fun v => @Option.rec (List V) (fun _ => Option (List V)) none (fun l => some (v :: l)) (rowG n (i + 1) t)) (getV (pOf i) t) = _
    rw [ih, getV_eq, pOf_eq]
    conv => rhs; unfold rowGet
    cases t.get (P.of i) with
    | none => rfl
    | some v => simp only; cases rowGet t n (i + 1) <;> rfl
def oVL (f : Blk → Option (List V)) : Option Blk → Option (List V) := @Option.rec Blk (fun _ => Option (List V)) none f
def cellsN (i n : Nat) : Blk → Option (List V) := @Blk.rec (fun _ => Option (List V)) (fun c _ _ => rowG n i c) (fun _ _ => none) (fun _ _ _ => none)
def loadnF (H : Hp) (b : P) (i n : Nat) : Option (List V) := oVL (cellsN i n) (getB b H.t)
theorem loadnF_eq (H : Hp) (b : P) (i n : Nat) : loadnF H b i n = H.loadn b i n := by
  unfold loadnF Hp.loadn Hp.get oVL
  rw [getB_eq]
  cases Tr.get b H.t with
  | none => rfl
  | some k => cases k <;> first | rfl | exact rowG_eq _ _ _
def rowF : List V → Nat → Tr V → Tr V := @List.rec V (fun _ => Nat → Tr V → Tr V) (fun _ t => t) (fun v _ ih i t => ih (Nat.succ i) (putV (pOf i) (some v) t))
theorem rowF_eq : ∀ l i t, rowF l i t = rowOf l i t
  | [], _, _ => rfl
  | v :: r, i, t => by
    show rowF r (i + 1) (putV (pOf i) (some v) t) = _
    rw [rowF_eq r, putV_eq, pOf_eq]; rfl
def allF : Nat → Nat → Tr V → Bool := @Nat.rec (fun _ => Nat → Tr V → Bool) (fun _ _ => true) (fun _ ih i c => @Option.rec V (fun _ => Bool) false (fun _ => ih (Nat.succ i) c) (getV (pOf i) c))
theorem allF_eq (c : Tr V) : ∀ n i, allF n i c = allIn c n i
  | 0, _ => rfl
  | n + 1, i => by
    show @Option.rec V (fun _ => Bool) false (fun _ => allF n (i + 1) c) (getV (pOf i) c) = _
    rw [getV_eq, pOf_eq, allF_eq c n]
    conv => rhs; unfold allIn
    cases c.get (P.of i) <;> rfl
def oneF : V → Bool := fun v => @V.casesOn (fun _ => Bool) v (fun _ => true) (fun _ _ => true) (fun _ _ => true) (fun _ => true) (fun _ _ _ _ => true) (fun _ => true) (fun _ _ _ => true) true (fun _ _ => true) true (fun _ => false) (fun _ => false) (fun _ => true)
theorem oneF_eq : ∀ v, oneF v = V.one v := fun v => by cases v <;> rfl
def onesF : List V → Bool := @List.rec V (fun _ => Bool) true (fun v _ ih => @Bool.rec (fun _ => Bool) false ih (oneF v))
theorem onesF_eq : ∀ l : List V, onesF l = l.all V.one
  | [] => rfl
  | v :: r => by
    show @Bool.rec (fun _ => Bool) false (onesF r) (oneF v) = _
    rw [onesF_eq r, oneF_eq, List.all_cons]
    cases V.one v <;> rfl
def lenF : List V → Nat := @List.rec V (fun _ => Nat) 0 (fun _ _ ih => Nat.succ ih)
theorem lenF_eq : ∀ l : List V, lenF l = l.length
  | [] => rfl
  | v :: r => congrArg Nat.succ (lenF_eq r)
def setF (H : Hp) (b : P) (x : Blk) : Hp := ⟨putB b (some x) H.t, H.next⟩
def newF (H : Hp) (x : Blk) : Hp := ⟨putB H.next (some x) H.t, succF H.next⟩
def killF (H : Hp) (b : P) : Hp := ⟨putB b none H.t, H.next⟩
def newRowF (H : Hp) (cs : List V) (plain : Bool) : Hp := newF H (.cells (rowF cs 0 .lf) (lenF cs) plain)
theorem setF_eq (H : Hp) (b : P) (x : Blk) : setF H b x = H.set b x := by unfold setF Hp.set; rw [putB_eq]
theorem newF_eq (H : Hp) (x : Blk) : newF H x = H.new x := by unfold newF Hp.new; rw [putB_eq, succF_eq]
theorem killF_eq (H : Hp) (b : P) : killF H b = H.kill b := by unfold killF Hp.kill; rw [putB_eq]
theorem newRowF_eq (H : Hp) (cs : List V) (pl : Bool) : newRowF H cs pl = H.newRow cs pl := by unfold newRowF Hp.newRow; rw [newF_eq, rowF_eq, lenF_eq]
def storeK (H : Hp) (b : P) (i : Nat) (vs : List V) : Blk → Option Hp := @Blk.rec (fun _ => Option Hp)
  (fun c n p => @Bool.rec (fun _ => Option Hp) none (@Bool.rec (fun _ => Option Hp) none (some (setF H b (.cells (rowF vs i c) n p))) (allF (lenF vs) i c)) (onesF vs)) (fun _ _ => none) (fun _ _ _ => none)
def storeF (H : Hp) (b : P) (i : Nat) (vs : List V) : Option Hp := @Option.rec Blk (fun _ => Option Hp) none (storeK H b i vs) (getB b H.t)
theorem storeF_eq (H : Hp) (b : P) (i : Nat) (vs : List V) : storeF H b i vs = H.storen b i vs := by
  unfold storeF Hp.storen Hp.get
  rw [getB_eq]
  cases Tr.get b H.t with
  | none => rfl
  | some k =>
    cases k with
    | cells c n p =>
      simp only [storeK, setF_eq, rowF_eq, allF_eq, lenF_eq, onesF_eq]
      cases vs.all V.one <;> cases allIn c vs.length i <;> rfl
    | map _ _ => rfl
    | siter _ _ _ => rfl

/-! ## Operations -/
abbrev R := Option (V × Hp)
def yes (H : Hp) (v : V) : R := some (v, H)
def dMv (x : Opd) (F : Fr) (H : Hp) : R := some (evF x F, H)
def boolA : V → Option Bool := fun v => @V.casesOn (fun _ => Option Bool) v (fun b => some b) (fun _ _ => none) (fun _ _ => none) (fun _ => none) (fun _ _ _ _ => none) (fun _ => none) (fun _ _ _ => none) none (fun _ _ => none) none (fun _ => none) (fun _ => none) (fun _ => none)
def dPick (c a b : Opd) (F : Fr) (H : Hp) : R := @Option.rec Bool (fun _ => R) none (@Bool.rec (fun _ => R) (some (evF b F, H)) (some (evF a F, H))) (boolA (evF c F))
def dNew (z : List V) (F : Fr) (H : Hp) : R := @Bool.rec (fun _ => R) none (some (.ptr (some (H.next, 0)), newRowF H z true)) (Nat.ble 1 (lenF z))
def dBox (n : Nat) (x : Opd) (F : Fr) (H : Hp) : R :=
  (fun cs => @Bool.rec (fun _ => R) none (some (.ptr (some (H.next, 0)), newRowF H cs true)) (Nat.beq (lenF cs) n && Nat.ble 1 n && onesF cs)) (cellsF (evF x F))
def okV (H : Hp) : Option V → R := @Option.rec V (fun _ => R) none (fun v => some (v, H))
def okL (H : Hp) : Option (List V) → R := @Option.rec (List V) (fun _ => R) none (fun l => some (.agg l, H))
def okH (v : V) : Option Hp → R := @Option.rec Hp (fun _ => R) none (fun H => some (v, H))
def atPtr (f : P → Nat → R) : Option (P × Nat) → R := @Option.rec (P × Nat) (fun _ => R) none (@Prod.rec P Nat (fun _ => R) f)
theorem atPtr_eq (f : P → Nat → R) (v : V) : atPtr f (ptrA v) = (match v with | .ptr (some (b, i)) => f b i | _ => none) := by
  cases v with
  | ptr a => cases a <;> rfl
  | _ => rfl
def dLoad (x : Opd) (F : Fr) (H : Hp) : R := atPtr (fun b i => okV H (loadF H b i)) (ptrA (evF x F))
def dLoadn (n : Nat) (x : Opd) (F : Fr) (H : Hp) : R := atPtr (fun b i => okL H (loadnF H b i n)) (ptrA (evF x F))
def dStore (n : Nat) (x y : Opd) (F : Fr) (H : Hp) : R := @Bool.rec (fun _ => R) none (atPtr (fun b i => okH V.undef (storeF H b i (cellsF (evF y F)))) (ptrA (evF x F))) (Nat.beq (lenF (cellsF (evF y F))) n)
def isFn : Fn → Bool := @Fn.rec (fun _ => Bool) (fun _ => true) (fun _ => false) (fun _ _ => false) (fun _ _ _ _ => false) (fun _ => false)
def niled : V → Bool := fun v => @V.casesOn (fun _ => Bool) v (fun _ => false) (fun _ _ => false) (fun _ _ => false) (fun a => a.isSome) (fun _ _ _ _ => false) (fun _ => true) (fun fn _ _ => isFn fn) false (fun _ _ => true) false (fun _ => false) (fun _ => false) (fun _ => false)
def dNilck (x : Opd) (F : Fr) (H : Hp) : R := @Bool.rec (fun _ => R) none (some (evF x F, H)) (niled (evF x F))
def dFaddr (off : Nat) (x : Opd) (F : Fr) (H : Hp) : R := atPtr (fun b i => some (.ptr (some (b, Nat.add i off)), H)) (ptrA (evF x F))
def dLen1 (v : V) (H : Hp) : R := @V.casesOn (fun _ => R) v (fun _ => none) (fun _ _ => none) (fun _ _ => none) (fun _ => none) (fun _ _ l _ => some (.int .i64 (.ofNat l), H)) (fun _ => none) (fun _ _ _ => none) none (fun _ _ => none) none (fun _ => none) (fun _ => none) (fun _ => none)
def dLen0 (v : V) (H : Hp) : R := @V.casesOn (fun _ => R) v (fun _ => none) (fun _ _ => none) (fun l _ => some (.int .i64 (.ofNat l), H)) (fun _ => none) (fun _ _ _ _ => none) (fun _ => none) (fun _ _ _ => none) none (fun _ _ => none) none (fun _ => none) (fun _ => none) (fun _ => none)

/-! ## Numbers -/
def kindF : IntKind → IntKind → Bool := fun j k => match j, k with | .i8, .i8 => true | .i16, .i16 => true | .i32, .i32 => true | .i64, .i64 => true | .u8, .u8 => true | .u16, .u16 => true | .u32, .u32 => true | .u64, .u64 => true | _, _ => false
theorem kindF_eq (j k : IntKind) : kindF j k = decide (j = k) := by cases j <;> cases k <;> rfl
def addF : Int → Int → Int := @Int.rec (fun _ => Int → Int) (fun a => @Int.rec (fun _ => Int) (fun b => .ofNat (Nat.add a b)) (fun b => Int.add (.ofNat a) (.negSucc b))) (fun a y => Int.add (.negSucc a) y)
theorem addF_eq (x y : Int) : addF x y = Int.add x y := by cases x <;> cases y <;> rfl
def subF : Int → Int → Int := @Int.rec (fun _ => Int → Int) (fun a => @Int.rec (fun _ => Int) (fun b => @Bool.rec (fun _ => Int) (Int.sub (.ofNat a) (.ofNat b)) (.ofNat (Nat.sub a b)) (Nat.ble b a)) (fun b => Int.sub (.ofNat a) (.negSucc b))) (fun a y => Int.sub (.negSucc a) y)
theorem subF_eq (x y : Int) : subF x y = Int.sub x y := by
  cases x with
  | negSucc a => cases y <;> rfl
  | ofNat a =>
    cases y with
    | negSucc b => rfl
    | ofNat b =>
      show @Bool.rec (fun _ => Int) (Int.sub (.ofNat a) (.ofNat b)) (.ofNat (Nat.sub a b)) (Nat.ble b a) = _
      cases h : Nat.ble b a with
      | false => rfl
      | true =>
        have h' := Nat.ble_eq.mp h
        show Int.ofNat (a - b) = (a : Int) - (b : Int)
        rw [Int.ofNat_eq_natCast]; omega
def mulF : Int → Int → Int := @Int.rec (fun _ => Int → Int) (fun a => @Int.rec (fun _ => Int) (fun b => .ofNat (Nat.mul a b)) (fun b => Int.mul (.ofNat a) (.negSucc b))) (fun a y => Int.mul (.negSucc a) y)
theorem mulF_eq (x y : Int) : mulF x y = Int.mul x y := by cases x <;> cases y <;> rfl
def wrap64 : Int → Int := @Int.rec (fun _ => Int) (fun a => @Bool.rec (fun _ => Int) (IntKind.wrap .i64 (.ofNat a)) (.ofNat a) (Nat.blt a 9223372036854775808)) (fun a => @Bool.rec (fun _ => Int) (IntKind.wrap .i64 (.negSucc a)) (.negSucc a) (Nat.blt a 9223372036854775808))
theorem bif_rec {α : Type} (b : Bool) (x y : α) : @Bool.rec (fun _ => α) y x b = (bif b then x else y) := by cases b <;> rfl
theorem wrap64_eq (n : Int) : wrap64 n = wrapI .i64 n := by
  cases n with
  | ofNat a => exact bif_rec _ _ _
  | negSucc a => exact bif_rec _ _ _
def wrapF : IntKind → Int → Int := @IntKind.rec (fun _ => Int → Int) (wrapI .i8) (wrapI .i16) (wrapI .i32) wrap64 (wrapI .u8) (wrapI .u16) (wrapI .u32) (wrapI .u64)
theorem wrapF_eq (k : IntKind) (n : Int) : wrapF k n = wrapI k n := by cases k <;> first | rfl | exact wrap64_eq n
def ltF : Int → Int → Bool := @Int.rec (fun _ => Int → Bool) (fun a => @Int.rec (fun _ => Bool) (fun b => Nat.blt a b) (fun _ => false)) (fun a => @Int.rec (fun _ => Bool) (fun _ => true) (fun b => Nat.blt b a))
theorem ltF_eq (x y : Int) : ltF x y = ltI x y := by cases x <;> cases y <;> rfl
def eqF : Int → Int → Bool := @Int.rec (fun _ => Int → Bool) (fun a => @Int.rec (fun _ => Bool) (fun b => Nat.beq a b) (fun _ => false)) (fun a => @Int.rec (fun _ => Bool) (fun _ => false) (fun b => Nat.beq a b))
theorem eqF_eq (x y : Int) : eqF x y = eqI x y := by cases x <;> cases y <;> rfl
def notF : Bool → Bool := @Bool.rec (fun _ => Bool) true false
theorem notF_eq (b : Bool) : notF b = not b := by cases b <;> rfl
def andF : Bool → Bool → Bool := @Bool.rec (fun _ => Bool → Bool) (fun _ => false) (fun b => b)
theorem andF_eq (a b : Bool) : andF a b = (a && b) := by cases a <;> cases b <;> rfl
abbrev B := IntKind → Int → Int → Option V
def bInt : BinOp → B := @BinOp.rec (fun _ => B)
  (fun k x y => some (.int k (wrapF k (addF x y)))) (fun k x y => some (.int k (wrapF k (subF x y)))) (fun k x y => some (.int k (wrapF k (mulF x y)))) (binI .quo) (binI .rem) (binI .and) (binI .or) (binI .xor) (binI .shl) (binI .shr) (binI .andNot)
  (fun _ x y => some (.bool (eqF x y))) (fun _ x y => some (.bool (notF (eqF x y)))) (fun _ x y => some (.bool (ltF x y))) (fun _ x y => some (.bool (notF (ltF y x)))) (fun _ x y => some (.bool (ltF y x))) (fun _ x y => some (.bool (notF (ltF x y))))
theorem bInt_eq (op : BinOp) (k : IntKind) (x y : Int) : bInt op k x y = binI op k x y := by
  cases op <;> first | rfl | (simp only [bInt, binI, wrapF_eq, addF_eq, subF_eq, mulF_eq, eqF_eq, ltF_eq, notF_eq]; done)
abbrev S := Nat → Nat → Nat → Nat → Option V
def bStr : BinOp → S := @BinOp.rec (fun _ => S)
  (fun la a lb b => @Bool.rec (fun _ => Option V) none (some (.str (Nat.add la lb) (strCat la a b))) (Nat.ble (Nat.add la lb) 1000000000)) (binS .sub) (binS .mul) (binS .quo) (binS .rem) (binS .and) (binS .or) (binS .xor) (binS .shl) (binS .shr) (binS .andNot)
  (fun la a lb b => some (.bool (andF (Nat.beq la lb) (Nat.beq a b)))) (fun la a lb b => some (.bool (notF (andF (Nat.beq la lb) (Nat.beq a b))))) (binS .lss) (binS .leq) (binS .gtr) (binS .geq)
theorem bStr_eq (op : BinOp) (la a lb b : Nat) : bStr op la a lb b = binS op la a lb b := by
  cases op <;> first | rfl | (simp only [bStr, binS, andF_eq, notF_eq]; done) | (simp only [bStr, binS]; cases Nat.ble (Nat.add la lb) 1000000000 <;> rfl)

def binIV (fi : B) (H : Hp) (k : IntKind) (a : Int) : V → R := fun v => @V.casesOn (fun _ => R) v (fun _ => none) (fun j b => @Bool.rec (fun _ => R) none (okV H (fi k a b)) (kindF k j)) (fun _ _ => none) (fun _ => none) (fun _ _ _ _ => none) (fun _ => none) (fun _ _ _ => none) none (fun _ _ => none) none (fun _ => none) (fun _ => none) (fun _ => none)
def binSV (fs : S) (H : Hp) (la a : Nat) : V → R := fun v => @V.casesOn (fun _ => R) v (fun _ => none) (fun _ _ => none) (fun lb b => okV H (fs la a lb b)) (fun _ => none) (fun _ _ _ _ => none) (fun _ => none) (fun _ _ _ => none) none (fun _ _ => none) none (fun _ => none) (fun _ => none) (fun _ => none)
def bin2 (fi : B) (fs : S) (H : Hp) (u : V) : V → R := fun v => @V.casesOn (fun _ => R) u (fun _ => none) (fun k a => binIV fi H k a v) (fun la a => binSV fs H la a v) (fun _ => none) (fun _ _ _ _ => none) (fun _ => none) (fun _ _ _ => none) none (fun _ _ => none) none (fun _ => none) (fun _ => none) (fun _ => none)
theorem okV_eq (H : Hp) (x : Option V) : okV H x = (match x with | some v => some (v, H) | none => none) := by cases x <;> rfl
theorem okL_eq (H : Hp) (x : Option (List V)) : okL H x = (match x with | some l => some (.agg l, H) | none => none) := by cases x <;> rfl
theorem okH_eq (v : V) (x : Option Hp) : okH v x = (match x with | some H => some (v, H) | none => none) := by cases x <;> rfl
def dBin (op : BinOp) (x y : Opd) (F : Fr) (H : Hp) : R := bin2 (bInt op) (bStr op) H (evF x F) (evF y F)
theorem dBin_eq {op : BinOp} (h1 : op ≠ .shl) (h2 : op ≠ .shr) (x y : Opd) (F : Fr) (H : Hp) : dBin op x y F H = doX (.bin op x y) F H := by
  unfold dBin doX bin2
  simp only [evF_eq]
  generalize ev F x = u
  generalize ev F y = v
  cases u <;> cases v <;> cases op <;> first
    | rfl
    | exact absurd rfl h1
    | exact absurd rfl h2
    | (simp only [binIV, kindF_eq, bInt_eq, okV_eq]; rename_i k a j b; cases decide (k = j) <;> rfl)
    | (simp only [binSV, bStr_eq, okV_eq]; rfl)
    | (simp only [binSV, bStr_eq, okV_eq])
def binD : BinOp → Opd → Opd → Fr → Hp → R := @BinOp.rec (fun _ => Opd → Opd → Fr → Hp → R)
  (dBin .add) (dBin .sub) (dBin .mul) (dBin .quo) (dBin .rem) (dBin .and) (dBin .or) (dBin .xor) (fun x y => doX (.bin .shl x y)) (fun x y => doX (.bin .shr x y)) (dBin .andNot) (dBin .eql) (dBin .neq) (dBin .lss) (dBin .leq) (dBin .gtr) (dBin .geq)
theorem binD_eq (op : BinOp) (x y : Opd) (F : Fr) (H : Hp) : binD op x y F H = doX (.bin op x y) F H := by
  cases op <;> first | rfl | exact dBin_eq (by decide) (by decide) x y F H
theorem dMv_eq (x : Opd) (F : Fr) (H : Hp) : dMv x F H = doX (.mv x) F H := by unfold dMv doX; rw [evF_eq]
theorem dPick_eq (c a b : Opd) (F : Fr) (H : Hp) : dPick c a b F H = doX (.pick c a b) F H := by
  unfold dPick doX
  simp only [evF_eq]
  generalize ev F c = u
  cases u <;> first | rfl | (rename_i b; cases b <;> rfl)
theorem dNew_eq (z : List V) (F : Fr) (H : Hp) : dNew z F H = doX (.new z) F H := by
  unfold dNew doX
  simp only [newRowF_eq, lenF_eq]
  cases Nat.ble 1 z.length <;> rfl
theorem cellsF_eq (v : V) : cellsF v = v.cells := by cases v <;> rfl
theorem dBox_eq (n : Nat) (x : Opd) (F : Fr) (H : Hp) : dBox n x F H = doX (.box n x) F H := by
  unfold dBox doX
  simp only [newRowF_eq, lenF_eq, evF_eq, cellsF_eq, onesF_eq]
  generalize (Nat.beq _ _ && _ && _) = b
  cases b <;> rfl
theorem dLoad_eq (x : Opd) (F : Fr) (H : Hp) : dLoad x F H = doX (.load x) F H := by
  unfold dLoad doX
  simp only [evF_eq, atPtr_eq, loadF_eq, okV_eq]; rfl
theorem dLoadn_eq (n : Nat) (x : Opd) (F : Fr) (H : Hp) : dLoadn n x F H = doX (.loadn n x) F H := by
  unfold dLoadn doX
  simp only [evF_eq, atPtr_eq, loadnF_eq, okL_eq]; rfl
theorem dStore_eq (n : Nat) (x y : Opd) (F : Fr) (H : Hp) : dStore n x y F H = doX (.store n x y) F H := by
  unfold dStore doX
  simp only [evF_eq, atPtr_eq, storeF_eq, okH_eq, lenF_eq, cellsF_eq]
  cases Nat.beq (ev F y).cells.length n <;> rfl
theorem dNilck_eq (x : Opd) (F : Fr) (H : Hp) : dNilck x F H = doX (.nilck x) F H := by
  unfold dNilck doX
  simp only [evF_eq]
  generalize ev F x = u
  cases u <;> first | rfl | (rename_i a; cases a <;> rfl) | (rename_i f a b; cases f <;> rfl)
theorem dFaddr_eq (n : Nat) (x : Opd) (F : Fr) (H : Hp) : dFaddr n x F H = doX (.faddr n x) F H := by
  unfold dFaddr doX
  simp only [evF_eq, atPtr_eq]; rfl
def dLen : Nat → Opd → Fr → Hp → R := fun k x F H => @Nat.rec (fun _ => R) (dLen0 (evF x F) H) (fun j _ => @Nat.rec (fun _ => R) (dLen1 (evF x F) H) (fun i _ => doX (.len (Nat.succ (Nat.succ i)) x) F H) j) k
theorem dLen_eq (k : Nat) (x : Opd) (F : Fr) (H : Hp) : dLen k x F H = doX (.len k x) F H := by
  rcases k with _ | _ | k
  · show dLen0 (evF x F) H = _
    unfold doX; simp only [evF_eq]; generalize ev F x = u; cases u <;> rfl
  · show dLen1 (evF x F) H = _
    unfold doX; simp only [evF_eq]; generalize ev F x = u; cases u <;> rfl
  · rfl
def dUn (op : UnOp) (x : Opd) (F : Fr) (H : Hp) : R := @UnOp.rec (fun _ => R) (doX (.un .neg x) F H) (doX (.un .xor x) F H) (@Option.rec Bool (fun _ => R) none (fun b => some (.bool (notF b), H)) (boolA (evF x F))) (doX (.un .plus x) F H) op
theorem dUn_eq (op : UnOp) (x : Opd) (F : Fr) (H : Hp) : dUn op x F H = doX (.un op x) F H := by
  cases op <;> first | rfl | skip
  unfold dUn doX
  simp only [evF_eq]
  generalize ev F x = u
  cases u <;> first | rfl | (rename_i b; cases b <;> rfl)
def extL : Nat → List V → Option V := @Nat.rec (fun _ => List V → Option V) (@List.rec V (fun _ => Option V) none (fun v _ _ => some v)) (fun _ ih => @List.rec V (fun _ => Option V) none (fun _ r _ => ih r))
theorem extL_eq : ∀ (n : Nat) (l : List V), extL n l = l[n]?
  | 0, [] => rfl
  | 0, _ :: _ => rfl
  | n + 1, [] => rfl
  | n + 1, _ :: r => by show extL n r = _; rw [extL_eq n r]; simp
def dExt (n : Nat) (x : Opd) (F : Fr) (H : Hp) : R := (fun v => @V.casesOn (fun _ => R) v (fun _ => none) (fun _ _ => none) (fun _ _ => none) (fun _ => none) (fun _ _ _ _ => none) (fun _ => none) (fun _ _ _ => none) none (fun _ _ => none) none (fun _ => none) (fun l => okV H (extL n l)) (fun _ => none)) (evF x F)
theorem dExt_eq (n : Nat) (x : Opd) (F : Fr) (H : Hp) : dExt n x F H = doX (.ext n x) F H := by
  unfold dExt doX
  simp only [evF_eq]
  generalize ev F x = u
  cases u <;> first | rfl | (simp only [okV_eq, extL_eq]; rfl)
def dIaddrL (sz : Nat) (x i : Opd) (F : Fr) (H : Hp) : R :=
  (fun v => @V.casesOn (fun _ => R) v (fun _ => none) (fun _ _ => none) (fun _ _ => none) (fun _ => none) (fun a _ l _ => (fun v => @V.casesOn (fun _ => R) v (fun _ => none) (fun _ n => @Int.rec (fun _ => R) (fun n => @Bool.rec (fun _ => R) none (atPtr (fun b j => some (.ptr (some (b, Nat.add j (Nat.mul n sz))), H)) a) (Nat.blt n l)) (fun _ => none) n) (fun _ _ => none) (fun _ => none) (fun _ _ _ _ => none) (fun _ => none) (fun _ _ _ => none) none (fun _ _ => none) none (fun _ => none) (fun _ => none) (fun _ => none)) (evF i F)) (fun _ => none) (fun _ _ _ => none) none (fun _ _ => none) none (fun _ => none) (fun _ => none) (fun _ => none)) (evF x F)
theorem dIaddrL_eq (sz : Nat) (x i : Opd) (F : Fr) (H : Hp) : dIaddrL sz x i F H = doX (.iaddrL sz x i) F H := by
  unfold dIaddrL doX
  simp only [evF_eq]
  generalize ev F x = u
  generalize ev F i = v
  cases u <;> first | rfl | skip
  rename_i a sz' l c
  cases v <;> first | (cases a <;> rfl) | skip
  rename_i k n
  cases n with
  | negSucc n => cases a <;> rfl
  | ofNat n =>
    cases a with
    | none => show @Bool.rec (fun _ => R) none none (Nat.blt n l) = none; cases Nat.blt n l <;> rfl
    | some q => simp only [cond_eq_ite]; show @Bool.rec (fun _ => R) none _ (Nat.blt n l) = _; cases Nat.blt n l <;> rfl
def dIdxS (x i : Opd) (F : Fr) (H : Hp) : R :=
  (fun v => @V.casesOn (fun _ => R) v (fun _ => none) (fun _ _ => none) (fun l m => (fun v => @V.casesOn (fun _ => R) v (fun _ => none) (fun _ n => @Int.rec (fun _ => R) (fun n => @Bool.rec (fun _ => R) none (some (.int .u8 (.ofNat (strAt m n)), H)) (Nat.blt n l)) (fun _ => none) n) (fun _ _ => none) (fun _ => none) (fun _ _ _ _ => none) (fun _ => none) (fun _ _ _ => none) none (fun _ _ => none) none (fun _ => none) (fun _ => none) (fun _ => none)) (evF i F)) (fun _ => none) (fun _ _ _ _ => none) (fun _ => none) (fun _ _ _ => none) none (fun _ _ => none) none (fun _ => none) (fun _ => none) (fun _ => none)) (evF x F)
theorem dIdxS_eq (x i : Opd) (F : Fr) (H : Hp) : dIdxS x i F H = doX (.idxS x i) F H := by
  unfold dIdxS doX
  simp only [evF_eq]
  generalize ev F x = u
  generalize ev F i = v
  cases u <;> first | rfl | skip
  rename_i l m
  cases v <;> first | rfl | skip
  rename_i k n
  cases n with
  | negSucc n => rfl
  | ofNat n => simp only [cond_eq_ite]; show @Bool.rec (fun _ => R) none _ (Nat.blt n l) = _; cases Nat.blt n l <;> rfl
def takeF : Nat → List V → List V := @Nat.rec (fun _ => List V → List V) (fun _ => []) (fun _ ih => @List.rec V (fun _ => List V) [] (fun v r _ => v :: ih r))
theorem takeF_eq : ∀ n (l : List V), takeF n l = l.take n
  | 0, _ => by simp; rfl
  | n + 1, [] => by simp; rfl
  | n + 1, v :: r => by show v :: takeF n r = _; rw [takeF_eq n r]; simp
def dropF : Nat → List V → List V := @Nat.rec (fun _ => List V → List V) (fun l => l) (fun _ ih => @List.rec V (fun _ => List V) [] (fun _ r _ => ih r))
theorem dropF_eq : ∀ n (l : List V), dropF n l = l.drop n
  | 0, _ => by simp; rfl
  | n + 1, [] => by simp; rfl
  | n + 1, v :: r => by show dropF n r = _; rw [dropF_eq n r]; simp
def appF : List V → List V → List V := @List.rec V (fun _ => List V → List V) (fun m => m) (fun v _ ih m => v :: ih m)
theorem appF_eq : ∀ l m : List V, appF l m = l ++ m
  | [], _ => rfl
  | v :: r, m => congrArg (v :: ·) (appF_eq r m)
def fillF : List (Nat × Nat × Opd) → Fr → List V → Option (List V) := @List.rec (Nat × Nat × Opd) (fun _ => Fr → List V → Option (List V)) (fun _ cs => some cs)
  (@Prod.rec Nat (Nat × Opd) (fun _ => List (Nat × Nat × Opd) → (Fr → List V → Option (List V)) → Fr → List V → Option (List V)) (fun off => @Prod.rec Nat Opd (fun _ => List (Nat × Nat × Opd) → (Fr → List V → Option (List V)) → Fr → List V → Option (List V))
    (fun sz x _ ih F cs => (fun vs => @Bool.rec (fun _ => Option (List V)) none (ih F (appF (takeF off cs) (appF vs (dropF (Nat.add off sz) cs)))) (andF (Nat.beq (lenF vs) sz) (Nat.ble (Nat.add off sz) (lenF cs)))) (cellsF (evF x F)))))
theorem fillF_eq (F : Fr) : ∀ (l : List (Nat × Nat × Opd)) (cs : List V), fillF l F cs = fillP (ev F) l cs
  | [], _ => rfl
  | (off, sz, x) :: r, cs => by
    show @Bool.rec (fun _ => Option (List V)) none (fillF r F (appF (takeF off cs) (appF (cellsF (evF x F)) (dropF (Nat.add off sz) cs)))) (andF (Nat.beq (lenF (cellsF (evF x F))) sz) (Nat.ble (Nat.add off sz) (lenF cs))) = _
    rw [fillF_eq F r]
    simp only [andF_eq, lenF_eq, appF_eq, takeF_eq, dropF_eq, cellsF_eq, evF_eq]
    conv => rhs; unfold fillP
    simp only [List.append_assoc]
    generalize (Nat.beq (ev F x).cells.length sz && Nat.ble (Nat.add off sz) cs.length) = b
    cases b <;> rfl
def aggK (H : Hp) : Option (List V) → R := okL H
def dBuild (z : List V) (ps : List (Nat × Nat × Opd)) (F : Fr) (H : Hp) : R := okL H (fillF ps F z)
theorem dBuild_eq (z : List V) (ps : List (Nat × Nat × Opd)) (F : Fr) (H : Hp) : dBuild z ps F H = doX (.build z ps) F H := by
  show okL H (fillF ps F z) = (match fillP (ev F) ps z with | some cs => some (.agg cs, H) | none => none)
  rw [okL_eq, fillF_eq]
def dBslice (sz : Nat) (z : List V) (l : Nat) (ps : List (Nat × Nat × Opd)) (F : Fr) (H : Hp) : R :=
  @Option.rec (List V) (fun _ => R) none (fun cs => @Bool.rec (fun _ => R) none (some (.slice (some (H.next, 0)) sz l (some l), newRowF H cs (Nat.ble 1 (lenF cs)))) (onesF cs)) (fillF ps F z)
theorem dBslice_eq (sz : Nat) (z : List V) (l : Nat) (ps : List (Nat × Nat × Opd)) (F : Fr) (H : Hp) : dBslice sz z l ps F H = doX (.bslice sz z l ps) F H := by
  unfold dBslice doX
  simp only [fillF_eq, onesF_eq, newRowF_eq, lenF_eq]
  cases fillP (ev F) ps z with
  | none => rfl
  | some cs => simp only [cond_eq_ite]; cases cs.all V.one <;> rfl
def dMkiface (t : Nat) (x : Opd) (F : Fr) (H : Hp) : R := some (.iface t (evF x F), H)
theorem dMkiface_eq (t : Nat) (x : Opd) (F : Fr) (H : Hp) : dMkiface t x F H = doX (.mkiface t x) F H := by unfold dMkiface doX; rw [evF_eq]
def dMkfunc (fn : Fn) (a b : List Opd) (F : Fr) (H : Hp) : R := some (.func fn (evs a F) (evs b F), H)
theorem dMkfunc_eq (fn : Fn) (a b : List Opd) (F : Fr) (H : Hp) : dMkfunc fn a b F H = doX (.mkfunc fn a b) F H := by unfold dMkfunc doX; rw [evs_eq, evs_eq]

/-- entries of a text's key -/
def strK (la a : Nat) : V → Option Bool := fun v => @V.casesOn (fun _ => Option Bool) v (fun _ => none) (fun _ _ => none) (fun lb b => some (@Bool.rec (fun _ => Bool) false (Nat.beq a b) (Nat.beq la lb))) (fun _ => none) (fun _ _ _ _ => none) (fun _ => none) (fun _ _ _ => none) none (fun _ _ => none) none (fun _ => none) (fun _ => none) (fun _ => none)
theorem strK_eq (la a : Nat) (v : V) : strK la a v = eqT (.str la a) v := by
  cases v <;> first | rfl | skip
  rename_i lb b
  show some (@Bool.rec (fun _ => Bool) false (Nat.beq a b) (Nat.beq la lb)) = some _
  cases Nat.beq la lb <;> rfl
abbrev FK := Option (Option (Nat × V × Nat))
def findS (la a : Nat) : List (V × V × Nat) → Nat → FK := @List.rec (V × V × Nat) (fun _ => Nat → FK) (fun _ => some none)
  (@Prod.rec V (V × Nat) (fun _ => List (V × V × Nat) → (Nat → FK) → Nat → FK) (fun k q _ ih i => @Option.rec Bool (fun _ => FK) none (@Bool.rec (fun _ => FK) (ih (Nat.succ i)) (some (some (i, q)))) (strK la a k)))
theorem findS_eq (H : Hp) (la a : Nat) : ∀ (l : List (V × V × Nat)) (i : Nat), findS la a l i = findK H .str (.str la a) l i
  | [], _ => rfl
  | (k', v, b) :: r, i => by
    show @Option.rec Bool (fun _ => FK) none (@Bool.rec (fun _ => FK) (findS la a r (i + 1)) (some (some (i, v, b)))) (strK la a k') = _
    rw [findS_eq H la a r, strK_eq]
    conv => rhs; unfold findK
    show _ = (match eqT (.str la a) k' with | some true => _ | some false => _ | none => _)
    rcases eqT (.str la a) k' with _ | _ | _ <;> rfl

def findF (H : Hp) (k : EqK) (key : V) (l : List (V × V × Nat)) : FK := match k, key with
  | .str, .str la a => findS la a l 0
  | k, key => findK H k key l 0
theorem findF_eq (H : Hp) (k : EqK) (key : V) (l : List (V × V × Nat)) : findF H k key l = findK H k key l 0 := by
  cases k <;> cases key <;> first | rfl | exact findS_eq H _ _ l 0
abbrev En := V × V × Nat
def appE : List En → List En → List En := @List.rec En (fun _ => List En → List En) (fun m => m) (fun v _ ih m => v :: ih m)
theorem appE_eq : ∀ l m : List En, appE l m = l ++ m
  | [], _ => rfl
  | v :: r, m => congrArg (v :: ·) (appE_eq r m)

def appendLF (H : Hp) (sz : Nat) (x : V) (vs : List V) (m : Nat) : Option (V × Hp) :=
  match x with
  | .slice none _ _ _ =>
    match m with
    | 0 => some (.slice none 0 0 (some 0), H)
    | _ => bif andF (Nat.ble m most) (onesF vs) then some (.slice (some (H.next, 0)) sz m none, newRowF H vs false) else none
  | .slice (some (b, i)) sz' l c =>
    bif notF (andF (Nat.beq sz sz') (Nat.ble (Nat.add l m) most)) then none else
    match c with
    | some c =>
      bif Nat.ble (Nat.add l m) c then match storeF H b (Nat.add i (Nat.mul l sz)) vs with | some H' => some (.slice (some (b, i)) sz (Nat.add l m) (some c), H') | none => none
      else match loadnF H b i (Nat.mul l sz) with
        | some old => bif onesF vs then some (.slice (some (H.next, 0)) sz (Nat.add l m) none, newRowF H (appF old vs) false) else none
        | none => none
    | none => match loadnF H b i (Nat.mul l sz) with
      | some old => bif onesF vs then some (.slice (some (H.next, 0)) sz (Nat.add l m) none, newRowF (killF H b) (appF old vs) false) else none
      | none => none
  | _ => none
theorem appendLF_eq (H : Hp) (sz : Nat) (x : V) (vs : List V) (m : Nat) : appendLF H sz x vs m = appendL H sz x vs m := by
  unfold appendLF appendL
  simp only [onesF_eq, newRowF_eq, storeF_eq, loadnF_eq, appF_eq, killF_eq, andF_eq, notF_eq]
  rfl
def appendedF (H : Hp) (sz : Nat) : V → Option (List V)
  | .slice none _ _ _ => some []
  | .slice (some (b, i)) _ l _ => loadnF H b i (Nat.mul l sz)
  | .str l n => bif Nat.beq sz 1 then some (asBytes n l 0) else none
  | _ => none
theorem appendedF_eq (H : Hp) (sz : Nat) (v : V) : appendedF H sz v = appended H sz v := by
  unfold appendedF appended
  simp only [loadnF_eq]
  rfl
def appendF (H : Hp) (sz : Nat) (x y : V) : Option (V × Hp) :=
  match appendedF H sz y, lenOf y with
  | some vs, some m => appendLF H sz x vs m
  | _, _ => none
theorem appendF_eq (H : Hp) (sz : Nat) (x y : V) : appendF H sz x y = appendX H sz x y := by
  unfold appendF appendX
  simp only [appendedF_eq, appendLF_eq]
  rfl
def dEq (neg : Bool) (k : EqK) (x : Opd) (y : Opd) (F : Fr) (H : Hp) : R := match eqV H k (evF x F) (evF y F) with | some b => some (.bool (bif neg then not b else b), H) | none => none
theorem dEq_eq (neg : Bool) (k : EqK) (x : Opd) (y : Opd) (F : Fr) (H : Hp) : dEq neg k x y F H = doX (.eq neg k x y) F H := by
  show _ = (match eqV H k (ev F x) (ev F y) with | some b => some (.bool (bif neg then not b else b), H) | none => none : R)
  unfold dEq
  simp only [evF_eq] <;> rfl
def dToInt (k : IntKind) (x : Opd) (F : Fr) (H : Hp) : R := match evF x F with | .int _ n => some (.int k (wrapI k n), H) | _ => none
theorem dToInt_eq (k : IntKind) (x : Opd) (F : Fr) (H : Hp) : dToInt k x F H = doX (.toInt k x) F H := by
  show _ = (match ev F x with | .int _ n => some (.int k (wrapI k n), H) | _ => none : R)
  unfold dToInt
  simp only [evF_eq] <;> rfl
def dSame (x : Opd) (F : Fr) (H : Hp) : R := match evF x F with | .str l n => some (.str l n, H) | _ => none
theorem dSame_eq (x : Opd) (F : Fr) (H : Hp) : dSame x F H = doX (.same x) F H := by
  show _ = (match ev F x with | .str l n => some (.str l n, H) | _ => none : R)
  unfold dSame
  simp only [evF_eq] <;> rfl
def dToBytes (x : Opd) (F : Fr) (H : Hp) : R := match evF x F with
    | .str l n => bif Nat.ble l most then some (.slice (some (H.next, 0)) 1 l none, H.newRow (asBytes n l 0) false) else none
    | _ => none
theorem dToBytes_eq (x : Opd) (F : Fr) (H : Hp) : dToBytes x F H = doX (.toBytes x) F H := by
  show _ = (match ev F x with
    | .str l n => bif Nat.ble l most then some (.slice (some (H.next, 0)) 1 l none, H.newRow (asBytes n l 0) false) else none
    | _ => none : R)
  unfold dToBytes
  simp only [evF_eq] <;> rfl
def dToStr (x : Opd) (F : Fr) (H : Hp) : R := match evF x F with
    | .slice none _ _ _ => some (.str 0 0, H)
    | .slice (some (b, i)) _ l _ => (match H.loadn b i l with | some vs => (match digitsOf vs with | some n => some (.str l n, H) | none => none) | none => none)
    | _ => none
theorem dToStr_eq (x : Opd) (F : Fr) (H : Hp) : dToStr x F H = doX (.toStr x) F H := by
  show _ = (match ev F x with
    | .slice none _ _ _ => some (.str 0 0, H)
    | .slice (some (b, i)) _ l _ => (match H.loadn b i l with | some vs => (match digitsOf vs with | some n => some (.str l n, H) | none => none) | none => none)
    | _ => none : R)
  unfold dToStr
  simp only [evF_eq] <;> rfl
def dRuneStr (x : Opd) (F : Fr) (H : Hp) : R := match evF x F with
    | .int _ (.ofNat a) => bif Nat.blt a 128 then some (.str 1 a, H) else none
    | _ => none
theorem dRuneStr_eq (x : Opd) (F : Fr) (H : Hp) : dRuneStr x F H = doX (.runeStr x) F H := by
  show _ = (match ev F x with
    | .int _ (.ofNat a) => bif Nat.blt a 128 then some (.str 1 a, H) else none
    | _ => none : R)
  unfold dRuneStr
  simp only [evF_eq] <;> rfl
def dMkmeth (fits : List (Nat × Nat)) (x : Opd) (F : Fr) (H : Hp) : R := (match evF x F with
    | .iface t v => (match fitOf fits t with | some f => some (.func (.func f) [v] [], H) | none => none)
    | _ => none)
theorem dMkmeth_eq (fits : List (Nat × Nat)) (x : Opd) (F : Fr) (H : Hp) : dMkmeth fits x F H = doX (.mkmeth fits x) F H := by
  show _ = ((match ev F x with
    | .iface t v => (match fitOf fits t with | some f => some (.func (.func f) [v] [], H) | none => none)
    | _ => none) : R)
  unfold dMkmeth
  simp only [evF_eq] <;> rfl
def dMkmap  (F : Fr) (H : Hp) : R := some (.map (some H.next), H.new (.map [] 0))
theorem dMkmap_eq  (F : Fr) (H : Hp) : dMkmap  F H = doX (.mkmap) F H := by
  rfl
def dMkslice (z : List V) (l : Opd) (c : Opd) (F : Fr) (H : Hp) : R := match evF l F, evF c F with
    | .int _ (.ofNat a), .int _ (.ofNat b) =>
      bif Nat.ble a b && Nat.ble b most then some (.slice (some (H.next, 0)) z.length a (some b), H.newRow (List.replicate b z).flatten (Nat.ble 1 b)) else none
    | _, _ => none
theorem dMkslice_eq (z : List V) (l : Opd) (c : Opd) (F : Fr) (H : Hp) : dMkslice z l c F H = doX (.mkslice z l c) F H := by
  show _ = (match ev F l, ev F c with
    | .int _ (.ofNat a), .int _ (.ofNat b) =>
      bif Nat.ble a b && Nat.ble b most then some (.slice (some (H.next, 0)) z.length a (some b), H.newRow (List.replicate b z).flatten (Nat.ble 1 b)) else none
    | _, _ => none : R)
  unfold dMkslice
  simp only [evF_eq] <;> rfl
def dSliceS (x : Opd) (lo : Option Opd) (hi : Option Opd) (F : Fr) (H : Hp) : R := match evF x F with
    | .str l n => (match bndO F hi l l with
      | some h => (match bndO F lo h 0 with | some a => some (.str (h - a) (strCut n a h), H) | none => none)
      | none => none)
    | _ => none
theorem dSliceS_eq (x : Opd) (lo : Option Opd) (hi : Option Opd) (F : Fr) (H : Hp) : dSliceS x lo hi F H = doX (.sliceS x lo hi) F H := by
  show _ = (match ev F x with
    | .str l n => (match bndO F hi l l with
      | some h => (match bndO F lo h 0 with | some a => some (.str (h - a) (strCut n a h), H) | none => none)
      | none => none)
    | _ => none : R)
  unfold dSliceS
  simp only [evF_eq] <;> rfl
def dSliceL (sz : Nat) (x : Opd) (lo : Option Opd) (hi : Option Opd) (mx : Option Opd) (F : Fr) (H : Hp) : R := match evF x F with
    | .slice a sz' l c => bif not (Nat.beq sz sz' || a.isNone) then none else
      let top := c.getD l
      (match bndO F mx top top with
      | some m => (match bndO F hi (bif mx.isSome then m else top) l with
        | some h => (match bndO F lo h 0 with
          | some b =>
            let c' := newCap mx.isSome m b c
            (match a with
            | none => some (.slice none 0 0 (some 0), H)
            | some (p, i) => some (.slice (some (p, i + b * sz)) sz (h - b) c', H))
          | none => none)
        | none => none)
      | none => none)
    | _ => none
theorem dSliceL_eq (sz : Nat) (x : Opd) (lo : Option Opd) (hi : Option Opd) (mx : Option Opd) (F : Fr) (H : Hp) : dSliceL sz x lo hi mx F H = doX (.sliceL sz x lo hi mx) F H := by
  show _ = (match ev F x with
    | .slice a sz' l c => bif not (Nat.beq sz sz' || a.isNone) then none else
      let top := c.getD l
      (match bndO F mx top top with
      | some m => (match bndO F hi (bif mx.isSome then m else top) l with
        | some h => (match bndO F lo h 0 with
          | some b =>
            let c' := newCap mx.isSome m b c
            (match a with
            | none => some (.slice none 0 0 (some 0), H)
            | some (p, i) => some (.slice (some (p, i + b * sz)) sz (h - b) c', H))
          | none => none)
        | none => none)
      | none => none)
    | _ => none : R)
  unfold dSliceL
  simp only [evF_eq] <;> rfl
def dSliceA (n : Nat) (sz : Nat) (x : Opd) (lo : Option Opd) (hi : Option Opd) (mx : Option Opd) (F : Fr) (H : Hp) : R := match evF x F with
    | .ptr (some (p, i)) =>
      (match H.get p with
      | some (.cells c _ _) => bif allIn c (n * sz) i then
        (match bndO F mx n n with
        | some m => (match bndO F hi (bif mx.isSome then m else n) n with
          | some h => (match bndO F lo h 0 with
            | some b => some (.slice (some (p, i + b * sz)) sz (h - b) (some (m - b)), H)
            | none => none)
          | none => none)
        | none => none) else none
      | _ => none)
    | _ => none
theorem dSliceA_eq (n : Nat) (sz : Nat) (x : Opd) (lo : Option Opd) (hi : Option Opd) (mx : Option Opd) (F : Fr) (H : Hp) : dSliceA n sz x lo hi mx F H = doX (.sliceA n sz x lo hi mx) F H := by
  show _ = (match ev F x with
    | .ptr (some (p, i)) =>
      (match H.get p with
      | some (.cells c _ _) => bif allIn c (n * sz) i then
        (match bndO F mx n n with
        | some m => (match bndO F hi (bif mx.isSome then m else n) n with
          | some h => (match bndO F lo h 0 with
            | some b => some (.slice (some (p, i + b * sz)) sz (h - b) (some (m - b)), H)
            | none => none)
          | none => none)
        | none => none) else none
      | _ => none)
    | _ => none : R)
  unfold dSliceA
  simp only [evF_eq] <;> rfl
def dField (off : Nat) (sz : Option Nat) (x : Opd) (F : Fr) (H : Hp) : R := match evF x F with
    | .agg cs => (match sz with
      | none => (match cs[off]? with | some v => some (v, H) | none => none)
      | some n => some (.agg ((cs.drop off).take n), H))
    | _ => none
theorem dField_eq (off : Nat) (sz : Option Nat) (x : Opd) (F : Fr) (H : Hp) : dField off sz x F H = doX (.field off sz x) F H := by
  show _ = (match ev F x with
    | .agg cs => (match sz with
      | none => (match cs[off]? with | some v => some (v, H) | none => none)
      | some n => some (.agg ((cs.drop off).take n), H))
    | _ => none : R)
  unfold dField
  simp only [evF_eq] <;> rfl
def dIaddrA (n : Nat) (sz : Nat) (x : Opd) (i : Opd) (F : Fr) (H : Hp) : R := match evF x F, evF i F with
    | .ptr (some (b, j)), .int _ (.ofNat a) => bif Nat.blt a n then some (.ptr (some (b, Nat.add j (Nat.mul a sz))), H) else none
    | _, _ => none
theorem dIaddrA_eq (n : Nat) (sz : Nat) (x : Opd) (i : Opd) (F : Fr) (H : Hp) : dIaddrA n sz x i F H = doX (.iaddrA n sz x i) F H := by
  show _ = (match ev F x, ev F i with
    | .ptr (some (b, j)), .int _ (.ofNat a) => bif Nat.blt a n then some (.ptr (some (b, Nat.add j (Nat.mul a sz))), H) else none
    | _, _ => none : R)
  unfold dIaddrA
  simp only [evF_eq] <;> rfl
def dIdxA (n : Nat) (sz : Nat) (agg : Bool) (x : Opd) (i : Opd) (F : Fr) (H : Hp) : R := match evF x F, evF i F with
    | .agg cs, .int _ (.ofNat a) => bif Nat.blt a n then (bif agg then some (.agg ((cs.drop (a * sz)).take sz), H) else (match cs[a * sz]? with | some v => some (v, H) | none => none)) else none
    | _, _ => none
theorem dIdxA_eq (n : Nat) (sz : Nat) (agg : Bool) (x : Opd) (i : Opd) (F : Fr) (H : Hp) : dIdxA n sz agg x i F H = doX (.idxA n sz agg x i) F H := by
  show _ = (match ev F x, ev F i with
    | .agg cs, .int _ (.ofNat a) => bif Nat.blt a n then (bif agg then some (.agg ((cs.drop (a * sz)).take sz), H) else (match cs[a * sz]? with | some v => some (v, H) | none => none)) else none
    | _, _ => none : R)
  unfold dIdxA
  simp only [evF_eq] <;> rfl
def dLookup (z : V) (k : EqK) (m : Opd) (key : Opd) (ok : Bool) (F : Fr) (H : Hp) : R := bif not (keyShape k (evF key F)) then none else match evF m F with
    | .map none => some (bif ok then .tuple [z, .bool false] else z, H)
    | .map (some r) => (match getB r H.t with
      | some (.map es _) => (match findF H k (evF key F) es with
        | some (some (_, v, _)) => some (bif ok then .tuple [v, .bool true] else v, H)
        | some none => some (bif ok then .tuple [z, .bool false] else z, H)
        | none => none)
      | _ => none)
    | _ => none
theorem dLookup_eq (z : V) (k : EqK) (m : Opd) (key : Opd) (ok : Bool) (F : Fr) (H : Hp) : dLookup z k m key ok F H = doX (.lookup z k m key ok) F H := by
  show _ = (bif not (keyShape k (ev F key)) then none else match ev F m with
    | .map none => some (bif ok then .tuple [z, .bool false] else z, H)
    | .map (some r) => (match H.get r with
      | some (.map es _) => (match findK H k (ev F key) es 0 with
        | some (some (_, v, _)) => some (bif ok then .tuple [v, .bool true] else v, H)
        | some none => some (bif ok then .tuple [z, .bool false] else z, H)
        | none => none)
      | _ => none)
    | _ => none : R)
  unfold dLookup
  simp only [evF_eq, findF_eq, getB_eq, setF_eq, appE_eq]
  rfl
def dMapset (k : EqK) (m : Opd) (key : Opd) (v : Opd) (F : Fr) (H : Hp) : R := bif not (keyShape k (evF key F)) then none else match evF m F with
    | .map (some r) => (match getB r H.t with
      | some (.map es cl) => (match findF H k (evF key F) es with
        | some (some (i, _, b)) => bif keySame k (evF key F) es i then some (V.undef, setF H r (.map (listSet (evF key F, evF v F, b) i es) cl)) else none
        | some none => some (V.undef, setF H r (.map (appE es [(evF key F, evF v F, cl)]) (cl + 1)))
        | none => none)
      | _ => none)
    | _ => none
theorem dMapset_eq (k : EqK) (m : Opd) (key : Opd) (v : Opd) (F : Fr) (H : Hp) : dMapset k m key v F H = doX (.mapset k m key v) F H := by
  show _ = (bif not (keyShape k (ev F key)) then none else match ev F m with
    | .map (some r) => (match H.get r with
      | some (.map es cl) => (match findK H k (ev F key) es 0 with
        | some (some (i, _, b)) => bif keySame k (ev F key) es i then some (V.undef, H.set r (.map (listSet (ev F key, ev F v, b) i es) cl)) else none
        | some none => some (V.undef, H.set r (.map (es ++ [(ev F key, ev F v, cl)]) (cl + 1)))
        | none => none)
      | _ => none)
    | _ => none : R)
  unfold dMapset
  simp only [evF_eq, findF_eq, getB_eq, setF_eq, appE_eq]
  rfl
def dMapent (z : V) (k : EqK) (m : Opd) (key : Opd) (F : Fr) (H : Hp) : R := match evF m F with
    | .map (some r) => (match H.get r with
      | some (.map es cl) => (match findK H k (evF key F) es 0 with
        | some (some (i, v, b)) => some (.tuple [v, .int .i64 (.ofNat b)], H.set r (.map (listSet (evF key F, v, b) i es) cl))
        | some none => some (.tuple [z, .int .i64 (.ofNat cl)], H.set r (.map (es ++ [(evF key F, z, cl)]) (cl + 1)))
        | none => none)
      | _ => none)
    | _ => none
theorem dMapent_eq (z : V) (k : EqK) (m : Opd) (key : Opd) (F : Fr) (H : Hp) : dMapent z k m key F H = doX (.mapent z k m key) F H := by
  show _ = (match ev F m with
    | .map (some r) => (match H.get r with
      | some (.map es cl) => (match findK H k (ev F key) es 0 with
        | some (some (i, v, b)) => some (.tuple [v, .int .i64 (.ofNat b)], H.set r (.map (listSet (ev F key, v, b) i es) cl))
        | some none => some (.tuple [z, .int .i64 (.ofNat cl)], H.set r (.map (es ++ [(ev F key, z, cl)]) (cl + 1)))
        | none => none)
      | _ => none)
    | _ => none : R)
  unfold dMapent
  simp only [evF_eq] <;> rfl
def dEntset (m : Opd) (s : Opd) (v : Opd) (F : Fr) (H : Hp) : R := match evF m F, evF s F with
    | .map (some r), .int _ (.ofNat b) => (match H.get r with
      | some (.map es cl) => (match es.findIdx? (fun e => Nat.beq e.2.2 b) with
        | some i => (match es[i]? with | some e => some (V.undef, H.set r (.map (listSet (e.1, evF v F, e.2.2) i es) cl)) | none => none)
        | none => none)
      | _ => none)
    | _, _ => none
theorem dEntset_eq (m : Opd) (s : Opd) (v : Opd) (F : Fr) (H : Hp) : dEntset m s v F H = doX (.entset m s v) F H := by
  show _ = (match ev F m, ev F s with
    | .map (some r), .int _ (.ofNat b) => (match H.get r with
      | some (.map es cl) => (match es.findIdx? (fun e => Nat.beq e.2.2 b) with
        | some i => (match es[i]? with | some e => some (V.undef, H.set r (.map (listSet (e.1, ev F v, e.2.2) i es) cl)) | none => none)
        | none => none)
      | _ => none)
    | _, _ => none : R)
  unfold dEntset
  simp only [evF_eq] <;> rfl
def dMapdel (k : EqK) (m : Opd) (key : Opd) (F : Fr) (H : Hp) : R := match evF m F with
    | .map none => some (V.undef, H)
    | .map (some r) => (match H.get r with
      | some (.map es cl) => (match findK H k (evF key F) es 0 with
        | some (some (i, _, _)) => some (V.undef, H.set r (.map (es.eraseIdx i) cl))
        | some none => some (V.undef, H)
        | none => none)
      | _ => none)
    | _ => none
theorem dMapdel_eq (k : EqK) (m : Opd) (key : Opd) (F : Fr) (H : Hp) : dMapdel k m key F H = doX (.mapdel k m key) F H := by
  show _ = (match ev F m with
    | .map none => some (V.undef, H)
    | .map (some r) => (match H.get r with
      | some (.map es cl) => (match findK H k (ev F key) es 0 with
        | some (some (i, _, _)) => some (V.undef, H.set r (.map (es.eraseIdx i) cl))
        | some none => some (V.undef, H)
        | none => none)
      | _ => none)
    | _ => none : R)
  unfold dMapdel
  simp only [evF_eq] <;> rfl
def dRangeS (x : Opd) (F : Fr) (H : Hp) : R := match evF x F with | .str l n => some (.ptr (some (H.next, 0)), H.new (.siter l n 0)) | _ => none
theorem dRangeS_eq (x : Opd) (F : Fr) (H : Hp) : dRangeS x F H = doX (.rangeS x) F H := by
  show _ = (match ev F x with | .str l n => some (.ptr (some (H.next, 0)), H.new (.siter l n 0)) | _ => none : R)
  unfold dRangeS
  simp only [evF_eq] <;> rfl
def dNextS (x : Opd) (F : Fr) (H : Hp) : R := match evF x F with
    | .ptr (some (r, 0)) => (match H.get r with
      | some (.siter l n pos) =>
        bif Nat.blt pos l then (match strStep l n pos with
          | some (c, w) => some (.tuple [.bool true, .int .i64 (.ofNat pos), .int .i32 (.ofNat c)], H.set r (.siter l n (pos + w)))
          | none => none)
        else some (.tuple [.bool false], H)
      | _ => none)
    | _ => none
theorem dNextS_eq (x : Opd) (F : Fr) (H : Hp) : dNextS x F H = doX (.nextS x) F H := by
  show _ = (match ev F x with
    | .ptr (some (r, 0)) => (match H.get r with
      | some (.siter l n pos) =>
        bif Nat.blt pos l then (match strStep l n pos with
          | some (c, w) => some (.tuple [.bool true, .int .i64 (.ofNat pos), .int .i32 (.ofNat c)], H.set r (.siter l n (pos + w)))
          | none => none)
        else some (.tuple [.bool false], H)
      | _ => none)
    | _ => none : R)
  unfold dNextS
  simp only [evF_eq] <;> rfl
def dTassert (t : Nat) (z : V) (ok : Bool) (x : Opd) (F : Fr) (H : Hp) : R := match evF x F with
    | .iface t' v => bif Nat.beq t t' then some (bif ok then .tuple [v, .bool true] else v, H) else bif ok then some (.tuple [z, .bool false], H) else none
    | .nilIface => bif ok then some (.tuple [z, .bool false], H) else none
    | _ => none
theorem dTassert_eq (t : Nat) (z : V) (ok : Bool) (x : Opd) (F : Fr) (H : Hp) : dTassert t z ok x F H = doX (.tassert t z ok x) F H := by
  show _ = (match ev F x with
    | .iface t' v => bif Nat.beq t t' then some (bif ok then .tuple [v, .bool true] else v, H) else bif ok then some (.tuple [z, .bool false], H) else none
    | .nilIface => bif ok then some (.tuple [z, .bool false], H) else none
    | _ => none : R)
  unfold dTassert
  simp only [evF_eq] <;> rfl
def dCap (x : Opd) (F : Fr) (H : Hp) : R := match evF x F with | .slice _ _ _ (some c) => some (.int .i64 (.ofNat c), H) | _ => none
theorem dCap_eq (x : Opd) (F : Fr) (H : Hp) : dCap x F H = doX (.cap x) F H := by
  show _ = (match ev F x with | .slice _ _ _ (some c) => some (.int .i64 (.ofNat c), H) | _ => none : R)
  unfold dCap
  simp only [evF_eq] <;> rfl
def dAppend (sz : Nat) (x : Opd) (y : Opd) (F : Fr) (H : Hp) : R := appendF H sz (evF x F) (evF y F)
theorem dAppend_eq (sz : Nat) (x : Opd) (y : Opd) (F : Fr) (H : Hp) : dAppend sz x y F H = doX (.append sz x y) F H := by
  unfold dAppend
  rw [appendF_eq, evF_eq, evF_eq]; rfl
def dAppendz (z : List V) (x : Opd) (n : Opd) (F : Fr) (H : Hp) : R := match evF n F with | .int _ (.ofNat m) => bif Nat.ble m most then appendL H z.length (evF x F) (List.replicate m z).flatten m else none | _ => none
theorem dAppendz_eq (z : List V) (x : Opd) (n : Opd) (F : Fr) (H : Hp) : dAppendz z x n F H = doX (.appendz z x n) F H := by
  show _ = (match ev F n with | .int _ (.ofNat m) => bif Nat.ble m most then appendL H z.length (ev F x) (List.replicate m z).flatten m else none | _ => none : R)
  unfold dAppendz
  simp only [evF_eq] <;> rfl
def dCopy (sz : Nat) (x : Opd) (y : Opd) (F : Fr) (H : Hp) : R := copyX H sz (evF x F) (evF y F)
theorem dCopy_eq (sz : Nat) (x : Opd) (y : Opd) (F : Fr) (H : Hp) : dCopy sz x y F H = doX (.copy sz x y) F H := by
  show _ = (copyX H sz (ev F x) (ev F y) : R)
  unfold dCopy
  simp only [evF_eq] <;> rfl
def dMin (xs : List Opd) (F : Fr) (H : Hp) : R := match xs with | [] => none | x :: r => (match mm false F r (evF x F) with | some v => some (v, H) | none => none)
theorem dMin_eq (xs : List Opd) (F : Fr) (H : Hp) : dMin xs F H = doX (.min xs) F H := by
  show _ = (match xs with | [] => none | x :: r => (match mm false F r (ev F x) with | some v => some (v, H) | none => none) : R)
  unfold dMin
  simp only [evF_eq] <;> rfl
def dMax (xs : List Opd) (F : Fr) (H : Hp) : R := match xs with | [] => none | x :: r => (match mm true F r (evF x F) with | some v => some (v, H) | none => none)
theorem dMax_eq (xs : List Opd) (F : Fr) (H : Hp) : dMax xs F H = doX (.max xs) F H := by
  show _ = (match xs with | [] => none | x :: r => (match mm true F r (ev F x) with | some v => some (v, H) | none => none) : R)
  unfold dMax
  simp only [evF_eq] <;> rfl

def doF : XO → Fr → Hp → R := @XO.rec (fun _ => Fr → Hp → R)
  (fun a0 => dMv a0)
  (fun a0 a1 a2 => dPick a0 a1 a2)
  (fun a0 => dNew a0)
  (fun a0 a1 => dBox a0 a1)
  (fun a0 a1 => dBuild a0 a1)
  (fun a0 a1 a2 a3 => dBslice a0 a1 a2 a3)
  (fun a0 => dLoad a0)
  (fun a0 a1 => dLoadn a0 a1)
  (fun a0 a1 a2 => dStore a0 a1 a2)
  (fun a0 => dNilck a0)
  (fun a0 a1 a2 => binD a0 a1 a2)
  (fun a0 a1 a2 a3 => dEq a0 a1 a2 a3)
  (fun a0 a1 => dUn a0 a1)
  (fun a0 a1 => dToInt a0 a1)
  (fun a0 => dSame a0)
  (fun a0 => dToBytes a0)
  (fun a0 => dToStr a0)
  (fun a0 => dRuneStr a0)
  (fun a0 a1 => dMkiface a0 a1)
  (fun a0 a1 => dMkmeth a0 a1)
  (fun a0 a1 a2 => dMkfunc a0 a1 a2)
  dMkmap
  (fun a0 a1 a2 => dMkslice a0 a1 a2)
  (fun a0 a1 a2 => dSliceS a0 a1 a2)
  (fun a0 a1 a2 a3 a4 => dSliceL a0 a1 a2 a3 a4)
  (fun a0 a1 a2 a3 a4 a5 => dSliceA a0 a1 a2 a3 a4 a5)
  (fun a0 a1 => dFaddr a0 a1)
  (fun a0 a1 a2 => dField a0 a1 a2)
  (fun a0 a1 a2 => dIaddrL a0 a1 a2)
  (fun a0 a1 a2 a3 => dIaddrA a0 a1 a2 a3)
  (fun a0 a1 => dIdxS a0 a1)
  (fun a0 a1 a2 a3 a4 => dIdxA a0 a1 a2 a3 a4)
  (fun a0 a1 a2 a3 a4 => dLookup a0 a1 a2 a3 a4)
  (fun a0 a1 a2 a3 => dMapset a0 a1 a2 a3)
  (fun a0 a1 a2 a3 => dMapent a0 a1 a2 a3)
  (fun a0 a1 a2 => dEntset a0 a1 a2)
  (fun a0 a1 a2 => dMapdel a0 a1 a2)
  (fun a0 => dRangeS a0)
  (fun a0 => dNextS a0)
  (fun a0 a1 a2 a3 => dTassert a0 a1 a2 a3)
  (fun a0 a1 => dExt a0 a1)
  (fun a0 a1 => dLen a0 a1)
  (fun a0 => dCap a0)
  (fun a0 a1 a2 => dAppend a0 a1 a2)
  (fun a0 a1 a2 => dAppendz a0 a1 a2)
  (fun a0 a1 a2 => dCopy a0 a1 a2)
  (fun a0 => dMin a0)
  (fun a0 => dMax a0)
  (fun a0 a1 _ _ => none)
  (fun a0 a1 _ _ => none)
  (fun a0 a1 _ _ => none)
  (fun a0 a1 a2 _ _ => none)
  (fun a0 _ _ => none)
theorem doF_eq (o : XO) (F : Fr) (H : Hp) : doF o F H = doX o F H := by
  cases o <;> first | rfl | exact dMv_eq _ F H | exact dPick_eq _ _ _ F H | exact dNew_eq _ F H | exact dBox_eq _ _ F H | exact dBuild_eq _ _ F H | exact dBslice_eq _ _ _ _ F H | exact dLoad_eq _ F H | exact dLoadn_eq _ _ F H | exact dStore_eq _ _ _ F H | exact dNilck_eq _ F H | exact binD_eq _ _ _ F H | exact dEq_eq _ _ _ _ F H | exact dUn_eq _ _ F H | exact dToInt_eq _ _ F H | exact dSame_eq _ F H | exact dToBytes_eq _ F H | exact dToStr_eq _ F H | exact dRuneStr_eq _ F H | exact dMkiface_eq _ _ F H | exact dMkmeth_eq _ _ F H | exact dMkfunc_eq _ _ _ F H | exact dMkmap_eq F H | exact dMkslice_eq _ _ _ F H | exact dSliceS_eq _ _ _ F H | exact dSliceL_eq _ _ _ _ _ F H | exact dSliceA_eq _ _ _ _ _ _ F H | exact dFaddr_eq _ _ F H | exact dField_eq _ _ _ F H | exact dIaddrL_eq _ _ _ F H | exact dIaddrA_eq _ _ _ _ F H | exact dIdxS_eq _ _ F H | exact dIdxA_eq _ _ _ _ _ F H | exact dLookup_eq _ _ _ _ _ F H | exact dMapset_eq _ _ _ _ F H | exact dMapent_eq _ _ _ _ F H | exact dEntset_eq _ _ _ F H | exact dMapdel_eq _ _ _ F H | exact dRangeS_eq _ F H | exact dNextS_eq _ F H | exact dTassert_eq _ _ _ _ F H | exact dExt_eq _ _ F H | exact dLen_eq _ _ F H | exact dCap_eq _ F H | exact dAppend_eq _ _ _ F H | exact dAppendz_eq _ _ _ F H | exact dCopy_eq _ _ _ F H | exact dMin_eq _ F H | exact dMax_eq _ F H

/-! ## Calls -/
def frameF : List V → P → Fr → Fr := @List.rec V (fun _ => P → Fr → Fr) (fun _ t => t) (fun v _ ih p t => ih (succF p) (putV p (some v) t))
theorem frameF_eq : ∀ l p t, frameF l p t = frameOf l p t
  | [], _, _ => rfl
  | v :: r, p, t => by
    show frameF r (succF p) (putV p (some v) t) = _
    rw [frameF_eq r, succF_eq, putV_eq]; rfl
def ptrK (f : P → Nat → Option V) : Option (P × Nat) → Option V := @Option.rec (P × Nat) (fun _ => Option V) none (@Prod.rec P Nat (fun _ => Option V) f)
def aggO : Option (List V) → Option V := @Option.rec (List V) (fun _ => Option V) none (fun l => some (.agg l))
def resF : XR → Fr → Hp → Option V := @XR.rec (fun _ => Fr → Hp → Option V) (fun p F _ => some (orU (getV p F))) (fun a F H => ptrK (fun b i => loadF H b i) (ptrA (orU (getV a F)))) (fun a n F H => ptrK (fun b i => aggO (loadnF H b i n)) (ptrA (orU (getV a F))))
theorem resF_eq (F : Fr) (H : Hp) : ∀ x, resF x F H = resOf F H x
  | .t p => by show some (orU (getV p F)) = _; rw [orU_eq, getV_eq]; rfl
  | .cell a => by
    show ptrK (fun b i => loadF H b i) (ptrA (orU (getV a F))) = _
    rw [orU_eq, getV_eq]
    unfold resOf
    simp only [loadF_eq]
    generalize (F.get a).getD V.undef = u
    cases u <;> first | rfl | (rename_i q; cases q <;> rfl)
  | .celln a n => by
    show ptrK (fun b i => aggO (loadnF H b i n)) (ptrA (orU (getV a F))) = _
    rw [orU_eq, getV_eq]
    unfold resOf
    simp only [loadnF_eq]
    generalize (F.get a).getD V.undef = u
    cases u <;> first | rfl | skip
    rename_i q
    cases q with
    | none => rfl
    | some q =>
      obtain ⟨b, i⟩ := q
      show aggO (H.loadn b i n) = (match H.loadn b i n with | some l => some (.agg l) | none => none)
      cases H.loadn b i n <;> rfl
def resAllF : List XR → Fr → Hp → Option (List V) := @List.rec XR (fun _ => Fr → Hp → Option (List V)) (fun _ _ => some [])
  (fun x _ ih F H => @Option.rec V (fun _ => Option (List V)) none (fun v => @Option.rec (List V) (fun _ => Option (List V)) none (fun l => some (v :: l)) (ih F H)) (resF x F H))
theorem resAllF_eq (F : Fr) (H : Hp) : ∀ l, resAllF l F H = resAll F H l
  | [] => rfl
  | x :: r => by
    show @Option.rec V (fun _ => Option (List V)) none (fun v => @Option.rec (List V) (fun _ => Option (List V)) none (fun l => some (v :: l)) (resAllF r F H)) (resF x F H) = _
    rw [resAllF_eq F H r, resF_eq]
    conv => rhs; unfold resAll
    cases resOf F H x with
    | none => rfl
    | some v => simp only; cases resAll F H r <;> rfl
abbrev Q := XE × Fr × Hp
def retV (res : List XR) (F : Fr) (H : Hp) : R := @Option.rec (List V) (fun _ => R) none (fun l => some (resV l, H)) (resAllF res F H)
def retK (res : List XR) : Option Q → R := @Option.rec Q (fun _ => R) none (@Prod.rec XE (Fr × Hp) (fun _ => R) (@XE.rec (fun _ => Fr × Hp → R) (@Prod.rec Fr Hp (fun _ => R) (retV res)) (fun _ _ => none) (@Prod.rec Fr Hp (fun _ => R) (retV res))))
def goK (ih : Run) (args : List V) (H : Hp) : XFn → R := @XFn.rec (fun _ => R) (fun body res => retK res (ih body (frameF args .h .lf) H))
def callF (E : Env) (ih : Run) (f : P) (args : List V) (H : Hp) : R :=
  @Option.rec V (fun _ => R) (@Option.rec XFn (fun _ => R) none (goK ih args H) (getN f E.fns)) (fun v => some (v, H)) (E.orc f args)
theorem callF_eq (E : Env) (ih : Run) (f : P) (args : List V) (H : Hp) : callF E ih f args H = callX E ih f args H := by
  unfold callF callX
  rw [getN_eq]
  cases E.orc f args with
  | some v => rfl
  | none =>
    cases E.fns.get f with
    | none => rfl
    | some fn =>
      obtain ⟨body, res⟩ := fn
      show retK res (ih body (frameF args .h .lf) H) = _
      rw [frameF_eq]
      simp only
      cases ih body (frameOf args .h .lf) H with
      | none => rfl
      | some q =>
        obtain ⟨e, F', H'⟩ := q
        cases e with
        | exit id => rfl
        | nrm =>
          show retV res F' H' = _
          unfold retV; rw [resAllF_eq]
          simp only
          cases resAll F' H' res <;> rfl
        | ret =>
          show retV res F' H' = _
          unfold retV; rw [resAllF_eq]
          simp only
          cases resAll F' H' res <;> rfl
def fnK (g : P → List V → R) (args : List V) (v : V) : R := match fnArgs v args with | some (f, l) => g f l | none => none
def dynK (E : Env) (ih : Run) (H : Hp) (args : List V) (v : V) : R := fnK (fun f l => callF E ih f l H) args v
def dfrK (E : Env) (H : Hp) (args : List V) (v : V) : R := fnK (fun g l => bif E.idle g l.length then some (V.undef, H) else none) args v
def invK (E : Env) (ih : Run) (fits : List (Nat × Nat)) (args : List V) (H : Hp) (v : V) : R := match v with
  | .iface t v => (match fitOf fits t with | some f => callF E ih (P.of f) (v :: args) H | none => none)
  | _ => none
def opF : XO → Env → Run → Fr → Hp → R := @XO.rec (fun _ => Env → Run → Fr → Hp → R)
  (fun a0 _ _ => dMv a0)
  (fun a0 a1 a2 _ _ => dPick a0 a1 a2)
  (fun a0 _ _ => dNew a0)
  (fun a0 a1 _ _ => dBox a0 a1)
  (fun a0 a1 _ _ => dBuild a0 a1)
  (fun a0 a1 a2 a3 _ _ => dBslice a0 a1 a2 a3)
  (fun a0 _ _ => dLoad a0)
  (fun a0 a1 _ _ => dLoadn a0 a1)
  (fun a0 a1 a2 _ _ => dStore a0 a1 a2)
  (fun a0 _ _ => dNilck a0)
  (fun a0 a1 a2 _ _ => binD a0 a1 a2)
  (fun a0 a1 a2 a3 _ _ => dEq a0 a1 a2 a3)
  (fun a0 a1 _ _ => dUn a0 a1)
  (fun a0 a1 _ _ => dToInt a0 a1)
  (fun a0 _ _ => dSame a0)
  (fun a0 _ _ => dToBytes a0)
  (fun a0 _ _ => dToStr a0)
  (fun a0 _ _ => dRuneStr a0)
  (fun a0 a1 _ _ => dMkiface a0 a1)
  (fun a0 a1 _ _ => dMkmeth a0 a1)
  (fun a0 a1 a2 _ _ => dMkfunc a0 a1 a2)
  (fun _ _ => dMkmap)
  (fun a0 a1 a2 _ _ => dMkslice a0 a1 a2)
  (fun a0 a1 a2 _ _ => dSliceS a0 a1 a2)
  (fun a0 a1 a2 a3 a4 _ _ => dSliceL a0 a1 a2 a3 a4)
  (fun a0 a1 a2 a3 a4 a5 _ _ => dSliceA a0 a1 a2 a3 a4 a5)
  (fun a0 a1 _ _ => dFaddr a0 a1)
  (fun a0 a1 a2 _ _ => dField a0 a1 a2)
  (fun a0 a1 a2 _ _ => dIaddrL a0 a1 a2)
  (fun a0 a1 a2 a3 _ _ => dIaddrA a0 a1 a2 a3)
  (fun a0 a1 _ _ => dIdxS a0 a1)
  (fun a0 a1 a2 a3 a4 _ _ => dIdxA a0 a1 a2 a3 a4)
  (fun a0 a1 a2 a3 a4 _ _ => dLookup a0 a1 a2 a3 a4)
  (fun a0 a1 a2 a3 _ _ => dMapset a0 a1 a2 a3)
  (fun a0 a1 a2 a3 _ _ => dMapent a0 a1 a2 a3)
  (fun a0 a1 a2 _ _ => dEntset a0 a1 a2)
  (fun a0 a1 a2 _ _ => dMapdel a0 a1 a2)
  (fun a0 _ _ => dRangeS a0)
  (fun a0 _ _ => dNextS a0)
  (fun a0 a1 a2 a3 _ _ => dTassert a0 a1 a2 a3)
  (fun a0 a1 _ _ => dExt a0 a1)
  (fun a0 a1 _ _ => dLen a0 a1)
  (fun a0 _ _ => dCap a0)
  (fun a0 a1 a2 _ _ => dAppend a0 a1 a2)
  (fun a0 a1 a2 _ _ => dAppendz a0 a1 a2)
  (fun a0 a1 a2 _ _ => dCopy a0 a1 a2)
  (fun a0 _ _ => dMin a0)
  (fun a0 _ _ => dMax a0)
  (fun a0 a1 E ih F H => callF E ih a0 (evs a1 F) H)
  (fun a0 a1 E ih F H => dynK E ih H (evs a1 F) (evF a0 F))
  (fun a0 a1 E ih F H => dfrK E H (evs a1 F) (evF a0 F))
  (fun a0 a1 a2 E ih F H => invK E ih a0 (evs a2 F) H (evF a1 F))
  (fun a0 E ih F H => none)
theorem opF_eq (E : Env) (ih : Run) (o : XO) (F : Fr) (H : Hp) : opF o E ih F H = opX E ih o F H := by
  cases o with
  | call f l => show callF E ih f (evs l F) H = _; rw [callF_eq, evs_eq]; rfl
  | dyn f l => show fnK (fun f l => callF E ih f l H) (evs l F) (evF f F) = _; unfold fnK; rw [evs_eq, evF_eq]; simp only [callF_eq]; rfl
  | dfr f l => show fnK (fun g l => bif E.idle g l.length then some (V.undef, H) else none) (evs l F) (evF f F) = _; unfold fnK; rw [evs_eq, evF_eq]; rfl
  | invoke fits x l => show invK E ih fits (evs l F) H (evF x F) = _; unfold invK; rw [evs_eq, evF_eq]; simp only [callF_eq]; rfl
  | bad w => rfl
  | mv a0 => exact doF_eq (.mv a0) F H
  | pick a0 a1 a2 => exact doF_eq (.pick a0 a1 a2) F H
  | new a0 => exact doF_eq (.new a0) F H
  | box a0 a1 => exact doF_eq (.box a0 a1) F H
  | build a0 a1 => exact doF_eq (.build a0 a1) F H
  | bslice a0 a1 a2 a3 => exact doF_eq (.bslice a0 a1 a2 a3) F H
  | load a0 => exact doF_eq (.load a0) F H
  | loadn a0 a1 => exact doF_eq (.loadn a0 a1) F H
  | store a0 a1 a2 => exact doF_eq (.store a0 a1 a2) F H
  | nilck a0 => exact doF_eq (.nilck a0) F H
  | bin a0 a1 a2 => exact doF_eq (.bin a0 a1 a2) F H
  | eq a0 a1 a2 a3 => exact doF_eq (.eq a0 a1 a2 a3) F H
  | un a0 a1 => exact doF_eq (.un a0 a1) F H
  | toInt a0 a1 => exact doF_eq (.toInt a0 a1) F H
  | same a0 => exact doF_eq (.same a0) F H
  | toBytes a0 => exact doF_eq (.toBytes a0) F H
  | toStr a0 => exact doF_eq (.toStr a0) F H
  | runeStr a0 => exact doF_eq (.runeStr a0) F H
  | mkiface a0 a1 => exact doF_eq (.mkiface a0 a1) F H
  | mkmeth a0 a1 => exact doF_eq (.mkmeth a0 a1) F H
  | mkfunc a0 a1 a2 => exact doF_eq (.mkfunc a0 a1 a2) F H
  | mkmap  => exact doF_eq (.mkmap) F H
  | mkslice a0 a1 a2 => exact doF_eq (.mkslice a0 a1 a2) F H
  | sliceS a0 a1 a2 => exact doF_eq (.sliceS a0 a1 a2) F H
  | sliceL a0 a1 a2 a3 a4 => exact doF_eq (.sliceL a0 a1 a2 a3 a4) F H
  | sliceA a0 a1 a2 a3 a4 a5 => exact doF_eq (.sliceA a0 a1 a2 a3 a4 a5) F H
  | faddr a0 a1 => exact doF_eq (.faddr a0 a1) F H
  | field a0 a1 a2 => exact doF_eq (.field a0 a1 a2) F H
  | iaddrL a0 a1 a2 => exact doF_eq (.iaddrL a0 a1 a2) F H
  | iaddrA a0 a1 a2 a3 => exact doF_eq (.iaddrA a0 a1 a2 a3) F H
  | idxS a0 a1 => exact doF_eq (.idxS a0 a1) F H
  | idxA a0 a1 a2 a3 a4 => exact doF_eq (.idxA a0 a1 a2 a3 a4) F H
  | lookup a0 a1 a2 a3 a4 => exact doF_eq (.lookup a0 a1 a2 a3 a4) F H
  | mapset a0 a1 a2 a3 => exact doF_eq (.mapset a0 a1 a2 a3) F H
  | mapent a0 a1 a2 a3 => exact doF_eq (.mapent a0 a1 a2 a3) F H
  | entset a0 a1 a2 => exact doF_eq (.entset a0 a1 a2) F H
  | mapdel a0 a1 a2 => exact doF_eq (.mapdel a0 a1 a2) F H
  | rangeS a0 => exact doF_eq (.rangeS a0) F H
  | nextS a0 => exact doF_eq (.nextS a0) F H
  | tassert a0 a1 a2 a3 => exact doF_eq (.tassert a0 a1 a2 a3) F H
  | ext a0 a1 => exact doF_eq (.ext a0 a1) F H
  | len a0 a1 => exact doF_eq (.len a0 a1) F H
  | cap a0 => exact doF_eq (.cap a0) F H
  | append a0 a1 a2 => exact doF_eq (.append a0 a1 a2) F H
  | appendz a0 a1 a2 => exact doF_eq (.appendz a0 a1 a2) F H
  | copy a0 a1 a2 => exact doF_eq (.copy a0 a1 a2) F H
  | min a0 => exact doF_eq (.min a0) F H
  | max a0 => exact doF_eq (.max a0) F H

/-! ## Running -/
abbrev T2 := Option (Fr × Hp)
def wantV : Bool → V → Option Bool := fun b v => match v with | .bool x => some (x == b) | .sym _ => none | _ => some false
def wantP (F : Fr) (p : P) (b : Bool) : Option Bool := @Option.rec V (fun _ => Option Bool) (some false) (wantV b) (getV p F)
def wantF (F : Fr) : Option (P × Bool) → Option Bool := @Option.rec (P × Bool) (fun _ => Option Bool) (some true) (@Prod.rec P Bool (fun _ => Option Bool) (wantP F))
theorem wantF_eq (F : Fr) (g : Option (P × Bool)) : wantF F g = want F g := by
  cases g with
  | none => rfl
  | some q =>
    obtain ⟨p, b⟩ := q
    show @Option.rec V (fun _ => Option Bool) (some false) (wantV b) (getV p F) = _
    rw [getV_eq]
    unfold want
    simp only
    cases F.get p with
    | none => rfl
    | some v => cases v <;> rfl
def putO : Option P → V → Fr → Fr := @Option.rec P (fun _ => V → Fr → Fr) (fun _ F => F) (fun p v F => putV p (some v) F)
theorem putO_eq (d : Option P) (v : V) (F : Fr) : putO d v F = putD F d v := by
  cases d with
  | none => rfl
  | some p => exact putV_eq _ _ _
def didK (dst : Option P) (F : Fr) : R → T2 := @Option.rec (V × Hp) (fun _ => T2) none (@Prod.rec V Hp (fun _ => T2) (fun v H => some (putO dst v F, H)))
def wantK (r : R) (dst : Option P) (F : Fr) (H : Hp) : Option Bool → T2 := @Option.rec Bool (fun _ => T2) none (@Bool.rec (fun _ => T2) (some (putO dst V.undef F, H)) (didK dst F r))
def stepF : XOp → Env → Run → Fr → Hp → T2 := @XOp.rec (fun _ => Env → Run → Fr → Hp → T2) (fun g dst op E ih F H => wantK (opF op E ih F H) dst F H (wantF F g))
theorem stepF_eq (E : Env) (ih : Run) (o : XOp) (F : Fr) (H : Hp) : stepF o E ih F H = stepX E ih o F H := by
  obtain ⟨g, dst, op⟩ := o
  show wantK (opF op E ih F H) dst F H (wantF F g) = _
  rw [wantF_eq, opF_eq]
  unfold stepX
  simp only
  rcases want F g with _ | _ | _
  · rfl
  · show some (putO dst V.undef F, H) = some (putD F dst V.undef, H); rw [putO_eq]
  · show didK dst F (opX E ih op F H) = _
    rcases opX E ih op F H with _ | ⟨v, H'⟩
    · rfl
    · show some (putO dst v F, H') = some (putD F dst v, H'); rw [putO_eq]
def recheckF (o : XO) (F : Fr) (v : V) : List Hp → Nat → Bool
  | _, 0 => true
  | [], _ + 1 => false
  | H :: r, n + 1 => (match doF o F H with | some (u, _) => sameV v u | none => false) && recheckF o F v r n
theorem recheckF_eq (o : XO) (F : Fr) (v : V) : ∀ l n, recheckF o F v l n = recheck o F v l n
  | _, 0 => by unfold recheckF recheck; rfl
  | [], n + 1 => rfl
  | H :: r, n + 1 => by
    unfold recheckF recheck
    rw [doF_eq, recheckF_eq o F v r n]
    rfl
def drawF (E : Env) (ih : Run) : List (Nat × Bool × XOp) → Fr → Hp → Hp → List Hp → T2 := @List.rec (Nat × Bool × XOp) (fun _ => Fr → Hp → Hp → List Hp → T2) (fun F H _ _ => some (F, H))
  (fun q r rec F H B Hs => match q with
  | (chk, w, o) =>
    match wantF F o.g with
    | some true => (match opF o.op E ih F H with
      | some (v, H') => bif w then (bif Nat.ble H.next.toNat H'.next.toNat && (Nat.beq chk 0 || apartB F o.op r) then rec (putO o.dst v F) H' H' (B :: Hs) else none)
        else (bif recheckF o.op F v Hs chk then rec (putO o.dst v F) H' B Hs else none)
      | none => none)
    | some false => bif w then rec (putO o.dst V.undef F) H H (B :: Hs) else rec (putO o.dst V.undef F) H B Hs
    | none => none)
theorem drawF_eq (E : Env) (ih : Run) : ∀ l F H B Hs, drawF E ih l F H B Hs = drawX E ih l F H B Hs
  | [], _, _, _, _ => rfl
  | (chk, w, o) :: r, F, H, B, Hs => by
    unfold drawX
    rw [← wantF_eq]
    simp only [← opF_eq, ← recheckF_eq, ← putO_eq, ← drawF_eq E ih r]
    rfl
def nrmK (f : Fr → Hp → Option Q) : T2 → Option Q := @Option.rec (Fr × Hp) (fun _ => Option Q) none (@Prod.rec Fr Hp (fun _ => Option Q) f)
def opsF : List XOp → Env → Run → Fr → Hp → Option Q := @List.rec XOp (fun _ => Env → Run → Fr → Hp → Option Q) (fun _ _ F H => some (.nrm, F, H)) (fun o r _ E ih F H => nrmK (ih (.ops r)) (stepF o E ih F H))
def seqK (f : Fr → Hp → Option Q) : Option Q → Option Q := @Option.rec Q (fun _ => Option Q) none (@Prod.rec XE (Fr × Hp) (fun _ => Option Q) (@XE.rec (fun _ => Fr × Hp → Option Q) (@Prod.rec Fr Hp (fun _ => Option Q) f) (fun id q => some (.exit id, q)) (fun q => some (.ret, q))))
def blkK (id : Nat) : Option Q → Option Q := @Option.rec Q (fun _ => Option Q) none (@Prod.rec XE (Fr × Hp) (fun _ => Option Q) (@XE.rec (fun _ => Fr × Hp → Option Q) (fun q => some (.nrm, q)) (fun j q => @Bool.rec (fun _ => Option Q) (some (.exit j, q)) (some (.nrm, q)) (Nat.beq j id)) (fun q => some (.ret, q))))
def condK (x y : Option Q) : Option Bool → Option Q := @Option.rec Bool (fun _ => Option Q) none (@Bool.rec (fun _ => Option Q) y x)
def codeF : XC → Env → Run → Fr → Hp → Option Q := @XC.rec (fun _ => Env → Run → Fr → Hp → Option Q)
  (fun _ _ F H => some (.nrm, F, H))
  opsF
  (fun l E ih F H => nrmK (fun F H => some (.nrm, F, H)) (drawF E ih l F H H []))
  (fun a b _ _ _ ih F H => seqK (ih b) (ih a F H))
  (fun c a b _ _ _ ih F H => condK (ih a F H) (ih b F H) (boolA (evF c F)))
  (fun id b _ _ ih F H => blkK id (ih b F H))
  (fun b _ _ ih F H => seqK (ih (.loop b)) (ih b F H))
  (fun id _ _ F H => some (.exit id, F, H))
  (fun _ _ F H => some (.ret, F, H))
  (fun _ _ _ _ _ => none)
theorem nrmK_eq (f : Fr → Hp → Option Q) (x : T2) : nrmK f x = (match x with | some (F, H) => f F H | none => none) := by rcases x with _ | ⟨F, H⟩ <;> rfl
theorem codeF_eq (E : Env) (ih : Run) (c : XC) (F : Fr) (H : Hp) : codeF c E ih F H = execBody E ih c F H := by
  cases c with
  | skip => rfl
  | ops l =>
    cases l with
    | nil => rfl
    | cons o r => show nrmK (ih (.ops r)) (stepF o E ih F H) = _; rw [stepF_eq, nrmK_eq]; rfl
  | draw l => show nrmK _ (drawF E ih l F H H []) = _; rw [drawF_eq, nrmK_eq]; rfl
  | seq a b =>
    show seqK (ih b) (ih a F H) = _
    unfold execBody
    simp only
    rcases ih a F H with _ | ⟨e, F', H'⟩
    · rfl
    · cases e <;> rfl
  | cond c a b =>
    show condK (ih a F H) (ih b F H) (boolA (evF c F)) = _
    unfold execBody
    simp only
    rw [evF_eq]
    generalize ev F c = u
    cases u <;> first | rfl | (rename_i q; cases q <;> rfl)
  | block id b =>
    show blkK id (ih b F H) = _
    unfold execBody
    simp only
    rcases ih b F H with _ | ⟨e, F', H'⟩
    · rfl
    · cases e <;> first | rfl | exact bif_rec _ _ _
  | loop b =>
    show seqK (ih (.loop b)) (ih b F H) = _
    unfold execBody
    simp only
    rcases ih b F H with _ | ⟨e, F', H'⟩
    · rfl
    · cases e <;> rfl
  | exit id => rfl
  | ret => rfl
  | bad w => rfl
def execF (E : Env) : Nat → Run := @Nat.rec (fun _ => Run) (fun _ _ _ => none) (fun _ ih c => codeF c E ih)
theorem execF_eq (E : Env) : ∀ n, execF E n = exec E n
  | 0 => rfl
  | n + 1 => by
    funext c F H
    show codeF c E (execF E n) F H = execBody E (exec E n) c F H
    rw [codeF_eq, execF_eq E n]
def answer : R → Bool := @Option.rec (V × Hp) (fun _ => Bool) false (@Prod.rec V Hp (fun _ => Bool) (fun v _ => @Option.rec Bool (fun _ => Bool) false (fun b => b) (boolA v)))
theorem answer_spec {r : R} (h : answer r = true) : ∃ H, r = some (.bool true, H) := by
  rcases r with _ | ⟨v, H⟩
  · cases h
  · cases v <;> first | (cases h; done) | (rename_i b; cases b <;> first | (cases h; done) | exact ⟨H, rfl⟩)
end
end Go.Proofs.YtfhjamimbgdfpaaGreat.X
