/- A verified executor of the program's code, part XW; no condition. -/
import Derived.Test.YtafignheedbnbaaGreatDoorXSound
namespace Go.Proofs.YtafignheedbnbaaGreatDoor.X
open Go
set_option linter.unusedSimpArgs false
set_option linter.unusedVariables false
noncomputable section

/-! The executor once more, of recursors whose branches are closed terms: the kernel runs it some ten times as fast. -/
def succF : P → P := @P.rec (fun _ => P) (.o .h) (fun p _ => .i p) (fun _ ih => .o ih)
theorem succF_eq : ∀ p, succF p = P.succ p
  | .h => rfl
  | .o p => rfl
  | .i p => congrArg P.o (succF_eq p)
def ofG : Nat → Nat → P := @Nat.rec (fun _ => Nat → P) (fun _ => .h) (fun _ ih => @Nat.rec (fun _ => P) .h (fun m _ => @Bool.rec (fun _ => P) (.i (ih (Nat.div m 2))) (.o (ih (Nat.div m 2))) (Nat.beq (Nat.mod m 2) 0)))
theorem ofG_eq : ∀ f n, ofG f n = P.ofF f n
  | 0, _ => rfl
  | f + 1, 0 => rfl
  | f + 1, m + 1 => by
    have ih := ofG_eq f (Nat.div m 2)
    show @Bool.rec (fun _ => P) (.i (ofG f (Nat.div m 2))) (.o (ofG f (Nat.div m 2))) (Nat.beq (Nat.mod m 2) 0) = (bif Nat.beq (Nat.mod m 2) 0 then .o (P.ofF f (Nat.div m 2)) else .i (P.ofF f (Nat.div m 2)))
    rw [ih]
    cases Nat.beq (Nat.mod m 2) 0 <;> rfl
def pOf (n : Nat) : P := ofG (Nat.succ n) n
theorem pOf_eq (n : Nat) : pOf n = P.of n := ofG_eq _ _

def getV : P → Tr V → Option V := @P.rec (fun _ => Tr V → Option V)
  (@Tr.rec V (fun _ => Option V) none (fun _ v _ _ _ => v))
  (fun _ ih => @Tr.rec V (fun _ => Option V) none (fun l _ _ _ _ => ih l))
  (fun _ ih => @Tr.rec V (fun _ => Option V) none (fun _ _ r _ _ => ih r))
def getB : P → Tr Blk → Option Blk := @P.rec (fun _ => Tr Blk → Option Blk)
  (@Tr.rec Blk (fun _ => Option Blk) none (fun _ v _ _ _ => v))
  (fun _ ih => @Tr.rec Blk (fun _ => Option Blk) none (fun l _ _ _ _ => ih l))
  (fun _ ih => @Tr.rec Blk (fun _ => Option Blk) none (fun _ _ r _ _ => ih r))
def getN : P → Tr XFn → Option XFn := @P.rec (fun _ => Tr XFn → Option XFn)
  (@Tr.rec XFn (fun _ => Option XFn) none (fun _ v _ _ _ => v))
  (fun _ ih => @Tr.rec XFn (fun _ => Option XFn) none (fun l _ _ _ _ => ih l))
  (fun _ ih => @Tr.rec XFn (fun _ => Option XFn) none (fun _ _ r _ _ => ih r))
def putV : P → Option V → Tr V → Tr V := @P.rec (fun _ => Option V → Tr V → Tr V)
  (fun v => @Tr.rec V (fun _ => Tr V) (.nd .lf v .lf) (fun l _ r _ _ => .nd l v r))
  (fun _ ih v => @Tr.rec V (fun _ => Tr V) (.nd (ih v .lf) none .lf) (fun l x r _ _ => .nd (ih v l) x r))
  (fun _ ih v => @Tr.rec V (fun _ => Tr V) (.nd .lf none (ih v .lf)) (fun l x r _ _ => .nd l x (ih v r)))
def putB : P → Option Blk → Tr Blk → Tr Blk := @P.rec (fun _ => Option Blk → Tr Blk → Tr Blk)
  (fun v => @Tr.rec Blk (fun _ => Tr Blk) (.nd .lf v .lf) (fun l _ r _ _ => .nd l v r))
  (fun _ ih v => @Tr.rec Blk (fun _ => Tr Blk) (.nd (ih v .lf) none .lf) (fun l x r _ _ => .nd (ih v l) x r))
  (fun _ ih v => @Tr.rec Blk (fun _ => Tr Blk) (.nd .lf none (ih v .lf)) (fun l x r _ _ => .nd l x (ih v r)))
theorem getV_eq : ∀ (p : P) (t : Tr V), getV p t = t.get p
  | .h, .lf => rfl
  | .h, .nd _ _ _ => rfl
  | .o p, .lf => rfl
  | .o p, .nd l _ _ => getV_eq p l
  | .i p, .lf => rfl
  | .i p, .nd _ _ r => getV_eq p r
theorem getB_eq : ∀ (p : P) (t : Tr Blk), getB p t = t.get p
  | .h, .lf => rfl
  | .h, .nd _ _ _ => rfl
  | .o p, .lf => rfl
  | .o p, .nd l _ _ => getB_eq p l
  | .i p, .lf => rfl
  | .i p, .nd _ _ r => getB_eq p r
theorem getN_eq : ∀ (p : P) (t : Tr XFn), getN p t = t.get p
  | .h, .lf => rfl
  | .h, .nd _ _ _ => rfl
  | .o p, .lf => rfl
  | .o p, .nd l _ _ => getN_eq p l
  | .i p, .lf => rfl
  | .i p, .nd _ _ r => getN_eq p r
theorem putV_eq (v : Option V) : ∀ (p : P) (t : Tr V), putV p v t = t.put v p
  | .h, .lf => rfl
  | .h, .nd _ _ _ => rfl
  | .o p, .lf => congrArg (fun x => Tr.nd x none .lf) (putV_eq v p .lf)
  | .o p, .nd l x r => congrArg (fun y => Tr.nd y x r) (putV_eq v p l)
  | .i p, .lf => congrArg (fun x => Tr.nd .lf none x) (putV_eq v p .lf)
  | .i p, .nd l x r => congrArg (fun y => Tr.nd l x y) (putV_eq v p r)
theorem putB_eq (v : Option Blk) : ∀ (p : P) (t : Tr Blk), putB p v t = t.put v p
  | .h, .lf => rfl
  | .h, .nd _ _ _ => rfl
  | .o p, .lf => congrArg (fun x => Tr.nd x none .lf) (putB_eq v p .lf)
  | .o p, .nd l x r => congrArg (fun y => Tr.nd y x r) (putB_eq v p l)
  | .i p, .lf => congrArg (fun x => Tr.nd .lf none x) (putB_eq v p .lf)
  | .i p, .nd l x r => congrArg (fun y => Tr.nd l x y) (putB_eq v p r)

def orU : Option V → V := @Option.rec V (fun _ => V) V.undef (fun v => v)
def evF : Opd → Fr → V := @Opd.rec (fun _ => Fr → V) (fun p F => orU (getV p F)) (fun v _ => v)
theorem orU_eq (x : Option V) : orU x = x.getD V.undef := by cases x <;> rfl
theorem evF_eq (F : Fr) : ∀ x, evF x F = ev F x
  | .t p => by show orU (getV p F) = _; rw [orU_eq, getV_eq]; rfl
  | .c v => rfl
def evs : List Opd → Fr → List V := @List.rec Opd (fun _ => Fr → List V) (fun _ => []) (fun x _ ih F => evF x F :: ih F)
theorem evs_eq (F : Fr) : ∀ l, evs l F = l.map (ev F)
  | [] => rfl
  | x :: r => by show evF x F :: evs r F = _; rw [evF_eq, evs_eq F r]; rfl

/-! ## Forms of values -/
def ptrA : V → Option (P × Nat) := @V.rec (fun _ => Option (P × Nat)) (fun _ => Unit) (fun _ => none) (fun _ _ => none) (fun _ _ => none) (fun a => a) (fun _ _ _ _ => none) (fun _ => none) (fun _ _ _ _ _ => none) (none) (fun _ _ _ => none) (none) (fun _ _ => none) (fun _ _ => none) (fun _ => none) () (fun _ _ _ _ => ())
def cellsF : V → List V := fun v => @V.rec (fun _ => List V) (fun _ => Unit) (fun _ => [v]) (fun _ _ => [v]) (fun _ _ => [v]) (fun _ => [v]) (fun _ _ _ _ => [v]) (fun _ => [v]) (fun _ _ _ _ _ => [v]) ([v]) (fun _ _ _ => [v]) ([v]) (fun cs _ => cs) (fun _ _ => [v]) (fun _ => [v]) () (fun _ _ _ _ => ()) v
/-! ## Memory -/
def cellF : Nat → Blk → Option V := fun i => @Blk.rec (fun _ => Option V) (fun c _ _ => getV (pOf i) c) (fun _ _ => none) (fun _ _ _ => none)
def oVV (f : Blk → Option V) : Option Blk → Option V := @Option.rec Blk (fun _ => Option V) none f
def loadF (H : Hp) (b : P) (i : Nat) : Option V := oVV (cellF i) (getB b H.t)
theorem loadF_eq (H : Hp) (b : P) (i : Nat) : loadF H b i = H.load b i := by
  unfold loadF Hp.load Hp.get oVV
  rw [getB_eq]
  cases Tr.get b H.t with
  | none => rfl
  | some k => cases k <;> first | rfl | (show getV (pOf i) _ = _; rw [getV_eq, pOf_eq])
theorem of_succ (i : Nat) : P.of (i + 1) = (P.of i).succ := P.toNat_inj (by rw [P.toNat_succ, P.toNat_of, P.toNat_of])
def rowG : Nat → P → Tr V → Option (List V) := @Nat.rec (fun _ => P → Tr V → Option (List V)) (fun _ _ => some [])
  (fun _ ih p t => @Option.rec V (fun _ => Option (List V)) none (fun v => @Option.rec (List V) (fun _ => Option (List V)) none (fun l => some (v :: l)) (ih (succF p) t)) (getV p t))
theorem rowG_eq (t : Tr V) : ∀ n i, rowG n (P.of i) t = rowGet t n i
  | 0, _ => rfl
  | n + 1, i => by
    have ih := rowG_eq t n (i + 1)
    rw [of_succ] at ih
    show @Option.rec V (fun _ => Option (List V)) none (fun v => @Option.rec (List V) (fun _ => Option (List V)) none (fun l => some (v :: l)) (rowG n (succF (P.of i)) t)) (getV (P.of i) t) = _
    rw [succF_eq, ih, getV_eq]
    conv => rhs; unfold rowGet
    cases t.get (P.of i) with
    | none => rfl
    | some v => simp only; cases rowGet t n (i + 1) <;> rfl
def oVL (f : Blk → Option (List V)) : Option Blk → Option (List V) := @Option.rec Blk (fun _ => Option (List V)) none f
def cellsN (i n : Nat) : Blk → Option (List V) := @Blk.rec (fun _ => Option (List V)) (fun c _ _ => rowG n (pOf i) c) (fun _ _ => none) (fun _ _ _ => none)
def loadnF (H : Hp) (b : P) (i n : Nat) : Option (List V) := oVL (cellsN i n) (getB b H.t)
theorem loadnF_eq (H : Hp) (b : P) (i n : Nat) : loadnF H b i n = H.loadn b i n := by
  unfold loadnF Hp.loadn Hp.get oVL
  rw [getB_eq]
  cases Tr.get b H.t with
  | none => rfl
  | some k => cases k <;> first | rfl | (show rowG n (pOf i) _ = _; rw [pOf_eq]; exact rowG_eq _ _ _)
def rowF : List V → P → Tr V → Tr V := @List.rec V (fun _ => P → Tr V → Tr V) (fun _ t => t) (fun v _ ih p t => ih (succF p) (putV p (some v) t))
theorem rowF_eq : ∀ l i t, rowF l (P.of i) t = rowOf l i t
  | [], _, _ => rfl
  | v :: r, i, t => by
    show rowF r (succF (P.of i)) (putV (P.of i) (some v) t) = _
    rw [succF_eq, ← of_succ, rowF_eq r, putV_eq]; rfl
def allF : Nat → P → Tr V → Bool := @Nat.rec (fun _ => P → Tr V → Bool) (fun _ _ => true) (fun _ ih p c => @Option.rec V (fun _ => Bool) false (fun _ => ih (succF p) c) (getV p c))
theorem allF_eq (c : Tr V) : ∀ n i, allF n (P.of i) c = allIn c n i
  | 0, _ => rfl
  | n + 1, i => by
    show @Option.rec V (fun _ => Bool) false (fun _ => allF n (succF (P.of i)) c) (getV (P.of i) c) = _
    rw [succF_eq, ← of_succ, getV_eq, allF_eq c n]
    conv => rhs; unfold allIn
    cases c.get (P.of i) <;> rfl
def oneF : V → Bool := @V.rec (fun _ => Bool) (fun _ => Unit) (fun _ => true) (fun _ _ => true) (fun _ _ => true) (fun _ => true) (fun _ _ _ _ => true) (fun _ => true) (fun _ _ _ _ _ => true) (true) (fun _ _ _ => true) (true) (fun _ _ => false) (fun _ _ => false) (fun _ => true) () (fun _ _ _ _ => ())
theorem oneF_eq : ∀ v, oneF v = V.one v := fun v => by cases v <;> rfl
def onesF : List V → Bool := @List.rec V (fun _ => Bool) true (fun v _ ih => @Bool.rec (fun _ => Bool) false ih (oneF v))
theorem onesF_eq : ∀ l : List V, onesF l = l.all V.one
  | [] => rfl
  | v :: r => by
    show @Bool.rec (fun _ => Bool) false (onesF r) (oneF v) = _
    rw [onesF_eq r, oneF_eq, List.all_cons]
    cases V.one v <;> rfl
def lenF : List V → Nat := @List.rec V (fun _ => Nat) 0 (fun _ _ ih => Nat.succ ih)
theorem lenF_eq : ∀ l : List V, lenF l = l.length
  | [] => rfl
  | v :: r => congrArg Nat.succ (lenF_eq r)
def setF (H : Hp) (b : P) (x : Blk) : Hp := ⟨putB b (some x) H.t, H.next⟩
def newF (H : Hp) (x : Blk) : Hp := ⟨putB H.next (some x) H.t, succF H.next⟩
def killF (H : Hp) (b : P) : Hp := ⟨putB b none H.t, H.next⟩
def newRowF (H : Hp) (cs : List V) (plain : Bool) : Hp := newF H (.cells (rowF cs .h .lf) (lenF cs) plain)
theorem setF_eq (H : Hp) (b : P) (x : Blk) : setF H b x = H.set b x := by unfold setF Hp.set; rw [putB_eq]
theorem newF_eq (H : Hp) (x : Blk) : newF H x = H.new x := by unfold newF Hp.new; rw [putB_eq, succF_eq]
theorem killF_eq (H : Hp) (b : P) : killF H b = H.kill b := by unfold killF Hp.kill; rw [putB_eq]
theorem newRowF_eq (H : Hp) (cs : List V) (pl : Bool) : newRowF H cs pl = H.newRow cs pl := by unfold newRowF Hp.newRow; rw [newF_eq, show (P.h : P) = P.of 0 from rfl, rowF_eq, lenF_eq]
def storeK (H : Hp) (b : P) (i : Nat) (vs : List V) : Blk → Option Hp := @Blk.rec (fun _ => Option Hp)
  (fun c n p => @Bool.rec (fun _ => Option Hp) none (@Bool.rec (fun _ => Option Hp) none (some (setF H b (.cells (rowF vs (pOf i) c) n p))) (allF (lenF vs) (pOf i) c)) (onesF vs)) (fun _ _ => none) (fun _ _ _ => none)
def storeF (H : Hp) (b : P) (i : Nat) (vs : List V) : Option Hp := @Option.rec Blk (fun _ => Option Hp) none (storeK H b i vs) (getB b H.t)
theorem storeF_eq (H : Hp) (b : P) (i : Nat) (vs : List V) : storeF H b i vs = H.storen b i vs := by
  unfold storeF Hp.storen Hp.get
  rw [getB_eq]
  cases Tr.get b H.t with
  | none => rfl
  | some k =>
    cases k with
    | cells c n p =>
      simp only [storeK, setF_eq, pOf_eq, rowF_eq, allF_eq, lenF_eq, onesF_eq]
      cases vs.all V.one <;> cases allIn c vs.length i <;> rfl
    | map _ _ => rfl
    | siter _ _ _ => rfl


theorem cellsF_eq (v : V) : cellsF v = v.cells := by cases v <;> rfl
abbrev R := Option (V × Hp)
/-! ## Frames of 512 slots -/
structure A8 where
  c0 : V
  c1 : V
  c2 : V
  c3 : V
  c4 : V
  c5 : V
  c6 : V
  c7 : V
structure B8 where
  b0 : A8
  b1 : A8
  b2 : A8
  b3 : A8
  b4 : A8
  b5 : A8
  b6 : A8
  b7 : A8
structure W where
  a0 : B8
  a1 : B8
  a2 : B8
  a3 : B8
  a4 : B8
  a5 : B8
  a6 : B8
  a7 : B8
inductive D8 where | d0 | d1 | d2 | d3 | d4 | d5 | d6 | d7
  deriving DecidableEq
def d8 : Nat → D8 | 0 => .d0 | 1 => .d1 | 2 => .d2 | 3 => .d3 | 4 => .d4 | 5 => .d5 | 6 => .d6 | _ => .d7
abbrev Q := XE × W × Hp
abbrev KV := V → Hp → Option Q
abbrev KW := W → Hp → Option Q
def bindR (k : KV) : R → Option Q := @Option.rec (V × Hp) (fun _ => Option Q) none (@Prod.rec V Hp (fun _ => Option Q) k)
theorem bif_rec {α : Type} (b : Bool) (x y : α) : @Bool.rec (fun _ => α) y x b = (bif b then x else y) := by cases b <;> rfl
def boolA : V → Option Bool := @V.rec (fun _ => Option Bool) (fun _ => Unit) (fun b => some b) (fun _ _ => none) (fun _ _ => none) (fun _ => none) (fun _ _ _ _ => none) (fun _ => none) (fun _ _ _ _ _ => none) (none) (fun _ _ _ => none) (none) (fun _ _ => none) (fun _ _ => none) (fun _ => none) () (fun _ _ _ _ => ())
/-! ## Numbers -/
def kindF : IntKind → IntKind → Bool := fun j k => match j, k with | .i8, .i8 => true | .i16, .i16 => true | .i32, .i32 => true | .i64, .i64 => true | .u8, .u8 => true | .u16, .u16 => true | .u32, .u32 => true | .u64, .u64 => true | _, _ => false
theorem kindF_eq (j k : IntKind) : kindF j k = decide (j = k) := by cases j <;> cases k <;> rfl
def addF : Int → Int → Int := @Int.rec (fun _ => Int → Int) (fun a => @Int.rec (fun _ => Int) (fun b => .ofNat (Nat.add a b)) (fun b => Int.add (.ofNat a) (.negSucc b))) (fun a y => Int.add (.negSucc a) y)
theorem addF_eq (x y : Int) : addF x y = Int.add x y := by cases x <;> cases y <;> rfl
def subF : Int → Int → Int := @Int.rec (fun _ => Int → Int) (fun a => @Int.rec (fun _ => Int) (fun b => @Bool.rec (fun _ => Int) (Int.sub (.ofNat a) (.ofNat b)) (.ofNat (Nat.sub a b)) (Nat.ble b a)) (fun b => Int.sub (.ofNat a) (.negSucc b))) (fun a y => Int.sub (.negSucc a) y)
theorem subF_eq (x y : Int) : subF x y = Int.sub x y := by
  cases x with
  | negSucc a => cases y <;> rfl
  | ofNat a =>
    cases y with
    | negSucc b => rfl
    | ofNat b =>
      show @Bool.rec (fun _ => Int) (Int.sub (.ofNat a) (.ofNat b)) (.ofNat (Nat.sub a b)) (Nat.ble b a) = _
      cases h : Nat.ble b a with
      | false => rfl
      | true =>
        have h' := Nat.ble_eq.mp h
        show Int.ofNat (a - b) = (a : Int) - (b : Int)
        rw [Int.ofNat_eq_natCast]; omega
def mulF : Int → Int → Int := @Int.rec (fun _ => Int → Int) (fun a => @Int.rec (fun _ => Int) (fun b => .ofNat (Nat.mul a b)) (fun b => Int.mul (.ofNat a) (.negSucc b))) (fun a y => Int.mul (.negSucc a) y)
theorem mulF_eq (x y : Int) : mulF x y = Int.mul x y := by cases x <;> cases y <;> rfl
def wrap64 : Int → Int := @Int.rec (fun _ => Int) (fun a => @Bool.rec (fun _ => Int) (IntKind.wrap .i64 (.ofNat a)) (.ofNat a) (Nat.blt a 9223372036854775808)) (fun a => @Bool.rec (fun _ => Int) (IntKind.wrap .i64 (.negSucc a)) (.negSucc a) (Nat.blt a 9223372036854775808))
theorem wrap64_eq (n : Int) : wrap64 n = wrapI .i64 n := by
  cases n with
  | ofNat a => exact bif_rec _ _ _
  | negSucc a => exact bif_rec _ _ _
def wrapF : IntKind → Int → Int := @IntKind.rec (fun _ => Int → Int) (wrapI .i8) (wrapI .i16) (wrapI .i32) wrap64 (wrapI .u8) (wrapI .u16) (wrapI .u32) (wrapI .u64)
theorem wrapF_eq (k : IntKind) (n : Int) : wrapF k n = wrapI k n := by cases k <;> first | rfl | exact wrap64_eq n
def ltF : Int → Int → Bool := @Int.rec (fun _ => Int → Bool) (fun a => @Int.rec (fun _ => Bool) (fun b => Nat.blt a b) (fun _ => false)) (fun a => @Int.rec (fun _ => Bool) (fun _ => true) (fun b => Nat.blt b a))
theorem ltF_eq (x y : Int) : ltF x y = ltI x y := by cases x <;> cases y <;> rfl
def eqF : Int → Int → Bool := @Int.rec (fun _ => Int → Bool) (fun a => @Int.rec (fun _ => Bool) (fun b => Nat.beq a b) (fun _ => false)) (fun a => @Int.rec (fun _ => Bool) (fun _ => false) (fun b => Nat.beq a b))
theorem eqF_eq (x y : Int) : eqF x y = eqI x y := by cases x <;> cases y <;> rfl
def notF : Bool → Bool := @Bool.rec (fun _ => Bool) true false
theorem notF_eq (b : Bool) : notF b = not b := by cases b <;> rfl
def andF : Bool → Bool → Bool := @Bool.rec (fun _ => Bool → Bool) (fun _ => false) (fun b => b)
theorem andF_eq (a b : Bool) : andF a b = (a && b) := by cases a <;> cases b <;> rfl
abbrev B := IntKind → Int → Int → Option V
def bInt : BinOp → B := @BinOp.rec (fun _ => B)
  (fun k x y => some (.int k (wrapF k (addF x y)))) (fun k x y => some (.int k (wrapF k (subF x y)))) (fun k x y => some (.int k (wrapF k (mulF x y)))) (binI .quo) (binI .rem) (binI .and) (binI .or) (binI .xor) (binI .shl) (binI .shr) (binI .andNot)
  (fun _ x y => some (.bool (eqF x y))) (fun _ x y => some (.bool (notF (eqF x y)))) (fun _ x y => some (.bool (ltF x y))) (fun _ x y => some (.bool (notF (ltF y x)))) (fun _ x y => some (.bool (ltF y x))) (fun _ x y => some (.bool (notF (ltF x y))))
theorem bInt_eq (op : BinOp) (k : IntKind) (x y : Int) : bInt op k x y = binI op k x y := by
  cases op <;> first | rfl | (simp only [bInt, binI, wrapF_eq, addF_eq, subF_eq, mulF_eq, eqF_eq, ltF_eq, notF_eq]; done)
abbrev S := Nat → Nat → Nat → Nat → Option V
def bStr : BinOp → S := @BinOp.rec (fun _ => S)
  (fun la a lb b => @Bool.rec (fun _ => Option V) none (some (.str (Nat.add la lb) (strCat la a b))) (Nat.ble (Nat.add la lb) 1000000000)) (binS .sub) (binS .mul) (binS .quo) (binS .rem) (binS .and) (binS .or) (binS .xor) (binS .shl) (binS .shr) (binS .andNot)
  (fun la a lb b => some (.bool (andF (Nat.beq la lb) (Nat.beq a b)))) (fun la a lb b => some (.bool (notF (andF (Nat.beq la lb) (Nat.beq a b))))) (binS .lss) (binS .leq) (binS .gtr) (binS .geq)
theorem bStr_eq (op : BinOp) (la a lb b : Nat) : bStr op la a lb b = binS op la a lb b := by
  cases op <;> first | rfl | (simp only [bStr, binS, andF_eq, notF_eq]; done) | (simp only [bStr, binS]; cases Nat.ble (Nat.add la lb) 1000000000 <;> rfl)

/-! ## Lists -/
def extL : Nat → List V → Option V := @Nat.rec (fun _ => List V → Option V) (@List.rec V (fun _ => Option V) none (fun v _ _ => some v)) (fun _ ih => @List.rec V (fun _ => Option V) none (fun _ r _ => ih r))
theorem extL_eq : ∀ (n : Nat) (l : List V), extL n l = l[n]?
  | 0, [] => rfl
  | 0, _ :: _ => rfl
  | n + 1, [] => rfl
  | n + 1, _ :: r => by show extL n r = _; rw [extL_eq n r]; simp
def takeF : Nat → List V → List V := @Nat.rec (fun _ => List V → List V) (fun _ => []) (fun _ ih => @List.rec V (fun _ => List V) [] (fun v r _ => v :: ih r))
theorem takeF_eq : ∀ n (l : List V), takeF n l = l.take n
  | 0, _ => by simp; rfl
  | n + 1, [] => by simp; rfl
  | n + 1, v :: r => by show v :: takeF n r = _; rw [takeF_eq n r]; simp
def dropF : Nat → List V → List V := @Nat.rec (fun _ => List V → List V) (fun l => l) (fun _ ih => @List.rec V (fun _ => List V) [] (fun _ r _ => ih r))
theorem dropF_eq : ∀ n (l : List V), dropF n l = l.drop n
  | 0, _ => by simp; rfl
  | n + 1, [] => by simp; rfl
  | n + 1, v :: r => by show dropF n r = _; rw [dropF_eq n r]; simp
def appF : List V → List V → List V := @List.rec V (fun _ => List V → List V) (fun m => m) (fun v _ ih m => v :: ih m)
theorem appF_eq : ∀ l m : List V, appF l m = l ++ m
  | [], _ => rfl
  | v :: r, m => congrArg (v :: ·) (appF_eq r m)
def consO (xs vs : List V) : Option (List V) → Option (List V) := @Option.rec (List V) (fun _ => Option (List V)) none (fun t => some (appF xs (appF vs t)))
/-! ## Maps with text keys -/
abbrev FK := Option (Option (Nat × V × Nat))
def strSel : V → Nat → Nat → FK → FK → FK := @V.rec (fun _ => Nat → Nat → FK → FK → FK) (fun _ => Unit) (fun _ => fun _ _ _ _ => none) (fun _ _ => fun _ _ _ _ => none) (fun lb b => fun la a no yes => @Bool.rec (fun _ => FK) no (@Bool.rec (fun _ => FK) no yes (Nat.beq la lb)) (Nat.beq a b)) (fun _ => fun _ _ _ _ => none) (fun _ _ _ _ => fun _ _ _ _ => none) (fun _ => fun _ _ _ _ => none) (fun _ _ _ _ _ => fun _ _ _ _ => none) (fun _ _ _ _ => none) (fun _ _ _ => fun _ _ _ _ => none) (fun _ _ _ _ => none) (fun _ _ => fun _ _ _ _ => none) (fun _ _ => fun _ _ _ _ => none) (fun _ => fun _ _ _ _ => none) () (fun _ _ _ _ => ())
def findS (la a : Nat) : List (V × V × Nat) → Nat → FK := @List.rec (V × V × Nat) (fun _ => Nat → FK) (fun _ => some none)
  (@Prod.rec V (V × Nat) (fun _ => List (V × V × Nat) → (Nat → FK) → Nat → FK) (fun k q _ ih i => strSel k la a (ih (Nat.succ i)) (some (some (i, q)))))
theorem findS_eq (H : Hp) (la a : Nat) : ∀ (l : List (V × V × Nat)) (i : Nat), findS la a l i = findK H .str (.str la a) l i
  | [], _ => rfl
  | (k', v, b) :: r, i => by
    show strSel k' la a (findS la a r (i + 1)) (some (some (i, v, b))) = _
    rw [findS_eq H la a r]
    conv => rhs; unfold findK
    show _ = (match eqT (.str la a) k' with | some true => _ | some false => _ | none => _)
    cases k' <;> first | rfl | skip
    rename_i lb b'
    show @Bool.rec (fun _ => FK) _ (@Bool.rec (fun _ => FK) _ _ (Nat.beq la lb)) (Nat.beq a b') = (match some (Nat.beq la lb && Nat.beq a b') with | some true => _ | some false => _ | none => _)
    cases Nat.beq la lb <;> cases Nat.beq a b' <;> rfl
def findF (H : Hp) (k : EqK) (key : V) (l : List (V × V × Nat)) : FK := match k, key with
  | .str, .str la a => findS la a l 0
  | k, key => findK H k key l 0
theorem findF_eq (H : Hp) (k : EqK) (key : V) (l : List (V × V × Nat)) : findF H k key l = findK H k key l 0 := by
  cases k <;> cases key <;> first | rfl | exact findS_eq H _ _ l 0
abbrev En := V × V × Nat
def appE : List En → List En → List En := @List.rec En (fun _ => List En → List En) (fun m => m) (fun v _ ih m => v :: ih m)
theorem appE_eq : ∀ l m : List En, appE l m = l ++ m
  | [], _ => rfl
  | v :: r, m => congrArg (v :: ·) (appE_eq r m)
def appendLF (H : Hp) (sz : Nat) (x : V) (vs : List V) (m : Nat) : Option (V × Hp) :=
  match x with
  | .slice none _ _ _ =>
    match m with
    | 0 => some (.slice none 0 0 (some 0), H)
    | _ => bif andF (Nat.ble m most) (onesF vs) then some (.slice (some (H.next, 0)) sz m none, newRowF H vs false) else none
  | .slice (some (b, i)) sz' l c =>
    bif notF (andF (Nat.beq sz sz') (Nat.ble (Nat.add l m) most)) then none else
    match c with
    | some c =>
      bif Nat.ble (Nat.add l m) c then match storeF H b (Nat.add i (Nat.mul l sz)) vs with | some H' => some (.slice (some (b, i)) sz (Nat.add l m) (some c), H') | none => none
      else match loadnF H b i (Nat.mul l sz) with
        | some old => bif onesF vs then some (.slice (some (H.next, 0)) sz (Nat.add l m) none, newRowF H (appF old vs) false) else none
        | none => none
    | none => match loadnF H b i (Nat.mul l sz) with
      | some old => bif onesF vs then some (.slice (some (H.next, 0)) sz (Nat.add l m) none, newRowF (killF H b) (appF old vs) false) else none
      | none => none
  | _ => none
theorem appendLF_eq (H : Hp) (sz : Nat) (x : V) (vs : List V) (m : Nat) : appendLF H sz x vs m = appendL H sz x vs m := by
  unfold appendLF appendL
  simp only [onesF_eq, newRowF_eq, storeF_eq, loadnF_eq, appF_eq, killF_eq, andF_eq, notF_eq]
  rfl
def appendedF (H : Hp) (sz : Nat) : V → Option (List V)
  | .slice none _ _ _ => some []
  | .slice (some (b, i)) _ l _ => loadnF H b i (Nat.mul l sz)
  | .str l n => bif Nat.beq sz 1 then some (asBytes n l 0) else none
  | _ => none
theorem appendedF_eq (H : Hp) (sz : Nat) (v : V) : appendedF H sz v = appended H sz v := by
  unfold appendedF appended
  simp only [loadnF_eq]
  rfl
def appendF (H : Hp) (sz : Nat) (x y : V) : Option (V × Hp) :=
  match appendedF H sz y, lenOf y with
  | some vs, some m => appendLF H sz x vs m
  | _, _ => none
theorem appendF_eq (H : Hp) (sz : Nat) (x y : V) : appendF H sz x y = appendX H sz x y := by
  unfold appendF appendX
  simp only [appendedF_eq, appendLF_eq]
  rfl

def pa0 : V → A8 → A8 := fun v => @A8.rec (fun _ => A8) (fun c0 c1 c2 c3 c4 c5 c6 c7 => ⟨v, c1, c2, c3, c4, c5, c6, c7⟩)
def pa1 : V → A8 → A8 := fun v => @A8.rec (fun _ => A8) (fun c0 c1 c2 c3 c4 c5 c6 c7 => ⟨c0, v, c2, c3, c4, c5, c6, c7⟩)
def pa2 : V → A8 → A8 := fun v => @A8.rec (fun _ => A8) (fun c0 c1 c2 c3 c4 c5 c6 c7 => ⟨c0, c1, v, c3, c4, c5, c6, c7⟩)
def pa3 : V → A8 → A8 := fun v => @A8.rec (fun _ => A8) (fun c0 c1 c2 c3 c4 c5 c6 c7 => ⟨c0, c1, c2, v, c4, c5, c6, c7⟩)
def pa4 : V → A8 → A8 := fun v => @A8.rec (fun _ => A8) (fun c0 c1 c2 c3 c4 c5 c6 c7 => ⟨c0, c1, c2, c3, v, c5, c6, c7⟩)
def pa5 : V → A8 → A8 := fun v => @A8.rec (fun _ => A8) (fun c0 c1 c2 c3 c4 c5 c6 c7 => ⟨c0, c1, c2, c3, c4, v, c6, c7⟩)
def pa6 : V → A8 → A8 := fun v => @A8.rec (fun _ => A8) (fun c0 c1 c2 c3 c4 c5 c6 c7 => ⟨c0, c1, c2, c3, c4, c5, v, c7⟩)
def pa7 : V → A8 → A8 := fun v => @A8.rec (fun _ => A8) (fun c0 c1 c2 c3 c4 c5 c6 c7 => ⟨c0, c1, c2, c3, c4, c5, c6, v⟩)
def pb0 : (A8 → A8) → B8 → B8 := fun f => @B8.rec (fun _ => B8) (fun b0 b1 b2 b3 b4 b5 b6 b7 => ⟨f b0, b1, b2, b3, b4, b5, b6, b7⟩)
def pb1 : (A8 → A8) → B8 → B8 := fun f => @B8.rec (fun _ => B8) (fun b0 b1 b2 b3 b4 b5 b6 b7 => ⟨b0, f b1, b2, b3, b4, b5, b6, b7⟩)
def pb2 : (A8 → A8) → B8 → B8 := fun f => @B8.rec (fun _ => B8) (fun b0 b1 b2 b3 b4 b5 b6 b7 => ⟨b0, b1, f b2, b3, b4, b5, b6, b7⟩)
def pb3 : (A8 → A8) → B8 → B8 := fun f => @B8.rec (fun _ => B8) (fun b0 b1 b2 b3 b4 b5 b6 b7 => ⟨b0, b1, b2, f b3, b4, b5, b6, b7⟩)
def pb4 : (A8 → A8) → B8 → B8 := fun f => @B8.rec (fun _ => B8) (fun b0 b1 b2 b3 b4 b5 b6 b7 => ⟨b0, b1, b2, b3, f b4, b5, b6, b7⟩)
def pb5 : (A8 → A8) → B8 → B8 := fun f => @B8.rec (fun _ => B8) (fun b0 b1 b2 b3 b4 b5 b6 b7 => ⟨b0, b1, b2, b3, b4, f b5, b6, b7⟩)
def pb6 : (A8 → A8) → B8 → B8 := fun f => @B8.rec (fun _ => B8) (fun b0 b1 b2 b3 b4 b5 b6 b7 => ⟨b0, b1, b2, b3, b4, b5, f b6, b7⟩)
def pb7 : (A8 → A8) → B8 → B8 := fun f => @B8.rec (fun _ => B8) (fun b0 b1 b2 b3 b4 b5 b6 b7 => ⟨b0, b1, b2, b3, b4, b5, b6, f b7⟩)
def pw0 : (B8 → B8) → W → W := fun f => @W.rec (fun _ => W) (fun a0 a1 a2 a3 a4 a5 a6 a7 => ⟨f a0, a1, a2, a3, a4, a5, a6, a7⟩)
def pw1 : (B8 → B8) → W → W := fun f => @W.rec (fun _ => W) (fun a0 a1 a2 a3 a4 a5 a6 a7 => ⟨a0, f a1, a2, a3, a4, a5, a6, a7⟩)
def pw2 : (B8 → B8) → W → W := fun f => @W.rec (fun _ => W) (fun a0 a1 a2 a3 a4 a5 a6 a7 => ⟨a0, a1, f a2, a3, a4, a5, a6, a7⟩)
def pw3 : (B8 → B8) → W → W := fun f => @W.rec (fun _ => W) (fun a0 a1 a2 a3 a4 a5 a6 a7 => ⟨a0, a1, a2, f a3, a4, a5, a6, a7⟩)
def pw4 : (B8 → B8) → W → W := fun f => @W.rec (fun _ => W) (fun a0 a1 a2 a3 a4 a5 a6 a7 => ⟨a0, a1, a2, a3, f a4, a5, a6, a7⟩)
def pw5 : (B8 → B8) → W → W := fun f => @W.rec (fun _ => W) (fun a0 a1 a2 a3 a4 a5 a6 a7 => ⟨a0, a1, a2, a3, a4, f a5, a6, a7⟩)
def pw6 : (B8 → B8) → W → W := fun f => @W.rec (fun _ => W) (fun a0 a1 a2 a3 a4 a5 a6 a7 => ⟨a0, a1, a2, a3, a4, a5, f a6, a7⟩)
def pw7 : (B8 → B8) → W → W := fun f => @W.rec (fun _ => W) (fun a0 a1 a2 a3 a4 a5 a6 a7 => ⟨a0, a1, a2, a3, a4, a5, a6, f a7⟩)
def selA : D8 → A8 → V := @D8.rec (fun _ => A8 → V) A8.c0 A8.c1 A8.c2 A8.c3 A8.c4 A8.c5 A8.c6 A8.c7
def selB : D8 → B8 → A8 := @D8.rec (fun _ => B8 → A8) B8.b0 B8.b1 B8.b2 B8.b3 B8.b4 B8.b5 B8.b6 B8.b7
def selW : D8 → W → B8 := @D8.rec (fun _ => W → B8) W.a0 W.a1 W.a2 W.a3 W.a4 W.a5 W.a6 W.a7
def setA : D8 → V → A8 → A8 := @D8.rec (fun _ => V → A8 → A8) pa0 pa1 pa2 pa3 pa4 pa5 pa6 pa7
def setB : D8 → (A8 → A8) → B8 → B8 := @D8.rec (fun _ => (A8 → A8) → B8 → B8) pb0 pb1 pb2 pb3 pb4 pb5 pb6 pb7
def setW : D8 → (B8 → B8) → W → W := @D8.rec (fun _ => (B8 → B8) → W → W) pw0 pw1 pw2 pw3 pw4 pw5 pw6 pw7
abbrev OW := W → V
def tv (f : W → B8) (g : B8 → A8) (h : A8 → V) : OW := fun w => h (g (f w))
def qW (f : (B8 → B8) → W → W) (g : (A8 → A8) → B8 → B8) (h : V → A8 → A8) : V → W → W := fun v => f (g (h v))
def cW (v : V) : OW := fun _ => v
def wget (t : Nat) : OW := tv (selW (d8 (t / 64))) (selB (d8 (t / 8 % 8))) (selA (d8 (t % 8)))
def wput (t : Nat) : V → W → W := qW (setW (d8 (t / 64))) (setB (d8 (t / 8 % 8))) (setA (d8 (t % 8)))
theorem selA_set (i j : D8) (v : V) (a : A8) : selA i (setA j v a) = if i = j then v else selA i a := by cases a; cases i <;> cases j <;> rfl
theorem selB_set (i j : D8) (f : A8 → A8) (b : B8) : selB i (setB j f b) = if i = j then f (selB i b) else selB i b := by cases b; cases i <;> cases j <;> rfl
theorem selW_set (i j : D8) (f : B8 → B8) (w : W) : selW i (setW j f w) = if i = j then f (selW i w) else selW i w := by cases w; cases i <;> cases j <;> rfl
theorem d8_inj : ∀ {i j : Nat}, i < 8 → j < 8 → d8 i = d8 j → i = j := by
  intro i j hi hj h
  match i, hi with
  | 0, _ => match j, hj with
    | 0, _ => first | rfl | cases h
    | 1, _ => first | rfl | cases h
    | 2, _ => first | rfl | cases h
    | 3, _ => first | rfl | cases h
    | 4, _ => first | rfl | cases h
    | 5, _ => first | rfl | cases h
    | 6, _ => first | rfl | cases h
    | 7, _ => first | rfl | cases h
  | 1, _ => match j, hj with
    | 0, _ => first | rfl | cases h
    | 1, _ => first | rfl | cases h
    | 2, _ => first | rfl | cases h
    | 3, _ => first | rfl | cases h
    | 4, _ => first | rfl | cases h
    | 5, _ => first | rfl | cases h
    | 6, _ => first | rfl | cases h
    | 7, _ => first | rfl | cases h
  | 2, _ => match j, hj with
    | 0, _ => first | rfl | cases h
    | 1, _ => first | rfl | cases h
    | 2, _ => first | rfl | cases h
    | 3, _ => first | rfl | cases h
    | 4, _ => first | rfl | cases h
    | 5, _ => first | rfl | cases h
    | 6, _ => first | rfl | cases h
    | 7, _ => first | rfl | cases h
  | 3, _ => match j, hj with
    | 0, _ => first | rfl | cases h
    | 1, _ => first | rfl | cases h
    | 2, _ => first | rfl | cases h
    | 3, _ => first | rfl | cases h
    | 4, _ => first | rfl | cases h
    | 5, _ => first | rfl | cases h
    | 6, _ => first | rfl | cases h
    | 7, _ => first | rfl | cases h
  | 4, _ => match j, hj with
    | 0, _ => first | rfl | cases h
    | 1, _ => first | rfl | cases h
    | 2, _ => first | rfl | cases h
    | 3, _ => first | rfl | cases h
    | 4, _ => first | rfl | cases h
    | 5, _ => first | rfl | cases h
    | 6, _ => first | rfl | cases h
    | 7, _ => first | rfl | cases h
  | 5, _ => match j, hj with
    | 0, _ => first | rfl | cases h
    | 1, _ => first | rfl | cases h
    | 2, _ => first | rfl | cases h
    | 3, _ => first | rfl | cases h
    | 4, _ => first | rfl | cases h
    | 5, _ => first | rfl | cases h
    | 6, _ => first | rfl | cases h
    | 7, _ => first | rfl | cases h
  | 6, _ => match j, hj with
    | 0, _ => first | rfl | cases h
    | 1, _ => first | rfl | cases h
    | 2, _ => first | rfl | cases h
    | 3, _ => first | rfl | cases h
    | 4, _ => first | rfl | cases h
    | 5, _ => first | rfl | cases h
    | 6, _ => first | rfl | cases h
    | 7, _ => first | rfl | cases h
  | 7, _ => match j, hj with
    | 0, _ => first | rfl | cases h
    | 1, _ => first | rfl | cases h
    | 2, _ => first | rfl | cases h
    | 3, _ => first | rfl | cases h
    | 4, _ => first | rfl | cases h
    | 5, _ => first | rfl | cases h
    | 6, _ => first | rfl | cases h
    | 7, _ => first | rfl | cases h
theorem wget_wput (t s : Nat) (ht : t < 512) (hs : s < 512) (v : V) (w : W) : wget t (wput s v w) = if t = s then v else wget t w := by
  show selA (d8 (t % 8)) (selB (d8 (t / 8 % 8)) (selW (d8 (t / 64)) (setW (d8 (s / 64)) (setB (d8 (s / 8 % 8)) (setA (d8 (s % 8)) v)) w))) = _
  rw [selW_set]
  by_cases h1 : d8 (t / 64) = d8 (s / 64)
  · rw [if_pos h1, selB_set]
    by_cases h2 : d8 (t / 8 % 8) = d8 (s / 8 % 8)
    · rw [if_pos h2, selA_set]
      by_cases h3 : d8 (t % 8) = d8 (s % 8)
      · have e1 := d8_inj (by omega) (by omega) h1
        have e2 := d8_inj (by omega) (by omega) h2
        have e3 := d8_inj (by omega) (by omega) h3
        rw [if_pos h3, if_pos (by omega)]
      · rw [if_neg h3, if_neg (by rintro rfl; exact h3 rfl)]; rfl
    · rw [if_neg h2, if_neg (by rintro rfl; exact h2 rfl)]; rfl
  · rw [if_neg h1, if_neg (by rintro rfl; exact h1 rfl)]; rfl
/-- a frame of slots stands for a frame -/
def RW (w : W) (F : Fr) : Prop := ∀ t, t < 512 → wget t w = (F.get (P.of t)).getD V.undef
theorem RW.put {w : W} {F : Fr} (h : RW w F) {s : Nat} (hs : s < 512) (v : V) : RW (wput s v w) (F.put (some v) (P.of s)) := by
  intro t ht
  rw [wget_wput t s ht hs, Tr.get_put]
  by_cases e : t = s
  · subst e; rw [if_pos rfl, if_pos rfl]; rfl
  · rw [if_neg e, if_neg (fun k => e (P.of_inj k))]; exact h t ht

/-! ## Operands -/
def trO : Opd → OW | .t p => wget p.toNat | .c v => cW v
def okO : Opd → Bool | .t p => Nat.blt p.toNat 512 | .c _ => true
theorem trO_eq {w : W} {F : Fr} (h : RW w F) : ∀ {x : Opd}, okO x = true → trO x w = ev F x
  | .t p, hx => by
    have := h p.toNat (by simpa [okO] using hx)
    rw [P.of_toNat] at this
    exact this
  | .c v, _ => rfl
def anil : W → List V := fun _ => []
def acons (x : OW) (r : W → List V) : W → List V := fun w => x w :: r w
def trL : List Opd → W → List V | [] => anil | x :: r => acons (trO x) (trL r)
theorem trL_eq {w : W} {F : Fr} (h : RW w F) : ∀ {l : List Opd}, l.all okO = true → trL l w = l.map (ev F)
  | [], _ => rfl
  | x :: r, hl => by
    simp only [List.all_cons, Bool.and_eq_true] at hl
    show trO x w :: trL r w = _
    rw [trO_eq h hl.1, trL_eq h hl.2]; rfl
def onone : W → Option V := fun _ => none
def osome (x : OW) : W → Option V := fun w => some (x w)
def trQ : Option Opd → W → Option V | none => onone | some x => osome (trO x)
def okQ : Option Opd → Bool | none => true | some x => okO x
theorem trQ_eq {w : W} {F : Fr} (h : RW w F) : ∀ {x : Option Opd}, okQ x = true → trQ x w = x.map (ev F)
  | none, _ => rfl
  | some x, hx => by show some (trO x w) = _; rw [trO_eq h hx]; rfl
abbrev Pt := Nat × Nat × V
def pnil : W → List Pt := fun _ => []
def pcons (a b : Nat) (x : OW) (r : W → List Pt) : W → List Pt := fun w => (a, b, x w) :: r w
def trP : List (Nat × Nat × Opd) → W → List Pt | [] => pnil | (a, b, x) :: r => pcons a b (trO x) (trP r)
def okP (l : List (Nat × Nat × Opd)) : Bool := l.all fun q => okO q.2.2
def evP (F : Fr) (l : List (Nat × Nat × Opd)) : List Pt := l.map fun q => (q.1, q.2.1, ev F q.2.2)
theorem trP_eq {w : W} {F : Fr} (h : RW w F) : ∀ {l : List (Nat × Nat × Opd)}, okP l = true → trP l w = evP F l
  | [], _ => rfl
  | (a, b, x) :: r, hl => by
    simp only [okP, List.all_cons, Bool.and_eq_true] at hl
    show (a, b, trO x w) :: trP r w = _
    rw [trO_eq h hl.1, trP_eq h (l := r) hl.2]; rfl
def fillV : List Pt → List V → Option (List V)
  | [], cs => some cs
  | (off, sz, x) :: r, cs =>
    let vs := x.cells
    bif Nat.beq vs.length sz && Nat.ble (Nat.add off sz) cs.length then fillV r (cs.take off ++ vs ++ cs.drop (off + sz)) else none
theorem fillV_eq (F : Fr) : ∀ (l : List (Nat × Nat × Opd)) (cs : List V), fillV (evP F l) cs = fillP (ev F) l cs
  | [], _ => rfl
  | (off, sz, x) :: r, cs => by
    show fillV ((off, sz, ev F x) :: evP F r) cs = _
    unfold fillV fillP
    simp only [fillV_eq F r]
/-- parts in rising order, one walk: n cells in all, those from pos on are left -/
def fillS (n : Nat) : List Pt → Nat → List V → Option (List V) := @List.rec Pt (fun _ => Nat → List V → Option (List V)) (fun _ cs => some cs)
  (@Prod.rec Nat (Nat × V) (fun _ => List Pt → (Nat → List V → Option (List V)) → Nat → List V → Option (List V)) (fun off => @Prod.rec Nat V (fun _ => List Pt → (Nat → List V → Option (List V)) → Nat → List V → Option (List V))
    (fun sz x _ ih pos cs => (fun vs => @Bool.rec (fun _ => Option (List V)) none (consO (takeF (Nat.sub off pos) cs) vs (ih (Nat.add off sz) (dropF (Nat.sub (Nat.add off sz) pos) cs))) (andF (Nat.ble pos off) (andF (Nat.beq (lenF vs) sz) (Nat.ble (Nat.add off sz) n)))) (cellsF x))))
theorem fillS_spec (n : Nat) : ∀ (l : List Pt) (pos : Nat) (pre cs t : List V), pre.length = pos → pos + cs.length = n → fillS n l pos cs = some t → fillV l (pre ++ cs) = some (pre ++ t)
  | [], pos, pre, cs, t, _, _, h => by cases h; rfl
  | (off, sz, x) :: r, pos, pre, cs, t, h1, h2, h => by
    have h' : @Bool.rec (fun _ => Option (List V)) none (consO (takeF (Nat.sub off pos) cs) (cellsF x) (fillS n r (Nat.add off sz) (dropF (Nat.sub (Nat.add off sz) pos) cs))) (andF (Nat.ble pos off) (andF (Nat.beq (lenF (cellsF x)) sz) (Nat.ble (Nat.add off sz) n))) = some t := h
    rw [andF_eq, andF_eq, lenF_eq, cellsF_eq, takeF_eq, dropF_eq, bif_rec] at h'
    cases hb : (Nat.ble pos off && (Nat.beq x.cells.length sz && Nat.ble (Nat.add off sz) n)) with
    | false => rw [hb] at h'; cases h'
    | true =>
      rw [hb] at h'
      simp only [Bool.and_eq_true, Nat.ble_eq, Nat.beq_eq] at hb
      obtain ⟨b1, b2, b3⟩ := hb
      have b3' : off + sz ≤ n := b3
      cases hf : fillS n r (Nat.add off sz) (cs.drop (Nat.sub (Nat.add off sz) pos)) with
      | none => rw [hf] at h'; cases h'
      | some u =>
        rw [hf] at h'
        have ht : some (appF (cs.take (off - pos)) (appF x.cells u)) = some t := h'
        rw [appF_eq, appF_eq] at ht
        cases ht
        have e1 : (pre ++ cs).take off = pre ++ cs.take (off - pos) := by
          rw [List.take_append, List.take_of_length_le (by omega), h1]
        have e2 : (pre ++ cs).drop (off + sz) = cs.drop (off + sz - pos) := by
          rw [List.drop_append, List.drop_eq_nil_of_le (by omega), h1]; rfl
        have ih := fillS_spec n r (off + sz) (pre ++ (cs.take (off - pos) ++ x.cells)) (cs.drop (off + sz - pos)) u (by
          simp only [List.length_append, List.length_take]; omega) (by simp only [List.length_drop]; omega) hf
        unfold fillV
        have hc : (Nat.beq x.cells.length sz && Nat.ble (Nat.add off sz) (pre ++ cs).length) = true := by
          simp only [Bool.and_eq_true, Nat.beq_eq, Nat.ble_eq, List.length_append]
          exact ⟨b2, show off + sz ≤ _ by omega⟩
        simp only [hc, cond_true]
        rw [e1, e2]
        simp only [List.append_assoc] at ih ⊢
        exact ih
def orSlow (s : Option (List V)) : Option (List V) → Option (List V) := @Option.rec (List V) (fun _ => Option (List V)) s (fun t => some t)
def fillF (l : List Pt) (z : List V) : Option (List V) := orSlow (fillV l z) (fillS (lenF z) l 0 z)
theorem fillF_eq (l : List Pt) (z : List V) : fillF l z = fillV l z := by
  unfold fillF
  cases h : fillS (lenF z) l 0 z with
  | none => rfl
  | some t =>
    have := fillS_spec (lenF z) l 0 [] z t rfl (by rw [lenF_eq]; omega) h
    simp only [List.nil_append] at this
    rw [this]; rfl
def bndV (x : Option V) (top dflt : Nat) : Option Nat := match x with | none => some dflt | some v => bnd v top
theorem bndV_eq (F : Fr) (x : Option Opd) (a b : Nat) : bndV (x.map (ev F)) a b = bndO F x a b := by cases x <;> rfl
theorem isSome_map (F : Fr) (x : Option Opd) : (x.map (ev F)).isSome = x.isSome := by cases x <;> rfl
def mmV (mx : Bool) : List V → V → Option V
  | [], v => some v
  | x :: r, .int k a => match x with
    | .int _ b => mmV mx r (.int k (bif (bif mx then ltI a b else ltI b a) then b else a))
    | _ => none
  | _ :: _, _ => none
theorem mmV_eq (mx : Bool) (F : Fr) : ∀ (l : List Opd) (v : V), mmV mx (l.map (ev F)) v = mm mx F l v
  | [], v => by cases v <;> rfl
  | x :: r, v => by
    have ih := mmV_eq mx F r
    cases v <;> first | rfl | skip
    rename_i k a
    show (match ev F x with | .int _ b => mmV mx (r.map (ev F)) (.int k (bif (bif mx then ltI a b else ltI b a) then b else a)) | _ => none) = (match ev F x with | .int _ b => mm mx F r (.int k (bif (bif mx then ltI a b else ltI b a) then b else a)) | _ => none)
    simp only [ih]

/-! ## Operations -/
abbrev CallF := P → List V → Hp → KV → Option Q
structure CE where
  call : CallF
  idle : P → Nat → Bool
abbrev DC := CE → W → Hp → KV → Option Q
def atP (f : P → Nat → Option Q) : Option (P × Nat) → Option Q := @Option.rec (P × Nat) (fun _ => Option Q) none (@Prod.rec P Nat (fun _ => Option Q) f)
def isFn : Fn → Bool := @Fn.rec (fun _ => Bool) (fun _ => true) (fun _ => false) (fun _ _ => false) (fun _ _ _ _ => false) (fun _ => false)
def isSm : Option (P × Nat) → Bool := @Option.rec (P × Nat) (fun _ => Bool) false (fun _ => true)
def niled : V → Bool := @V.rec (fun _ => Bool) (fun _ => Unit) (fun _ => false) (fun _ _ => false) (fun _ _ => false) (fun a => isSm a) (fun _ _ _ _ => false) (fun _ => true) (fun fn _ _ _ _ => isFn fn) (false) (fun _ _ _ => true) (false) (fun _ _ => false) (fun _ _ => false) (fun _ => false) () (fun _ _ _ _ => ())
def len0 (f : Nat → Option Q) : V → Option Q := @V.rec (fun _ => Option Q) (fun _ => Unit) (fun _ => none) (fun _ _ => none) (fun l _ => f l) (fun _ => none) (fun _ _ _ _ => none) (fun _ => none) (fun _ _ _ _ _ => none) (none) (fun _ _ _ => none) (none) (fun _ _ => none) (fun _ _ => none) (fun _ => none) () (fun _ _ _ _ => ())
def len1 (f : Nat → Option Q) : V → Option Q := @V.rec (fun _ => Option Q) (fun _ => Unit) (fun _ => none) (fun _ _ => none) (fun _ _ => none) (fun _ => none) (fun _ _ l _ => f l) (fun _ => none) (fun _ _ _ _ _ => none) (none) (fun _ _ _ => none) (none) (fun _ _ => none) (fun _ _ => none) (fun _ => none) () (fun _ _ _ _ => ())
def tupK (f : List V → Option Q) : V → Option Q := @V.rec (fun _ => Option Q) (fun _ => Unit) (fun _ => none) (fun _ _ => none) (fun _ _ => none) (fun _ => none) (fun _ _ _ _ => none) (fun _ => none) (fun _ _ _ _ _ => none) (none) (fun _ _ _ => none) (none) (fun _ _ => none) (fun l _ => f l) (fun _ => none) () (fun _ _ _ _ => ())
def sliK (f : Option (P × Nat) → Nat → Option Q) : V → Option Q := @V.rec (fun _ => Option Q) (fun _ => Unit) (fun _ => none) (fun _ _ => none) (fun _ _ => none) (fun _ => none) (fun a _ l _ => f a l) (fun _ => none) (fun _ _ _ _ _ => none) (none) (fun _ _ _ => none) (none) (fun _ _ => none) (fun _ _ => none) (fun _ => none) () (fun _ _ _ _ => ())
def strK (f : Nat → Nat → Option Q) : V → Option Q := @V.rec (fun _ => Option Q) (fun _ => Unit) (fun _ => none) (fun _ _ => none) (fun l m => f l m) (fun _ => none) (fun _ _ _ _ => none) (fun _ => none) (fun _ _ _ _ _ => none) (none) (fun _ _ _ => none) (none) (fun _ _ => none) (fun _ _ => none) (fun _ => none) () (fun _ _ _ _ => ())
def intN (f : Nat → Option Q) : Int → Option Q := @Int.rec (fun _ => Option Q) f (fun _ => none)
def natK (f : Nat → Option Q) : V → Option Q := @V.rec (fun _ => Option Q) (fun _ => Unit) (fun _ => none) (fun _ n => intN f n) (fun _ _ => none) (fun _ => none) (fun _ _ _ _ => none) (fun _ => none) (fun _ _ _ _ _ => none) (none) (fun _ _ _ => none) (none) (fun _ _ => none) (fun _ _ => none) (fun _ => none) () (fun _ _ _ _ => ())
def someK (k : KV) (H : Hp) : Option V → Option Q := @Option.rec V (fun _ => Option Q) none (fun v => k v H)
def binIV (k : KV) (H : Hp) : V → B → IntKind → Int → Option Q := @V.rec (fun _ => B → IntKind → Int → Option Q) (fun _ => Unit) (fun _ => fun _ _ _ => none) (fun j b => fun fi i a => @Bool.rec (fun _ => Option Q) none (someK k H (fi i a b)) (kindF i j)) (fun _ _ => fun _ _ _ => none) (fun _ => fun _ _ _ => none) (fun _ _ _ _ => fun _ _ _ => none) (fun _ => fun _ _ _ => none) (fun _ _ _ _ _ => fun _ _ _ => none) (fun _ _ _ => none) (fun _ _ _ => fun _ _ _ => none) (fun _ _ _ => none) (fun _ _ => fun _ _ _ => none) (fun _ _ => fun _ _ _ => none) (fun _ => fun _ _ _ => none) () (fun _ _ _ _ => ())
def binSV (k : KV) (H : Hp) : V → S → Nat → Nat → Option Q := @V.rec (fun _ => S → Nat → Nat → Option Q) (fun _ => Unit) (fun _ => fun _ _ _ => none) (fun _ _ => fun _ _ _ => none) (fun lb b => fun fs la a => someK k H (fs la a lb b)) (fun _ => fun _ _ _ => none) (fun _ _ _ _ => fun _ _ _ => none) (fun _ => fun _ _ _ => none) (fun _ _ _ _ _ => fun _ _ _ => none) (fun _ _ _ => none) (fun _ _ _ => fun _ _ _ => none) (fun _ _ _ => none) (fun _ _ => fun _ _ _ => none) (fun _ _ => fun _ _ _ => none) (fun _ => fun _ _ _ => none) () (fun _ _ _ _ => ())
def bin2 : V → KV → Hp → B → S → V → Option Q := @V.rec (fun _ => KV → Hp → B → S → V → Option Q) (fun _ => Unit) (fun _ => fun _ _ _ _ _ => none) (fun i a => fun k H fi _ v => binIV k H v fi i a) (fun la a => fun k H _ fs v => binSV k H v fs la a) (fun _ => fun _ _ _ _ _ => none) (fun _ _ _ _ => fun _ _ _ _ _ => none) (fun _ => fun _ _ _ _ _ => none) (fun _ _ _ _ _ => fun _ _ _ _ _ => none) (fun _ _ _ _ _ => none) (fun _ _ _ => fun _ _ _ _ _ => none) (fun _ _ _ _ _ => none) (fun _ _ => fun _ _ _ _ _ => none) (fun _ _ => fun _ _ _ _ _ => none) (fun _ => fun _ _ _ _ _ => none) () (fun _ _ _ _ => ())
theorem someK_eq (k : KV) (H : Hp) (x : Option V) : someK k H x = bindR k (match x with | some v => some (v, H) | none => none) := by cases x <;> rfl
def wMv (x : OW) : DC := fun _ w H k => k (x w) H
theorem wMv_eq {w : W} {F : Fr} {x : OW} {x_ : Opd} (hx : x w = ev F x_) (ce_ : CE) (H : Hp) (k : KV) : wMv x ce_ w H k = bindR k (doX (.mv x_) F H) := by
  unfold wMv
  rw [hx]; rfl
def wPick (c : OW) (a : OW) (b : OW) : DC := fun _ w H k => @Option.rec Bool (fun _ => Option Q) none (@Bool.rec (fun _ => Option Q) (k (b w) H) (k (a w) H)) (boolA (c w))
theorem wPick_eq {w : W} {F : Fr} {c : OW} {c_ : Opd} (hc : c w = ev F c_) {a : OW} {a_ : Opd} (ha : a w = ev F a_) {b : OW} {b_ : Opd} (hb : b w = ev F b_) (ce_ : CE) (H : Hp) (k : KV) : wPick c a b ce_ w H k = bindR k (doX (.pick c_ a_ b_) F H) := by
  unfold wPick
  simp only [hc, ha, hb]
  unfold doX
  simp only
  generalize ev F c_ = u
  cases u <;> first | rfl | (rename_i b; cases b <;> rfl)
def wNew (z : List V) : DC := fun _ w H k => @Bool.rec (fun _ => Option Q) none (k (.ptr (some (H.next, 0))) (newRowF H z true)) (Nat.ble 1 (lenF z))
theorem wNew_eq {w : W} {F : Fr} (z : List V) (ce_ : CE) (H : Hp) (k : KV) : wNew z ce_ w H k = bindR k (doX (.new z) F H) := by
  unfold wNew
  simp only [newRowF_eq, lenF_eq]
  unfold doX
  simp only
  cases Nat.ble 1 z.length <;> rfl
def wBox (n : Nat) (x : OW) : DC := fun _ w H k => (fun cs => @Bool.rec (fun _ => Option Q) none (k (.ptr (some (H.next, 0))) (newRowF H cs true)) (andF (andF (Nat.beq (lenF cs) n) (Nat.ble 1 n)) (onesF cs))) (cellsF (x w))
theorem wBox_eq {w : W} {F : Fr} (n : Nat) {x : OW} {x_ : Opd} (hx : x w = ev F x_) (ce_ : CE) (H : Hp) (k : KV) : wBox n x ce_ w H k = bindR k (doX (.box n x_) F H) := by
  unfold wBox
  simp only [newRowF_eq, lenF_eq, hx, cellsF_eq, onesF_eq, andF_eq]
  unfold doX
  simp only
  generalize (Nat.beq _ _ && _ && _) = b
  cases b <;> rfl
def wLoad (x : OW) : DC := fun _ w H k => atP (fun b i => @Option.rec V (fun _ => Option Q) none (fun v => k v H) (loadF H b i)) (ptrA (x w))
theorem wLoad_eq {w : W} {F : Fr} {x : OW} {x_ : Opd} (hx : x w = ev F x_) (ce_ : CE) (H : Hp) (k : KV) : wLoad x ce_ w H k = bindR k (doX (.load x_) F H) := by
  unfold wLoad
  simp only [hx, loadF_eq]
  unfold doX
  simp only
  generalize ev F x_ = u
  cases u <;> first | rfl | skip
  rename_i q
  rcases q with _ | ⟨b, i⟩
  · rfl
  · show @Option.rec V (fun _ => Option Q) none _ (H.load b i) = bindR k (match H.load b i with | some v => some (v, H) | none => none)
    cases H.load b i <;> rfl
def wLoadn (n : Nat) (x : OW) : DC := fun _ w H k => atP (fun b i => @Option.rec (List V) (fun _ => Option Q) none (fun l => k (.agg l) H) (loadnF H b i n)) (ptrA (x w))
theorem wLoadn_eq {w : W} {F : Fr} (n : Nat) {x : OW} {x_ : Opd} (hx : x w = ev F x_) (ce_ : CE) (H : Hp) (k : KV) : wLoadn n x ce_ w H k = bindR k (doX (.loadn n x_) F H) := by
  unfold wLoadn
  simp only [hx, loadnF_eq]
  unfold doX
  simp only
  generalize ev F x_ = u
  cases u <;> first | rfl | skip
  rename_i q
  rcases q with _ | ⟨b, i⟩
  · rfl
  · show @Option.rec (List V) (fun _ => Option Q) none _ (H.loadn b i n) = bindR k (match H.loadn b i n with | some v => some (.agg v, H) | none => none)
    cases H.loadn b i n <;> rfl
def wStore (n : Nat) (x : OW) (y : OW) : DC := fun _ w H k => (fun vs => @Bool.rec (fun _ => Option Q) none (atP (fun b i => @Option.rec Hp (fun _ => Option Q) none (fun H => k V.undef H) (storeF H b i vs)) (ptrA (x w))) (Nat.beq (lenF vs) n)) (cellsF (y w))
theorem wStore_eq {w : W} {F : Fr} (n : Nat) {x : OW} {x_ : Opd} (hx : x w = ev F x_) {y : OW} {y_ : Opd} (hy : y w = ev F y_) (ce_ : CE) (H : Hp) (k : KV) : wStore n x y ce_ w H k = bindR k (doX (.store n x_ y_) F H) := by
  unfold wStore
  simp only [hx, hy, storeF_eq, lenF_eq, cellsF_eq]
  unfold doX
  simp only
  cases Nat.beq (ev F y_).cells.length n with
  | false => rfl
  | true =>
    simp only [cond_true]
    generalize ev F x_ = u
    cases u <;> first | rfl | skip
    rename_i q
    rcases q with _ | ⟨b, i⟩
    · rfl
    · show @Option.rec Hp (fun _ => Option Q) none _ (H.storen b i (ev F y_).cells) = bindR k (match H.storen b i (ev F y_).cells with | some H => some (V.undef, H) | none => none)
      cases H.storen b i (ev F y_).cells <;> rfl
def wNilck (x : OW) : DC := fun _ w H k => (fun v => @Bool.rec (fun _ => Option Q) none (k v H) (niled v)) (x w)
theorem wNilck_eq {w : W} {F : Fr} {x : OW} {x_ : Opd} (hx : x w = ev F x_) (ce_ : CE) (H : Hp) (k : KV) : wNilck x ce_ w H k = bindR k (doX (.nilck x_) F H) := by
  unfold wNilck
  simp only [hx]
  unfold doX
  simp only
  generalize ev F x_ = u
  cases u <;> first | rfl | (rename_i a; cases a <;> rfl) | (rename_i f a b; cases f <;> rfl)
def wFaddr (off : Nat) (x : OW) : DC := fun _ w H k => atP (fun b i => k (.ptr (some (b, Nat.add i off))) H) (ptrA (x w))
theorem wFaddr_eq {w : W} {F : Fr} (off : Nat) {x : OW} {x_ : Opd} (hx : x w = ev F x_) (ce_ : CE) (H : Hp) (k : KV) : wFaddr off x ce_ w H k = bindR k (doX (.faddr off x_) F H) := by
  unfold wFaddr
  simp only [hx]
  unfold doX
  simp only
  generalize ev F x_ = u
  cases u <;> first | rfl | (rename_i a; cases a <;> rfl)
def wLen (n : Nat) (x : OW) : DC := fun _ w H k => @Nat.rec (fun _ => Option Q) (len0 (fun l => k (.int .i64 (.ofNat l)) H) (x w)) (fun j _ => @Nat.rec (fun _ => Option Q) (len1 (fun l => k (.int .i64 (.ofNat l)) H) (x w)) (fun i _ => none) j) n
theorem wLen_le {w : W} {F : Fr} (n : Nat) {x : OW} {x_ : Opd} (hx : x w = ev F x_) (c : CE) (H : Hp) (k : KV) : wLen n x c w H k = none ∨ wLen n x c w H k = bindR k (doX (.len n x_) F H) := by
  unfold wLen
  rcases n with _ | _ | n
  · right; show len0 (fun l => k (.int .i64 (.ofNat l)) H) (x w) = _
    rw [hx]; unfold doX; simp only; generalize ev F x_ = u; cases u <;> rfl
  · right; show len1 (fun l => k (.int .i64 (.ofNat l)) H) (x w) = _
    rw [hx]; unfold doX; simp only; generalize ev F x_ = u; cases u <;> rfl
  · left; rfl
def wUn (op : UnOp) (x : OW) : DC := fun _ w H k => @UnOp.rec (fun _ => Option Q) (none) (none) (@Option.rec Bool (fun _ => Option Q) none (fun b => k (.bool (notF b)) H) (boolA (x w))) (none) op
theorem wUn_le {w : W} {F : Fr} (op : UnOp) {x : OW} {x_ : Opd} (hx : x w = ev F x_) (c : CE) (H : Hp) (k : KV) : wUn op x c w H k = none ∨ wUn op x c w H k = bindR k (doX (.un op x_) F H) := by
  cases op <;> first | exact .inl rfl | skip
  right
  unfold wUn
  simp only [hx]
  unfold doX
  simp only
  generalize ev F x_ = u
  cases u <;> first | rfl | (rename_i b; cases b <;> rfl)
def wExt (n : Nat) (x : OW) : DC := fun _ w H k => tupK (fun l => @Option.rec V (fun _ => Option Q) none (fun v => k v H) (extL n l)) (x w)
theorem wExt_eq {w : W} {F : Fr} (n : Nat) {x : OW} {x_ : Opd} (hx : x w = ev F x_) (ce_ : CE) (H : Hp) (k : KV) : wExt n x ce_ w H k = bindR k (doX (.ext n x_) F H) := by
  unfold wExt
  simp only [hx, extL_eq]
  unfold doX
  simp only
  generalize ev F x_ = u
  cases u <;> first | rfl | skip
  rename_i l
  show @Option.rec V (fun _ => Option Q) none _ l[n]? = bindR k (match l[n]? with | some v => some (v, H) | none => none)
  cases l[n]? <;> rfl
def wIaddrL (sz : Nat) (x : OW) (i : OW) : DC := fun _ w H k => sliK (fun a l => natK (fun n => @Bool.rec (fun _ => Option Q) none (atP (fun b j => k (.ptr (some (b, Nat.add j (Nat.mul n sz)))) H) a) (Nat.blt n l)) (i w)) (x w)
theorem wIaddrL_eq {w : W} {F : Fr} (sz : Nat) {x : OW} {x_ : Opd} (hx : x w = ev F x_) {i : OW} {i_ : Opd} (hi : i w = ev F i_) (ce_ : CE) (H : Hp) (k : KV) : wIaddrL sz x i ce_ w H k = bindR k (doX (.iaddrL sz x_ i_) F H) := by
  unfold wIaddrL
  simp only [hx, hi]
  unfold doX
  simp only
  generalize ev F x_ = u
  generalize ev F i_ = v
  cases u <;> first | rfl | skip
  rename_i a sz' l c
  cases v <;> first | (cases a <;> rfl) | skip
  rename_i k' n
  cases n with
  | negSucc n => cases a <;> rfl
  | ofNat n =>
    cases a with
    | none => show @Bool.rec (fun _ => Option Q) none none (Nat.blt n l) = none; cases Nat.blt n l <;> rfl
    | some q => simp only [cond_eq_ite]; show @Bool.rec (fun _ => Option Q) none _ (Nat.blt n l) = _; cases Nat.blt n l <;> rfl
def wIdxS (x : OW) (i : OW) : DC := fun _ w H k => strK (fun l m => natK (fun n => @Bool.rec (fun _ => Option Q) none (k (.int .u8 (.ofNat (strAt m n))) H) (Nat.blt n l)) (i w)) (x w)
theorem wIdxS_eq {w : W} {F : Fr} {x : OW} {x_ : Opd} (hx : x w = ev F x_) {i : OW} {i_ : Opd} (hi : i w = ev F i_) (ce_ : CE) (H : Hp) (k : KV) : wIdxS x i ce_ w H k = bindR k (doX (.idxS x_ i_) F H) := by
  unfold wIdxS
  simp only [hx, hi]
  unfold doX
  simp only
  generalize ev F x_ = u
  generalize ev F i_ = v
  cases u <;> first | rfl | skip
  rename_i l m
  cases v <;> first | rfl | skip
  rename_i k' n
  cases n with
  | negSucc n => rfl
  | ofNat n => simp only [cond_eq_ite]; show @Bool.rec (fun _ => Option Q) none _ (Nat.blt n l) = _; cases Nat.blt n l <;> rfl
def wBuild (z : List V) (ps : W → List Pt) : DC := fun _ w H k => @Option.rec (List V) (fun _ => Option Q) none (fun l => k (.agg l) H) (fillF (ps w) z)
theorem wBuild_eq {w : W} {F : Fr} (z : List V) {ps : W → List Pt} {ps_ : List (Nat × Nat × Opd)} (hps : ps w = evP F ps_) (ce_ : CE) (H : Hp) (k : KV) : wBuild z ps ce_ w H k = bindR k (doX (.build z ps_) F H) := by
  unfold wBuild
  show @Option.rec (List V) (fun _ => Option Q) none _ (fillF (ps w) z) = bindR k (match fillP (ev F) ps_ z with | some cs => some (.agg cs, H) | none => none)
  rw [fillF_eq, hps, fillV_eq]
  cases fillP (ev F) ps_ z <;> rfl
def wBslice (sz : Nat) (z : List V) (l : Nat) (ps : W → List Pt) : DC := fun _ w H k => @Option.rec (List V) (fun _ => Option Q) none (fun cs => @Bool.rec (fun _ => Option Q) none (k (.slice (some (H.next, 0)) sz l (some l)) (newRowF H cs (Nat.ble 1 (lenF cs)))) (onesF cs)) (fillF (ps w) z)
theorem wBslice_eq {w : W} {F : Fr} (sz : Nat) (z : List V) (l : Nat) {ps : W → List Pt} {ps_ : List (Nat × Nat × Opd)} (hps : ps w = evP F ps_) (ce_ : CE) (H : Hp) (k : KV) : wBslice sz z l ps ce_ w H k = bindR k (doX (.bslice sz z l ps_) F H) := by
  unfold wBslice
  simp only [hps, fillF_eq, fillV_eq, onesF_eq, newRowF_eq, lenF_eq]
  unfold doX
  simp only
  cases fillP (ev F) ps_ z with
  | none => rfl
  | some cs => simp only [cond_eq_ite]; cases cs.all V.one <;> rfl
def wMkiface (t : Nat) (x : OW) : DC := fun _ w H k => k (.iface t (x w)) H
theorem wMkiface_eq {w : W} {F : Fr} (t : Nat) {x : OW} {x_ : Opd} (hx : x w = ev F x_) (ce_ : CE) (H : Hp) (k : KV) : wMkiface t x ce_ w H k = bindR k (doX (.mkiface t x_) F H) := by
  unfold wMkiface
  rw [hx]; rfl
def wMkfunc (fn : Fn) (a : W → List V) (b : W → List V) : DC := fun _ w H k => k (.func fn (a w) (b w)) H
theorem wMkfunc_eq {w : W} {F : Fr} (fn : Fn) {a : W → List V} {a_ : List Opd} (ha : a w = a_.map (ev F)) {b : W → List V} {b_ : List Opd} (hb : b w = b_.map (ev F)) (ce_ : CE) (H : Hp) (k : KV) : wMkfunc fn a b ce_ w H k = bindR k (doX (.mkfunc fn a_ b_) F H) := by
  unfold wMkfunc
  rw [ha, hb]; rfl
def wBin (op : BinOp) (x y : OW) : DC := fun _ w H k => bin2 (x w) k H (bInt op) (bStr op) (y w)
def isSh : BinOp → Bool | .shl | .shr => true | _ => false
theorem wBin_eq {w : W} {F : Fr} {op : BinOp} (hs : isSh op = false) {x : OW} {x_ : Opd} (hx : x w = ev F x_) {y : OW} {y_ : Opd} (hy : y w = ev F y_) (c : CE) (H : Hp) (k : KV) : wBin op x y c w H k = bindR k (doX (.bin op x_ y_) F H) := by
  unfold wBin doX bin2
  simp only [hx, hy]
  generalize ev F x_ = u
  generalize ev F y_ = v
  cases u <;> cases v <;> cases op <;> first
    | rfl
    | (cases hs; done)
    | (simp only [binIV, kindF_eq, bInt_eq, someK_eq]; rename_i i a j b; cases decide (i = j) <;> rfl)
    | (simp only [binSV, bStr_eq, someK_eq]; rfl)
    | (simp only [binSV, bStr_eq, someK_eq])
def rBin (op : BinOp) (x y : V) (H : Hp) : R := match op, x, y with
    | .shl, .int k a, .int _ b => (match shI op k a b with | some v => some (v, H) | none => none)
    | .shr, .int k a, .int _ b => (match shI op k a b with | some v => some (v, H) | none => none)
    | _, .int k a, .int j b => bif decide (k = j) then (match binI op k a b with | some v => some (v, H) | none => none) else none
    | _, .str la a, .str lb b => (match binS op la a lb b with | some v => some (v, H) | none => none)
    | _, _, _ => none
def wSh (op : BinOp) (x y : OW) : DC := fun _ w H k => bindR k (rBin op (x w) (y w) H)
theorem wSh_eq {w : W} {F : Fr} (op : BinOp) {x : OW} {x_ : Opd} (hx : x w = ev F x_) {y : OW} {y_ : Opd} (hy : y w = ev F y_) (c : CE) (H : Hp) (k : KV) : wSh op x y c w H k = bindR k (doX (.bin op x_ y_) F H) := by
  unfold wSh
  rw [hx, hy]
  rfl
def binC (op : BinOp) : OW → OW → DC := match isSh op with | true => wSh op | false => wBin op
def rEq (neg : Bool) (k : EqK) (x : V) (y : V) (H : Hp) : R := match eqV H k x y with | some b => some (.bool (bif neg then not b else b), H) | none => none
def wEq (neg : Bool) (k : EqK) (x : OW) (y : OW) : DC := fun _ w H k_ => bindR k_ (rEq neg k (x w) (y w) H)
theorem wEq_eq {w : W} {F : Fr} (neg : Bool) (k : EqK) {x : OW} {x_ : Opd} (hx : x w = ev F x_) {y : OW} {y_ : Opd} (hy : y w = ev F y_) (ce_ : CE) (H : Hp) (k_ : KV) : wEq neg k x y ce_ w H k_ = bindR k_ (doX (.eq neg k x_ y_) F H) := by
  unfold wEq
  rw [hx, hy]
  rfl
def rToInt (k : IntKind) (x : V) (H : Hp) : R := match x with | .int _ n => some (.int k (wrapI k n), H) | _ => none
def wToInt (k : IntKind) (x : OW) : DC := fun _ w H k_ => bindR k_ (rToInt k (x w) H)
theorem wToInt_eq {w : W} {F : Fr} (k : IntKind) {x : OW} {x_ : Opd} (hx : x w = ev F x_) (ce_ : CE) (H : Hp) (k_ : KV) : wToInt k x ce_ w H k_ = bindR k_ (doX (.toInt k x_) F H) := by
  unfold wToInt
  rw [hx]
  rfl
def rSame (x : V) (H : Hp) : R := match x with | .str l n => some (.str l n, H) | _ => none
def wSame (x : OW) : DC := fun _ w H k_ => bindR k_ (rSame (x w) H)
theorem wSame_eq {w : W} {F : Fr} {x : OW} {x_ : Opd} (hx : x w = ev F x_) (ce_ : CE) (H : Hp) (k_ : KV) : wSame x ce_ w H k_ = bindR k_ (doX (.same x_) F H) := by
  unfold wSame
  rw [hx]
  rfl
def rToBytes (x : V) (H : Hp) : R := match x with
    | .str l n => bif Nat.ble l most then some (.slice (some (H.next, 0)) 1 l none, H.newRow (asBytes n l 0) false) else none
    | _ => none
def wToBytes (x : OW) : DC := fun _ w H k_ => bindR k_ (rToBytes (x w) H)
theorem wToBytes_eq {w : W} {F : Fr} {x : OW} {x_ : Opd} (hx : x w = ev F x_) (ce_ : CE) (H : Hp) (k_ : KV) : wToBytes x ce_ w H k_ = bindR k_ (doX (.toBytes x_) F H) := by
  unfold wToBytes
  rw [hx]
  rfl
def rToStr (x : V) (H : Hp) : R := match x with
    | .slice none _ _ _ => some (.str 0 0, H)
    | .slice (some (b, i)) _ l _ => (match H.loadn b i l with | some vs => (match digitsOf vs with | some n => some (.str l n, H) | none => none) | none => none)
    | _ => none
def wToStr (x : OW) : DC := fun _ w H k_ => bindR k_ (rToStr (x w) H)
theorem wToStr_eq {w : W} {F : Fr} {x : OW} {x_ : Opd} (hx : x w = ev F x_) (ce_ : CE) (H : Hp) (k_ : KV) : wToStr x ce_ w H k_ = bindR k_ (doX (.toStr x_) F H) := by
  unfold wToStr
  rw [hx]
  rfl
def rRuneStr (x : V) (H : Hp) : R := match x with
    | .int _ (.ofNat a) => bif Nat.blt a 128 then some (.str 1 a, H) else none
    | _ => none
def wRuneStr (x : OW) : DC := fun _ w H k_ => bindR k_ (rRuneStr (x w) H)
theorem wRuneStr_eq {w : W} {F : Fr} {x : OW} {x_ : Opd} (hx : x w = ev F x_) (ce_ : CE) (H : Hp) (k_ : KV) : wRuneStr x ce_ w H k_ = bindR k_ (doX (.runeStr x_) F H) := by
  unfold wRuneStr
  rw [hx]
  rfl
def rMkmeth (fits : List (Nat × Nat × Option Nat)) (x : V) (H : Hp) : R := (match x with
    | .iface t v => (match fitOf fits t with | some (f, n) => (match recvX n v with | some u => some (.func (.func f) [u] [], H) | none => none) | none => none)
    | _ => none)
def wMkmeth (fits : List (Nat × Nat × Option Nat)) (x : OW) : DC := fun _ w H k_ => bindR k_ (rMkmeth fits (x w) H)
theorem wMkmeth_eq {w : W} {F : Fr} (fits : List (Nat × Nat × Option Nat)) {x : OW} {x_ : Opd} (hx : x w = ev F x_) (ce_ : CE) (H : Hp) (k_ : KV) : wMkmeth fits x ce_ w H k_ = bindR k_ (doX (.mkmeth fits x_) F H) := by
  unfold wMkmeth
  rw [hx]
  rfl
def rMkmap  (H : Hp) : R := some (.map (some H.next), H.new (.map [] 0))
def wMkmap  : DC := fun _ w H k_ => bindR k_ (rMkmap  H)
theorem wMkmap_eq {w : W} {F : Fr}  (ce_ : CE) (H : Hp) (k_ : KV) : wMkmap  ce_ w H k_ = bindR k_ (doX (.mkmap) F H) := by
  unfold wMkmap
  rfl
def rMkslice (z : List V) (l : V) (c : V) (H : Hp) : R := match l, c with
    | .int _ (.ofNat a), .int _ (.ofNat b) =>
      bif Nat.ble a b && Nat.ble b most then some (.slice (some (H.next, 0)) z.length a (some b), H.newRow (List.replicate b z).flatten (Nat.ble 1 b)) else none
    | _, _ => none
def wMkslice (z : List V) (l : OW) (c : OW) : DC := fun _ w H k_ => bindR k_ (rMkslice z (l w) (c w) H)
theorem wMkslice_eq {w : W} {F : Fr} (z : List V) {l : OW} {l_ : Opd} (hl : l w = ev F l_) {c : OW} {c_ : Opd} (hc : c w = ev F c_) (ce_ : CE) (H : Hp) (k_ : KV) : wMkslice z l c ce_ w H k_ = bindR k_ (doX (.mkslice z l_ c_) F H) := by
  unfold wMkslice
  rw [hl, hc]
  rfl
def rSliceS (x : V) (lo : Option V) (hi : Option V) (H : Hp) : R := match x with
    | .str l n => (match bndV hi l l with
      | some h => (match bndV lo h 0 with | some a => some (.str (h - a) (strCut n a h), H) | none => none)
      | none => none)
    | _ => none
def wSliceS (x : OW) (lo : W → Option V) (hi : W → Option V) : DC := fun _ w H k_ => bindR k_ (rSliceS (x w) (lo w) (hi w) H)
theorem wSliceS_eq {w : W} {F : Fr} {x : OW} {x_ : Opd} (hx : x w = ev F x_) {lo : W → Option V} {lo_ : Option Opd} (hlo : lo w = lo_.map (ev F)) {hi : W → Option V} {hi_ : Option Opd} (hhi : hi w = hi_.map (ev F)) (ce_ : CE) (H : Hp) (k_ : KV) : wSliceS x lo hi ce_ w H k_ = bindR k_ (doX (.sliceS x_ lo_ hi_) F H) := by
  unfold wSliceS
  rw [hx, hlo, hhi]
  unfold rSliceS doX
  simp only [bndV_eq, isSome_map]
  rfl
def rSliceL (sz : Nat) (x : V) (lo : Option V) (hi : Option V) (mx : Option V) (H : Hp) : R := match x with
    | .slice a sz' l c => bif not (Nat.beq sz sz' || a.isNone) then none else
      let top := c.getD l
      (match bndV mx top top with
      | some m => (match bndV hi (bif mx.isSome then m else top) l with
        | some h => (match bndV lo h 0 with
          | some b =>
            let c' := newCap mx.isSome m b c
            (match a with
            | none => some (.slice none 0 0 (some 0), H)
            | some (p, i) => some (.slice (some (p, i + b * sz)) sz (h - b) c', H))
          | none => none)
        | none => none)
      | none => none)
    | _ => none
def wSliceL (sz : Nat) (x : OW) (lo : W → Option V) (hi : W → Option V) (mx : W → Option V) : DC := fun _ w H k_ => bindR k_ (rSliceL sz (x w) (lo w) (hi w) (mx w) H)
theorem wSliceL_eq {w : W} {F : Fr} (sz : Nat) {x : OW} {x_ : Opd} (hx : x w = ev F x_) {lo : W → Option V} {lo_ : Option Opd} (hlo : lo w = lo_.map (ev F)) {hi : W → Option V} {hi_ : Option Opd} (hhi : hi w = hi_.map (ev F)) {mx : W → Option V} {mx_ : Option Opd} (hmx : mx w = mx_.map (ev F)) (ce_ : CE) (H : Hp) (k_ : KV) : wSliceL sz x lo hi mx ce_ w H k_ = bindR k_ (doX (.sliceL sz x_ lo_ hi_ mx_) F H) := by
  unfold wSliceL
  rw [hx, hlo, hhi, hmx]
  unfold rSliceL doX
  simp only [bndV_eq, isSome_map]
  rfl
def rSliceA (n : Nat) (sz : Nat) (x : V) (lo : Option V) (hi : Option V) (mx : Option V) (H : Hp) : R := match x with
    | .ptr (some (p, i)) =>
      (match H.get p with
      | some (.cells c _ _) => bif allIn c (n * sz) i then
        (match bndV mx n n with
        | some m => (match bndV hi (bif mx.isSome then m else n) n with
          | some h => (match bndV lo h 0 with
            | some b => some (.slice (some (p, i + b * sz)) sz (h - b) (some (m - b)), H)
            | none => none)
          | none => none)
        | none => none) else none
      | _ => none)
    | _ => none
def wSliceA (n : Nat) (sz : Nat) (x : OW) (lo : W → Option V) (hi : W → Option V) (mx : W → Option V) : DC := fun _ w H k_ => bindR k_ (rSliceA n sz (x w) (lo w) (hi w) (mx w) H)
theorem wSliceA_eq {w : W} {F : Fr} (n : Nat) (sz : Nat) {x : OW} {x_ : Opd} (hx : x w = ev F x_) {lo : W → Option V} {lo_ : Option Opd} (hlo : lo w = lo_.map (ev F)) {hi : W → Option V} {hi_ : Option Opd} (hhi : hi w = hi_.map (ev F)) {mx : W → Option V} {mx_ : Option Opd} (hmx : mx w = mx_.map (ev F)) (ce_ : CE) (H : Hp) (k_ : KV) : wSliceA n sz x lo hi mx ce_ w H k_ = bindR k_ (doX (.sliceA n sz x_ lo_ hi_ mx_) F H) := by
  unfold wSliceA
  rw [hx, hlo, hhi, hmx]
  unfold rSliceA doX
  simp only [bndV_eq, isSome_map]
  rfl
def rField (off : Nat) (sz : Option Nat) (x : V) (H : Hp) : R := match x with
    | .agg cs => (match sz with
      | none => (match cs[off]? with | some v => some (v, H) | none => none)
      | some n => some (.agg ((cs.drop off).take n), H))
    | _ => none
def wField (off : Nat) (sz : Option Nat) (x : OW) : DC := fun _ w H k_ => bindR k_ (rField off sz (x w) H)
theorem wField_eq {w : W} {F : Fr} (off : Nat) (sz : Option Nat) {x : OW} {x_ : Opd} (hx : x w = ev F x_) (ce_ : CE) (H : Hp) (k_ : KV) : wField off sz x ce_ w H k_ = bindR k_ (doX (.field off sz x_) F H) := by
  unfold wField
  rw [hx]
  rfl
def rIaddrA (n : Nat) (sz : Nat) (x : V) (i : V) (H : Hp) : R := match x, i with
    | .ptr (some (b, j)), .int _ (.ofNat a) => bif Nat.blt a n then some (.ptr (some (b, Nat.add j (Nat.mul a sz))), H) else none
    | _, _ => none
def wIaddrA (n : Nat) (sz : Nat) (x : OW) (i : OW) : DC := fun _ w H k_ => bindR k_ (rIaddrA n sz (x w) (i w) H)
theorem wIaddrA_eq {w : W} {F : Fr} (n : Nat) (sz : Nat) {x : OW} {x_ : Opd} (hx : x w = ev F x_) {i : OW} {i_ : Opd} (hi : i w = ev F i_) (ce_ : CE) (H : Hp) (k_ : KV) : wIaddrA n sz x i ce_ w H k_ = bindR k_ (doX (.iaddrA n sz x_ i_) F H) := by
  unfold wIaddrA
  rw [hx, hi]
  rfl
def rIdxA (n : Nat) (sz : Nat) (agg : Bool) (x : V) (i : V) (H : Hp) : R := match x, i with
    | .agg cs, .int _ (.ofNat a) => bif Nat.blt a n then (bif agg then some (.agg ((cs.drop (a * sz)).take sz), H) else (match cs[a * sz]? with | some v => some (v, H) | none => none)) else none
    | _, _ => none
def wIdxA (n : Nat) (sz : Nat) (agg : Bool) (x : OW) (i : OW) : DC := fun _ w H k_ => bindR k_ (rIdxA n sz agg (x w) (i w) H)
theorem wIdxA_eq {w : W} {F : Fr} (n : Nat) (sz : Nat) (agg : Bool) {x : OW} {x_ : Opd} (hx : x w = ev F x_) {i : OW} {i_ : Opd} (hi : i w = ev F i_) (ce_ : CE) (H : Hp) (k_ : KV) : wIdxA n sz agg x i ce_ w H k_ = bindR k_ (doX (.idxA n sz agg x_ i_) F H) := by
  unfold wIdxA
  rw [hx, hi]
  rfl
def rLookup (z : V) (k : EqK) (m : V) (key : V) (ok : Bool) (H : Hp) : R := bif not (keyShape k key) then none else match m with
    | .map none => some (bif ok then .tuple [z, .bool false] else z, H)
    | .map (some r) => (match getB r H.t with
      | some (.map es _) => (match findF H k key es with
        | some (some (_, v, _)) => some (bif ok then .tuple [v, .bool true] else v, H)
        | some none => some (bif ok then .tuple [z, .bool false] else z, H)
        | none => none)
      | _ => none)
    | _ => none
def wLookup (z : V) (k : EqK) (m : OW) (key : OW) (ok : Bool) : DC := fun _ w H k_ => bindR k_ (rLookup z k (m w) (key w) ok H)
theorem wLookup_eq {w : W} {F : Fr} (z : V) (k : EqK) {m : OW} {m_ : Opd} (hm : m w = ev F m_) {key : OW} {key_ : Opd} (hkey : key w = ev F key_) (ok : Bool) (ce_ : CE) (H : Hp) (k_ : KV) : wLookup z k m key ok ce_ w H k_ = bindR k_ (doX (.lookup z k m_ key_ ok) F H) := by
  unfold wLookup
  rw [hm, hkey]
  unfold rLookup doX
  simp only [findF_eq, getB_eq, setF_eq, appE_eq]
  rfl
def rMapset (k : EqK) (m : V) (key : V) (v : V) (H : Hp) : R := bif not (keyShape k key) then none else match m with
    | .map (some r) => (match getB r H.t with
      | some (.map es cl) => (match findF H k key es with
        | some (some (i, _, b)) => bif keySame k key es i then some (V.undef, setF H r (.map (listSet (key, v, b) i es) cl)) else none
        | some none => some (V.undef, setF H r (.map (appE es [(key, v, cl)]) (cl + 1)))
        | none => none)
      | _ => none)
    | _ => none
def wMapset (k : EqK) (m : OW) (key : OW) (v : OW) : DC := fun _ w H k_ => bindR k_ (rMapset k (m w) (key w) (v w) H)
theorem wMapset_eq {w : W} {F : Fr} (k : EqK) {m : OW} {m_ : Opd} (hm : m w = ev F m_) {key : OW} {key_ : Opd} (hkey : key w = ev F key_) {v : OW} {v_ : Opd} (hv : v w = ev F v_) (ce_ : CE) (H : Hp) (k_ : KV) : wMapset k m key v ce_ w H k_ = bindR k_ (doX (.mapset k m_ key_ v_) F H) := by
  unfold wMapset
  rw [hm, hkey, hv]
  unfold rMapset doX
  simp only [findF_eq, getB_eq, setF_eq, appE_eq]
  rfl
def rMapent (z : V) (k : EqK) (m : V) (key : V) (H : Hp) : R := match m with
    | .map (some r) => (match H.get r with
      | some (.map es cl) => (match findK H k key es 0 with
        | some (some (i, v, b)) => some (.tuple [v, .int .i64 (.ofNat b)], H.set r (.map (listSet (key, v, b) i es) cl))
        | some none => some (.tuple [z, .int .i64 (.ofNat cl)], H.set r (.map (es ++ [(key, z, cl)]) (cl + 1)))
        | none => none)
      | _ => none)
    | _ => none
def wMapent (z : V) (k : EqK) (m : OW) (key : OW) : DC := fun _ w H k_ => bindR k_ (rMapent z k (m w) (key w) H)
theorem wMapent_eq {w : W} {F : Fr} (z : V) (k : EqK) {m : OW} {m_ : Opd} (hm : m w = ev F m_) {key : OW} {key_ : Opd} (hkey : key w = ev F key_) (ce_ : CE) (H : Hp) (k_ : KV) : wMapent z k m key ce_ w H k_ = bindR k_ (doX (.mapent z k m_ key_) F H) := by
  unfold wMapent
  rw [hm, hkey]
  rfl
def rEntset (m : V) (s : V) (v : V) (H : Hp) : R := match m, s with
    | .map (some r), .int _ (.ofNat b) => (match H.get r with
      | some (.map es cl) => (match es.findIdx? (fun e => Nat.beq e.2.2 b) with
        | some i => (match es[i]? with | some e => some (V.undef, H.set r (.map (listSet (e.1, v, e.2.2) i es) cl)) | none => none)
        | none => none)
      | _ => none)
    | _, _ => none
def wEntset (m : OW) (s : OW) (v : OW) : DC := fun _ w H k_ => bindR k_ (rEntset (m w) (s w) (v w) H)
theorem wEntset_eq {w : W} {F : Fr} {m : OW} {m_ : Opd} (hm : m w = ev F m_) {s : OW} {s_ : Opd} (hs : s w = ev F s_) {v : OW} {v_ : Opd} (hv : v w = ev F v_) (ce_ : CE) (H : Hp) (k_ : KV) : wEntset m s v ce_ w H k_ = bindR k_ (doX (.entset m_ s_ v_) F H) := by
  unfold wEntset
  rw [hm, hs, hv]
  rfl
def rMapdel (k : EqK) (m : V) (key : V) (H : Hp) : R := match m with
    | .map none => some (V.undef, H)
    | .map (some r) => (match H.get r with
      | some (.map es cl) => (match findK H k key es 0 with
        | some (some (i, _, _)) => some (V.undef, H.set r (.map (es.eraseIdx i) cl))
        | some none => some (V.undef, H)
        | none => none)
      | _ => none)
    | _ => none
def wMapdel (k : EqK) (m : OW) (key : OW) : DC := fun _ w H k_ => bindR k_ (rMapdel k (m w) (key w) H)
theorem wMapdel_eq {w : W} {F : Fr} (k : EqK) {m : OW} {m_ : Opd} (hm : m w = ev F m_) {key : OW} {key_ : Opd} (hkey : key w = ev F key_) (ce_ : CE) (H : Hp) (k_ : KV) : wMapdel k m key ce_ w H k_ = bindR k_ (doX (.mapdel k m_ key_) F H) := by
  unfold wMapdel
  rw [hm, hkey]
  rfl
def rRangeS (x : V) (H : Hp) : R := match x with | .str l n => some (.ptr (some (H.next, 0)), H.new (.siter l n 0)) | _ => none
def wRangeS (x : OW) : DC := fun _ w H k_ => bindR k_ (rRangeS (x w) H)
theorem wRangeS_eq {w : W} {F : Fr} {x : OW} {x_ : Opd} (hx : x w = ev F x_) (ce_ : CE) (H : Hp) (k_ : KV) : wRangeS x ce_ w H k_ = bindR k_ (doX (.rangeS x_) F H) := by
  unfold wRangeS
  rw [hx]
  rfl
def rNextS (x : V) (H : Hp) : R := match x with
    | .ptr (some (r, 0)) => (match H.get r with
      | some (.siter l n pos) =>
        bif Nat.blt pos l then (match strStep l n pos with
          | some (c, w) => some (.tuple [.bool true, .int .i64 (.ofNat pos), .int .i32 (.ofNat c)], H.set r (.siter l n (pos + w)))
          | none => none)
        else some (.tuple [.bool false], H)
      | _ => none)
    | _ => none
def wNextS (x : OW) : DC := fun _ w H k_ => bindR k_ (rNextS (x w) H)
theorem wNextS_eq {w : W} {F : Fr} {x : OW} {x_ : Opd} (hx : x w = ev F x_) (ce_ : CE) (H : Hp) (k_ : KV) : wNextS x ce_ w H k_ = bindR k_ (doX (.nextS x_) F H) := by
  unfold wNextS
  rw [hx]
  rfl
def rTassert (t : Nat) (z : V) (ok : Bool) (x : V) (H : Hp) : R := match x with
    | .iface t' v => bif Nat.beq t t' then some (bif ok then .tuple [v, .bool true] else v, H) else bif ok then some (.tuple [z, .bool false], H) else none
    | .nilIface => bif ok then some (.tuple [z, .bool false], H) else none
    | _ => none
def wTassert (t : Nat) (z : V) (ok : Bool) (x : OW) : DC := fun _ w H k_ => bindR k_ (rTassert t z ok (x w) H)
theorem wTassert_eq {w : W} {F : Fr} (t : Nat) (z : V) (ok : Bool) {x : OW} {x_ : Opd} (hx : x w = ev F x_) (ce_ : CE) (H : Hp) (k_ : KV) : wTassert t z ok x ce_ w H k_ = bindR k_ (doX (.tassert t z ok x_) F H) := by
  unfold wTassert
  rw [hx]
  rfl
def rCap (x : V) (H : Hp) : R := match x with | .slice _ _ _ (some c) => some (.int .i64 (.ofNat c), H) | _ => none
def wCap (x : OW) : DC := fun _ w H k_ => bindR k_ (rCap (x w) H)
theorem wCap_eq {w : W} {F : Fr} {x : OW} {x_ : Opd} (hx : x w = ev F x_) (ce_ : CE) (H : Hp) (k_ : KV) : wCap x ce_ w H k_ = bindR k_ (doX (.cap x_) F H) := by
  unfold wCap
  rw [hx]
  rfl
def rAppend (sz : Nat) (x : V) (y : V) (H : Hp) : R := appendF H sz x y
def wAppend (sz : Nat) (x : OW) (y : OW) : DC := fun _ w H k_ => bindR k_ (rAppend sz (x w) (y w) H)
theorem wAppend_eq {w : W} {F : Fr} (sz : Nat) {x : OW} {x_ : Opd} (hx : x w = ev F x_) {y : OW} {y_ : Opd} (hy : y w = ev F y_) (ce_ : CE) (H : Hp) (k_ : KV) : wAppend sz x y ce_ w H k_ = bindR k_ (doX (.append sz x_ y_) F H) := by
  unfold wAppend
  rw [hx, hy]
  unfold rAppend; rw [appendF_eq]; rfl
def rAppendz (z : List V) (x : V) (n : V) (H : Hp) : R := match n with | .int _ (.ofNat m) => bif Nat.ble m most then appendL H z.length x (List.replicate m z).flatten m else none | _ => none
def wAppendz (z : List V) (x : OW) (n : OW) : DC := fun _ w H k_ => bindR k_ (rAppendz z (x w) (n w) H)
theorem wAppendz_eq {w : W} {F : Fr} (z : List V) {x : OW} {x_ : Opd} (hx : x w = ev F x_) {n : OW} {n_ : Opd} (hn : n w = ev F n_) (ce_ : CE) (H : Hp) (k_ : KV) : wAppendz z x n ce_ w H k_ = bindR k_ (doX (.appendz z x_ n_) F H) := by
  unfold wAppendz
  rw [hx, hn]
  rfl
def rCopy (sz : Nat) (x : V) (y : V) (H : Hp) : R := copyX H sz x y
def wCopy (sz : Nat) (x : OW) (y : OW) : DC := fun _ w H k_ => bindR k_ (rCopy sz (x w) (y w) H)
theorem wCopy_eq {w : W} {F : Fr} (sz : Nat) {x : OW} {x_ : Opd} (hx : x w = ev F x_) {y : OW} {y_ : Opd} (hy : y w = ev F y_) (ce_ : CE) (H : Hp) (k_ : KV) : wCopy sz x y ce_ w H k_ = bindR k_ (doX (.copy sz x_ y_) F H) := by
  unfold wCopy
  rw [hx, hy]
  rfl
def rMin (xs : List V) (H : Hp) : R := match xs with | [] => none | x :: r => (match mmV false r x with | some v => some (v, H) | none => none)
def wMin (xs : W → List V) : DC := fun _ w H k_ => bindR k_ (rMin (xs w) H)
theorem wMin_eq {w : W} {F : Fr} {xs : W → List V} {xs_ : List Opd} (hxs : xs w = xs_.map (ev F)) (ce_ : CE) (H : Hp) (k_ : KV) : wMin xs ce_ w H k_ = bindR k_ (doX (.min xs_) F H) := by
  unfold wMin
  rw [hxs]
  cases xs_ with
  | nil => rfl
  | cons x r =>
    show bindR k_ (match mmV false (r.map (ev F)) (ev F x) with | some v => some (v, H) | none => none) = _
    rw [mmV_eq]; rfl
def rMax (xs : List V) (H : Hp) : R := match xs with | [] => none | x :: r => (match mmV true r x with | some v => some (v, H) | none => none)
def wMax (xs : W → List V) : DC := fun _ w H k_ => bindR k_ (rMax (xs w) H)
theorem wMax_eq {w : W} {F : Fr} {xs : W → List V} {xs_ : List Opd} (hxs : xs w = xs_.map (ev F)) (ce_ : CE) (H : Hp) (k_ : KV) : wMax xs ce_ w H k_ = bindR k_ (doX (.max xs_) F H) := by
  unfold wMax
  rw [hxs]
  cases xs_ with
  | nil => rfl
  | cons x r =>
    show bindR k_ (match mmV true (r.map (ev F)) (ev F x) with | some v => some (v, H) | none => none) = _
    rw [mmV_eq]; rfl
def wCall (f : P) (a : W → List V) : DC := fun c w H k => c.call f (a w) H k
def dynK (c : CE) (H : Hp) (args : List V) (k : KV) (v : V) : Option Q := match fnArgs v args with | some (f, l) => c.call f l H k | none => none
def wDyn (f : OW) (a : W → List V) : DC := fun c w H k => dynK c H (a w) k (f w)
def dfrK (c : CE) (H : Hp) (args : List V) (k : KV) (v : V) : Option Q := match fnArgs v args with | some (g, l) => (bif c.idle g l.length then k V.undef H else none) | none => none
def wDfr (f : OW) (a : W → List V) : DC := fun c w H k => dfrK c H (a w) k (f w)
def invK (c : CE) (fits : List (Nat × Nat × Option Nat)) (args : List V) (H : Hp) (k : KV) (v : V) : Option Q := match v with
  | .iface t v => (match fitOf fits t with | some (f, n) => (match recvX n v with | some u => c.call (P.of f) (u :: args) H k | none => none) | none => none)
  | _ => none
def wInvoke (fits : List (Nat × Nat × Option Nat)) (x : OW) (a : W → List V) : DC := fun c w H k => invK c fits (a w) H k (x w)
def wBad : DC := fun _ _ _ _ => none
def trD : XO → DC
  | .mv a0 => wMv (trO a0)
  | .pick a0 a1 a2 => wPick (trO a0) (trO a1) (trO a2)
  | .new a0 => wNew a0
  | .box a0 a1 => wBox a0 (trO a1)
  | .build a0 a1 => wBuild a0 (trP a1)
  | .bslice a0 a1 a2 a3 => wBslice a0 a1 a2 (trP a3)
  | .load a0 => wLoad (trO a0)
  | .loadn a0 a1 => wLoadn a0 (trO a1)
  | .store a0 a1 a2 => wStore a0 (trO a1) (trO a2)
  | .nilck a0 => wNilck (trO a0)
  | .bin a0 a1 a2 => binC a0 (trO a1) (trO a2)
  | .eq a0 a1 a2 a3 => wEq a0 a1 (trO a2) (trO a3)
  | .un a0 a1 => wUn a0 (trO a1)
  | .toInt a0 a1 => wToInt a0 (trO a1)
  | .same a0 => wSame (trO a0)
  | .toBytes a0 => wToBytes (trO a0)
  | .toStr a0 => wToStr (trO a0)
  | .runeStr a0 => wRuneStr (trO a0)
  | .mkiface a0 a1 => wMkiface a0 (trO a1)
  | .mkmeth a0 a1 => wMkmeth a0 (trO a1)
  | .mkfunc a0 a1 a2 => wMkfunc a0 (trL a1) (trL a2)
  | .mkmap => wMkmap
  | .mkslice a0 a1 a2 => wMkslice a0 (trO a1) (trO a2)
  | .sliceS a0 a1 a2 => wSliceS (trO a0) (trQ a1) (trQ a2)
  | .sliceL a0 a1 a2 a3 a4 => wSliceL a0 (trO a1) (trQ a2) (trQ a3) (trQ a4)
  | .sliceA a0 a1 a2 a3 a4 a5 => wSliceA a0 a1 (trO a2) (trQ a3) (trQ a4) (trQ a5)
  | .faddr a0 a1 => wFaddr a0 (trO a1)
  | .field a0 a1 a2 => wField a0 a1 (trO a2)
  | .iaddrL a0 a1 a2 => wIaddrL a0 (trO a1) (trO a2)
  | .iaddrA a0 a1 a2 a3 => wIaddrA a0 a1 (trO a2) (trO a3)
  | .idxS a0 a1 => wIdxS (trO a0) (trO a1)
  | .idxA a0 a1 a2 a3 a4 => wIdxA a0 a1 a2 (trO a3) (trO a4)
  | .lookup a0 a1 a2 a3 a4 => wLookup a0 a1 (trO a2) (trO a3) a4
  | .mapset a0 a1 a2 a3 => wMapset a0 (trO a1) (trO a2) (trO a3)
  | .mapent a0 a1 a2 a3 => wMapent a0 a1 (trO a2) (trO a3)
  | .entset a0 a1 a2 => wEntset (trO a0) (trO a1) (trO a2)
  | .mapdel a0 a1 a2 => wMapdel a0 (trO a1) (trO a2)
  | .rangeS a0 => wRangeS (trO a0)
  | .nextS a0 => wNextS (trO a0)
  | .tassert a0 a1 a2 a3 => wTassert a0 a1 a2 (trO a3)
  | .ext a0 a1 => wExt a0 (trO a1)
  | .len a0 a1 => wLen a0 (trO a1)
  | .cap a0 => wCap (trO a0)
  | .append a0 a1 a2 => wAppend a0 (trO a1) (trO a2)
  | .appendz a0 a1 a2 => wAppendz a0 (trO a1) (trO a2)
  | .copy a0 a1 a2 => wCopy a0 (trO a1) (trO a2)
  | .min a0 => wMin (trL a0)
  | .max a0 => wMax (trL a0)
  | .call a0 a1 => wCall a0 (trL a1)
  | .dyn a0 a1 => wDyn (trO a0) (trL a1)
  | .dfr a0 a1 => wDfr (trO a0) (trL a1)
  | .invoke a0 a1 a2 => wInvoke a0 (trO a1) (trL a2)
  | .bad _ => wBad
def okD : XO → Bool
  | .mv a0 => okO a0
  | .pick a0 a1 a2 => okO a0 && okO a1 && okO a2
  | .new _ => true
  | .box _ a1 => okO a1
  | .build _ a1 => okP a1
  | .bslice _ _ _ a3 => okP a3
  | .load a0 => okO a0
  | .loadn _ a1 => okO a1
  | .store _ a1 a2 => okO a1 && okO a2
  | .nilck a0 => okO a0
  | .bin _ a1 a2 => okO a1 && okO a2
  | .eq _ _ a2 a3 => okO a2 && okO a3
  | .un _ a1 => okO a1
  | .toInt _ a1 => okO a1
  | .same a0 => okO a0
  | .toBytes a0 => okO a0
  | .toStr a0 => okO a0
  | .runeStr a0 => okO a0
  | .mkiface _ a1 => okO a1
  | .mkmeth _ a1 => okO a1
  | .mkfunc _ a1 a2 => a1.all okO && a2.all okO
  | .mkmap => true
  | .mkslice _ a1 a2 => okO a1 && okO a2
  | .sliceS a0 a1 a2 => okO a0 && okQ a1 && okQ a2
  | .sliceL _ a1 a2 a3 a4 => okO a1 && okQ a2 && okQ a3 && okQ a4
  | .sliceA _ _ a2 a3 a4 a5 => okO a2 && okQ a3 && okQ a4 && okQ a5
  | .faddr _ a1 => okO a1
  | .field _ _ a2 => okO a2
  | .iaddrL _ a1 a2 => okO a1 && okO a2
  | .iaddrA _ _ a2 a3 => okO a2 && okO a3
  | .idxS a0 a1 => okO a0 && okO a1
  | .idxA _ _ _ a3 a4 => okO a3 && okO a4
  | .lookup _ _ a2 a3 _ => okO a2 && okO a3
  | .mapset _ a1 a2 a3 => okO a1 && okO a2 && okO a3
  | .mapent _ _ a2 a3 => okO a2 && okO a3
  | .entset a0 a1 a2 => okO a0 && okO a1 && okO a2
  | .mapdel _ a1 a2 => okO a1 && okO a2
  | .rangeS a0 => okO a0
  | .nextS a0 => okO a0
  | .tassert _ _ _ a3 => okO a3
  | .ext _ a1 => okO a1
  | .len _ a1 => okO a1
  | .cap a0 => okO a0
  | .append _ a1 a2 => okO a1 && okO a2
  | .appendz _ a1 a2 => okO a1 && okO a2
  | .copy _ a1 a2 => okO a1 && okO a2
  | .min a0 => a0.all okO
  | .max a0 => a0.all okO
  | .call _ a1 => a1.all okO
  | .dyn a0 a1 => okO a0 && a1.all okO
  | .dfr a0 a1 => okO a0 && a1.all okO
  | .invoke _ a1 a2 => okO a1 && a2.all okO
  | .bad _ => true

/-! ## Code -/
abbrev C := Nat → CE → W → Hp → KW → Option Q
def wantV : Bool → V → Option Bool := fun b v => match v with | .bool x => some (x == b) | .sym _ => none | _ => some false
def gdK (x y : Option Q) : Option Bool → Option Q := @Option.rec Bool (fun _ => Option Q) none (@Bool.rec (fun _ => Option Q) y x)
def skC : C := fun _ _ w H k => k w H
def opC (pt : V → W → W) (d : DC) (r : C) : C := fun n c w H k => d c w H (fun v H => r n c (pt v w) H k)
def onC (d : DC) (r : C) : C := fun n c w H k => d c w H (fun _ H => r n c w H k)
def gdC (g : OW) (b : Bool) (pt : V → W → W) (d : DC) (r : C) : C := fun n c w H k => gdK (d c w H (fun v H => r n c (pt v w) H k)) (r n c (pt V.undef w) H k) (wantV b (g w))
def idW : V → W → W := fun _ w => w
def trPt : Option P → V → W → W | none => idW | some p => wput p.toNat
def okPt : Option P → Bool | none => true | some p => Nat.blt p.toNat 512
def trOps : List XOp → C
  | [] => skC
  | ⟨none, none, op⟩ :: r => onC (trD op) (trOps r)
  | ⟨none, some p, op⟩ :: r => opC (wput p.toNat) (trD op) (trOps r)
  | ⟨some (g, b), dst, op⟩ :: r => gdC (wget g.toNat) b (trPt dst) (trD op) (trOps r)
def okG : Option (P × Bool) → Bool | none => true | some (g, _) => Nat.blt g.toNat 512
def okOp (o : XOp) : Bool := okG o.g && okPt o.dst && okD o.op
/-- regions that draw -/
abbrev DrT := CE → W → Hp → Hp → List Hp → KW → Option Q
def dnil : DrT := fun _ w H _ _ k => k w H
def isS : Option Q → Bool := @Option.rec Q (fun _ => Bool) false (fun _ => true)
def rechk (c : CE) (w : W) (d : DC) (v : V) : Nat → List Hp → Bool := @Nat.rec (fun _ => List Hp → Bool) (fun _ => true)
  (fun _ ih => @List.rec Hp (fun _ => Bool) false (fun H r _ => @Bool.rec (fun _ => Bool) false (ih r) (isS (d c w H (fun u H' => bif sameV v u then some (.nrm, w, H') else none)))))
def apartW (w : W) : Option OW → Option OW → Bool
  | some x, some y => (match x w, y w with | .ptr (some (b, _)), .ptr (some (c, _)) => not (decide (b = c)) | _, _ => true)
  | _, _ => false
def doitW (chk : Nat) (wr : Bool) (pt : V → W → W) (d : DC) (st nx : Option OW) (rest : DrT) : DrT := fun c w H B Hs k =>
  d c w H (fun v H' => @Bool.rec (fun _ => Option Q) (@Bool.rec (fun _ => Option Q) none (rest c (pt v w) H' B Hs k) (rechk c w d v chk Hs))
    (@Bool.rec (fun _ => Option Q) none (rest c (pt v w) H' H' (B :: Hs) k) (andF (Nat.ble H.next.toNat H'.next.toNat) (@Bool.rec (fun _ => Bool) (apartW w st nx) true (Nat.beq chk 0)))) wr)
def skipW (wr : Bool) (pt : V → W → W) (rest : DrT) : DrT := fun c w H B Hs k => bif wr then rest c (pt V.undef w) H H (B :: Hs) k else rest c (pt V.undef w) H B Hs k
def dcG (g : OW) (b : Bool) (chk : Nat) (wr : Bool) (pt : V → W → W) (d : DC) (st nx : Option OW) (rest : DrT) : DrT := fun c w H B Hs k =>
  gdK (doitW chk wr pt d st nx rest c w H B Hs k) (skipW wr pt rest c w H B Hs k) (wantV b (g w))
def stO : XO → Option OW | .store _ x _ => some (trO x) | _ => none
def nxO : List (Nat × Bool × XOp) → Option OW | [] => none | (_, _, q) :: _ => stO q.op
def trDr : List (Nat × Bool × XOp) → DrT
  | [] => dnil
  | (chk, wr, ⟨none, dst, op⟩) :: r => doitW chk wr (trPt dst) (trD op) (stO op) (nxO r) (trDr r)
  | (chk, wr, ⟨some (g, b), dst, op⟩) :: r => dcG (wget g.toNat) b chk wr (trPt dst) (trD op) (stO op) (nxO r) (trDr r)
def okDr : List (Nat × Bool × XOp) → Bool
  | [] => true
  | (chk, _, o) :: r => okOp o && (Nat.beq chk 0 || o.op.plain) && okDr r
def drC (d : DrT) : C := fun _ c w H k => d c w H H [] k
def seqQ (k : KW) : Option Q → Option Q := @Option.rec Q (fun _ => Option Q) none (@Prod.rec XE (W × Hp) (fun _ => Option Q) (@XE.rec (fun _ => W × Hp → Option Q) (@Prod.rec W Hp (fun _ => Option Q) k) (fun id q => some (.exit id, q)) (fun q => some (.ret, q))))
def blkK (id : Nat) (k : KW) : Option Q → Option Q := @Option.rec Q (fun _ => Option Q) none (@Prod.rec XE (W × Hp) (fun _ => Option Q) (@XE.rec (fun _ => W × Hp → Option Q) (@Prod.rec W Hp (fun _ => Option Q) k) (fun j q => @Bool.rec (fun _ => Option Q) (some (.exit j, q)) (@Prod.rec W Hp (fun _ => Option Q) k q) (Nat.beq j id)) (fun q => some (.ret, q))))
def doneK : KW := fun w H => some (.nrm, w, H)
def condK (x y : Option Q) : Option Bool → Option Q := @Option.rec Bool (fun _ => Option Q) none (@Bool.rec (fun _ => Option Q) y x)
def sqC (a b : C) : C := fun n c w H k => a n c w H (fun w H => b n c w H k)
def cnC (x : OW) (a b : C) : C := fun n c w H k => condK (a n c w H k) (b n c w H k) (boolA (x w))
def bkC (id : Nat) (b : C) : C := fun n c w H k => blkK id k (b n c w H doneK)
def lpN (b : C) (n : Nat) (c : CE) : Nat → KW := @Nat.rec (fun _ => KW) (fun _ _ => none) (fun _ again w H => b n c w H again)
def lpC (b : C) : C := fun n c w H _ => lpN b n c n w H
def exC (id : Nat) : C := fun _ _ w H _ => some (.exit id, w, H)
def rtC : C := fun _ _ w H _ => some (.ret, w, H)
def bdC : C := fun _ _ _ _ _ => none
def trC : XC → C
  | .skip => skC
  | .ops l => trOps l
  | .draw l => drC (trDr l)
  | .seq a b => sqC (trC a) (trC b)
  | .cond x a b => cnC (trO x) (trC a) (trC b)
  | .block id b => bkC id (trC b)
  | .loop b => lpC (trC b)
  | .exit id => exC id
  | .ret => rtC
  | .bad _ => bdC
def okC : XC → Bool
  | .ops l => l.all okOp
  | .draw l => okDr l
  | .seq a b => okC a && okC b
  | .cond x a b => okO x && okC a && okC b
  | .block _ b => okC b
  | .loop b => okC b
  | _ => true
/-! ## Functions -/
abbrev RT := W → Hp → Option V
abbrev RL := W → Hp → Option (List V)
def ptrK (f : P → Nat → Option V) : Option (P × Nat) → Option V := @Option.rec (P × Nat) (fun _ => Option V) none (@Prod.rec P Nat (fun _ => Option V) f)
def aggO : Option (List V) → Option V := @Option.rec (List V) (fun _ => Option V) none (fun l => some (.agg l))
def rT (x : OW) : RT := fun w _ => some (x w)
def rC (x : OW) : RT := fun w H => ptrK (fun b i => loadF H b i) (ptrA (x w))
def rN (x : OW) (n : Nat) : RT := fun w H => ptrK (fun b i => aggO (loadnF H b i n)) (ptrA (x w))
def trX : XR → RT | .t p => rT (wget p.toNat) | .cell p => rC (wget p.toNat) | .celln p n => rN (wget p.toNat) n
def okX : XR → Bool | .t p => Nat.blt p.toNat 512 | .cell p => Nat.blt p.toNat 512 | .celln p _ => Nat.blt p.toNat 512
def rnil : RL := fun _ _ => some []
def rcons (x : RT) (r : RL) : RL := fun w H => @Option.rec V (fun _ => Option (List V)) none (fun v => @Option.rec (List V) (fun _ => Option (List V)) none (fun l => some (v :: l)) (r w H)) (x w H)
def trRs : List XR → RL | [] => rnil | x :: r => rcons (trX x) (trRs r)
structure FW where
  body : C
  res : RL
def trF (f : XFn) : FW := ⟨trC f.body, trRs f.res⟩
def okF (f : XFn) : Bool := okC f.body && f.res.all okX
def nthV : Nat → List V → V := @Nat.rec (fun _ => List V → V) (@List.rec V (fun _ => V) V.undef (fun v _ _ => v)) (fun _ ih => @List.rec V (fun _ => V) V.undef (fun _ r _ => ih r))
def ua : A8 := ⟨V.undef, V.undef, V.undef, V.undef, V.undef, V.undef, V.undef, V.undef⟩
def ub : B8 := ⟨ua, ua, ua, ua, ua, ua, ua, ua⟩
def frameW (l : List V) : W := ⟨⟨⟨nthV 0 l, nthV 1 l, nthV 2 l, nthV 3 l, nthV 4 l, nthV 5 l, nthV 6 l, nthV 7 l⟩, ⟨nthV 8 l, nthV 9 l, nthV 10 l, nthV 11 l, nthV 12 l, nthV 13 l, nthV 14 l, nthV 15 l⟩, ua, ua, ua, ua, ua, ua⟩, ub, ub, ub, ub, ub, ub, ub⟩
def endK (res : RL) (k : KV) (w : W) (H : Hp) : Option Q := @Option.rec (List V) (fun _ => Option Q) none (fun l => k (resV l) H) (res w H)
def retK (res : RL) (k : KV) : Option Q → Option Q := @Option.rec Q (fun _ => Option Q) none (@Prod.rec XE (W × Hp) (fun _ => Option Q) (@XE.rec (fun _ => W × Hp → Option Q) (@Prod.rec W Hp (fun _ => Option Q) (endK res k)) (fun _ _ => none) (@Prod.rec W Hp (fun _ => Option Q) (endK res k))))
def goW (n : Nat) (c : CE) (args : List V) (H : Hp) (k : KV) : FW → Option Q := @FW.rec (fun _ => Option Q) (fun body res => @Bool.rec (fun _ => Option Q) none (retK res k (body n c (frameW args) H doneK)) (Nat.ble (lenF args) 16))
def getW : P → Tr FW → Option FW := @P.rec (fun _ => Tr FW → Option FW)
  (@Tr.rec FW (fun _ => Option FW) none (fun _ v _ _ _ => v))
  (fun _ ih => @Tr.rec FW (fun _ => Option FW) none (fun l _ _ _ _ => ih l))
  (fun _ ih => @Tr.rec FW (fun _ => Option FW) none (fun _ _ r _ _ => ih r))
theorem getW_eq : ∀ (p : P) (t : Tr FW), getW p t = t.get p
  | .h, .lf => rfl
  | .h, .nd _ _ _ => rfl
  | .o p, .lf => rfl
  | .o p, .nd l _ _ => getW_eq p l
  | .i p, .lf => rfl
  | .i p, .nd _ _ r => getW_eq p r
structure SE where
  fns : Tr FW
  orc : P → List V → Option V
  idle : P → Nat → Bool
def callN (S : SE) : Nat → CallF := @Nat.rec (fun _ => CallF) (fun _ _ _ _ => none)
  (fun n ih f args H k => @Option.rec V (fun _ => Option Q) (@Option.rec FW (fun _ => Option Q) none (goW n ⟨ih, S.idle⟩ args H k) (getW f S.fns)) (fun v => k v H) (S.orc f args))

/-! ## What more fuel gives -/
section
variable {E : Env}
def Sub (i j : Run) : Prop := ∀ c F H r, i c F H = some r → j c F H = some r
theorem callX_mono {i j : Run} (h : Sub i j) {f : P} {args : List V} {H : Hp} {r : V × Hp} (hr : callX E i f args H = some r) : callX E j f args H = some r := by
  unfold callX at hr ⊢
  split at hr
  · exact hr
  · split at hr
    · cases hr
    · rename_i fn hfn
      split at hr
      · cases hr
      · rename_i e F' H' hne he
        rw [h _ _ _ _ he]
        cases e with
        | exit id => exact (hne id rfl).elim
        | nrm => exact hr
        | ret => exact hr
      · cases hr
theorem opX_mono {i j : Run} (h : Sub i j) {o : XO} {F : Fr} {H : Hp} {r : V × Hp} (hr : opX E i o F H = some r) : opX E j o F H = some r := by
  cases o <;> first | exact hr | exact callX_mono h hr | skip
  · simp only [opX] at hr ⊢
    split at hr
    · exact callX_mono h hr
    · cases hr
  · simp only [opX] at hr ⊢
    split at hr
    · split at hr
      · split at hr
        · exact callX_mono h hr
        · cases hr
      · cases hr
    · cases hr
theorem stepX_mono {i j : Run} (h : Sub i j) {o : XOp} {F : Fr} {H : Hp} {r : Fr × Hp} (hr : stepX E i o F H = some r) : stepX E j o F H = some r := by
  unfold stepX at hr ⊢
  split at hr
  · split at hr
    · rename_i v H' e
      rw [opX_mono h e]; exact hr
    · cases hr
  · exact hr
  · cases hr
theorem opsX_mono {i j : Run} (h : Sub i j) : ∀ {l : List XOp} {F : Fr} {H : Hp} {r : Fr × Hp}, opsX E i l F H = some r → opsX E j l F H = some r
  | [], _, _, _, hr => hr
  | o :: l, F, H, r, hr => by
    unfold opsX at hr ⊢
    split at hr
    · rename_i F' H' e
      rw [stepX_mono h e]
      exact opsX_mono h hr
    · cases hr
theorem drawX_mono {i j : Run} (h : Sub i j) : ∀ {l : List (Nat × Bool × XOp)} {F : Fr} {H B : Hp} {Hs : List Hp} {r : Fr × Hp}, drawX E i l F H B Hs = some r → drawX E j l F H B Hs = some r
  | [], _, _, _, _, _, hr => hr
  | (chk, w, o) :: l, F, H, B, Hs, r, hr => by
    unfold drawX at hr ⊢
    split at hr
    · split at hr
      · rename_i v H' e
        simp only [opX_mono h e]
        cases w with
        | true =>
          simp only [cond_true] at hr ⊢
          generalize (Nat.ble H.next.toNat H'.next.toNat && (Nat.beq chk 0 || apartB F o.op l)) = b at hr ⊢
          cases b with
          | true => exact drawX_mono h hr
          | false => cases hr
        | false =>
          simp only [cond_false] at hr ⊢
          generalize recheck o.op F v Hs chk = b at hr ⊢
          cases b with
          | true => exact drawX_mono h hr
          | false => cases hr
      · cases hr
    · cases w with
      | true => exact drawX_mono h hr
      | false => exact drawX_mono h hr
    · cases hr
theorem execBody_mono {i j : Run} (h : Sub i j) : ∀ {x : XC} {F : Fr} {H : Hp} {r : XE × Fr × Hp}, execBody E i x F H = some r → execBody E j x F H = some r
  | .skip, _, _, _, hr => hr
  | .ops l, F, H, r, hr => by
    unfold execBody at hr ⊢
    split at hr
    · rename_i F' H' e; rw [opsX_mono h e]; exact hr
    · cases hr
  | .draw l, F, H, r, hr => by
    unfold execBody at hr ⊢
    split at hr
    · rename_i F' H' e; rw [drawX_mono h e]; exact hr
    · cases hr
  | .seq a b, F, H, r, hr => by
    unfold execBody at hr ⊢
    cases e : execBody E i a F H with
    | none => rw [e] at hr; cases hr
    | some q =>
      rw [e] at hr; rw [execBody_mono h e]
      obtain ⟨x, F', H'⟩ := q
      cases x with
      | nrm => exact execBody_mono h hr
      | exit id => exact hr
      | ret => exact hr
  | .cond c a b, F, H, r, hr => by
    unfold execBody at hr ⊢
    split at hr
    · rename_i e; exact execBody_mono h hr
    · rename_i e; exact execBody_mono h hr
    · cases hr
  | .block id b, F, H, r, hr => by
    unfold execBody at hr ⊢
    cases e : execBody E i b F H with
    | none => rw [e] at hr; cases hr
    | some q => rw [e] at hr; rw [execBody_mono h e]; exact hr
  | .loop b, F, H, r, hr => by
    unfold execBody at hr ⊢
    cases e : execBody E i b F H with
    | none => rw [e] at hr; cases hr
    | some q =>
      rw [e] at hr; rw [execBody_mono h e]
      obtain ⟨x, F', H'⟩ := q
      cases x with
      | nrm => exact h _ _ _ _ hr
      | exit id => exact hr
      | ret => exact hr
  | .exit _, _, _, _, hr => hr
  | .ret, _, _, _, hr => hr
  | .bad _, _, _, _, hr => hr
theorem exec_sub1 : ∀ n, Sub (exec E n) (exec E (n + 1))
  | 0 => fun _ _ _ _ h => by cases h
  | n + 1 => fun c F H r h => by
    show execBody E (exec E (n + 1)) c F H = some r
    exact execBody_mono (exec_sub1 n) h
theorem exec_sub {n m : Nat} (h : n ≤ m) : Sub (exec E n) (exec E m) := by
  induction m with
  | zero => have : n = 0 := by omega
            subst this; exact fun _ _ _ _ h => h
  | succ m ih =>
    by_cases e : n = m + 1
    · subst e; exact fun _ _ _ _ h => h
    · exact fun c F H r hr => exec_sub1 m c F H r (ih (by omega) c F H r hr)

/-! ## Soundness -/
def CEx (E : Env) (f : P) (args : List V) (H : Hp) (r : V × Hp) : Prop := ∃ m, callX E (exec E m) f args H = some r
def OEx (E : Env) (o : XO) (F : Fr) (H : Hp) (r : V × Hp) : Prop := ∃ m, opX E (exec E m) o F H = some r
def BEx (E : Env) (x : XC) (F : Fr) (H : Hp) (r : XE × Fr × Hp) : Prop := ∃ m, execBody E (exec E m) x F H = some r
structure CeOk (E : Env) (c : CE) : Prop where
  call : ∀ f args H k q, c.call f args H k = some q → ∃ v H', CEx E f args H (v, H') ∧ k v H' = some q
  idle : ∀ f k, c.idle f k = E.idle f k
theorem plainD {o : XO} {F : Fr} {H : Hp} {k : KV} {q : Q} {x : Option Q} (h : x = bindR k (doX o F H)) (hx : x = some q) (hp : ∀ ih : Run, opX E ih o F H = doX o F H) : ∃ v H', OEx E o F H (v, H') ∧ k v H' = some q := by
  rw [h] at hx
  rcases hd : doX o F H with _ | ⟨v, H'⟩
  · rw [hd] at hx; cases hx
  · rw [hd] at hx
    exact ⟨v, H', ⟨0, (hp _).trans hd⟩, hx⟩
theorem trD_sound {c : CE} (hc : CeOk E c) {w : W} {F : Fr} (hR : RW w F) {o : XO} (hok : okD o = true) {H : Hp} {k : KV} {q : Q} (h : trD o c w H k = some q) : ∃ v H', OEx E o F H (v, H') ∧ k v H' = some q := by
  cases o with
  | mv a0 =>
    exact plainD (wMv_eq (w := w) (F := F) (trO_eq hR hok) c H k) h (fun _ => rfl)
  | pick a0 a1 a2 =>
    simp only [okD, Bool.and_eq_true, Bool.not_eq_true'] at hok
    exact plainD (wPick_eq (w := w) (F := F) (trO_eq hR hok.1.1) (trO_eq hR hok.1.2) (trO_eq hR hok.2) c H k) h (fun _ => rfl)
  | new a0 =>
    exact plainD (wNew_eq (w := w) (F := F) a0 c H k) h (fun _ => rfl)
  | box a0 a1 =>
    exact plainD (wBox_eq (w := w) (F := F) a0 (trO_eq hR hok) c H k) h (fun _ => rfl)
  | build a0 a1 =>
    exact plainD (wBuild_eq (w := w) (F := F) a0 (trP_eq hR hok) c H k) h (fun _ => rfl)
  | bslice a0 a1 a2 a3 =>
    exact plainD (wBslice_eq (w := w) (F := F) a0 a1 a2 (trP_eq hR hok) c H k) h (fun _ => rfl)
  | load a0 =>
    exact plainD (wLoad_eq (w := w) (F := F) (trO_eq hR hok) c H k) h (fun _ => rfl)
  | loadn a0 a1 =>
    exact plainD (wLoadn_eq (w := w) (F := F) a0 (trO_eq hR hok) c H k) h (fun _ => rfl)
  | store a0 a1 a2 =>
    simp only [okD, Bool.and_eq_true, Bool.not_eq_true'] at hok
    exact plainD (wStore_eq (w := w) (F := F) a0 (trO_eq hR hok.1) (trO_eq hR hok.2) c H k) h (fun _ => rfl)
  | nilck a0 =>
    exact plainD (wNilck_eq (w := w) (F := F) (trO_eq hR hok) c H k) h (fun _ => rfl)
  | bin a0 a1 a2 =>
    simp only [okD, Bool.and_eq_true, Bool.not_eq_true'] at hok
    have h' : (match isSh a0 with | true => wSh a0 | false => wBin a0) (trO a1) (trO a2) c w H k = some q := h
    cases hs : isSh a0 with
    | true =>
      rw [hs] at h'
      exact plainD (wSh_eq (w := w) (F := F) a0 (trO_eq hR hok.1) (trO_eq hR hok.2) c H k) h' (fun _ => rfl)
    | false =>
      rw [hs] at h'
      exact plainD (wBin_eq (w := w) (F := F) hs (trO_eq hR hok.1) (trO_eq hR hok.2) c H k) h' (fun _ => rfl)
  | eq a0 a1 a2 a3 =>
    simp only [okD, Bool.and_eq_true, Bool.not_eq_true'] at hok
    exact plainD (wEq_eq (w := w) (F := F) a0 a1 (trO_eq hR hok.1) (trO_eq hR hok.2) c H k) h (fun _ => rfl)
  | un a0 a1 =>
    rcases wUn_le a0 (w := w) (F := F) (trO_eq hR hok) c H k with e | e
    · exact absurd (h.symm.trans e) (by simp)
    · exact plainD e h (fun _ => rfl)
  | toInt a0 a1 =>
    exact plainD (wToInt_eq (w := w) (F := F) a0 (trO_eq hR hok) c H k) h (fun _ => rfl)
  | same a0 =>
    exact plainD (wSame_eq (w := w) (F := F) (trO_eq hR hok) c H k) h (fun _ => rfl)
  | toBytes a0 =>
    exact plainD (wToBytes_eq (w := w) (F := F) (trO_eq hR hok) c H k) h (fun _ => rfl)
  | toStr a0 =>
    exact plainD (wToStr_eq (w := w) (F := F) (trO_eq hR hok) c H k) h (fun _ => rfl)
  | runeStr a0 =>
    exact plainD (wRuneStr_eq (w := w) (F := F) (trO_eq hR hok) c H k) h (fun _ => rfl)
  | mkiface a0 a1 =>
    exact plainD (wMkiface_eq (w := w) (F := F) a0 (trO_eq hR hok) c H k) h (fun _ => rfl)
  | mkmeth a0 a1 =>
    exact plainD (wMkmeth_eq (w := w) (F := F) a0 (trO_eq hR hok) c H k) h (fun _ => rfl)
  | mkfunc a0 a1 a2 =>
    simp only [okD, Bool.and_eq_true, Bool.not_eq_true'] at hok
    exact plainD (wMkfunc_eq (w := w) (F := F) a0 (trL_eq hR hok.1) (trL_eq hR hok.2) c H k) h (fun _ => rfl)
  | mkmap =>
    exact plainD (wMkmap_eq (w := w) (F := F)  c H k) h (fun _ => rfl)
  | mkslice a0 a1 a2 =>
    simp only [okD, Bool.and_eq_true, Bool.not_eq_true'] at hok
    exact plainD (wMkslice_eq (w := w) (F := F) a0 (trO_eq hR hok.1) (trO_eq hR hok.2) c H k) h (fun _ => rfl)
  | sliceS a0 a1 a2 =>
    simp only [okD, Bool.and_eq_true, Bool.not_eq_true'] at hok
    exact plainD (wSliceS_eq (w := w) (F := F) (trO_eq hR hok.1.1) (trQ_eq hR hok.1.2) (trQ_eq hR hok.2) c H k) h (fun _ => rfl)
  | sliceL a0 a1 a2 a3 a4 =>
    simp only [okD, Bool.and_eq_true, Bool.not_eq_true'] at hok
    exact plainD (wSliceL_eq (w := w) (F := F) a0 (trO_eq hR hok.1.1.1) (trQ_eq hR hok.1.1.2) (trQ_eq hR hok.1.2) (trQ_eq hR hok.2) c H k) h (fun _ => rfl)
  | sliceA a0 a1 a2 a3 a4 a5 =>
    simp only [okD, Bool.and_eq_true, Bool.not_eq_true'] at hok
    exact plainD (wSliceA_eq (w := w) (F := F) a0 a1 (trO_eq hR hok.1.1.1) (trQ_eq hR hok.1.1.2) (trQ_eq hR hok.1.2) (trQ_eq hR hok.2) c H k) h (fun _ => rfl)
  | faddr a0 a1 =>
    exact plainD (wFaddr_eq (w := w) (F := F) a0 (trO_eq hR hok) c H k) h (fun _ => rfl)
  | field a0 a1 a2 =>
    exact plainD (wField_eq (w := w) (F := F) a0 a1 (trO_eq hR hok) c H k) h (fun _ => rfl)
  | iaddrL a0 a1 a2 =>
    simp only [okD, Bool.and_eq_true, Bool.not_eq_true'] at hok
    exact plainD (wIaddrL_eq (w := w) (F := F) a0 (trO_eq hR hok.1) (trO_eq hR hok.2) c H k) h (fun _ => rfl)
  | iaddrA a0 a1 a2 a3 =>
    simp only [okD, Bool.and_eq_true, Bool.not_eq_true'] at hok
    exact plainD (wIaddrA_eq (w := w) (F := F) a0 a1 (trO_eq hR hok.1) (trO_eq hR hok.2) c H k) h (fun _ => rfl)
  | idxS a0 a1 =>
    simp only [okD, Bool.and_eq_true, Bool.not_eq_true'] at hok
    exact plainD (wIdxS_eq (w := w) (F := F) (trO_eq hR hok.1) (trO_eq hR hok.2) c H k) h (fun _ => rfl)
  | idxA a0 a1 a2 a3 a4 =>
    simp only [okD, Bool.and_eq_true, Bool.not_eq_true'] at hok
    exact plainD (wIdxA_eq (w := w) (F := F) a0 a1 a2 (trO_eq hR hok.1) (trO_eq hR hok.2) c H k) h (fun _ => rfl)
  | lookup a0 a1 a2 a3 a4 =>
    simp only [okD, Bool.and_eq_true, Bool.not_eq_true'] at hok
    exact plainD (wLookup_eq (w := w) (F := F) a0 a1 (trO_eq hR hok.1) (trO_eq hR hok.2) a4 c H k) h (fun _ => rfl)
  | mapset a0 a1 a2 a3 =>
    simp only [okD, Bool.and_eq_true, Bool.not_eq_true'] at hok
    exact plainD (wMapset_eq (w := w) (F := F) a0 (trO_eq hR hok.1.1) (trO_eq hR hok.1.2) (trO_eq hR hok.2) c H k) h (fun _ => rfl)
  | mapent a0 a1 a2 a3 =>
    simp only [okD, Bool.and_eq_true, Bool.not_eq_true'] at hok
    exact plainD (wMapent_eq (w := w) (F := F) a0 a1 (trO_eq hR hok.1) (trO_eq hR hok.2) c H k) h (fun _ => rfl)
  | entset a0 a1 a2 =>
    simp only [okD, Bool.and_eq_true, Bool.not_eq_true'] at hok
    exact plainD (wEntset_eq (w := w) (F := F) (trO_eq hR hok.1.1) (trO_eq hR hok.1.2) (trO_eq hR hok.2) c H k) h (fun _ => rfl)
  | mapdel a0 a1 a2 =>
    simp only [okD, Bool.and_eq_true, Bool.not_eq_true'] at hok
    exact plainD (wMapdel_eq (w := w) (F := F) a0 (trO_eq hR hok.1) (trO_eq hR hok.2) c H k) h (fun _ => rfl)
  | rangeS a0 =>
    exact plainD (wRangeS_eq (w := w) (F := F) (trO_eq hR hok) c H k) h (fun _ => rfl)
  | nextS a0 =>
    exact plainD (wNextS_eq (w := w) (F := F) (trO_eq hR hok) c H k) h (fun _ => rfl)
  | tassert a0 a1 a2 a3 =>
    exact plainD (wTassert_eq (w := w) (F := F) a0 a1 a2 (trO_eq hR hok) c H k) h (fun _ => rfl)
  | ext a0 a1 =>
    exact plainD (wExt_eq (w := w) (F := F) a0 (trO_eq hR hok) c H k) h (fun _ => rfl)
  | len a0 a1 =>
    rcases wLen_le a0 (w := w) (F := F) (trO_eq hR hok) c H k with e | e
    · exact absurd (h.symm.trans e) (by simp)
    · exact plainD e h (fun _ => rfl)
  | cap a0 =>
    exact plainD (wCap_eq (w := w) (F := F) (trO_eq hR hok) c H k) h (fun _ => rfl)
  | append a0 a1 a2 =>
    simp only [okD, Bool.and_eq_true, Bool.not_eq_true'] at hok
    exact plainD (wAppend_eq (w := w) (F := F) a0 (trO_eq hR hok.1) (trO_eq hR hok.2) c H k) h (fun _ => rfl)
  | appendz a0 a1 a2 =>
    simp only [okD, Bool.and_eq_true, Bool.not_eq_true'] at hok
    exact plainD (wAppendz_eq (w := w) (F := F) a0 (trO_eq hR hok.1) (trO_eq hR hok.2) c H k) h (fun _ => rfl)
  | copy a0 a1 a2 =>
    simp only [okD, Bool.and_eq_true, Bool.not_eq_true'] at hok
    exact plainD (wCopy_eq (w := w) (F := F) a0 (trO_eq hR hok.1) (trO_eq hR hok.2) c H k) h (fun _ => rfl)
  | min a0 =>
    exact plainD (wMin_eq (w := w) (F := F) (trL_eq hR hok) c H k) h (fun _ => rfl)
  | max a0 =>
    exact plainD (wMax_eq (w := w) (F := F) (trL_eq hR hok) c H k) h (fun _ => rfl)
  | call a0 a1 =>
    have hl := trL_eq hR (l := a1) hok
    have h' : c.call a0 (trL a1 w) H k = some q := h
    rw [hl] at h'
    obtain ⟨v, H', ⟨m, e⟩, hk⟩ := hc.call _ _ _ _ _ h'
    exact ⟨v, H', ⟨m, e⟩, hk⟩
  | dyn a0 a1 =>
    simp only [okD, Bool.and_eq_true, Bool.not_eq_true'] at hok
    have hl := trL_eq hR hok.2
    have h' : dynK c H (trL a1 w) k (trO a0 w) = some q := h
    rw [hl, trO_eq hR hok.1] at h'
    unfold dynK at h'
    split at h'
    · rename_i f l e
      obtain ⟨v, H', ⟨m, e2⟩, hk⟩ := hc.call _ _ _ _ _ h'
      exact ⟨v, H', ⟨m, by simp only [opX, e]; exact e2⟩, hk⟩
    · cases h'
  | dfr a0 a1 =>
    simp only [okD, Bool.and_eq_true, Bool.not_eq_true'] at hok
    have hl := trL_eq hR hok.2
    have h' : dfrK c H (trL a1 w) k (trO a0 w) = some q := h
    rw [hl, trO_eq hR hok.1] at h'
    unfold dfrK at h'
    split at h'
    · rename_i g l e
      rw [hc.idle] at h'
      cases hi : E.idle g l.length with
      | true =>
        rw [hi] at h'
        exact ⟨V.undef, H, ⟨0, by simp only [opX, e, hi]; rfl⟩, h'⟩
      | false => rw [hi] at h'; cases h'
    · cases h'
  | invoke a0 a1 a2 =>
    simp only [okD, Bool.and_eq_true, Bool.not_eq_true'] at hok
    have hl := trL_eq hR hok.2
    have h' : invK c a0 (trL a2 w) H k (trO a1 w) = some q := h
    rw [hl, trO_eq hR hok.1] at h'
    unfold invK at h'
    split at h'
    · rename_i t v0 e
      split at h'
      · rename_i f n e2
        split at h'
        · rename_i u e4
          obtain ⟨v, H', ⟨m, e3⟩, hk⟩ := hc.call _ _ _ _ _ h'
          exact ⟨v, H', ⟨m, by simp only [opX, e, e2, e4]; exact e3⟩, hk⟩
        · cases h'
      · cases h'
    · cases h'
  | bad a0 =>
    cases h
theorem want_eq {w : W} {F : Fr} (hR : RW w F) {g : P} {b : Bool} (hg : Nat.blt g.toNat 512 = true) : wantV b (wget g.toNat w) = want F (some (g, b)) := by
  have := hR g.toNat (by simpa using hg)
  rw [P.of_toNat] at this
  rw [this]
  unfold want wantV
  simp only
  cases F.get g with
  | none => rfl
  | some v => cases v <;> rfl
theorem trPt_put {w : W} {F : Fr} (hR : RW w F) {dst : Option P} (hd : okPt dst = true) (v : V) : RW (trPt dst v w) (putD F dst v) := by
  cases dst with
  | none => exact hR
  | some p =>
    have := hR.put (s := p.toNat) (by simpa [okPt] using hd) v
    rw [P.of_toNat] at this
    exact this
theorem trOps_sound {c : CE} (hc : CeOk E c) {n : Nat} {k : KW} {q : Q} : ∀ (l : List XOp) (w : W) (F : Fr) (H : Hp), l.all okOp = true → RW w F → trOps l n c w H k = some q →
    ∃ m F' H' w', opsX E (exec E m) l F H = some (F', H') ∧ RW w' F' ∧ k w' H' = some q
  | [], w, F, H, _, hR, h => ⟨0, F, H, w, rfl, hR, h⟩
  | o :: r, w, F, H, hok, hR, h => by
    obtain ⟨g, dst, op⟩ := o
    simp only [List.all_cons, Bool.and_eq_true, okOp] at hok
    obtain ⟨⟨⟨o1, o2⟩, o3⟩, o4⟩ := hok
    have run : want F g = some true → trD op c w H (fun v H => trOps r n c (trPt dst v w) H k) = some q → ∃ m F' H' w', opsX E (exec E m) (⟨g, dst, op⟩ :: r) F H = some (F', H') ∧ RW w' F' ∧ k w' H' = some q := by
      intro hw hd
      obtain ⟨v, H1, ⟨m1, e1⟩, hk⟩ := trD_sound hc hR o3 hd
      obtain ⟨m2, F', H', w', e2, hR', hk'⟩ := trOps_sound hc r _ _ _ o4 (trPt_put hR o2 v) hk
      refine ⟨max m1 m2, F', H', w', ?_, hR', hk'⟩
      unfold opsX stepX
      simp only [hw, opX_mono (exec_sub (Nat.le_max_left m1 m2)) e1]
      exact opsX_mono (exec_sub (Nat.le_max_right m1 m2)) e2
    have skip : want F g = some false → trOps r n c (trPt dst V.undef w) H k = some q → ∃ m F' H' w', opsX E (exec E m) (⟨g, dst, op⟩ :: r) F H = some (F', H') ∧ RW w' F' ∧ k w' H' = some q := by
      intro hw hd
      obtain ⟨m2, F', H', w', e2, hR', hk'⟩ := trOps_sound hc r _ _ _ o4 (trPt_put hR o2 V.undef) hd
      refine ⟨m2, F', H', w', ?_, hR', hk'⟩
      unfold opsX stepX
      simp only [hw]
      exact e2
    cases g with
    | none =>
      cases dst with
      | none => exact run rfl h
      | some p => exact run rfl h
    | some gb =>
      obtain ⟨g, b⟩ := gb
      have h' : gdK (trD op c w H (fun v H => trOps r n c (trPt dst v w) H k)) (trOps r n c (trPt dst V.undef w) H k) (wantV b (wget g.toNat w)) = some q := h
      rw [want_eq hR o1] at h'
      cases hw : want F (some (g, b)) with
      | none => rw [hw] at h'; cases h'
      | some x =>
        rw [hw] at h'
        cases x with
        | true => exact run hw h'
        | false => exact skip hw h'
theorem isS_bind {o : XO} {F : Fr} {H : Hp} {w : W} {v : V} : isS (bindR (fun u H' => bif sameV v u then some (.nrm, w, H') else none) (doX o F H)) = (match doX o F H with | some (u, _) => sameV v u | none => false) := by
  rcases doX o F H with _ | ⟨u, H'⟩
  · rfl
  · show isS (bif sameV v u then some (.nrm, w, H') else none) = sameV v u
    cases sameV v u <;> rfl
theorem bind_of_some {o : XO} {F : Fr} {H : Hp} {k : KV} {q : Q} (h : bindR k (doX o F H) = some q) : ∃ v H', doX o F H = some (v, H') ∧ k v H' = some q := by
  rcases hd : doX o F H with _ | ⟨v, H'⟩
  · rw [hd] at h; cases h
  · rw [hd] at h; exact ⟨v, H', rfl, h⟩
theorem rechk_sound {c : CE} (hc : CeOk E c) {w : W} {F : Fr} (hR : RW w F) {o : XO} (hok : okD o = true) (hp : o.plain = true) {v : V} : ∀ (l : List Hp) (n : Nat), rechk c w (trD o) v n l = true → recheck o F v l n = true
  | _, 0, _ => by unfold recheck; rfl
  | [], n + 1, h => by cases h
  | H :: r, n + 1, h => by
    have h0 : @Bool.rec (fun _ => Bool) false (rechk c w (trD o) v n r) (isS (trD o c w H (fun u H' => bif sameV v u then some (.nrm, w, H') else none))) = true := h
    have hh : isS (trD o c w H (fun u H' => bif sameV v u then some (.nrm, w, H') else none)) = true ∧ rechk c w (trD o) v n r = true := by
      revert h0
      generalize isS (trD o c w H (fun u H' => bif sameV v u then some (.nrm, w, H') else none)) = b
      intro h0
      cases b with
      | true => exact ⟨rfl, h0⟩
      | false => have h9 : false = true := h0
                 cases h9
    unfold recheck
    simp only [Bool.and_eq_true]
    refine ⟨?_, rechk_sound hc hR hok hp r n hh.2⟩
    have h1 := hh.1
    cases hd : trD o c w H (fun u H' => bif sameV v u then some (.nrm, w, H') else none) with
    | none => rw [hd] at h1; cases h1
    | some q =>
      obtain ⟨u, H', ⟨m, e⟩, hk⟩ := trD_sound hc hR hok hd
      have e' : doX o F H = some (u, H') := by
        cases o <;> first | exact e | (simp [XO.plain] at hp; done)
      rw [e']
      show sameV v u = true
      cases hs : sameV v u with
      | true => rfl
      | false => rw [hs] at hk; cases hk
theorem stO_eq {w : W} {F : Fr} (hR : RW w F) {o q : XO} (h1 : okD o = true) (h2 : okD q = true) : apartW w (stO o) (stO q) = apart2 F o q := by
  cases o <;> first | rfl | skip
  cases q <;> first | rfl | skip
  simp only [okD, Bool.and_eq_true] at h1 h2
  simp only [stO, apartW, apart2]
  rw [trO_eq hR h1.1, trO_eq hR h2.1]
  rfl
theorem trDr_sound {c : CE} (hc : CeOk E c) {k : KW} {q : Q} : ∀ (l : List (Nat × Bool × XOp)) (w : W) (F : Fr) (H B : Hp) (Hs : List Hp), okDr l = true → RW w F → trDr l c w H B Hs k = some q →
    ∃ m F' H' w', drawX E (exec E m) l F H B Hs = some (F', H') ∧ RW w' F' ∧ k w' H' = some q
  | [], w, F, H, B, Hs, _, hR, h => ⟨0, F, H, w, rfl, hR, h⟩
  | (chk, wr, o) :: r, w, F, H, B, Hs, hok, hR, h => by
    obtain ⟨g, dst, op⟩ := o
    simp only [okDr, Bool.and_eq_true, okOp, Bool.or_eq_true] at hok
    obtain ⟨⟨⟨⟨o1, o2⟩, o3⟩, o5⟩, o4⟩ := hok
    have hap : Nat.beq chk 0 = true ∨ apartW w (stO op) (nxO r) = apartB F op r := by
      right
      cases r with
      | nil => cases op <;> rfl
      | cons x r' =>
        obtain ⟨ck, wr', o'⟩ := x
        simp only [okDr, Bool.and_eq_true, okOp] at o4
        exact stO_eq hR o3 o4.1.1.2
    have hap' : apartW w (stO op) (nxO r) = apartB F op r := by
      cases r with
      | nil => cases op <;> rfl
      | cons x r' =>
        obtain ⟨ck, wr', o'⟩ := x
        simp only [okDr, Bool.and_eq_true, okOp] at o4
        exact stO_eq hR o3 o4.1.1.2
    have run : want F g = some true → doitW chk wr (trPt dst) (trD op) (stO op) (nxO r) (trDr r) c w H B Hs k = some q → ∃ m F' H' w', drawX E (exec E m) ((chk, wr, ⟨g, dst, op⟩) :: r) F H B Hs = some (F', H') ∧ RW w' F' ∧ k w' H' = some q := by
      intro hw hd
      unfold doitW at hd
      obtain ⟨v, H1, ⟨m1, e1⟩, hk⟩ := trD_sound hc hR o3 hd
      cases wr with
      | true =>
        have hor : @Bool.rec (fun _ => Bool) (apartW w (stO op) (nxO r)) true (Nat.beq chk 0) = (Nat.beq chk 0 || apartB F op r) := by
          rw [hap']; cases Nat.beq chk 0 <;> rfl
        have hk : @Bool.rec (fun _ => Option Q) none (trDr r c (trPt dst v w) H1 H1 (B :: Hs) k) (andF (Nat.ble H.next.toNat H1.next.toNat) (@Bool.rec (fun _ => Bool) (apartW w (stO op) (nxO r)) true (Nat.beq chk 0))) = some q := hk
        rw [andF_eq, hor] at hk
        cases hb : (Nat.ble H.next.toNat H1.next.toNat && (Nat.beq chk 0 || apartB F op r)) with
        | false => rw [hb] at hk; cases hk
        | true =>
          rw [hb] at hk
          obtain ⟨m2, F', H', w', e2, hR', hk'⟩ := trDr_sound hc r _ _ _ _ _ o4 (trPt_put hR o2 v) hk
          refine ⟨max m1 m2, F', H', w', ?_, hR', hk'⟩
          unfold drawX
          simp only [hw, opX_mono (exec_sub (Nat.le_max_left m1 m2)) e1, cond_true, hb]
          exact drawX_mono (exec_sub (Nat.le_max_right m1 m2)) e2
      | false =>
        have hk : @Bool.rec (fun _ => Option Q) none (trDr r c (trPt dst v w) H1 B Hs k) (rechk c w (trD op) v chk Hs) = some q := hk
        cases hb : rechk c w (trD op) v chk Hs with
        | false => rw [hb] at hk; cases hk
        | true =>
          rw [hb] at hk
          have hrc : recheck op F v Hs chk = true := by
            rcases o5 with h0 | hp
            · have : chk = 0 := by simpa using h0
              subst this
              cases Hs <;> rfl
            · exact rechk_sound hc hR o3 hp _ _ hb
          obtain ⟨m2, F', H', w', e2, hR', hk'⟩ := trDr_sound hc r _ _ _ _ _ o4 (trPt_put hR o2 v) hk
          refine ⟨max m1 m2, F', H', w', ?_, hR', hk'⟩
          unfold drawX
          simp only [hw, opX_mono (exec_sub (Nat.le_max_left m1 m2)) e1, cond_false, hrc, cond_true]
          exact drawX_mono (exec_sub (Nat.le_max_right m1 m2)) e2
    have skip : want F g = some false → skipW wr (trPt dst) (trDr r) c w H B Hs k = some q → ∃ m F' H' w', drawX E (exec E m) ((chk, wr, ⟨g, dst, op⟩) :: r) F H B Hs = some (F', H') ∧ RW w' F' ∧ k w' H' = some q := by
      intro hw hd
      unfold skipW at hd
      cases wr with
      | true =>
        obtain ⟨m2, F', H', w', e2, hR', hk'⟩ := trDr_sound hc r _ _ _ _ _ o4 (trPt_put hR o2 V.undef) hd
        refine ⟨m2, F', H', w', ?_, hR', hk'⟩
        unfold drawX
        simp only [hw, cond_true]
        exact e2
      | false =>
        obtain ⟨m2, F', H', w', e2, hR', hk'⟩ := trDr_sound hc r _ _ _ _ _ o4 (trPt_put hR o2 V.undef) hd
        refine ⟨m2, F', H', w', ?_, hR', hk'⟩
        unfold drawX
        simp only [hw, cond_false]
        exact e2
    cases g with
    | none => exact run rfl h
    | some gb =>
      obtain ⟨g, b⟩ := gb
      have h' : gdK (doitW chk wr (trPt dst) (trD op) (stO op) (nxO r) (trDr r) c w H B Hs k) (skipW wr (trPt dst) (trDr r) c w H B Hs k) (wantV b (wget g.toNat w)) = some q := h
      rw [want_eq hR o1] at h'
      cases hw : want F (some (g, b)) with
      | none => rw [hw] at h'; cases h'
      | some x =>
        rw [hw] at h'
        cases x with
        | true => exact run hw h'
        | false => exact skip hw h'
/-- what a run of code gives -/
def Out (k : KW) (q : Q) : XE → W → Hp → Prop | .nrm, w, H => k w H = some q | e, w, H => q = (e, w, H)
theorem trC_sound {c : CE} (hc : CeOk E c) {n : Nat} : ∀ (x : XC) (w : W) (F : Fr) (H : Hp) (k : KW) (q : Q), okC x = true → RW w F → trC x n c w H k = some q → ∃ e F' H' w', BEx E x F H (e, F', H') ∧ RW w' F' ∧ Out k q e w' H'
  | .skip, w, F, H, k, q, _, hR, h => ⟨.nrm, F, H, w, ⟨0, rfl⟩, hR, h⟩
  | .ops l, w, F, H, k, q, hok, hR, h => by
    obtain ⟨m, F', H', w', e, hR', hk⟩ := trOps_sound hc l w F H hok hR h
    exact ⟨.nrm, F', H', w', ⟨m, by unfold execBody; rw [e]⟩, hR', hk⟩
  | .draw l, w, F, H, k, q, hok, hR, h => by
    obtain ⟨m, F', H', w', e, hR', hk⟩ := trDr_sound hc l w F H H [] hok hR h
    exact ⟨.nrm, F', H', w', ⟨m, by unfold execBody; rw [e]⟩, hR', hk⟩
  | .seq a b, w, F, H, k, q, hok, hR, h => by
    simp only [okC, Bool.and_eq_true] at hok
    obtain ⟨e, F1, H1, w1, ⟨m1, e1⟩, hR1, ho⟩ := trC_sound hc a w F H _ q hok.1 hR h
    cases e with
    | nrm =>
      obtain ⟨e, F2, H2, w2, ⟨m2, e2⟩, hR2, ho2⟩ := trC_sound hc b w1 F1 H1 k q hok.2 hR1 ho
      refine ⟨e, F2, H2, w2, ⟨max m1 m2, ?_⟩, hR2, ho2⟩
      unfold execBody
      rw [execBody_mono (exec_sub (Nat.le_max_left m1 m2)) e1]
      exact execBody_mono (exec_sub (Nat.le_max_right m1 m2)) e2
    | exit id => exact ⟨.exit id, F1, H1, w1, ⟨m1, by unfold execBody; rw [e1]⟩, hR1, ho⟩
    | ret => exact ⟨.ret, F1, H1, w1, ⟨m1, by unfold execBody; rw [e1]⟩, hR1, ho⟩
  | .cond x a b, w, F, H, k, q, hok, hR, h => by
    simp only [okC, Bool.and_eq_true] at hok
    have h' : condK (trC a n c w H k) (trC b n c w H k) (boolA (trO x w)) = some q := h
    rw [trO_eq hR hok.1.1] at h'
    cases hv : ev F x with
    | bool y =>
      rw [hv] at h'
      cases y with
      | true =>
        obtain ⟨e, F1, H1, w1, ⟨m1, e1⟩, hR1, ho⟩ := trC_sound hc a w F H k q hok.1.2 hR h'
        exact ⟨e, F1, H1, w1, ⟨m1, by unfold execBody; rw [hv]; exact e1⟩, hR1, ho⟩
      | false =>
        obtain ⟨e, F1, H1, w1, ⟨m1, e1⟩, hR1, ho⟩ := trC_sound hc b w F H k q hok.2 hR h'
        exact ⟨e, F1, H1, w1, ⟨m1, by unfold execBody; rw [hv]; exact e1⟩, hR1, ho⟩
    | _ => rw [hv] at h'; cases h'
  | .block id b, w, F, H, k, q, hok, hR, h => by
    have h' : blkK id k (trC b n c w H doneK) = some q := h
    cases hb : trC b n c w H doneK with
    | none => rw [hb] at h'; cases h'
    | some q1 =>
      rw [hb] at h'
      obtain ⟨e, F1, H1, w1, ⟨m1, e1⟩, hR1, ho⟩ := trC_sound hc b w F H doneK q1 hok hR hb
      cases e with
      | nrm =>
        have : q1 = (.nrm, w1, H1) := by have h2 : some (XE.nrm, w1, H1) = some q1 := ho
                                         cases h2; rfl
        subst this
        exact ⟨.nrm, F1, H1, w1, ⟨m1, by unfold execBody; rw [e1]⟩, hR1, h'⟩
      | ret =>
        have : q1 = (.ret, w1, H1) := ho
        subst this
        have h2 : some (XE.ret, w1, H1) = some q := h'
        cases h2
        exact ⟨.ret, F1, H1, w1, ⟨m1, by unfold execBody; rw [e1]⟩, hR1, rfl⟩
      | exit j =>
        have : q1 = (.exit j, w1, H1) := ho
        subst this
        have h2 : @Bool.rec (fun _ => Option Q) (some (.exit j, w1, H1)) (k w1 H1) (Nat.beq j id) = some q := h'
        cases hj : Nat.beq j id with
        | true =>
          rw [hj] at h2
          exact ⟨.nrm, F1, H1, w1, ⟨m1, by unfold execBody; rw [e1]; simp only [hj]; rfl⟩, hR1, h2⟩
        | false =>
          rw [hj] at h2
          have h3 : some (XE.exit j, w1, H1) = some q := h2
          cases h3
          exact ⟨.exit j, F1, H1, w1, ⟨m1, by unfold execBody; rw [e1]; simp only [hj]; rfl⟩, hR1, rfl⟩
  | .loop b, w, F, H, k, q, hok, hR, h => by
    have key : ∀ (j : Nat) (w : W) (F : Fr) (H : Hp) (q : Q), RW w F → lpN (trC b) n c j w H = some q → ∃ e F' H' w', BEx E (.loop b) F H (e, F', H') ∧ RW w' F' ∧ q = (e, w', H') ∧ e ≠ .nrm := by
      intro j
      induction j with
      | zero => intro w F H q _ h; cases h
      | succ j ih =>
        intro w F H q hR h
        have h' : trC b n c w H (lpN (trC b) n c j) = some q := h
        obtain ⟨e, F1, H1, w1, ⟨m1, e1⟩, hR1, ho⟩ := trC_sound hc b w F H _ q hok hR h'
        cases e with
        | nrm =>
          obtain ⟨e, F2, H2, w2, ⟨m2, e2⟩, hR2, ho2, hne⟩ := ih w1 F1 H1 q hR1 ho
          refine ⟨e, F2, H2, w2, ⟨max m1 (m2 + 1), ?_⟩, hR2, ho2, hne⟩
          unfold execBody
          rw [execBody_mono (exec_sub (Nat.le_max_left m1 (m2 + 1))) e1]
          exact exec_sub (Nat.le_max_right m1 (m2 + 1)) _ _ _ _ (show exec E (m2 + 1) (.loop b) F1 H1 = _ from e2)
        | exit id => exact ⟨.exit id, F1, H1, w1, ⟨m1, by unfold execBody; rw [e1]⟩, hR1, ho, fun e => by cases e⟩
        | ret => exact ⟨.ret, F1, H1, w1, ⟨m1, by unfold execBody; rw [e1]⟩, hR1, ho, fun e => by cases e⟩
    obtain ⟨e, F', H', w', hB, hR', hq, hne⟩ := key n w F H q hR h
    refine ⟨e, F', H', w', hB, hR', ?_⟩
    cases e with
    | nrm => exact absurd rfl hne
    | exit id => exact hq
    | ret => exact hq
  | .exit id, w, F, H, k, q, _, hR, h => by
    have h2 : some (XE.exit id, w, H) = some q := h
    cases h2
    exact ⟨.exit id, F, H, w, ⟨0, rfl⟩, hR, rfl⟩
  | .ret, w, F, H, k, q, _, hR, h => by
    have h2 : some (XE.ret, w, H) = some q := h
    cases h2
    exact ⟨.ret, F, H, w, ⟨0, rfl⟩, hR, rfl⟩
  | .bad _, w, F, H, k, q, _, hR, h => by cases h
theorem trX_eq {w : W} {F : Fr} (hR : RW w F) (H : Hp) : ∀ {x : XR}, okX x = true → trX x w H = resOf F H x
  | .t p, hx => by
    have h := hR p.toNat (by simpa [okX] using hx)
    rw [P.of_toNat] at h
    show some (wget p.toNat w) = _
    rw [h]; rfl
  | .cell p, hx => by
    have h := hR p.toNat (by simpa [okX] using hx)
    rw [P.of_toNat] at h
    show ptrK (fun b i => loadF H b i) (ptrA (wget p.toNat w)) = _
    rw [h]; unfold resOf
    simp only [loadF_eq]
    generalize (F.get p).getD V.undef = u
    cases u <;> first | rfl | (rename_i q; cases q <;> rfl)
  | .celln p n, hx => by
    have h := hR p.toNat (by simpa [okX] using hx)
    rw [P.of_toNat] at h
    show ptrK (fun b i => aggO (loadnF H b i n)) (ptrA (wget p.toNat w)) = _
    rw [h]; unfold resOf
    simp only [loadnF_eq]
    generalize (F.get p).getD V.undef = u
    cases u <;> first | rfl | skip
    rename_i q
    cases q with
    | none => rfl
    | some q =>
      obtain ⟨b, i⟩ := q
      show aggO (H.loadn b i n) = (match H.loadn b i n with | some l => some (.agg l) | none => none)
      cases H.loadn b i n <;> rfl
theorem trRs_eq {w : W} {F : Fr} (hR : RW w F) (H : Hp) : ∀ {l : List XR}, l.all okX = true → trRs l w H = resAll F H l
  | [], _ => rfl
  | x :: r, hl => by
    simp only [List.all_cons, Bool.and_eq_true] at hl
    show @Option.rec V (fun _ => Option (List V)) none (fun v => @Option.rec (List V) (fun _ => Option (List V)) none (fun l => some (v :: l)) (trRs r w H)) (trX x w H) = _
    rw [trRs_eq hR H hl.2, trX_eq hR H hl.1]
    conv => rhs; unfold resAll
    cases resOf F H x with
    | none => rfl
    | some v => simp only; cases resAll F H r <;> rfl
theorem nthV_eq : ∀ (n : Nat) (l : List V), nthV n l = (l[n]?).getD V.undef
  | 0, [] => rfl
  | 0, _ :: _ => rfl
  | n + 1, [] => rfl
  | n + 1, _ :: r => by show nthV n r = _; rw [nthV_eq n r]; simp
def idx8 : D8 → Nat | .d0 => 0 | .d1 => 1 | .d2 => 2 | .d3 => 3 | .d4 => 4 | .d5 => 5 | .d6 => 6 | .d7 => 7
theorem idx8_d8 : ∀ {i : Nat}, i < 8 → idx8 (d8 i) = i := by
  intro i hi
  match i, hi with
  | 0, _ => rfl
  | 1, _ => rfl
  | 2, _ => rfl
  | 3, _ => rfl
  | 4, _ => rfl
  | 5, _ => rfl
  | 6, _ => rfl
  | 7, _ => rfl
theorem sel_frame (l : List V) (x y z : D8) : selA x (selB y (selW z (frameW l))) = if idx8 z = 0 ∧ idx8 y = 0 then nthV (idx8 x) l else if idx8 z = 0 ∧ idx8 y = 1 then nthV (8 + idx8 x) l else V.undef := by
  cases z <;> cases y <;> cases x <;> rfl
theorem frame_RW {l : List V} (h : l.length ≤ 16) : RW (frameW l) (frameOf l .h .lf) := by
  intro t ht
  show selA (d8 (t % 8)) (selB (d8 (t / 8 % 8)) (selW (d8 (t / 64)) (frameW l))) = _
  rw [sel_frame, idx8_d8 (by omega), idx8_d8 (by omega), idx8_d8 (by omega)]
  have h0 : (P.h : P) = P.of 0 := rfl
  rw [h0, frameOf_get]
  simp only [Nat.sub_zero, Nat.zero_add, Nat.zero_le, true_and, Tr.get_lf]
  have e : (if t < l.length then l[t]? else none) = l[t]? := by
    split
    · rfl
    · rw [List.getElem?_eq_none (by omega)]
  rw [e]
  by_cases h1 : t / 64 = 0 ∧ t / 8 % 8 = 0
  · rw [if_pos h1, nthV_eq, show t % 8 = t from by omega]
  · rw [if_neg h1]
    by_cases h2 : t / 64 = 0 ∧ t / 8 % 8 = 1
    · rw [if_pos h2, nthV_eq, show 8 + t % 8 = t from by omega]
    · rw [if_neg h2, List.getElem?_eq_none (by omega)]; rfl
/-- the closures' table stands for the functions' -/
structure SeOk (E : Env) (S : SE) : Prop where
  fns : ∀ f fw, S.fns.get f = some fw → ∃ xf, E.fns.get f = some xf ∧ okF xf = true ∧ fw = trF xf
  orc : ∀ f args, S.orc f args = E.orc f args
  idle : ∀ f k, S.idle f k = E.idle f k
theorem callN_sound {S : SE} (hS : SeOk E S) : ∀ n, CeOk E ⟨callN S n, S.idle⟩
  | 0 => ⟨fun _ _ _ _ _ h => (by cases h), hS.idle⟩
  | n + 1 => by
    have ih := callN_sound hS n
    refine ⟨fun f args H k q h => ?_, hS.idle⟩
    have h' : @Option.rec V (fun _ => Option Q) (@Option.rec FW (fun _ => Option Q) none (goW n ⟨callN S n, S.idle⟩ args H k) (getW f S.fns)) (fun v => k v H) (S.orc f args) = some q := h
    rw [hS.orc, getW_eq] at h'
    cases ho : E.orc f args with
    | some v =>
      rw [ho] at h'
      exact ⟨v, H, ⟨0, by unfold callX; rw [ho]⟩, h'⟩
    | none =>
      rw [ho] at h'
      have h2 : @Option.rec FW (fun _ => Option Q) none (goW n ⟨callN S n, S.idle⟩ args H k) (S.fns.get f) = some q := h'
      cases hf : S.fns.get f with
      | none => rw [hf] at h2; cases h2
      | some fw =>
        rw [hf] at h2
        obtain ⟨xf, hx, hok, rfl⟩ := hS.fns f fw hf
        simp only [okF, Bool.and_eq_true] at hok
        have h3 : @Bool.rec (fun _ => Option Q) none (retK (trRs xf.res) k (trC xf.body n ⟨callN S n, S.idle⟩ (frameW args) H doneK)) (Nat.ble (lenF args) 16) = some q := h2
        rw [lenF_eq] at h3
        cases hl : Nat.ble args.length 16 with
        | false => rw [hl] at h3; cases h3
        | true =>
          rw [hl] at h3
          have h4 : retK (trRs xf.res) k (trC xf.body n ⟨callN S n, S.idle⟩ (frameW args) H doneK) = some q := h3
          cases hb : trC xf.body n ⟨callN S n, S.idle⟩ (frameW args) H doneK with
          | none => rw [hb] at h4; cases h4
          | some q1 =>
            rw [hb] at h4
            obtain ⟨e, F1, H1, w1, ⟨m1, e1⟩, hR1, hout⟩ := trC_sound ih xf.body (frameW args) _ H doneK q1 hok.1 (frame_RW (by simpa using hl)) hb
            have hq1 : q1 = (e, w1, H1) := by
              cases e with
              | nrm => have h5 : some (XE.nrm, w1, H1) = some q1 := hout
                       cases h5; rfl
              | exit id => exact hout
              | ret => exact hout
            subst hq1
            have fin : (e ≠ .nrm → e = .ret) → endK (trRs xf.res) k w1 H1 = some q → ∃ v H', CEx E f args H (v, H') ∧ k v H' = some q := by
              intro hne hend
              unfold endK at hend
              rw [trRs_eq hR1 H1 hok.2] at hend
              cases hr : resAll F1 H1 xf.res with
              | none => rw [hr] at hend; cases hend
              | some l =>
                rw [hr] at hend
                refine ⟨resV l, H1, ⟨m1 + 1, ?_⟩, hend⟩
                unfold callX
                rw [ho]
                simp only [hx]
                rw [show exec E (m1 + 1) xf.body (frameOf args .h .lf) H = some (e, F1, H1) from e1]
                cases e with
                | nrm => simp only [hr]
                | ret => simp only [hr]
                | exit id => have := hne (fun k => by cases k); cases this
            cases e with
            | nrm => exact fin (fun h => absurd rfl h) h4
            | ret => exact fin (fun _ => rfl) h4
            | exit id => cases h4
def yesV : V → Bool := fun v => match v with | .bool b => b | _ => false
def doneV : KV := fun v H => @Bool.rec (fun _ => Option Q) none (some (.nrm, ⟨ub, ub, ub, ub, ub, ub, ub, ub⟩, H)) (yesV v)
def answer (S : SE) (n : Nat) (f : P) (args : List V) : Bool := isS (callN S n f args ⟨.lf, .h⟩ doneV)
theorem answer_spec {S : SE} (hS : SeOk E S) {n : Nat} {f : P} {args : List V} (h : answer S n f args = true) : ∃ m H, callX E (exec E m) f args ⟨.lf, .h⟩ = some (.bool true, H) := by
  unfold answer at h
  cases hc : callN S n f args ⟨.lf, .h⟩ doneV with
  | none => rw [hc] at h; cases h
  | some q =>
    obtain ⟨v, H', ⟨m, e⟩, hk⟩ := (callN_sound hS n).call f args _ _ q hc
    refine ⟨m, H', ?_⟩
    unfold doneV at hk
    cases hy : yesV v with
    | false => rw [hy] at hk; cases hk
    | true =>
      cases v with
      | bool b => have hb : b = true := hy
                  rw [← hb]; exact e
      | _ => cases hy
end
end
end Go.Proofs.YtafignheedbnbaaGreatDoor.X
