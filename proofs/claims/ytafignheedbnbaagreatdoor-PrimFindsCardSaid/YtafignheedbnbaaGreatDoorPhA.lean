/-
  The heap of words in plain Lean: headers, objects one behind the other, laying one down, writing a field. No program in sight.
-/
namespace Go.Proofs.YtafignheedbnbaaGreatDoor

/-- An object's header. -/
def hdr (k t r : Nat) : Nat := 3 + 4 * k + 256 * t + 4294967296 * r
theorem hdr_kind {k t r : Nat} (hk : k < 64) : hdr k t r / 4 % 64 = k := by unfold hdr; omega
theorem hdr_tagged {k t r : Nat} (hk : k < 64) (ht : t < 16777216) : hdr k t r / 256 % 16777216 = t := by unfold hdr; omega
theorem hdr_raws {k t r : Nat} (hk : k < 64) (ht : t < 16777216) (hr : r < 16777216) : hdr k t r / 4294967296 % 16777216 = r := by unfold hdr; omega
theorem hdr_lt {k t r : Nat} (hk : k < 64) (ht : t < 16777216) (hr : r < 16777216) : hdr k t r < 18446744073709551616 := by unfold hdr; omega

/-- An object: kind, tagged fields, raw fields. -/
structure Ob where
  k : Nat
  ts : List Nat
  rs : List Nat

def Ob.ws (o : Ob) : List Nat := hdr o.k o.ts.length o.rs.length :: (o.ts ++ o.rs)
def Ob.bs (o : Ob) : List Bool := true :: List.replicate (o.ts.length + o.rs.length) false
def Ob.size (o : Ob) : Nat := 1 + o.ts.length + o.rs.length

theorem Ob.ws_len (o : Ob) : o.ws.length = o.size := by simp [Ob.ws, Ob.size]; omega
theorem Ob.bs_len (o : Ob) : o.bs.length = o.size := by simp [Ob.bs, Ob.size]; omega
theorem Ob.size_pos (o : Ob) : 1 ≤ o.size := by unfold Ob.size; omega

structure Ob.Ok (o : Ob) : Prop where
  kind : o.k < 64
  tn : o.ts.length < 16777216
  rn : o.rs.length < 16777216
  tfit : ∀ w ∈ o.ts, w < 18446744073709551616
  rfit : ∀ w ∈ o.rs, w < 18446744073709551616

/-- The words, and where objects begin, behind the first word. -/
def wsL (h : List Ob) : List Nat := h.flatMap Ob.ws
def bsL (h : List Ob) : List Bool := h.flatMap Ob.bs
def hpW (h : List Ob) : List Nat := 0 :: wsL h
def hpB (h : List Ob) : List Bool := false :: bsL h
/-- Where the object of a number begins. -/
def startL : List Ob → Nat → Nat
  | [], _ => 0
  | _ :: _, 0 => 0
  | o :: h, m + 1 => o.size + startL h m
def start (h : List Ob) (m : Nat) : Nat := 1 + startL h m
def used (h : List Ob) : Nat := (hpW h).length

theorem wsL_len : ∀ h : List Ob, (wsL h).length = (bsL h).length
  | [] => rfl
  | o :: h => by
    have ih := wsL_len h
    unfold wsL bsL at *
    rw [List.flatMap_cons, List.flatMap_cons, List.length_append, List.length_append, o.ws_len, o.bs_len, ih]
theorem hp_len (h : List Ob) : (hpB h).length = used h := by unfold hpB used hpW; rw [List.length_cons, List.length_cons, wsL_len]

theorem wsL_app (h g : List Ob) : wsL (h ++ g) = wsL h ++ wsL g := by unfold wsL; rw [List.flatMap_append]
theorem bsL_app (h g : List Ob) : bsL (h ++ g) = bsL h ++ bsL g := by unfold bsL; rw [List.flatMap_append]
theorem hpW_app (h : List Ob) (o : Ob) : hpW (h ++ [o]) = hpW h ++ o.ws := by unfold hpW; rw [wsL_app]; simp [wsL]
theorem hpB_app (h : List Ob) (o : Ob) : hpB (h ++ [o]) = hpB h ++ o.bs := by unfold hpB; rw [bsL_app]; simp [bsL]
theorem used_app (h : List Ob) (o : Ob) : used (h ++ [o]) = used h + o.size := by unfold used; rw [hpW_app, List.length_append, o.ws_len]

theorem startL_app : ∀ (h g : List Ob) (m : Nat), m < h.length → startL (h ++ g) m = startL h m
  | [], _, _, hm => by simp at hm
  | o :: h, g, 0, _ => rfl
  | o :: h, g, m + 1, hm => by
    show o.size + startL (h ++ g) m = o.size + startL h m
    rw [startL_app h g m (by simpa using hm)]
theorem startL_end : ∀ (h : List Ob) (o : Ob), startL (h ++ [o]) h.length = (wsL h).length
  | [], o => rfl
  | x :: h, o => by
    show x.size + startL (h ++ [o]) h.length = _
    rw [startL_end h o]
    unfold wsL
    rw [List.flatMap_cons, List.length_append, x.ws_len]
theorem start_app (h g : List Ob) (m : Nat) (hm : m < h.length) : start (h ++ g) m = start h m := by unfold start; rw [startL_app h g m hm]
/-- A new object begins where the words ended. -/
theorem start_end (h : List Ob) (o : Ob) : start (h ++ [o]) h.length = used h := by unfold start used hpW; rw [startL_end, List.length_cons]; omega

theorem wsL_get : ∀ (h : List Ob) (m : Nat) (o : Ob), h[m]? = some o → ∀ j, j < o.size → (wsL h)[startL h m + j]? = o.ws[j]?
  | [], m, o, hm, j, hj => by simp at hm
  | x :: h, 0, o, hm, j, hj => by
    simp only [List.getElem?_cons_zero, Option.some.injEq] at hm
    subst hm
    show (wsL (x :: h))[0 + j]? = _
    unfold wsL
    rw [List.flatMap_cons, Nat.zero_add, List.getElem?_append_left (by rw [x.ws_len]; exact hj)]
  | x :: h, m + 1, o, hm, j, hj => by
    show (wsL (x :: h))[x.size + startL h m + j]? = _
    unfold wsL
    rw [List.flatMap_cons, List.getElem?_append_right (by rw [x.ws_len]; omega), x.ws_len, show x.size + startL h m + j - x.size = startL h m + j from by omega]
    exact wsL_get h m o (by simpa using hm) j hj
/-- An object's words. -/
theorem hpW_get {h : List Ob} {m : Nat} {o : Ob} (hm : h[m]? = some o) {j : Nat} (hj : j < o.size) : (hpW h)[start h m + j]? = o.ws[j]? := by
  unfold hpW start
  rw [show 1 + startL h m + j = (startL h m + j) + 1 from by omega, List.getElem?_cons_succ]
  exact wsL_get h m o hm j hj

/-- Where objects begin. -/
theorem bsL_iff : ∀ (h : List Ob) (i : Nat), (bsL h)[i]? = some true ↔ ∃ m o, h[m]? = some o ∧ startL h m = i
  | [], i => by simp [bsL]
  | x :: h, i => by
    unfold bsL
    rw [List.flatMap_cons]
    by_cases hi : i < x.size
    · rw [List.getElem?_append_left (by rw [x.bs_len]; exact hi)]
      constructor
      · intro e
        cases i with
        | zero => exact ⟨0, x, rfl, rfl⟩
        | succ i =>
          unfold Ob.bs at e
          rw [List.getElem?_cons_succ, List.getElem?_replicate] at e
          split at e <;> simp at e
      · rintro ⟨m, o, hm, he⟩
        cases m with
        | zero => subst he; rfl
        | succ m =>
          have : x.size + startL h m = i := he
          omega
    · rw [List.getElem?_append_right (by rw [x.bs_len]; omega), x.bs_len]
      have ih := bsL_iff h (i - x.size)
      unfold bsL at ih
      rw [ih]
      constructor
      · rintro ⟨m, o, hm, he⟩
        exact ⟨m + 1, o, by simpa using hm, by show x.size + startL h m = i; omega⟩
      · rintro ⟨m, o, hm, he⟩
        cases m with
        | zero => have := x.size_pos; have : 0 = i := he; omega
        | succ m => exact ⟨m, o, by simpa using hm, by have : x.size + startL h m = i := he; omega⟩
theorem hpB_iff {h : List Ob} {i : Nat} : (hpB h)[i]? = some true ↔ ∃ m o, h[m]? = some o ∧ start h m = i := by
  unfold hpB start
  cases i with
  | zero =>
    constructor
    · intro e; simp at e
    · rintro ⟨m, o, -, he⟩; omega
  | succ i =>
    rw [List.getElem?_cons_succ, bsL_iff]
    constructor
    · rintro ⟨m, o, hm, he⟩; exact ⟨m, o, hm, by omega⟩
    · rintro ⟨m, o, hm, he⟩; exact ⟨m, o, hm, by omega⟩

/-- Two objects do not begin at one place. -/
theorem startL_inj : ∀ (h : List Ob) (m n : Nat), m < h.length → n < h.length → startL h m = startL h n → m = n
  | [], m, n, hm, _, _ => by simp at hm
  | x :: h, 0, 0, _, _, _ => rfl
  | x :: h, 0, n + 1, _, _, he => by have := x.size_pos; have : 0 = x.size + startL h n := he; omega
  | x :: h, m + 1, 0, _, _, he => by have := x.size_pos; have : x.size + startL h m = 0 := he; omega
  | x :: h, m + 1, n + 1, hm, hn, he => by
    have e : x.size + startL h m = x.size + startL h n := he
    rw [startL_inj h m n (by simpa using hm) (by simpa using hn) (by omega)]

/-- A field is written. -/
def Ob.setT (o : Ob) (j w : Nat) : Ob := ⟨o.k, o.ts.set j w, o.rs⟩
theorem Ob.setT_size (o : Ob) (j w : Nat) : (o.setT j w).size = o.size := by simp [Ob.setT, Ob.size]
theorem Ob.setT_ws (o : Ob) (j w : Nat) (hj : j < o.ts.length) : (o.setT j w).ws = o.ws.set (1 + j) w := by
  unfold Ob.setT Ob.ws
  rw [show 1 + j = j + 1 from by omega, List.set_cons_succ, List.set_append_left _ _ hj, List.length_set]
theorem Ob.setT_bs (o : Ob) (j w : Nat) : (o.setT j w).bs = o.bs := by simp [Ob.setT, Ob.bs]

theorem startL_set : ∀ (h : List Ob) (m n : Nat) (o o' : Ob), h[m]? = some o → o'.size = o.size → startL (h.set m o') n = startL h n
  | [], m, n, o, o', hm, _ => by simp at hm
  | x :: h, 0, 0, o, o', hm, hs => rfl
  | x :: h, 0, n + 1, o, o', hm, hs => by
    simp only [List.getElem?_cons_zero, Option.some.injEq] at hm
    subst hm
    show o'.size + startL h n = x.size + startL h n
    rw [hs]
  | x :: h, m + 1, 0, o, o', hm, hs => rfl
  | x :: h, m + 1, n + 1, o, o', hm, hs => by
    show x.size + startL (h.set m o') n = x.size + startL h n
    rw [startL_set h m n o o' (by simpa using hm) hs]
theorem wsL_set : ∀ (h : List Ob) (m : Nat) (o : Ob) (j w : Nat), h[m]? = some o → j < o.ts.length → wsL (h.set m (o.setT j w)) = (wsL h).set (startL h m + 1 + j) w
  | [], m, o, j, w, hm, _ => by simp at hm
  | x :: h, 0, o, j, w, hm, hj => by
    simp only [List.getElem?_cons_zero, Option.some.injEq] at hm
    subst hm
    show wsL (x.setT j w :: h) = (wsL (x :: h)).set (0 + 1 + j) w
    unfold wsL
    rw [List.flatMap_cons, List.flatMap_cons, x.setT_ws j w hj, Nat.zero_add, List.set_append_left _ _ (by rw [x.ws_len]; unfold Ob.size; omega)]
  | x :: h, m + 1, o, j, w, hm, hj => by
    have ih := wsL_set h m o j w (by simpa using hm) hj
    show wsL (x :: h.set m (o.setT j w)) = (wsL (x :: h)).set (x.size + startL h m + 1 + j) w
    unfold wsL at *
    rw [List.flatMap_cons, List.flatMap_cons, ih, List.set_append_right _ _ (by rw [x.ws_len]; omega), x.ws_len, show x.size + startL h m + 1 + j - x.size = startL h m + 1 + j from by omega]
theorem bsL_set : ∀ (h : List Ob) (m : Nat) (o : Ob) (j w : Nat), h[m]? = some o → bsL (h.set m (o.setT j w)) = bsL h
  | [], m, o, j, w, hm => by simp at hm
  | x :: h, 0, o, j, w, hm => by
    simp only [List.getElem?_cons_zero, Option.some.injEq] at hm
    subst hm
    show bsL (x.setT j w :: h) = _
    unfold bsL
    rw [List.flatMap_cons, List.flatMap_cons, x.setT_bs]
  | x :: h, m + 1, o, j, w, hm => by
    have ih := bsL_set h m o j w (by simpa using hm)
    show bsL (x :: h.set m (o.setT j w)) = _
    unfold bsL at *
    rw [List.flatMap_cons, List.flatMap_cons, ih]

theorem hpW_set {h : List Ob} {m : Nat} {o : Ob} {j w : Nat} (hm : h[m]? = some o) (hj : j < o.ts.length) : hpW (h.set m (o.setT j w)) = (hpW h).set (start h m + 1 + j) w := by
  unfold hpW start
  rw [wsL_set h m o j w hm hj, show 1 + startL h m + 1 + j = (startL h m + 1 + j) + 1 from by omega, List.set_cons_succ]
theorem hpB_set {h : List Ob} {m : Nat} {o : Ob} {j w : Nat} (hm : h[m]? = some o) : hpB (h.set m (o.setT j w)) = hpB h := by
  unfold hpB
  rw [bsL_set h m o j w hm]
theorem start_set {h : List Ob} {m n : Nat} {o : Ob} {j w : Nat} (hm : h[m]? = some o) : start (h.set m (o.setT j w)) n = start h n := by
  unfold start
  rw [startL_set h m n o _ hm (o.setT_size j w)]

/-- Is this word an object? -/
def isB (h : List Ob) (p : Nat) : Bool := decide (p % 4 = 0) && (hpB h).getD (p / 4) false
theorem isB_iff {h : List Ob} {p : Nat} : isB h p = true ↔ ∃ m o, h[m]? = some o ∧ p = 4 * start h m := by
  unfold isB
  rw [Bool.and_eq_true, decide_eq_true_eq]
  have e : (hpB h).getD (p / 4) false = true ↔ (hpB h)[p / 4]? = some true := by
    simp only [List.getD]
    cases (hpB h)[p / 4]? with
    | none => simp
    | some b => simp
  rw [e, hpB_iff]
  constructor
  · rintro ⟨h1, m, o, h2, h3⟩; exact ⟨m, o, h2, by omega⟩
  · rintro ⟨m, o, h2, h3⟩; exact ⟨by omega, m, o, h2, by omega⟩

end Go.Proofs.YtafignheedbnbaaGreatDoor

/-
  Lists of pairs among the objects of the heap, in plain Lean: where they lie, what stays of them when objects are laid down or a field is written. No program in sight.
-/
namespace Go.Proofs.YtafignheedbnbaaGreatDoor

/-- A pair. -/
def pairO (a b : Nat) : Ob := ⟨1, [a, b], []⟩
/-- The word of a list whose pairs have the words ws. -/
def hd (ws : List Nat) (last : Nat) : Nat := ws.headD last

/-- The pairs ws hold the items xs, one behind the other; behind them stands 'last'. -/
def Lst (h : List Ob) : List Nat → List Nat → Nat → Prop
  | [], [], _ => True
  | w :: ws, x :: xs, last => (∃ m, h[m]? = some (pairO x (hd ws last)) ∧ w = 4 * start h m) ∧ Lst h ws xs last
  | _, _, _ => False

theorem Lst.len {h : List Ob} : ∀ {ws xs : List Nat} {last : Nat}, Lst h ws xs last → ws.length = xs.length
  | [], [], _, _ => rfl
  | _ :: _, _ :: _, _, k => by simp [Lst.len k.2]
  | [], _ :: _, _, k => k.elim
  | _ :: _, [], _, k => k.elim

theorem Lst.mem {h : List Ob} : ∀ {ws xs : List Nat} {last : Nat}, Lst h ws xs last → ∀ w ∈ ws, ∃ m o, h[m]? = some o ∧ w = 4 * start h m
  | [], _, _, _, w, hw => by simp at hw
  | w :: ws, x :: xs, _, ⟨⟨m, hm, e⟩, k⟩, u, hu => by
    rcases List.mem_cons.1 hu with rfl | hu
    · exact ⟨m, _, hm, e⟩
    · exact Lst.mem k u hu
  | _ :: _, [], _, k, _, _ => k.elim

/-- Objects laid down behind. -/
theorem Lst.grow {h g : List Ob} : ∀ {ws xs : List Nat} {last : Nat}, Lst h ws xs last → Lst (h ++ g) ws xs last
  | [], [], _, _ => trivial
  | w :: ws, x :: xs, last, ⟨⟨m, hm, e⟩, k⟩ => by
    have hl : m < h.length := (List.getElem?_eq_some_iff.1 hm).1
    exact ⟨⟨m, by rw [List.getElem?_append_left hl]; exact hm, by rw [start_app h g m hl]; exact e⟩, k.grow⟩
  | [], _ :: _, _, k => k.elim
  | _ :: _, [], _, k => k.elim

/-- A pair in front. -/
theorem Lst.cons {h : List Ob} {ws xs : List Nat} {last : Nat} (k : Lst h ws xs last) (x : Nat) : Lst (h ++ [pairO x (hd ws last)]) (4 * used h :: ws) (x :: xs) last :=
  ⟨⟨h.length, by simp, by rw [start_end]⟩, k.grow⟩

/-- One list behind the other. -/
theorem Lst.append {h : List Ob} {ws' xs' : List Nat} {last : Nat} (k' : Lst h ws' xs' last) : ∀ {ws xs : List Nat}, Lst h ws xs (hd ws' last) → Lst h (ws ++ ws') (xs ++ xs') last
  | [], [], _ => k'
  | w :: ws, x :: xs, ⟨⟨m, hm, e⟩, k⟩ => by
    refine ⟨⟨m, ?_, e⟩, Lst.append k' k⟩
    cases ws with
    | nil => exact hm
    | cons u us => exact hm
  | [], _ :: _, k => k.elim
  | _ :: _, [], k => k.elim
theorem hd_append (ws ws' : List Nat) (last : Nat) : hd (ws ++ ws') last = hd ws (hd ws' last) := by
  cases ws with
  | nil => rfl
  | cons u us => rfl

theorem Lst.drop {h : List Ob} : ∀ {ws xs : List Nat} {last : Nat}, Lst h ws xs last → ∀ k, Lst h (ws.drop k) (xs.drop k) last
  | _, _, _, q, 0 => q
  | [], [], _, _, _ + 1 => trivial
  | _ :: _, _ :: _, _, q, k + 1 => q.2.drop k
  | [], _ :: _, _, q, _ + 1 => q.elim
  | _ :: _, [], _, q, _ + 1 => q.elim

/-- The pair at a place. -/
theorem Lst.at_ {h : List Ob} {ws xs : List Nat} {last : Nat} (q : Lst h ws xs last) {k x : Nat} (hx : xs[k]? = some x) : ∃ m, h[m]? = some (pairO x (hd (ws.drop (k + 1)) last)) ∧ hd (ws.drop k) last = 4 * start h m ∧ ws[k]? = some (4 * start h m) := by
  induction ws generalizing xs k with
  | nil =>
    cases xs with
    | nil => simp at hx
    | cons => exact q.elim
  | cons w ws ih =>
    cases xs with
    | nil => exact q.elim
    | cons y ys =>
      obtain ⟨⟨m, hm, e⟩, q⟩ := q
      cases k with
      | zero =>
        simp only [List.getElem?_cons_zero, Option.some.injEq] at hx
        subst hx
        exact ⟨m, hm, e, by simp [e]⟩
      | succ k => exact ih q hx

/-- Behind the last pair. -/
theorem hd_all (ws : List Nat) (last k : Nat) (hk : ws.length ≤ k) : hd (ws.drop k) last = last := by
  rw [List.drop_eq_nil_of_le hk]; rfl

/-- Two pairs of one list are two objects. -/
theorem Lst.inj {h : List Ob} {ws xs : List Nat} {last : Nat} (q : Lst h ws xs last) (hl : last % 4 ≠ 0) : ∀ (d i j : Nat), i < j → j < ws.length → ws.length - j = d → ws[i]? ≠ ws[j]? := by
  intro d
  induction d with
  | zero => intro i j _ hj hd; omega
  | succ d ih =>
    intro i j hij hj hdj he
    have hxl := q.len
    obtain ⟨m, hm, h1, h2⟩ := q.at_ (List.getElem?_eq_getElem (show i < xs.length by omega))
    obtain ⟨m', hm', h1', h2'⟩ := q.at_ (List.getElem?_eq_getElem (show j < xs.length by omega))
    rw [h2, h2'] at he
    simp only [Option.some.injEq] at he
    have hmm : m = m' := by
      have := startL_inj h m m' (List.getElem?_eq_some_iff.1 hm).1 (List.getElem?_eq_some_iff.1 hm').1 (by unfold start at he; omega)
      exact this
    subst hmm
    rw [hm] at hm'
    simp only [Option.some.injEq, pairO, Ob.mk.injEq, List.cons.injEq, and_true, true_and] at hm'
    have ht := hm'.2
    have e1 : hd (ws.drop (i + 1)) last = ws[i + 1]'(by omega) := by rw [List.drop_eq_getElem_cons (by omega)]; rfl
    by_cases hj1 : j + 1 < ws.length
    · have e2 : hd (ws.drop (j + 1)) last = ws[j + 1] := by rw [List.drop_eq_getElem_cons hj1]; rfl
      refine ih (i + 1) (j + 1) (by omega) hj1 (by omega) ?_
      rw [List.getElem?_eq_getElem (by omega), List.getElem?_eq_getElem hj1, ← e1, ← e2, ht]
    · rw [hd_all ws last (j + 1) (by omega), e1] at ht
      obtain ⟨m2, o2, hm2, e3⟩ := q.mem (ws[i + 1]'(by omega)) (List.getElem_mem _)
      omega

/-- An object that is none of the pairs is written. -/
theorem Lst.set_far {h : List Ob} {m : Nat} {o : Ob} (hm : h[m]? = some o) (j u : Nat) : ∀ {ws xs : List Nat} {last : Nat}, Lst h ws xs last → (∀ w ∈ ws, w ≠ 4 * start h m) → Lst (h.set m (o.setT j u)) ws xs last
  | [], [], _, _, _ => trivial
  | w :: ws, x :: xs, last, ⟨⟨m', hm', e⟩, k⟩, hn => by
    refine ⟨⟨m', ?_, by rw [start_set hm]; exact e⟩, Lst.set_far hm j u k fun v hv => hn v (List.mem_cons_of_mem _ hv)⟩
    rw [List.getElem?_set_ne]
    · exact hm'
    · rintro rfl; exact hn w (List.mem_cons_self ..) e
  | [], _ :: _, _, k, _ => k.elim
  | _ :: _, [], _, k, _ => k.elim

/-- The item of one pair is written. -/
theorem Lst.set_car {h : List Ob} {m : Nat} {o : Ob} (hm : h[m]? = some o) (u : Nat) : ∀ {ws xs : List Nat} {last : Nat}, Lst h ws xs last → last % 4 ≠ 0 → ∀ k, k < xs.length → ws[k]? = some (4 * start h m) → Lst (h.set m (o.setT 0 u)) ws (xs.set k u) last
  | [], [], _, _, _, k, hk, _ => by simp at hk
  | w :: ws, x :: xs, last, q, hl, 0, hk, he => by
    have hq := q
    obtain ⟨⟨m', hm', e⟩, q'⟩ := q
    simp only [List.getElem?_cons_zero, Option.some.injEq] at he
    have hmm : m' = m := startL_inj h m' m (List.getElem?_eq_some_iff.1 hm').1 (List.getElem?_eq_some_iff.1 hm).1 (by unfold start at e he; omega)
    subst hmm
    rw [hm] at hm'
    simp only [Option.some.injEq] at hm'
    subst hm'
    refine ⟨⟨m', ?_, by rw [start_set hm]; exact e⟩, Lst.set_far hm 0 u q' fun v hv e2 => ?_⟩
    · rw [List.getElem?_set_self (List.getElem?_eq_some_iff.1 hm).1]
      rfl
    · obtain ⟨i, hi, rfl⟩ := List.getElem_of_mem hv
      refine hq.inj hl _ 0 (i + 1) (by omega) (by simpa using hi) rfl ?_
      simp [e, e2, hi]
  | w :: ws, x :: xs, last, q, hl, k + 1, hk, he => by
    have hq := q
    obtain ⟨⟨m', hm', e⟩, q'⟩ := q
    have hk' : k < xs.length := by simpa using hk
    have he' : ws[k]? = some (4 * start h m) := by simpa using he
    refine ⟨⟨m', ?_, by rw [start_set hm]; exact e⟩, Lst.set_car hm u q' hl k hk' he'⟩
    rw [List.getElem?_set_ne]
    · exact hm'
    · rintro rfl
      refine hq.inj hl _ 0 (k + 1) (by omega) (by have := q'.len; simp; omega) rfl ?_
      simp [e, he']
  | [], _ :: _, _, q, _, _, _, _ => q.elim
  | _ :: _, [], _, q, _, _, _, _ => q.elim

/-- Laying down a list, the last pair first. -/
def chainO (h : List Ob) (last : Nat) : List Nat → List Ob × List Nat
  | [] => (h, [])
  | x :: xs => ((chainO h last xs).1 ++ [pairO x (hd (chainO h last xs).2 last)], 4 * used (chainO h last xs).1 :: (chainO h last xs).2)
theorem chainO_lst (h : List Ob) (last : Nat) : ∀ xs, Lst (chainO h last xs).1 (chainO h last xs).2 xs last
  | [] => trivial
  | x :: xs => (chainO_lst h last xs).cons x
theorem chainO_used (h : List Ob) (last : Nat) : ∀ xs, used (chainO h last xs).1 = used h + 3 * xs.length
  | [] => rfl
  | x :: xs => by
    show used ((chainO h last xs).1 ++ [_]) = _
    rw [used_app, chainO_used h last xs]
    simp [pairO, Ob.size]; omega
theorem chainO_ext (h : List Ob) (last : Nat) : ∀ xs, ∃ g, (chainO h last xs).1 = h ++ g
  | [] => ⟨[], by simp [chainO]⟩
  | x :: xs => by
    obtain ⟨g, e⟩ := chainO_ext h last xs
    exact ⟨g ++ [pairO x (hd (chainO h last xs).2 last)], by show (chainO h last xs).1 ++ [_] = _; rw [e, List.append_assoc]⟩

theorem isB_grow {h g : List Ob} {p : Nat} (k : isB h p = true) : isB (h ++ g) p = true := by
  obtain ⟨m, o, hm, rfl⟩ := isB_iff.1 k
  have hl : m < h.length := (List.getElem?_eq_some_iff.1 hm).1
  exact isB_iff.2 ⟨m, o, by rw [List.getElem?_append_left hl]; exact hm, by rw [start_app h g m hl]⟩
theorem isB_at {h : List Ob} {m : Nat} {o : Ob} (hm : h[m]? = some o) : isB h (4 * start h m) = true := isB_iff.2 ⟨m, o, hm, rfl⟩

end Go.Proofs.YtafignheedbnbaaGreatDoor
