/-
  The walk of call.often for a name that it does not know.
-/
import Derived.Test.YtafignheedbnbaaGreatDoorPhH
import Derived.Test.YtafignheedbnbaaGreatDoorPhA
namespace Go.Proofs.YtafignheedbnbaaGreatDoor
open Go.RowKit Go.BigFrame
set_option linter.unusedSimpArgs false
set_option linter.unusedVariables false

def oftenNames : List (List UInt8) := [[43], [45], [42], [61], [60], [62], [60, 61], [62, 61], [99, 111, 110, 115], [99, 97, 114], [99, 100, 114], [101, 113, 63], [110, 111, 116], [110, 117, 108, 108, 63], [112, 97, 105, 114, 63]]

set_option maxHeartbeats 1000000 in
theorem often_no {w : World} {cb sb : Nat} {s : ByteArray} {A : Option Addr} {n c : Nat} (h : CallAt w cb sb s A n c) (hno : (oftenNames.all fun t => !(s.toList == t)) = true) :
    Calls Tryz.prog 100 #[.pointer (some ⟨cb, 0, none⟩)] w fun e w' => e = .returned (.tuple #[.int .u64 0, .bool false]) ∧ Below w.heap.size w w' := by
  obtain ⟨d0, d1, d2, d3, d4, dl, df⟩ := h.cells
  simp only [oftenNames, List.all_cons, List.all_nil, Bool.and_eq_true, Bool.not_eq_true', Bool.and_true] at hno
  obtain ⟨h1, h2, h3, h4, h5, h6, h7, h8, h9, h10, h11, h12, h13, h14, h15⟩ := hno
  clear h d0 d2 d3 d4 df
  go_enter Tryz.func100, Tryz.ntmps100
  go_wp2
  go_ret2
  exact ⟨rfl, Below.refl _ _⟩

end Go.Proofs.YtafignheedbnbaaGreatDoor

/-
  The walks of the primitives' small helpers: pair, laid, isVector.
-/
namespace Go.Proofs.YtafignheedbnbaaGreatDoor
open Go.RowKit Go.BigFrame
set_option linter.unusedSimpArgs false
set_option linter.unusedVariables false

/-- A primitive at work: the store, its call, its arguments. -/
structure PAt (w : World) (S : Sto) (M : Nat → Prop) (h : List Ob) (sy : List (ByteArray × Nat)) (cb : Nat) (nm : ByteArray) (A : Option Addr) (c : Nat) (xs : List Nat) : Prop where
  st : SAt w S M h sy
  call : CallAt w cb S.sb nm A xs.length c
  args : SlU w M A xs
  far : ¬ M cb

section
variable {w w' : World} {S : Sto} {M M' : Nat → Prop} {h h' : List Ob} {sy sy' : List (ByteArray × Nat)} {cb : Nat} {nm : ByteArray} {A : Option Addr} {c : Nat} {xs : List Nat}

theorem PAt.below (k : PAt w S M h sy cb nm A c xs) (hb : Below w.heap.size w w') : PAt w' S M h sy cb nm A c xs := ⟨k.st.below hb, (hb.block _ (ph_lt k.call)).trans k.call, k.args.below hb, k.far⟩
theorem PAt.step (k : PAt w S M h sy cb nm A c xs) (s : Step M w M' w') (h1 : SAt w' S M' h' sy') : PAt w' S M' h' sy' cb nm A c xs := ⟨h1, (s.keeps (ph_lt k.call) k.far).trans k.call, k.args.step s, s.far (ph_lt k.call) k.far⟩

theorem PAt.cells (k : PAt w S M h sy cb nm A c xs) : w.cell? ⟨cb, 0, none⟩ = some (.pointer (some ⟨S.sb, 0, none⟩)) ∧ w.cell? ⟨cb, 1, none⟩ = some (.string nm) ∧ w.cell? ⟨cb, 2, none⟩ = some (.slice A xs.length c) ∧ w.cell? ⟨S.sb, 0, none⟩ = some (.pointer (some ⟨S.hb, 0, none⟩)) :=
  ⟨k.call.cells.1, k.call.cells.2.1, k.call.cells.2.2.1, k.st.cells.1⟩

/-- An argument. -/
theorem PAt.arg (k : PAt w S M h sy cb nm A c xs) {j x : Nat} (hx : xs[j]? = some x) : ∃ L, A = some ⟨L, 0, none⟩ ∧ w.cell? ⟨L, j, none⟩ = some (.int .u64 x) ∧ j < xs.length := by
  rcases k.args with h0 | ⟨L, h1, h2, h3, h4⟩
  · rw [h0] at hx; simp at hx
  · exact ⟨L, h1, h4 j x hx, (List.getElem?_eq_some_iff.1 hx).1⟩

set_option maxHeartbeats 1000000 in
theorem pair_yes (k : PAt w S M h sy cb nm A c xs) {m a b : Nat} (hm : h[m]? = some (pairO a b)) : Calls Tryz.prog 192 #[.pointer (some ⟨cb, 0, none⟩), .int .u64 (4 * start h m : Nat)] w fun e w' => e = .returned (.bool true) ∧ Below w.heap.size w w' := by
  obtain ⟨v1, v2, hh, -⟩ := k.st.hp
  have hus : used h ≤ 16777216 := Nat.le_trans hh.room hh.small
  have hst := start_lt hm
  have ho := hh.ok _ (List.mem_of_getElem? hm)
  obtain ⟨e1, e2, e3⟩ := tagged_at hm ho
  have HK := hide (fun w1 (hb : Below w.heap.size w w1) => kind_any (hh.below hb) (4 * start h m) (by omega))
  have HT := hide (fun w1 (hb : Below w.heap.size w w1) => tagged_any (hh.below hb) (4 * start h m) (by omega))
  have HR := hide (fun w1 (hb : Below w.heap.size w w1) => raws_any (hh.below hb) (4 * start h m) (by omega))
  rw [e2, show (pairO a b).k = 1 from rfl] at HK
  rw [e1, show (pairO a b).ts.length = 2 from rfl] at HT
  rw [e3, show (pairO a b).rs.length = 0 from rfl] at HR
  have HP := hide k
  obtain ⟨p0, -, -, p3⟩ := k.cells
  obtain ⟨q, hq⟩ : ∃ q, start h m = q := ⟨_, rfl⟩
  rw [hq] at HK HT HR ⊢
  clear k hh hm ho hst hus hq e1 e2 e3
  go_enter Tryz.func192, Tryz.ntmps192
  go_wp2_with (go_at_call 109; fail)
  refine (HK.out w (Below.refl _ _)).mono ?_
  rintro e w1 ⟨rfl, hb1⟩
  obtain ⟨q0, -, -, q3⟩ := (HP.out.below hb1).cells
  have HB1 := hide hb1
  clear p0 p3 hb1
  go_wp2_with (go_at_call 104; fail)
  refine (HT.out w1 HB1.out).mono ?_
  rintro e w2 ⟨rfl, hb2⟩
  have hb12 := HB1.out.trans (hb2.mono HB1.out.size)
  obtain ⟨p0, -, -, p3⟩ := (HP.out.below hb12).cells
  have HB2 := hide hb12
  clear q0 q3 hb2 hb12
  go_wp2_with (go_at_call 62; fail)
  refine (HR.out w2 HB2.out).mono ?_
  rintro e w3 ⟨rfl, hb3⟩
  have HB3 := hide (HB2.out.trans (hb3.mono HB2.out.size))
  clear hb3
  go_wp2
  go_ret
  exact ⟨rfl, HB3.out⟩

set_option maxHeartbeats 1000000 in
theorem pair_no (k : PAt w S M h sy cb nm A c xs) {p : Nat} (hp : p < 18446744073709551616) (hk : headOf h p / 4 % 64 ≠ 1) : Calls Tryz.prog 192 #[.pointer (some ⟨cb, 0, none⟩), .int .u64 p] w fun e w' => e = .returned (.bool false) ∧ Below w.heap.size w w' := by
  obtain ⟨v1, v2, hh, -⟩ := k.st.hp
  have HK := hide (kind_any hh p hp)
  obtain ⟨p0, -, -, p3⟩ := k.cells
  obtain ⟨d, hd⟩ : ∃ d, headOf h p / 4 % 64 = d := ⟨_, rfl⟩
  rw [hd] at HK hk
  have hk' : ((d : Int) == 1) = false := beq_eq_false_iff_ne.2 (by omega)
  clear k hh hd hk
  go_enter Tryz.func192, Tryz.ntmps192
  go_wp2_with (go_at_call 109; fail)
  refine HK.out.mono ?_
  rintro e w1 ⟨rfl, hb1⟩
  have HB1 := hide hb1
  clear p0 p3 hb1
  go_wp2
  go_ret
  exact ⟨rfl, HB1.out⟩

set_option maxHeartbeats 1000000 in
theorem laid_yes (cb v : Nat) (w : World) : Calls Tryz.prog 173 #[.pointer (some ⟨cb, 0, none⟩), .int .u64 v, .bool true] w fun e w' => e = .returned (.int .u64 v) ∧ w = w' := by
  go_enter Tryz.func173, Tryz.ntmps173
  go_wp2
  go_ret
  exact ⟨rfl, rfl⟩

theorem headOf_imm {h : List Ob} {p : Nat} (hp : p % 4 ≠ 0) : headOf h p = 0 := by
  unfold headOf isB
  rw [if_neg (by simp [hp])]

end
end Go.Proofs.YtafignheedbnbaaGreatDoor

/-
  The walk of call.chain: the items of a list.
-/
namespace Go.Proofs.YtafignheedbnbaaGreatDoor
open Go.RowKit Go.BigFrame
set_option linter.unusedSimpArgs false
set_option linter.unusedVariables false

/-- A row of words that the call has made. -/
def Row (w0 : World) (xs : List Nat) (v : Value) (w : World) : Prop := w.ownsRow w0.heap.size 29 1 v xs.length (xs.map wV)

theorem Row.below {w0 w w' : World} {xs : List Nat} {v : Value} (h : Row w0 xs v w) (hb : Below w.heap.size w w') : Row w0 xs v w' := ph_kept h fun b e => hb.block b (ph_own h e).2.1

def Chained (w0 : World) (xs : List Nat) (e : Ending) (w' : World) : Prop := ∃ v, e = .returned (.tuple #[v, .bool true]) ∧ Row w0 xs v w' ∧ Below w0.heap.size w0 w'

def slen : Value → Nat
  | .slice _ m _ => m
  | _ => 0

theorem Row.form {w0 w : World} {ys : List Nat} {v : Value} (h : Row w0 ys v w) (M : Nat → Prop) (hM : ∀ b, M b → b < w0.heap.size) : ∃ A c, v = .slice A ys.length c ∧ SlU w M A ys := by
  unfold Row at h
  by_cases h0 : 0 < ys.length
  · obtain ⟨G, cap, e, hGB, hGl⟩ := h.form h0
    subst e
    refine ⟨some ⟨G, 0, none⟩, cap, rfl, .inr ⟨G, rfl, hGl, fun hm => by have := hM G hm; omega, fun j x hx => ?_⟩⟩
    have e := h.cells (g := G) rfl j (wV x) (by rw [List.getElem?_map, hx]; rfl)
    rw [Addr.add_lit, Nat.zero_add] at e
    exact e
  · have e0 : ys = [] := by cases ys with | nil => rfl | cons => simp at h0
    subst e0
    rcases h.2 with ⟨rfl, -⟩ | ⟨G, cap, cur, rfl, -⟩
    · exact ⟨none, 0, rfl, .inl rfl⟩
    · exact ⟨_, cap, rfl, .inl rfl⟩

theorem bsize {a b : World} (h : Below a.heap.size a b) : a.heap.size ≤ b.heap.size := h.size

section
variable {w w' : World} {S : Sto} {M M' : Nat → Prop} {h h' : List Ob} {sy sy' : List (ByteArray × Nat)} {cb : Nat} {nm : ByteArray} {A : Option Addr} {c : Nat} {xs : List Nat}

set_option maxHeartbeats 2000000 in
theorem chain_any (k : PAt w S M h sy cb nm A c xs) {ws ys : List Nat} (hl : Lst h ws ys 10) (hu : ys.length ≤ used h) :
    Calls Tryz.prog 188 #[.pointer (some ⟨cb, 0, none⟩), .int .u64 (hd ws 10 : Nat)] w (Chained w ys) := by
  obtain ⟨iW, hiW, hW0, hW1, hW2⟩ := info_parts ph_infoW
  obtain ⟨v1, v2, hh, -⟩ := k.st.hp
  have hus : used h ≤ 16777216 := Nat.le_trans hh.room hh.small
  have HUs := hide (fun w1 (hb : Below w.heap.size w w1) => used_any (hh.below hb))
  have HGet := hide (fun w1 (hb : Below w.heap.size w w1) (m : Nat) (o : Ob) (hm : h[m]? = some o) (i x : Nat) (hx : o.ts[i]? = some x) => get_at (hh.below hb) hm hx)
  have HP := hide (And.intro k (And.intro hl hl.len))
  obtain ⟨n, hN⟩ : ∃ n, ys.length = n := ⟨_, rfl⟩
  obtain ⟨us, hU⟩ : ∃ us, used h = us := ⟨_, rfl⟩
  have HN := hide (And.intro hN hU)
  rw [hN, hU] at hu
  rw [hU] at HUs hus
  clear k hh hl hN hU
  go_enter Tryz.func188, Tryz.ntmps188
  go_wp2
  go_loopw [1, 6] (fun p l wr => ∃ (k : Nat) (a : Option Addr) (cp : Nat), k ≤ n ∧ p = .int .u64 (hd (ws.drop k) 10 : Nat) ∧ l = .slice a k cp ∧ Row w (ys.take k) (.slice a k cp) wr ∧ Below w.heap.size w wr) (fun _ l _ => n - slen l)
  case atStart => exact ⟨0, none, 0, Nat.zero_le _, rfl, rfl, ⟨by simp, .inl ⟨rfl, by simp⟩⟩, Below.refl _ _⟩
  case round =>
    obtain ⟨k, a, cp, hk, rfl, rfl, hr, hb⟩ := hrel
    by_cases hlt : k < n
    · obtain ⟨y, hy⟩ : ∃ y, ys[k]? = some y := ⟨_, List.getElem?_eq_getElem (by have := HN.out.1; omega)⟩
      obtain ⟨m, hm, hw1, -⟩ := HP.out.2.1.at_ hy
      rw [hw1]
      have HY := hide (pair_yes (HP.out.1.below hb) hm)
      have HM := hide (And.intro hm (And.intro hy (And.intro hr hb)))
      obtain ⟨p0, -, -, p3⟩ := (HP.out.1.below hb).cells
      obtain ⟨q, hq⟩ : ∃ q, start h m = q := ⟨_, rfl⟩
      have HQ := hide hq
      rw [hq] at HY ⊢
      have hkn : (k : Int) ≤ us := by omega
      clear hm hy hr hb hw1 hq p0 p3
      go_wp2_with (go_at_call 192; fail)
      refine HY.out.mono ?_
      rintro e w1 ⟨rfl, hb1⟩
      have hbw1 := HM.out.2.2.2.trans (hb1.mono HM.out.2.2.2.size)
      have H1 := hide (And.intro hbw1 (HM.out.2.2.1.below hb1))
      obtain ⟨p0, -, -, p3⟩ := (HP.out.1.below hbw1).cells
      clear hb1 hbw1
      go_wp2_with (go_at_call 35; fail)
      refine (HUs.out w1 H1.out.1).mono ?_
      rintro e w2 ⟨rfl, hb2⟩
      have hbw2 := H1.out.1.trans (hb2.mono H1.out.1.size)
      have H2 := hide (And.intro hbw2 (H1.out.2.below hb2))
      clear p0 p3
      obtain ⟨p0, -, -, p3⟩ := (HP.out.1.below hbw2).cells
      have hG0 := HGet.out w2 hbw2 m _ HM.out.1 0 y rfl
      rw [HQ.out] at hG0
      have HG0 := hide hG0
      clear hb2 hbw2 hG0
      go_wp2_with (go_at_call 105; fail)
      refine HG0.out.mono ?_
      rintro e w3 ⟨rfl, hb3⟩
      have hbw3 := H2.out.1.trans (hb3.mono H2.out.1.size)
      have hr3 := H2.out.2.below hb3
      have hown3 := ph_kept (w' := w3.alloc (.cells #[.int .u64 y] 29)) hr3 fun b e => Below.heap_alloc w3 _ b (ph_own hr3 e).2.1
      have hl3 : (ys.take k).length = k := by rw [List.length_take]; have := HN.out.1; omega
      rw [hl3] at hown3
      have HO := hide hown3
      have H3 := hide (And.intro hbw3 hr3)
      have hc3 : (w3.alloc (.cells #[.int .u64 y] 29)).cell? ⟨w3.heap.size, 0, none⟩ = some (.int .u64 y) := by simp
      have HC3 := hide hc3
      have HB3 := hide (show w.heap.size ≤ (w3.alloc (.cells #[.int .u64 y] 29)).heap.size by have := hbw3.size; simp; omega)
      have hk1 : 0 < k + 1 := Nat.succ_pos k
      have hm1 : k + 1 ≤ maxLen := by simp only [maxLen]; omega
      have hm2 : (k + 1) * 8 ≤ 140737488355328 := by omega
      have HMX := hide (And.intro hm1 hm2)
      clear hb3 hbw3 hr3 hl3 hown3 hc3 p0 p3 hm1 hm2
      go_upto_region 5 with (at_builtin; refine wpList_append1 _ rfl (.tmp 37) (.tmp 39) 66 rfl w.heap.size 29 iW _ 8 Tryz.underlying66 hiW hW0 hW1 hW2 rfl (.slice a k cp) k _ rfl HO.out w3.heap.size _ rfl HC3.out rfl HMX.out.1 HMX.out.2 HB3.out ?_; intro v4 w4 hown4 hgrow4; obtain ⟨G, cap, hform, hGB, hGl⟩ := hown4.form hk1; subst hform)
      have hb4 : Below w.heap.size w w4 := below_own (H3.out.1.alloc H3.out.1.size _) hgrow4 HO.out HB3.out
      obtain ⟨p0, -, -, p3⟩ := (HP.out.1.below hb4).cells
      have hG1 := HGet.out w4 hb4 m _ HM.out.1 1 (hd (ws.drop (k + 1)) 10) rfl
      rw [HQ.out] at hG1
      have HG1 := hide hG1
      obtain ⟨nx, hnx⟩ : ∃ nx, hd (ws.drop (k + 1)) 10 = nx := ⟨_, rfl⟩
      rw [hnx] at HG1
      have HNX := hide hnx
      have H4 := hide (And.intro hb4 hown4)
      clear hb4 hown4 hgrow4 hG1 hnx hGB hGl
      go_wp2_with (go_at_call 105; fail)
      refine HG1.out.mono ?_
      rintro e w5 ⟨rfl, hb5⟩
      have H5 := hide hb5
      clear hb5 p0 p3
      go_wp2
      refine ⟨⟨k + 1, some ⟨G, 0, none⟩, cap, by omega, by rw [HNX.out], rfl, ?_, H4.out.1.trans (H5.out.mono H4.out.1.size)⟩, by simp [slen]; omega⟩
      have hts : ys.take (k + 1) = ys.take k ++ [y] := by
        have hyk := (List.getElem?_eq_some_iff.1 HM.out.2.1)
        rw [List.take_succ_eq_append_getElem hyk.1, hyk.2]
      have hown4 := H4.out.2
      show World.ownsRow _ _ _ _ _ (ys.take (k + 1)).length _
      rw [hts, List.map_append, List.length_append, List.length_take, Nat.min_eq_left (by have := HN.out.1; omega)]
      exact ph_kept hown4 fun b e => H5.out.block b (ph_own hown4 e).2.1
    · obtain rfl : k = n := by omega
      have hdr : hd (ws.drop k) 10 = 10 := hd_all ws 10 k (by have := HP.out.2.2; have := HN.out.1; omega)
      rw [hdr]
      have HY := hide (pair_no (HP.out.1.below hb) (p := 10) (by decide) (by rw [headOf_imm (by decide)]; decide))
      have HM := hide (And.intro hr hb)
      clear hr hb hdr
      go_wp2_with (go_at_call 192; fail)
      refine HY.out.mono ?_
      rintro e w1 ⟨rfl, hb1⟩
      have H1 := hide hb1
      clear hb1
      go_wp2
      go_ret2
      obtain ⟨hr, hb⟩ := HM.out
      refine ⟨.slice a k cp, rfl, ?_, hb.trans (H1.out.mono hb.size)⟩
      have e : ys.take k = ys := List.take_of_length_le (by have := HN.out.1; omega)
      rw [e] at hr
      exact hr.below H1.out

end
end Go.Proofs.YtafignheedbnbaaGreatDoor

/-
  The walk of call.tail: a list behind so many pairs.
-/
namespace Go.Proofs.YtafignheedbnbaaGreatDoor
open Go.RowKit Go.BigFrame
set_option linter.unusedSimpArgs false
set_option linter.unusedVariables false

theorem hd_ne {h : List Ob} {ws xs : List Nat} {last : Nat} (q : Lst h ws xs last) (hl : last % 4 ≠ 0) {j k : Nat} (hjk : j < k) (hk : k ≤ ws.length) : hd (ws.drop k) last ≠ hd (ws.drop j) last := by
  have ej : hd (ws.drop j) last = ws[j]'(by omega) := by rw [List.drop_eq_getElem_cons (by omega)]; rfl
  rw [ej]
  obtain ⟨m, o, hm, e⟩ := q.mem (ws[j]'(by omega)) (List.getElem_mem _)
  by_cases hkl : k < ws.length
  · have ek : hd (ws.drop k) last = ws[k] := by rw [List.drop_eq_getElem_cons hkl]; rfl
    rw [ek]
    intro e2
    exact q.inj hl _ j k hjk hkl rfl (by rw [List.getElem?_eq_getElem (by omega), List.getElem?_eq_getElem hkl, e2])
  · rw [hd_all ws last k (by omega), e]
    omega

theorem hd_lt {h : List Ob} {ws xs : List Nat} {last : Nat} (q : Lst h ws xs last) (hl : last < 18446744073709551616) (hu : used h ≤ 16777216) (k : Nat) : hd (ws.drop k) last < 18446744073709551616 := by
  by_cases hkl : k < ws.length
  · have ek : hd (ws.drop k) last = ws[k] := by rw [List.drop_eq_getElem_cons hkl]; rfl
    obtain ⟨m, o, hm, e⟩ := q.mem (ws[k]) (List.getElem_mem _)
    have := start_lt hm
    rw [ek, e]; omega
  · rw [hd_all ws last k (by omega)]; exact hl

section
variable {w w' : World} {S : Sto} {M M' : Nat → Prop} {h h' : List Ob} {sy sy' : List (ByteArray × Nat)} {cb : Nat} {nm : ByteArray} {A : Option Addr} {c : Nat} {xs : List Nat}

set_option maxHeartbeats 2000000 in
theorem tail_any (k : PAt w S M h sy cb nm A c xs) {ws ys : List Nat} (hl : Lst h ws ys 10) (N : Nat) (hN : N ≤ ys.length) (hy : ys.length ≤ 100000) :
    Calls Tryz.prog 196 #[.pointer (some ⟨cb, 0, none⟩), .int .u64 (hd ws 10 : Nat), .int .i64 N] w fun e w' => e = .returned (.tuple #[.int .u64 (hd (ws.drop N) 10 : Nat), .bool true]) ∧ Below w.heap.size w w' := by
  obtain ⟨v1, v2, hh, -⟩ := k.st.hp
  have hus : used h ≤ 16777216 := Nat.le_trans hh.room hh.small
  have HGet := hide (fun w1 (hb : Below w.heap.size w w1) (m : Nat) (o : Ob) (hm : h[m]? = some o) (i x : Nat) (hx : o.ts[i]? = some x) => get_at (hh.below hb) hm hx)
  have HP := hide (And.intro k (And.intro hl hl.len))
  clear k hh hl
  have HY := hide hN
  have hN2 : N ≤ 100000 := by omega
  clear hN hy hus
  go_enter Tryz.func196, Tryz.ntmps196
  go_wp2
  go_loopw [1, 2, 8, 9, 10] (fun p n' mk st pw wr => ∃ k j q : Nat, k ≤ N ∧ j ≤ k ∧ p = .int .u64 (hd (ws.drop k) 10 : Nat) ∧ n' = .int .i64 ((N : Int) - k) ∧ mk = .int .u64 (hd (ws.drop j) 10 : Nat) ∧ st = .int .i64 ((k : Int) - j) ∧ pw = .int .i64 q ∧ 1 ≤ q ∧ q ≤ 2 * k + 1 ∧ Below w.heap.size w wr) (fun _ n' _ _ _ _ => (intOf n').toNat)
  case atStart => exact ⟨0, 0, 1, Nat.zero_le _, Nat.le_refl _, rfl, by simp, rfl, rfl, rfl, by omega, by omega, Below.refl _ _⟩
  case round =>
    obtain ⟨k, j, q, hk, hj, rfl, rfl, rfl, rfl, rfl, hq1, hq2, hb⟩ := hrel
    by_cases hlt : k < N
    · obtain ⟨y, hy⟩ : ∃ y, ys[k]? = some y := ⟨_, List.getElem?_eq_getElem (by have := HY.out; omega)⟩
      obtain ⟨m, hm, hw1, -⟩ := HP.out.2.1.at_ hy
      have hne := hd_ne HP.out.2.1 (by decide) (j := j) (k := k + 1) (by omega) (by have := HY.out; have := HP.out.2.2; omega)
      rw [hw1]
      have HYs := hide (pair_yes (HP.out.1.below hb) hm)
      have HM := hide (And.intro hm hb)
      obtain ⟨p0, -, -, p3⟩ := (HP.out.1.below hb).cells
      obtain ⟨qq, hqq⟩ : ∃ qq, start h m = qq := ⟨_, rfl⟩
      have HQ := hide hqq
      obtain ⟨nx, hnx⟩ : ∃ nx, hd (ws.drop (k + 1)) 10 = nx := ⟨_, rfl⟩
      have HNX := hide hnx
      obtain ⟨mk, hmk⟩ : ∃ mk, hd (ws.drop j) 10 = mk := ⟨_, rfl⟩
      have HMK := hide hmk
      rw [hnx, hmk] at hne
      rw [hqq] at HYs ⊢
      rw [hmk]
      have hne' : ((nx : Int) == (mk : Int)) = false := beq_eq_false_iff_ne.2 (by omega)
      have hgt : (0 : Int) < (N : Int) - k := by omega
      clear hm hy hb hw1 hqq p0 p3 hnx hmk hne
      go_wp2_with (go_at_call 192; fail)
      refine HYs.out.mono ?_
      rintro e w1 ⟨rfl, hb1⟩
      have hbw1 := HM.out.2.trans (hb1.mono HM.out.2.size)
      obtain ⟨p0, -, -, p3⟩ := (HP.out.1.below hbw1).cells
      have hG1 := HGet.out w1 hbw1 m _ HM.out.1 1 (hd (ws.drop (k + 1)) 10) rfl
      rw [HQ.out, HNX.out] at hG1
      have HG1 := hide hG1
      have H1 := hide hbw1
      clear hb1 hbw1 hG1
      go_wp2_with (go_at_call 105; fail)
      refine HG1.out.mono ?_
      rintro e w2 ⟨rfl, hb2⟩
      have H2 := hide (H1.out.trans (hb2.mono H1.out.size))
      clear hb2 p0 p3
      by_cases hst : k + 1 - j = q
      · have hst' : ((k : Int) - j + 1 == (q : Int)) = true := by rw [beq_iff_eq]; omega
        clear hst
        go_wp2
        refine ⟨⟨k + 1, k + 1, 2 * q, by omega, Nat.le_refl _, by rw [HNX.out], ?_, by rw [HNX.out], ?_, ?_, by omega, ?_, H2.out⟩, by simp [intOf]; omega⟩
        · congr 1; omega
        · congr 1; omega
        · congr 1
        · have : ((k : Int) - j + 1) = q := by simpa using hst'
          omega
      · have hst' : ((k : Int) - j + 1 == (q : Int)) = false := beq_eq_false_iff_ne.2 (by omega)
        clear hst
        go_wp2
        refine ⟨⟨k + 1, j, q, by omega, by omega, by rw [HNX.out], ?_, by rw [HMK.out], ?_, rfl, hq1, by omega, H2.out⟩, by simp [intOf]; omega⟩
        · congr 1; omega
        · congr 1; omega
    · obtain rfl : k = N := by omega
      have HB := hide hb
      have hz : (k : Int) - k = 0 := by omega
      rw [hz]
      clear hb hz
      go_wp2
      go_ret2
      exact ⟨rfl, HB.out⟩

end
end Go.Proofs.YtafignheedbnbaaGreatDoor
