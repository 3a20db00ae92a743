/- A verified executor, part XApp: laws of the executor; no condition. -/
import Derived.Test.YtfhjamimbgdfpaaGreatXOpsC
namespace Go.Proofs.YtfhjamimbgdfpaaGreat.X
open Go
set_option linter.unusedVariables false
set_option linter.unusedSimpArgs false

theorem growBy_le (newLen : Nat) : ∀ (r c : Nat), c ≤ 2 * newLen + 768 → Builtin.growBy newLen r c ≤ 2 * newLen + 768
  | 0, c, h => h
  | r + 1, c, h => by
    unfold Builtin.growBy
    split
    · exact h
    · exact growBy_le newLen r _ (by omega)
theorem nextslicecap_le {need old : Nat} (h : old < need) : Builtin.nextslicecap need old ≤ 2 * need + 768 := by
  unfold Builtin.nextslicecap
  split
  · omega
  · split
    · omega
    · exact growBy_le _ _ _ (by omega)
theorem range_map_mod (z : List Value) (hz : 0 < z.length) : ∀ n, (List.range (n * z.length)).map (fun i => z.getD (i % z.length) Go.undef) = (List.replicate n z).flatten
  | 0 => by simp
  | n + 1 => by
    rw [Nat.succ_mul, Nat.add_comm, List.range_add, List.map_append, List.map_map, List.replicate_succ, List.flatten_cons, ← range_map_mod z hz n]
    congr 1
    · apply List.ext_getElem?
      intro i
      by_cases hi : i < z.length
      · simp [hi, Nat.mod_eq_of_lt hi]
      · simp [hi, List.getElem?_eq_none (Nat.le_of_not_lt hi)]
    · apply List.map_congr_left
      intro i _
      simp
theorem range_map_arr (z : Array Value) (hz : 0 < z.size) (n : Nat) : ((Array.range (n * z.size)).map fun i => z[i % z.size]!).toList = (List.replicate n z.toList).flatten := by
  rw [← range_map_mod z.toList (by simpa using hz) n]
  simp only [Array.toList_map, Array.toList_range, Array.length_toList]
  apply List.map_congr_left
  intro i hi
  have : i % z.size < z.size := Nat.mod_lt _ hz
  simp [this]
theorem flatten_replicate_length {α : Type} (z : List α) : ∀ n, (List.replicate n z).flatten.length = n * z.length
  | 0 => by simp
  | n + 1 => by rw [List.replicate_succ, List.flatten_cons, List.length_append, flatten_replicate_length z n, Nat.succ_mul, Nat.add_comm]
theorem VRs.flatten {σ : Sg} {ρ : Ren} {z : List V} {x : List Value} (h : VRs σ ρ z x) : ∀ n, VRs σ ρ (List.replicate n z).flatten (List.replicate n x).flatten
  | 0 => .nil
  | n + 1 => by
    rw [List.replicate_succ, List.replicate_succ, List.flatten_cons, List.flatten_cons]
    exact h.append (h.flatten n)

section
variable {p : Program} {σ : Sg} {ρ : Ren} {F : Fr} {H H' : Hp} {a : Act} {w : World} {v : V} {xo : XO} {o : Oper}

/-- what is appended, or copied from -/
theorem appended_sound (hH : HR σ ρ H w) {sz m : Nat} {y : V} {ry : Value} {vs : List V} (hy : VR σ ρ y ry) (h1 : appended H sz y = some vs) (h2 : lenOf y = some m) :
    ∃ news : List Value, VRs σ ρ vs news ∧ news.length = m * sz ∧ (Builtin.lenOf ry).run p w = .ok m w ∧ (∀ w', w'.heap = w.heap → ∀ k ≤ m, (Builtin.firstCells sz k ry).run p w' = .ok ⟨news.take (k * sz)⟩ w') := by
  unfold appended at h1
  split at h1
  · simp at h1; subst h1
    cases hy with
    | slcN =>
      simp [lenOf] at h2; subst h2
      exact ⟨[], .nil, by simp, by simp [Builtin.lenOf], fun w' hw k hk => by simp [Builtin.firstCells]⟩
  · rename_i b i sz' l c
    simp [lenOf] at h2; subst h2
    have key : ∀ (rb : RB) (x : Addr), ρ b = some rb → (l = 0 ∨ x = ⟨rb.r, rb.b + i, none⟩) → ∃ news : List Value, VRs σ ρ vs news ∧ news.length = l * sz ∧ (∀ w', w'.heap = w.heap → ∀ k ≤ l, (loadCells x (k * sz)).run p w' = .ok ⟨news.take (k * sz)⟩ w') := by
      intro rb x hb hx
      obtain ⟨xs, g1, g2, g3⟩ := hH.loadn h1 hb
      have g2' : xs.length = l * sz := g2
      refine ⟨xs, g1, g2', fun w' hw k hk => ?_⟩
      have hle : k * sz ≤ l * sz := Nat.mul_le_mul_right _ hk
      rcases hx with rfl | rfl
      · obtain rfl : k = 0 := by omega
        have := run_loadCells_list (P := p) w' x [] (by simp)
        simpa using this
      · have := run_loadCells_list (P := p) w' ⟨rb.r, rb.b + i, none⟩ (xs.take (k * sz)) (fun j u hj => by
          have q := g3 j u (by
            rw [List.getElem?_take] at hj
            split at hj
            · exact hj
            · cases hj)
          unfold World.cell? at q ⊢
          rwa [hw])
        rw [List.length_take, g2', Nat.min_eq_left hle] at this
        exact this
    cases hy with
    | slc hb hl hc hn =>
      obtain ⟨news, g1, g2, g3⟩ := key _ _ hb (.inr rfl)
      exact ⟨news, g1, g2, by simp [Builtin.lenOf], fun w' hw k hk => by simpa [Builtin.firstCells] using g3 w' hw k hk⟩
    | slc0 hb hc =>
      obtain ⟨news, g1, g2, g3⟩ := key _ _ hb (.inl rfl)
      exact ⟨news, g1, g2, by simp [Builtin.lenOf], fun w' hw k hk => by simpa [Builtin.firstCells] using g3 w' hw k hk⟩
  · rename_i l n
    obtain ⟨h0, h1'⟩ := bif_some h1
    clear h1
    simp only [beq_iff, decide_eq_true_eq, Option.some.injEq] at h0 h1'
    subst h0
    simp [lenOf] at h2; subst h2
    obtain ⟨s, rfl, rfl, rfl⟩ := hy.str_inv
    subst h1'
    refine ⟨s.data.toList.map fun b => .int .u8 b.toNat, ?_, by simp [← size_data], by simp [Builtin.lenOf], fun w' hw k hk => ?_⟩
    · have := asBytes_spec (σ := σ) (ρ := ρ) s.size s.data.toList 0 (by rw [size_data]; omega)
      simpa using this
    · have e : ((s.extract 0 k).data.map fun b => Value.int .u8 b.toNat) = ⟨(s.data.toList.map fun b => Value.int .u8 b.toNat).take (k * 1)⟩ := by
        apply Array.ext'
        rw [Array.toList_map, Lib.extract_data]
        simp [List.map_take]
      simp only [Builtin.firstCells]
      rw [e]
      rfl
  · cases h1
/-- the real append, into the room that is there -/
theorem run_append_room {sT xT ty e : TypeId} {sz m l cap : Nat} {base : Option Addr} {rx : Value} {news : List Value} {w' : World} (hu : p.underlying sT = some (.slice e)) (hsz : szOf p e = some sz) {dx : TypeDesc} (hx : p.underlying xT = some dx) (hni : ∀ k, dx ≠ .int k)
    (hl : (Builtin.lenOf rx).run p w = .ok m w) (hf : (Builtin.firstCells sz m rx).run p w = .ok ⟨news⟩ w) (hroom : l + m ≤ cap)
    (hst : ∀ x, base = some x → (storeCells (x.add (l * sz)) news).run p w = .ok () w') (hn : base = none → w' = w) :
    (Builtin.append_ #[sT, xT] ty #[.slice base l cap, rx]).run p w = .ok (.slice base (l + m) cap) w' := by
  have hz : (match dx with | .int _ => true | _ => false) = false := by cases dx <;> first | rfl | exact absurd rfl (hni _)
  cases base with
  | none =>
    rw [hn rfl]
    simp only [Builtin.append_, List.getElem?_toArray, List.getElem?_cons_zero, List.getElem?_cons_succ]
    simp [Sem.run_bind, run_und hu, run_und hx, run_size hsz, hl, hf, hroom]
  | some x =>
    simp only [Builtin.append_, List.getElem?_toArray, List.getElem?_cons_zero, List.getElem?_cons_succ]
    simp [Sem.run_bind, run_und hu, run_und hx, run_size hsz, hl, hf, hroom, hst x rfl]
theorem askRoom_run (n : Nat) : (askRoom n).run p w = .ok () w := by
  unfold askRoom
  split <;> simp [mark, Sem.run]
theorem choose_run (q : Question) (h : q.forced = false) : ∃ t, (choose q).run p w = .ok (q.cut t) { w with drawn := w.drawn + 1 } := by
  refine ⟨w.tape w.drawn q, ?_⟩
  simp [choose, Sem.run, h]
/-- the real append, into a new row -/
theorem run_append_new {sT xT ty e : TypeId} {sz m l cap : Nat} {base : Option Addr} {rx rz : Value} {news olds : List Value} {ie : TypeInfo} (hu : p.underlying sT = some (.slice e)) (hie : p.info? e = some ie) (hsz : ie.size = sz) (hz0 : ie.zero = some rz) (hz1 : rz.cells.size = sz) (hpos : 0 < sz) (hby : ie.bytes ≤ 100000) {dx : TypeDesc} (hx : p.underlying xT = some dx) (hni : ∀ k, dx ≠ .int k)
    (hl : (Builtin.lenOf rx).run p w = .ok m w) (hf : ∀ w', w'.heap = w.heap → (Builtin.firstCells sz m rx).run p w' = .ok ⟨news⟩ w') (ho : ∀ w', w'.heap = w.heap → (Builtin.firstCells sz l (.slice base l cap)).run p w' = .ok ⟨olds⟩ w') (hroom : cap < l + m) (hmost : l + m ≤ 1000000000) (hlen : olds.length + news.length = (l + m) * sz) :
    ∃ k, l + m ≤ k ∧ (Builtin.append_ #[sT, xT] ty #[.slice base l cap, rx]).run p w = .ok (.slice (some ⟨w.heap.size, 0, none⟩) (l + m) k) (w.drew.alloc (.cells ⟨(olds ++ news) ++ (List.replicate (k - (l + m)) rz.cells.toList).flatten⟩ e)) := by
  have hfc : (Question.appendCap (l + m) cap e).forced = false := rfl
  have hsz' : (sizeOf e).run p w = .ok sz w := run_size (by simp [szOf, hie, hsz])
  have hti : ∀ w, (typeInfo e).run p w = .ok ie w := fun w => by simp [typeInfo, program, Sem.run_bind, Sem.run, hie]
  have hzv : ∀ w, (zeroValue e).run p w = .ok rz w := fun w => by simp [zeroValue, Sem.run_bind, hti, hz0]
  have hnc := nextslicecap_le hroom
  have hbig : ¬ (2 ^ 48 < Builtin.nextslicecap (l + m) cap * ie.bytes) := by
    have : Builtin.nextslicecap (l + m) cap * ie.bytes ≤ (2 * (l + m) + 768) * 100000 := Nat.mul_le_mul hnc hby
    have h2 : (2 : Nat) ^ 48 = 281474976710656 := by decide
    omega
  have hmax : ¬ (9223372036854775807 < (l : Int) + (m : Int)) := by omega
  refine ⟨Question.cut (.appendCap (l + m) cap e) (w.tape w.drawn (.appendCap (l + m) cap e)), by simp [Question.cut], ?_⟩
  generalize hk : Question.cut (.appendCap (l + m) cap e) (w.tape w.drawn (.appendCap (l + m) cap e)) = k
  have hzc : (Builtin.zeroCells rz.cells (k - (l + m))).toList = (List.replicate (k - (l + m)) rz.cells.toList).flatten := range_map_arr rz.cells (by omega) _
  have hzc' : Builtin.zeroCells rz.cells (k - (l + m)) = ⟨(List.replicate (k - (l + m)) rz.cells.toList).flatten⟩ := by apply Array.ext'; exact hzc
  simp only [Builtin.append_, List.getElem?_toArray, List.getElem?_cons_zero, List.getElem?_cons_succ]
  have hf' := hf w.drew rfl
  have ho' := ho w.drew rfl
  simp [Sem.run_bind, run_und hu, run_und hx, hsz', hl, hti, hzv, hfc, hk, askRoom_run, show ¬ (l + m ≤ cap) from by omega, hmax, hbig, hf', ho', hzc', newRow]
/-- an abstract block anew, where the elder one lay -/
theorem HR.rebase (hH : HR σ ρ H w) {b : P} {cc : Tr V} {cn : Nat} {pl : Bool} (hp : H.get b = some (.cells cc cn pl)) {rb : RB} (hb : ρ b = some rb) (β : Nat) (l : List V) {w' : World}
    (W1 : w'.os = w.os) (W2 : w'.tape = w.tape) (W3 : w'.output = w.output) (W4 : w'.heap.size = w.heap.size) (hoth : ∀ r, r ≠ rb.r → w'.heap[r]? = w.heap[r]?)
    (hat : ∃ cs' e lo hi, w'.heap[rb.r]? = some (.cells cs' e (lo, hi)) ∧ cs'.size = rb.n ∧ (∀ j, j < rb.n → ¬ (lo ≤ j ∧ j < hi)) ∧ ∀ j v, l[j]? = some v → ∃ y, cs'[β + j]? = some y ∧ VR σ ρ v y) :
    HR σ (ρ.add H.next ⟨rb.r, β, rb.n⟩) ((H.kill b).newRow l false) w' ∧ Stp ρ H w (ρ.add H.next ⟨rb.r, β, rb.n⟩) ((H.kill b).newRow l false) w' := by
  obtain ⟨cs', et, lo, hi, r1, r2, q4, r3⟩ := hat
  have hle' : ρ.le (ρ.add H.next ⟨rb.r, β, rb.n⟩) := Ren.add_le hH _
  have hnx : (H.kill b).next = H.next := rfl
  have hother : ∀ q x, q ≠ b → H.get q = some x → ∃ c, ρ q = some c ∧ BlkR σ ρ w c x ∧ c.r ≠ rb.r := fun q x hq hx => by
    obtain ⟨c, hc, hr⟩ := hH.blk q x hx
    exact ⟨c, hc, hr, fun e => hq (hH.inj q b x _ c rb hx hp hc hb e)⟩
  have hget : ∀ q x, ((H.kill b).newRow l false).get q = some x → (q = H.next ∧ x = .cells (rowOf l 0 .lf) l.length false) ∨ (q ≠ H.next ∧ q ≠ b ∧ H.get q = some x) := fun q x hq => by
    unfold Hp.newRow at hq
    rw [Hp.get_new, Hp.get_kill, hnx] at hq
    by_cases e1 : q = H.next
    · rw [if_pos e1] at hq; cases hq; exact .inl ⟨e1, rfl⟩
    · rw [if_neg e1] at hq
      by_cases e2 : q = b
      · rw [if_pos e2] at hq; cases hq
      · rw [if_neg e2] at hq; exact .inr ⟨e1, e2, hq⟩
  have hnext : ((H.kill b).newRow l false).next.toNat = H.next.toNat + 1 := P.toNat_succ _
  refine ⟨⟨?_, ?_, ?_⟩, ⟨W1, W2, W3, by rw [W4]; exact Nat.le_refl _, hle', by omega, ?_, ?_, ?_⟩⟩
  · intro q q' x y c1 c2 hq hq' hc1 hc2 e
    unfold Ren.add at hc1 hc2
    rcases hget q x hq with ⟨e1, -⟩ | ⟨e1, e2, e3⟩ <;> rcases hget q' y hq' with ⟨f1, -⟩ | ⟨f1, f2, f3⟩
    · rw [e1, f1]
    · rw [if_pos e1] at hc1; rw [if_neg f1] at hc2
      cases hc1
      obtain ⟨c, hc, -, hne⟩ := hother q' y f2 f3
      rw [hc] at hc2; cases hc2
      exact absurd e.symm hne
    · rw [if_neg e1] at hc1; rw [if_pos f1] at hc2
      cases hc2
      obtain ⟨c, hc, -, hne⟩ := hother q x e2 e3
      rw [hc] at hc1; cases hc1
      exact absurd e hne
    · rw [if_neg e1] at hc1; rw [if_neg f1] at hc2
      exact hH.inj q q' x y c1 c2 e3 f3 hc1 hc2 e
  · intro q x hq
    rcases hget q x hq with ⟨e1, rfl⟩ | ⟨e1, e2, e3⟩
    · refine ⟨⟨rb.r, β, rb.n⟩, by unfold Ren.add; rw [if_pos e1], cs', et, lo, hi, r1, r2, fun j u hj => ?_, q4, by simp⟩
      rw [rowOf_get] at hj
      by_cases hin : 0 ≤ j ∧ j < 0 + l.length
      · rw [if_pos hin] at hj
        simp only [Nat.sub_zero] at hj
        obtain ⟨y, hy, hyr⟩ := r3 j u hj
        exact ⟨y, hy, hyr.mono hle'⟩
      · rw [if_neg hin] at hj; simp at hj
    · obtain ⟨c, hc, hr1, hne⟩ := hother q x e2 e3
      exact ⟨c, hle' _ _ hc, hr1.mono hle' (hoth _ hne)⟩
  · intro q c hq
    unfold Ren.add at hq
    by_cases e1 : q = H.next
    · rw [e1]; omega
    · rw [if_neg e1] at hq
      have := hH.fresh q c hq
      omega
  · intro q c hq
    unfold Ren.add at hq
    by_cases e1 : q = H.next
    · rw [e1]; exact .inr (by omega)
    · rw [if_neg e1] at hq; exact .inl hq
  · intro q x c hq hc
    unfold Ren.add at hc
    rcases hget q x hq with ⟨e1, -⟩ | ⟨e1, e2, e3⟩
    · rw [if_pos e1] at hc; cases hc
      exact .inr ⟨b, _, rb, hp, hb, rfl⟩
    · rw [if_neg e1] at hc
      exact .inr ⟨q, x, c, e3, hc, rfl⟩
  · intro r hr1 hfr
    exact hoth r (fun e => hfr b _ rb hp hb e.symm)
theorem loadn_live {b : P} {i n : Nat} {l : List V} (h : H.loadn b i n = some l) : ∃ cc cn pl, H.get b = some (.cells cc cn pl) := by
  unfold Hp.loadn at h
  split at h
  · rename_i cc cn pl hp; exact ⟨cc, cn, pl, hp⟩
  · cases h
theorem s_append_core {sz m : Nat} {x : V} {rx rz : Value} {e : TypeId} {vs : List V} {s : Sem Next} {ap : Value → Sem Value} (hs : SgOk σ) (hH : HR σ ρ H w) (hz1 : rz.cells.size = sz) (hpos : 0 < sz)
    (hxr : VR σ ρ x rx) (news : List Value) (hv : VRs σ ρ vs news) (hnl : news.length = m * sz)
    (R1 : ∀ (base : Option Addr) (l cap : Nat) (w' : World), l + m ≤ cap → (∀ x, base = some x → (storeCells (x.add (l * sz)) news).run p w = .ok () w') → (base = none → w' = w) → (ap (.slice base l cap)).run p w = .ok (.slice base (l + m) cap) w')
    (R2 : ∀ (base : Option Addr) (l cap : Nat) (olds : List Value), (∀ w', w'.heap = w.heap → (Builtin.firstCells sz l (.slice base l cap)).run p w' = .ok ⟨olds⟩ w') → cap < l + m → l + m ≤ 1000000000 → olds.length + news.length = (l + m) * sz →
      ∃ k, l + m ≤ k ∧ (ap (.slice base l cap)).run p w = .ok (.slice (some ⟨w.heap.size, 0, none⟩) (l + m) k) (w.drew.alloc (.cells ⟨(olds ++ news) ++ (List.replicate (k - (l + m)) rz.cells.toList).flatten⟩ e)))
    (hrun : ∀ r w', (ap rx).run p w = .ok r w' → s.run p w = .ok (.value r) w') (hd : appendL H sz x vs m = some (v, H')) : Gives p σ s ρ H w v H' := by
  have fresh : ∀ (H1 : Hp) (olds : List V) (rolds : List Value) (base : Option Addr) (l cap : Nat), rx = .slice base l cap → HR σ ρ H1 w → Stp ρ H w ρ H1 w → VRs σ ρ olds rolds → rolds.length = l * sz → (∀ w', w'.heap = w.heap → (Builtin.firstCells sz l (.slice base l cap)).run p w' = .ok ⟨rolds⟩ w') → cap < l + m → l + m ≤ most →
      Gives p σ s ρ H w (.slice (some (H1.next, 0)) sz (l + m) none) (H1.newRow (olds ++ vs) false) := by
    intro H1 olds rolds base l cap hrx hH1 hS hro hrl hfo hcap hmost
    have hlen : rolds.length + news.length = (l + m) * sz := by rw [hrl, hnl, Nat.add_mul]
    obtain ⟨k, hk, hr⟩ := R2 base l cap rolds hfo hcap (by unfold most at hmost; omega) hlen
    rw [← hrx] at hr
    have hr' := hrun _ _ hr
    obtain ⟨g1, g2⟩ := hH1.drew.newRow (w := w.drew) (hro.append hv) (sp := (List.replicate (k - (l + m)) rz.cells.toList).flatten) e false (by simp) 0 0 (fun j _ => by omega) (by simp)
    refine ⟨_, _, _, .inl hr', ?_, g1, hS.trans (Stp.of_drew g2)⟩
    have hn : (rolds ++ news).length + ((List.replicate (k - (l + m)) rz.cells.toList).flatten).length = k * sz := by
      rw [List.length_append, hlen, flatten_replicate_length, Array.length_toList, hz1, ← Nat.add_mul]
      congr 1; omega
    rw [hn]
    have := VR.slc (σ := σ) (ρ := ρ.add H1.next ⟨w.heap.size, 0, k * sz⟩) (p := H1.next) (b := ⟨w.heap.size, 0, k * sz⟩) (i := 0) (sz := sz) (l := l + m) (cap := k) (c := none) (Ren.add_same _ _ _) hk (by simp) (by simp)
    simpa using this
  have hvl := hv.length
  unfold appendL at hd
  split at hd
  ·
    rename_i sz0 l0 c0
    cases hxr with
    | slcN =>
      cases m with
      | zero =>
        simp at hd; obtain ⟨rfl, rfl⟩ := hd
        obtain rfl : news = [] := List.length_eq_zero_iff.1 (by simpa using hnl)
        have := R1 none 0 0 w (by omega) (by simp) (by simp)
        exact .same hH (hrun _ _ this) .slcN
      | succ m =>
        simp only at hd
        obtain ⟨h0, hd'⟩ := bif_some hd
        clear hd
        simp only [Bool.and_eq_true, ble_iff, decide_eq_true_eq] at h0
        simp at hd'; obtain ⟨rfl, rfl⟩ := hd'
        have := fresh H [] [] none 0 0 rfl hH (.refl _ _ _) .nil (by simp) (fun w' hw => by simp [Builtin.firstCells]) (by omega) (by omega)
        simpa using this
  · rename_i b i szx l c
    obtain ⟨h0, hd'⟩ := bif_none hd
    clear hd
    simp only [Bool.not_eq_eq_eq_not, Bool.not_false, Bool.and_eq_true, beq_iff, ble_iff, decide_eq_true_eq] at h0
    obtain ⟨rfl, hmost⟩ := h0
    have loadOld : ∀ (old : List V), H.loadn b i (l * sz) = some old → ∀ (ra : Option Addr) (cap : Nat), rx = .slice ra l cap →
        ∃ rolds, VRs σ ρ old rolds ∧ rolds.length = l * sz ∧ (∀ w', w'.heap = w.heap → (Builtin.firstCells sz l (.slice ra l cap)).run p w' = .ok ⟨rolds⟩ w') := by
      intro old hold ra cap hra
      subst hra
      cases hxr with
      | slc hb hle hcc hn =>
        rename_i rb
        obtain ⟨xs, g1, g2, g3⟩ := hH.loadn hold hb
        refine ⟨xs, g1, g2, fun w' hw => ?_⟩
        have := run_loadCells_list (P := p) w' ⟨rb.r, rb.b + i, none⟩ xs (fun j u hj => by
          have := g3 j u hj
          unfold World.cell? at this ⊢
          rwa [hw])
        rw [g2] at this
        simpa [Builtin.firstCells] using this
      | slc0 hb hcc =>
        rename_i rb xa
        simp only [Nat.zero_mul] at hold ⊢
        obtain ⟨xs, g1, g2, g3⟩ := hH.loadn hold hb
        obtain rfl : xs = [] := List.length_eq_zero_iff.1 g2
        refine ⟨[], g1, rfl, fun w' hw => ?_⟩
        have := run_loadCells_list (P := p) w' xa [] (by simp)
        simpa [Builtin.firstCells] using this
    cases c with
    | some c =>
      simp only at hd'
      by_cases hfit : l + m ≤ c
      · rw [show Nat.ble (l + m) c = true from by rw [ble_iff]; exact decide_eq_true hfit, cond_true] at hd'
        split at hd'
        · rename_i H1 hst
          simp at hd'; obtain ⟨rfl, rfl⟩ := hd'
          cases hxr with
          | slc hb hle hcc hn =>
            rename_i rb cap
            have hcap := hcc c rfl
            obtain ⟨g1, g2, g3, g4, g5⟩ := hH.storen hs hst hb hv
            have hst' := run_storeCells_cells (P := p) rb.r (rb.b + (i + l * sz)) news 0 w (by simpa using g1) (by simpa using g2) g3
            simp only [Nat.add_zero] at hst'
            have := R1 (some ⟨rb.r, rb.b + i, none⟩) l cap (w.setCells rb.r (rb.b + (i + l * sz)) news) (by omega)
              (fun x hx => by cases hx; rw [addr_add, Nat.add_assoc]; exact hst') (by simp)
            refine ⟨_, _, ρ, .inl (hrun _ _ this), ?_, g4, g5⟩
            exact .slc hb (by omega) (fun k hk => by cases hk; exact hcap) hn
          | slc0 hb hcc =>
            rename_i rb xa
            have := hcc c rfl
            obtain rfl : m = 0 := by omega
            obtain rfl : news = [] := List.length_eq_zero_iff.1 (by simpa using hnl)
            obtain ⟨g1, g2, g3, g4, g5⟩ := hH.storen hs hst hb hv
            have := R1 (some xa) 0 0 w (by omega) (fun x hx => by simp [storeCells]) (by simp)
            refine ⟨_, _, ρ, .inl (hrun _ _ this), ?_, g4, g5⟩
            exact .slc0 hb (fun k hk => by cases hk; exact hcc c rfl)
        · cases hd'
      · rw [show Nat.ble (l + m) c = false from by rw [ble_iff]; exact decide_eq_false hfit, cond_false] at hd'
        split at hd'
        · rename_i old hold
          obtain ⟨h1, hd''⟩ := bif_some hd'
          clear hd'
          simp at hd''; obtain ⟨rfl, rfl⟩ := hd''
          cases hxr' : hxr with
          | slc hb hle hcc hn =>
            rename_i rb cap
            obtain ⟨rolds, g1, g2, g3⟩ := loadOld old hold _ _ rfl
            exact fresh H old rolds _ l cap rfl hH (.refl _ _ _) g1 g2 g3 (by have := hcc c rfl; omega) hmost
          | slc0 hb hcc =>
            obtain ⟨rolds, g1, g2, g3⟩ := loadOld old hold _ _ rfl
            exact fresh H old rolds _ 0 0 rfl hH (.refl _ _ _) g1 g2 g3 (by have := hcc c rfl; omega) hmost
        · cases hd'
    | none =>
      simp only at hd'
      split at hd'
      · rename_i old hold
        obtain ⟨h1, hd''⟩ := bif_some hd'
        clear hd'
        simp at hd''; obtain ⟨rfl, rfl⟩ := hd''
        obtain ⟨k1, k2⟩ := hH.kill b
        cases hxr' : hxr with
        | slc hb hle hcc hn =>
          rename_i rb cap
          obtain ⟨rolds, g1, g2, g3⟩ := loadOld old hold _ _ rfl
          by_cases hfit : l + m ≤ cap
          ·
            obtain ⟨cc, cn, pl, hp⟩ := loadn_live hold
            obtain ⟨b', hb', hblk⟩ := hH.blk b _ hp
            rw [hb] at hb'; cases hb'
            have hlt := hblk.lt
            obtain ⟨cs, et, lo, hi, q1, q2, q3, q4, q5⟩ := hblk
            have hsum : rb.b + (i + l * sz) + news.length ≤ cs.size := by
              have : (l + m) * sz ≤ cap * sz := Nat.mul_le_mul_right _ hfit
              rw [Nat.add_mul] at this
              omega
            obtain ⟨cs', r1, r2, r3⟩ := heap_setCells_at rb.r et (lo, hi) news (rb.b + (i + l * sz)) w cs q1 hsum
            have hst' := run_storeCells_cells (P := p) rb.r (rb.b + (i + l * sz)) news 0 w
              (fun j hj => by
                have : rb.b + (i + l * sz) + j < cs.size := by omega
                simp [World.cell?, q1, this])
              (fun j hj => by
                have := q4 (rb.b + (i + l * sz) + 0 + j) (by omega)
                simp only [World.frozen?, q1, Bool.and_eq_false_iff, decide_eq_false_iff_not]
                omega) (ones_sound hs hv h1)
            simp only [Nat.add_zero] at hst'
            have hr := R1 (some ⟨rb.r, rb.b + i, none⟩) l cap (w.setCells rb.r (rb.b + (i + l * sz)) news) hfit
              (fun x hx => by cases hx; rw [addr_add, Nat.add_assoc]; exact hst') (by simp)
            have W := setCells_world rb.r news (rb.b + (i + l * sz)) w
            obtain ⟨z1, z2⟩ := hH.rebase hp hb (rb.b + i) (old ++ vs) W.1 W.2.1 W.2.2.1 W.2.2.2.1 (fun r hr => heap_setCells _ _ _ _ _ hr) ⟨cs', et, lo, hi, r1, by rw [r2]; exact q2, q4, fun j u hj => by
              have hol := g1.length
              obtain ⟨y, hy, hyr⟩ := (g1.append hv).get hj
              refine ⟨y, ?_, hyr⟩
              rw [r3]
              by_cases hjo : j < rolds.length
              · rw [if_neg (by omega)]
                rw [List.getElem?_append_left hjo] at hy
                obtain ⟨xs, z1, z2, z3⟩ := hH.loadn hold hb
                have hcell := g3 w rfl
                have hload := run_loadCells_list (P := p) w ⟨rb.r, rb.b + i, none⟩ xs z3
                rw [z2] at hload
                simp [Builtin.firstCells, hload] at hcell
                subst hcell
                have := z3 j y hy
                rw [addr_add] at this
                simpa [World.cell?, q1] using this
              · rw [List.getElem?_append_right (by omega)] at hy
                have := (List.getElem?_eq_some_iff.1 hy).1
                rw [if_pos (by omega), show rb.b + i + j - (rb.b + (i + l * sz)) = j - rolds.length from by omega]
                exact hy⟩
            refine ⟨_, _, _, .inl (hrun _ _ hr), ?_, z1, z2⟩
            have := VR.slc (σ := σ) (ρ := ρ.add H.next ⟨rb.r, rb.b + i, rb.n⟩) (p := H.next) (b := ⟨rb.r, rb.b + i, rb.n⟩) (i := 0) (sz := sz) (l := l + m) (cap := cap) (c := none) (Ren.add_same _ _ _) hfit (by simp) (by simpa using hn)
            simpa using this
          · have := fresh (H.kill b) old rolds _ l cap rfl k1 k2 g1 g2 g3 (by omega) hmost
            exact this
        | slc0 hb hcc =>
          rename_i rb xa
          obtain ⟨rolds, g1, g2, g3⟩ := loadOld old hold _ _ rfl
          by_cases hm : m = 0
          · subst hm
            obtain rfl : news = [] := List.length_eq_zero_iff.1 (by simpa using hnl)
            obtain rfl : rolds = [] := List.length_eq_zero_iff.1 (by simpa using g2)
            obtain rfl : old = [] := List.length_eq_zero_iff.1 (by simpa using g1.length)
            obtain rfl : vs = [] := List.length_eq_zero_iff.1 (by simpa using hvl)
            have hr := R1 (some xa) 0 0 w (by omega) (fun x hx => by simp [storeCells]) (by simp)
            obtain ⟨cc, cn, pl, hp⟩ := loadn_live hold
            obtain ⟨b', hb', hblk⟩ := hH.blk b _ hp
            rw [hb] at hb'; cases hb'
            obtain ⟨cs, et, lo, hi, q1, q2, q3, q4, q5⟩ := hblk
            obtain ⟨z1, z2⟩ := hH.rebase hp hb rb.b ([] ++ []) rfl rfl rfl rfl (fun _ _ => rfl) ⟨cs, et, lo, hi, q1, q2, q4, by simp⟩
            exact ⟨_, _, _, .inl (hrun _ _ hr), .slc0 (Ren.add_same _ _ _) (by simp), z1, z2⟩
          · exact fresh (H.kill b) old rolds _ 0 0 rfl k1 k2 g1 g2 g3 (by omega) hmost
      · cases hd'
  · cases hd
end
end Go.Proofs.YtfhjamimbgdfpaaGreat.X
