/- A verified executor of the program's code, part XOps; no condition. -/
import Derived.Test.YtafignheedbnbaaGreatDoorXOpsF
namespace Go.Proofs.YtafignheedbnbaaGreatDoor.X
open Go
set_option linter.unusedVariables false
set_option linter.unusedSimpArgs false
section
variable {p : Program} {σ : Sg} {ρ : Ren} {F : Fr} {H H' : Hp} {a : Act} {w : World} {v : V} {xo : XO} {o : Oper}

theorem s_convert {src dst : TypeId} {x : Operand} (ho : o.op = .convert src dst x) (hc : cPlain p o = some xo) (hF : FR σ ρ F a) (hH : HR σ ρ H w) (hd : doX xo F H = some (v, H')) : Gives p σ (execOp a.eval o) ρ H w v H' := by
  simp only [cPlain, ho, Option.bind_eq_bind, Option.bind_eq_some_iff] at hc
  obtain ⟨x', hx, hc⟩ := hc
  split at hc
  · rename_i j k h1 h2; simp at hc; subst hc; exact GivesQ.gives <| s_toInt ho h1 h2 hx hF hH hd
  · rename_i h1 h2; simp at hc; subst hc; exact GivesQ.gives <| s_same ho h1 h2 hx hF hH hd
  · rename_i e h1 h2
    split at hc
    · rename_i h3; simp at hc; subst hc; exact s_toBytes ho h1 h2 h3 hx hF hH hd
    · cases hc
  · rename_i e h1 h2
    split at hc
    · rename_i h3; simp at hc; subst hc; exact GivesQ.gives <| s_toStr ho h1 h2 h3 hx hF hH hd
    · cases hc
  · cases hc
theorem s_binOp {op : BinOp} {t t' : TypeId} {x y : Operand} (ho : o.op = .binOp op t x y t') (hc : cPlain p o = some xo) (hF : FR σ ρ F a) (hH : HR σ ρ H w) (hd : doX xo F H = some (v, H')) : Gives p σ (execOp a.eval o) ρ H w v H' := by
  simp only [cPlain, ho, Option.bind_eq_bind, Option.bind_eq_some_iff] at hc
  obtain ⟨x', hx, y', hy, hc⟩ := hc
  split at hc
  · simp at hc; subst hc; exact GivesQ.gives <| s_bin ho hx hy hF hH hd
  · simp at hc; subst hc; exact GivesQ.gives <| s_bin ho hx hy hF hH hd
  · simp at hc; subst hc; exact GivesQ.gives <| s_bin ho hx hy hF hH hd
  · simp at hc; subst hc; exact GivesQ.gives <| s_bin ho hx hy hF hH hd
  · split at hc
    · cases hc
    · rename_i hg
      simp [Option.bind_eq_some_iff] at hc
      obtain ⟨k, hk, rfl⟩ := hc
      exact GivesQ.gives <| s_eq (.inl ⟨rfl, rfl⟩) ho hk (fun k e => by simp_all) (fun e => by simp_all) (by simpa using hg) hx hy hF hH hd
  · split at hc
    · cases hc
    · rename_i hg
      simp [Option.bind_eq_some_iff] at hc
      obtain ⟨k, hk, rfl⟩ := hc
      exact GivesQ.gives <| s_eq (.inr ⟨rfl, rfl⟩) ho hk (fun k e => by simp_all) (fun e => by simp_all) (by simpa using hg) hx hy hF hH hd
  · simp at hc; subst hc; exact GivesQ.gives <| s_bin ho hx hy hF hH hd
  · simp at hc; subst hc; exact GivesQ.gives <| s_bin ho hx hy hF hH hd
  · cases hc
theorem s_builtin {c : Call} {b : Builtin} (hs : SgOk σ) (ho : o.op = .call c) (hb : c.callee = .builtin b) (hc : cPlain p o = some xo) (hF : FR σ ρ F a) (hH : HR σ ρ H w) (hd : doX xo F H = some (v, H')) : Gives p σ (execOp a.eval o) ρ H w v H' := by
  simp only [cPlain, ho, hb] at hc
  split at hc
  · rename_i x t ha ht
    simp only [Option.bind_eq_bind, Option.bind_eq_some_iff] at hc
    obtain ⟨y, hy, hc⟩ := hc
    split at hc
    · rename_i hu; simp at hc; subst hc
      exact GivesQ.gives <| s_len ho hb ha ht (fun _ => hu) (by simp) (by simp) hy hF hH hd
    · rename_i e hu; simp at hc; subst hc
      exact GivesQ.gives <| s_len ho hb ha ht (by simp) (fun _ => ⟨e, hu⟩) (by simp) hy hF hH hd
    · rename_i k e hu; simp at hc; subst hc
      exact GivesQ.gives <| s_len ho hb ha ht (by simp) (by simp) (fun _ => ⟨k, e, hu⟩) hy hF hH hd
    · rename_i n e hu
      simp at hc; subst hc
      simp only [doX, ev, Option.some.injEq, Prod.mk.injEq] at hd; obtain ⟨rfl, rfl⟩ := hd
      refine .same hH (x := .int .i64 n) ?_ (.int _ _)
      rw [exec_builtin ho hb, args_one ha, types_one ht]
      refine run_v ?_
      simp [Builtin.len_, Sem.run_bind, run_und hu, goInt]
    · cases hc
  · rename_i x y t u ha ht
    split at hc
    · rename_i e k0 hu hdu
      simp only [Option.bind_eq_bind, Option.bind_eq_some_iff] at hc
      obtain ⟨sz, hsz, z, hz, hc⟩ := hc
      split at hc
      · simp at hc
      · rename_i hcond
        simp [Option.bind_eq_some_iff] at hc hcond
        obtain ⟨x', hx, y', hy, rfl⟩ := hc
        exact s_appendz hs ho hb ha ht hu hdu hsz hz hcond.1.1 hcond.1.2 hcond.2 hx hy hF hH hd
    · rename_i e du hni hu hdu
      simp only [Option.bind_eq_bind, Option.bind_eq_some_iff] at hc
      obtain ⟨sz, hsz, z, hz, hc⟩ := hc
      split at hc
      · simp at hc
      · rename_i hcond
        simp [Option.bind_eq_some_iff] at hc hcond
        obtain ⟨x', hx, y', hy, rfl⟩ := hc
        exact s_append hs ho hb ha ht hu hdu (fun k e => hni k e) hsz hz hcond.1.1 hcond.1.2 hcond.2 hx hy hF hH hd
    · cases hc
  · rename_i x y t u ha ht
    split at hc
    · rename_i e hu
      simp only [Option.bind_eq_bind, Option.bind_eq_some_iff] at hc
      obtain ⟨sz, hsz, hc⟩ := hc
      split at hc
      · simp at hc
      · simp [Option.bind_eq_some_iff] at hc
        obtain ⟨x', hx, y', hy, rfl⟩ := hc
        exact s_copy hs ho hb ha ht hu hsz hx hy hF hH hd
    · cases hc
  · simp [Option.bind_eq_some_iff] at hc
    obtain ⟨l, hl, rfl⟩ := hc
    exact GivesQ.gives <| s_min ho hb hl hF hH hd
  · simp [Option.bind_eq_some_iff] at hc
    obtain ⟨l, hl, rfl⟩ := hc
    exact GivesQ.gives <| s_max ho hb hl hF hH hd
  · cases hc
theorem doX_sound (hs : SgOk σ) (hp : σ.prog = p) (hc : cPlain p o = some xo) (hF : FR σ ρ F a) (hH : HR σ ρ H w) (hd : doX xo F H = some (v, H')) : Gives p σ (execOp a.eval o) ρ H w v H' := by
  cases ho : o.op with
  | move x =>
    simp [cPlain, ho] at hc; obtain ⟨y, hy, rfl⟩ := hc
    exact GivesQ.gives <| s_mv (by simp only [execOp, ho]) hy hF hH hd
  | assign x =>
    simp [cPlain, ho] at hc; obtain ⟨y, hy, rfl⟩ := hc
    exact GivesQ.gives <| s_mv (by simp only [execOp, ho]) hy hF hH hd
  | pick c x y => exact GivesQ.gives <| s_pick ho hc hF hH hd
  | alloc e => exact s_alloc hs ho hc hH hd
  | box e x => exact s_box hs ho hc hF hH hd
  | build t ps => exact GivesQ.gives <| s_build hs ho hc hF hH hd
  | buildSlice t n ps =>
    simp only [cPlain, ho] at hc
    split at hc
    · rename_i e hu
      simp only [Option.bind_eq_bind, Option.bind_eq_some_iff] at hc
      obtain ⟨sz, hsz, z, hz, hc⟩ := hc
      split at hc
      · simp at hc
      · rename_i hcond
        simp [Option.bind_eq_some_iff] at hc hcond
        obtain ⟨qs, hq, rfl⟩ := hc
        exact s_bslice hs ho hu hsz hz hcond.1.1 hcond.2 (by have e : (2:Nat)^20 = 1048576 := by decide
                                                             rw [e]; exact hcond.1.2) hq hF hH hd
    · cases hc
  | load t x => exact GivesQ.gives <| s_load ho hc hF hH hd
  | store t x y => exact s_store hs ho hc hF hH hd
  | nilCheck x => exact GivesQ.gives <| s_nilck hp ho hc hF hH hd
  | binOp op t x y t' => exact s_binOp ho hc hF hH hd
  | unOp op t x => exact GivesQ.gives <| s_un ho hc hF hH hd
  | convert src dst x => exact s_convert ho hc hF hH hd
  | makeInterface t x => exact GivesQ.gives <| s_iface ho hc hF hH hd
  | makeFunc fn x y => exact GivesQ.gives <| s_func hp ho hc hF hH hd
  | makeMap t r =>
    simp only [cPlain, ho] at hc
    split at hc
    · simp at hc; subst hc; exact s_mkmap ho (.inl rfl) hH hd
    · rename_i j n
      split at hc
      · rename_i k e hu; simp at hc; subst hc; exact s_mkmap ho (.inr ⟨j, n, k, e, rfl, hu⟩) hH hd
      · cases hc
    · cases hc
  | makeSlice t l c =>
    simp only [cPlain, ho] at hc
    split at hc
    · rename_i e hu
      simp only [Option.bind_eq_bind, Option.bind_eq_some_iff] at hc
      obtain ⟨sz, hsz, z, hz, hc⟩ := hc
      split at hc
      · simp at hc
      · rename_i hcond
        simp [Option.bind_eq_some_iff] at hc hcond
        obtain ⟨l', hl, c', hc', rfl⟩ := hc
        exact s_mkslice hs ho hu hsz hz hcond.1.1 hcond.1.2 hcond.2 hl hc' hF hH hd
    · cases hc
  | slice t x lo hi mx => exact GivesQ.gives <| s_slice ho hc hF hH hd
  | fieldAddr t x i => exact GivesQ.gives <| s_faddr ho hc hF hH hd
  | field t x i => exact GivesQ.gives <| s_field ho hc hF hH hd
  | indexAddr t x i => exact GivesQ.gives <| s_iaddr ho hc hF hH hd
  | index t x i => exact GivesQ.gives <| s_index ho hc hF hH hd
  | lookup t m k ok =>
    simp only [cPlain, ho] at hc
    split at hc
    · rename_i kt e hu
      simp only [Option.bind_eq_bind, Option.bind_eq_some_iff] at hc
      obtain ⟨q, hq, hc⟩ := hc
      split at hc
      · simp at hc
      · rename_i hk
        simp [Option.bind_eq_some_iff] at hc hk
        obtain ⟨z, hz, m', hm, k', hk', rfl⟩ := hc
        exact GivesQ.gives <| s_lookup ho hu hq hk hz hm hk' hF hH hd
    · cases hc
  | mapUpdate t m k x =>
    simp only [cPlain, ho] at hc
    split at hc
    · rename_i kt e hu
      simp only [Option.bind_eq_bind, Option.bind_eq_some_iff] at hc
      obtain ⟨q, hq, hc⟩ := hc
      split at hc
      · simp at hc
      · rename_i hk
        simp [Option.bind_eq_some_iff] at hc hk
        obtain ⟨m', hm, k', hk', x', hx, rfl⟩ := hc
        exact s_mapset (.inl ho) hu hq hk hm hk' hx hF hH hd
    · cases hc
  | insert t m k x =>
    simp only [cPlain, ho] at hc
    split at hc
    · rename_i kt e hu
      simp only [Option.bind_eq_bind, Option.bind_eq_some_iff] at hc
      obtain ⟨q, hq, hc⟩ := hc
      split at hc
      · simp at hc
      · rename_i hk
        simp [Option.bind_eq_some_iff] at hc hk
        obtain ⟨m', hm, k', hk', x', hx, rfl⟩ := hc
        exact s_mapset (.inr ho) hu hq hk hm hk' hx hF hH hd
    · cases hc
  | extract x n => exact GivesQ.gives <| s_ext ho hc hF hH hd
  | call c =>
    cases hcc : c.callee with
    | builtin b => exact s_builtin hs ho hcc hc hF hH hd
    | invoke r m => simp [cPlain, ho, hcc] at hc
    | value f => simp [cPlain, ho, hcc] at hc
  | _ => simp [cPlain, ho] at hc
end
end Go.Proofs.YtafignheedbnbaaGreatDoor.X
namespace Go.Proofs.YtafignheedbnbaaGreatDoor.X
open Go
set_option linter.unusedVariables false
set_option linter.unusedSimpArgs false
section
variable {p : Program} {σ : Sg} {ρ : Ren} {F : Fr} {H H' : Hp} {a : Act} {w : World} {v : V} {xo : XO} {o : Oper}

theorem q_convert {src dst : TypeId} {x : Operand} (ho : o.op = .convert src dst x) (hc : cPlain p o = some xo) (hF : FR σ ρ F a) (hH : HR σ ρ H w) (hd : doX xo F H = some (v, H')) (hk0 : xo.kind ≤ 1) : GivesQ p σ (execOp a.eval o) ρ H w v H' := by
  simp only [cPlain, ho, Option.bind_eq_bind, Option.bind_eq_some_iff] at hc
  obtain ⟨x', hx, hc⟩ := hc
  split at hc
  · rename_i j k h1 h2; simp at hc; subst hc; exact s_toInt ho h1 h2 hx hF hH hd
  · rename_i h1 h2; simp at hc; subst hc; exact s_same ho h1 h2 hx hF hH hd
  · rename_i e h1 h2
    split at hc
    · rename_i h3; simp at hc; subst hc; simp [XO.kind] at hk0
    · cases hc
  · rename_i e h1 h2
    split at hc
    · rename_i h3; simp at hc; subst hc; exact s_toStr ho h1 h2 h3 hx hF hH hd
    · cases hc
  · cases hc
theorem q_binOp {op : BinOp} {t t' : TypeId} {x y : Operand} (ho : o.op = .binOp op t x y t') (hc : cPlain p o = some xo) (hF : FR σ ρ F a) (hH : HR σ ρ H w) (hd : doX xo F H = some (v, H')) (hk0 : xo.kind ≤ 1) : GivesQ p σ (execOp a.eval o) ρ H w v H' := by
  simp only [cPlain, ho, Option.bind_eq_bind, Option.bind_eq_some_iff] at hc
  obtain ⟨x', hx, y', hy, hc⟩ := hc
  split at hc
  · simp at hc; subst hc; exact s_bin ho hx hy hF hH hd
  · simp at hc; subst hc; exact s_bin ho hx hy hF hH hd
  · simp at hc; subst hc; exact s_bin ho hx hy hF hH hd
  · simp at hc; subst hc; exact s_bin ho hx hy hF hH hd
  · split at hc
    · cases hc
    · rename_i hg
      simp [Option.bind_eq_some_iff] at hc
      obtain ⟨k, hk, rfl⟩ := hc
      exact s_eq (.inl ⟨rfl, rfl⟩) ho hk (fun k e => by simp_all) (fun e => by simp_all) (by simpa using hg) hx hy hF hH hd
  · split at hc
    · cases hc
    · rename_i hg
      simp [Option.bind_eq_some_iff] at hc
      obtain ⟨k, hk, rfl⟩ := hc
      exact s_eq (.inr ⟨rfl, rfl⟩) ho hk (fun k e => by simp_all) (fun e => by simp_all) (by simpa using hg) hx hy hF hH hd
  · simp at hc; subst hc; exact s_bin ho hx hy hF hH hd
  · simp at hc; subst hc; exact s_bin ho hx hy hF hH hd
  · cases hc
theorem q_builtin {c : Call} {b : Builtin} (hs : SgOk σ) (ho : o.op = .call c) (hb : c.callee = .builtin b) (hc : cPlain p o = some xo) (hF : FR σ ρ F a) (hH : HR σ ρ H w) (hd : doX xo F H = some (v, H')) (hk0 : xo.kind ≤ 1) : GivesQ p σ (execOp a.eval o) ρ H w v H' := by
  simp only [cPlain, ho, hb] at hc
  split at hc
  · rename_i x t ha ht
    simp only [Option.bind_eq_bind, Option.bind_eq_some_iff] at hc
    obtain ⟨y, hy, hc⟩ := hc
    split at hc
    · rename_i hu; simp at hc; subst hc
      exact s_len ho hb ha ht (fun _ => hu) (by simp) (by simp) hy hF hH hd
    · rename_i e hu; simp at hc; subst hc
      exact s_len ho hb ha ht (by simp) (fun _ => ⟨e, hu⟩) (by simp) hy hF hH hd
    · rename_i k e hu; simp at hc; subst hc
      exact s_len ho hb ha ht (by simp) (by simp) (fun _ => ⟨k, e, hu⟩) hy hF hH hd
    · rename_i n e hu
      simp at hc; subst hc
      simp only [doX, ev, Option.some.injEq, Prod.mk.injEq] at hd; obtain ⟨rfl, rfl⟩ := hd
      refine .same hH (x := .int .i64 n) ?_ (.int _ _)
      rw [exec_builtin ho hb, args_one ha, types_one ht]
      refine run_v ?_
      simp [Builtin.len_, Sem.run_bind, run_und hu, goInt]
    · cases hc
  · rename_i x y t u ha ht
    split at hc
    · rename_i e k0 hu hdu
      simp only [Option.bind_eq_bind, Option.bind_eq_some_iff] at hc
      obtain ⟨sz, hsz, z, hz, hc⟩ := hc
      split at hc
      · simp at hc
      · rename_i hcond
        simp [Option.bind_eq_some_iff] at hc hcond
        obtain ⟨x', hx, y', hy, rfl⟩ := hc
        simp [XO.kind] at hk0
    · rename_i e du hni hu hdu
      simp only [Option.bind_eq_bind, Option.bind_eq_some_iff] at hc
      obtain ⟨sz, hsz, z, hz, hc⟩ := hc
      split at hc
      · simp at hc
      · rename_i hcond
        simp [Option.bind_eq_some_iff] at hc hcond
        obtain ⟨x', hx, y', hy, rfl⟩ := hc
        simp [XO.kind] at hk0
    · cases hc
  · rename_i x y t u ha ht
    split at hc
    · rename_i e hu
      simp only [Option.bind_eq_bind, Option.bind_eq_some_iff] at hc
      obtain ⟨sz, hsz, hc⟩ := hc
      split at hc
      · simp at hc
      · simp [Option.bind_eq_some_iff] at hc
        obtain ⟨x', hx, y', hy, rfl⟩ := hc
        simp [XO.kind] at hk0
    · cases hc
  · simp [Option.bind_eq_some_iff] at hc
    obtain ⟨l, hl, rfl⟩ := hc
    exact s_min ho hb hl hF hH hd
  · simp [Option.bind_eq_some_iff] at hc
    obtain ⟨l, hl, rfl⟩ := hc
    exact s_max ho hb hl hF hH hd
  · cases hc
theorem doX_quiet (hs : SgOk σ) (hp : σ.prog = p) (hc : cPlain p o = some xo) (hF : FR σ ρ F a) (hH : HR σ ρ H w) (hd : doX xo F H = some (v, H')) (hk0 : xo.kind ≤ 1) : GivesQ p σ (execOp a.eval o) ρ H w v H' := by
  cases ho : o.op with
  | move x =>
    simp [cPlain, ho] at hc; obtain ⟨y, hy, rfl⟩ := hc
    exact s_mv (by simp only [execOp, ho]) hy hF hH hd
  | assign x =>
    simp [cPlain, ho] at hc; obtain ⟨y, hy, rfl⟩ := hc
    exact s_mv (by simp only [execOp, ho]) hy hF hH hd
  | pick c x y => exact s_pick ho hc hF hH hd
  | alloc e => simp [cPlain, ho, Option.bind_eq_some_iff] at hc; obtain ⟨z, hz, rfl⟩ := hc; simp [XO.kind] at hk0
  | box e x => simp [cPlain, ho, Option.bind_eq_some_iff] at hc; obtain ⟨z, hz, y, hy, rfl⟩ := hc; simp [XO.kind] at hk0
  | build t ps => exact s_build hs ho hc hF hH hd
  | buildSlice t n ps =>
    simp only [cPlain, ho] at hc
    split at hc
    · rename_i e hu
      simp only [Option.bind_eq_bind, Option.bind_eq_some_iff] at hc
      obtain ⟨sz, hsz, z, hz, hc⟩ := hc
      split at hc
      · simp at hc
      · rename_i hcond
        simp [Option.bind_eq_some_iff] at hc hcond
        obtain ⟨qs, hq, rfl⟩ := hc
        simp [XO.kind] at hk0
    · cases hc
  | load t x => exact s_load ho hc hF hH hd
  | store t x y => simp [cPlain, ho, Option.bind_eq_some_iff] at hc; obtain ⟨z, hz, y, hy, u, hu, rfl⟩ := hc; simp [XO.kind] at hk0
  | nilCheck x => exact s_nilck hp ho hc hF hH hd
  | binOp op t x y t' => exact q_binOp ho hc hF hH hd hk0
  | unOp op t x => exact s_un ho hc hF hH hd
  | convert src dst x => exact q_convert ho hc hF hH hd hk0
  | makeInterface t x => exact s_iface ho hc hF hH hd
  | makeFunc fn x y => exact s_func hp ho hc hF hH hd
  | makeMap t r =>
    simp only [cPlain, ho] at hc
    split at hc
    · simp at hc; subst hc; simp [XO.kind] at hk0
    · split at hc
      · simp at hc; subst hc; simp [XO.kind] at hk0
      · cases hc
    · cases hc
  | makeSlice t l c =>
    simp only [cPlain, ho] at hc
    split at hc
    · rename_i e hu
      simp only [Option.bind_eq_bind, Option.bind_eq_some_iff] at hc
      obtain ⟨sz, hsz, z, hz, hc⟩ := hc
      split at hc
      · simp at hc
      · rename_i hcond
        simp [Option.bind_eq_some_iff] at hc hcond
        obtain ⟨l', hl, c', hc', rfl⟩ := hc
        simp [XO.kind] at hk0
    · cases hc
  | slice t x lo hi mx => exact s_slice ho hc hF hH hd
  | fieldAddr t x i => exact s_faddr ho hc hF hH hd
  | field t x i => exact s_field ho hc hF hH hd
  | indexAddr t x i => exact s_iaddr ho hc hF hH hd
  | index t x i => exact s_index ho hc hF hH hd
  | lookup t m k ok =>
    simp only [cPlain, ho] at hc
    split at hc
    · rename_i kt e hu
      simp only [Option.bind_eq_bind, Option.bind_eq_some_iff] at hc
      obtain ⟨q, hq, hc⟩ := hc
      split at hc
      · simp at hc
      · rename_i hk
        simp [Option.bind_eq_some_iff] at hc hk
        obtain ⟨z, hz, m', hm, k', hk', rfl⟩ := hc
        exact s_lookup ho hu hq hk hz hm hk' hF hH hd
    · cases hc
  | mapUpdate t m k x =>
    simp only [cPlain, ho] at hc
    split at hc
    · rename_i kt e hu
      simp only [Option.bind_eq_bind, Option.bind_eq_some_iff] at hc
      obtain ⟨q, hq, hc⟩ := hc
      split at hc
      · simp at hc
      · rename_i hk
        simp [Option.bind_eq_some_iff] at hc hk
        obtain ⟨m', hm, k', hk', x', hx, rfl⟩ := hc
        simp [XO.kind] at hk0
    · cases hc
  | insert t m k x =>
    simp only [cPlain, ho] at hc
    split at hc
    · rename_i kt e hu
      simp only [Option.bind_eq_bind, Option.bind_eq_some_iff] at hc
      obtain ⟨q, hq, hc⟩ := hc
      split at hc
      · simp at hc
      · rename_i hk
        simp [Option.bind_eq_some_iff] at hc hk
        obtain ⟨m', hm, k', hk', x', hx, rfl⟩ := hc
        simp [XO.kind] at hk0
    · cases hc
  | extract x n => exact s_ext ho hc hF hH hd
  | call c =>
    cases hcc : c.callee with
    | builtin b => exact q_builtin hs ho hcc hc hF hH hd hk0
    | invoke r m => simp [cPlain, ho, hcc] at hc
    | value f => simp [cPlain, ho, hcc] at hc
  | _ => simp [cPlain, ho] at hc
end
end Go.Proofs.YtafignheedbnbaaGreatDoor.X
