/- The way through the code: what a call ends in. -/
import Derived.Test.YtolheapnopmhgaaGreatDoorSim4
import Derived.RangeFuncLeaves
import Derived.Laws.Sem
set_option linter.all false
namespace Go.Proofs.YtolheapnopmhgaaGreatDoor
open Go

section
variable {C : Ctx} {ρ : Sym} {base : Nat} {w0 : World}

structure St (C : Ctx) (ρ : Sym) (base : Nat) (w0 : World) (N : Nat) (Φ : Env) (E : A) (a : Act) (h : H) (w : World) : Prop where
  ar : AR ρ Φ (fun _ => False) E a
  hr : HR C.odd ρ Φ base h w
  gr : GR C Φ
  fr : Fr base w0 w
  df : DefR ρ Φ E.d a.defers
  sz : a.tmps.size = N
def KRel (C : Ctx) (ρ : Sym) (base : Nat) (w0 : World) (N : Nat) (Φ0 : Env) (n0 : Nat) (k : K) (Q : Exit → Act → World → Prop) : Prop :=
  ∀ e Φ E a h w, Fw Φ0 n0 Φ h.n → St C ρ base w0 N Φ E a h w → k e E h = true → Q e a w
def KVRel (C : Ctx) (ρ : Sym) (base : Nat) (w0 : World) (Φ0 : Env) (n0 : Nat) (k : KV) (R : Value → World → Prop) : Prop :=
  ∀ v Φ h x w, Fw Φ0 n0 Φ h.n → HR C.odd ρ Φ base h w → GR C Φ → Fr base w0 w → den ρ Φ v = some x → k v h = true → R x w
theorem KRel.fw {N : Nat} {Φ0 Φ : Env} {n0 n : Nat} {k : K} {Q : Exit → Act → World → Prop} (hk : KRel C ρ base w0 N Φ0 n0 k Q) (hf : Fw Φ0 n0 Φ n) : KRel C ρ base w0 N Φ n k Q :=
  fun e Φ' E a h w h1 h2 h3 => hk e Φ' E a h w (hf.trans h1) h2 h3
theorem KVRel.fw {Φ0 Φ : Env} {n0 n : Nat} {k : KV} {R : Value → World → Prop} (hk : KVRel C ρ base w0 Φ0 n0 k R) (hf : Fw Φ0 n0 Φ n) : KVRel C ρ base w0 Φ n k R :=
  fun v Φ' h x w h1 h2 h3 h4 h5 h6 => hk v Φ' h x w (hf.trans h1) h2 h3 h4 h5 h6
/-- What is asked of the program, once. -/
structure ProgOk (C : Ctx) (ρ : Sym) (base : Nat) (w0 : World) : Prop where
  bin : BinR C ρ
  mixed : C.P.follows .mixedOrders = true
  name : ∀ (f : Nat) fn, C.P.funcs[f]? = some fn → (fn.name == "runtime.NumGoroutine") = false
  code : ∀ (f : Nat) fn c, C.P.funcs[f]? = some fn → fn.body = some c → codeOk C.odd fn.ntmps c = true
  known : ∀ (f : Nat) (args : List V) (h : H) (v : V), C.known f args h = some v → (∃ fn, C.P.funcs[f]? = some fn ∧ fn.body.isSome = true) ∧ ∀ (Φ : Env) (w : World) (args' : List Value), HR C.odd ρ Φ base h w → Fr base w0 w → Two (fun v x => den ρ Φ v = some x) args args' →
    Calls C.P f args'.toArray w fun e w' => ∃ x, e = .returned x ∧ den ρ Φ v = some x ∧ Fr w.heap.size w w'

/-! Results. -/
variable {Φ : Env} {E : A} {a : Act} {h : H} {w : World}
def resSem (tmps : Array Value) : ResultVar → Sem Value
  | .tmp t => pure (tmps.getD t undef)
  | .cell a t => do loadVar t (← asAddr (tmps.getD a undef))
theorem resOne_run (ha : AR ρ Φ (fun _ => False) E a) (hr : HR C.odd ρ Φ base h w) {r : ResultVar} {v : V} (hv : resOne C E.t h r = some v) : ∃ x, denA ρ Φ v = some x ∧ (resSem a.tmps r).run C.P w = .ok x w := by
  cases r with
  | tmp t =>
    change ob (E.t.get t) noTup = some v at hv
    replace hv := ob_some hv
    obtain ⟨u, hu, hv⟩ := hv
    obtain ⟨x, h1, h2⟩ := ha.at_ t u hu (fun h => h)
    refine ⟨x, noTup_den hv h2, ?_⟩
    simp [resSem, h1]
  | cell t ty =>
    change ob (E.t.get t) (qLoad C h ty) = some v at hv
    replace hv := ob_some hv
    obtain ⟨u, hu, hv⟩ := hv
    obtain ⟨x, h1, h2⟩ := ha.at_ t u hu (fun h => h)
    obtain ⟨y, h3, h4⟩ := qLoad_run hr h2 hv
    refine ⟨y, h3, ?_⟩
    have hp : ∃ ad, x = .pointer (some ad) := by
      unfold qLoad at hv
      split at hv
      · simp only [den, denA, denC, den0] at h2
        obtain ⟨L, _, h2⟩ := Option.map_eq_some_iff.1 h2
        exact ⟨_, h2.symm⟩
      · cases hv
    obtain ⟨ad, rfl⟩ := hp
    simp only [resSem, Array.getD_eq_getD_getElem?, h1, Option.getD_some, asAddr]
    exact h4
theorem resV_run (ha : AR ρ Φ (fun _ => False) E a) (hr : HR C.odd ρ Φ base h w) : ∀ {rs : List ResultVar} {l : List V}, resV C E.t h rs = some l → ∃ vs, mapO' (denA ρ Φ) l = some vs ∧ (rs.mapM (resSem a.tmps)).run C.P w = .ok vs w := by
  intro rs
  induction rs with
  | nil => intro l hl; cases hl; exact ⟨[], rfl, rfl⟩
  | cons r rs ih =>
    intro l hl
    change ob (resOne C E.t h r) (fun v => om (resV C E.t h rs) fun vs => v :: vs) = some l at hl
    replace hl := ob_some hl
    obtain ⟨v, hv, hl⟩ := hl
    replace hl := om_some hl
    obtain ⟨vs, hvs, rfl⟩ := hl
    obtain ⟨x, h1, h2⟩ := resOne_run ha hr hv
    obtain ⟨xs, h3, h4⟩ := ih hvs
    refine ⟨x :: xs, ?_, ?_⟩
    · show ((denA ρ Φ v).bind fun y => (mapO' (denA ρ Φ) vs).map fun r => y :: r) = _
      rw [h1, h3]; rfl
    · rw [List.mapM_cons]
      simp only [Sem.run_bind, h2, h4, Result.andThen, Sem.run_pure]
theorem results_run (ha : AR ρ Φ (fun _ => False) E a) (hr : HR C.odd ρ Φ base h w) {fn : Func} {l : List V} (hl : resV C E.t h fn.results.toList = some l) : ∃ x, den ρ Φ (resOf l) = some x ∧ (results fn a.tmps).run C.P w = .ok x w := by
  obtain ⟨vs, h1, h2⟩ := resV_run ha hr hl
  have hres : (results fn a.tmps).run C.P w = .ok (if h : vs.toArray.size = 1 then vs.toArray[0] else .tuple vs.toArray) w := by
    have e : results fn a.tmps = (fn.results.mapM (resSem a.tmps) >>= fun vs => pure (if h : vs.size = 1 then vs[0] else .tuple vs)) := by
      unfold results
      congr 1
    rw [e, Sem.run_bind, Array.mapM_eq_mapM_toList]
    have e2 : (List.toArray <$> fn.results.toList.mapM (resSem a.tmps)).run C.P w = .ok vs.toArray w := by
      rw [map_eq_pure_bind, Sem.run_bind, h2]; rfl
    rw [e2]
    rfl
  refine ⟨_, ?_, hres⟩
  have hlen : l.length = vs.length := by
    have : ∀ {l : List V} {vs : List Value}, mapO' (denA ρ Φ) l = some vs → l.length = vs.length := fun {l} => by
      induction l with
      | nil => intro vs hv; cases hv; rfl
      | cons x l ih =>
        intro vs hv
        simp only [mapO'] at hv
        obtain ⟨y, _, hv⟩ := Option.bind_eq_some_iff.1 hv
        obtain ⟨r, hr, rfl⟩ := Option.map_eq_some_iff.1 hv
        simp [ih hr]
    exact this h1
  by_cases h1' : vs.toArray.size = 1
  · obtain ⟨x, rfl⟩ : ∃ x, vs = [x] := List.length_eq_one_iff.1 (by simpa using h1')
    obtain ⟨v, rfl⟩ : ∃ v, l = [v] := List.length_eq_one_iff.1 (by rw [hlen]; rfl)
    rw [dif_pos h1']
    simp only [mapO'] at h1
    obtain ⟨y, hy, hv⟩ := Option.bind_eq_some_iff.1 h1
    cases hv
    exact den_ofA hy
  · rw [dif_neg h1']
    have : resOf l = .tup l := by
      cases l with
      | nil => rfl
      | cons v l =>
        cases l with
        | nil => exfalso; apply h1'; rw [List.size_toArray, ← hlen]; rfl
        | cons u l => rfl
    rw [this]
    simp only [den]
    rw [h1]; rfl
end
end Go.Proofs.YtolheapnopmhgaaGreatDoor
