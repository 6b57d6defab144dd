/- The engine's example holds, in whatever memory that holds the two tables. -/
import Derived.Test.YtolheapnopmhgaaGreatDoorEng
import Derived.Test.YtolheapnopmhgaaGreatDoorEngRun
set_option linter.all false
namespace Go.Proofs.YtolheapnopmhgaaGreatDoor
open Go

theorem noBin_ok (ρ : Sym) (known : Nat → List V → H → Option V) : BinR (ctxOf noBin known) ρ := fun op x y v h => by cases h
theorem gr0 (bin : BinOp → V → V → Option V) (known : Nat → List V → H → Option V) : GR (ctxOf bin known) Φ0 := fun g j hg => by
  change (Bool.rec (Bool.rec none (some 1) (Nat.beq g 1)) (some 0) (Nat.beq g 0) : Option Nat) = some j at hg
  cases h0 : Nat.beq g 0 with
  | true =>
    rw [h0] at hg
    cases hg
    exact ⟨_, rfl, (Nat.eq_of_beq_eq_true h0).symm, rfl⟩
  | false =>
    rw [h0] at hg
    cases h1 : Nat.beq g 1 with
    | true =>
      rw [h1] at hg
      cases hg
      exact ⟨_, rfl, (Nat.eq_of_beq_eq_true h1).symm, rfl⟩
    | false => rw [h1] at hg; cases hg
def sym0 (y : Nat → Int) (z : Nat → Bool) : Sym := ⟨y, fun k => .bool (z k), fun k => ⟨fun cs h => (by cases h), fun cs h => (by cases h)⟩⟩
theorem yes_b {v : V} {h : H} (hv : yes v h = true) : v = .b true := by
  unfold yes at hv
  split at hv
  · rw [hv]
  · cases hv
/-- A CALL THAT IS RECKONED. -/
theorem calls_of {ρ : Sym} {bin : BinOp → V → V → Option V} {known : Nat → List V → H → Option V} {n f : Nat} {args : List V} {args' : List Value} {w : World} (h : Two2 w) (hb : BinR (ctxOf bin known) ρ)
    (hk : ∀ (f : Nat) (args : List V) (h : H) (v : V), known f args h = some v → (∃ fn, Tryz.prog.funcs[f]? = some fn ∧ fn.body.isSome = true) ∧ ∀ (Φ : Env) (w2 : World) (args' : List Value), HR oddL ρ Φ w.heap.size h w2 → Fr w.heap.size w w2 → Two (fun v x => den ρ Φ v = some x) args args' →
      Calls Tryz.prog f args'.toArray w2 fun e w' => ∃ x, e = .returned x ∧ den ρ Φ v = some x ∧ Fr w2.heap.size w2 w')
    (ha : Two (fun v x => den ρ Φ0 v = some x) args args') (hev : runF (ctxOf bin known) n f args h0 yes = true) :
    Calls Tryz.prog f args'.toArray w fun e w' => e = .returned (.bool true) ∧ Fr w.heap.size w w' := by
  have hP : ProgOk (ctxOf bin known) ρ w.heap.size w := ⟨hb, mixed, names, codes, hk⟩
  refine (run_calls hP (start_hr h) (gr0 bin known) ha hev).mono fun e w' ⟨v, Φ', h', x, he, _, _, hfr, hd, hy⟩ => ?_
  cases yes_b hy
  cases hd
  exact ⟨he, hfr⟩
set_option maxRecDepth 100000
theorem awake_calls {w : World} (h : Two2 w) : Calls Tryz.prog 8 #[] w fun e w' => e = .returned (.bool true) ∧ Fr w.heap.size w w' :=
  calls_of (ρ := sym0 (fun _ => 0) (fun _ => false)) (args := []) (args' := []) h (noBin_ok _ _) (fun f args h v hv => by cases hv) .nil awake_run
theorem two2_fr {w w2 : World} (h : Two2 w) (hf : Fr w.heap.size w w2) : Two2 w2 := by
  obtain ⟨⟨t1, f1, h1⟩, ⟨t2, f2, h2⟩⟩ := h
  have s1 := (Array.getElem?_eq_some_iff.1 h1).1
  have s2 := (Array.getElem?_eq_some_iff.1 h2).1
  exact ⟨⟨t1, f1, by rw [hf.old 0 s1]; exact h1⟩, ⟨t2, f2, by rw [hf.old 1 s2]; exact h2⟩⟩
/-- The example is known to hold. -/
theorem known_ok {ρ : Sym} {w : World} (h : Two2 w) : ∀ (f : Nat) (args : List V) (hh : H) (v : V), knownAw f args hh = some v → (∃ fn, Tryz.prog.funcs[f]? = some fn ∧ fn.body.isSome = true) ∧ ∀ (Φ : Env) (w2 : World) (args' : List Value), HR oddL ρ Φ w.heap.size hh w2 → Fr w.heap.size w w2 → Two (fun v x => den ρ Φ v = some x) args args' →
      Calls Tryz.prog f args'.toArray w2 fun e w' => ∃ x, e = .returned x ∧ den ρ Φ v = some x ∧ Fr w2.heap.size w2 w' := fun f args hh v hv => by
  cases args with
  | cons x l => cases hv
  | nil =>
    change (Bool.rec none (some (.b true)) (Nat.beq f 8) : Option V) = some v at hv
    cases hb : Nat.beq f 8 with
    | false => rw [hb] at hv; cases hv
    | true =>
      rw [hb] at hv
      cases hv
      cases Nat.eq_of_beq_eq_true hb
      refine ⟨⟨_, Tryz.func8, rfl⟩, fun Φ w2 args' _ hf ha => ?_⟩
      cases ha
      refine (awake_calls (two2_fr h hf)).mono fun e w' ⟨he, h1⟩ => ⟨_, he, rfl, h1⟩
/-- A LAW THAT IS RECKONED. -/
theorem law_calls {ρ : Sym} {bin : BinOp → V → V → Option V} {n f : Nat} {args : List V} {args' : List Value} {w : World} (h : Two2 w) (hb : BinR (ctxOf bin knownAw) ρ)
    (ha : Two (fun v x => den ρ Φ0 v = some x) args args') (hev : runF (ctxOf bin knownAw) n f args h0 yes = true) :
    Calls Tryz.prog f args'.toArray w fun e w' => e = .returned (.bool true) ∧ Fr w.heap.size w w' :=
  calls_of h hb (known_ok h) ha hev
end Go.Proofs.YtolheapnopmhgaaGreatDoor
