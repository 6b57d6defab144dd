/- The same, on the rest of them. -/
import Derived.Test.YtolheapnopmhgaaGreatDoorQuiet5
set_option linter.all false
namespace Go.Proofs.YtolheapnopmhgaaGreatDoor
open Go

section
variable {C : Ctx} {ρ : Sym} {Φ : Env} {base : Nat} {h : H} {w : World}

theorem noTup_den {v u : V} {x : Value} (hn : noTup v = some u) (hd : den ρ Φ v = some x) : denA ρ Φ u = some x := by
  unfold noTup at hn
  split at hn
  · cases hn
  · rename_i hne
    cases hn
    cases v <;> first | exact hd | exact (hne _ rfl).elim
theorem ev1_den {pend : Nat → Prop} {A : A} {a : Act} (hg : GR C Φ) (ha : AR ρ Φ pend A a) {x : Operand} (hx : free pend x) {v : V} (h : A.ev1 C x = some v) : denA ρ Φ v = some (a.eval x) := by
  replace h := ob_some h
  obtain ⟨u, hu, hv⟩ := h
  exact noTup_den hv (ev_den hg ha hx hu)
theorem evs_den {pend : Nat → Prop} {A : A} {a : Act} (hg : GR C Φ) (ha : AR ρ Φ pend A a) : ∀ {l : List Operand} {vs : List V}, (∀ x ∈ l, free pend x) → evs C A l = some vs → Two (fun v x => den ρ Φ v = some x) vs (l.map a.eval) := by
  intro l
  induction l with
  | nil => intro vs _ h; cases h; exact .nil
  | cons x l ih =>
    intro vs hx h
    change ob (A.ev C x) (fun v => om (evs C A l) fun r => v :: r) = some vs at h
    replace h := ob_some h
    obtain ⟨v, hv, h⟩ := h
    replace h := om_some h
    obtain ⟨r, hr, rfl⟩ := h
    exact .cons (ev_den hg ha (hx x List.mem_cons_self) hv) (ih (fun y hy => hx y (List.mem_cons_of_mem _ hy)) hr)
theorem evs1_den {pend : Nat → Prop} {A : A} {a : Act} (hg : GR C Φ) (ha : AR ρ Φ pend A a) : ∀ {l : List Operand} {vs : List V}, (∀ x ∈ l, free pend x) → evs1 C A l = some vs → Two (fun v x => denA ρ Φ v = some x) vs (l.map a.eval) := by
  intro l
  induction l with
  | nil => intro vs _ h; cases h; exact .nil
  | cons x l ih =>
    intro vs hx h
    change ob (A.ev1 C x) (fun v => om (evs1 C A l) fun r => v :: r) = some vs at h
    replace h := ob_some h
    obtain ⟨v, hv, h⟩ := h
    replace h := om_some h
    obtain ⟨r, hr, rfl⟩ := h
    exact .cons (ev1_den hg ha (hx x List.mem_cons_self) hv) (ih (fun y hy => hx y (List.mem_cons_of_mem _ hy)) hr)
theorem optV_den {pend : Nat → Prop} {A : A} {a : Act} (hg : GR C Φ) (ha : AR ρ Φ pend A a) {o : Option Operand} {v : Option V} (hx : ∀ x, o = some x → free pend x) (h : optV C A o = some v) : OptR ρ Φ v (o.map a.eval) := by
  cases o with
  | none => cases h; trivial
  | some x =>
    obtain ⟨u, hu, rfl⟩ := om_some (f := some) h
    exact ev1_den hg ha (hx x rfl) hu
theorem mapO'_two {l : List V} {r : List Value} (hs : allS l = true) (h2 : Two (fun v x => den ρ Φ v = some x) l r) : mapO' (den0 ρ Φ) l = some r := by
  induction h2 with
  | nil => rfl
  | @cons v x l r hv _ ih =>
    change (isS v && allS l) = true at hs
    simp only [Bool.and_eq_true] at hs
    have : den0 ρ Φ v = some x := by
      cases v <;> first | exact hv | (simp [isS] at hs)
    simp only [mapO', this, ih hs.2, Option.bind_some, Option.map_some]

/-! Addresses. -/
theorem fieldT_some {s : TypeId} {i : Nat} {q : Nat × Nat × TypeId} (hq : fieldT C s i = some q) : ∃ fs f, C.P.underlying s = some (.struct fs) ∧ fs[i]? = some f ∧ sizeT C f.type = some q.2.1 ∧ q.1 = f.offset ∧ q.2.2 = f.type := by
  unfold fieldT at hq
  split at hq
  · rename_i fs hu
    replace hq := ob_some hq
    obtain ⟨f, hf, hq⟩ := hq
    replace hq := om_some hq
    obtain ⟨n, hn, rfl⟩ := hq
    rw [nthL_eq] at hf
    exact ⟨fs, f, hu, by simpa using hf, hn, rfl, rfl⟩
  · cases hq
theorem fieldA_run {s : TypeId} {i : Nat} {x v : V} {x' : Value} (hv : qFieldA C s i x = some v) (hx : denA ρ Φ x = some x') : ∃ r, den0 ρ Φ v = some r ∧ (Instr.fieldAt s x' i).run C.P w = .ok r w := by
  unfold qFieldA at hv
  split at hv
  · rename_i j off
    replace hv := ob_some hv
    obtain ⟨q, hq, hv⟩ := hv
    replace hv := guardO_some hv
    obtain ⟨hn, hv⟩ := hv
    cases hv
    obtain ⟨fs, f, hu, hf, hn2, hq1, hq2⟩ := fieldT_some hq
    simp only [denA, denC, den0] at hx ⊢
    obtain ⟨L, hL, rfl⟩ := Option.map_eq_some_iff.1 hx
    have hn0 : q.2.1 ≠ 0 := fun e => by rw [e] at hn; simp at hn
    rw [hL]
    refine ⟨_, rfl, ?_⟩
    unfold Instr.fieldAt
    rw [Sem.run_bind, under_run hu, Result.andThen]
    simp only [hf]
    simp only [Instr.sureAddr, fieldPlace, Sem.run_bind, Sem.run_pure, Result.andThen, sizeT_run hn2, hn0, if_false, at_add, hq1]
  · cases hv
theorem field_run {s : TypeId} {i : Nat} {x v : V} {x' : Value} (hv : qField C s i x = some v) (hx : denA ρ Φ x = some x') : ∃ r, denA ρ Φ v = some r ∧ (Instr.field s x' i).run C.P w = .ok r w := by
  unfold qField at hv
  split at hv
  · rename_i c off n
    replace hv := ob_some hv
    obtain ⟨q, hq, hv⟩ := hv
    obtain ⟨fs, f, hu, hf, hn2, hq1, hq2⟩ := fieldT_some hq
    simp only [denA] at hx
    obtain ⟨l, hl, rfl⟩ := Option.map_eq_some_iff.1 hx
    rw [hq1, hq2] at hv
    obtain ⟨r, hr, hrun⟩ := partV_run hl hv
    refine ⟨r, hr, ?_⟩
    unfold Instr.field
    rw [Sem.run_bind, under_run hu, Result.andThen]
    simp only [hf, asAgg, Sem.run_bind, Sem.run_pure, Result.andThen, hrun]
  · cases hv
theorem indexA_run {t : TypeId} {n : Nat} {x y v : V} {x' y' : Value} (hy : natOf y = some n) (hv : qIndexA C t n x = some v) (hx : denA ρ Φ x = some x') (hy' : denA ρ Φ y = some y') : ∃ r, den0 ρ Φ v = some r ∧ (Instr.indexAt t x' y').run C.P w = .ok r w := by
  obtain ⟨k, rfl⟩ := natOf_den hy hy'
  replace hv := ob_some hv
  obtain ⟨u, hu, hv⟩ := hv
  unfold idxU at hv
  split at hv
  · rename_i e
    replace hv := ob_some hv
    obtain ⟨sz, hsz, hv⟩ := hv
    unfold idxS at hv
    split at hv
    · rename_i j off len c
      replace hv := guardO_some hv
      obtain ⟨hlt, hv⟩ := hv
      cases hv
      have hlt : n < len := by simpa [Nat.blt_eq] using hlt
      have : ∃ L cap, Φ j = some L ∧ x' = .slice (some (L.at_ off)) len cap := by
        simp only [denA, denC] at hx
        cases c <;> simp only [den0] at hx <;> obtain ⟨L, hL, rfl⟩ := Option.map_eq_some_iff.1 hx <;> exact ⟨L, _, hL, rfl⟩
      obtain ⟨L, cap, hL, rfl⟩ := this
      simp only [den0, hL, Option.map_some]
      refine ⟨_, rfl, ?_⟩
      unfold Instr.indexAt
      have h0 : (0 : Int) ≤ n ∧ (n : Int) < len := ⟨by omega, by omega⟩
      simp [asIntOf, under_run hu, Result.andThen, h0, sizeT_run hsz, at_add]
      intro hle; omega
    · cases hv
  · rename_i len e
    replace hv := ob_some hv
    obtain ⟨sz, hsz, hv⟩ := hv
    unfold idxA at hv
    split at hv
    · rename_i j off
      replace hv := guardO_some hv
      obtain ⟨hlt, hv⟩ := hv
      cases hv
      have hlt : n < len := by simpa [Nat.blt_eq] using hlt
      simp only [denA, denC, den0] at hx ⊢
      obtain ⟨L, hL, rfl⟩ := Option.map_eq_some_iff.1 hx
      rw [hL]
      refine ⟨_, rfl, ?_⟩
      unfold Instr.indexAt
      have h0 : (0 : Int) ≤ n ∧ (n : Int) < len := ⟨by omega, by omega⟩
      simp [asIntOf, under_run hu, Result.andThen, h0, sizeT_run hsz, at_add, Instr.sureAddr]
      intro hle; omega
    · cases hv
  · cases hv
theorem index_run {t : TypeId} {n : Nat} {x y v : V} {x' y' : Value} (hy : natOf y = some n) (hv : qIndex C t n x = some v) (hx : denA ρ Φ x = some x') (hy' : denA ρ Φ y = some y') : ∃ r, denA ρ Φ v = some r ∧ (Instr.index t x' y').run C.P w = .ok r w := by
  obtain ⟨k, rfl⟩ := natOf_den hy hy'
  replace hv := ob_some hv
  obtain ⟨u, hu, hv⟩ := hv
  unfold ixU at hv
  split at hv
  · rename_i len e
    unfold ixA at hv
    split at hv
    · rename_i c off m
      replace hv := guardO_some hv
      obtain ⟨hlt, hv⟩ := hv
      replace hv := ob_some hv
      obtain ⟨sz, hsz, hv⟩ := hv
      have hlt : n < len := by simpa [Nat.blt_eq] using hlt
      simp only [denA] at hx
      obtain ⟨l, hl, rfl⟩ := Option.map_eq_some_iff.1 hx
      obtain ⟨r, hr, hrun⟩ := partV_run hl hv
      refine ⟨r, hr, ?_⟩
      unfold Instr.index
      have h0 : (0 : Int) ≤ n ∧ (n : Int) < len := ⟨by omega, by omega⟩
      simp [asIntOf, under_run hu, Result.andThen, h0, sizeT_run hsz, hrun]
      intro hle; omega
    · cases hv
  · unfold ixS at hv
    split at hv
    · rename_i s
      replace hv := om_some hv
      obtain ⟨b, hb, rfl⟩ := hv
      cases hx
      rw [nthL_eq] at hb
      refine ⟨_, rfl, ?_⟩
      unfold Instr.index
      have hb2 : s[n]? = some b := by
        have h1 : s.data[n]? = some b := by simpa using hb
        obtain ⟨hlt, rfl⟩ := Array.getElem?_eq_some_iff.1 h1
        exact getElem?_pos s n hlt
      simp [asIntOf, under_run hu, Result.andThen, hb2]
    · cases hv
  · cases hv
end
end Go.Proofs.YtolheapnopmhgaaGreatDoor
