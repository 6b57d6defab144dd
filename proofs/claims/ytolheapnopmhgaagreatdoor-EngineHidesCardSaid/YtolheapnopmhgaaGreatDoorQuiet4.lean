/- The same, on: operations with two operands, conversions, addresses, slices. -/
import Derived.Test.YtolheapnopmhgaaGreatDoorQuiet3
set_option linter.all false
namespace Go.Proofs.YtolheapnopmhgaaGreatDoor
open Go

/-- What is said of what isn't looked into is so. -/
def BinR (C : Ctx) (ρ : Sym) : Prop := ∀ op x y v, C.bin op x y = some v → ∀ (Φ : Env) x' y', denA ρ Φ x = some x' → denA ρ Φ y = some y' →
  (∃ k n, x' = .int k n) ∧ ∀ (t : TypeId) (w : World), ∃ r, den0 ρ Φ v = some r ∧ (binOp op t x' y').run C.P w = .ok r w

section
variable {C : Ctx} {ρ : Sym} {Φ : Env} {base : Nat} {h : H} {w : World}

theorem equal_run {t : TypeId} {x y : V} {b : Bool} {x' y' : Value} (he : eqV C 40 t x y = some b) (hx : denA ρ Φ x = some x') (hy : denA ρ Φ y = some y') (w : World) : (Op.equal t x' y').run C.P w = .ok b w := by
  have key : ∀ d, EqOk C ρ Φ d := fun d => by
    induction d with
    | zero => exact eqV_zero
    | succ d ih => exact eqV_succ ih
  exact key 40 t x y b x' y' he hx hy 9960 w
/-- Values that are compared by their type alone. -/
theorem binOp_eql {t : TypeId} {x y : Value} {b : Bool} (he : (Op.equal t x y).run C.P w = .ok b w) (hi : ∀ k a k' a', ¬ (x = .int k a ∧ y = .int k' a')) (hs : ∀ a b, ¬ (x = .string a ∧ y = .string b))
    (hf : ∀ k a k' b, ¬ (x = .float k a ∧ y = .float k' b)) (hc : ∀ k a b k' c d, ¬ (x = .complex k a b ∧ y = .complex k' c d)) :
    (binOp .eql t x y).run C.P w = .ok (.bool b) w ∧ (binOp .neq t x y).run C.P w = .ok (.bool (!b)) w := by
  have h1 : binOp .eql t x y = (do pure (.bool (← Op.equal t x y))) := by
    unfold binOp
    split <;> first | rfl | (rename_i h; cases h; done) | skip
    all_goals first
      | (exact absurd ⟨rfl, rfl⟩ (hi _ _ _ _))
      | (exact absurd ⟨rfl, rfl⟩ (hs _ _))
      | (exact absurd ⟨rfl, rfl⟩ (hf _ _ _ _))
      | (exact absurd ⟨rfl, rfl⟩ (hc _ _ _ _ _ _))
      | skip
    all_goals simp_all
  have h2 : binOp .neq t x y = (do pure (.bool (!(← Op.equal t x y)))) := by
    unfold binOp
    split <;> first | rfl | (rename_i h; cases h; done) | skip
    all_goals first
      | (exact absurd ⟨rfl, rfl⟩ (hi _ _ _ _))
      | (exact absurd ⟨rfl, rfl⟩ (hs _ _))
      | (exact absurd ⟨rfl, rfl⟩ (hf _ _ _ _))
      | (exact absurd ⟨rfl, rfl⟩ (hc _ _ _ _ _ _))
      | skip
    all_goals simp_all
  rw [h1, h2]
  simp [he, Result.andThen]
theorem eqGuard_run {op : BinOp} {t : TypeId} {ox oy : Operand} {x y : Value} (hx : x ≠ .nilIface) (ha : (∃ cs, x = .agg cs) → C.P.eqGuardType C.P.depth t = false) : (eqGuard op t ox oy x y).run C.P w = .ok () w := by
  cases op <;> first | rfl | skip
  all_goals
    unfold eqGuard
    simp only [Bool.not_true, Bool.false_eq_true, if_false]
    split
    · exact absurd rfl hx
    · simp [ha ⟨_, rfl⟩]
    · rfl
theorem eqGuard_int {op : BinOp} {t : TypeId} {ox oy : Operand} {k : IntKind} {n : Int} {y : Value} : (eqGuard op t ox oy (.int k n) y).run C.P w = .ok () w :=
  eqGuard_run (by simp) (fun ⟨cs, h⟩ => by cases h)
theorem selfI_run {op : BinOp} {v : V} (hv : selfI op = some v) (t : TypeId) (k : IntKind) (n : Int) : ∃ r, den0 ρ Φ v = some r ∧ (binOp op t (.int k n) (.int k n)).run C.P w = .ok r w := by
  cases op <;> simp only [selfI] at hv <;> first | (cases hv; done) | (cases hv; exact ⟨_, rfl, by simp [binOp, Op.intCmp]⟩)
theorem binO_run {op : BinOp} {b : Option Bool} {v : V} (hv : binO op b = some v) {t : TypeId} {x y : Value} (he : ∀ r, b = some r → (binOp .eql t x y).run C.P w = .ok (.bool r) w ∧ (binOp .neq t x y).run C.P w = .ok (.bool (!r)) w) :
    (op = .eql ∨ op = .neq) ∧ ∃ r, den0 ρ Φ v = some r ∧ (binOp op t x y).run C.P w = .ok r w := by
  cases op <;> simp only [binO] at hv <;> first | (cases hv; done) | skip
  · obtain ⟨r, hr, rfl⟩ := om_some hv
    exact ⟨.inl rfl, _, rfl, (he r hr).1⟩
  · obtain ⟨r, hr, rfl⟩ := om_some hv
    exact ⟨.inr rfl, _, rfl, (he r hr).2⟩
/-- Neither a number nor a text. -/
def odd4 (x : Value) : Prop := (∀ k a, x ≠ .int k a) ∧ (∀ a, x ≠ .string a) ∧ (∀ k a, x ≠ .float k a) ∧ ∀ k a b, x ≠ .complex k a b
theorem binOp_eql' {t : TypeId} {x y : Value} {b : Bool} (he : (Op.equal t x y).run C.P w = .ok b w) (ho : odd4 x) :
    (binOp .eql t x y).run C.P w = .ok (.bool b) w ∧ (binOp .neq t x y).run C.P w = .ok (.bool (!b)) w :=
  binOp_eql he (fun k a _ _ h => ho.1 k a h.1) (fun a _ h => ho.2.1 a h.1) (fun k a _ _ h => ho.2.2.1 k a h.1) (fun k a b _ _ _ h => ho.2.2.2 k a b h.1)
/-- What a value that is no number, no text and nothing unknown stands for. -/
theorem den_odd {x : V} {x' : Value} (hx : denA ρ Φ x = some x') (h1 : ∀ k n, x ≠ .i k n) (h2 : ∀ s, x ≠ .s s) (h3 : ∀ k, x ≠ .y k) (h4 : ∀ k, x ≠ .z k) : odd4 x' ∧ x' ≠ .nilIface ∧ ((∃ cs, x' = .agg cs) → ∃ t o n, x = .agg t o n) := by
  have fin : ∀ {y : Value}, (∀ k a, y ≠ .int k a) → (∀ a, y ≠ .string a) → (∀ k a, y ≠ .float k a) → (∀ k a b, y ≠ .complex k a b) → odd4 y := fun a b c d => ⟨a, b, c, d⟩
  cases x <;> simp only [denA, denC, den0] at hx <;> first
    | (exact absurd rfl (h1 _ _))
    | (exact absurd rfl (h2 _))
    | (exact absurd rfl (h3 _))
    | (exact absurd rfl (h4 _))
    | (cases hx; done)
    | (cases hx; refine ⟨fin ?_ ?_ ?_ ?_, ?_, ?_⟩ <;> simp; done)
    | (obtain ⟨L, _, rfl⟩ := Option.map_eq_some_iff.1 hx; refine ⟨fin ?_ ?_ ?_ ?_, ?_, ?_⟩ <;> simp; done)
    | skip
  case sl j off len c => cases c <;> simp only [den0] at hx <;> obtain ⟨L, _, rfl⟩ := Option.map_eq_some_iff.1 hx <;> refine ⟨fin ?_ ?_ ?_ ?_, ?_, ?_⟩ <;> simp
  case se j off l =>
    obtain ⟨L, _, rfl⟩ := Option.map_eq_some_iff.1 hx
    split <;> refine ⟨fin ?_ ?_ ?_ ?_, ?_, ?_⟩ <;> simp
  case f fn a c =>
    obtain ⟨g, _, hx⟩ := Option.bind_eq_some_iff.1 hx
    obtain ⟨a, _, hx⟩ := Option.bind_eq_some_iff.1 hx
    obtain ⟨c, _, rfl⟩ := Option.map_eq_some_iff.1 hx
    refine ⟨fin ?_ ?_ ?_ ?_, ?_, ?_⟩ <;> simp
theorem binE_run {op : BinOp} {t : TypeId} {ox oy : Operand} {x y v : V} {x' y' : Value} (hv : binE C op t x y = some v) (hx : denA ρ Φ x = some x') (hy : denA ρ Φ y = some y')
    (h1 : ∀ k n, x ≠ .i k n) (h2 : ∀ s, x ≠ .s s) (h3 : ∀ k, x ≠ .y k) :
    ∃ r, den0 ρ Φ v = some r ∧ (do eqGuard op t ox oy x' y'; binOp op t x' y').run C.P w = .ok r w := by
  unfold binE at hv
  replace hv := guardO_some hv
  obtain ⟨hg, hv⟩ := hv
  have h4 : ∀ k, x ≠ .z k := fun k e => by subst e; cases hg
  obtain ⟨o1, o2, o3⟩ := den_odd hx h1 h2 h3 h4
  obtain ⟨_, r, hr, hrun⟩ := binO_run (ρ := ρ) (Φ := Φ) (w := w) hv (fun b hb => binOp_eql' (equal_run hb hx hy w) o1)
  refine ⟨r, hr, ?_⟩
  rw [Sem.run_bind, eqGuard_run o2 (fun hc => by obtain ⟨a, b, c, rfl⟩ := o3 hc; simpa [grdB] using hg)]
  exact hrun
theorem binV_run (hB : BinR C ρ) (H1 : HR C.odd ρ Φ base h w) {op : BinOp} {t : TypeId} {ox oy : Operand} {x y v : V} {x' y' : Value} (hv : binV C h op t x y = some v) (hx : denA ρ Φ x = some x') (hy : denA ρ Φ y = some y') :
    ∃ r, den0 ρ Φ v = some r ∧ (do eqGuard op t ox oy x' y'; binOp op t x' y').run C.P w = .ok r w := by
  have bin : ∀ {x v}, C.bin op x y = some v → denA ρ Φ x = some x' → ∃ r, den0 ρ Φ v = some r ∧ (do eqGuard op t ox oy x' y'; binOp op t x' y').run C.P w = .ok r w := fun hb hx => by
    obtain ⟨⟨k, n, rfl⟩, hr⟩ := hB _ _ _ _ hb Φ _ _ hx hy
    obtain ⟨r, h1, h2⟩ := hr t w
    exact ⟨r, h1, by rw [Sem.run_bind, eqGuard_int]; exact h2⟩
  unfold binV at hv
  split at hv
  · rename_i j o
    unfold binQ at hv
    split at hv
    · rename_i j' o'
      simp only [denA, denC, den0] at hx hy
      obtain ⟨L, hL, rfl⟩ := Option.map_eq_some_iff.1 hx
      obtain ⟨L', hL', rfl⟩ := Option.map_eq_some_iff.1 hy
      obtain ⟨_, r, hr, hrun⟩ := binO_run (C := C) (ρ := ρ) (Φ := Φ) (w := w) (t := t) (x := .pointer (some (L.at_ o))) (y := .pointer (some (L'.at_ o'))) hv (fun b hb => by
        obtain ⟨u, hu, hb⟩ := ob_some hb
        unfold ptrU at hb
        split at hb
        · rename_i e
          have hb : (Bool.rec (ob (sizeT C e) fun n => ob (h.t.get j) fun a => ob (h.t.get j') fun b => guardO (!Nat.beq n 0 && isCells a && isCells b) (some false)) (eqPtr C e j o j' o') (Nat.beq j j') : Option Bool) = some b := hb
          rw [boolRec_eq] at hb
          refine binOp_eql' (C := C) ?_ ⟨fun _ _ h => (by cases h), fun _ h => (by cases h), fun _ _ h => (by cases h), fun _ _ _ h => (by cases h)⟩
          split at hb
          · rename_i hjj
            cases Nat.eq_of_beq_eq_true hjj
            refine equal_run (ρ := ρ) (Φ := Φ) (x := .p j o) (y := .p j o') ?_ (by simp only [denA, denC, den0, hL, Option.map_some]) (by simp only [denA, denC, den0, hL', Option.map_some]) w
            show ob (C.P.underlying t) (eqU C (eqV C 39) t (.p j o) (.p j o')) = some b
            rw [hu]; exact hb
          · rename_i hjj
            obtain ⟨n, hn, hb⟩ := ob_some hb
            obtain ⟨a1, ha1, hb⟩ := ob_some hb
            obtain ⟨b1, hb1, hb⟩ := ob_some hb
            obtain ⟨hg, hb⟩ := guardO_some hb
            cases hb
            simp only [Bool.and_eq_true, Bool.not_eq_true'] at hg
            obtain ⟨⟨g1, g2⟩, g3⟩ := hg
            have hn0 : n ≠ 0 := fun e => by subst e; simp at g1
            unfold isCells at g2 g3
            split at g2
            · split at g3
              · have c1 := H1.cells hL ha1
                have c2 := H1.cells hL' hb1
                obtain ⟨_, _, _, cs1, e1, f1, k1, hf1, _⟩ := c1
                obtain ⟨_, _, _, cs2, e2, f2, k2, hf2, _⟩ := c2
                obtain rfl := hf1 (by simpa using g2)
                obtain rfl := hf2 (by simpa using g3)
                have hne : L.at_ o ≠ L'.at_ o' := fun e3 => by
                  have hbk : L.blk = L'.blk := by simp [Loc.at_] at e3; exact e3.1
                  have := H1.one j j' L L' hL hL' (by rw [ha1]; rfl) (by rw [hb1]; rfl) hbk
                  subst this
                  exact absurd (Nat.beq_refl j) hjj
                have key : ∀ d, (Op.equalIn (d + 1) t (.pointer (some (L.at_ o))) (.pointer (some (L'.at_ o')))).run C.P w = .ok false w := fun d => by
                  simp only [Op.equalIn, Sem.run_bind, under_run hu, Result.andThen, sizeT_run hn, ne_eq, hn0, not_false_eq_true, if_true]
                  rw [run_sameAddr_other w hne k1 k2]
                exact key 9999
              · cases g3
            · cases g2
        · cases hb)
      refine ⟨r, hr, ?_⟩
      rw [Sem.run_bind, eqGuard_run (by simp) (fun ⟨cs, h⟩ => by cases h)]
      exact hrun
    · exact binE_run hv hx hy (by simp) (by simp) (by simp)
  · rename_i k a
    unfold binR at hv
    split at hv
    · rename_i k' b
      cases hx; cases hy
      rw [boolRec_eq] at hv
      split at hv
      · obtain ⟨r, h1, h2⟩ := shiftI_run (ρ := ρ) (Φ := Φ) (C := C) (w := w) (k' := k') (by assumption) hv t
        exact ⟨r, h1, by rw [Sem.run_bind, eqGuard_int]; exact h2⟩
      · rename_i hns
        replace hv := guardO_some hv
        obtain ⟨hk, hv⟩ := hv
        cases kN_inj hk
        obtain ⟨r, h1, h2⟩ := binI_run (ρ := ρ) (Φ := Φ) (C := C) (w := w) (by simpa using hns) hv t
        exact ⟨r, h1, by rw [Sem.run_bind, eqGuard_int]; exact h2⟩
    · exact bin hv hx
  · rename_i a
    unfold binT at hv
    split at hv
    · cases hx; cases hy
      obtain ⟨r, h1, h2⟩ := binS_run (ρ := ρ) (Φ := Φ) (C := C) (w := w) hv t
      exact ⟨r, h1, by rw [Sem.run_bind, eqGuard_run (by simp) (fun ⟨cs, h⟩ => by cases h)]; exact h2⟩
    · cases hv
  · rename_i k
    unfold binY at hv
    cases hb : C.bin op (.y k) y with
    | some u => rw [hb] at hv; exact bin (hv ▸ hb) hx
    | none =>
      rw [hb] at hv
      change binYY op k y = some v at hv
      unfold binYY at hv
      split at hv
      · replace hv := guardO_some hv
        obtain ⟨hk, hv⟩ := hv
        cases Nat.eq_of_beq_eq_true hk
        cases hx; cases hy
        obtain ⟨r, h1, h2⟩ := selfI_run (ρ := ρ) (Φ := Φ) (C := C) (w := w) hv t .i64 (ρ.y k)
        exact ⟨r, h1, by rw [Sem.run_bind, eqGuard_int]; exact h2⟩
      · cases hv
  · rename_i n1 n2 n3 n4
    exact binE_run hv hx hy (fun k n e => n2 k n e) (fun s e => n3 s e) (fun k e => n4 k e)
end
end Go.Proofs.YtolheapnopmhgaaGreatDoor
