/- What the evaluator says of an operation that does nothing is so: all of them. -/
import Derived.Test.YtolheapnopmhgaaGreatDoorQuiet10
set_option linter.all false
namespace Go.Proofs.YtolheapnopmhgaaGreatDoor
open Go

section
variable {C : Ctx} {ρ : Sym} {Φ : Env} {base : Nat} {h : H} {w : World}

theorem two_get {α β : Type} {R : α → β → Prop} {l : List α} {r : List β} (h2 : Two R l r) : ∀ (i : Nat) (x : α), l[i]? = some x → ∃ y, r[i]? = some y ∧ R x y := by
  induction h2 with
  | nil => intro i x hx; simp at hx
  | cons h _ ih =>
    intro i x hx
    cases i with
    | zero => simp at hx; subst hx; exact ⟨_, rfl, h⟩
    | succ i => simpa using ih i x (by simpa using hx)
theorem mapO'_get {α β : Type} {f : α → Option β} : ∀ {l : List α} {r : List β}, mapO' f l = some r → ∀ (i : Nat) (x : α), l[i]? = some x → ∃ y, r[i]? = some y ∧ f x = some y := by
  intro l
  induction l with
  | nil => intro r _ i x hx; simp at hx
  | cons a l ih =>
    intro r hr i x hx
    simp only [mapO'] at hr
    obtain ⟨y, hy, hr⟩ := Option.bind_eq_some_iff.1 hr
    obtain ⟨s, hs, rfl⟩ := Option.map_eq_some_iff.1 hr
    cases i with
    | zero => simp at hx; subst hx; exact ⟨y, rfl, hy⟩
    | succ i => simpa using ih hs i x (by simpa using hx)
theorem lenOf_den {v : V} {n : Nat} {x : Value} (hn : lenOfV v = some n) (hd : denA ρ Φ v = some x) : ∃ a cap, x = .slice a n cap := by
  unfold lenOfV at hn
  split at hn
  · cases hn; cases hd; exact ⟨_, _, rfl⟩
  · rename_i j off len c
    cases hn
    simp only [denA, denC] at hd
    cases c <;> simp only [den0] at hd <;> obtain ⟨L, _, rfl⟩ := Option.map_eq_some_iff.1 hd <;> exact ⟨_, _, rfl⟩
  · cases hn
    simp only [denA, denC, den0] at hd
    obtain ⟨L, _, rfl⟩ := Option.map_eq_some_iff.1 hd
    split <;> exact ⟨_, _, rfl⟩
  · cases hn
theorem len_run (H1 : HR C.odd ρ Φ base h w) {t : TypeId} {ty : TypeId} {x v : V} {x' : Value} {args : Array Value} (hargs : args[0]? = some x') {at_ : Array TypeId} (hat : at_[0]? = some t) (hv : qLen C h t x = some v) (hx : denA ρ Φ x = some x') :
    ∃ r, den ρ Φ v = some r ∧ (Builtin.len_ at_ ty args).run C.P w = .ok r w := by
  unfold qLen at hv
  replace hv := ob_some hv
  obtain ⟨u, hu, hv⟩ := hv
  unfold lenU at hv
  unfold Builtin.len_
  simp only [hat, hargs]
  rw [Sem.run_bind, under_run hu, Result.andThen]
  split at hv
  · cases hv; exact ⟨_, rfl, rfl⟩
  · replace hv := om_some hv
    obtain ⟨n, hn, rfl⟩ := hv
    obtain ⟨a, cap, rfl⟩ := lenOf_den hn hx
    exact ⟨_, rfl, rfl⟩
  · replace hv := om_some hv
    obtain ⟨es, hes, rfl⟩ := hv
    rcases mapOf_den H1 hes hx with ⟨rfl, rfl, rfl⟩ | ⟨j, L, es', rfl, hL, rfl, ho, _, hb, h2⟩
    · exact ⟨_, rfl, rfl⟩
    · refine ⟨_, rfl, ?_⟩
      simp only [Sem.run_bind, getObj_map hb, Result.andThen]
      rw [two_toList h2]; rfl
  · unfold lenStr at hv
    split at hv
    · cases hv; cases hx; exact ⟨_, rfl, rfl⟩
    · cases hv
  · cases hv
theorem cap_run {t : TypeId} {ty : TypeId} {x v : V} {x' : Value} {args : Array Value} (hargs : args[0]? = some x') {at_ : Array TypeId} (hat : at_[0]? = some t) (hv : ob (C.P.underlying t) (capU x) = some v) (hx : denA ρ Φ x = some x') :
    ∃ r, den ρ Φ v = some r ∧ (Builtin.cap_ at_ ty args).run C.P w = .ok r w := by
  replace hv := ob_some hv
  obtain ⟨u, hu, hv⟩ := hv
  unfold capU at hv
  unfold Builtin.cap_
  simp only [hat, hargs]
  rw [Sem.run_bind, under_run hu, Result.andThen]
  split at hv
  · split at hv
    · cases hv; cases hx; exact ⟨_, rfl, rfl⟩
    · cases hv
      simp only [denA, denC, den0] at hx
      obtain ⟨L, _, rfl⟩ := Option.map_eq_some_iff.1 hx
      exact ⟨_, rfl, rfl⟩
    · cases hv
  · cases hv
theorem min_run {x y v : V} {x' y' : Value} {ts : Array TypeId} {ty : TypeId} (hv : qMin x y = some v) (hx : denA ρ Φ x = some x') (hy : denA ρ Φ y = some y') : ∃ r, den ρ Φ v = some r ∧ (Builtin.min_ ts ty #[x', y']).run C.P w = .ok r w := by
  unfold qMin at hv
  split at hv
  · cases hv; cases hx; cases hy
    rename_i k a k' b
    refine ⟨.int k (if b < a then b else a), ?_, by simp [Builtin.min_, Builtin.min2]⟩
    show some (Value.int k (Bool.rec a b (ltI b a))) = _
    rw [boolRec_eq, ltI_eq]; simp
  · cases hv
theorem max_run {x y v : V} {x' y' : Value} {ts : Array TypeId} {ty : TypeId} (hv : qMax x y = some v) (hx : denA ρ Φ x = some x') (hy : denA ρ Φ y = some y') : ∃ r, den ρ Φ v = some r ∧ (Builtin.max_ ts ty #[x', y']).run C.P w = .ok r w := by
  unfold qMax at hv
  split at hv
  · cases hv; cases hx; cases hy
    rename_i k a k' b
    refine ⟨.int k (if b > a then b else a), ?_, by simp [Builtin.max_, Builtin.max2]⟩
    show some (Value.int k (Bool.rec a b (ltI a b))) = _
    rw [boolRec_eq, ltI_eq]; simp
  · cases hv
theorem blt_run (H1 : HR C.odd ρ Φ base h w) {b : Builtin} {ts : Array TypeId} {ty : TypeId} {cs : Array Bool} {l : List V} {l' : List Value} {v : V} (h2 : Two (fun v x => denA ρ Φ v = some x) l l') (hv : qBlt C h b ts.toList l = some v) :
    ∃ r, den ρ Φ v = some r ∧ (builtin b ts ty cs l'.toArray).run C.P w = .ok (.value r) w := by
  unfold qBlt at hv
  split at hv
  · rename_i x
    cases h2 with
    | cons hx ht =>
    cases ht
    split at hv
    · rename_i t tl hts
      obtain ⟨r, h3, h4⟩ := len_run H1 (args := #[_]) (ty := ty) rfl (at_ := ts) (by rw [← Array.getElem?_toList, hts]; rfl) hv hx
      exact ⟨r, h3, by simp [builtin, h4, Result.andThen]⟩
    · rename_i t tl hts
      obtain ⟨r, h3, h4⟩ := cap_run (w := w) (args := #[_]) (ty := ty) rfl (at_ := ts) (by rw [← Array.getElem?_toList, hts]; rfl) hv hx
      exact ⟨r, h3, by simp [builtin, h4, Result.andThen]⟩
    · cases hv
  · cases h2 with
    | cons hx ht =>
    cases ht with
    | cons hy ht =>
    cases ht
    split at hv
    · obtain ⟨r, h3, h4⟩ := min_run (C := C) (w := w) (ts := ts) (ty := ty) hv hx hy
      exact ⟨r, h3, by simp [builtin, h4, Result.andThen]⟩
    · obtain ⟨r, h3, h4⟩ := max_run (C := C) (w := w) (ts := ts) (ty := ty) hv hx hy
      exact ⟨r, h3, by simp [builtin, h4, Result.andThen]⟩
    · cases hv
  · cases hv
theorem two_toArray {R : V → Value → Prop} {a : Act} {l : Array Operand} {vs : List V} (h2 : Two R vs (l.toList.map a.eval)) : (l.toList.map a.eval).toArray = l.map a.eval := by
  apply Array.ext'; simp

/-- WHAT THE EVALUATOR SAYS OF AN OPERATION THAT DOES NOTHING IS SO. -/
theorem quietV_run (hB : BinR C ρ) (H1 : HR C.odd ρ Φ base h w) (hg : GR C Φ) {pend : Nat → Prop} {A : A} {a : Act} (ha : AR ρ Φ pend A a) {o : Oper} {v : V} (hf : ∀ x ∈ o.op.operands.toList, free pend x) (hv : quietV C A h o = some v) :
    ∃ x, den ρ Φ v = some x ∧ (execOp a.eval o).run C.P w = .ok (.value x) w := by
  have fin : ∀ {s : Sem Value} {x : Value}, s.run C.P w = .ok x w → (do pure (Next.value (← s)) : Sem Next).run C.P w = .ok (.value x) w := fun hs => by rw [Sem.run_bind, hs]; rfl
  have fin0 : ∀ {s : Sem Value} {v : V}, (∃ r, den0 ρ Φ v = some r ∧ s.run C.P w = .ok r w) → ∃ x, den ρ Φ v = some x ∧ (do pure (Next.value (← s)) : Sem Next).run C.P w = .ok (.value x) w := fun ⟨r, h1, h2⟩ => ⟨r, den_of0 h1, fin h2⟩
  have finA : ∀ {s : Sem Value} {v : V}, (∃ r, denA ρ Φ v = some r ∧ s.run C.P w = .ok r w) → ∃ x, den ρ Φ v = some x ∧ (do pure (Next.value (← s)) : Sem Next).run C.P w = .ok (.value x) w := fun ⟨r, h1, h2⟩ => ⟨r, den_ofA h1, fin h2⟩
  obtain ⟨dst, op, type, pos, after, guard⟩ := o
  unfold quietV at hv
  simp only at hv hf
  cases op <;> simp only [quietO] at hv <;> first | (cases hv; done) | skip
  case move x => exact ⟨_, ev_den hg ha (hf x (by simp [Op.operands])) hv, rfl⟩
  case pick c x y =>
    replace hv := ob_some hv
    obtain ⟨p, hp, hv⟩ := hv
    have hpd := ev1_den hg ha (hf c (by simp [Op.operands])) hp
    unfold qPick at hv
    split at hv
    · rename_i b
      have hc : a.eval c = .bool b := (Option.some.inj hpd).symm
      rw [boolRec_eq] at hv
      cases b with
      | true => exact ⟨_, ev_den hg ha (hf x (by simp [Op.operands])) hv, by simp [execOp, hc, asBool]⟩
      | false => exact ⟨_, ev_den hg ha (hf y (by simp [Op.operands])) hv, by simp [execOp, hc, asBool]⟩
    · cases hv
  case build t parts =>
    replace hv := ob_some hv
    obtain ⟨ps, hps, hv⟩ := hv
    replace hv := ob_some hv
    obtain ⟨z, hz, hv⟩ := hv
    exact finA (build_run hg ha (fun x hx => hf x.2 (by simp only [Op.operands]; exact List.mem_map.2 ⟨x, hx, rfl⟩)) hps hz hv)
  case load t x =>
    replace hv := ob_some hv
    obtain ⟨p, hp, hv⟩ := hv
    exact finA (qLoad_run H1 (den_ofA (ev1_den hg ha (hf x (by simp [Op.operands])) hp)) hv)
  case nilCheck x =>
    replace hv := ob_some hv
    obtain ⟨p, hp, hv⟩ := hv
    have hpd := ev1_den hg ha (hf x (by simp [Op.operands])) hp
    have keep : p = v → (∃ ad, a.eval x = .pointer (some ad)) ∨ (∃ f l c, a.eval x = .func (.func f) l c) ∨ (∃ f l c, a.eval x = .func (.yield f) l c) → ∃ y, den ρ Φ v = some y ∧ (execOp a.eval ⟨dst, .nilCheck x, type, pos, after, guard⟩).run C.P w = .ok (.value y) w := fun e hc => by
      subst e
      refine ⟨_, den_ofA hpd, ?_⟩
      rcases hc with ⟨ad, hc⟩ | ⟨f, l, c, hc⟩ | ⟨f, l, c, hc⟩ <;> simp [execOp, hc]
    unfold qNil at hv
    split at hv
    · refine keep (Option.some.inj hv) (.inl ?_)
      simp only [denA, denC, den0] at hpd
      obtain ⟨L, _, hpd⟩ := Option.map_eq_some_iff.1 hpd
      exact ⟨_, hpd.symm⟩
    · refine keep (Option.some.inj hv) (.inr (.inl ?_))
      simp only [denA, denC] at hpd
      obtain ⟨g, hg', hpd⟩ := Option.bind_eq_some_iff.1 hpd
      obtain ⟨l, _, hpd⟩ := Option.bind_eq_some_iff.1 hpd
      obtain ⟨c, _, hpd⟩ := Option.map_eq_some_iff.1 hpd
      simp only [denFn, Option.some.injEq] at hg'
      subst hg'
      exact ⟨_, _, _, hpd.symm⟩
    · refine keep (Option.some.inj hv) (.inr (.inr ?_))
      simp only [denA, denC] at hpd
      obtain ⟨g, hg', hpd⟩ := Option.bind_eq_some_iff.1 hpd
      obtain ⟨l, _, hpd⟩ := Option.bind_eq_some_iff.1 hpd
      obtain ⟨c, _, hpd⟩ := Option.map_eq_some_iff.1 hpd
      simp only [denFn] at hg'
      obtain ⟨L, _, rfl⟩ := Option.map_eq_some_iff.1 hg'
      exact ⟨_, _, _, hpd.symm⟩
    · cases hv
  case binOp op t x y yt =>
    replace hv := ob_some hv
    obtain ⟨p, hp, hv⟩ := hv
    replace hv := ob_some hv
    obtain ⟨q, hq, hv⟩ := hv
    exact fin0 (binV_run hB H1 hv (ev1_den hg ha (hf x (by simp [Op.operands])) hp) (ev1_den hg ha (hf y (by simp [Op.operands])) hq))
  case unOp op t x =>
    replace hv := ob_some hv
    obtain ⟨p, hp, hv⟩ := hv
    exact fin0 (unV_run hv (ev1_den hg ha (hf x (by simp [Op.operands])) hp))
  case convert s d x =>
    replace hv := ob_some hv
    obtain ⟨p, hp, hv⟩ := hv
    exact fin0 (convV_run hv (ev1_den hg ha (hf x (by simp [Op.operands])) hp))
  case makeFunc fn first cap =>
    replace hv := ob_some hv
    obtain ⟨l, hl, hv⟩ := hv
    replace hv := ob_some hv
    obtain ⟨c, hc, hv⟩ := hv
    replace hv := guardO_some hv
    obtain ⟨hs, hv⟩ := hv
    cases hv
    simp only [Bool.and_eq_true] at hs
    obtain ⟨⟨s1, s2⟩, s3⟩ := hs
    have d1 := evs_den (ρ := ρ) hg ha (l := first.toList) (fun x hx => hf x (by simp [Op.operands] at hx ⊢; exact .inl hx)) hl
    have d2 := evs_den (ρ := ρ) hg ha (l := cap.toList) (fun x hx => hf x (by simp [Op.operands] at hx ⊢; exact .inr hx)) hc
    have e3 : denFn Φ fn = some fn := by cases fn <;> first | rfl | cases s3
    refine ⟨.func fn (first.map a.eval) (cap.map a.eval), ?_, rfl⟩
    simp only [den, denA, denC, e3, mapO'_two s1 d1, mapO'_two s2 d2, Option.bind_some, Option.map_some]
    rw [two_toArray d1, two_toArray d2]
  case slice t x lo hi mx =>
    replace hv := ob_some hv
    obtain ⟨p, hp, hv⟩ := hv
    replace hv := ob_some hv
    obtain ⟨l, hl, hv⟩ := hv
    replace hv := ob_some hv
    obtain ⟨r, hr, hv⟩ := hv
    replace hv := ob_some hv
    obtain ⟨m, hm, hv⟩ := hv
    exact fin0 (sliceV_run H1 hv (ev1_den hg ha (hf x (by simp [Op.operands])) hp) (optV_den hg ha (fun y hy => hf y (by simp [Op.operands, hy])) hl) (optV_den hg ha (fun y hy => hf y (by simp [Op.operands, hy])) hr) (optV_den hg ha (fun y hy => hf y (by simp [Op.operands, hy])) hm))
  case fieldAddr s x i =>
    replace hv := ob_some hv
    obtain ⟨p, hp, hv⟩ := hv
    exact fin0 (fieldA_run hv (ev1_den hg ha (hf x (by simp [Op.operands])) hp))
  case field s x i =>
    replace hv := ob_some hv
    obtain ⟨p, hp, hv⟩ := hv
    exact finA (field_run hv (ev1_den hg ha (hf x (by simp [Op.operands])) hp))
  case indexAddr t x ix =>
    replace hv := ob_some hv
    obtain ⟨p, hp, hv⟩ := hv
    replace hv := ob_some hv
    obtain ⟨q, hq, hv⟩ := hv
    replace hv := ob_some hv
    obtain ⟨n, hn, hv⟩ := hv
    exact fin0 (indexA_run hn hv (ev1_den hg ha (hf x (by simp [Op.operands])) hp) (ev1_den hg ha (hf ix (by simp [Op.operands])) hq))
  case index t x ix =>
    replace hv := ob_some hv
    obtain ⟨p, hp, hv⟩ := hv
    replace hv := ob_some hv
    obtain ⟨q, hq, hv⟩ := hv
    replace hv := ob_some hv
    obtain ⟨n, hn, hv⟩ := hv
    exact finA (index_run hn hv (ev1_den hg ha (hf x (by simp [Op.operands])) hp) (ev1_den hg ha (hf ix (by simp [Op.operands])) hq))
  case lookup t x k ok =>
    replace hv := ob_some hv
    obtain ⟨p, hp, hv⟩ := hv
    replace hv := ob_some hv
    obtain ⟨q, hq, hv⟩ := hv
    obtain ⟨r, h1, h2⟩ := lookup_run H1 hv (ev1_den hg ha (hf x (by simp [Op.operands])) hp) (ev1_den hg ha (hf k (by simp [Op.operands])) hq)
    exact ⟨r, h1, fin h2⟩
  case extract x i =>
    replace hv := ob_some hv
    obtain ⟨p, hp, hv⟩ := hv
    have hpd := ev_den hg ha (hf x (by simp [Op.operands])) hp
    unfold qExtract at hv
    split at hv
    · rename_i l
      rw [nthL_eq] at hv
      simp only [den] at hpd
      obtain ⟨r, hr, hpd⟩ := Option.map_eq_some_iff.1 hpd
      obtain ⟨y, hy, hyd⟩ := mapO'_get hr i v hv
      refine ⟨y, den_ofA hyd, ?_⟩
      simp [execOp, ← hpd, Instr.extract, hy]
    · cases hv
  case call c =>
    unfold qCallee at hv
    split at hv
    · rename_i b hcal
      replace hv := ob_some hv
      obtain ⟨l, hl, hv⟩ := hv
      have d1 := evs1_den (ρ := ρ) hg ha (l := c.args.toList) (fun x hx => hf x (by simp [Op.operands, Call.operands] at hx ⊢; exact .inr hx)) hl
      obtain ⟨r, h1, h2⟩ := blt_run (w := w) (ty := type) (cs := c.args.map fun | .const _ => true | _ => false) H1 d1 hv
      refine ⟨r, h1, ?_⟩
      rw [two_toArray d1] at h2
      simp only [execOp, resolve, hcal, Sem.run_bind, Sem.run_pure, Result.andThen, invoke]
      exact h2
    · cases hv
end
end Go.Proofs.YtolheapnopmhgaaGreatDoor
