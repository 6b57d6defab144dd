/- Loops over functions; all code; a closed call. -/
import Derived.Test.YtolheapnopmhgaaGreatDoorWay5
set_option linter.all false
namespace Go.Proofs.YtolheapnopmhgaaGreatDoor
open Go

section
variable {C : Ctx} {ρ : Sym} {base : Nat} {w0 : World} {ih : Ih}

theorem codeOk_jump {odd : List (Nat × Nat)} {N : Nat} {c : Code} (h : okJump (some c)) : codeOk odd N c = true := by
  rcases h with rfl | ⟨id, rfl⟩ | ⟨l, rfl⟩ <;> rfl
/-- The one call, and what is behind it. -/
theorem range_tail (hP : ProgOk C ρ base w0) (hs : Sound C ρ base w0 ih) {N : Nat} {r : Option Nat} {F : Fence} {Φ : Env} {E : A} {a : Act} {h : H} {w : World} {k : K} {Q : Exit → Act → World → Prop} {f : Operand} {g : FuncId} {first cap : List V} {ps : Array Tmp} {asg body : Code} {ds : List AD} {dfr : Nat} {mark : List Deferred} {fn : FuncId} {D : Loc}
    (hro : RoundOk Φ r F) (hst : St C ρ base w0 N Φ E a h w) (hf : den ρ Φ (.f (.func g) first cap) = some (a.eval f)) (hD : Φ dfr = some D) (hasg : codeOk C.odd N asg = true) (hbody : codeOk C.odd N body = true) (hps : ps.toList.all (fun d => Nat.blt d N) = true)
    (hds : DefR ρ Φ ds (mark ++ a.defers)) (hev : runL C ih r g first cap ps asg body E ds dfr h k = true) (hk : KRel C ρ base w0 N Φ h.n k Q) :
    ∃ (d : Deferred) (w₁' : World) (f' : FuncId) (args : Array Value) (w₂ : World),
      (resolve a.eval (rangeCall f w.heap.size) 0).run C.P (w.alloc (.loop { state := .ready, pending := none, fn, tmps := a.tmps, params := ps, assign := asg, body, defers := D.blk })) = .ok d w₁' ∧
      (invoke d.target d.args).run C.P w₁' = .ok (.enter f' args) w₂ ∧
      CallsIn F 0 C.P f' args w₂ (rangePost F 0 C.P w.heap.size Q { a with defers := mark ++ a.defers }) := by
  have hΦ : Φ h.n = none := by
    cases hc : Φ h.n with
    | none => rfl
    | some L => have := (hst.hr.lt _ _ hc).1; omega
  let L : Loc := ⟨w.heap.size, 0, 0, 0⟩
  have hge := upd_ge (Φ := Φ) hΦ L
  have hfw : Fw Φ h.n (upd Φ h.n L) (h.n + 1) := Fw.upd hΦ L
  let obj : Obj := .loop { state := .ready, pending := none, fn, tmps := a.tmps, params := ps, assign := asg, body, defers := D.blk }
  have hr1 : HR C.odd ρ (upd Φ h.n L) base (h.new (.loop .ready none E.t ps asg body dfr)) (w.alloc obj) := by
    refine (hst.hr.later _).tell hΦ (Nat.lt_succ_self _) (Tr.get_put_same _ _ _) rfl ?_
    refine ⟨hst.hr.bs, trivial, fn, a.tmps, D, hge _ _ hD, alloc_at w _, fun s v hv => ?_, by rw [hst.sz]; exact hasg, by rw [hst.sz]; exact hbody, by rw [hst.sz]; exact hps⟩
    obtain ⟨x, h1, h2⟩ := hst.ar.at_ s v hv (fun h => h)
    exact ⟨x, h1, den_ge hge h2⟩
  obtain ⟨g', fa, fc, hg', hta, htc, hfx⟩ := f_den hf
  simp only [denFn, Option.some.injEq] at hg'
  subst hg'
  have hy : den ρ (upd Φ h.n L) (.f (.yield h.n) [] []) = some (.func (.yield w.heap.size) #[] #[]) := by
    simp only [den, denA, denC, denFn, upd_same, Option.map_some, Option.bind_some, mapO']
    rfl
  have htwo : Two (fun v x => den ρ (upd Φ h.n L) v = some x) (first ++ [.f (.yield h.n) [] []] ++ cap) (fa ++ [.func (.yield w.heap.size) #[] #[]] ++ fc) :=
    ((hta.imp fun _ _ h => den_ge hge h).append (.cons hy .nil)).append (htc.imp fun _ _ h => den_ge hge h)
  unfold runL at hev
  have hkv : KVRel C ρ base w0 (upd Φ h.n L) (h.n + 1) (fun _ h' => endL ih r h.n ⟨E.t, ds⟩ h' k (h'.t.get h.n)) fun x w₃ => rangePost F 0 C.P w.heap.size Q { a with defers := mark ++ a.defers } (.returned x) w₃ := fun v Φ' h' x w₃ hfw' hr' hg' hfr' _ he => by
    have hL' : Φ' h.n = some L := hfw'.ge _ _ (upd_same _ _)
    have hgeT : Ge Φ Φ' := hge.trans hfw'.ge
    show ∃ jump w₄, _
    change endL ih r h.n ⟨E.t, ds⟩ h' k (h'.t.get h.n) = true at he
    unfold endL at he
    split at he
    · rename_i st pd t ps' asg' body' dfr' ho
      obtain ⟨hb, hj, fn', tmps', Dl, hDl, hheap, hsl, hc⟩ := loop_at hr' hL' ho
      have hnb : (st == LoopState.busy) = false ∧ pdK ih r ⟨E.t, ds⟩ (h'.set h.n (.loop .exhausted pd t ps' asg' body' dfr')) k pd = true := by
        cases st <;> first | (cases he; done) | exact ⟨rfl, he⟩
      obtain ⟨hbusy, he⟩ := hnb
      obtain ⟨hn, w₄, k1, k2, k3⟩ := setObj_run (o' := .loop .exhausted pd t ps' asg' body' dfr') (obj := .loop { state := .exhausted, pending := pd, fn := fn', tmps := tmps', params := ps', assign := asg', body := body', defers := Dl.blk }) hr' hL' ho rfl hheap (fun _ _ _ e => by cases e) hb
        (fun w' hw => ⟨hb, hj, fn', tmps', Dl, hDl, hw, hsl, hc⟩)
      have hrun : (Instr.endLoop w.heap.size).run C.P w₃ = .ok pd w₄ := by
        have hg2 : (Instr.getLoop w.heap.size).run C.P w₃ = .ok { state := st, pending := pd, fn := fn', tmps := tmps', params := ps', assign := asg', body := body', defers := Dl.blk } w₃ := getLoop_run (b := w.heap.size) hheap
        have k3' : (setObj w.heap.size (.loop { state := .exhausted, pending := pd, fn := fn', tmps := tmps', params := ps', assign := asg', body := body', defers := Dl.blk })).run C.P w₃ = .ok () w₄ := k3
        simp only [Instr.endLoop, Sem.run_bind, hg2, Result.andThen, hbusy, Bool.false_eq_true, if_false, Sem.run_pure, k3']
      have hst' : St C ρ base w0 N Φ' ⟨E.t, ds⟩ { a with defers := mark ++ a.defers } (h'.set h.n (.loop .exhausted pd t ps' asg' body' dfr')) w₄ :=
        ⟨⟨fun s v hv => hst.ar.lt s v hv, fun s v hv hp => let ⟨x, h1, h2⟩ := hst.ar.at_ s v hv hp; ⟨x, h1, den_ge hgeT h2⟩⟩, k1, hg', hfr'.trans k2, hds.ge hgeT, hst.sz⟩
      have hfwT : Fw Φ h.n Φ' (h'.set h.n (.loop .exhausted pd t ps' asg' body' dfr')).n := (hfw.trans hfw').trans (Fw.up hn)
      refine ⟨pd, w₄, hrun, ?_⟩
      cases pd with
      | none => exact hk .normal Φ' _ _ _ w₄ hfwT hst' he
      | some c => exact (hs.1 c N r F Φ' _ _ _ w₄ k Q (codeOk_jump hj) (hro.ge hgeT) hst' he (hk.fw hfwT)).1
    · cases he
  obtain ⟨⟨fn2, hfn, hbd⟩, hcall⟩ := call_run hP hs (R := rangePost F 0 C.P w.heap.size Q { a with defers := mark ++ a.defers }) hr1 (hst.gr.ge hge) (hst.fr.trans (Fr.alloc hst.hr.bs obj (by intro c t f e; simp only [obj] at e; cases e))) htwo hev hkv
  refine ⟨{ target := .fn (.func g) fc.toArray, args := fa.toArray ++ #[.func (.yield w.heap.size) #[] #[]] }, w.alloc obj, g, _, w.alloc obj, ?_, ?_, hro.ours.calls hcall⟩
  · simp only [resolve, rangeCall, hfx, Deferred.ofValue]
    rw [show Array.map a.eval #[.const (.func (.yield w.heap.size) #[] #[])] = #[.func (.yield w.heap.size) #[] #[]] by rw [List.map_toArray]; rfl]
    rfl
  · simp only [invoke]
    rw [callFunc_run hP hfn hbd]
    congr 2
    simp
theorem range_sound (hP : ProgOk C ρ base w0) (hs : Sound C ρ base w0 ih) {N : Nat} {r : Option Nat} {F : Fence} {Φ : Env} {E : A} {a : Act} {h : H} {w : World} {k : K} {Q : Exit → Act → World → Prop} {f : Operand} {ps : Array Tmp} {asg body : Code}
    (hro : RoundOk Φ r F) (hst : St C ρ base w0 N Φ E a h w) (hasg : codeOk C.odd N asg = true) (hbody : codeOk C.odd N body = true) (hps : ps.toList.all (fun d => Nat.blt d N) = true)
    (hev : stRange C ih r ps asg body E h k (E.ev C f) = true) (hk : KRel C ρ base w0 N Φ h.n k Q) : (Code.rangeFunc f ps asg body).wpIn F 0 C.P Q a w := by
  unfold stRange at hev
  split at hev
  · rename_i g first cap hfv
    have hfd := ev_den hst.gr hst.ar (x := f) (fun _ _ h => h) hfv
    refine wpIn_rangeFunc fun fn _ => ?_
    have hdep : ∀ {F : Fence}, Ours F → (F.depth.isSome = true → 1 ≤ 0) := fun hFo hd => by rw [hFo.depth] at hd; cases hd
    rcases hro with ⟨rfl, rfl⟩ | ⟨l₀, L₀, rfl, hL₀, rfl⟩
    · -- an outermost loop
      have hΦ : Φ h.n = none := by
        cases hc : Φ h.n with
        | none => rfl
        | some L => have := (hst.hr.lt _ _ hc).1; omega
      let L : Loc := ⟨w.heap.size, 0, 0, 0⟩
      have hge := upd_ge (Φ := Φ) hΦ L
      have hr1 : HR C.odd ρ (upd Φ h.n L) base (h.new (.defs false)) (w.alloc (.deferred (some []))) :=
        (hst.hr.later _).tell hΦ (Nat.lt_succ_self _) (Tr.get_put_same _ _ _) rfl ⟨hst.hr.bs, alloc_at w _⟩
      have hst1 : St C ρ base w0 N (upd Φ h.n L) E a (h.new (.defs false)) (w.alloc (.deferred (some []))) :=
        ⟨hst.ar.ge hge, hr1, hst.gr.ge hge, hst.fr.trans (Fr.alloc hst.hr.bs _), hst.df.ge hge, hst.sz⟩
      obtain ⟨d, w₁', f', args, w₂, e1, e2, e3⟩ := range_tail hP hs (fn := fn) (mark := [{ target := .collected w.heap.size, args := #[] }]) (ds := .mark h.n :: E.d) (.inl ⟨rfl, rfl⟩) hst1 (den_ge hge hfd) (upd_same h.n L) hasg hbody hps (.cons ⟨L, upd_same _ _, rfl⟩ (hst.df.ge hge)) hev (hk.fw (Fw.upd hΦ L))
      refine ⟨_, [{ target := .collected w.heap.size, args := #[] }], _, d, w₁', f', args, w₂, ?_, e1, fun _ _ => trivial, e2, hdep (.inl rfl), e3⟩
      rfl
    · -- within a round
      have hFo : Ours (Fence.wide.inRound L₀.blk) := .inr ⟨_, rfl⟩
      change optK (fun dfr => runL C ih (some l₀) g first cap ps asg body E E.d dfr h k) (dfrOf (h.t.get l₀)) = true at hev
      cases hd : dfrOf (h.t.get l₀) with
      | none => rw [hd] at hev; cases hev
      | some dfr =>
        rw [hd] at hev
        unfold dfrOf at hd
        split at hd
        · rename_i st pd t ps0 asg0 body0 d0 ho
          cases hd
          obtain ⟨hb, hj, fn0, tmps0, Dl, hDl, hheap, hsl, hc⟩ := loop_at hst.hr hL₀ ho
          obtain ⟨d, w₁', f', args, w₂, e1, e2, e3⟩ := range_tail hP hs (fn := fn) (mark := []) (ds := E.d) (.inr ⟨l₀, L₀, rfl, hL₀, rfl⟩) hst hfd hDl hasg hbody hps hst.df hev hk
          refine ⟨_, [], _, d, w₁', f', args, w₂, ?_, e1, fun _ _ => trivial, e2, hdep hFo, e3⟩
          have hg2 := getLoop_run (C := C) hheap
          show (Instr.enterLoop fn a.tmps ps asg body (some L₀.blk)).run C.P w = _
          simp only [Instr.enterLoop, Sem.run_bind, hg2, Result.andThen, Sem.run_pure]
          rfl
        · cases hd
  · cases hev

theorem findLabel_ok {odd : List (Nat × Nat)} {N : Nat} {l : Nat} : ∀ {c rest : Code}, findLabel c l = some rest → codeOk odd N c = true → codeOk odd N rest = true := by
  intro c
  induction c with
  | seq a b iha ihb =>
    intro rest hf hc
    simp only [codeOk, Bool.and_eq_true] at hc
    simp only [findLabel] at hf
    cases ha : findLabel a l with
    | some ra =>
      rw [ha] at hf
      cases hf
      simp only [codeOk, Bool.and_eq_true]
      exact ⟨iha ha hc.1, hc.2⟩
    | none =>
      rw [ha] at hf
      exact ihb hf hc.2
  | label l' =>
    intro rest hf hc
    simp only [findLabel] at hf
    split at hf
    · cases hf; rfl
    · cases hf
  | _ => intro rest hf; simp [findLabel] at hf
theorem stepR_scope {P : Program} {b : Frame} {a : Act} {k : List Item} {cs : List Frame} {w : World} {c : Code} : step P (lone (b.atR a (.code (.scope c) :: k)) cs w) = .next (lone (b.atR a (.code c :: .inScope c :: k)) cs w) :=
  step_lone_go (by simp [stepG, stepG.exec, Frame.atR])
theorem stepR_inScope {P : Program} {b : Frame} {a : Act} {k : List Item} {cs : List Frame} {w : World} {c : Code} : step P (lone (b.atR a (.inScope c :: k)) cs w) = .next (lone (b.atR a k) cs w) :=
  step_lone_go (by simp [stepG, stepG.exec, Frame.atR])
/-- In a scope. -/
theorem scope_at {F : Fence} {Q : Exit → Act → World → Prop} {body c : Code} {a : Act} {w : World}
    (h : c.wpIn F 0 C.P (fun e a w => match e with
      | .goto l => (match findLabel body l with
        | some rest => ScopeAt C F Q body rest a w
        | none => Q (.goto l) a w)
      | e => Q e a w) a w) : ScopeAt C F Q body c a w := by
  intro fr k cs hro hb hr
  obtain ⟨e, a₁, w₁, hq, harr⟩ := h fr (.inScope body :: k) cs hro hb hr
  cases e with
  | normal => exact ⟨.normal, a₁, w₁, hq, StepsIn.trans harr (.one (fenced_calm hb hr rfl) stepR_inScope)⟩
  | exit id =>
    have hx : exitTo id (.inScope body :: k) = exitTo id k := by simp [exitTo]
    exact ⟨.exit id, a₁, w₁, hq, fun k' hk => harr.1 k' (by rw [hx]; exact hk), fun hr' hk => harr.2 hr' (by rw [hx]; exact hk)⟩
  | goto l =>
    simp only at hq
    cases hf : findLabel body l with
    | some rest =>
      rw [hf] at hq
      obtain ⟨e₂, a₂, w₂, hq₂, harr₂⟩ := hq fr k cs hro hb hr
      exact ⟨e₂, a₂, w₂, hq₂, .of_steps (harr.1 _ (by simp [gotoIn, hf])) harr₂⟩
    | none =>
      rw [hf] at hq
      have hx : gotoIn l (.inScope body :: k) = gotoIn l k := by simp [gotoIn, hf]
      exact ⟨.goto l, a₁, w₁, hq, fun k' hk => harr.1 k' (by rw [hx]; exact hk), fun hr' hk => harr.2 hr' (by rw [hx]; exact hk)⟩
  | ret => exact ⟨_, a₁, w₁, hq, harr⟩
  | panic ch => exact ⟨_, a₁, w₁, hq, harr⟩
  | outgrown => exact ⟨_, a₁, w₁, hq, harr⟩
theorem scope_enter {F : Fence} {Q : Exit → Act → World → Prop} {b : Code} {a : Act} {w : World} (h : ScopeAt C F Q b b a w) : (Code.scope b).wpIn F 0 C.P Q a w := fun fr k cs hro hb hr =>
  let ⟨e, a', w', q, harr⟩ := h fr k cs hro hb hr
  ⟨e, a', w', q, .of_steps (.one (fenced_calm hb hr rfl) stepR_scope) harr⟩
theorem step_sound (hP : ProgOk C ρ base w0) (hs : Sound C ρ base w0 ih) : Sound C ρ base w0 (stepE C ih) := by
  refine ⟨?_, ?_⟩
  case refine_2 =>
    intro body c N r F Φ E a h w k Q hbo hco hro hst hev hk
    refine scope_at (hs.1 c N r F Φ E a h w (stScope ih body r k) _ hco hro hst hev fun e Φ' E' a' h' w' hfw hst' he => ?_).1
    cases e with
    | goto l =>
      change stGoto ih body r l E' h' k (findLabel body l) = true at he
      show (match findLabel body l with
        | some rest => ScopeAt C F Q body rest a' w'
        | none => Q (.goto l) a' w')
      cases hf : findLabel body l with
      | some rest =>
        rw [hf] at he
        exact hs.2 body rest N r F Φ' E' a' h' w' k Q hbo (findLabel_ok hf hbo) (hro.ge hfw.ge) hst' he (hk.fw hfw)
      | none =>
        rw [hf] at he
        exact hk _ Φ' E' a' h' w' hfw hst' he
    | _ => exact hk _ Φ' E' a' h' w' hfw hst' he
  intro c N r F Φ E a h w k Q hco hro hst hev hk
  change stepN C ih r E h k c = true at hev
  have hself : ∀ e, k e E h = true → Q e a w := fun e he => hk e Φ E a h w (Fw.refl Φ _) hst he
  have hseq : ∀ (y : Code) (K : Act → World → Prop), codeOk C.odd N y = true → (∀ Φ' E' a' h' w', Fw Φ h.n Φ' h'.n → St C ρ base w0 N Φ' E' a' h' w' → ih none y r E' h' k = true → K a' w') → KRel C ρ base w0 N Φ h.n (stSeq ih y r k) (Exit.then K Q) := fun y K hy hK e Φ' E' a' h' w' hfw hst' he => by
    cases e with
    | normal => exact hK Φ' E' a' h' w' hfw hst' he
    | _ => exact hk _ Φ' E' a' h' w' hfw hst' he
  cases c with
  | skip => exact ⟨wpIn_skip (hself _ hev), fun b e => by cases e⟩
  | label l => exact ⟨wpIn_label (hself _ hev), fun b e => by cases e⟩
  | exit id => exact ⟨wpIn_exit (hself _ hev), fun b e => by cases e⟩
  | goto l => exact ⟨wpIn_goto (hself _ hev), fun b e => by cases e⟩
  | ret => exact ⟨wpIn_ret (hself _ hev), fun b e => by cases e⟩
  | refuse why => cases hev
  | scope b => exact ⟨scope_enter (hs.2 b b N r F Φ E a h w k Q hco hco hro hst hev hk), fun b' e => by cases e⟩
  | seq x y =>
    simp only [codeOk, Bool.and_eq_true] at hco
    refine ⟨wpIn_seq (hs.1 x N r F Φ E a h w _ _ hco.1 hro hst hev (hseq y _ hco.2 fun Φ' E' a' h' w' hfw hst' he => ?_)).1, fun b e => by cases e⟩
    exact (hs.1 y N r F Φ' E' a' h' w' k Q hco.2 (hro.ge hfw.ge) hst' he (hk.fw hfw)).1
  | cond c x y =>
    simp only [codeOk, Bool.and_eq_true] at hco
    change stCond ih x y r E h k (E.ev C c) = true at hev
    unfold stCond at hev
    split at hev
    · rename_i p hp
      have hd := ev_den hst.gr hst.ar (x := c) (fun _ _ h => h) hp
      have hc : a.eval c = .bool p := (Option.some.inj hd).symm
      refine ⟨wpIn_cond hc ?_, fun b e => by cases e⟩
      cases p with
      | true => exact (hs.1 x N r F Φ E a h w k Q hco.1 hro hst hev hk).1
      | false => exact (hs.1 y N r F Φ E a h w k Q hco.2 hro hst hev hk).1
    · cases hev
  | block id b =>
    refine ⟨wpIn_block (hs.1 b N r F Φ E a h w _ _ hco hro hst hev fun e Φ' E' a' h' w' hfw hst' he => ?_).1, fun b e => by cases e⟩
    cases e with
    | exit i =>
      simp only [stBlock] at he
      unfold Exit.inBlock
      cases hb : Nat.beq i id with
      | true =>
        rw [hb] at he
        simp only [if_pos (Nat.eq_of_beq_eq_true hb)]
        exact hk _ Φ' E' a' h' w' hfw hst' he
      | false =>
        rw [hb] at he
        simp only [if_neg (Nat.ne_of_beq_eq_false hb)]
        exact hk _ Φ' E' a' h' w' hfw hst' he
    | _ => exact hk _ Φ' E' a' h' w' hfw hst' he
  | loop b =>
    have main : LoopAt C F Q b a w := loop_unroll (hs.1 b N r F Φ E a h w _ _ hco hro hst hev (hseq (.loop b) _ hco fun Φ' E' a' h' w' hfw hst' he =>
      (hs.1 (.loop b) N r F Φ' E' a' h' w' k Q hco (hro.ge hfw.ge) hst' he (hk.fw hfw)).2 b rfl)).1
    exact ⟨loop_enter main, fun b' e => by cases e; exact main⟩
  | region id ops draw =>
    simp only [codeOk, Bool.and_eq_true, Bool.or_eq_true, Bool.not_eq_true'] at hco
    exact ⟨region_run hP hs hco.1 (fun hd => hco.2.resolve_left (by rw [hd]; exact Bool.noConfusion)) hro.ours hro hst hev hk, fun b e => by cases e⟩
  | rangeFunc f ps asg body =>
    simp only [codeOk, Bool.and_eq_true] at hco
    exact ⟨range_sound hP hs hro hst hco.1.2 hco.2 hco.1.1 hev hk, fun b e => by cases e⟩
/-- WHAT THE EVALUATOR SAYS OF CODE IS SO. -/
theorem evC_sound (hP : ProgOk C ρ base w0) : ∀ n, Sound C ρ base w0 (evC C n) := by
  intro n
  induction n with
  | zero => exact ⟨(fun c N r F Φ E a h w k Q _ _ _ hev _ => by cases hev), (fun body c N r F Φ E a h w k Q _ _ _ _ hev _ => by cases hev)⟩
  | succ n ih => exact step_sound hP ih
end
/-- A CALL, AND WHAT THE EVALUATOR SAYS OF IT. -/
theorem run_calls {C : Ctx} {ρ : Sym} {base : Nat} {w : World} (hP : ProgOk C ρ base w) {n : Nat} {f : FuncId} {args : List V} {args' : List Value} {Φ : Env} {h : H} {k : KV} (hr : HR C.odd ρ Φ base h w) (hg : GR C Φ) (ha : Two (fun v x => den ρ Φ v = some x) args args')
    (hev : runF C n f args h k = true) : Calls C.P f args'.toArray w fun e w' => ∃ v Φ' h' x, e = .returned x ∧ Ge Φ Φ' ∧ HR C.odd ρ Φ' base h' w' ∧ Fr base w w' ∧ den ρ Φ' v = some x ∧ k v h' = true :=
  callsIn_wide.1 (call_run (w0 := w) hP (evC_sound hP n) hr hg (Fr.refl base w) ha hev (R := fun e w' => ∃ v Φ' h' x, e = .returned x ∧ Ge Φ Φ' ∧ HR C.odd ρ Φ' base h' w' ∧ Fr base w w' ∧ den ρ Φ' v = some x ∧ k v h' = true)
    fun v Φ' h' x w' hfw hr' _ hfr hd hk => ⟨v, Φ', h', x, rfl, hfw.ge, hr', hfr, hd, hk⟩).2
end Go.Proofs.YtolheapnopmhgaaGreatDoor
