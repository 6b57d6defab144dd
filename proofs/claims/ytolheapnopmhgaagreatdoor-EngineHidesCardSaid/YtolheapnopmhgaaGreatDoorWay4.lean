/- Operations that act, all of them; code. -/
import Derived.Test.YtolheapnopmhgaaGreatDoorWay3
set_option linter.all false
namespace Go.Proofs.YtolheapnopmhgaaGreatDoor
open Go

section
variable {C : Ctx} {ρ : Sym} {base : Nat} {w0 : World} {ih : Ih}

/-- A fence of ours. -/
def Ours (F : Fence) : Prop := F = Fence.wide ∨ ∃ l, F = Fence.wide.inRound l
theorem Ours.calls {F : Fence} (hF : Ours F) {n : Nat} {P : Program} {f : FuncId} {args : Array Value} {w : World} {R : Ending → World → Prop} (h : CallsIn Fence.wide n P f args w R) : CallsIn F n P f args w R := by
  rcases hF with rfl | ⟨l, rfl⟩
  · exact h
  · exact h
theorem Ours.round {F : Fence} (hF : Ours F) (l : Nat) : F.inRound l = Fence.wide.inRound l := by
  rcases hF with rfl | ⟨_, rfl⟩ <;> rfl
theorem Ours.fn {F : Fence} (hF : Ours F) (f : FuncId) : F.fn f := by
  rcases hF with rfl | ⟨_, rfl⟩ <;> trivial
theorem Ours.depth {F : Fence} (hF : Ours F) : F.depth = none := by
  rcases hF with rfl | ⟨_, rfl⟩ <;> rfl
theorem RoundOk.ours {Φ : Env} {r : Option Nat} {F : Fence} (h : RoundOk Φ r F) : Ours F := by
  rcases h with ⟨_, rfl⟩ | ⟨l, L, _, _, rfl⟩
  · exact .inl rfl
  · exact .inr ⟨_, rfl⟩
theorem f_den {Φ : Env} {fn : Fn} {first cap : List V} {x : Value} (h : den ρ Φ (.f fn first cap) = some x) : ∃ g a c, denFn Φ fn = some g ∧ Two (fun v x => den ρ Φ v = some x) first a ∧ Two (fun v x => den ρ Φ v = some x) cap c ∧ x = .func g a.toArray c.toArray := by
  simp only [den, denA, denC] at h
  obtain ⟨g, hg, h⟩ := Option.bind_eq_some_iff.1 h
  obtain ⟨a, ha, h⟩ := Option.bind_eq_some_iff.1 h
  obtain ⟨c, hc, h⟩ := Option.map_eq_some_iff.1 h
  exact ⟨g, a, c, hg, (two_of_mapO' ha).imp fun _ _ h => den_of0 h, (two_of_mapO' hc).imp fun _ _ h => den_of0 h, h.symm⟩
theorem act_sound (hP : ProgOk C ρ base w0) (hs : Sound C ρ base w0 ih) {F : Fence} (hFo : Ours F) : ActS C ρ base w0 F ih := by
  intro o pend Φ E a h w k K Q har hfree hr hg hfr hF hdf hdr hev hK
  refine ⟨fun f _ => hF.fn f, ?_⟩
  -- what an operation does that is no call of a function's
  have plain : ∀ (h2 : ∀ c, o.op ≠ .defer c), actK (fun v h => k (E.put o.dst v) h) (actV C E h o) = true → o.uponIn F 0 C.P a K Q ((o.semAt F.round a.eval).run C.P w) := fun h2 ha => by
    rw [Oper.semAt_eq _ _ _ h2]
    cases hv : actV C E h o with
    | none => rw [hv] at ha; cases ha
    | some q =>
      obtain ⟨v, h'⟩ := q
      rw [hv] at ha
      obtain ⟨x, w', Φ', k1, k2, k3, k4, k5⟩ := actV_run hr hg har hfree hv
      have hKx := hK E.d a.defers v x h' Φ' w' k1 k2 (hfr.trans k3) (hdr.ge k1.ge) k4 ha
      rcases k5 with k5 | ⟨k5, rfl⟩
      · rw [k5]; exact hKx
      · rw [k5]; exact hKx
  unfold evAct at hev
  split at hev
  · rename_i c hop
    have h2 : ∀ c, o.op ≠ .defer c := fun c e => by rw [hop] at e; cases e
    unfold evCall at hev
    split at hev
    · rename_i f hcal
      cases hfv : E.ev C f with
      | none => rw [hfv] at hev; cases hev
      | some fv =>
        rw [hfv] at hev
        change callK C ih E h c (fun v h => k (E.put o.dst v) h) fv = true at hev
        unfold callK at hev
        cases hargs : evs C E c.args.toList with
        | none => rw [hargs] at hev; cases hev
        | some args =>
          rw [hargs] at hev
          change callV C ih args h (fun v h => k (E.put o.dst v) h) fv = true at hev
          have hfd := ev_den hg har (hfree f (by rw [hop]; simp [Op.operands, Call.operands, hcal])) hfv
          have had := evs_den (ρ := ρ) hg har (l := c.args.toList) (fun x hx => hfree x (by rw [hop]; simp [Op.operands, Call.operands] at hx ⊢; exact .inr hx)) hargs
          have hax := two_toArray had
          have hkv : KVRel C ρ base w0 Φ h.n (fun v h => k (E.put o.dst v) h) fun x w => K (a.put o.dst x) w := fun v Φ' h' x w' hfw hr' hg' hfr' hd hk => hK E.d a.defers v x h' Φ' w' hfw hr' hfr' (hdr.ge hfw.ge) hd hk
          rw [Oper.semAt_eq _ _ _ h2]
          unfold callV at hev
          split at hev
          · rename_i g first cap
            obtain ⟨g', fa, fc, hg', hta, htc, hfx⟩ := f_den hfd
            simp only [denFn, Option.some.injEq] at hg'
            subst hg'
            have htwo : Two (fun v x => den ρ Φ v = some x) (first ++ args ++ cap) (fa ++ c.args.toList.map a.eval ++ fc) := (hta.append had).append htc
            obtain ⟨⟨fn, hfn, hbody⟩, hcall⟩ := call_run hP hs (R := fun
              | .returned v, w'' => K (a.put o.dst v) w''
              | .panicked chain, w'' => Q (.panic chain) a w''
              | .outgrown, _ => LetsOut Q) hr hg hfr htwo hev hkv
            have hrun : (execOp a.eval o).run C.P w = .ok (.enter g (fa ++ c.args.toList.map a.eval ++ fc).toArray) w := by
              simp only [execOp, hop, resolve, hcal, hfx, Deferred.ofValue, Sem.run_bind, Sem.run_pure, Result.andThen, invoke]
              rw [callFunc_run hP hfn hbody]
              congr 2
              rw [← hax]
              simp
            rw [hrun]
            exact ⟨fun hd => (by rw [hFo.depth] at hd; cases hd), hFo.calls hcall⟩
          · rename_i l cap
            obtain ⟨g', fa, fc, hg', hta, htc, hfx⟩ := f_den hfd
            simp only [denFn] at hg'
            obtain ⟨L, hL, rfl⟩ := Option.map_eq_some_iff.1 hg'
            cases hta
            obtain ⟨fn, tmps, asg, body, hy, hround⟩ := round_run hs (F := F) (R := fun
              | .returned v, w'' => K (a.put o.dst v) w''
              | .panicked chain, w'' => Q (.panic chain) a w''
              | .outgrown, _ => LetsOut Q) hFo.round hFo.fn hr hg hfr hL had hev hkv
            have hrun : (execOp a.eval o).run C.P w = .ok (.round L.blk fn tmps asg body) w := by
              simp only [execOp, hop, resolve, hcal, hfx, Deferred.ofValue, Sem.run_bind, Sem.run_pure, Result.andThen, invoke]
              rw [← hax]
              simp only [List.append_toArray, List.nil_append]
              exact hy
            rw [hrun]
            exact ⟨fun hd => (by rw [hFo.depth] at hd; cases hd), hround⟩
          · cases hev
    · exact plain h2 hev
    · cases hev
  · rename_i c hop
    unfold evDef at hev
    split at hev
    · rename_i f hcal
      cases hfv : E.ev C f with
      | none => rw [hfv] at hev; cases hev
      | some fv =>
        rw [hfv] at hev
        unfold evDefer at hev
        split at hev
        · rename_i g first cap hfe
          cases hfe
          cases hargs : evs C E c.args.toList with
          | none => rw [hargs] at hev; cases hev
          | some args =>
            rw [hargs] at hev
            change k (A.put ⟨E.t, .call g (first ++ args ++ cap) :: E.d⟩ o.dst (.tup [])) h = true at hev
            have hfd := ev_den hg har (hfree f (by rw [hop]; simp [Op.operands, Call.operands, hcal])) hfv
            have had := evs_den (ρ := ρ) hg har (l := c.args.toList) (fun x hx => hfree x (by rw [hop]; simp [Op.operands, Call.operands] at hx ⊢; exact .inr hx)) hargs
            have hax := two_toArray had
            obtain ⟨g', fa, fc, hg', hta, htc, hfx⟩ := f_den hfd
            simp only [denFn, Option.some.injEq] at hg'
            subst hg'
            have hro : F.round = none := hdf.resolve_right fun h => h c hop
            rw [hro, Oper.semAt_none]
            have hrun : (execOp a.eval o).run C.P w = .ok (.defer { target := .fn (.func g) fc.toArray, args := (fa ++ c.args.toList.map a.eval).toArray }) w := by
              simp only [execOp, hop, resolve, hcal, hfx, Deferred.ofValue, Sem.run_bind, Sem.run_pure, Result.andThen]
              rw [← hax]
              simp
            rw [hrun]
            exact hK (.call g (first ++ args ++ cap) :: E.d) _ (.tup []) undef h Φ w (Fw.refl Φ _) hr hfr (.cons ⟨fc, fa ++ c.args.toList.map a.eval, rfl, (hta.append had).append htc⟩ hdr) rfl hev
        · cases hev
    · cases hev
  · rename_i x s hop
    have h2 : ∀ c, o.op ≠ .defer c := fun c e => by rw [hop] at e; cases e
    simp only [Bool.and_eq_true, Bool.not_eq_true'] at hev
    obtain ⟨hsf, hev⟩ := hev
    subst hsf
    cases hxv : E.ev C x with
    | none => rw [hxv] at hev; cases hev
    | some xv =>
      rw [hxv] at hev
      have hxd := ev_den hg har (hfree x (by rw [hop]; simp [Op.operands])) hxv
      obtain ⟨u, y, h', w', k1, k2, k3, k4, k5, k6⟩ := next_run (ty := o.type) hr hxd hev
      rw [Oper.semAt_eq _ _ _ h2]
      have hrun : (execOp a.eval o).run C.P w = .ok (.value y) w' := by
        simp only [execOp, hop, Sem.run_bind, k1, Result.andThen, Sem.run_pure]
      rw [hrun]
      exact hK E.d a.defers u y h' Φ w' (Fw.up k5) k3 (hfr.trans k4) hdr k2 k6
  · rename_i hno1 hno2 hno3
    exact plain (fun c e => hno2 c e) hev
end
end Go.Proofs.YtolheapnopmhgaaGreatDoor
