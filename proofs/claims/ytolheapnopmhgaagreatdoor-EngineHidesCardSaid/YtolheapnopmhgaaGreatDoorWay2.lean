/- Calls and rounds. -/
import Derived.Test.YtolheapnopmhgaaGreatDoorWay
import Derived.DefersIn
set_option linter.all false
namespace Go.Proofs.YtolheapnopmhgaaGreatDoor
open Go

section
variable {C : Ctx} {ρ : Sym} {base : Nat} {w0 : World} {ih : Ih}

/-- A loop on its way. -/
def LoopAt (C : Ctx) (F : Fence) (Q : Exit → Act → World → Prop) (b : Code) (a : Act) (w : World) : Prop :=
  ∀ (fr : Frame) (k : List Item) (cs : List Frame), fr.roundOf = F.round → F.fn fr.fn → F.room (cs.length + 1 + 0) →
    ∃ e a' w', Q e a' w' ∧ ArrivesIn (Machine.fenced C.P F) C.P (lone (fr.atR a (.code b :: .inLoop b :: k)) cs w) fr k cs e a' w'
/-- A scope on its way. -/
def ScopeAt (C : Ctx) (F : Fence) (Q : Exit → Act → World → Prop) (body c : Code) (a : Act) (w : World) : Prop :=
  ∀ (fr : Frame) (k : List Item) (cs : List Frame), fr.roundOf = F.round → F.fn fr.fn → F.room (cs.length + 1 + 0) →
    ∃ e a' w', Q e a' w' ∧ ArrivesIn (Machine.fenced C.P F) C.P (lone (fr.atR a (.code c :: .inScope body :: k)) cs w) fr k cs e a' w'
/-- WHAT THE EVALUATOR SAYS OF CODE IS SO. -/
def Sound (C : Ctx) (ρ : Sym) (base : Nat) (w0 : World) (ih : Ih) : Prop :=
  (∀ (c : Code) (N : Nat) (r : Option Nat) (F : Fence) (Φ : Env) (E : A) (a : Act) (h : H) (w : World) (k : K) (Q : Exit → Act → World → Prop), codeOk C.odd N c = true → RoundOk Φ r F → St C ρ base w0 N Φ E a h w → ih none c r E h k = true → KRel C ρ base w0 N Φ h.n k Q →
    c.wpIn F 0 C.P Q a w ∧ ∀ b, c = .loop b → LoopAt C F Q b a w) ∧
  (∀ (body c : Code) (N : Nat) (r : Option Nat) (F : Fence) (Φ : Env) (E : A) (a : Act) (h : H) (w : World) (k : K) (Q : Exit → Act → World → Prop), codeOk C.odd N body = true → codeOk C.odd N c = true → RoundOk Φ r F → St C ρ base w0 N Φ E a h w → ih (some body) c r E h k = true → KRel C ρ base w0 N Φ h.n k Q →
    ScopeAt C F Q body c a w)

theorem callFunc_run (hP : ProgOk C ρ base w0) {f : FuncId} {fn : Func} (hf : C.P.funcs[f]? = some fn) (hb : fn.body.isSome = true) (args : Array Value) (w : World) : (callFunc f args).run C.P w = .ok (.enter f args) w := by
  have hn := hP.name f fn hf
  have hn2 : ¬ fn.name = "runtime.NumGoroutine" := by simpa using hn
  have hb2 : ¬ fn.body = Option.none := fun e => by rw [e] at hb; cases hb
  simp [callFunc, hf, hn2, hb2]
/-- A function's frame, as it is entered. -/
theorem enter_st {f : FuncId} {fn : Func} {args : List V} {args' : List Value} {Φ : Env} {h : H} {w : World} (hr : HR C.odd ρ Φ base h w) (hg : GR C Φ) (hfr : Fr base w0 w) (ha : Two (fun v x => den ρ Φ v = some x) args args') (hle : args.length ≤ fn.ntmps) :
    St C ρ base w0 fn.ntmps Φ ⟨Tr.lay args .nil 0, []⟩ { tmps := args'.toArray ++ Array.replicate (fn.ntmps - args'.toArray.size) undef, defers := [] } h w := by
  have hlen := ha.len
  refine ⟨⟨fun s v hv => ?_, fun s v hv _ => ?_⟩, hr, hg, hfr, .nil, ?_⟩
  · rw [Tr.get_lay] at hv
    split at hv
    · simp
      omega
    · cases hv
  · rw [Tr.get_lay] at hv
    split at hv
    · rename_i hin
      rw [Nat.sub_zero] at hv
      obtain ⟨x, hx, hd⟩ := ha.get hv
      refine ⟨x, ?_, hd⟩
      rw [Array.getElem?_append_left (by simp; omega)]
      simpa using hx
    · cases hv
  · simp
    omega
/-- A function is left. -/
theorem leave_run (hP : ProgOk C ρ base w0) (hs : Sound C ρ base w0 ih) {E : A} {a : Act} {fn : Func} {R : Ending → World → Prop} {Φ0 : Env} {n0 : Nat} {k : KV} (hk : KVRel C ρ base w0 Φ0 n0 k fun x w => R (.returned x) w) :
    ∀ (ds : List AD) (dfs : List Deferred) (Φ : Env) (h : H) (w : World), Fw Φ0 n0 Φ h.n → AR ρ Φ (fun _ => False) E a → HR C.odd ρ Φ base h w → GR C Φ → Fr base w0 w → DefR ρ Φ ds dfs → leave C ih fn E.t ds h k = true → LeavesInM Fence.wide 0 C.P fn a.tmps R dfs .returning w := by
  intro ds
  induction ds with
  | nil =>
    intro dfs Φ h w hfw ha hr hg hfr hd hl
    cases hd
    unfold leave at hl
    cases hv : resV C E.t h fn.results.toList with
    | none => rw [hv] at hl; cases hl
    | some l =>
      rw [hv] at hl
      obtain ⟨x, h1, h2⟩ := results_run ha hr hv
      exact ⟨x, h2, hk _ Φ h x w hfw hr hg hfr h1 hl⟩
  | cons ad ds ihd =>
    intro dfs Φ h w hfw ha hr hg hfr hd hl
    cases hd with
    | @cons _ d _ dfs h1 h2 =>
    cases ad with
    | mark j =>
      obtain ⟨L, hL, rfl⟩ := h1
      unfold leave at hl
      simp only [Bool.and_eq_true] at hl
      have ho : h.t.get j = some (.defs false) := by
        have h3 := hl.1
        unfold isOpen at h3
        split at h3
        · assumption
        · cases h3
      obtain ⟨hb, hheap⟩ := hr.obj j L _ hL ho
      obtain ⟨_, w', k1, k2, k3⟩ := setObj_run (o' := .defs true) (obj := .deferred none) hr hL ho rfl hheap (fun _ _ _ e => by cases e) hb (fun w' hw => ⟨hb, hw⟩)
      refine ⟨(by intro e; cases e), .inl ⟨L.blk, w', rfl, ?_, ihd dfs Φ (h.set j (.defs true)) w' hfw ha k1 hg (hfr.trans k2) h2 hl.2⟩⟩
      have hgi : (getObj L.blk).run C.P w = .ok (.deferred (some [])) w := by simp [getObj, Sem.run, hheap]
      simp [Instr.takeDeferred, hgi, Result.andThen, k3]
    | call g args =>
      obtain ⟨cap, da, rfl, htwo⟩ := h1
      unfold leave at hl
      cases hf : C.P.funcs[g]? with
      | none => rw [hf] at hl; cases hl
      | some gn =>
        rw [hf] at hl
        change inD C ih args h (fun h => leave C ih fn E.t ds h k) gn = true at hl
        unfold inD at hl
        cases hb : gn.body with
        | none => rw [hb] at hl; cases hl
        | some c =>
          rw [hb] at hl
          simp only [Bool.and_eq_true] at hl
          have hle : args.length ≤ gn.ntmps := Nat.le_of_ble_eq_true hl.1
          refine ⟨(by intro e; cases e), .inr ⟨(fun hd => by cases hd), .func g, cap.toArray, g, (da ++ cap).toArray, rfl, ?_, fun _ _ => trivial, ?_⟩⟩
          · simp only [invoke]
            rw [callFunc_run hP hf (by rw [hb]; rfl)]
            simp
          · refine (callsDIn_of_wp (u := .returning) (R := fun e w' => match e with
              | .returned _ => LeavesInM Fence.wide 0 C.P fn a.tmps R dfs .returning w'
              | .panicked _ => False
              | .outgrown => False) hf hb trivial ?_ rfl).mono fun e u' w' ⟨hu, hR⟩ => ?_
            · refine (hs.1 c gn.ntmps none Fence.wide Φ ⟨Tr.lay args .nil 0, []⟩ _ h w _ _ (hP.code g gn c hf hb) (.inl ⟨rfl, rfl⟩) (enter_st (f := g) hr hg hfr htwo hle) hl.2 fun e Φ' E' a' h' w' hfw' hst' ho => ?_).1
              have fin : (E'.d.isEmpty && (resV C E'.t h' gn.results.toList).isSome && leave C ih fn E.t ds h' k) = true → a'.defers = [] ∧ ∃ v, (results gn a'.tmps).run C.P w' = .ok v w' ∧ LeavesInM Fence.wide 0 C.P fn a.tmps R dfs .returning w' := fun hh => by
                simp only [Bool.and_eq_true] at hh
                obtain ⟨⟨h5, h6⟩, h7⟩ := hh
                have hd0 : E'.d = [] := List.isEmpty_iff.1 h5
                have hdf := hst'.df
                rw [hd0] at hdf
                have ha0 : a'.defers = [] := by
                  generalize a'.defers = l at hdf
                  cases hdf; rfl
                obtain ⟨l, hl2⟩ := Option.isSome_iff_exists.1 h6
                obtain ⟨x, _, hx⟩ := results_run hst'.ar hst'.hr hl2
                exact ⟨ha0, x, hx, ihd dfs Φ' h' w' (hfw.trans hfw') (ha.ge hfw'.ge) hst'.hr hst'.gr hst'.fr (h2.imp fun ad d hd => by
                  have : DefR ρ Φ [ad] [d] := .cons hd .nil
                  cases (this.ge hfw'.ge) with | cons h _ => exact h) h7⟩
              cases e <;> simp only [outD] at ho <;> first
                | (cases ho; done)
                | exact fin ho
            · subst hu
              cases e with
              | returned v => exact hR
              | panicked ch => exact hR.elim
              | outgrown => exact hR.elim

theorem call_run (hP : ProgOk C ρ base w0) (hs : Sound C ρ base w0 ih) {f : FuncId} {args : List V} {args' : List Value} {Φ : Env} {h : H} {w : World} {k : KV} {R : Ending → World → Prop} (hr : HR C.odd ρ Φ base h w) (hg : GR C Φ) (hfr : Fr base w0 w)
    (ha : Two (fun v x => den ρ Φ v = some x) args args') (hev : callF C ih f args h k = true) (hk : KVRel C ρ base w0 Φ h.n k fun x w => R (.returned x) w) :
    (∃ fn, C.P.funcs[f]? = some fn ∧ fn.body.isSome = true) ∧ CallsIn Fence.wide 0 C.P f args'.toArray w R := by
  unfold callF at hev
  cases hkn : C.known f args h with
  | some v =>
    rw [hkn] at hev
    change k v h = true at hev
    obtain ⟨hfn, hc⟩ := hP.known f args h v hkn
    refine ⟨hfn, callsIn_wide.2 ((hc Φ w args' hr hfr ha).mono fun e w' ⟨x, he, hd, hf⟩ => ?_)⟩
    subst he
    exact hk v Φ h x w' (Fw.refl Φ _) (hr.grown hf.size hf.old) hg (hfr.trans ⟨hf.size, fun b hb => hf.old b (Nat.lt_of_lt_of_le hb hr.bs), hf.frz, hf.os, hf.out⟩) hd hev
  | none =>
  rw [hkn] at hev
  change callG C ih args h k C.P.funcs[f]? = true at hev
  unfold callG at hev
  cases hf : C.P.funcs[f]? with
  | none => rw [hf] at hev; cases hev
  | some fn =>
    rw [hf] at hev
    change inF C ih args h k fn = true at hev
    unfold inF at hev
    cases hb : fn.body with
    | none => rw [hb] at hev; cases hev
    | some c =>
      rw [hb] at hev
      simp only [Bool.and_eq_true] at hev
      have hle : args.length ≤ fn.ntmps := Nat.le_of_ble_eq_true hev.1
      have hlen := ha.len
      refine ⟨⟨fn, rfl, by rw [hb]; rfl⟩, callsIn_of_wp_marks hf hb trivial ?_ rfl⟩
      refine (hs.1 c fn.ntmps none Fence.wide Φ ⟨Tr.lay args .nil 0, []⟩ _ h w _ _ (hP.code f fn c hf hb) (.inl ⟨rfl, rfl⟩) (enter_st (f := f) hr hg hfr ha hle) hev.2 fun e Φ' E' a' h' w' hfw hst hl => ?_).1
      have hk' : KVRel C ρ base w0 Φ' h'.n k fun x w => R (.returned x) w := hk.fw hfw
      cases e <;> simp only [outV] at hl <;> first
        | (cases hl; done)
        | exact leave_run hP hs hk' _ _ Φ' h' w' (Fw.refl _ _) hst.ar hst.hr hst.gr hst.fr hst.df hl
theorem loop_at {Φ : Env} {h : H} {w : World} (hr : HR C.odd ρ Φ base h w) {l : Nat} {L : Loc} {st : LoopState} {pd : Option Code} {t : Tr V} {ps : Array Tmp} {asg body : Code} {dfr : Nat} (hL : Φ l = some L) (ho : h.t.get l = some (.loop st pd t ps asg body dfr)) :
    base ≤ L.blk ∧ okJump pd ∧ ∃ fn tmps D, Φ dfr = some D ∧ w.heap[L.blk]? = some (.loop { state := st, pending := pd, fn, tmps, params := ps, assign := asg, body, defers := D.blk }) ∧ SlotsR ρ Φ t tmps ∧ codeOk C.odd tmps.size asg = true ∧ codeOk C.odd tmps.size body = true ∧ ps.toList.all (fun d => Nat.blt d tmps.size) = true :=
  hr.obj l L _ hL ho
theorem getLoop_run {w : World} {b : Nat} {r : Loop} (hb : w.heap[b]? = some (.loop r)) : (Instr.getLoop b).run C.P w = .ok r w := by
  simp [Instr.getLoop, getObj, Sem.run, hb]
theorem setAll_slots {Φ : Env} : ∀ {ps : List Tmp} {args : List V} {args' : List Value} {t : Tr V} {tmps : Array Value}, Two (fun v x => den ρ Φ v = some x) args args' → (∀ p ∈ ps, p < tmps.size) → SlotsR ρ Φ t tmps →
    SlotsR ρ Φ (setAll (ps.zip args) t) ((ps.zip args').foldl (fun tmps (t, a) => tmps.setIfInBounds t a) tmps) := by
  intro ps
  induction ps with
  | nil => intro args args' t tmps _ _ h; exact h
  | cons p ps ih =>
    intro args args' t tmps h2 hp h
    cases h2 with
    | nil => exact h
    | @cons v x args args' h1 h2 =>
      simp only [List.zip_cons_cons, List.foldl_cons, setAll]
      refine ih h2 (fun q hq => by rw [Array.size_setIfInBounds]; exact hp q (List.mem_cons_of_mem _ hq)) fun s u hu => ?_
      rw [Tr.get_put] at hu
      split at hu
      · rename_i e
        subst e
        cases hu
        exact ⟨x, by rw [Array.getElem?_setIfInBounds_self_of_lt (hp p List.mem_cons_self)], h1⟩
      · rename_i e
        rw [Array.getElem?_setIfInBounds_ne e]
        exact h s u hu
theorem foldl_size (l : List (Tmp × Value)) : ∀ tmps : Array Value, (l.foldl (fun tmps (t, a) => tmps.setIfInBounds t a) tmps).size = tmps.size := by
  induction l with
  | nil => intro tmps; rfl
  | cons x l ih => intro tmps; rw [List.foldl_cons, ih, Array.size_setIfInBounds]
/-- One round of a loop over a function. -/
theorem round_run (hs : Sound C ρ base w0 ih) {l : Nat} {L : Loc} {args : List V} {args' : List Value} {Φ : Env} {h : H} {w : World} {k : KV} {R : Ending → World → Prop} {F : Fence} (hF : ∀ l, F.inRound l = Fence.wide.inRound l) (hFn : ∀ f, F.fn f) (hr : HR C.odd ρ Φ base h w) (hg : GR C Φ) (hfr : Fr base w0 w) (hL : Φ l = some L)
    (ha : Two (fun v x => den ρ Φ v = some x) args args') (hev : roundV ih l args h k (h.t.get l) = true) (hk : KVRel C ρ base w0 Φ h.n k fun x w => R (.returned x) w) :
    ∃ fn tmps asg body, (Instr.yield L.blk args'.toArray).run C.P w = .ok (.round L.blk fn tmps asg body) w ∧ RoundIn F 0 C.P L.blk fn tmps asg body w R := by
  unfold roundV at hev
  split at hev
  · rename_i st pd t ps asg body dfr ho
    simp only [Bool.and_eq_true] at hev
    have hlen : args.length = ps.size := Nat.eq_of_beq_eq_true hev.1
    obtain ⟨hb, hj, fn, tmps, Dl, hD, hheap, hsl, hc1, hc2, hps⟩ := loop_at hr hL ho
    have hps' : ∀ p ∈ ps.toList, p < tmps.size := fun p hp => Nat.le_of_ble_eq_true (List.all_eq_true.1 hps p hp)
    have hlen' : args'.length = ps.size := by rw [← ha.len]; exact hlen
    refine ⟨fn, (ps.toList.zip args').foldl (fun tmps (t, a) => tmps.setIfInBounds t a) tmps, asg, body, ?_, ?_⟩
    · simp only [Instr.yield, Sem.run_bind, getLoop_run hheap, Result.andThen]
      rw [if_neg (by simp [hlen'])]
      simp only [Sem.run_pure]
      congr 2
      rw [← Array.foldl_toList, Array.toList_zip]
    · refine roundIn_of_wpIn (hFn fn) ?_
      rw [hF]
      have hN : ((ps.toList.zip args').foldl (fun tmps (t, a) => tmps.setIfInBounds t a) tmps).size = tmps.size := foldl_size _ _
      have hslots := setAll_slots (ps := ps.toList) ha hps' hsl
      refine (hs.1 asg tmps.size (some l) (Fence.wide.inRound L.blk) Φ ⟨setAll (ps.toList.zip args) t, []⟩ _ h w _ _ hc1 (.inr ⟨l, L, rfl, hL, rfl⟩) ⟨⟨fun s v hv => ?_, fun s v hv _ => ?_⟩, hr, hg, hfr, (by exact Two.nil), hN⟩ hev.2 fun e Φ' E' a' h' w' hfw hst hm => ?_).1
      · obtain ⟨x, hx, _⟩ := hslots s v hv
        exact (Array.getElem?_eq_some_iff.1 hx).1
      · exact hslots s v hv
      · cases e <;> simp only [midR] at hm <;> first | (cases hm; done) | skip
        show ∃ w₂, _
        unfold bodyR at hm
        split at hm
        · rename_i pd' t' ps' asg' body' dfr' ho'
          have hL' := hfw.ge _ _ hL
          obtain ⟨hb', hj', fn', tmps', Dl', hD', hheap', hsl', hc'⟩ := loop_at hst.hr hL' ho'
          obtain ⟨hn', w₂, k1, k2, k3⟩ := setObj_run (o' := .loop .busy pd' t' ps' asg' body' dfr') (obj := .loop { state := .busy, pending := pd', fn := fn', tmps := tmps', params := ps', assign := asg', body := body', defers := Dl'.blk }) hst.hr hL' ho' rfl hheap' (fun _ _ _ e => by cases e) hb'
            (fun w' hw => ⟨hb', hj', fn', tmps', Dl', hD', hw, hsl', hc'⟩)
          refine ⟨w₂, ?_, ?_⟩
          · simp only [Instr.beginRound, Sem.run_bind, getLoop_run hheap', Result.andThen, k3, Sem.run_pure]
          · refine (hs.1 body tmps.size (some l) (Fence.wide.inRound L.blk) Φ' E' a' _ w₂ _ _ hc2 (.inr ⟨l, L, rfl, hL', rfl⟩) ⟨hst.ar, k1, hst.gr, hst.fr.trans k2, hst.df, hst.sz⟩ hm fun e Φ2 E2 a2 h2 w3 hfw2 hst2 ho2 => ?_).1
            -- the round's end
            have fin : ∀ j : Option Code, okJump j → endR l j h2 k (h2.t.get l) = true → ∃ v w', (Instr.endRound L.blk j).run C.P w3 = .ok v w' ∧ R (.returned v) w' := fun j hjj he => by
              unfold endR at he
              split at he
              · rename_i st3 pd3 t3 ps3 asg3 body3 dfr3 ho3
                have hL2 := hfw2.ge _ _ hL'
                obtain ⟨hb3, hj3, fn3, tmps3, Dl3, hD3, hheap3, hsl3, hc3⟩ := loop_at hst2.hr hL2 ho3
                obtain ⟨hn3, w4, m1, m2, m3⟩ := setObj_run (o' := .loop (if j.isNone then .ready else .done) j t3 ps3 asg3 body3 dfr3) (obj := .loop { state := if j.isNone then .ready else .done, pending := j, fn := fn3, tmps := tmps3, params := ps3, assign := asg3, body := body3, defers := Dl3.blk }) hst2.hr hL2 ho3 rfl hheap3 (fun _ _ _ e => by cases e) hb3
                  (fun w' hw => ⟨hb3, hjj, fn3, tmps3, Dl3, hD3, hw, hsl3, hc3⟩)
                refine ⟨.bool j.isNone, w4, ?_, ?_⟩
                · simp only [Instr.endRound, Sem.run_bind, getLoop_run hheap3, Result.andThen, m3, Sem.run_pure]
                · exact hk (.b j.isNone) Φ2 _ (.bool j.isNone) w4 ((hfw.trans (Fw.up hn')).trans (hfw2.trans (Fw.up hn3))) m1 hst2.gr (hst2.fr.trans m2) rfl he
              · cases he
            cases e <;> simp only [outR] at ho2 <;> first
              | (cases ho2; done)
              | exact fin none trivial ho2
              | exact fin (some .ret) (.inl rfl) ho2
              | exact fin (some (.exit _)) (.inr (.inl ⟨_, rfl⟩)) ho2
              | exact fin (some (.goto _)) (.inr (.inr ⟨_, rfl⟩)) ho2
        · cases hm
  · cases hev
end
end Go.Proofs.YtolheapnopmhgaaGreatDoor
