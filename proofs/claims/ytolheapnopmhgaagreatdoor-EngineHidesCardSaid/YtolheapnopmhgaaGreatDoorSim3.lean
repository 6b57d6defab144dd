/- Regions: the third move, and a region whole. -/
import Derived.Test.YtolheapnopmhgaaGreatDoorSim2
set_option linter.all false
namespace Go.Proofs.YtolheapnopmhgaaGreatDoor
open Go

section
variable {C : Ctx} {ρ : Sym} {Φ : Env} {base : Nat} {w0 : World} {F : Fence} {ops : Array Oper} {N n0 : Nat} {Φ0 : Env} {D : List Nat} {J : Nat → Option Nat} {E : A} {a : Act} {h : H} {w : World} {ih : Ih} {Q : Exit → Act → World → Prop}

theorem looks_free {pend : Nat → Prop} {o : Oper} (h : ∀ s ∈ o.looksAt ops, ¬ pend s) : ∀ x ∈ o.op.operands.toList, free pend x := fun x hx s hs => h s (by subst hs; unfold Oper.looksAt; exact List.mem_append_left _ (List.mem_filterMap.2 ⟨.tmp s, hx, rfl⟩))
/-- An operation that acts: both do it. -/
theorem Sim.act_ (hact : ActS C ρ base w0 F ih) (hS : Sim C ρ base w0 ops N n0 Φ0 D J Φ E a h w) (hF : Free F) (hdf : F.round = none ∨ ∀ (j : Nat) (o : Oper) c, ops[j]? = some o → o.op ≠ .defer c) {i : Nat} {o : Oper} (hi : ops[i]? = some o) (hq : qtOf ops i = false) (hap : ∀ d ∈ D, apartB ops d i = true) {S : List Nat} (hSD : ∀ d ∈ D, d ∈ S) (hN : dstsB N ops = true)
    {g : A → H → Bool} (hev : evOp C ih ops E h o g S (guardV ops E o) = true) {K : Act → World → Prop} (hK : ∀ a' w' Φ' E' h', Sim C ρ base w0 ops N n0 Φ0 D J Φ' E' a' h' w' → g E' h' = true → K a' w') : wpOpIn F 0 C.P ops Q i K a w := by
  have hlt : ∀ s, o.dst = some s → s < a.tmps.size := fun s hs => by rw [hS.sz]; exact dstsB_spec hN hi s hs
  have hnp : ∀ s ∈ o.looksAt ops, ¬ pendD ops D s := fun s hs ⟨d, hd, od, h1, h2⟩ => (apartB_spec (hap d hd) h1 hi).1 s h2 hs
  have hfree : ∀ d ∈ D, ∀ od, ops[d]? = some od → ∀ t, o.dst = some t → t ∉ od.looksAt ops ∧ od.dst ≠ some t := fun d hd od hod t ht => by
    obtain ⟨a1, a2, a3⟩ := apartB_spec (hap d hd) hod hi
    exact ⟨a3 t ht, fun e => a2 t e ht⟩
  have fin : ∀ (d2 : List AD) (a2 : List Deferred) (v : V) (x : Value) (h' : H) (Φ' : Env) (w' : World), Fw Φ h.n Φ' h'.n → HR C.odd ρ Φ' base h' w' → Fr base w0 w' → DefR ρ Φ' d2 a2 → den ρ Φ' v = some x → (stabV C ops (A.put ⟨E.t, d2⟩ o.dst v) h' S && g (A.put ⟨E.t, d2⟩ o.dst v) h') = true → K (Act.put ⟨a.tmps, a2⟩ o.dst x) w' := fun d2 a2 v x h' Φ' w' hfw hr hfr hdr hd hk => by
    simp only [Bool.and_eq_true] at hk
    refine hK _ _ Φ' _ h' ⟨((hS.ar.ge hfw.ge).cast d2 a2).put_ hlt hd, hr, hS.gr.ge hfw.ge, hfr, fun k hkD => ?_, hS.dj, hS.jn, hS.fw.trans hfw, ?_, ?_⟩ hk.2
    · exact ((hS.late k hkD).cast d2).stab (hfree k hkD) (stabV_mem hk.1 k (hSD k hkD)) hfw.le hfw.old
    · rw [put_defers, put_d]; exact hdr
    · rw [put_size]; exact hS.sz
  unfold Go.wpOpIn
  simp only [hi]
  cases hg : guardV ops E o with
  | none => rw [hg] at hev; cases hev
  | some b =>
    rw [hg] at hev
    rw [guard_run hS.ar hnp hg]
    cases b with
    | false =>
      simp only [Bool.false_eq_true, if_false]
      exact ⟨fun f _ => hF.fn f, fin E.d a.defers (.tup []) undef h Φ w (Fw.refl Φ _) hS.hr hS.fr hS.df rfl hev⟩
    | true =>
      simp only [if_true]
      have hq2 : isQuiet o = false ∧ isMk o = false := by
        unfold qtOf at hq
        rw [opAt_eq, hi] at hq
        change (isQuiet o || isMk o) = false at hq
        simpa using hq
      change evDo C ih ops E h o g S = true at hev
      unfold evDo at hev
      rw [hq2.1, hq2.2] at hev
      exact hact o (pendD ops D) Φ E a h w _ K Q hS.ar (looks_free hnp) hS.hr hS.gr hS.fr hF (hdf.imp id fun h c => h i o c hi) hS.df hev fin
theorem pendD_nil (s : Nat) : ¬ pendD ops [] s := fun ⟨d, hd, _⟩ => by cases hd
/-- One operation behind the other. -/
theorem Sim.sync (hB : BinR C ρ) (hact : ActS C ρ base w0 F ih) (hS : Sim C ρ base w0 ops N n0 Φ0 [] J Φ E a h w) (hF : Free F) (hdf : F.round = none ∨ ∀ (j : Nat) (o : Oper) c, ops[j]? = some o → o.op ≠ .defer c) {i : Nat} {o : Oper} (hi : ops[i]? = some o) {S : List Nat} (hN : dstsB N ops = true)
    {g : A → H → Bool} (hev : evOp C ih ops E h o g S (guardV ops E o) = true) {K : Act → World → Prop} (hK : ∀ a' w' Φ' E' h', Sim C ρ base w0 ops N n0 Φ0 [] J Φ' E' a' h' w' → g E' h' = true → K a' w') : wpOpIn F 0 C.P ops Q i K a w := by
  cases hq : qtOf ops i with
  | false => exact hS.act_ hact hF hdf hi hq (fun d hd => by cases hd) (fun d hd => by cases hd) hN hev hK
  | true =>
    have hq2 : isQuiet o = true ∨ isMk o = true := by
      unfold qtOf at hq
      rw [opAt_eq, hi] at hq
      change (isQuiet o || isMk o) = true at hq
      simpa using hq
    have hnd2 := notDefer hq2
    have hlt : ∀ s, o.dst = some s → s < a.tmps.size := fun s hs => by rw [hS.sz]; exact dstsB_spec hN hi s hs
    have hnp : ∀ s ∈ o.looksAt ops, ¬ pendD ops [] s := fun s _ => pendD_nil s
    have fin : ∀ (v : V) (x : Value) (h' : H) (Φ' : Env) (w' : World), Fw Φ h.n Φ' h'.n → HR C.odd ρ Φ' base h' w' → Fr base w0 w' → den ρ Φ' v = some x → g (E.put o.dst v) h' = true → K (a.put o.dst x) w' := fun v x h' Φ' w' hfw hr hfr hd hk => by
      refine hK _ _ Φ' _ h' ⟨(hS.ar.ge hfw.ge).put_ hlt hd, hr, hS.gr.ge hfw.ge, hfr, (fun k hkD => by cases hkD), .nil, (fun k hkD => by cases hkD), hS.fw.trans hfw, ?_, ?_⟩ hk
      · rw [put_defers, put_d]; exact hS.df.ge hfw.ge
      · rw [put_size]; exact hS.sz
    unfold Go.wpOpIn
    simp only [hi]
    cases hg : guardV ops E o with
    | none => rw [hg] at hev; cases hev
    | some b =>
      rw [hg] at hev
      rw [guard_run hS.ar hnp hg]
      cases b with
      | false =>
        simp only [Bool.false_eq_true, if_false]
        change (stabV C ops (E.put o.dst (.tup [])) h S && g (E.put o.dst (.tup [])) h) = true at hev
        simp only [Bool.and_eq_true] at hev
        exact ⟨fun f _ => hF.fn f, fin (.tup []) undef h Φ w (Fw.refl Φ _) hS.hr hS.fr rfl hev.2⟩
      | true =>
        simp only [if_true]
        refine ⟨fun f _ => hF.fn f, ?_⟩
        rw [Oper.semAt_eq _ _ _ hnd2]
        change evDo C ih ops E h o g S = true at hev
        unfold evDo at hev
        cases hqu : isQuiet o with
        | true =>
          rw [hqu] at hev
          change Option.rec false (fun v => g (E.put o.dst v) h) (quietV C E h o) = true at hev
          cases hv : quietV C E h o with
          | none => rw [hv] at hev; cases hev
          | some v =>
            rw [hv] at hev
            obtain ⟨x, hx1, hx2⟩ := quietV_run hB hS.hr hS.gr hS.ar (looks_free hnp) hv
            rw [hx2]
            exact fin v x h Φ w (Fw.refl Φ _) hS.hr hS.fr hx1 hev
        | false =>
          rw [hqu] at hev
          have hmk : isMk o = true := by rw [hqu] at hq2; simpa using hq2
          rw [hmk] at hev
          change Option.rec false (evMk E h o g) (mkV C E o) = true at hev
          cases hv : mkV C E o with
          | none => rw [hv] at hev; cases hev
          | some q =>
            rw [hv] at hev
            change (isNo (h.t.get h.n) && g (E.put o.dst (q.at_ h.n)) (h.new q.o)) = true at hev
            simp only [Bool.and_eq_true] at hev
            have hΦ : Φ h.n = none := by
              cases hc : Φ h.n with
              | none => rfl
              | some L => have := (hS.hr.lt _ _ hc).1; omega
            obtain ⟨obj, x, hx1, hx2⟩ := mkV_run (base := base) (w := w) hS.gr hS.ar (looks_free hnp) hv
            have hge := upd_ge (Φ := Φ) hΦ (locOf w.heap.size q.o)
            obtain ⟨k1, k2⟩ := hx2 _ h.n hge (upd_same _ _)
            rw [hx1]
            refine fin (q.at_ h.n) x (h.new q.o) (upd Φ h.n (locOf w.heap.size q.o)) (w.alloc obj) (Fw.upd hΦ _) ?_ (hS.fr.trans (Fr.alloc hS.hr.bs _ (mk_soft hv (k2 hS.hr.bs _ (alloc_at w obj))))) k1 hev.2
            exact (hS.hr.later q.o).tell hΦ (Nat.lt_succ_self _) (Tr.get_put_same _ _ _) (by cases q.o <;> rfl) (k2 hS.hr.bs _ (alloc_at w obj))
theorem evOps_cons {S : Nat → List Nat} {k : K} {i : Nat} {o : Oper} {l : List Nat} (hi : ops[i]? = some o) (h1 : evOps C ih ops S k (i :: l) E h = true) : evOp C ih ops E h o (evOps C ih ops S k l) (S i) (guardV ops E o) = true := by
  change Option.rec false (fun o => evOp C ih ops E h o (evOps C ih ops S k l) (S i) (guardV ops E o)) (opAt ops i) = true at h1
  rw [opAt_eq, hi] at h1
  exact h1
/-- A region in the text's order. -/
theorem text_run (hB : BinR C ρ) (hact : ActS C ρ base w0 F ih) (hF : Free F) (hdf : F.round = none ∨ ∀ (j : Nat) (o : Oper) c, ops[j]? = some o → o.op ≠ .defer c) (hN : dstsB N ops = true) {k : K} {S : Nat → List Nat} (hk : ∀ Φ E a h w, Sim C ρ base w0 ops N n0 Φ0 [] J Φ E a h w → k .normal E h = true → Q .normal a w) :
    ∀ (l : List Nat) (Φ : Env) (E : A) (a : Act) (h : H) (w : World), Sim C ρ base w0 ops N n0 Φ0 [] J Φ E a h w → evOps C ih ops S k l E h = true → wpOpsIn F 0 C.P ops Q l a w := by
  intro l
  induction l with
  | nil => intro Φ E a h w hS hev; exact hk Φ E a h w hS hev
  | cons i l ihl =>
    intro Φ E a h w hS hev
    rw [wpOpsIn_cons]
    cases hi : ops[i]? with
    | none =>
      change Option.rec false (fun o => evOp C ih ops E h o (evOps C ih ops S k l) (S i) (guardV ops E o)) (opAt ops i) = true at hev
      rw [opAt_eq, hi] at hev
      cases hev
    | some o => exact hS.sync hB hact hF hdf hi hN (evOps_cons hi hev) fun a' w' Φ' E' h' hS' hg => ihl Φ' E' a' h' w' hS' hg

/-- Many at once. -/
theorem Sim.aheads (hN : dstsB N ops = true) {k : K} {S : Nat → List Nat} {r : List Nat} : ∀ (l D : List Nat) (J : Nat → Option Nat) (E : A) (h : H), Sim C ρ base w0 ops N n0 Φ0 D J Φ E a h w → (∀ x ∈ l, (∃ o, ops[x]? = some o) ∧ qtOf ops x = true ∧ selfB ops x = true) →
    (D ++ l).Pairwise (fun d x => d ≠ x ∧ (qtOf ops d = true → qtOf ops x = true → freeB ops d x = true)) → (∀ d ∈ D, qtOf ops d = true) → evOps C ih ops S k (l ++ r) E h = true →
    ∃ J' E' h', Sim C ρ base w0 ops N n0 Φ0 (D ++ l) J' Φ E' a h' w ∧ evOps C ih ops S k r E' h' = true := by
  intro l
  induction l with
  | nil => intro D J E h hS _ _ _ hev; exact ⟨J, E, h, by rw [List.append_nil]; exact hS, hev⟩
  | cons x l ihl =>
    intro D J E h hS hl hp hD hev
    obtain ⟨⟨o, ho⟩, hq, hs⟩ := hl x List.mem_cons_self
    have hp3 := (List.pairwise_append.1 hp).2.2
    obtain ⟨J', E', h', h1, h2⟩ := hS.ahead ho hq hs (fun d hd => (hp3 d hd x List.mem_cons_self).2 (hD d hd) hq) (fun hx => (hp3 x hx x List.mem_cons_self).1 rfl) hN (evOps_cons ho hev)
    obtain ⟨J2, E2, h2', h3, h4⟩ := ihl (D ++ [x]) J' E' h' h1 (fun y hy => hl y (List.mem_cons_of_mem _ hy)) (by rw [List.append_assoc]; exact hp) (fun d hd => by
      rcases List.mem_append.1 hd with hd | hd
      · exact hD d hd
      · cases List.mem_singleton.1 hd; exact hq) h2
    exact ⟨J2, E2, h2', by rw [List.append_assoc] at h3; exact h3, h4⟩
end
end Go.Proofs.YtolheapnopmhgaaGreatDoor
