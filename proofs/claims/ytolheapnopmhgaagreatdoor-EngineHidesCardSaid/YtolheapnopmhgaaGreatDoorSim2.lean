/- Regions, further: the three moves. -/
import Derived.Test.YtolheapnopmhgaaGreatDoorSim
set_option linter.all false
namespace Go.Proofs.YtolheapnopmhgaaGreatDoor
open Go

section
variable {C : Ctx} {ρ : Sym} {Φ : Env} {base : Nat} {w0 : World} {F : Fence} {ops : Array Oper} {N n0 : Nat} {Φ0 : Env} {D : List Nat} {J : Nat → Option Nat} {E : A} {a : Act} {h : H} {w : World} {ih : Ih} {Q : Exit → Act → World → Prop}

theorem dstsB_spec (hN : dstsB N ops = true) {x : Nat} {o : Oper} (hx : ops[x]? = some o) : ∀ t, o.dst = some t → t < N := fun t ht => by
  have hm : o ∈ ops.toList := Array.mem_toList_iff.2 (Array.mem_of_getElem? hx)
  have := List.all_eq_true.1 hN o hm
  rw [ht] at this
  exact Nat.le_of_ble_eq_true this
theorem freeB_spec {k m : Nat} {ok om : Oper} (h : freeB ops k m = true) (hk : ops[k]? = some ok) (hm : ops[m]? = some om) : ∀ t, om.dst = some t → t ∉ ok.looksAt ops ∧ ok.dst ≠ some t := fun t ht => by
  simp only [freeB, hk, hm, ht, Bool.and_eq_true, Bool.not_eq_true', bne_iff_ne, ne_eq] at h
  exact ⟨fun hmm => by simp [hmm] at h, h.2⟩
theorem selfB_spec {k : Nat} {o : Oper} (h : selfB ops k = true) (hk : ops[k]? = some o) : ∃ t, o.dst = some t ∧ t ∉ o.looksAt ops := by
  simp only [selfB, hk] at h
  cases hd : o.dst with
  | none => simp [hd] at h
  | some d => exact ⟨d, rfl, fun hm => by simp [hd, hm] at h⟩
theorem apartB_spec {k i : Nat} {ok oi : Oper} (h : apartB ops k i = true) (hk : ops[k]? = some ok) (hi : ops[i]? = some oi) :
    (∀ t, ok.dst = some t → t ∉ oi.looksAt ops) ∧ (∀ t, ok.dst = some t → oi.dst ≠ some t) ∧ ∀ t, oi.dst = some t → t ∉ ok.looksAt ops := by
  simp only [apartB, hk, hi] at h
  exact Oper.apart_spec h

/-- The evaluator goes ahead. -/
theorem Sim.ahead (hS : Sim C ρ base w0 ops N n0 Φ0 D J Φ E a h w) {x : Nat} {o : Oper} (hx : ops[x]? = some o) (hq : qtOf ops x = true) (hself : selfB ops x = true) (hfr : ∀ d ∈ D, freeB ops d x = true) (hxD : x ∉ D) (hN : dstsB N ops = true)
    {g : A → H → Bool} {S : List Nat} (hev : evOp C ih ops E h o g S (guardV ops E o) = true) : ∃ J' E' h', Sim C ρ base w0 ops N n0 Φ0 (D ++ [x]) J' Φ E' a h' w ∧ g E' h' = true := by
  obtain ⟨t, ht, hts⟩ := selfB_spec hself hx
  have hlt : ∀ s, o.dst = some s → s < a.tmps.size := fun s hs => by rw [hS.sz]; exact dstsB_spec hN hx s hs
  have hfree : ∀ d ∈ D, ∀ od, ops[d]? = some od → ∀ s, o.dst = some s → s ∉ od.looksAt ops ∧ od.dst ≠ some s := fun d hd od hod s hs => freeB_spec (hfr d hd) hod hx s hs
  have hsame : ∀ v, ∀ s ∈ o.looksAt ops, (E.put o.dst v).t.get s = E.t.get s := fun v s hs => put_get fun e => by rw [ht] at e; cases e; exact hts hs
  -- what is common
  have main : ∀ (v : V) (h' : H) (jx : Option Nat), HLe h h' → h.n ≤ h'.n → HR C.odd ρ Φ base h' w → (∀ j, jx = some j → j = h.n) → Late (base := base) C ρ ops Φ jx (E.put o.dst v) h' x →
      ∃ J', Sim C ρ base w0 ops N n0 Φ0 (D ++ [x]) J' Φ (E.put o.dst v) a h' w := fun v h' jx hle hn hr hj hlx => by
    have hJ : ∀ d ∈ D, (if d = x then jx else J d) = J d := fun d hd => if_neg fun e => hxD (by rw [← e]; exact hd)
    have hjlt : ∀ d ∈ D, ∀ j, J d = some j → j < h.n := fun d hd j hj => by
      obtain ⟨_, _, _, _, _, _, hc⟩ := hS.late d hd
      rcases hc with ⟨_, h2, _⟩ | ⟨_, _, h2, _⟩ | ⟨_, _, q, j', ob, _, h4, _, _, _, _, h9, _⟩
      · rw [hj] at h2; cases h2
      · rw [hj] at h2; cases h2
      · rw [hj] at h4; cases h4; exact h9
    refine ⟨fun d => if d = x then jx else J d, ?_, hr, hS.gr, hS.fr, fun d hd => ?_, ?_, fun d hd j hdj => ?_, ?_, ?_, hS.sz⟩
    · refine hS.ar.ahead hlt (fun s ⟨d, hd, od, h1, h2⟩ => ⟨d, List.mem_append_left _ hd, od, h1, h2⟩) fun s hs => ⟨x, List.mem_append_right _ (List.mem_singleton.2 rfl), o, hx, hs⟩
    · rcases List.mem_append.1 hd with hd | hd
      · rw [hJ d hd]; exact (hS.late d hd).ahead (hfree d hd) hle hn
      · cases List.mem_singleton.1 hd; rw [if_pos rfl]; exact hlx
    · refine List.pairwise_append.2 ⟨hS.dj.imp_of_mem fun {k m} hk hm hkm j hj => ?_, List.pairwise_singleton _ _, fun k hk m hm j hkj => ?_⟩
      · rw [hJ k hk] at hj; rw [hJ m hm]; exact hkm j hj
      · cases List.mem_singleton.1 hm
        rw [hJ k hk] at hkj
        rw [if_pos rfl]
        intro e
        have h1 := hj j e
        have h2 := hjlt k hk j hkj
        omega
    · rcases List.mem_append.1 hd with hd | hd
      · rw [hJ d hd] at hdj; exact hS.jn d hd j hdj
      · cases List.mem_singleton.1 hd
        rw [if_pos rfl] at hdj
        rw [hj j hdj]
        exact hS.fw.le
    · exact hS.fw.trans (Fw.up hn)
    · rw [put_d]; exact hS.df
  cases hg : guardV ops E o with
  | none => rw [hg] at hev; cases hev
  | some b =>
    rw [hg] at hev
    cases b with
    | false =>
      change (stabV C ops (E.put o.dst (.tup [])) h S && g (E.put o.dst (.tup [])) h) = true at hev
      simp only [Bool.and_eq_true] at hev
      obtain ⟨J', hJ⟩ := main (.tup []) h none (fun _ _ h => h) (Nat.le_refl _) hS.hr (fun j e => by cases e) ⟨o, t, .tup [], hx, ht, by rw [ht]; exact put_get_same, .inl ⟨(guardV_congr (hsame _)).trans hg, rfl, fun _ => rfl⟩⟩
      exact ⟨J', _, _, hJ, hev.2⟩
    | true =>
      change evDo C ih ops E h o g S = true at hev
      unfold evDo at hev
      cases hqu : isQuiet o with
      | true =>
        rw [hqu] at hev
        change Option.rec false (fun v => g (E.put o.dst v) h) (quietV C E h o) = true at hev
        cases hv : quietV C E h o with
        | none => rw [hv] at hev; cases hev
        | some v =>
          rw [hv] at hev
          obtain ⟨J', hJ⟩ := main v h none (fun _ _ h => h) (Nat.le_refl _) hS.hr (fun j e => by cases e) ⟨o, t, v, hx, ht, by rw [ht]; exact put_get_same, .inr (.inl ⟨(guardV_congr (hsame _)).trans hg, hqu, rfl, v, (quietV_congr (ev_looks (hsame _))).trans hv, fun _ => rfl⟩)⟩
          exact ⟨J', _, _, hJ, hev⟩
      | false =>
        rw [hqu] at hev
        have hmk : isMk o = true := by
          unfold qtOf at hq
          rw [opAt_eq, hx] at hq
          change (isQuiet o || isMk o) = true at hq
          rw [hqu] at hq
          exact hq
        rw [hmk] at hev
        change Option.rec false (evMk E h o g) (mkV C E o) = true at hev
        cases hv : mkV C E o with
        | none => rw [hv] at hev; cases hev
        | some q =>
          rw [hv] at hev
          change (isNo (h.t.get h.n) && g (E.put o.dst (q.at_ h.n)) (h.new q.o)) = true at hev
          simp only [Bool.and_eq_true] at hev
          have hno : h.t.get h.n = none := by
            cases hc : h.t.get h.n with
            | none => rfl
            | some o' => have := hev.1; rw [hc] at this; cases this
          have hΦ : Φ h.n = none := by
            cases hc : Φ h.n with
            | none => rfl
            | some L => have := (hS.hr.lt _ _ hc).1; omega
          obtain ⟨J', hJ⟩ := main (q.at_ h.n) (h.new q.o) (some h.n) (HLe.new hno _) (Nat.le_succ _) (hS.hr.later _) (fun j e => by cases e; rfl)
            ⟨o, t, q.at_ h.n, hx, ht, by rw [ht]; exact put_get_same, .inr (.inr ⟨(guardV_congr (hsame _)).trans hg, hqu, q, h.n, q.o, (mkV_congr (ev_looks (hsame _))).trans hv, rfl, mkV_blk hv _, fun _ => rfl, Tr.get_put_same _ _ _, fun _ _ _ h => h, Nat.lt_succ_self _, hΦ⟩)⟩
          exact ⟨J', _, _, hJ, hev.2⟩
theorem notDefer {o : Oper} (hq : isQuiet o = true ∨ isMk o = true) : ∀ c, o.op ≠ .defer c := fun c e => by
  rcases hq with hq | hq
  · unfold isQuiet at hq; rw [e] at hq; simp at hq
  · unfold isMk at hq; rw [e] at hq; simp at hq
theorem pairwise_both {α : Type} {R : α → α → Prop} {l : List α} (h : l.Pairwise R) {x y : α} (hx : x ∈ l) (hy : y ∈ l) (hne : x ≠ y) : R x y ∨ R y x := by
  induction h with
  | nil => cases hx
  | @cons z l h1 _ ih =>
    rcases List.mem_cons.1 hx with ex | hx2
    · rcases List.mem_cons.1 hy with ey | hy2
      · exact absurd (ex.trans ey.symm) hne
      · rw [ex]; exact .inl (h1 _ hy2)
    · rcases List.mem_cons.1 hy with ey | hy2
      · rw [ey]; exact .inr (h1 _ hx2)
      · exact ih hx2 hy2
/-- An operation that was late is done. -/
theorem Sim.catch_ (hB : BinR C ρ) (hS : Sim C ρ base w0 ops N n0 Φ0 D J Φ E a h w) (hF : Free F) {i : Nat} {o : Oper} (hi : ops[i]? = some o) (hiD : i ∈ D) (hnd : D.Nodup) (hself : selfB ops i = true) (hq : qtOf ops i = true)
    (hfr : ∀ d ∈ D, d ≠ i → ∀ od, ops[d]? = some od → ∀ t, od.dst = some t → t ∉ o.looksAt ops) {K : Act → World → Prop}
    (hK : ∀ a' w' Φ', Sim C ρ base w0 ops N n0 Φ0 (D.erase i) J Φ' E a' h w' → K a' w') : wpOpIn F 0 C.P ops Q i K a w := by
  obtain ⟨t0, ht0, hts⟩ := selfB_spec hself hi
  obtain ⟨o', t, v, ho, hdst, hv, hc⟩ := hS.late i hiD
  rw [hi] at ho; cases ho
  rw [ht0] at hdst; cases hdst
  -- no operand is pending
  have hnp : ∀ s ∈ o.looksAt ops, ¬ pendD ops D s := fun s hs ⟨d, hd, od, h1, h2⟩ => by
    by_cases e : d = i
    · subst e; rw [hi] at h1; cases h1; rw [ht0] at h2; cases h2; exact hts hs
    · exact hfr d hd e od h1 s h2 hs
  have hfree : ∀ x ∈ o.op.operands.toList, free (pendD ops D) x := fun x hx s hs => hnp s (by subst hs; unfold Oper.looksAt; exact List.mem_append_left _ (List.mem_filterMap.2 ⟨.tmp s, hx, rfl⟩))
  have hpend : ∀ s, pendD ops D s → pendD ops (D.erase i) s ∨ s = t0 := fun s ⟨d, hd, od, h1, h2⟩ => by
    by_cases e : d = i
    · subst e; rw [hi] at h1; cases h1; rw [ht0] at h2; cases h2; exact .inr rfl
    · exact .inl ⟨d, (List.mem_erase_of_ne e).2 hd, od, h1, h2⟩
  have hsub : (D.erase i).Sublist D := List.erase_sublist
  -- what is left, where a value is filled in
  have fin : ∀ (x : Value) (w' : World) (Φ' : Env), Ge Φ Φ' → HR C.odd ρ Φ' base h w' → Fr base w0 w' → den ρ Φ' v = some x → (∀ k ∈ D.erase i, ∀ j, J k = some j → Φ' j = none) → Fw Φ0 n0 Φ' h.n → K (a.put o.dst x) w' := fun x w' Φ' hge hr hfr' hd hnone hfw => by
    refine hK _ _ Φ' ⟨?_, hr, hS.gr.ge hge, hfr', fun k hk => ?_, hS.dj.sublist hsub, fun k hk => hS.jn k (hsub.mem hk), hfw, ?_, ?_⟩
    · rw [ht0]; exact (hS.ar.ge hge).fill hv hd hpend
    · obtain ⟨ok, tk, vk, k1, k2, k3, kc⟩ := hS.late k (hsub.mem hk)
      refine ⟨ok, tk, vk, k1, k2, k3, ?_⟩
      rcases kc with kc | kc | ⟨c1, c2, q, j, ob, c3, c4, c5, c6, c7, c8, c9, c10⟩
      · exact .inl kc
      · exact .inr (.inl kc)
      · exact .inr (.inr ⟨c1, c2, q, j, ob, c3, c4, c5, c6, c7, c8, c9, hnone k hk j c4⟩)
    · rw [put_defers]; exact hS.df.ge hge
    · rw [put_size]; exact hS.sz
  have hnone : ∀ k ∈ D.erase i, ∀ j, J k = some j → Φ j = none := fun k hk j hj => by
    obtain ⟨_, _, _, _, _, _, kc⟩ := hS.late k (hsub.mem hk)
    rcases kc with ⟨_, h2, _⟩ | ⟨_, _, h2, _⟩ | ⟨_, _, q, j', ob, _, h4, _, _, _, _, _, h10⟩
    · rw [hj] at h2; cases h2
    · rw [hj] at h2; cases h2
    · rw [hj] at h4; cases h4; exact h10
  have hnd2 : ∀ c, o.op ≠ .defer c := notDefer (by
    unfold qtOf at hq
    rw [opAt_eq, hi] at hq
    change (isQuiet o || isMk o) = true at hq
    simpa using hq)
  unfold Go.wpOpIn
  simp only [hi]
  rcases hc with ⟨h1, _, h3⟩ | ⟨h1, h2, _, v', h4, h5⟩ | ⟨h1, h2, q, j, ob, h3, h4, h5, h6, h7, h8, h9, h10⟩
  · rw [guard_run hS.ar hnp h1]
    simp only [Bool.false_eq_true, if_false]
    exact ⟨fun f _ => hF.fn f, fin _ w Φ (Ge.refl Φ) hS.hr hS.fr (by rw [h3 Φ]; rfl) hnone hS.fw⟩
  · obtain ⟨x, hx1, hx2⟩ := quietV_run hB hS.hr hS.gr hS.ar hfree h4
    rw [guard_run hS.ar hnp h1]
    simp only [if_true]
    refine ⟨fun f _ => hF.fn f, ?_⟩
    rw [Oper.semAt_eq _ _ _ hnd2, hx2]
    exact fin x w Φ (Ge.refl Φ) hS.hr hS.fr (by rw [h5 Φ]; exact hx1) hnone hS.fw
  · obtain ⟨obj, x, hx1, hx2⟩ := mkV_run (base := base) (w := w) hS.gr hS.ar hfree h3
    have hge := upd_ge (Φ := Φ) h10 (locOf w.heap.size q.o)
    obtain ⟨k1, k2⟩ := hx2 _ j hge (upd_same _ _)
    rw [guard_run hS.ar hnp h1]
    simp only [if_true]
    refine ⟨fun f _ => hF.fn f, ?_⟩
    rw [Oper.semAt_eq _ _ _ hnd2, hx1]
    refine fin x (w.alloc obj) (upd Φ j (locOf w.heap.size q.o)) hge ?_ (hS.fr.trans (Fr.alloc hS.hr.bs _ (mk_soft h3 (k2 hS.hr.bs _ (alloc_at w obj))))) (by rw [h6]; exact k1) (fun k hk m hm => ?_) ?_
    · exact hS.hr.tell h10 h9 h7 (by cases q.o <;> rfl) (h8 _ _ _ (k2 hS.hr.bs _ (alloc_at w obj)))
    · have hne : m ≠ j := fun e => by
        subst e
        have hki : k ≠ i := fun e => by subst e; exact (List.Nodup.mem_erase_iff hnd).1 hk |>.1 rfl
        have hmem := hsub.mem hk
        have := pairwise_both hS.dj hmem hiD hki
        rcases this with h11 | h11
        · exact h11 m hm h4
        · exact h11 m h4 hm
      unfold upd
      rw [if_neg hne]
      exact hnone k hk m hm
    · refine ⟨hS.fw.ge.trans hge, hS.fw.le, fun m hm => ?_⟩
      have := hS.jn i hiD j h4
      unfold upd
      rw [if_neg (by omega)]
      exact hS.fw.old m hm
end
end Go.Proofs.YtolheapnopmhgaaGreatDoor
