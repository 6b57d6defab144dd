/- WHAT THE EVALUATOR SAYS IS SO. -/
import Derived.Test.YtolheapnopmhgaaGreatDoorWay4
set_option linter.all false
namespace Go.Proofs.YtolheapnopmhgaaGreatDoor
open Go

section
variable {C : Ctx} {ρ : Sym} {base : Nat} {w0 : World} {ih : Ih}

theorem loop_unroll {F : Fence} {Q : Exit → Act → World → Prop} {b : Code} {a : Act} {w : World} (h : b.wpIn F 0 C.P (Exit.then (LoopAt C F Q b) Q) a w) : LoopAt C F Q b a w := by
  intro fr k cs hro hb hr
  obtain ⟨e, a₁, w₁, hq, harr⟩ := h fr (.inLoop b :: k) cs hro hb hr
  cases e with
  | normal =>
    obtain ⟨e₂, a₂, w₂, hq₂, harr₂⟩ := hq fr k cs hro hb hr
    exact ⟨e₂, a₂, w₂, hq₂, .of_steps (StepsIn.trans harr (.one (fenced_calm hb hr rfl) stepR_inLoop)) harr₂⟩
  | exit id => exact ⟨_, a₁, w₁, hq, .pass (x := .inLoop b) rfl (fun _ _ => .inl (by simp)) harr⟩
  | goto l => exact ⟨_, a₁, w₁, hq, .pass (x := .inLoop b) rfl (fun _ _ => .inl (by simp)) harr⟩
  | ret => exact ⟨_, a₁, w₁, hq, .pass (x := .inLoop b) rfl (fun _ _ => .inl (by simp)) harr⟩
  | panic ch => exact ⟨_, a₁, w₁, hq, .pass (x := .inLoop b) rfl (fun _ _ => .inl (by simp)) harr⟩
  | outgrown => exact ⟨_, a₁, w₁, hq, .pass (x := .inLoop b) rfl (fun _ _ => .inl (by simp)) harr⟩
theorem loop_enter {F : Fence} {Q : Exit → Act → World → Prop} {b : Code} {a : Act} {w : World} (h : LoopAt C F Q b a w) : (Code.loop b).wpIn F 0 C.P Q a w := fun fr k cs hro hb hr =>
  let ⟨e, a', w', q, harr⟩ := h fr k cs hro hb hr
  ⟨e, a', w', q, .of_steps (.one (fenced_calm hb hr rfl) stepR_loop) harr⟩
theorem ar_of_nil {Φ : Env} {ops : Array Oper} {E : A} {a : Act} (h : AR ρ Φ (pendD ops []) E a) : AR ρ Φ (fun _ => False) E a := ⟨h.lt, fun s v hv _ => h.at_ s v hv (pendD_nil s)⟩
theorem ar_to_nil {Φ : Env} {ops : Array Oper} {E : A} {a : Act} (h : AR ρ Φ (fun _ => False) E a) : AR ρ Φ (pendD ops []) E a := ⟨h.lt, fun s v hv _ => h.at_ s v hv (fun h => h)⟩
theorem region_run (hP : ProgOk C ρ base w0) (hs : Sound C ρ base w0 ih) {id : Nat} {ops : Array Oper} {draw : Bool} {N : Nat} {F : Fence} {Φ : Env} {E : A} {a : Act} {h : H} {w : World} {k : K} {Q : Exit → Act → World → Prop} (hN : dstsB N ops = true) (hpl : draw = true → planB C.odd ops = true) (hFo : Ours F)
    {r : Option Nat} (hro : RoundOk Φ r F) (hst : St C ρ base w0 N Φ E a h w) (hev : stRegion C ih ops r E h k draw = true) (hk : KRel C ρ base w0 N Φ h.n k Q) : (Code.region id ops draw).wpIn F 0 C.P Q a w := by
  have hF : Free F := ⟨hFo.fn, hFo.depth⟩
  have hact := act_sound hP hs hFo
  unfold stRegion at hev
  simp only [Bool.and_eq_true, Bool.or_eq_true] at hev
  have hdf : F.round = none ∨ ∀ (j : Nat) (o : Oper) c, ops[j]? = some o → o.op ≠ .defer c := by
    rcases hev.1 with h1 | h1
    · rcases hro with ⟨_, rfl⟩ | ⟨l, L, rfl, _, _⟩
      · exact .inl rfl
      · cases h1
    · refine .inr fun j o c ho hop => ?_
      have hm : o ∈ ops := Array.mem_of_getElem? ho
      have := Array.all_eq_true_iff_forall_mem.1 h1 o hm
      simp [hop] at this
  replace hev := hev.2
  have hk' : ∀ J Φ' E a h' w, Sim C ρ base w0 ops N h.n Φ [] J Φ' E a h' w → k .normal E h' = true → Q .normal a w := fun J Φ' E a h' w hS he => hk .normal Φ' E a h' w hS.fw ⟨ar_of_nil hS.ar, hS.hr, hS.gr, hS.fr, hS.df, hS.sz⟩ he
  have start : ∀ kd, Sim C ρ base w0 ops N h.n Φ [] (fun _ => none) Φ E a h { w with drawn := kd } := fun kd =>
    ⟨ar_to_nil hst.ar, hst.hr.drew kd, hst.gr, ⟨hst.fr.size, hst.fr.old, hst.fr.frz, hst.fr.os, hst.fr.out⟩, (fun k hk => by cases hk), .nil, (fun k hk => by cases hk), Fw.refl Φ _, hst.df, hst.sz⟩
  cases draw with
  | false =>
    have hS0 := start w.drawn
    exact wpIn_region (text_run hP.bin hact hF hdf hN (hk' _) _ Φ E a h w hS0 hev)
  | true =>
    have hB := hpl rfl
    unfold planB at hB
    refine wpIn_region_any hP.mixed ?_
    have hB' := hB
    simp only [confB, Bool.and_eq_true] at hB'
    obtain ⟨⟨⟨⟨⟨⟨_, _⟩, hlen⟩, hlt⟩, _⟩, _⟩, hpair⟩ := hB'
    have hlen : (ordOf C.odd ops).length = ops.size := Nat.eq_of_beq_eq_true hlen
    have hnd : (ordOf C.odd ops).Nodup := (pairsB_spec hpair).imp fun {a b} h => by
      simp only [Bool.and_eq_true, beq_iff_eq] at h
      exact fun e => by subst e; simp at h
    have hget : ∀ j, (Array.replicate ops.size false).getD j true = false ↔ j < ops.size := fun j => by
      by_cases hj : j < ops.size
      · simp [hj]
      · simp [hj]
    have hmem : ∀ j, j ∈ ordOf C.odd ops ↔ j < ops.size := fun j => by
      have hl : ∀ x ∈ ordOf C.odd ops, x < ops.size := fun x hx => by simpa [Nat.blt_eq] using List.all_eq_true.1 hlt x hx
      refine ⟨hl j, fun hj => ?_⟩
      exact mem_of_full _ ops.size hnd hl hlen j hj
    exact any_run hP.bin hact hF hdf hN hB hk' _ [] (ordOf C.odd ops) (fun _ => none) _ Φ E a h _ hlen (List.Sublist.refl _) (by simp) (fun j => by rw [hget, List.nil_append, hmem]; simp)
      (fun j o _ hl => (by rw [getD_replicate_false'] at hl; cases hl)) (fun d hd => by cases hd) (start _) hev
end
end Go.Proofs.YtolheapnopmhgaaGreatDoor
