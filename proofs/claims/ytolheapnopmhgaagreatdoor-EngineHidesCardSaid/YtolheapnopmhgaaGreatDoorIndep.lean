/- What an operation's reckoning hangs on: its operands' slots, and blocks that are there. -/
import Derived.Test.YtolheapnopmhgaaGreatDoorActs
import Derived.Test.YtolheapnopmhgaaGreatDoorConf
set_option linter.all false
namespace Go.Proofs.YtolheapnopmhgaaGreatDoor
open Go

section
variable {C : Ctx}

theorem ev1_congr {E E' : A} {x : Operand} (h : E.ev C x = E'.ev C x) : E.ev1 C x = E'.ev1 C x := by
  unfold A.ev1; rw [h]
theorem evs_congr {E E' : A} : ∀ {l : List Operand}, (∀ x ∈ l, E.ev C x = E'.ev C x) → evs C E l = evs C E' l := by
  intro l
  induction l with
  | nil => intro _; rfl
  | cons x l ih =>
    intro h
    show ob (E.ev C x) (fun v => om (evs C E l) fun r => v :: r) = ob (E'.ev C x) (fun v => om (evs C E' l) fun r => v :: r)
    rw [h x List.mem_cons_self, ih fun y hy => h y (List.mem_cons_of_mem _ hy)]
theorem evs1_congr {E E' : A} : ∀ {l : List Operand}, (∀ x ∈ l, E.ev C x = E'.ev C x) → evs1 C E l = evs1 C E' l := by
  intro l
  induction l with
  | nil => intro _; rfl
  | cons x l ih =>
    intro h
    show ob (E.ev1 C x) (fun v => om (evs1 C E l) fun r => v :: r) = ob (E'.ev1 C x) (fun v => om (evs1 C E' l) fun r => v :: r)
    rw [ev1_congr (h x List.mem_cons_self), ih fun y hy => h y (List.mem_cons_of_mem _ hy)]
theorem evParts_congr {E E' : A} : ∀ {l : List (Nat × Operand)}, (∀ x ∈ l, E.ev C x.2 = E'.ev C x.2) → evParts C E l = evParts C E' l := by
  intro l
  induction l with
  | nil => intro _; rfl
  | cons x l ih =>
    intro h
    show ob (E.ev1 C x.2) (fun v => om (evParts C E l) fun r => (x.1, v) :: r) = ob (E'.ev1 C x.2) (fun v => om (evParts C E' l) fun r => (x.1, v) :: r)
    rw [ev1_congr (h x List.mem_cons_self), ih fun y hy => h y (List.mem_cons_of_mem _ hy)]
theorem optV_congr {E E' : A} {o : Option Operand} (h : ∀ x, o = some x → E.ev C x = E'.ev C x) : optV C E o = optV C E' o := by
  cases o with
  | none => rfl
  | some x => show om (E.ev1 C x) some = om (E'.ev1 C x) some; rw [ev1_congr (h x rfl)]
theorem quietV_congr {E E' : A} {h : H} {o : Oper} (he : ∀ x ∈ o.op.operands.toList, E.ev C x = E'.ev C x) : quietV C E h o = quietV C E' h o := by
  obtain ⟨dst, op, type, pos, after, guard⟩ := o
  unfold quietV
  simp only at he ⊢
  cases op <;> simp only [quietO] <;> first
    | rfl
    | (rename_i x; rw [he x (by simp [Op.operands])]; done)
    | (rename_i x; rw [ev1_congr (he x (by simp [Op.operands]))]; done)
    | (rename_i t x; rw [ev1_congr (he x (by simp [Op.operands]))]; done)
    | (rename_i s t x; rw [ev1_congr (he x (by simp [Op.operands]))]; done)
    | skip
  case pick c x y => rw [ev1_congr (he c (by simp [Op.operands])), he x (by simp [Op.operands]), he y (by simp [Op.operands])]
  case build t ps => rw [evParts_congr fun x hx => he x.2 (by simp only [Op.operands]; exact List.mem_map.2 ⟨x, hx, rfl⟩)]
  case binOp op t x y yt => rw [ev1_congr (he x (by simp [Op.operands])), ev1_congr (he y (by simp [Op.operands]))]
  case makeFunc fn first cap => rw [evs_congr fun x hx => he x (by simp [Op.operands] at hx ⊢; exact .inl hx), evs_congr fun x hx => he x (by simp [Op.operands] at hx ⊢; exact .inr hx)]
  case slice t x lo hi mx => rw [ev1_congr (he x (by simp [Op.operands])), optV_congr fun y hy => he y (by simp [Op.operands, hy]), optV_congr fun y hy => he y (by simp [Op.operands, hy]), optV_congr fun y hy => he y (by simp [Op.operands, hy])]
  case fieldAddr s x i => rw [ev1_congr (he x (by simp [Op.operands]))]
  case field s x i => rw [ev1_congr (he x (by simp [Op.operands]))]
  case indexAddr t x ix => rw [ev1_congr (he x (by simp [Op.operands])), ev1_congr (he ix (by simp [Op.operands]))]
  case index t x ix => rw [ev1_congr (he x (by simp [Op.operands])), ev1_congr (he ix (by simp [Op.operands]))]
  case lookup t x k ok => rw [ev1_congr (he x (by simp [Op.operands])), ev1_congr (he k (by simp [Op.operands]))]
  case extract x i => rw [he x (by simp [Op.operands])]
  case call c =>
    unfold qCallee
    split
    · rw [evs1_congr fun x hx => he x (by simp [Op.operands, Call.operands] at hx ⊢; exact .inr hx)]
    · rfl
theorem mkV_congr {E E' : A} {o : Oper} (he : ∀ x ∈ o.op.operands.toList, E.ev C x = E'.ev C x) : mkV C E o = mkV C E' o := by
  obtain ⟨dst, op, type, pos, after, guard⟩ := o
  unfold mkV
  simp only at he ⊢
  cases op <;> simp only [mkO] <;> first | rfl | skip
  case box t x => rw [ev1_congr (he x (by simp [Op.operands]))]
  case buildSlice t n ps => rw [evParts_congr fun x hx => he x.2 (by simp only [Op.operands]; exact List.mem_map.2 ⟨x, hx, rfl⟩)]
  case makeSlice t l c => rw [ev1_congr (he l (by simp [Op.operands])), ev1_congr (he c (by simp [Op.operands]))]

/-! Blocks that are there. -/
def HLe (h h' : H) : Prop := ∀ j o, h.t.get j = some o → h'.t.get j = some o
theorem HLe.new {h : H} (hn : h.t.get h.n = none) (o : O) : HLe h (h.new o) := fun j o' hj => by
  have hne : h.n ≠ j := fun e => by subst e; rw [hn] at hj; cases hj
  rw [← hj]; exact Tr.get_put_ne _ _ hne
theorem ob_mono {α β : Type} {o : Option α} {f g : α → Option β} {y : β} (hfg : ∀ x, f x = some y → g x = some y) (h : ob o f = some y) : ob o g = some y := by
  cases o with
  | none => cases h
  | some x => exact hfg x h
theorem get_mono {β : Type} {h h' : H} (hl : HLe h h') {j : Nat} {f : O → Option β} {y : β} (hy : ob (h.t.get j) f = some y) : ob (h'.t.get j) f = some y := by
  cases hj : h.t.get j with
  | none => rw [hj] at hy; cases hy
  | some o => rw [hl j o hj]; rw [hj] at hy; exact hy
variable {h h' : H}
theorem mapOf_mono (hl : HLe h h') {m : V} {es : List (V × V × Nat) × Nat} (hy : mapOf h m = some es) : mapOf h' m = some es := by
  unfold mapOf at hy ⊢
  cases m <;> first | exact hy | exact get_mono hl hy
theorem quietV_mono (hl : HLe h h') {A : A} {o : Oper} {v : V} (hv : quietV C A h o = some v) : quietV C A h' o = some v := by
  obtain ⟨dst, op, type, pos, after, guard⟩ := o
  unfold quietV at hv ⊢
  simp only at hv ⊢
  cases op <;> simp only [quietO] at hv ⊢ <;> first | exact hv | skip
  case load t x =>
    refine ob_mono (fun p hp => ?_) hv
    unfold qLoad at hp ⊢
    cases p <;> first | exact hp | exact get_mono hl hp
  case binOp op t x y yt =>
    refine ob_mono (fun p hp => ob_mono (fun q hq => ?_) hp) hv
    unfold binV at hq ⊢
    cases p <;> first | exact hq | skip
    simp only at hq ⊢
    unfold binQ at hq ⊢
    cases q <;> first | exact hq | skip
    rename_i j o j' o'
    simp only at hq ⊢
    have key : ∀ r, ob (C.P.underlying t) (ptrU C h j o j' o') = some r → ob (C.P.underlying t) (ptrU C h' j o j' o') = some r := fun r hr => by
      refine ob_mono (fun d hd => ?_) hr
      unfold ptrU at hd ⊢
      cases d <;> first | exact hd | skip
      simp only at hd ⊢
      unfold ptrE at hd ⊢
      rw [boolRec_eq] at hd ⊢
      split at hd
      · rename_i e; rw [if_pos e]; exact hd
      · rename_i e
        rw [if_neg e]
        exact ob_mono (fun n hn => get_mono hl (ob_mono (fun a ha => get_mono hl ha) hn)) hd
    cases hr : ob (C.P.underlying t) (ptrU C h j o j' o') with
    | none => rw [hr] at hq; cases op <;> cases hq
    | some r => rw [key r hr]; rw [hr] at hq; exact hq
  case slice t x lo hi mx =>
    refine ob_mono (fun p hp => ob_mono (fun l hl' => ob_mono (fun r hr => ob_mono (fun m hm => ?_) hr) hl') hp) hv
    unfold sliceV at hm ⊢
    refine ob_mono (fun d hd => ?_) hm
    unfold sliceU at hd ⊢
    cases d <;> first | exact hd | skip
    simp only at hd ⊢
    refine ob_mono (fun n hn => ?_) hd
    unfold sliceS at hn ⊢
    cases p <;> first | exact hn | skip
    rename_i j off len c
    simp only at hn ⊢
    cases c with
    | none => exact get_mono hl hn
    | some c => exact hn
  case lookup t x k ok =>
    refine ob_mono (fun m hm => ob_mono (fun k' hk => ?_) hm) hv
    unfold qLookup at hk ⊢
    refine ob_mono (fun q hq => ob_mono (fun z hz => ?_) hq) hk
    obtain ⟨hb, hz⟩ := guardO_some hz
    rw [hb]
    obtain ⟨es, hes, hz⟩ := ob_some hz
    show ob (mapOf h' m) _ = _
    rw [mapOf_mono hl hes]
    exact hz
  case call c =>
    unfold qCallee at hv ⊢
    split at hv
    · rename_i b hcal
      refine ob_mono (fun l hl' => ?_) hv
      have qlen : ∀ {t : TypeId} {x : V}, qLen C h t x = some v → qLen C h' t x = some v := fun {t x} hx => by
        unfold qLen at hx ⊢
        refine ob_mono (fun d hd => ?_) hx
        unfold lenU at hd ⊢
        cases d <;> first | exact hd | skip
        simp only at hd ⊢
        obtain ⟨es, hes, hd⟩ := om_some hd
        rw [mapOf_mono hl hes]
        exact congrArg some hd
      unfold qBlt at hl' ⊢
      split at hl'
      · split at hl'
        · exact qlen hl'
        · exact hl'
        · cases hl'
      · exact hl'
      · cases hl'
    · cases hv
end
end Go.Proofs.YtolheapnopmhgaaGreatDoor
