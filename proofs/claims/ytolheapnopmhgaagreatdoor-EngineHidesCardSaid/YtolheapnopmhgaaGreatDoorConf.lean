/- A region that draws its order may be walked in one order, where what only reads yields the same behind what acts. -/
import Derived.Test.YtolheapnopmhgaaGreatDoorRegion
import Derived.OrdersIn
set_option linter.all false
namespace Go.Proofs.YtolheapnopmhgaaGreatDoor
open Go

/-- A fence that lets everything in. -/
structure Free (F : Fence) : Prop where
  fn : ∀ f, F.fn f
  depth : F.depth = none

def noDefer (ops : Array Oper) : Bool := ops.all fun o => match o.op with
  | .defer _ => false
  | _ => true

section
variable {F : Fence} {n : Nat} {P : Program} {ops : Array Oper} {Q : Exit → Act → World → Prop}

theorem semAt_put {o : Oper} (hs : ∀ cs b, o.op ≠ .select cs b) (hd : F.round = none ∨ ∀ c, o.op ≠ .defer c) (a : Act) (dst : Option Tmp) (v : Value)
    (h : ∀ d, dst = some d → d ∉ o.looksAt ops) : o.semAt F.round (a.put dst v).eval = o.semAt F.round a.eval := by
  rcases hd with hd | hd
  · rw [hd, Oper.semAt_none, Oper.semAt_none]; exact execOp_put (ops := ops) o hs a dst v h
  · rw [Oper.semAt_eq _ _ _ hd, Oper.semAt_eq _ _ _ hd]; exact execOp_put (ops := ops) o hs a dst v h

/-- At just this world an operation yields a value and leaves it. -/
def RunsI (F : Fence) (P : Program) (ops : Array Oper) (w : World) (o : Oper) (v : Value) (a : Act) : Prop :=
  (Region.wanted o (yielded ops a.tmps) = true ∧ (o.semAt F.round a.eval).run P w = .ok (.value v) w) ∨ (Region.wanted o (yielded ops a.tmps) = false ∧ v = undef)

theorem RunsI.wpOpIn (hF : Free F) {i : Nat} {o : Oper} {v : Value} {a : Act} {w : World} (hi : ops[i]? = some o) (hy : RunsI F P ops w o v a) {K : Act → World → Prop}
    (h : K (a.put o.dst v) w) : wpOpIn F n P ops Q i K a w := by
  unfold Go.wpOpIn
  simp only [hi]
  rcases hy with ⟨hw, hv⟩ | ⟨hw, rfl⟩
  · simp only [hw, if_true, Oper.wpIn, hv, Oper.uponIn]; exact ⟨fun f _ => hF.fn f, h⟩
  · simp only [hw, Bool.false_eq_true, if_false]; exact ⟨fun f _ => hF.fn f, h⟩
theorem RunsI.put {o : Oper} {v : Value} {a : Act} {w : World} (hs : ∀ cs b, o.op ≠ .select cs b) (hd : F.round = none ∨ ∀ c, o.op ≠ .defer c) (dst : Option Tmp) (u : Value)
    (h : ∀ d, dst = some d → d ∉ o.looksAt ops) : RunsI F P ops w o v (a.put dst u) ↔ RunsI F P ops w o v a := by
  unfold RunsI
  rw [semAt_put hs hd a dst u h, wanted_put (ops := ops) o a dst u h]

/-- What was done ahead of a slot's filling is done behind it, and the other way round. -/
theorem wpOpIn_put' (hF : Free F) {j : Nat} {oj : Oper} {d : Option Tmp} {v : Value} (hj : ops[j]? = some oj) (h1 : ∀ t, d = some t → t ∉ oj.looksAt ops) (h2 : ∀ t, d = some t → oj.dst ≠ some t) (hQ : Tame Q)
    (hsj : ∀ cs b, oj.op ≠ .select cs b) (hdj : F.round = none ∨ ∀ c, oj.op ≠ .defer c) {K : Act → World → Prop} {a : Act} {w : World}
    (h : wpOpIn F n P ops Q j K (a.put d v) w) : wpOpIn F n P ops Q j (fun a' w' => K (a'.put d v) w') a w := by
  unfold wpOpIn at *
  simp only [hj] at *
  rw [wanted_put (ops := ops) oj a d v h1] at h
  split
  · rename_i hw
    simp only [hw, if_true] at h
    unfold Oper.wpIn at *
    refine ⟨fun f _ => hF.fn f, ?_⟩
    have h := h.2
    rw [semAt_put hsj hdj a d v h1] at h
    generalize (oj.semAt F.round a.eval).run P w = r at *
    cases r with
    | ok x w' =>
      cases x <;> simp only [Oper.uponIn] at h ⊢
      case value u => rw [← Act.put_comm a v u h2]; exact h
      case skip => rw [← Act.put_comm a v undef h2]; exact h
      case defer df =>
        rw [← Act.put_comm _ v undef h2, ← Act.put_defers]
        exact h
      case enter f args =>
        refine ⟨h.1, CallsIn.mono h.2 fun e w'' he => ?_⟩
        cases e with
        | returned u => dsimp only at he ⊢; rw [← Act.put_comm a v u h2]; exact he
        | panicked c => exact absurd he (hQ.1 _ _ _)
        | outgrown => exact he
      case row row args => exact ⟨h.1, RowsIn.mono h.2 fun u w'' he => by rw [← Act.put_comm a v u h2]; exact he⟩
      case round l f tmps assign body =>
        refine ⟨h.1, RoundIn.mono h.2 fun e w'' he => ?_⟩
        cases e with
        | returned u => dsimp only at he ⊢; rw [← Act.put_comm a v u h2]; exact he
        | panicked c => exact absurd he (hQ.1 _ _ _)
        | outgrown => exact he
    | halt x w' =>
      cases x <;> simp only [Oper.uponIn] at h ⊢
      case panic u => exact absurd h (hQ.1 _ _ _)
  · rename_i hw
    simp only [hw] at h
    refine ⟨fun f _ => hF.fn f, ?_⟩
    rw [← Act.put_comm a v undef h2]
    exact h.2

/-- What still yields what its slot holds. -/
def Stab (F : Fence) (P : Program) (ops : Array Oper) (l : List Nat) (a : Act) (w : World) : Prop :=
  ∀ k ∈ l, ∃ o v, ops[k]? = some o ∧ RunsI F P ops w o v a ∧ ∀ d, o.dst = some d → a.tmps[d]? = some v

/-- One order, with what is asked behind each operation that acts. -/
def Strong (F : Fence) (n : Nat) (P : Program) (ops : Array Oper) (Q : Exit → Act → World → Prop) (qt : Nat → Bool) (S : Nat → List Nat) : List Nat → Act → World → Prop
  | [], a, w => Q .normal a w
  | i :: r, a, w => ∃ o, ops[i]? = some o ∧ if qt i = true then ∃ v, RunsI F P ops w o v a ∧ Strong F n P ops Q qt S r (a.put o.dst v) w
      else wpOpIn F n P ops Q i (fun a' w' => Stab F P ops (S i) a' w' ∧ Strong F n P ops Q qt S r a' w') a w
end

/-- What is asked of an order, by the reckoning of bits. -/
def maskAt (ops : Array Oper) (i : Nat) : Nat := (masks ops.toList []).getD i 0
def earlyB (ops : Array Oper) : List Nat → List Nat → Bool
  | _, [] => true
  | seen, i :: r => (match ops[i]? with
    | some o => o.after.all fun e => !Region.binds .any e || seen.contains e.on
    | none => false) && earlyB ops (i :: seen) r
def selfB (ops : Array Oper) (k : Nat) : Bool := match ops[k]? with
  | some o => (match o.dst with
    | some d => !(o.looksAt ops).contains d
    | none => false)
  | none => false
def freeB (ops : Array Oper) (k m : Nat) : Bool := match ops[k]?, ops[m]? with
  | some ok, some om => (match om.dst with
    | some d => !(ok.looksAt ops).contains d && ok.dst != some d
    | none => true)
  | _, _ => false
def apartB (ops : Array Oper) (k i : Nat) : Bool := match ops[k]?, ops[i]? with
  | some ok, some oi => ok.apart ops oi
  | _, _ => false
def pairB (ops : Array Oper) (qt : Nat → Bool) (S : Nat → List Nat) (k i : Nat) : Bool :=
  ((maskAt ops i).testBit k || (apartB ops k i && qt k && (qt i || (S i).contains k))) && (!(qt k && qt i) || freeB ops k i)
def pairsB (R : Nat → Nat → Bool) : List Nat → Bool
  | [] => true
  | k :: r => r.all (R k) && pairsB R r
def confB (ops : Array Oper) (qt : Nat → Bool) (S : Nat → List Nat) (ord : List Nat) : Bool :=
  Region.noSelect ops && backB ops.toList 0 && Nat.beq ord.length ops.size && ord.all (fun i => Nat.blt i ops.size) && earlyB ops [] ord &&
    ord.all (fun k => !qt k || selfB ops k) && pairsB (fun k i => Nat.beq k i == false && pairB ops qt S k i) ord

theorem pairsB_spec {R : Nat → Nat → Bool} : ∀ {l : List Nat}, pairsB R l = true → l.Pairwise (fun k i => R k i = true)
  | [], _ => .nil
  | k :: r, h => by
    simp only [pairsB, Bool.and_eq_true, List.all_eq_true] at h
    exact .cons h.1 (pairsB_spec h.2)

section
variable {F : Fence} {n : Nat} {P : Program} {ops : Array Oper} {Q : Exit → Act → World → Prop} {qt : Nat → Bool} {S : Nat → List Nat}

/-- Quiet operations, one behind the other: slots are filled. -/
inductive Fills (F : Fence) (P : Program) (ops : Array Oper) (w : World) : List Nat → Act → Act → Prop
  | nil (a : Act) : Fills F P ops w [] a a
  | cons {k : Nat} {r : List Nat} {a b : Act} {o : Oper} {v : Value} (hk : ops[k]? = some o) (hr : RunsI F P ops w o v a) (h : Fills F P ops w r (a.put o.dst v) b) : Fills F P ops w (k :: r) a b

theorem Strong.fills {r1 : List Nat} : ∀ {r2 : List Nat} {a : Act} {w : World}, (∀ k ∈ r1, qt k = true) → Strong F n P ops Q qt S (r1 ++ r2) a w → ∃ b, Fills F P ops w r1 a b ∧ Strong F n P ops Q qt S r2 b w := by
  induction r1 with
  | nil => intro r2 a w _ h; exact ⟨a, .nil a, h⟩
  | cons k r1 ih =>
    intro r2 a w hq h
    obtain ⟨o, ho, h⟩ := h
    rw [if_pos (hq k List.mem_cons_self)] at h
    obtain ⟨v, hr, h⟩ := h
    obtain ⟨b, hf, h2⟩ := ih (fun k' hk' => hq k' (List.mem_cons_of_mem _ hk')) h
    exact ⟨b, .cons ho hr hf, h2⟩
theorem Fills.strong {r1 r2 : List Nat} {a b : Act} {w : World} (hq : ∀ k ∈ r1, qt k = true) (hf : Fills F P ops w r1 a b) (h : Strong F n P ops Q qt S r2 b w) :
    Strong F n P ops Q qt S (r1 ++ r2) a w := by
  induction hf with
  | nil a => exact h
  | cons hk hr _ ih =>
    refine ⟨_, hk, ?_⟩
    rw [if_pos (hq _ List.mem_cons_self)]
    exact ⟨_, hr, ih (fun k' hk' => hq k' (List.mem_cons_of_mem _ hk')) h⟩

/-- The slots and what is put there. -/
def putsA (a : Act) : List (Option Tmp × Value) → Act
  | [] => a
  | (d, v) :: l => putsA (a.put d v) l

theorem putsA_size (l : List (Option Tmp × Value)) : ∀ a : Act, (putsA a l).tmps.size = a.tmps.size := by
  induction l with
  | nil => intro a; rfl
  | cons x l ih => intro a; rw [putsA, ih]; cases x.1 <;> simp [Act.put]
theorem putsA_other (l : List (Option Tmp × Value)) : ∀ (a : Act) (t : Nat), (∀ x ∈ l, x.1 ≠ some t) → (putsA a l).tmps[t]? = a.tmps[t]? := by
  induction l with
  | nil => intro a t _; rfl
  | cons x l ih =>
    intro a t h
    rw [putsA, ih _ _ (fun y hy => h y (List.mem_cons_of_mem _ hy))]
    have := h x List.mem_cons_self
    cases hx : x.1 with
    | none => rfl
    | some d => rw [hx] at this; simp only [Act.put]; rw [Array.getElem?_setIfInBounds_ne (fun e => this (by rw [e]))]

theorem Fills.vals {r : List Nat} {a b : Act} {w : World} (h : Fills F P ops w r a b) :
    ∃ l : List (Nat × Oper × Value), l.map (·.1) = r ∧ (∀ x ∈ l, ops[x.1]? = some x.2.1) ∧ b = putsA a (l.map fun x => (x.2.1.dst, x.2.2)) := by
  induction h with
  | nil a => exact ⟨[], rfl, (fun _ h => by cases h), rfl⟩
  | cons hk hr h ih =>
    rename_i k r a b o v
    obtain ⟨l, h1, h2, h3⟩ := ih
    refine ⟨(k, o, v) :: l, by simp [h1], fun x hx => ?_, by simp [putsA, h3]⟩
    rcases List.mem_cons.1 hx with rfl | hx
    · exact hk
    · exact h2 x hx

theorem RunsI.puts {o : Oper} {v : Value} {w : World} (hs : ∀ cs b, o.op ≠ .select cs b) (hd : F.round = none ∨ ∀ c, o.op ≠ .defer c) (l : List (Option Tmp × Value)) :
    ∀ a : Act, (∀ x ∈ l, ∀ d, x.1 = some d → d ∉ o.looksAt ops) → (RunsI F P ops w o v (putsA a l) ↔ RunsI F P ops w o v a) := by
  induction l with
  | nil => intro a _; rfl
  | cons x l ih =>
    intro a h
    rw [putsA, ih _ (fun y hy => h y (List.mem_cons_of_mem _ hy))]
    exact RunsI.put hs hd _ _ (h x List.mem_cons_self)

theorem wpOpIn_puts' (hF : Free F) {j : Nat} {oj : Oper} (hj : ops[j]? = some oj) (hQ : Tame Q) (hsj : ∀ cs b, oj.op ≠ .select cs b) (hdj : F.round = none ∨ ∀ c, oj.op ≠ .defer c) {w : World} (l : List (Option Tmp × Value)) :
    ∀ (K : Act → World → Prop) (a : Act), (∀ x ∈ l, ∀ t, x.1 = some t → t ∉ oj.looksAt ops ∧ oj.dst ≠ some t) →
    wpOpIn F n P ops Q j K (putsA a l) w → wpOpIn F n P ops Q j (fun a' w' => K (putsA a' l) w') a w := by
  induction l with
  | nil => intro K a _ h; exact h
  | cons x l ih =>
    intro K a hx h
    have h1 := ih K (a.put x.1 x.2) (fun y hy => hx y (List.mem_cons_of_mem _ hy)) h
    exact wpOpIn_put' hF hj (fun t ht => (hx x List.mem_cons_self t ht).1) (fun t ht => (hx x List.mem_cons_self t ht).2) hQ hsj hdj h1

/-- Behind what acted the quiet ones yield what they yielded. -/
theorem fills_of_stab {w : World} (hsel : ∀ (j : Nat) (o : Oper) cs b, ops[j]? = some o → o.op ≠ .select cs b) (hdf : F.round = none ∨ ∀ (j : Nat) (o : Oper) c, ops[j]? = some o → o.op ≠ .defer c) :
    ∀ (l : List (Nat × Oper × Value)) (a : Act), (∀ x ∈ l, ops[x.1]? = some x.2.1) → (∀ x ∈ l, selfB ops x.1 = true) → (l.map (·.1)).Pairwise (fun k m => freeB ops k m = true) →
      (∀ x ∈ l, ∃ v, RunsI F P ops w x.2.1 v (putsA a (l.map fun x => (x.2.1.dst, x.2.2))) ∧ ∀ d, x.2.1.dst = some d → (putsA a (l.map fun x => (x.2.1.dst, x.2.2))).tmps[d]? = some v) →
      Fills F P ops w (l.map (·.1)) a (putsA a (l.map fun x => (x.2.1.dst, x.2.2))) := by
  intro l
  induction l with
  | nil => intro a _ _ _ _; exact .nil a
  | cons x l ih =>
    intro a ho hsf hp hst
    obtain ⟨k, o, v⟩ := x
    have hk : ops[k]? = some o := ho _ List.mem_cons_self
    have hdk : F.round = none ∨ ∀ c, o.op ≠ .defer c := hdf.imp id fun h c => h k o c hk
    obtain ⟨hp1, hp2⟩ := List.pairwise_cons.1 hp
    -- nothing behind writes what o looks at, nor its slot
    have hfree : ∀ y ∈ l.map (fun x => (x.2.1.dst, x.2.2)), ∀ d, y.1 = some d → d ∉ o.looksAt ops ∧ o.dst ≠ some d := by
      intro y hy d hd
      obtain ⟨z, hz, rfl⟩ := List.mem_map.1 hy
      have h1 := hp1 z.1 (List.mem_map.2 ⟨z, hz, rfl⟩)
      have hz2 := ho z (List.mem_cons_of_mem _ hz)
      simp only [freeB, hk, hz2] at h1
      simp only at hd
      rw [hd] at h1
      simp only [Bool.and_eq_true, Bool.not_eq_true', bne_iff_ne, ne_eq] at h1
      exact ⟨fun hm => by simp [hm] at h1, h1.2⟩
    have hself : ∀ d, o.dst = some d → d ∉ o.looksAt ops := fun d hd hm => by
      have := hsf _ List.mem_cons_self
      simp only [selfB, hk, hd] at this
      simp [hm] at this
    obtain ⟨u, hu, hslot⟩ := hst _ List.mem_cons_self
    simp only [List.map_cons, putsA] at hu hslot hst ⊢
    have hu1 : RunsI F P ops w o u a := by
      rw [RunsI.puts (hsel k o · · hk) hdk _ _ (fun y hy d hd => (hfree y hy d hd).1)] at hu
      exact (RunsI.put (hsel k o · · hk) hdk _ _ hself).1 hu
    have huv : u = v := by
      have hsk := hsf _ List.mem_cons_self
      simp only [selfB, hk] at hsk
      obtain ⟨d, hd⟩ : ∃ d, o.dst = some d := by
        cases hd : o.dst with
        | none => simp [hd] at hsk
        | some d => exact ⟨d, rfl⟩
      have h1 := hslot d hd
      rw [putsA_other _ _ _ (fun y hy he => (hfree y hy d he).2 hd)] at h1
      rw [hd] at h1
      simp only [Act.put] at h1
      by_cases hlt : d < a.tmps.size
      · rw [Array.getElem?_setIfInBounds_self_of_lt hlt] at h1; exact (Option.some.inj h1).symm
      · have h2 : (a.tmps.setIfInBounds d v)[d]? = none := Array.getElem?_eq_none (by rw [Array.size_setIfInBounds]; exact Nat.le_of_not_lt hlt)
        rw [h2] at h1; cases h1
    subst huv
    refine .cons hk hu1 (ih _ (fun y hy => ho y (List.mem_cons_of_mem _ hy)) (fun y hy => hsf y (List.mem_cons_of_mem _ hy)) hp2 (fun y hy => hst y (List.mem_cons_of_mem _ hy)))

/-- What is ready is done first. -/
theorem Strong.front (hF : Free F) (hQ : Tame Q) (hsel : ∀ (j : Nat) (o : Oper) cs b, ops[j]? = some o → o.op ≠ .select cs b) (hdf : F.round = none ∨ ∀ (j : Nat) (o : Oper) c, ops[j]? = some o → o.op ≠ .defer c)
    {r1 r2 : List Nat} {i : Nat} {a : Act} {w : World} (hq : ∀ k ∈ r1, qt k = true ∧ apartB ops k i = true ∧ (qt i = true ∨ k ∈ S i)) (hsf : ∀ k ∈ r1, selfB ops k = true)
    (hp : r1.Pairwise (fun k m => freeB ops k m = true)) (h : Strong F n P ops Q qt S (r1 ++ i :: r2) a w) :
    wpOpIn F n P ops Q i (Strong F n P ops Q qt S (r1 ++ r2)) a w := by
  obtain ⟨b, hf, h1⟩ := Strong.fills (fun k hk => (hq k hk).1) h
  clear h
  obtain ⟨oi, hoi, h⟩ := h1
  have hdi : F.round = none ∨ ∀ c, oi.op ≠ .defer c := hdf.imp id fun h c => h i oi c hoi
  obtain ⟨l, hl1, hl2, rfl⟩ := hf.vals
  subst hl1
  have hap : ∀ y ∈ l.map (fun x => (x.2.1.dst, x.2.2)), ∀ t, y.1 = some t → t ∉ oi.looksAt ops ∧ oi.dst ≠ some t := by
    intro y hy t ht
    obtain ⟨z, hz, rfl⟩ := List.mem_map.1 hy
    have h1 := (hq z.1 (List.mem_map.2 ⟨z, hz, rfl⟩)).2.1
    simp only [apartB, hl2 z hz, hoi] at h1
    obtain ⟨b1, b2, b3⟩ := Oper.apart_spec h1
    exact ⟨b1 t ht, b2 t ht⟩
  by_cases hqi : qt i = true
  · rw [if_pos hqi] at h
    obtain ⟨v, hr, h⟩ := h
    rw [RunsI.puts (hsel i oi · · hoi) hdi _ _ (fun y hy t ht => (hap y hy t ht).1)] at hr
    refine hr.wpOpIn hF hoi ?_
    -- the others are done behind it
    have key : ∀ (r1 : List Nat) (a b : Act), (∀ k ∈ r1, apartB ops k i = true) → Fills F P ops w r1 a b → Fills F P ops w r1 (a.put oi.dst v) (b.put oi.dst v) := by
      intro r1 a b hk hf
      induction hf with
      | nil a => exact .nil _
      | @cons k r a b o u hk1 hr1 _ ih =>
        have h1 := hk k List.mem_cons_self
        simp only [apartB, hk1, hoi] at h1
        obtain ⟨b1, b2, b3⟩ := Oper.apart_spec h1
        refine .cons hk1 ((RunsI.put (hsel k o · · hk1) (hdf.imp id fun h c => h k o c hk1) _ _ (fun t ht => b3 t ht)).2 hr1) ?_
        rw [Act.put_comm a v u (fun t ht e => b2 t e ht)]
        exact ih (fun k' hk' => hk k' (List.mem_cons_of_mem _ hk'))
    exact (key _ _ _ (fun k hk => (hq k hk).2.1) hf).strong (fun k hk => (hq k hk).1) h
  · rw [if_neg hqi] at h
    refine wpOpIn_mono ?_ (wpOpIn_puts' hF hoi hQ (hsel i oi · · hoi) hdi _ _ a hap h)
    rintro a' w' ⟨hst, h2⟩
    refine (fills_of_stab hsel hdf l a' hl2 (fun x hx => hsf x.1 (List.mem_map.2 ⟨x, hx, rfl⟩)) hp (fun x hx => ?_)).strong (fun k hk => (hq k hk).1) h2
    obtain ⟨o, v, h3, h4, h5⟩ := hst x.1 ((hq x.1 (List.mem_map.2 ⟨x, hx, rfl⟩)).2.2.resolve_left hqi)
    rw [hl2 x hx] at h3
    cases h3
    exact ⟨v, h4, h5⟩

theorem wpAnyIn_of_strong (hF : Free F) (hQ : Tame Q) (hd : F.round = none ∨ noDefer ops = true) {ord : List Nat} (hB : confB ops qt S ord = true) :
    ∀ (m : Nat) (r : List Nat) (listed : Array Bool) (a : Act) (w : World), r.length = m → r.Sublist ord → listed.size = ops.size → (∀ j, j ∈ r ↔ j < ops.size ∧ listed.getD j true = false) → Listed.Closed ops listed →
      Strong F n P ops Q qt S r a w → wpAnyIn F n P .any ops Q m listed a w := by
  simp only [confB, Bool.and_eq_true] at hB
  obtain ⟨⟨⟨⟨⟨⟨hsel, hback⟩, hlen⟩, hlt⟩, hearly⟩, hself⟩, hpair⟩ := hB
  have hsel' := Region.noSelect_spec hsel
  have hdf : F.round = none ∨ ∀ (j : Nat) (o : Oper) c, ops[j]? = some o → o.op ≠ .defer c := hd.imp id fun h j o c ho hop => by
    have hm : o ∈ ops := Array.mem_of_getElem? ho
    have := Array.all_eq_true_iff_forall_mem.1 h o hm
    simp [hop] at this
  have hgood : GoodMask ops (masks ops.toList []) := good_masks ops.toList [] (fun j => by simp) hback (fun j k h => by simp at h)
  have hpw := pairsB_spec hpair
  -- what an operation waits for lies ahead of it
  have hfirst : ∀ (l seen : List Nat), earlyB ops seen l = true → ∀ (l1 : List Nat) (i : Nat) (l2 : List Nat), l = l1 ++ i :: l2 → ∀ o, ops[i]? = some o → ∀ e ∈ o.after, Region.binds .any e = true → e.on ∈ seen ∨ e.on ∈ l1 := by
    intro l
    induction l with
    | nil => intro seen _ l1 i l2 he; simp at he
    | cons x l ih =>
      intro seen hb l1 i l2 he o ho e hea hbd
      simp only [earlyB, Bool.and_eq_true] at hb
      cases l1 with
      | nil =>
        simp only [List.nil_append, List.cons.injEq] at he
        obtain ⟨rfl, rfl⟩ := he
        have h1 := hb.1
        simp only [ho] at h1
        have := Array.all_eq_true_iff_forall_mem.1 h1 e hea
        simp [hbd] at this
        exact .inl this
      | cons y l1 =>
        simp only [List.cons_append, List.cons.injEq] at he
        obtain ⟨rfl, rfl⟩ := he
        rcases ih (x :: seen) hb.2 l1 i l2 rfl o ho e hea hbd with h1 | h1
        · rcases List.mem_cons.1 h1 with h1 | h1
          · exact .inr (h1 ▸ List.mem_cons_self)
          · exact .inl h1
        · exact .inr (List.mem_cons_of_mem _ h1)
  have hnd : ord.Nodup := hpw.imp fun {a b} h => by
    simp only [Bool.and_eq_true, beq_iff_eq] at h
    exact fun e => by subst e; simp at h
  intro m
  induction m with
  | zero =>
    intro r listed a w hn _ _ hr _ h
    have e : r = [] := List.eq_nil_of_length_eq_zero hn
    subst e
    refine ⟨?_, h⟩
    cases hrd : Region.ready .any ops listed with
    | nil => rfl
    | cons j js =>
      have hj : j ∈ Region.ready .any ops listed := by rw [hrd]; exact List.mem_cons_self
      obtain ⟨h0, o, ho, _⟩ := mem_ready.1 hj
      have := (hr j).2 ⟨(Array.getElem?_eq_some_iff.1 ho).1, h0⟩
      cases this
  | succ m ih =>
    intro r listed a w hn hsub hsz hr hcl h
    refine ⟨fun h0 => ?_, fun i hi => ?_⟩
    · exfalso
      cases r with
      | nil => simp at hn
      | cons j js =>
        obtain ⟨hj, hun⟩ := (hr j).1 List.mem_cons_self
        have : j ∈ Region.ready .any ops listed := mem_ready.2 ⟨hun, ops[j], Array.getElem?_eq_getElem hj, fun e he hbd => by
          obtain ⟨l1, l2, hl⟩ := List.append_of_mem (hsub.mem List.mem_cons_self)
          have hin : e.on ∈ l1 := (hfirst ord [] hearly l1 j l2 hl _ (Array.getElem?_eq_getElem hj) e he hbd).resolve_left (by simp)
          have hlt1 : e.on < ops.size := by
            have := List.all_eq_true.1 hlt e.on (by rw [hl]; exact List.mem_append_left _ hin)
            simpa [Nat.blt_eq] using this
          cases hg : listed.getD e.on false with
          | true => rfl
          | false =>
            exfalso
            have hin2 : e.on ∈ j :: js := (hr e.on).2 ⟨hlt1, by
              have hlt' : e.on < listed.size := by omega
              simp [hlt'] at hg ⊢; exact hg⟩
            -- j :: js is a sublist of l1 ++ j :: l2: e.on lies ahead of j, and behind
            rw [hl] at hsub hnd
            have hne : e.on ≠ j := fun e1 => (List.nodup_append.1 hnd).2.2 _ hin _ List.mem_cons_self e1
            have hjs : e.on ∈ js := (List.mem_cons.1 hin2).resolve_left hne
            have hjl1 : j ∉ l1 := fun hm => (List.nodup_append.1 hnd).2.2 _ hm _ List.mem_cons_self rfl
            have h3 : (j :: js).Sublist (j :: l2) := by
              clear hfirst hpw hearly hl hin hne hin2 hjs
              induction l1 with
              | nil => exact hsub
              | cons x l1 ih1 =>
                have hxj : x ≠ j := fun e1 => hjl1 (e1 ▸ List.mem_cons_self)
                cases hsub with
                | cons _ h => exact ih1 (List.nodup_cons.1 hnd).2 h (fun hm => hjl1 (List.mem_cons_of_mem _ hm))
                | cons_cons _ h => exact absurd rfl hxj
            have h4 : e.on ∈ l2 := by
              have := (List.cons_sublist_cons.1 h3).mem hjs
              exact this
            exact (List.nodup_append.1 hnd).2.2 _ hin _ (List.mem_cons_of_mem _ h4) rfl⟩
        rw [h0] at this
        cases this
    · obtain ⟨hun, oi, hoi, hall⟩ := mem_ready.1 hi
      have hilt : i < ops.size := (Array.getElem?_eq_some_iff.1 hoi).1
      have hir : i ∈ r := (hr i).2 ⟨hilt, hun⟩
      obtain ⟨r1, r2, hr12⟩ := List.append_of_mem hir
      have hrdy : Listed.Ready ops listed i := fun o ho e he hbd => by
        have : o = oi := Option.some.inj (ho.symm.trans hoi)
        subst this
        exact hall e he hbd
      have hnotr : ∀ q, (maskAt ops i).testBit q = true → q ∉ r := fun q hq hm => by
        have h1 := (hgood i q hq).2 listed hcl hrdy
        have h2 := ((hr q).1 hm).2
        have hlt : q < listed.size := by rw [hsz]; exact ((hr q).1 hm).1
        simp [hlt] at h1 h2
        rw [h1] at h2; cases h2
      subst hr12
      have hpr := hpw.sublist hsub
      have hpr1 := (List.pairwise_append.1 hpr).1
      have hk : ∀ k ∈ r1, qt k = true ∧ apartB ops k i = true ∧ (qt i = true ∨ k ∈ S i) := fun k hk => by
        have h1 := (List.pairwise_append.1 hpr).2.2 k hk i List.mem_cons_self
        simp only [pairB, Bool.and_eq_true, Bool.or_eq_true] at h1
        rcases h1.2.1 with h2 | ⟨⟨h2, h3⟩, h4⟩
        · exact absurd (List.mem_append_left _ hk) (hnotr k h2)
        · exact ⟨h3, h2, h4.imp id fun h => by simpa using h⟩
      have hsf : ∀ k ∈ r1, selfB ops k = true := fun k hk' => by
        have := List.all_eq_true.1 hself k (hsub.mem (List.mem_append_left _ hk'))
        simpa [(hk k hk').1] using this
      have hp1 : r1.Pairwise (fun k m => freeB ops k m = true) := by
        refine hpr1.imp_of_mem fun {x y} hx hy h => ?_
        simp only [pairB, Bool.and_eq_true, Bool.or_eq_true] at h
        have := h.2.2
        simpa [(hk x hx).1, (hk y hy).1] using this
      have h1 := Strong.front hF hQ hsel' hdf hk hsf hp1 h
      have hnd' : (r1 ++ i :: r2).Nodup := hnd.sublist hsub
      have hni : i ∉ r1 := fun hm => (List.nodup_append.1 hnd').2.2 _ hm _ List.mem_cons_self rfl
      have hni2 : i ∉ r2 := (List.nodup_cons.1 (List.nodup_append.1 hnd').2.1).1
      refine wpOpIn_mono (fun a' w' h3 => ih (r1 ++ r2) (listed.setIfInBounds i true) a' w' ?_ ?_ (by simp [hsz]) ?_ ?_ h3) h1
      · simp at hn ⊢; omega
      · exact (List.Sublist.append (List.Sublist.refl _) (List.sublist_cons_self _ _)).trans hsub
      · intro j
        by_cases hji : j = i
        · subst hji
          constructor
          · intro hm
            rcases List.mem_append.1 hm with hm | hm
            · exact absurd hm hni
            · exact absurd hm hni2
          · rintro ⟨_, hf⟩
            have : j < listed.size := by omega
            simp [this] at hf
        · rw [getD_set_ne true (Ne.symm hji), ← hr j]
          simp [hji]
      · intro j oj hoj hl e he hbd
        by_cases hij : i = j
        · subst hij
          have : oj = oi := Option.some.inj (hoj.symm.trans hoi)
          subst this
          exact getD_set_true (hall e he hbd)
        · rw [getD_set_ne false hij] at hl
          exact getD_set_true (hcl j oj hoj hl e he hbd)

theorem mem_of_full (l : List Nat) (m : Nat) (hnd : l.Nodup) (hl : ∀ x ∈ l, x < m) (hlen : l.length = m) (j : Nat) (hj : j < m) : j ∈ l := by
  induction m generalizing l j with
  | zero => omega
  | succ m ih =>
    by_cases hm : m ∈ l
    · have h1 : (l.erase m).length = m := by rw [List.length_erase_of_mem hm]; omega
      have h2 : ∀ x ∈ l.erase m, x < m := fun x hx => by
        have h3 := hl x (List.mem_of_mem_erase hx)
        have h4 : x ≠ m := fun e => by subst e; exact absurd hx (List.Nodup.not_mem_erase hnd)
        omega
      by_cases hjm : j = m
      · exact hjm ▸ hm
      · exact List.mem_of_mem_erase (ih (l.erase m) (hnd.erase m) h2 h1 j (by omega))
    · -- too many for so few places
      exfalso
      have h2 : ∀ x ∈ l, x < m := fun x hx => by
        have h3 := hl x hx
        have h4 : x ≠ m := fun e => hm (e ▸ hx)
        omega
      cases l with
      | nil => simp at hlen
      | cons x l =>
        have h5 := ih l (List.nodup_cons.1 hnd).2 (fun y hy => h2 y (List.mem_cons_of_mem _ hy)) (by simpa using hlen) x (h2 x List.mem_cons_self)
        exact (List.nodup_cons.1 hnd).1 h5

/-- A REGION THAT DRAWS ITS ORDER, IN AN ORDER OF OURS. -/
theorem wpIn_region_conf {id : Nat} {a : Act} {w : World} (hF : Free F) (hm : P.follows .mixedOrders = true) (hQ : Tame Q) (hd : F.round = none ∨ noDefer ops = true) {ord : List Nat} (hB : confB ops qt S ord = true)
    (h : Strong F n P ops Q qt S ord a { w with drawn := w.drawn + 1 }) : (Code.region id ops true).wpIn F n P Q a w := by
  refine wpIn_region_any hm ?_
  have hB' := hB
  simp only [confB, Bool.and_eq_true] at hB'
  obtain ⟨⟨⟨⟨⟨⟨_, _⟩, hlen⟩, hlt⟩, _⟩, _⟩, hpair⟩ := hB'
  have hlen : ord.length = ops.size := Nat.eq_of_beq_eq_true hlen
  have hnd : ord.Nodup := (pairsB_spec hpair).imp fun {a b} h => by
    simp only [Bool.and_eq_true, beq_iff_eq] at h
    exact fun e => by subst e; simp at h
  have hget : ∀ j, (Array.replicate ops.size false).getD j true = false ↔ j < ops.size := fun j => by
    by_cases hj : j < ops.size
    · simp [hj]
    · simp [hj]
  have hmem : ∀ j, j ∈ ord ↔ j < ops.size := fun j => by
    have hl : ∀ x ∈ ord, x < ops.size := fun x hx => by simpa [Nat.blt_eq] using List.all_eq_true.1 hlt x hx
    refine ⟨hl j, fun hj => ?_⟩
    exact mem_of_full ord ops.size hnd hl hlen j hj
  exact wpAnyIn_of_strong hF hQ hd hB _ ord _ a _ hlen (List.Sublist.refl _) (by simp) (fun j => by rw [hget, hmem]; simp) (fun j o _ hl => (by rw [getD_replicate_false'] at hl; cases hl)) h
end
end Go.Proofs.YtolheapnopmhgaaGreatDoor
