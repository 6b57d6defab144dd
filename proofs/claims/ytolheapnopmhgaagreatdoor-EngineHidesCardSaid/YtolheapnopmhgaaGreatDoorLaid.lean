/- A variable of the program's that reads as a known datum holds just its cells. -/
import Derived.Test.YtolheapnopmhgaaGreatDoorPr
import Derived.Lib.LaidTab
import GoSem.ClaimJoined
set_option linter.all false
namespace Go.Proofs.YtolheapnopmhgaaGreatDoor
open Go

mutual
def flatW {H : Type} : DataW H → Option (List Value)
  | .lit (.bool b) => some [.bool b]
  | .lit (.int k n) => some [.int k n]
  | .lit (.string s) => some [.string ⟨s.toArray⟩]
  | .agg ds => flatAll ds
  | _ => none
def flatAll {H : Type} : List (DataW H) → Option (List Value)
  | [] => some []
  | d :: r => (flatW d).bind fun a => (flatAll r).map fun b => a ++ b
end
def contB : List (Nat × Nat) → Nat → Nat → Bool
  | [], o, e => Nat.beq o e
  | q :: l, o, e => Nat.beq q.1 o && contB l (o + q.2) e
def layB (P : Program) : Nat → TypeId → Bool
  | 0, _ => false
  | n + 1, t => match P.underlying t with
    | some .bool => true
    | some (.int _) => true
    | some .string => true
    | some (.struct fs) => contB (fs.toList.map fun f => (f.offset, P.cellsOf f.type)) 0 (P.cellsOf t) && fs.toList.all fun f => layB P n f.type
    | some (.array k e) => Nat.beq (k * P.cellsOf e) (P.cellsOf t) && layB P n e
    | _ => false
theorem pieces (cs : List Value) : ∀ (l : List (Nat × Nat)) (o e : Nat), contB l o e = true → o ≤ e ∧ (l.map fun q => (cs.drop q.1).take q.2).flatten = (cs.drop o).take (e - o) := by
  intro l
  induction l with
  | nil =>
    intro o e h
    cases Nat.eq_of_beq_eq_true h
    exact ⟨Nat.le_refl _, by simp⟩
  | cons q l ih =>
    intro o e h
    simp only [contB, Bool.and_eq_true] at h
    have h1 := Nat.eq_of_beq_eq_true h.1
    obtain ⟨h2, h3⟩ := ih _ _ h.2
    refine ⟨by omega, ?_⟩
    simp only [List.map_cons, List.flatten_cons, h3, h1]
    rw [show e - o = q.2 + (e - (o + q.2)) by omega, List.take_add, List.drop_drop]
theorem flatAll_pieces {H : Type} : ∀ (ds : List (DataW H)) (ps : List (List Value)) (vs : List Value), ds.length = ps.length → flatAll ds = some vs → (∀ (i : Nat) (d : DataW H) (c v : List Value), ds[i]? = some d → ps[i]? = some c → flatW d = some v → c = v) → ps.flatten = vs := by
  intro ds
  induction ds with
  | nil =>
    intro ps vs hl hf _
    cases ps with
    | nil => cases hf; rfl
    | cons => simp at hl
  | cons d ds ih =>
    intro ps vs hl hf h
    cases ps with
    | nil => simp at hl
    | cons c ps =>
      simp only [flatAll] at hf
      obtain ⟨a, ha, hf⟩ := Option.bind_eq_some_iff.1 hf
      obtain ⟨b, hb, rfl⟩ := Option.map_eq_some_iff.1 hf
      have h1 := h 0 d c a rfl rfl ha
      have h2 := ih ps b (by simpa using hl) hb fun i d c v hd hc hv => h (i + 1) d c v (by simpa using hd) (by simpa using hc) hv
      rw [List.flatten_cons, h1, h2]
theorem flat_trod {H : Type} {enc : TypeId × Value → H} {P : Program} {w : World} {base : Nat} {sp : Nat → Bool} {held : Bool} : ∀ (n fuel : Nat) (t : TypeId) (cs : List Value) (d : DataW H) (p : List MemPlace) (vs : List Value),
    layB P n t = true → DataW.trod enc P w base sp held fuel t cs = some (d, p) → flatW d = some vs → cs = vs := by
  intro n
  induction n with
  | zero => intro fuel t cs d p vs h; cases h
  | succ n ih =>
    intro fuel t cs d p vs hl ht hf
    cases fuel with
    | zero => simp [DataW.trod] at ht
    | succ fuel =>
      unfold layB at hl
      cases hu : P.underlying t with
      | none => rw [hu] at hl; cases hl
      | some td =>
        rw [hu] at hl
        have many : ∀ (l : List (Nat × Nat)) (ds : List (DataW H)), contB l 0 (P.cellsOf t) = true → cs.length = P.cellsOf t → ds.length = l.length → flatAll ds = some vs → (∀ (i : Nat) (d : DataW H) (q : Nat × Nat) (v : List Value), ds[i]? = some d → l[i]? = some q → flatW d = some v → (cs.drop q.1).take q.2 = v) → cs = vs := fun l ds hc hlen hds hfa hh => by
          obtain ⟨_, h2⟩ := pieces cs l 0 (P.cellsOf t) hc
          have h3 := flatAll_pieces ds (l.map fun q => (cs.drop q.1).take q.2) vs (by simpa using hds) hfa fun i d c v hd hc hv => by
            rw [List.getElem?_map] at hc
            obtain ⟨q, hq, rfl⟩ := Option.map_eq_some_iff.1 hc
            exact hh i d q v hd hq hv
          rw [← h3, h2]
          simp [← hlen]
        cases td <;> simp only [Bool.false_eq_true] at hl
        case bool =>
          simp only [DataW.trod, hu] at ht
          split at ht <;> first | (rename_i e _ _; cases e; done) | skip
          all_goals first | (cases ht; cases hf; rfl) | (cases ht; done) | (simp_all; done)
        case int k =>
          simp only [DataW.trod, hu] at ht
          split at ht <;> first | (rename_i e; cases e; done) | skip
          all_goals first
            | (split at ht
               · rename_i hk; obtain ⟨rfl, _⟩ := hk; cases ht; cases hf; rfl
               · cases ht)
            | (cases ht; done) | (simp_all; done)
        case string =>
          simp only [DataW.trod, hu] at ht
          split at ht <;> first | (rename_i e; cases e; done) | skip
          all_goals first
            | (split at ht
               · cases ht; cases hf; rfl
               · cases ht)
            | (cases ht; done) | (simp_all; done)
        case struct fs =>
          simp only [Bool.and_eq_true] at hl
          simp only [DataW.trod, hu] at ht
          split at ht
          · rename_i hlen
            obtain ⟨xs, hm, hx⟩ := Option.map_eq_some_iff.1 ht
            cases hx
            simp only [flatW] at hf
            refine many _ (xs.map (·.1)) hl.1 hlen (by simp [Lib.mapM_length hm]) hf fun i d q v hd hq hv => ?_
            rw [List.getElem?_map] at hq hd
            obtain ⟨f, hfi, rfl⟩ := Option.map_eq_some_iff.1 hq
            obtain ⟨x, hxi, rfl⟩ := Option.map_eq_some_iff.1 hd
            obtain ⟨b, hb, hft⟩ := Lib.mapM_at hm i f hfi
            rw [hxi] at hb; cases hb
            exact ih fuel f.type _ x.1 x.2 v (List.all_eq_true.1 hl.2 f (List.mem_of_getElem? hfi)) hft hv
          · cases ht
        case array k e =>
          simp only [Bool.and_eq_true] at hl
          simp only [DataW.trod, hu] at ht
          split at ht
          · rename_i hlen
            obtain ⟨xs, hm, hx⟩ := Option.map_eq_some_iff.1 ht
            cases hx
            simp only [flatW] at hf
            have hcont : ∀ k o, contB ((List.range k).map fun i => (o + i * P.cellsOf e, P.cellsOf e)) o (o + k * P.cellsOf e) = true := fun k => by
              induction k with
              | zero => intro o; simp [contB]
              | succ k ihk =>
                intro o
                rw [List.range_succ_eq_map, List.map_cons, List.map_map]
                simp only [contB, Bool.and_eq_true]
                refine ⟨by simp, ?_⟩
                have := ihk (o + P.cellsOf e)
                rw [show o + P.cellsOf e + k * P.cellsOf e = o + (k + 1) * P.cellsOf e by rw [Nat.add_mul]; omega] at this
                rw [← this]
                congr 1
                apply List.map_congr_left
                intro i _
                simp only [Function.comp, Prod.mk.injEq, and_true]
                rw [Nat.succ_mul]; omega
            have hc0 := hcont k 0
            rw [Nat.zero_add, Nat.eq_of_beq_eq_true hl.1] at hc0
            refine many _ (xs.map (·.1)) hc0 hlen (by simp [Lib.mapM_length hm]) hf fun i d q v hd hq hv => ?_
            rw [List.getElem?_map] at hq hd
            obtain ⟨f, hfi, rfl⟩ := Option.map_eq_some_iff.1 hq
            obtain ⟨x, hxi, rfl⟩ := Option.map_eq_some_iff.1 hd
            obtain ⟨b, hb, hft⟩ := Lib.mapM_at hm i f hfi
            rw [hxi] at hb; cases hb
            simp only [Nat.zero_add]
            exact ih fuel e _ x.1 x.2 v hl.2 hft hv
          · cases ht
end Go.Proofs.YtolheapnopmhgaaGreatDoor
