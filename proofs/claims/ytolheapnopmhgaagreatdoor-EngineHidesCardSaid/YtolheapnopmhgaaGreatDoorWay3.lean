/- Steps of iterators; operations that act, all of them. -/
import Derived.Test.YtolheapnopmhgaaGreatDoorWay2
set_option linter.all false
namespace Go.Proofs.YtolheapnopmhgaaGreatDoor
open Go

theorem Two.mem_r {α β : Type} {R : α → β → Prop} {l : List α} {r : List β} (h : Two R l r) {y : β} (hy : y ∈ r) : ∃ x ∈ l, R x y := by
  induction h with
  | nil => cases hy
  | cons h1 _ ih =>
    rcases List.mem_cons.1 hy with rfl | hy
    · exact ⟨_, List.mem_cons_self, h1⟩
    · obtain ⟨x, hx, hr⟩ := ih hy; exact ⟨x, List.mem_cons_of_mem _ hx, hr⟩
theorem Two.mem_l {α β : Type} {R : α → β → Prop} {l : List α} {r : List β} (h : Two R l r) {x : α} (hx : x ∈ l) : ∃ y ∈ r, R x y := by
  induction h with
  | nil => cases hx
  | cons h1 _ ih =>
    rcases List.mem_cons.1 hx with rfl | hx
    · exact ⟨_, List.mem_cons_self, h1⟩
    · obtain ⟨y, hy, hr⟩ := ih hx; exact ⟨y, List.mem_cons_of_mem _ hy, hr⟩
theorem Two.append {α β : Type} {R : α → β → Prop} {l l' : List α} {r r' : List β} (h : Two R l r) (h' : Two R l' r') : Two R (l ++ l') (r ++ r') := by
  induction h with
  | nil => exact h'
  | cons h1 _ ih => exact .cons h1 ih
theorem two_of_mapO' {α β : Type} {f : α → Option β} : ∀ {l : List α} {r : List β}, mapO' f l = some r → Two (fun x y => f x = some y) l r := by
  intro l
  induction l with
  | nil => intro r h; cases h; exact .nil
  | cons x l ih =>
    intro r h
    simp only [mapO'] at h
    obtain ⟨y, hy, h⟩ := Option.bind_eq_some_iff.1 h
    obtain ⟨s, hs, rfl⟩ := Option.map_eq_some_iff.1 h
    exact .cons hy (ih hs)

section
variable {C : Ctx} {ρ : Sym} {base : Nat} {w0 : World} {ih : Ih}

theorem choose_run (w : World) {n : Nat} (hn : 0 < n) : ∃ i k, i < n ∧ (choose (.mapNext n)).run C.P w = .ok i { w with drawn := k } := by
  by_cases h1 : n ≤ 1
  · exact ⟨0, w.drawn, hn, by simp [choose, Sem.run, Question.forced, h1]⟩
  · exact ⟨w.tape w.drawn (.mapNext n) % n, w.drawn + 1, Nat.mod_lt _ hn, by simp [choose, Sem.run, Question.forced, Question.cut, h1]⟩
theorem next_run {Φ : Env} {h : H} {w : World} (hr : HR C.odd ρ Φ base h w) {v : V} {x' : Value} {k : KV} {ty : TypeId} (hx : den ρ Φ v = some x') (hev : nextV h k v = true) :
    ∃ u y h' w', (Instr.next x' false ty).run C.P w = .ok y w' ∧ den ρ Φ u = some y ∧ HR C.odd ρ Φ base h' w' ∧ Fr base w w' ∧ h.n ≤ h'.n ∧ k u h' = true := by
  unfold nextV at hev
  split at hev
  · rename_i r
    simp only [den, denA, denC, den0] at hx
    obtain ⟨L, hL, rfl⟩ := Option.map_eq_some_iff.1 hx
    unfold nextO at hev
    split at hev
    · rename_i since seen last ho
      obtain ⟨hb, hd0, m', hit, rfl⟩ := hr.obj r L _ hL ho
      have hgi : (getObj L.blk).run C.P w = .ok (.mapIter none since seen.toArray last) w := by simp [getObj, Sem.run, hit]
      have hz : (L.at_ 0) = ⟨L.blk, 0, none⟩ := by unfold Loc.at_; rw [hd0]
      refine ⟨_, .tuple #[.bool false], h, w, ?_, rfl, hr, Fr.refl base w, Nat.le_refl _, hev⟩
      rw [hz]
      simp [Instr.next, hgi, Result.andThen]
    · rename_i m since seen last ho
      obtain ⟨hb, hd0, m', hit, M, hM, rfl⟩ := hr.obj r L _ hL ho
      have hgi : (getObj L.blk).run C.P w = .ok (.mapIter (some M.blk) since seen.toArray last) w := by simp [getObj, Sem.run, hit]
      have hz : (L.at_ 0) = ⟨L.blk, 0, none⟩ := by unfold Loc.at_; rw [hd0]
      unfold nextM at hev
      split at hev
      · rename_i es clock hom
        obtain ⟨hbm, es', hm, h2⟩ := hr.obj m M _ hM hom
        simp only [Bool.and_eq_true] at hev
        obtain ⟨⟨hguard, hover⟩, hall⟩ := hev
        have hse : ∀ b, seen.toArray.contains b = seen.any fun c => Nat.beq c b := fun b => by
          rw [List.contains_toArray, Bool.eq_iff_iff]
          simp only [List.contains_iff_mem, List.any_eq_true, Nat.beq_eq]
          exact ⟨fun hm => ⟨b, hm, rfl⟩, fun ⟨c, hc, e⟩ => e ▸ hc⟩
        have hcond : (!seen.toArray.isEmpty && !es'.isEmpty && es'.all fun e => decide (e.born ≥ last)) = false := by
          rw [Bool.eq_false_iff]
          intro hc
          simp only [Bool.and_eq_true, Bool.not_eq_true', Array.all_eq_true_iff_forall_mem, decide_eq_true_eq] at hc
          obtain ⟨⟨c1, c2⟩, c3⟩ := hc
          have e1 : seen.isEmpty = false := by simpa using c1
          have e2 : es.isEmpty = false := by
            cases es with
            | nil => exact absurd (Array.eq_empty_of_size_eq_zero (by have hl := h2.len; simpa using hl.symm)) (by simpa using c2)
            | cons _ _ => rfl
          have e3 : es.all (fun e => Nat.ble last e.2.2) = true := by
            rw [List.all_eq_true]
            intro e he
            obtain ⟨e', he', hre⟩ := h2.mem_l he
            rw [hre.2.2]
            exact Nat.ble_eq_true_of_le (c3 e' (by simpa using he'))
          rw [e1, e2, e3] at hguard
          cases hguard
        -- what may come
        have hgm : ∀ k, (getObj M.blk).run C.P { w with drawn := k } = .ok (.map es' clock) { w with drawn := k } := fun k => by simp [getObj, Sem.run, hm]
        let left := es'.filter fun e => !seen.toArray.contains e.born
        let old := left.filter fun e => decide (e.born < since)
        let nw := left.filter fun e => decide (e.born ≥ since)
        let cand : Array (Option MapEntry) := (if old.isEmpty then #[none] else #[]) ++ (old ++ nw).map some
        have hpos : 0 < cand.size := by
          show 0 < ((if old.isEmpty then #[none] else #[]) ++ (old ++ nw).map some : Array (Option MapEntry)).size
          by_cases ho2 : old.isEmpty = true
          · rw [if_pos ho2]; simp only [Array.size_append, List.size_toArray, List.length_cons, List.length_nil]; omega
          · rw [if_neg ho2]
            have : 0 < old.size := by
              rw [Array.isEmpty_iff_size_eq_zero] at ho2
              omega
            simp; omega
        obtain ⟨i, kd, hi, hch⟩ := choose_run (C := C) w hpos
        have hrun : ∀ (y : Value) (w' : World), (match cand[i]? with
            | some (some e) => do
              setObj L.blk (.mapIter (some M.blk) since (seen.toArray.push e.born) clock)
              pure (.tuple #[.bool true, e.key, e.val])
            | some none => pure (.tuple #[.bool false])
            | none => stuck "Next: no such candidate" : Sem Value).run C.P { w with drawn := kd } = .ok y w' → (Instr.next (.pointer (some (L.at_ 0))) false ty).run C.P w = .ok y w' := fun y w' hy => by
          have hgm0 : (getObj M.blk).run C.P w = .ok (.map es' clock) w := by simp [getObj, Sem.run, hm]
          rw [hz]
          simp only [Instr.next, Sem.run_bind, hgi, Result.andThen, hgm0]
          simp only [hcond, Bool.false_eq_true, if_false]
          simp only [Sem.run_bind, Sem.run_pure, Result.andThen]
          have hch' := hch
          simp only [cand, old, nw, left] at hch'
          rw [hch']
          exact hy
        have hr1 : HR C.odd ρ Φ base h { w with drawn := kd } := hr.drew kd
        have hcm : cand[i]? = some cand[i] := Array.getElem?_eq_getElem hi
        have hmem : cand[i] ∈ cand := Array.getElem_mem hi
        have hcase : (cand[i] = none ∧ old.isEmpty = true) ∨ ∃ e ∈ left, cand[i] = some e := by
          have hmem' : cand[i] ∈ ((if old.isEmpty then #[none] else #[]) ++ (old ++ nw).map some : Array (Option MapEntry)) := hmem
          rcases Array.mem_append.1 hmem' with hm1 | hm1
          · by_cases ho2 : old.isEmpty = true
            · rw [if_pos ho2] at hm1
              exact .inl ⟨by simpa using hm1, ho2⟩
            · rw [if_neg ho2] at hm1
              simp at hm1
          · obtain ⟨e, he, hee⟩ := Array.mem_map.1 hm1
            refine .inr ⟨e, ?_, hee.symm⟩
            rcases Array.mem_append.1 he with he | he
            · exact (Array.mem_filter.1 he).1
            · exact (Array.mem_filter.1 he).1
        rcases hcase with ⟨hnone, hemp⟩ | ⟨e', he', hsome⟩
        · refine ⟨.tup [.b false], .tuple #[.bool false], h, { w with drawn := kd }, hrun _ _ (by rw [hcm, hnone]; rfl), rfl, hr1, ⟨Nat.le_refl _, fun _ _ => rfl, fun _ => rfl, rfl, rfl⟩, Nat.le_refl _, ?_⟩
          simp only [Bool.or_eq_true] at hover
          rcases hover with hany | hk
          · exfalso
            obtain ⟨e, hem, hlt⟩ := List.any_eq_true.1 hany
            obtain ⟨hem1, hem2⟩ := List.mem_filter.1 hem
            obtain ⟨e', he', hre⟩ := h2.mem_l hem1
            have : e' ∈ old := Array.mem_filter.2 ⟨Array.mem_filter.2 ⟨by simpa using he', by rw [hse, ← hre.2.2]; exact hem2⟩, by
              rw [← hre.2.2]; exact decide_eq_true (Nat.le_of_ble_eq_true hlt)⟩
            rw [Array.isEmpty_iff] at hemp
            rw [hemp] at this
            simp at this
          · exact hk
        · obtain ⟨hin, hns⟩ := Array.mem_filter.1 he'
          obtain ⟨e, he, hre⟩ := h2.mem_r (y := e') (by simpa using hin)
          have hk := List.all_eq_true.1 hall e (List.mem_filter.2 ⟨he, by rw [hse, ← hre.2.2] at hns; exact hns⟩)
          obtain ⟨hn, w', k1, k2, k3⟩ := setObj_run (o' := .iter (some m) since (seen ++ [e.2.2]) clock) (obj := .mapIter (some M.blk) since (seen.toArray.push e'.born) clock) hr1 hL ho rfl hit (fun _ _ _ e => by cases e) hb
            (fun w' hw => ⟨hb, hd0, some M.blk, by rw [hw, hre.2.2]; simp, M, hM, rfl⟩)
          refine ⟨_, .tuple #[.bool true, e'.key, e'.val], _, w', hrun _ _ ?_, ?_, k1, ⟨k2.size, k2.old, k2.frz, k2.os, k2.out⟩, hn, hk⟩
          · rw [hcm, hsome]
            simp only [Sem.run_bind, k3, Result.andThen, Sem.run_pure]
          · have h6 : mapO' (denA ρ Φ) [.b true, e.1, e.2.1] = some [.bool true, e'.key, e'.val] := by
              show ((denA ρ Φ (.b true)).bind fun y => (mapO' (denA ρ Φ) [e.1, e.2.1]).map fun r => y :: r) = _
              have : mapO' (denA ρ Φ) [e.1, e.2.1] = some [e'.key, e'.val] := by
                show ((denA ρ Φ e.1).bind fun y => (mapO' (denA ρ Φ) [e.2.1]).map fun r => y :: r) = _
                rw [hre.1]
                show Option.map _ ((denA ρ Φ e.2.1).bind fun y => some [y]) = _
                rw [hre.2.1]; rfl
              rw [this]; rfl
            show Option.map _ (mapO' (denA ρ Φ) [.b true, e.1, e.2.1]) = _
            rw [h6]; rfl
      · cases hev
    · cases hev
  · cases hev
end
end Go.Proofs.YtolheapnopmhgaaGreatDoor
